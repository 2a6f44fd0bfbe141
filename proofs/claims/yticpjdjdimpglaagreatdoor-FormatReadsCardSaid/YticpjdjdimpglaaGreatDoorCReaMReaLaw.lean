/- FormatReads: the walk of the law. -/
import Derived.Test.YticpjdjdimpglaaGreatDoorCReaMSan
import Derived.Test.YticpjdjdimpglaaGreatDoorCReaMYWhole
import Derived.Test.YticpjdjdimpglaaGreatDoorCReaMRLen
namespace Go.Proofs.YticpjdjdimpglaaGreatDoor
set_option linter.unusedVariables false
set_option linter.unusedSimpArgs false
open Go.RowKit
theorem name_bd {l : List UInt8} (hl : l.length ≤ 30000) {s : List UInt8} (h : ∃ t ∈ (lex l).1, t.text = s) : s.length ≤ 1000000 := by
  obtain ⟨t, ht, rfl⟩ := h
  have := (tok_ok hl).text t ht
  omega
theorem rsameR_same (S S' : Nat → Prop) (x : RT) (A : Option Addr) (m d : Nat) (C : Option Addr) (i j : Nat) (A' : Option Addr) (m' d' : Nat) (C' : Option Addr) (i' j' : Nat) (w : World)
    (h1 : RepT S w x.order A m d) (h2 : RepZ S w x.zones C i j) (h3 : RepT S' w x.order A' m' d') (h4 : RepZ S' w x.zones C' i' j') :
    Calls Tryz.prog 18 #[.agg #[.string (bs x.name), .int .i64 x.win, .int .i64 x.draw, .int .i64 x.loss, .slice A m d, .slice C i j], .agg #[.string (bs x.name), .int .i64 x.win, .int .i64 x.draw, .int .i64 x.loss, .slice A' m' d', .slice C' i' j']] w fun e w' => e = .returned (.bool true) ∧ Below w.heap.size w w' :=
  (rsameR_any S S' x x A m d C i j A' m' d' C' i' j' w h1 h2 h3 h4).mono fun e w' ⟨h1, h2⟩ => ⟨h1.trans (congrArg (fun b => Ending.returned (.bool b)) (sameR_iff.2 rfl)), h2⟩
theorem fsameR_same (S S' : Nat → Prop) (x : RT) (A : Option Addr) (m d : Nat) (C : Option Addr) (i j : Nat) (A' : Option Addr) (m' d' : Nat) (C' : Option Addr) (i' j' : Nat) (w : World)
    (h1 : RepT S w x.order A m d) (h2 : RepZ S w x.zones C i j) (h3 : RepT S' w x.order A' m' d') (h4 : RepZ S' w x.zones C' i' j') :
    Calls Tryz.prog 17 #[.agg #[.string (bs x.name), .int .i64 x.win, .int .i64 x.draw, .int .i64 x.loss, .slice A m d, .slice C i j], .agg #[.string (bs x.name), .int .i64 x.win, .int .i64 x.draw, .int .i64 x.loss, .slice A' m' d', .slice C' i' j']] w fun e w' => e = .returned (.bool true) ∧ Below w.heap.size w w' :=
  (fsame_any S S' x x A m d C i j A' m' d' C' i' j' w h1 h2 h3 h4).mono fun e w' ⟨h1, h2⟩ => ⟨h1.trans (congrArg (fun b => Ending.returned (.bool b)) (sameR_iff.2 rfl)), h2⟩
theorem RV.n0 {w w' : World} {r : RT} {v : Value} (h : RV w r w' v) : ∃ A m c A' m' c', v = .agg #[.string (bs r.name), .int .i64 r.win, .int .i64 r.draw, .int .i64 r.loss, .slice A m c, .slice A' m' c'] ∧ RepT N0 w' r.order A m c ∧ RepZ N0 w' r.zones A' m' c' := by
  obtain ⟨A, m, c, A', m', c', e, h1, h2⟩ := h
  exact ⟨A, m, c, A', m', c', e, h1.sub (fun _ h => h.elim), h2.sub (fun _ h => h.elim)⟩
set_option maxHeartbeats 8000000 in
set_option maxRecDepth 100000 in
theorem rea_walk (A : Option Addr) (n c : Nat) (l : List UInt8) (w : World) (h : Rd w w.heap.size 1 A n c (l.map vb)) (hG : FG w) (hcp : 0 < w.heap.size) (hY : Gb w.heap.size w) :
    Calls Tryz.prog 9 #[.slice A n c] w fun e w' => e = .returned (.bool true) ∧ Below w.heap.size w w' := by
  have hlen := h.blen
  subst hlen
  have HH := Lib.hid h
  have HG := Lib.hid hG
  have HY := Lib.hid hY
  have hcap := h.cap
  have hbig := h.big
  clear h hG hY
  go_enter Tryz.func9, Tryz.ntmps9
  go_wp2_with (fail)
  refine (sane15_any w HG.out hcp).mono ?_
  rintro e w1 ⟨rfl, hb⟩
  have HB1 := Lib.hid hb
  clear hb
  by_cases hn : l.length ≤ 2000
  · have hn2 : ¬ (2000 : Int) < (l.length : Int) := by omega
    go_wp2_with (fail)
    refine (ytopRules_any A l.length c l w1 ((HH.out.below HB1.out).more HB1.out.size) (by omega) ((HY.out.below HB1.out).more HB1.out.size)).mono ?_
    obtain ⟨⟨r, ra, re⟩, hr⟩ : ∃ q, q = topRules l := ⟨_, rfl⟩
    rw [← hr]
    have HTR := Lib.hid hr
    clear hr
    rintro e w2 ⟨hb, v, rfl, hv⟩
    obtain ⟨A1, m1, c1, A2, m2, c2, rfl, hr1, hr2⟩ := hv.n0
    have HB2 := Lib.hid (HB1.out.trans (hb.mono HB1.out.size))
    have HR1 := Lib.hid hr1
    have HR2 := Lib.hid hr2
    clear hb hv hr1 hr2 HB1
    by_cases he : re = 0
    · subst he
      have HTR2 := Lib.hid (show topRules l = (r, ra, 0) from HTR.out.symm)
      have HBD := Lib.hid (parsed_bd HTR2.out)
      have HLX := Lib.hid (show (lex l).1.length ≤ 65537 from (tok_ok (l := l) (by omega)).len)
      have HN1 := Lib.hid (name_bd (l := l) (by omega) HBD.out.2.1)
      have HN2 := Lib.hid (show ∀ z ∈ r.zones, z.name.length ≤ 1000000 from fun z hz => name_bd (l := l) (by omega) (HBD.out.2.2 z hz))
      have HOZ := Lib.hid (show r.order.sz ≤ 1000000 by have := HBD.out.1; have := HLX.out; omega)
      clear HTR
      go_wp2_with (fail)
      first | (refine calls_named ?_; intro W3 hW) | (refine body_named ?_; intro W3 hW) | (refine wpList_named ?_; intro W3 hW) | (refine wp_named ?_; intro W3 hW)
      have hb3 : Below w2.heap.size w2 W3 := by rw [← hW]; exact (Below.refl _ _).alloc (Nat.le_refl _) _
      have hx3 : Blk W3 w2.heap.size 28 #[.string (bs r.name), .int .i64 r.win, .int .i64 r.draw, .int .i64 r.loss, .slice A1 m1 c1, .slice A2 m2 c2] := by rw [← hW]; exact Blk.new _ _ _
      clear hW
      have HB3 := Lib.hid (HB2.out.trans (hb3.mono HB2.out.size))
      have HX3 := Lib.hid hx3
      have HR13 := Lib.hid (HR1.out.below hb3)
      have HR23 := Lib.hid (HR2.out.below hb3)
      clear hb3 hx3 HB2 HR1 HR2
      generalize w2.heap.size = rb at HX3 ⊢
      refine (trules_any N0 N0 r A1 m1 c1 A2 m2 c2 W3 HR13.out HR23.out HOZ.out HN1.out HN2.out).mono ?_
      rintro e w4 ⟨rfl, hb⟩
      have HB4 := Lib.hid (HB3.out.trans (hb.mono HB3.out.size))
      have HX4 := Lib.hid (HX3.out.below hb HX3.out.lt)
      have HR14 := Lib.hid (HR13.out.below hb)
      have HR24 := Lib.hid (HR23.out.below hb)
      clear hb HB3 HX3 HR13 HR23
      by_cases ht : trules r = 0
      · obtain ⟨s, hs1, hs2⟩ := law_reads HTR2.out ht
        have HS1 := Lib.hid hs1
        have HS2 := Lib.hid hs2
        have HSL := Lib.hid (frules_len hs1)
        rw [ht]
        clear ht hs1 hs2
        have x0 := HX4.out.cell 0
        have x1 := HX4.out.cell 1
        have x2 := HX4.out.cell 2
        have x3 := HX4.out.cell 3
        have x4 := HX4.out.cell 4
        have x5 := HX4.out.cell 5
        have xl := HX4.out.lt
        go_wp2_with (fail)
        refine (frules_any N0 N0 r A1 m1 c1 A2 m2 c2 w4 HR14.out HR24.out HOZ.out HN1.out HN2.out (HG.out.below HB4.out) (Nat.lt_of_lt_of_le hcp HB4.out.size)).mono ?_
        unfold FRP
        rw [HS1.out]
        rintro e w5 ⟨A5, n5, c5, rfl, hrd, hb⟩
        have HB5 := Lib.hid (HB4.out.trans (hb.mono HB4.out.size))
        have HX5 := Lib.hid (HX4.out.below hb HX4.out.lt)
        have HR15 := Lib.hid (HR14.out.below hb)
        have HR25 := Lib.hid (HR24.out.below hb)
        have HRD := Lib.hid hrd
        have HN5 := Lib.hid (show n5 = s.length from hrd.blen.symm)
        clear hb hrd HB4 HX4 HR14 HR24 x0 x1 x2 x3 x4 x5 xl
        go_wp2_with (fail)
        refine (ytopRules_any A5 n5 c5 s w5 HRD.out (by rw [HN5.out]; exact HSL.out) ((HY.out.below HB5.out).more HB5.out.size)).mono ?_
        rw [HS2.out]
        rintro e w6 ⟨hb, v, rfl, hv⟩
        obtain ⟨A3, m3, c3, A4, m4, c4, rfl, hr1, hr2⟩ := hv.n0
        have HB6 := Lib.hid (HB5.out.trans (hb.mono HB5.out.size))
        have HX6 := Lib.hid (HX5.out.below hb HX5.out.lt)
        have HR16 := Lib.hid (HR15.out.below hb)
        have HR26 := Lib.hid (HR25.out.below hb)
        have HQ1 := Lib.hid hr1
        have HQ2 := Lib.hid hr2
        clear hb hv hr1 hr2 HB5 HX5 HR15 HR25 HRD
        have x0 := HX6.out.cell 0
        have x1 := HX6.out.cell 1
        have x2 := HX6.out.cell 2
        have x3 := HX6.out.cell 3
        have x4 := HX6.out.cell 4
        have x5 := HX6.out.cell 5
        have xl := HX6.out.lt
        go_wp2_with (fail)
        first | (refine calls_named ?_; intro W7 hW) | (refine body_named ?_; intro W7 hW) | (refine wpList_named ?_; intro W7 hW) | (refine wp_named ?_; intro W7 hW)
        have hb7 : Below w6.heap.size w6 W7 := by rw [← hW]; exact (Below.refl _ _).alloc (Nat.le_refl _) _
        have hy7 : Blk W7 w6.heap.size 28 #[.string (bs r.name), .int .i64 r.win, .int .i64 r.draw, .int .i64 r.loss, .slice A3 m3 c3, .slice A4 m4 c4] := by rw [← hW]; exact Blk.new _ _ _
        clear hW x0 x1 x2 x3 x4 x5 xl
        have HB7 := Lib.hid (HB6.out.trans (hb7.mono HB6.out.size))
        have HX7 := Lib.hid (HX6.out.below hb7 HX6.out.lt)
        have HY7 := Lib.hid hy7
        have HR17 := Lib.hid (HR16.out.below hb7)
        have HR27 := Lib.hid (HR26.out.below hb7)
        have HQ17 := Lib.hid (HQ1.out.below hb7)
        have HQ27 := Lib.hid (HQ2.out.below hb7)
        clear hb7 hy7 HB6 HX6 HR16 HR26 HQ1 HQ2
        generalize w6.heap.size = qb at HY7 ⊢
        refine (rsameR_same N0 N0 r A3 m3 c3 A4 m4 c4 A1 m1 c1 A2 m2 c2 W7 HQ17.out HQ27.out HR17.out HR27.out).mono ?_
        rintro e w8 ⟨rfl, hb⟩
        have HB8 := Lib.hid (HB7.out.trans (hb.mono HB7.out.size))
        have HX8 := Lib.hid (HX7.out.below hb HX7.out.lt)
        have HY8 := Lib.hid (HY7.out.below hb HY7.out.lt)
        have HR18 := Lib.hid (HR17.out.below hb)
        have HR28 := Lib.hid (HR27.out.below hb)
        have HQ18 := Lib.hid (HQ17.out.below hb)
        have HQ28 := Lib.hid (HQ27.out.below hb)
        clear hb HB7 HX7 HY7 HR17 HR27 HQ17 HQ27
        have x0 := HX8.out.cell 0
        have x1 := HX8.out.cell 1
        have x2 := HX8.out.cell 2
        have x3 := HX8.out.cell 3
        have x4 := HX8.out.cell 4
        have x5 := HX8.out.cell 5
        have xl := HX8.out.lt
        have y0 := HY8.out.cell 0
        have y1 := HY8.out.cell 1
        have y2 := HY8.out.cell 2
        have y3 := HY8.out.cell 3
        have y4 := HY8.out.cell 4
        have y5 := HY8.out.cell 5
        have yl := HY8.out.lt
        go_wp2_with (fail)
        refine (fsameR_same N0 N0 r A3 m3 c3 A4 m4 c4 A1 m1 c1 A2 m2 c2 w8 HQ18.out HQ28.out HR18.out HR28.out).mono ?_
        rintro e w9 ⟨rfl, hb⟩
        have HB9 := Lib.hid (HB8.out.trans (hb.mono HB8.out.size))
        clear hb x0 x1 x2 x3 x4 x5 xl y0 y1 y2 y3 y4 y5 yl
        go_wp2_with (fail)
        go_ret
        exact ⟨rfl, HB9.out⟩
      · have htb : (trules r != 0) = true := bne_iff_ne.2 ht
        generalize trules r = tr at htb ⊢
        clear ht
        go_wp2_with (fail)
        go_ret
        exact ⟨rfl, HB4.out⟩
    · have heb : (re != 0) = true := bne_iff_ne.2 he
      clear he
      go_wp2_with (fail)
      first | (refine calls_named ?_; intro W3 hW) | (refine body_named ?_; intro W3 hW) | (refine wpList_named ?_; intro W3 hW) | (refine wp_named ?_; intro W3 hW)
      have hb3 : Below w2.heap.size w2 W3 := by rw [← hW]; exact (Below.refl _ _).alloc (Nat.le_refl _) _
      clear hW
      go_ret
      exact ⟨rfl, HB2.out.trans (hb3.mono HB2.out.size)⟩
  · have hn2 : (2000 : Int) < (l.length : Int) := by omega
    go_wp2_with (fail)
    go_ret
    exact ⟨rfl, HB1.out⟩
end Go.Proofs.YticpjdjdimpglaaGreatDoor

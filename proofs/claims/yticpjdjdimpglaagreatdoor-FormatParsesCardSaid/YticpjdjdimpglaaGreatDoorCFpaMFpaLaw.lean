/- FormatParses: the walk of the law. -/
import Derived.Test.YticpjdjdimpglaaGreatDoorCFpaMSan
import Derived.Test.YticpjdjdimpglaaGreatDoorCFpaMYWhole
import Derived.Test.YticpjdjdimpglaaGreatDoorCFpaMRLen
import Derived.Test.YticpjdjdimpglaaGreatDoorCFpaMCoS
import Derived.Test.YticpjdjdimpglaaGreatDoorCFpaMFew
namespace Go.Proofs.YticpjdjdimpglaaGreatDoor
set_option linter.unusedVariables false
set_option linter.unusedSimpArgs false
open Go.RowKit
theorem RV.n1 {w w' : World} {r : RT} {v : Value} (h : RV w r w' v) : ∃ A m c A' m' c', v = .agg #[.string (bs r.name), .int .i64 r.win, .int .i64 r.draw, .int .i64 r.loss, .slice A m c, .slice A' m' c'] ∧ RepT N0 w' r.order A m c ∧ RepZ N0 w' r.zones A' m' c' := by
  obtain ⟨A, m, c, A', m', c', e, h1, h2⟩ := h
  exact ⟨A, m, c, A', m', c', e, h1.sub (fun _ h => h.elim), h2.sub (fun _ h => h.elim)⟩
theorem rsameR_eq (S S' : Nat → Prop) (x y : RT) (hxy : x = y) (A : Option Addr) (m d : Nat) (C : Option Addr) (i j : Nat) (A' : Option Addr) (m' d' : Nat) (C' : Option Addr) (i' j' : Nat) (w : World)
    (h1 : RepT S w x.order A m d) (h2 : RepZ S w x.zones C i j) (h3 : RepT S' w y.order A' m' d') (h4 : RepZ S' w y.zones C' i' j') :
    Calls Tryz.prog 18 #[.agg #[.string (bs x.name), .int .i64 x.win, .int .i64 x.draw, .int .i64 x.loss, .slice A m d, .slice C i j], .agg #[.string (bs y.name), .int .i64 y.win, .int .i64 y.draw, .int .i64 y.loss, .slice A' m' d', .slice C' i' j']] w fun e w' => e = .returned (.bool true) ∧ Below w.heap.size w w' :=
  (rsameR_any S S' x y A m d C i j A' m' d' C' i' j' w h1 h2 h3 h4).mono fun e w' ⟨h1, h2⟩ => ⟨h1.trans (congrArg (fun b => Ending.returned (.bool b)) (sameR_iff.2 hxy)), h2⟩
mutual
theorem corF_cnt : ∀ F : CF, (corF F).cnt ≤ F.cnt
  | .nil => by rw [corF]; exact Nat.le_refl _
  | .cons k v n ps r => by
    have h1 := cor1_cnt ps k v n
    have h2 := corF_cnt r
    rw [corF]
    show (cor1 ps k v n).ps.cnt + 1 + (corF r).cnt ≤ ps.cnt + 1 + r.cnt
    omega
theorem cor1_cnt : ∀ (ps : CF) (k v n : Int), (cor1 ps k v n).ps.cnt ≤ ps.cnt
  | .nil, k, v, n => by rw [cor1]; exact Nat.le_refl _
  | .cons k' v' n' ps' r', k, v, n => by
    have h1 := cor1_cnt ps' k' v' n'
    have h2 := corF_cnt r'
    rw [cor1]
    by_cases h : (k = 2 ∨ k = 3) ∧ r' = .nil
    · rw [if_pos h]; show _ ≤ ps'.cnt + 1 + r'.cnt; omega
    · rw [if_neg h]; show (cor1 ps' k' v' n').ps.cnt + 1 + (corF r').cnt ≤ ps'.cnt + 1 + r'.cnt; omega
end
theorem cores_cnt (c : CT) : (cores c).ps.cnt ≤ c.ps.cnt := cor1_cnt c.ps c.k c.v c.n
theorem coreS_sz : ∀ l : SF, (coreS l).sz ≤ l.sz
  | .nil => by rw [coreS]; exact Nat.le_refl _
  | .cons k b ck cv cn cps th el r => by
    have h1 := coreS_sz th
    have h2 := coreS_sz el
    have h3 := coreS_sz r
    have h4 := cores_cnt ⟨ck, cv, cn, cps⟩
    rw [coreS]
    by_cases hk : k = 2
    · rw [if_pos hk, SF.one, SF.sz, SF.sz]
      dsimp only at h4
      omega
    · rw [if_neg hk, SF.sz, SF.sz]
      omega
set_option maxHeartbeats 8000000 in
set_option maxRecDepth 100000 in
theorem fpa_walk (r : RT) (A1 : Option Addr) (m1 c1 : Nat) (A2 : Option Addr) (m2 c2 : Nat) (w : World) (h1 : RepT N0 w r.order A1 m1 c1) (h2 : RepZ N0 w r.zones A2 m2 c2) (hG : FG w) (hcp : 0 < w.heap.size) (hY : Gb w.heap.size w) :
    Calls Tryz.prog 8 #[.agg #[.string (bs r.name), .int .i64 r.win, .int .i64 r.draw, .int .i64 r.loss, .slice A1 m1 c1, .slice A2 m2 c2]] w fun e w' => e = .returned (.bool true) ∧ Below w.heap.size w w' := by
  have HR1 := Lib.hid h1
  have HR2 := Lib.hid h2
  have HG := Lib.hid hG
  have HY := Lib.hid hY
  have hq1 := h1.choose_spec.1.cap
  have hq2 := h1.choose_spec.1.big
  have hq3 := h2.1.cap
  have hq4 := h2.1.big
  clear h1 h2 hG hY
  go_enter Tryz.func8, Tryz.ntmps8
  go_wp2_with (fail)
  first | (refine calls_named ?_; intro W hW) | (refine body_named ?_; intro W hW) | (refine wpList_named ?_; intro W hW) | (refine wp_named ?_; intro W hW)
  have hb : Below w.heap.size w W := by rw [← hW]; exact (Below.refl _ _).alloc (Nat.le_refl _) _
  have hx : Blk W w.heap.size 28 #[.string (bs r.name), .int .i64 r.win, .int .i64 r.draw, .int .i64 r.loss, .slice A1 m1 c1, .slice A2 m2 c2] := by rw [← hW]; exact Blk.new w _ _
  clear hW
  have HB := Lib.hid hb
  have HX := Lib.hid hx
  clear hb hx
  refine (sane15_any W (HG.out.below HB.out) (Nat.lt_of_lt_of_le hcp HB.out.size)).mono ?_
  rintro e w1 ⟨rfl, hb⟩
  have HB1 := Lib.hid (HB.out.trans (hb.mono HB.out.size))
  have HX1 := Lib.hid (HX.out.below hb HX.out.lt)
  clear hb HX HB
  have x0 := HX1.out.cell 0
  have x1 := HX1.out.cell 1
  have x2 := HX1.out.cell 2
  have x3 := HX1.out.cell 3
  have x4 := HX1.out.cell 4
  have x5 := HX1.out.cell 5
  have xl := HX1.out.lt
  go_wp2_with (fail)
  refine (fewrules_any N0 N0 r A1 m1 c1 A2 m2 c2 w1 (HR1.out.below HB1.out) (HR2.out.below HB1.out)).mono ?_
  rintro e w2 ⟨hb, b, rfl, hf⟩
  have HB2 := Lib.hid (HB1.out.trans (hb.mono HB1.out.size))
  have HX2 := Lib.hid (HX1.out.below hb HX1.out.lt)
  clear hb HX1 HB1 x0 x1 x2 x3 x4 x5 xl
  cases b with
  | false =>
    go_wp2_with (fail)
    go_ret
    exact ⟨rfl, HB2.out⟩
  | true =>
    have HF := Lib.hid (hf rfl)
    have HOZ := Lib.hid (show r.order.sz ≤ 1000000 by have := HF.out.2.2.1.1; omega)
    have HN1 := Lib.hid (show r.name.length ≤ 1000000 by have := HF.out.1; omega)
    have HN2 := Lib.hid (show ∀ z ∈ r.zones, z.name.length ≤ 1000000 from fun z hz => by have := HF.out.2.2.2 z hz; omega)
    clear hf
    have x0 := HX2.out.cell 0
    have x1 := HX2.out.cell 1
    have x2 := HX2.out.cell 2
    have x3 := HX2.out.cell 3
    have x4 := HX2.out.cell 4
    have x5 := HX2.out.cell 5
    have xl := HX2.out.lt
    go_wp2_with (fail)
    refine (frules_any N0 N0 r A1 m1 c1 A2 m2 c2 w2 (HR1.out.below HB2.out) (HR2.out.below HB2.out) HOZ.out HN1.out HN2.out (HG.out.below HB2.out) (Nat.lt_of_lt_of_le hcp HB2.out.size)).mono ?_
    unfold FRP
    obtain ⟨⟨s, z⟩, hyz⟩ : ∃ q, q = frules r := ⟨_, rfl⟩
    have HT := Lib.hid hyz
    rw [← hyz]
    clear hyz
    rintro e w3 ⟨A3, n3, c3, rfl, hrd, hb⟩
    have HB3 := Lib.hid (HB2.out.trans (hb.mono HB2.out.size))
    have HX3 := Lib.hid (HX2.out.below hb HX2.out.lt)
    have HRD3 := Lib.hid hrd
    have HN3 := Lib.hid (show n3 = s.length from hrd.blen.symm)
    have hs1 := hrd.cap
    have hs2 := hrd.big
    clear hb hrd HX2 HB2 x0 x1 x2 x3 x4 x5 xl
    by_cases hz : z = 0
    case neg =>
      have HNO := Lib.hid (law_parses_no (r := r) (by rw [← HT.out]; exact hz))
      have hs0 : s = [] := by have h := HNO.out; rw [← HT.out] at h; exact h
      have hn0 : n3 = 0 := by rw [HN3.out, hs0]; rfl
      subst hn0
      have hzb : (z != 0) = true := bne_iff_ne.2 hz
      clear hz hs0
      go_wp2_with (fail)
      go_ret
      exact ⟨rfl, HB3.out⟩
    subst hz
    have HL := Lib.hid (law_parses HT.out.symm)
    have HSL := Lib.hid (frules_len HT.out.symm)
    obtain ⟨q, hq⟩ : ∃ q : RT, q = ⟨r.name, r.win, r.draw, r.loss, coreS r.order, r.zones⟩ := ⟨_, rfl⟩
    have HQ := Lib.hid hq
    have HQZ := Lib.hid (show q.order.sz ≤ 1000000 by rw [hq]; have := coreS_sz r.order; have := HOZ.out; dsimp only; omega)
    have HQN := Lib.hid (show q.name.length ≤ 1000000 by rw [hq]; exact HN1.out)
    have HQN2 := Lib.hid (show ∀ z ∈ q.zones, z.name.length ≤ 1000000 by rw [hq]; exact HN2.out)
    rw [← hq] at HL
    clear hq
    go_wp2_with (fail)
    refine (ytopRules_any A3 n3 c3 s w3 HRD3.out (by rw [HN3.out]; exact HSL.out) ((HY.out.below HB3.out).more HB3.out.size)).mono ?_
    rw [HL.out.1]
    rintro e w4 ⟨hb, v, rfl, hv⟩
    obtain ⟨A4, m4, c4, A5, m5, c5, rfl, hr4, hr5⟩ := hv.n1
    have HB4 := Lib.hid (HB3.out.trans (hb.mono HB3.out.size))
    have HX4 := Lib.hid (HX3.out.below hb HX3.out.lt)
    have HRD4 := Lib.hid ((HRD3.out.below hb).more hb.size)
    have HQ1 := Lib.hid hr4
    have HQ2 := Lib.hid hr5
    clear hb hv hr4 hr5 HX3 HRD3 HB3
    have x0 := HX4.out.cell 0
    have x1 := HX4.out.cell 1
    have x2 := HX4.out.cell 2
    have x3 := HX4.out.cell 3
    have x4 := HX4.out.cell 4
    have x5 := HX4.out.cell 5
    have xl := HX4.out.lt
    go_wp2_with (fail)
    first | (refine calls_named ?_; intro W5 hW) | (refine body_named ?_; intro W5 hW) | (refine wpList_named ?_; intro W5 hW) | (refine wp_named ?_; intro W5 hW)
    have hb5 : Below w4.heap.size w4 W5 := by rw [← hW]; exact ((Below.refl _ _).alloc (Nat.le_refl _) _).alloc (by simp) _
    have hy5 : Blk W5 w4.heap.size 28 #[.string (bs q.name), .int .i64 q.win, .int .i64 q.draw, .int .i64 q.loss, .slice A4 m4 c4, .slice A5 m5 c5] := by rw [← hW]; exact (Blk.new w4 _ _).alloc _
    have hz5 : Blk W5 (w4.heap.size + 1) 28 #[.string (bs r.name), .int .i64 r.win, .int .i64 r.draw, .int .i64 r.loss, .slice A1 m1 c1, .slice A2 m2 c2] := by rw [← hW, ← World.size_alloc w4]; exact Blk.new _ _ _
    clear hW x0 x1 x2 x3 x4 x5 xl
    have HB5 := Lib.hid (HB4.out.trans (hb5.mono HB4.out.size))
    have HB45 := Lib.hid hb5
    have HY5 := Lib.hid hy5
    have HZ5 := Lib.hid hz5
    have HXL := Lib.hid (show w.heap.size < w4.heap.size from HX4.out.lt)
    clear hb5 hy5 hz5 HX4
    generalize hqb : w4.heap.size = qb at HY5 HZ5 HXL ⊢
    have HQB := Lib.hid hqb
    clear hqb
    refine (css_all (r.order.sz + 1) (fun k => k = qb + 1) r.order A1 m1 c1 W5 (Nat.lt_succ_self _) (by have := HF.out.2.2.1.1; omega) (fun k h => by rw [h]; exact HZ5.out.lt) ((HR1.out.new.below HB5.out).sub fun k h => .inr (by have h1 : k = qb + 1 := h; have h2 := HXL.out; have h3 := HQB.out; omega))).mono ?_
    rintro e w6 ⟨hb, A6, m6, c6, rfl, hr6⟩
    have HB6 := Lib.hid (HB5.out.trans (hb.mono HB5.out.size))
    have HB46 := Lib.hid (HB45.out.trans (hb.mono HB45.out.size))
    have HY6 := Lib.hid (HY5.out.below hb HY5.out.lt)
    have HZ6 := Lib.hid (HZ5.out.below hb HZ5.out.lt)
    have HR6 := Lib.hid hr6
    clear hb hr6 HY5 HZ5 HB5
    have z0 := HZ6.out.cell 0
    have z1 := HZ6.out.cell 1
    have z2 := HZ6.out.cell 2
    have z3 := HZ6.out.cell 3
    have z4 := HZ6.out.cell 4
    have z5 := HZ6.out.cell 5
    have zf := HZ6.out.frozen 4
    have zl := HZ6.out.lt
    have y0 := HY6.out.cell 0
    have y1 := HY6.out.cell 1
    have y2 := HY6.out.cell 2
    have y3 := HY6.out.cell 3
    have y4 := HY6.out.cell 4
    have y5 := HY6.out.cell 5
    have yl := HY6.out.lt
    go_wp2_with (fail)
    first | (refine calls_named ?_; intro W7 hW) | (refine body_named ?_; intro W7 hW) | (refine wpList_named ?_; intro W7 hW) | (refine wp_named ?_; intro W7 hW)
    have hO7 : Only (· = qb + 1) w6 W7 := by rw [← hW]; exact Only.set (S := (· = qb + 1)) w6 (p := ⟨qb + 1, 4, none⟩) rfl _
    have hz7 : Blk W7 (qb + 1) 28 #[.string (bs r.name), .int .i64 r.win, .int .i64 r.draw, .int .i64 r.loss, .slice A6 m6 c6, .slice A2 m2 c2] := by rw [← hW]; exact HZ6.out.set 4 (.slice A6 m6 c6)
    clear hW z0 z1 z2 z3 z4 z5 zf zl y0 y1 y2 y3 y4 y5 yl
    have hb47 : Below w4.heap.size w4 W7 := hO7.below HB46.out HB46.out.size (fun k hk => by have h1 : k = qb + 1 := hk; have h2 := HQB.out; omega)
    have HB7 := Lib.hid (HB4.out.trans (hb47.mono HB4.out.size))
    have HRD7 := Lib.hid ((HRD4.out.below hb47).more hb47.size)
    have HQ17 := Lib.hid (HQ1.out.below hb47)
    have HQ27 := Lib.hid (HQ2.out.below hb47)
    have HR7 := Lib.hid (HR6.out.only hO7 (fun _ h => h))
    have HZZ7 := Lib.hid (HR2.out.below HB7.out)
    have HY7 := Lib.hid (HY6.out.only hO7 (fun he => by have h1 : qb = qb + 1 := he; omega))
    have HZ7 := Lib.hid hz7
    clear hO7 hz7 hb47 HB6 HB46 HB45 HRD4 HQ1 HQ2 HR6 HY6 HZ6 HQB
    have HT1 := Lib.hid (HR7.out.sub (S' := N0) (fun _ h => h.elim))
    refine (rsameR_eq N0 N0 q ⟨r.name, r.win, r.draw, r.loss, coreS r.order, r.zones⟩ HQ.out A4 m4 c4 A5 m5 c5 A6 m6 c6 A2 m2 c2 W7 HQ17.out HQ27.out HT1.out HZZ7.out).mono ?_
    rintro e w8 ⟨rfl, hb⟩
    have HB8 := Lib.hid (HB7.out.trans (hb.mono HB7.out.size))
    have HRD8 := Lib.hid ((HRD7.out.below hb).more hb.size)
    have HQ18 := Lib.hid (HQ17.out.below hb)
    have HQ28 := Lib.hid (HQ27.out.below hb)
    have HY8 := Lib.hid (HY7.out.below hb HY7.out.lt)
    clear hb HB7 HRD7 HQ17 HQ27 HR7 HZZ7 HY7 HZ7 HT1
    have y0 := HY8.out.cell 0
    have y1 := HY8.out.cell 1
    have y2 := HY8.out.cell 2
    have y3 := HY8.out.cell 3
    have y4 := HY8.out.cell 4
    have y5 := HY8.out.cell 5
    have yl := HY8.out.lt
    go_wp2_with (fail)
    refine (trules_any N0 N0 q A4 m4 c4 A5 m5 c5 w8 HQ18.out HQ28.out HQZ.out HQN.out HQN2.out).mono ?_
    rw [HL.out.2.1]
    rintro e w9 ⟨rfl, hb⟩
    have HB9 := Lib.hid (HB8.out.trans (hb.mono HB8.out.size))
    have HRD9 := Lib.hid ((HRD8.out.below hb).more hb.size)
    have HQ19 := Lib.hid (HQ18.out.below hb)
    have HQ29 := Lib.hid (HQ28.out.below hb)
    have HY9 := Lib.hid (HY8.out.below hb HY8.out.lt)
    clear hb HB8 HRD8 HQ18 HQ28 HY8 y0 y1 y2 y3 y4 y5 yl
    have y0 := HY9.out.cell 0
    have y1 := HY9.out.cell 1
    have y2 := HY9.out.cell 2
    have y3 := HY9.out.cell 3
    have y4 := HY9.out.cell 4
    have y5 := HY9.out.cell 5
    have yl := HY9.out.lt
    go_wp2_with (fail)
    refine (frules_any N0 N0 q A4 m4 c4 A5 m5 c5 w9 HQ19.out HQ29.out HQZ.out HQN.out HQN2.out (HG.out.below HB9.out) (Nat.lt_of_lt_of_le hcp HB9.out.size)).mono ?_
    unfold FRP
    rw [HL.out.2.2]
    rintro e w10 ⟨A7, n7, c7, rfl, hrd, hb⟩
    have HB10 := Lib.hid (HB9.out.trans (hb.mono HB9.out.size))
    have hk1 := (HRD9.out.below hb).conv (P := Tryz.prog) (src := 35) (dst := 9) (e := 5) Tryz.underlying35 Tryz.underlying5 Tryz.underlying9 c3
    have hk2 := hrd.conv (P := Tryz.prog) (src := 35) (dst := 9) (e := 5) Tryz.underlying35 Tryz.underlying5 Tryz.underlying9 c7
    clear hb hrd y0 y1 y2 y3 y4 y5 yl
    go_wp2_with (fail)
    go_ret
    exact ⟨rfl, HB10.out⟩
end Go.Proofs.YticpjdjdimpglaaGreatDoor

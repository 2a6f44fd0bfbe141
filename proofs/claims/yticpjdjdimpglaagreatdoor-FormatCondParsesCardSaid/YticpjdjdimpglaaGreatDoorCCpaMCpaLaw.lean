/- FormatCondParses: the walk of the law. -/
import Derived.Test.YticpjdjdimpglaaGreatDoorCCpaMSan
import Derived.Test.YticpjdjdimpglaaGreatDoorCCpaMYWhole
import Derived.Test.YticpjdjdimpglaaGreatDoorCCpaMCor
import Derived.Test.YticpjdjdimpglaaGreatDoorCCpaMCnS
import Derived.Lib.ConvBytes
namespace Go.Proofs.YticpjdjdimpglaaGreatDoor
set_option linter.unusedVariables false
set_option linter.unusedSimpArgs false
open Go.RowKit
section
variable {ops : Array Oper} {rest : List Oper} {o : Oper} {a : Act} {Q : Exit → Act → World → Prop} {w : World}
theorem at_convB {t u : TypeId} {x : Operand} (ho : o.op = Op.convert t u x) (h : wpList Tryz.prog ops Q (o :: rest) a w) : wpList Tryz.prog ops Q (o :: rest) a w := h
/-- A string as bytes. -/
theorem wpList_convB {x : Operand} (l : List UInt8) (hgd : o.guard = none) (ho : o.op = Op.convert 9 35 x)
    (hx : a.eval x = .string (bs l)) (hl : l.length ≤ 1000000)
    (h : ∀ W' b c, Below w.heap.size w W' → Rd W' W'.heap.size 1 (some ⟨b, 0, none⟩) l.length c (l.map vb) → wpList Tryz.prog ops Q rest (a.put o.dst (.slice (some ⟨b, 0, none⟩) l.length c)) W') : wpList Tryz.prog ops Q (o :: rest) a w := by
  have hr := Lib.run_convert_string_bytes (P := Tryz.prog) w 9 35 5 (bs l) Tryz.underlying9 Tryz.underlying35 Tryz.underlying5
  rw [bs_size] at hr
  refine wpList_by hgd (v := .slice (some ⟨w.heap.size, 0, none⟩) l.length (grownCap w l.length 0 5)) (w' := Lib.bytesWorld w 5 (bs l)) ?_ (h _ _ _ (Lib.bytesWorld_below _ _ _) ?_)
  · unfold execOp
    simp only [ho, hx, Sem.run_bind, hr]
    rfl
  · refine ⟨by simp, grownCap_ge w l.length 0 _, grownCap_le_maxLen w l.length 0 _ (by unfold maxLen; omega), fun _ => ⟨_, 0, rfl, by rw [Lib.bytesWorld_size]; omega, fun j u hj => ?_⟩⟩
    have hj' : j < l.length := by
      rcases Nat.lt_or_ge j l.length with h | h
      · exact h
      · rw [List.getElem?_eq_none (by simpa using h)] at hj; cases hj
    rw [Nat.zero_add, Lib.bytesWorld_cell _ _ _ _ (by rw [bs_size]; exact hj')]
    rw [← hj]
    simp [bs, vb, hj']
end
theorem few_len {c : CT} (h : Few60 c) : ((fcond c).1).length ≤ 5000 := by
  unfold fcond
  split
  · simp
  · have h1 := (text_len 100 c).1
    have h2 := h.1
    show (ftext 100 c).length ≤ 5000
    omega
theorem fcond_cnt {c : CT} {s : List UInt8} (h : fcond c = (s, 0)) : c.ps.cnt ≤ 10000 := by
  have ht : tcond c = 0 := by
    unfold fcond at h
    split at h
    · next h1 => exact absurd (congrArg Prod.snd h) h1
    · next h1 => exact Classical.not_not.1 h1
  have h1 : (CF.one c .nil).cnt ≤ 256 := (tcond_ok ht).2.1
  have h2 : (CF.one c .nil).cnt = c.ps.cnt + 1 + 0 := rfl
  omega
theorem CV.n0 {w w' : World} {c : CT} {v : Value} (h : CV w c w' v) : ∃ A m d, v = .agg #[.int .i64 c.k, .int .i64 c.v, .int .i64 c.n, .slice A m d] ∧ RepH N0 w' c.ps A m d := by
  obtain ⟨A, m, d, e, h1⟩ := h
  exact ⟨A, m, d, e, h1.sub (fun _ h => h.elim)⟩
theorem rsc_eq (S : Nat → Prop) (a : CT) (A : Option Addr) (m d : Nat) (B : Option Addr) (n e : Nat) (w : World) (h1 : RepH S w a.ps A m d) (h2 : RepH S w a.ps B n e) :
    Calls Tryz.prog 24 #[.agg #[.int .i64 a.k, .int .i64 a.v, .int .i64 a.n, .slice A m d], .agg #[.int .i64 a.k, .int .i64 a.v, .int .i64 a.n, .slice B n e]] w fun e w' => e = .returned (.bool true) ∧ Below w.heap.size w w' :=
  (rsc_any S S a a A m d B n e w h1 h2).mono fun e w' ⟨h1, h2⟩ => ⟨h1.trans (congrArg (fun b => Ending.returned (.bool b)) (by rw [CT.cmp_zero.2 rfl]; rfl)), h2⟩
set_option maxHeartbeats 8000000 in
set_option maxRecDepth 100000 in
theorem cpa_walk (x : CT) (A : Option Addr) (m d : Nat) (w : World) (h : RepH N0 w x.ps A m d) (hG : FG w) (hcp : 0 < w.heap.size) (hY : Gb w.heap.size w) :
    Calls Tryz.prog 7 #[.agg #[.int .i64 x.k, .int .i64 x.v, .int .i64 x.n, .slice A m d]] w fun e w' => e = .returned (.bool true) ∧ Below w.heap.size w w' := by
  have HR := Lib.hid h
  have HG := Lib.hid hG
  have HY := Lib.hid hY
  clear h hG hY
  go_enter Tryz.func7, Tryz.ntmps7
  go_wp2_with (fail)
  first | (refine calls_named ?_; intro W hW) | (refine body_named ?_; intro W hW) | (refine wpList_named ?_; intro W hW) | (refine wp_named ?_; intro W hW)
  have hb : Below w.heap.size w W := by rw [← hW]; exact (Below.refl _ _).alloc (Nat.le_refl _) _
  have hx : Blk W w.heap.size 24 #[.int .i64 x.k, .int .i64 x.v, .int .i64 x.n, .slice A m d] := by rw [← hW]; exact Blk.new w _ _
  clear hW
  have HB := Lib.hid hb
  have HX := Lib.hid hx
  clear hb hx
  refine (sane15_any W (HG.out.below HB.out) (Nat.lt_of_lt_of_le hcp HB.out.size)).mono ?_
  rintro e w1 ⟨rfl, hb⟩
  have HB1 := Lib.hid (HB.out.trans (hb.mono HB.out.size))
  have HX1 := Lib.hid (HX.out.below hb HX.out.lt)
  clear hb HX HB
  have x0 := HX1.out.cell 0
  have x1 := HX1.out.cell 1
  have x2 := HX1.out.cell 2
  have x3 := HX1.out.cell 3
  have xl := HX1.out.lt
  go_wp2_with (fail)
  refine (few_any N0 x A m d w1 (HR.out.below HB1.out)).mono ?_
  rintro e w2 ⟨hb, b, rfl, hf⟩
  have HB2 := Lib.hid (HB1.out.trans (hb.mono HB1.out.size))
  have HX2 := Lib.hid (HX1.out.below hb HX1.out.lt)
  clear hb HX1 HB1 x0 x1 x2 x3 xl
  cases b with
  | false =>
    go_wp2_with (fail)
    go_ret
    exact ⟨rfl, HB2.out⟩
  | true =>
    have HF := Lib.hid (hf rfl)
    have HSL := Lib.hid (few_len HF.out)
    clear hf
    have x0 := HX2.out.cell 0
    have x1 := HX2.out.cell 1
    have x2 := HX2.out.cell 2
    have x3 := HX2.out.cell 3
    have xl := HX2.out.lt
    go_wp2_with (fail)
    obtain ⟨⟨s, z⟩, hyz⟩ : ∃ q, q = fcond x := ⟨_, rfl⟩
    have HT := Lib.hid hyz
    refine (fcond_any N0 x A m d w2 (HR.out.below HB2.out) (by have := HF.out.1; omega) (HG.out.below HB2.out)).mono ?_
    rw [← hyz] at HSL ⊢
    clear hyz
    rintro e w3 ⟨rfl, hb⟩
    have HB3 := Lib.hid (HB2.out.trans (hb.mono HB2.out.size))
    have HX3 := Lib.hid (HX2.out.below hb HX2.out.lt)
    clear hb HX2 HB2 x0 x1 x2 x3 xl
    by_cases hz : z = 0
    · subst hz
      have HL := Lib.hid (law_condparses HT.out.symm)
      have HCN := Lib.hid (fcond_cnt HL.out.2)
      have HXN := Lib.hid (show x.ps.cnt ≤ 900000 by have := HF.out.1; omega)
      go_wp2_with (with_reducible refine at_convB rfl ?_; refine Hid.out ?_)
      refine Lib.hid ?_
      refine wpList_convB s rfl rfl rfl (by have h1 : s.length ≤ 5000 := HSL.out; omega) ?_
      intro W4 b4 c4 hb hrd
      have HB4 := Lib.hid (HB3.out.trans (hb.mono HB3.out.size))
      have HX4 := Lib.hid (HX3.out.below hb HX3.out.lt)
      have HRD := Lib.hid hrd
      clear hb hrd HX3 HB3
      go_wp2_with (fail)
      refine (ytopCond_any (some ⟨b4, 0, none⟩) s.length c4 s W4 HRD.out (by have h1 : s.length ≤ 5000 := HSL.out; omega) ((HY.out.below HB4.out).more HB4.out.size)).mono ?_
      rw [HL.out.1]
      rintro e w5 ⟨hb, v, rfl, hv⟩
      obtain ⟨A5, m5, d5, rfl, hr5⟩ := hv.n0
      have HB5 := Lib.hid (HB4.out.trans (hb.mono HB4.out.size))
      have HX5 := Lib.hid (HX4.out.below hb HX4.out.lt)
      have HR5 := Lib.hid hr5
      have HF2 := Lib.hid HL.out.2
      have HCC := Lib.hid (fun (W : World) (hW : Below w5.heap.size w5 W) => crs_all (x.ps.cnt + 1) N0 N0 x A m d W (Nat.lt_succ_self _) HXN.out (fun _ h => h.elim) (HR.out.below (HB5.out.trans (hW.mono HB5.out.size))))
      clear hb hv hr5 HX4 HB4 HRD HL HR
      generalize cores x = y at *
      go_wp2_with (fail)
      first | (refine calls_named ?_; intro W6 hW) | (refine body_named ?_; intro W6 hW) | (refine wpList_named ?_; intro W6 hW) | (refine wp_named ?_; intro W6 hW)
      have hb : Below w5.heap.size w5 W6 := by rw [← hW]; exact (Below.refl _ _).alloc (Nat.le_refl _) _
      have hy : Blk W6 w5.heap.size 24 #[.int .i64 y.k, .int .i64 y.v, .int .i64 y.n, .slice A5 m5 d5] := by rw [← hW]; exact Blk.new _ _ _
      clear hW
      have HB6 := Lib.hid (HB5.out.trans (hb.mono HB5.out.size))
      have HX6 := Lib.hid (HX5.out.below hb HX5.out.lt)
      have HR6 := Lib.hid (HR5.out.below hb)
      have HY6 := Lib.hid hy
      have HC6 := Lib.hid (fun (W : World) (hW : Below W6.heap.size W6 W) => HCC.out W (hb.trans (hW.mono hb.size)))
      clear hb hy HX5 HB5 HR5 HCC
      generalize w5.heap.size = yb at *
      refine (fcond_any N0 y A5 m5 d5 W6 HR6.out HCN.out (HG.out.below HB6.out)).mono ?_
      rw [HF2.out]
      rintro e w7 ⟨rfl, hb⟩
      have HB7 := Lib.hid (HB6.out.trans (hb.mono HB6.out.size))
      have HX7 := Lib.hid (HX6.out.below hb HX6.out.lt)
      have HY7 := Lib.hid (HY6.out.below hb HY6.out.lt)
      have HR7 := Lib.hid (HR6.out.below hb)
      have HC7 := Lib.hid (fun (W : World) (hW : Below w7.heap.size w7 W) => HC6.out W (hb.trans (hW.mono hb.size)))
      clear hb HX6 HY6 HB6 HR6 HC6
      go_wp2_with (fail)
      have ZB := Lib.hid (show Below w7.heap.size w7 w7.drew from ⟨rfl, rfl, rfl, Nat.le_refl _, fun _ _ => rfl⟩)
      have lx := HX7.out.lt
      have ly := HY7.out.lt
      have HSx := Lib.hid (show ∀ W, Below w7.heap.size w7 W → (W.cell? ⟨w.heap.size, 0, none⟩ = some (.int .i64 x.k) ∧ W.cell? ⟨w.heap.size, 1, none⟩ = some (.int .i64 x.v) ∧ W.cell? ⟨w.heap.size, 2, none⟩ = some (.int .i64 x.n) ∧ W.cell? ⟨w.heap.size, 3, none⟩ = some (.slice A m d) ∧
          W.cell? ⟨yb, 0, none⟩ = some (.int .i64 y.k) ∧ W.cell? ⟨yb, 1, none⟩ = some (.int .i64 y.v) ∧ W.cell? ⟨yb, 2, none⟩ = some (.int .i64 y.n) ∧ W.cell? ⟨yb, 3, none⟩ = some (.slice A5 m5 d5) ∧ Hid (Below w7.heap.size w7 W)) from fun W hb => by
        have hx := HX7.out.below hb lx
        have hy := HY7.out.below hb ly
        exact ⟨hx.cell 0, hx.cell 1, hx.cell 2, hx.cell 3, hy.cell 0, hy.cell 1, hy.cell 2, hy.cell 3, Lib.hid hb⟩)
      have C1 := Lib.hid (show ∀ W B n e, Below w7.heap.size w7 W → RepH N0 W y.ps B n e → Calls Tryz.prog 24 #[.agg #[.int .i64 y.k, .int .i64 y.v, .int .i64 y.n, .slice A5 m5 d5], .agg #[.int .i64 y.k, .int .i64 y.v, .int .i64 y.n, .slice B n e]] W fun e w' => e = .returned (.bool true) ∧ Below W.heap.size W w' from fun W B n e hb h =>
        rsc_eq N0 y A5 m5 d5 B n e W (HR7.out.below hb) h)
      have HBK := Lib.hid HB7.out
      clear lx ly HX7 HY7 HB7 HR7
      generalize hxb : w.heap.size = xb at *
      have HXB := Lib.hid hxb
      clear hxb
      go_region_held3 (fun W => W.cell? ⟨xb, 0, none⟩ = some (.int .i64 x.k) ∧ W.cell? ⟨xb, 1, none⟩ = some (.int .i64 x.v) ∧ W.cell? ⟨xb, 2, none⟩ = some (.int .i64 x.n) ∧ W.cell? ⟨xb, 3, none⟩ = some (.slice A m d) ∧
          W.cell? ⟨yb, 0, none⟩ = some (.int .i64 y.k) ∧ W.cell? ⟨yb, 1, none⟩ = some (.int .i64 y.v) ∧ W.cell? ⟨yb, 2, none⟩ = some (.int .i64 y.n) ∧ W.cell? ⟨yb, 3, none⟩ = some (.slice A5 m5 d5) ∧ Hid (Below w7.heap.size w7 W))
        (exact HSx.out _ ZB.out)
        ((first
          | (go_at_call 31
             with_reducible refine (HC7.out _ ZB.out).mono ?_
             rintro e' wn ⟨hbn, An, mn, dn, rfl, hrn⟩
             have ZB := Lib.hid (ZB.out.trans (hbn.mono ZB.out.size))
             have HRN := Lib.hid hrn
             clear hbn hrn)
          | (go_at_call 24
             with_reducible refine (C1.out _ _ _ _ ZB.out HRN.out).mono ?_
             rintro e' wn ⟨rfl, hbn⟩
             have ZB := Lib.hid (ZB.out.trans (hbn.mono ZB.out.size))
             clear hbn)))
      all_goals
        go_wp2_with (fail)
        go_ret
        obtain rfl := HXB.out
        exact ⟨rfl, HBK.out.trans (ZB.out.mono HBK.out.size)⟩
    · have HNO := Lib.hid (law_condparses_no (c := x) (by rw [← HT.out]; exact hz))
      have hs0 : s = [] := by have h := HNO.out; rw [← HT.out] at h; exact h
      subst hs0
      have hzb : (z != 0) = true := bne_iff_ne.2 hz
      clear hz
      go_wp2_with (fail)
      go_ret
      exact ⟨rfl, HB3.out⟩
end Go.Proofs.YticpjdjdimpglaaGreatDoor

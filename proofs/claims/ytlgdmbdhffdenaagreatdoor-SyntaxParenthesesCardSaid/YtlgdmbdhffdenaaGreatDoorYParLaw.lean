/- SyntaxParentheses: the walk of the law. -/
import Derived.Test.YtlgdmbdhffdenaaGreatDoorYSane
import Derived.Test.YtlgdmbdhffdenaaGreatDoorYSame
namespace Go.Proofs.YtlgdmbdhffdenaaGreatDoor
set_option linter.unusedVariables false
set_option linter.unusedSimpArgs false
open Go.RowKit

set_option maxRecDepth 100000 in
theorem yshort_any (A : Option Addr) (n c : Nat) (w : World) : Calls Tryz.prog 12 #[.slice A n c] w fun e w' => e = .returned (.bool (decide ((n : Int) ≤ 2000))) ∧ w' = w := by
  go_enter Tryz.func12, Tryz.ntmps12
  go_wp2
  go_ret
  exact ⟨rfl, rfl⟩
theorem inner_len (l : List UInt8) : (inner l).length = l.length + 3 := by simp [inner]
theorem str_inner (l : List UInt8) : (({ data := #[40] } : ByteArray) ++ bs l ++ { data := #[10, 41] }) = bs (inner l) := by
  apply ByteArray.ext
  simp [bs, inner]
theorem str_notnot (l : List UInt8) : (({ data := #[110, 111, 116, 32, 110, 111, 116, 32] } : ByteArray) ++ bs (inner l)) = bs (notNot l) := by
  apply ByteArray.ext
  simp [bs, notNot]
theorem str_orand (l : List UInt8) : (bs (inner l) ++ ({ data := #[32, 111, 114, 32] } : ByteArray) ++ bs (inner l) ++ { data := #[32, 97, 110, 100, 32] } ++ bs (inner l)) = bs (orAnd l) := by
  apply ByteArray.ext
  simp [bs, orAnd]
theorem notnot_len (l : List UInt8) : (notNot l).length = l.length + 11 := by simp [notNot, inner]
theorem orand_len (l : List UInt8) : (orAnd l).length = 3 * l.length + 18 := by simp [orAnd, inner]; omega
section
variable {ops : Array Oper} {rest : List Oper} {o : Oper} {a : Act} {Q : Exit → Act → World → Prop} {w : World}
theorem at_dst (d : Nat) (ho : o.dst = some d) (h : wpList Tryz.prog ops Q (o :: rest) a w) : wpList Tryz.prog ops Q (o :: rest) a w := h
/-- Bytes as a string. -/
theorem wpList_convB {x : Operand} {A : Option Addr} {n c cap B : Nat} {l : List UInt8} (h : Rd w B 1 A n c (l.map vb)) (hgd : o.guard = none) (ho : o.op = Op.convert 22 9 x) (hx : a.eval x = .slice A n cap)
    (hK : wpList Tryz.prog ops Q rest (a.put o.dst (.string (bs l))) w) : wpList Tryz.prog ops Q (o :: rest) a w := by
  refine wpList_by hgd (v := .string (bs l)) (w' := w) ?_ hK
  have := Rd.conv (P := Tryz.prog) h Tryz.underlying22 Tryz.underlying5 Tryz.underlying9 cap
  unfold execOp
  simp only [ho, hx, Sem.run_bind, this]
  rfl
end
set_option maxHeartbeats 8000000 in
set_option maxRecDepth 100000 in
theorem paren_walk (A : Option Addr) (n c : Nat) (l : List UInt8) (w : World) (h : Rd w w.heap.size 1 A n c (l.map vb)) (hG : Gb w.heap.size w) :
    Calls Tryz.prog 8 #[.slice A n c] w fun e w' => e = .returned (.bool true) ∧ Below w.heap.size w w' := by
  have hlen := h.blen
  subst hlen
  have HH := Lib.hid h
  have HG := Lib.hid hG
  have hcap := h.cap
  have hbig := h.big
  clear h hG
  by_cases hn : l.length ≤ 2000
  · have hd : decide ((l.length : Int) ≤ 2000) = true := decide_eq_true (by omega)
    go_enter Tryz.func8, Tryz.ntmps8
    go_wp2_with (fail)
    refine (sane13_any w HG.out).mono ?_
    rintro e w1 ⟨rfl, hb1⟩
    have C1 := Lib.hid hb1
    clear hb1
    go_wp2_with (fail)
    refine (yshort_any A l.length c w1).mono ?_
    rintro e w1' ⟨rfl, rfl⟩
    rw [hd]
    go_wp2_with (fail)
    refine (ytopCond_any A l.length c l w1' ((HH.out.below C1.out).more C1.out.size) (by omega) (HG.out.on C1.out)).mono ?_
    obtain ⟨⟨x, xa, xk⟩, hx⟩ : ∃ r, topCond l = r := ⟨_, rfl⟩
    have HX := Lib.hid hx
    rw [hx]
    clear hx
    rintro e w2 ⟨hb, _, rfl, A1, m1, c1, rfl, hr⟩
    have C2 := Lib.hid (C1.out.trans (hb.mono C1.out.size))
    have R2 := Lib.hid (hr.sub (S' := fun k => k < w.heap.size) (fun k hk => Nat.lt_of_lt_of_le hk C1.out.size))
    clear hb hr C1
    unfold condV
    dsimp only [vi]
    go_wp2_with (with_reducible refine at_conv rfl ?_; refine Hid.out ?_)
    refine Lib.hid ?_
    refine wpList_convB (HH.out.below (C2.out.alloc C2.out.size (.cells #[.int .i64 x.k, .int .i64 x.v, .int .i64 x.n, .slice A1 m1 c1] 35))) rfl rfl rfl ?_
    go_wp2_with (with_reducible refine at_conv rfl ?_; refine Hid.out ?_)
    refine Lib.hid ?_
    rw [str_inner l]
    have hil : (inner l).length ≤ 3000 := by rw [inner_len]; omega
    refine wpList_convS (inner l) rfl rfl rfl (by rw [inner_len]; omega) ?_
    intro W3 b3 d3 hb3 hr3
    have X3 := Lib.hid ((Blk.new w2 35 #[.int .i64 x.k, .int .i64 x.v, .int .i64 x.n, .slice A1 m1 c1]).below hb3 (by simp))
    have hb3' : Below w2.heap.size w2 W3 := ((Below.refl _ _).alloc (Nat.le_refl _) _).trans (hb3.mono (by simp))
    have C3 := Lib.hid (C2.out.trans (hb3'.mono C2.out.size))
    have R3 := Lib.hid (R2.out.only (S' := fun _ => False) (Only.of_below hb3') (fun _ h => h.elim))
    clear hb3 hb3' C2 R2
    generalize w2.heap.size = bx at *
    by_cases hk : xk = 0
    · subst hk
      obtain ⟨L1, L2, L3⟩ := law_paren HX.out
      have HL1 := Lib.hid L1
      have HL2 := Lib.hid L2
      have HL3 := Lib.hid L3
      clear L1 L2 L3
      go_wp2_with (fail)
      refine (ytopCond_any _ _ _ (inner l) W3 hr3 (by rw [inner_len]; omega) (HG.out.on C3.out)).mono ?_
      rw [HL1.out]
      rintro e w4 ⟨hb, _, rfl, A2, m2, c2, rfl, hr⟩
      have C4 := Lib.hid (C3.out.trans (hb.mono C3.out.size))
      have X4 := Lib.hid (X3.out.below hb X3.out.lt)
      have R4 := Lib.hid (R3.out.only (S' := fun _ => False) (Only.of_below hb) (fun _ h => h.elim))
      have Q4 := Lib.hid (hr.sub (S' := fun k => k < w.heap.size) (fun k hk => Nat.lt_of_lt_of_le hk C3.out.size))
      clear hb hr C3 X3 R3 hr3
      unfold condV
      dsimp only [vi]
      go_wp2_with (with_reducible refine at_conv rfl ?_; refine Hid.out ?_)
      refine Lib.hid ?_
      rw [str_notnot l]
      refine wpList_convS (notNot l) rfl rfl rfl (by rw [notnot_len]; omega) ?_
      intro W5 b5 d5 hb5 hr5
      have Y5 := Lib.hid ((Blk.new w4 35 #[.int .i64 x.k, .int .i64 x.v, .int .i64 x.n, .slice A2 m2 c2]).below hb5 (by simp))
      have hb5' : Below w4.heap.size w4 W5 := ((Below.refl _ _).alloc (Nat.le_refl _) _).trans (hb5.mono (by simp))
      have C5 := Lib.hid (C4.out.trans (hb5'.mono C4.out.size))
      have X5 := Lib.hid (X4.out.below hb5' X4.out.lt)
      have R5 := Lib.hid (R4.out.only (S' := fun _ => False) (Only.of_below hb5') (fun _ h => h.elim))
      have Q5 := Lib.hid (Q4.out.only (S' := fun _ => False) (Only.of_below hb5') (fun _ h => h.elim))
      clear hb5 hb5' C4 X4 R4 Q4
      generalize w4.heap.size = bx4 at *
      go_wp2_with (fail)
      refine (ytopCond_any _ _ _ (notNot l) W5 hr5 (by rw [notnot_len]; omega) (HG.out.on C5.out)).mono ?_
      rw [HL2.out]
      rintro e w6 ⟨hb, _, rfl, A3, m3, c3, rfl, hr⟩
      have C6 := Lib.hid (C5.out.trans (hb.mono C5.out.size))
      have X6 := Lib.hid (X5.out.below hb X5.out.lt)
      have Y6 := Lib.hid (Y5.out.below hb Y5.out.lt)
      have R6 := Lib.hid (R5.out.only (S' := fun _ => False) (Only.of_below hb) (fun _ h => h.elim))
      have Q6 := Lib.hid (Q5.out.only (S' := fun _ => False) (Only.of_below hb) (fun _ h => h.elim))
      have N6 := Lib.hid (hr.sub (S' := fun k => k < w.heap.size) (fun k hk => Nat.lt_of_lt_of_le hk C5.out.size))
      clear hb hr C5 X5 Y5 R5 Q5 hr5
      unfold condV
      dsimp only [vi]
      go_wp2_with (with_reducible refine at_conv rfl ?_; refine Hid.out ?_)
      refine Lib.hid ?_
      rw [str_orand l]
      refine wpList_convS (orAnd l) rfl rfl rfl (by rw [orand_len]; omega) ?_
      intro W7 b7 d7 hb7 hr7
      have Z7 := Lib.hid ((Blk.new w6 35 #[.int .i64 4, .int .i64 0, .int .i64 0, .slice A3 m3 c3]).below hb7 (by simp))
      have hb7' : Below w6.heap.size w6 W7 := ((Below.refl _ _).alloc (Nat.le_refl _) _).trans (hb7.mono (by simp))
      have C7 := Lib.hid (C6.out.trans (hb7'.mono C6.out.size))
      have X7 := Lib.hid (X6.out.below hb7' X6.out.lt)
      have Y7 := Lib.hid (Y6.out.below hb7' Y6.out.lt)
      have R7 := Lib.hid (R6.out.only (S' := fun _ => False) (Only.of_below hb7') (fun _ h => h.elim))
      have Q7 := Lib.hid (Q6.out.only (S' := fun _ => False) (Only.of_below hb7') (fun _ h => h.elim))
      have N7 := Lib.hid (N6.out.only (S' := fun _ => False) (Only.of_below hb7') (fun _ h => h.elim))
      clear hb7 hb7' C6 X6 Y6 R6 Q6 N6
      generalize w6.heap.size = bx6 at *
      go_wp2_with (fail)
      refine (ytopCond_any _ _ _ (orAnd l) W7 hr7 (by rw [orand_len]; omega) (HG.out.on C7.out)).mono ?_
      rw [HL3.out]
      rintro e w8 ⟨hb, _, rfl, A4, m4, c4, rfl, hr⟩
      have C8 := Lib.hid (C7.out.trans (hb.mono C7.out.size))
      have hX := X7.out.below hb X7.out.lt
      have hY := Y7.out.below hb Y7.out.lt
      have hZ := Z7.out.below hb Z7.out.lt
      have R8 := Lib.hid (R7.out.only (S' := fun _ => False) (Only.of_below hb) (fun _ h => h.elim))
      have Q8 := Lib.hid (Q7.out.only (S' := fun _ => False) (Only.of_below hb) (fun _ h => h.elim))
      have N8 := Lib.hid (N7.out.only (S' := fun _ => False) (Only.of_below hb) (fun _ h => h.elim))
      have O8 := Lib.hid (hr.sub (S' := fun k => k < w.heap.size) (fun k hk => Nat.lt_of_lt_of_le hk C7.out.size))
      obtain ⟨x0, x1, x2, x3, _⟩ := hX.four
      obtain ⟨y0, y1, y2, y3, _⟩ := hY.four
      obtain ⟨z0, z1, z2, z3, _⟩ := hZ.four
      have lx := hX.lt
      have ly := hY.lt
      have lz := hZ.lt
      clear hb hr hr7 C7 R7 Q7 N7 X7 Y7 Z7
      unfold condV
      dsimp only [vi]
      go_wp2_with (with_reducible refine at_op (Op.load 35 (.tmp 3)) rfl ?_; refine Hid.out ?_)
      refine Lib.hid ?_
      refine wpList_named ?_
      intro w9 hw9
      have hb9 : Below w8.heap.size w8 w9 := by rw [← hw9]; exact (Below.refl _ _).alloc (Nat.le_refl _) _
      have hV := Lib.hid (show Blk w9 w8.heap.size 35 #[.int .i64 3, .int .i64 0, .int .i64 0, .slice A4 m4 c4] by rw [← hw9]; exact Blk.new _ _ _)
      clear hw9 x0 x1 x2 x3 y0 y1 y2 y3 z0 z1 z2 z3 lx ly lz
      have hX := hX.below hb9 hX.lt
      have hY := Lib.hid (hY.below hb9 hY.lt)
      have hZ := Lib.hid (hZ.below hb9 hZ.lt)
      have C9 := Lib.hid (C8.out.trans (hb9.mono C8.out.size))
      have R9 := Lib.hid (R8.out.only (S' := fun _ => False) (Only.of_below hb9) (fun _ h => h.elim))
      have Q9 := Lib.hid (Q8.out.only (S' := fun _ => False) (Only.of_below hb9) (fun _ h => h.elim))
      have N9 := Lib.hid (N8.out.only (S' := fun _ => False) (Only.of_below hb9) (fun _ h => h.elim))
      have O9 := Lib.hid (O8.out.only (S' := fun _ => False) (Only.of_below hb9) (fun _ h => h.elim))
      obtain ⟨x0, x1, x2, x3, _⟩ := hX.four
      have lx := hX.lt
      clear hb9 C8 R8 Q8 N8 O8
      generalize w8.heap.size = bx8 at *
      go_wp2_with (with_reducible refine at_dst 76 rfl ?_; refine Hid.out ?_)
      refine Lib.hid ?_
      refine wpList_named ?_
      intro w10 hw10
      have hb10 : Below w9.heap.size w9 w10 := by rw [← hw10]; exact ((Below.refl _ _).alloc (Nat.le_refl _) _).alloc (by simp) _
      have hN1 : Blk w10 w9.heap.size 35 #[.int .i64 x.k, .int .i64 x.v, .int .i64 x.n, .slice A1 m1 c1] := by rw [← hw10]; exact (Blk.new _ _ _).alloc _
      have hN2 : Blk w10 (w9.heap.size + 1) 35 #[.int .i64 4, .int .i64 0, .int .i64 0, .slice (some ⟨w9.heap.size, 0, none⟩) 1 1] := by rw [← hw10, ← World.size_alloc]; exact Blk.new _ _ _
      clear hw10 x0 x1 x2 x3 lx
      have hX := hX.below hb10 hX.lt
      have HN1 := Lib.hid hN1
      have HN2 := Lib.hid hN2
      have HY := Lib.hid (hY.out.below hb10 hY.out.lt)
      have HZ := Lib.hid (hZ.out.below hb10 hZ.out.lt)
      have HV := Lib.hid (hV.out.below hb10 hV.out.lt)
      have C10 := Lib.hid (C9.out.trans (hb10.mono C9.out.size))
      have R10 := Lib.hid (R9.out.only (S' := fun _ => False) (Only.of_below hb10) (fun _ h => h.elim))
      have Q10 := Lib.hid (Q9.out.only (S' := fun _ => False) (Only.of_below hb10) (fun _ h => h.elim))
      have N10 := Lib.hid (N9.out.only (S' := fun _ => False) (Only.of_below hb10) (fun _ h => h.elim))
      have O10 := Lib.hid (O9.out.only (S' := fun _ => False) (Only.of_below hb10) (fun _ h => h.elim))
      obtain ⟨x0, x1, x2, x3, _⟩ := hX.four
      have lx := hX.lt
      clear hb10 C9 R9 Q9 N9 O9 hY hZ hV hN1 hN2
      generalize w9.heap.size = bn at *
      go_wp2_with (with_reducible refine at_dst 80 rfl ?_; refine Hid.out ?_)
      refine Lib.hid ?_
      refine wpList_named ?_
      intro w11 hw11
      have hb11 : Below w10.heap.size w10 w11 := by rw [← hw11]; exact ((Below.refl _ _).alloc (Nat.le_refl _) _).alloc (by simp) _
      have hM1 : Blk w11 w10.heap.size 35 #[.int .i64 x.k, .int .i64 x.v, .int .i64 x.n, .slice A1 m1 c1, .int .i64 x.k, .int .i64 x.v, .int .i64 x.n, .slice A1 m1 c1] := by rw [← hw11]; exact (Blk.new _ _ _).alloc _
      have hM2 : Blk w11 (w10.heap.size + 1) 35 #[.int .i64 2, .int .i64 0, .int .i64 0, .slice (some ⟨w10.heap.size, 0, none⟩) 2 2] := by rw [← hw11, ← World.size_alloc]; exact Blk.new _ _ _
      clear hw11 x0 x1 x2 x3 lx
      have hX := hX.below hb11 hX.lt
      have hY := HY.out.below hb11 HY.out.lt
      have HM1 := Lib.hid hM1
      have HM2 := Lib.hid hM2
      have HN1' := Lib.hid (HN1.out.below hb11 HN1.out.lt)
      have HN2' := Lib.hid (HN2.out.below hb11 HN2.out.lt)
      have HZ' := Lib.hid (HZ.out.below hb11 HZ.out.lt)
      have HV' := Lib.hid (HV.out.below hb11 HV.out.lt)
      have C11 := Lib.hid (C10.out.trans (hb11.mono C10.out.size))
      have R11 := Lib.hid (R10.out.only (S' := fun _ => False) (Only.of_below hb11) (fun _ h => h.elim))
      have Q11 := Lib.hid (Q10.out.only (S' := fun _ => False) (Only.of_below hb11) (fun _ h => h.elim))
      have N11 := Lib.hid (N10.out.only (S' := fun _ => False) (Only.of_below hb11) (fun _ h => h.elim))
      have O11 := Lib.hid (O10.out.only (S' := fun _ => False) (Only.of_below hb11) (fun _ h => h.elim))
      obtain ⟨x0, x1, x2, x3, _⟩ := hX.four
      obtain ⟨y0, y1, y2, y3, _⟩ := hY.four
      have lx := hX.lt
      have ly := hY.lt
      clear hb11 C10 R10 Q10 N10 O10 hM1 hM2 HN1 HN2 HZ HV HY hY
      generalize w10.heap.size = bm at *
      go_wp2_with (fail)
      refine (samecond_any (fun k => k < w.heap.size) (fun k => k < w.heap.size) x x A1 A2 m1 c1 m2 c2 w11 R11.out Q11.out).mono ?_
      rw [show decide (x = x) = true from decide_eq_true rfl]
      rintro e w12 ⟨rfl, hb12⟩
      have hX := hX.below hb12 hX.lt
      have hZ := HZ'.out.below hb12 HZ'.out.lt
      have hN2 := HN2'.out.below hb12 HN2'.out.lt
      have HN1 := Lib.hid (HN1'.out.below hb12 HN1'.out.lt)
      have HV := Lib.hid (HV'.out.below hb12 HV'.out.lt)
      have HMa := Lib.hid (HM1.out.below hb12 HM1.out.lt)
      have HMb := Lib.hid (HM2.out.below hb12 HM2.out.lt)
      have C12 := Lib.hid (C11.out.trans (hb12.mono C11.out.size))
      have R12 := Lib.hid (R11.out.only (S' := fun _ => False) (Only.of_below hb12) (fun _ h => h.elim))
      have N12 := Lib.hid (N11.out.only (S' := fun _ => False) (Only.of_below hb12) (fun _ h => h.elim))
      have O12 := Lib.hid (O11.out.only (S' := fun _ => False) (Only.of_below hb12) (fun _ h => h.elim))
      clear x0 x1 x2 x3 y0 y1 y2 y3 lx ly hb12 C11 R11 Q11 N11 O11 HZ' HN2' HN1' HV' HM1 HM2
      have HX := Lib.hid hX
      obtain ⟨z0, z1, z2, z3, _⟩ := hZ.four
      obtain ⟨u0, u1, u2, u3, _⟩ := hN2.four
      have lz := hZ.lt
      have lu := hN2.lt
      clear hX hZ hN2
      go_wp2_with (fail)
      refine calls_named ?_
      intro w13 hw13
      have hb13 : Below w12.heap.size w12 w13 := by rw [← hw13]; exact (Below.refl _ _).alloc (Nat.le_refl _) _
      have hK : Blk w13 w12.heap.size 35 #[.int .i64 4, .int .i64 0, .int .i64 0, .slice (some ⟨bn, 0, none⟩) 1 1] := by rw [← hw13]; exact Blk.new _ _ _
      clear hw13
      have no : ∀ k, (fun _ : Nat => False) k → k < w.heap.size := fun _ h => h.elim
      have r13 := (R12.out.only (S' := fun _ => False) (Only.of_below hb13) (fun _ h => h.elim)).sub no
      have n13 := N12.out.only (S' := fun _ => False) (Only.of_below hb13) (fun _ h => h.elim)
      have k13 : RepH (fun _ => False) w13 (cnot (cnot x)).ps (some ⟨w12.heap.size, 0, none⟩) 1 1 :=
        RepH.blk (F := (cnot (cnot x)).ps) (xs := [vi 4, vi 0, vi 0, .slice (some ⟨bn, 0, none⟩) 1 1]) hK (RepF.one (c := cnot x) (RepH.blk (F := (cnot x).ps) (xs := [vi x.k, vi x.v, vi x.n, .slice A1 m1 c1]) (HN1.out.below hb13 HN1.out.lt) (RepF.one r13) (fun h => h) (by show 1 ≤ 1000000; omega))) (fun h => h) (by show 1 ≤ 1000000; omega)
      refine (samecond_any (fun k => k < w.heap.size) (fun _ => False) (cnot (cnot x)) (cnot (cnot x)) A3 (some ⟨w12.heap.size, 0, none⟩) m3 c3 1 1 w13 n13 k13).mono ?_
      rw [show decide (cnot (cnot x) = cnot (cnot x)) = true from decide_eq_true rfl]
      rintro e w14 ⟨rfl, hb14⟩
      have hb := hb13.trans (hb14.mono hb13.size)
      have hX := HX.out.below hb HX.out.lt
      have hV := HV.out.below hb HV.out.lt
      have hMb := HMb.out.below hb HMb.out.lt
      have HMa' := Lib.hid (HMa.out.below hb HMa.out.lt)
      have C14 := Lib.hid (C12.out.trans (hb.mono C12.out.size))
      have R14 := Lib.hid (R12.out.only (S' := fun _ => False) (Only.of_below hb) (fun _ h => h.elim))
      have O14 := Lib.hid (O12.out.only (S' := fun _ => False) (Only.of_below hb) (fun _ h => h.elim))
      clear z0 z1 z2 z3 u0 u1 u2 u3 lz lu hb hb13 hb14 C12 R12 N12 O12 HX HV HMb HMa HN1 r13 n13 k13 hK no
      obtain ⟨x0, x1, x2, x3, _⟩ := hX.four
      obtain ⟨z0, z1, z2, z3, _⟩ := hV.four
      obtain ⟨u0, u1, u2, u3, _⟩ := hMb.four
      have lx := hX.lt
      have lz := hV.lt
      have lu := hMb.lt
      clear hX hV hMb
      go_wp2_with (fail)
      refine calls_named ?_
      intro w15 hw15
      have hb15 : Below w14.heap.size w14 w15 := by rw [← hw15]; exact (Below.refl _ _).alloc (Nat.le_refl _) _
      have hK : Blk w15 w14.heap.size 35 #[.int .i64 x.k, .int .i64 x.v, .int .i64 x.n, .slice A1 m1 c1, .int .i64 2, .int .i64 0, .int .i64 0, .slice (some ⟨bm, 0, none⟩) 2 2] := by rw [← hw15]; exact Blk.new _ _ _
      clear hw15
      have no : ∀ k, (fun _ : Nat => False) k → k < w.heap.size := fun _ h => h.elim
      have r15 := (R14.out.only (S' := fun _ => False) (Only.of_below hb15) (fun _ h => h.elim)).sub no
      have o15 := O14.out.only (S' := fun _ => False) (Only.of_below hb15) (fun _ h => h.elim)
      have k15 : RepH (fun _ => False) w15 (CF.one x (.one ⟨2, 0, 0, .one x (.one x .nil)⟩ .nil)) (some ⟨w14.heap.size, 0, none⟩) 2 2 :=
        RepH.blk (F := .one x (.one ⟨2, 0, 0, .one x (.one x .nil)⟩ .nil)) (xs := [vi x.k, vi x.v, vi x.n, .slice A1 m1 c1, vi 2, vi 0, vi 0, .slice (some ⟨bm, 0, none⟩) 2 2]) hK
          (RepF.cons r15 (RepF.one (c := ⟨2, 0, 0, .one x (.one x .nil)⟩) (RepH.blk (F := .one x (.one x .nil)) (xs := [vi x.k, vi x.v, vi x.n, .slice A1 m1 c1, vi x.k, vi x.v, vi x.n, .slice A1 m1 c1]) (HMa'.out.below hb15 HMa'.out.lt) (RepF.cons r15 (RepF.one r15)) (fun h => h) (by show 2 ≤ 1000000; omega)))) (fun h => h) (by show 2 ≤ 1000000; omega)
      refine (samecond_any (fun k => k < w.heap.size) (fun _ => False) ⟨3, 0, 0, .one x (.one ⟨2, 0, 0, .one x (.one x .nil)⟩ .nil)⟩ ⟨3, 0, 0, .one x (.one ⟨2, 0, 0, .one x (.one x .nil)⟩ .nil)⟩ A4 (some ⟨w14.heap.size, 0, none⟩) m4 c4 2 2 w15 o15 k15).mono ?_
      rw [decide_eq_true rfl]
      rintro e w16 ⟨rfl, hb16⟩
      have C16 := Lib.hid (C14.out.trans ((hb15.trans (hb16.mono hb15.size)).mono C14.out.size))
      clear hb15 hb16 hK r15 o15 k15 x0 x1 x2 x3 z0 z1 z2 z3 u0 u1 u2 u3
      go_wp2_with (fail)
      go_ret
      exact ⟨rfl, C16.out⟩
    · have e1 : (xk != 0) = true := by rw [bne_iff_ne]; exact hk
      obtain ⟨⟨y, ya, yk⟩, hy⟩ : ∃ r, topCond (inner l) = r := ⟨_, rfl⟩
      go_wp2_with (fail)
      refine (ytopCond_any _ _ _ (inner l) W3 hr3 (by rw [inner_len]; omega) (HG.out.on C3.out)).mono ?_
      rw [hy]
      rintro e w4 ⟨hb, _, rfl, A2, m2, c2, rfl, hr⟩
      have C4 := Lib.hid (C3.out.trans (hb.mono C3.out.size))
      clear hb hr hr3 hy
      unfold condV
      dsimp only [vi]
      go_wp2_with (fail)
      go_ret
      exact ⟨rfl, C4.out.alloc C4.out.size _⟩
  · have hd : decide ((l.length : Int) ≤ 2000) = false := decide_eq_false (by omega)
    go_enter Tryz.func8, Tryz.ntmps8
    go_wp2_with (fail)
    refine (sane13_any w HG.out).mono ?_
    rintro e w1 ⟨rfl, hb1⟩
    have C1 := Lib.hid hb1
    clear hb1
    go_wp2_with (fail)
    refine (yshort_any A l.length c w1).mono ?_
    rintro e w1' ⟨rfl, rfl⟩
    rw [hd]
    go_wp2_with (fail)
    go_ret
    exact ⟨rfl, C1.out⟩
end Go.Proofs.YtlgdmbdhffdenaaGreatDoor

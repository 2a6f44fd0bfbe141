/- sane of chapter 13: the examples of the chapter hold. -/
import Derived.Test.YtlgdmbdhffdenaaGreatDoorYSort1
import Derived.Test.YtlgdmbdhffdenaaGreatDoorPC
import Derived.Test.YtlgdmbdhffdenaaGreatDoorYJoin
import Derived.Lib.SlBytesConst
import Derived.Lib.ConvBytes
namespace Go.Proofs.YtlgdmbdhffdenaaGreatDoor
set_option linter.unusedVariables false
set_option linter.unusedSimpArgs false
open Go.RowKit

theorem rd_newY (w : World) (l : List UInt8) (t : TypeId) (fr : Nat × Nat) (n : Nat) (hn : l.length = n) (hs : n ≤ 9223372036854775807) : Rd (w.alloc (.cells (l.map vb).toArray t fr)) (w.alloc (.cells (l.map vb).toArray t fr)).heap.size 1 (some ⟨w.heap.size, 0, none⟩) n n (l.map vb) := by
  refine ⟨by simp [hn], Nat.le_refl _, hs, fun _ => ⟨_, _, rfl, by simp, fun j u hj => ?_⟩⟩
  rw [Nat.zero_add, cell_of_row _ _ _ _ _ _ (heap_alloc_new w _)]
  simpa using hj
theorem Gb.al {w : World} (h : Gb w.heap.size w) (o : Obj) : Gb (w.alloc o).heap.size (w.alloc o) := (h.below ((Below.refl _ _).alloc (Nat.le_refl _) _)).more (by simp)
theorem Gb.on {w w' : World} (h : Gb w.heap.size w) (hb : Below w.heap.size w w') : Gb w'.heap.size w' := (h.below hb).more hb.size
section
variable {ops : Array Oper} {rest : List Oper} {o : Oper} {a : Act} {Q : Exit → Act → World → Prop} {w : World}
theorem at_conv {t u : TypeId} {x : Operand} (ho : o.op = Op.convert t u x) (h : wpList Tryz.prog ops Q (o :: rest) a w) : wpList Tryz.prog ops Q (o :: rest) a w := h
/-- A text's constant bytes as bytes. -/
theorem wpList_conv {x : Operand} {b n c : Nat} {C : Array Value} {wb : World} (l : List UInt8) (hgd : o.guard = none) (ho : o.op = Op.convert 22 22 x)
    (hx : a.eval x = .slice (some ⟨b, 0, none⟩) n c) (hw : w = wb.alloc (.cells C 5)) (hb : b = wb.heap.size) (hC : C = (l.map vb).toArray) (hn : n = l.length) (hc : c = n) (hl : l.length ≤ 1000000)
    (h : ∀ W', Below wb.heap.size wb W' → Rd W' W'.heap.size 1 (some ⟨b, 0, none⟩) n c (l.map vb) → wpList Tryz.prog ops Q rest (a.put o.dst (.slice (some ⟨b, 0, none⟩) n c)) W') : wpList Tryz.prog ops Q (o :: rest) a w := by
  subst hw hb hc
  refine wpList_by hgd (v := .slice (some ⟨wb.heap.size, 0, none⟩) c c) (w' := wb.alloc (.cells C 5 (C.size, C.size + 1))) ?_ (h _ ((Below.refl _ _).alloc (Nat.le_refl _) _) ?_)
  · have := Lib.run_convert_bytes_const (P := Tryz.prog) wb 22 5 C c c Tryz.underlying22 Tryz.underlying5
    unfold execOp
    simp only [ho, hx, Sem.run_bind, this]
    rfl
  · subst hC hn
    exact rd_newY wb l 5 _ l.length rfl (by omega)
/-- A string as bytes. -/
theorem wpList_convS {x : Operand} (l : List UInt8) (hgd : o.guard = none) (ho : o.op = Op.convert 9 22 x)
    (hx : a.eval x = .string (bs l)) (hl : l.length ≤ 1000000)
    (h : ∀ W' b c, Below w.heap.size w W' → Rd W' W'.heap.size 1 (some ⟨b, 0, none⟩) l.length c (l.map vb) → wpList Tryz.prog ops Q rest (a.put o.dst (.slice (some ⟨b, 0, none⟩) l.length c)) W') : wpList Tryz.prog ops Q (o :: rest) a w := by
  have hr := Lib.run_convert_string_bytes (P := Tryz.prog) w 9 22 5 (bs l) Tryz.underlying9 Tryz.underlying22 Tryz.underlying5
  rw [bs_size] at hr
  refine wpList_by hgd (v := .slice (some ⟨w.heap.size, 0, none⟩) l.length (grownCap w l.length 0 5)) (w' := Lib.bytesWorld w 5 (bs l)) ?_ (h _ _ _ (Lib.bytesWorld_below _ _ _) ?_)
  · unfold execOp
    simp only [ho, hx, Sem.run_bind, hr]
    rfl
  · refine ⟨by simp, grownCap_ge w l.length 0 _, grownCap_le_maxLen w l.length 0 _ (by unfold maxLen; omega), fun _ => ⟨_, 0, rfl, by rw [Lib.bytesWorld_size]; omega, fun j u hj => ?_⟩⟩
    have hj' : j < l.length := by
      rcases Nat.lt_or_ge j l.length with h | h
      · exact h
      · rw [List.getElem?_eq_none (by simpa using h)] at hj; cases hj
    rw [Nat.zero_add, Lib.bytesWorld_cell _ _ _ _ (by rw [bs_size]; exact hj')]
    rw [← hj]
    simp [bs, vb, hj']
end
set_option maxHeartbeats 8000000 in
set_option maxRecDepth 100000 in
theorem sane13_any (w : World) (hG : Gb w.heap.size w) : Calls Tryz.prog 11 #[] w fun e w' => e = .returned (.bool true) ∧ Below w.heap.size w w' := by
  have HG := Lib.hid hG
  clear hG
  go_enter Tryz.func11, Tryz.ntmps11
  go_wp2_with (with_reducible refine at_conv rfl ?_; refine Hid.out ?_)
  refine Lib.hid ?_
  refine wpList_conv tx1 rfl rfl rfl rfl rfl rfl rfl rfl (by decide) ?_
  intro W1 hb1 hr1
  have B1 := Lib.hid hb1
  go_wp2_with (fail)
  refine (ytopCond_any _ _ _ tx1 W1 hr1 (by omega) (HG.out.on hb1)).mono ?_
  rw [ex1]
  rintro e w1 ⟨hb, _, rfl, A1, m1, c1, rfl, hr⟩
  have C1 := Lib.hid (B1.out.trans (hb.mono B1.out.size))
  have R1 := Lib.hid hr
  obtain rfl : m1 = 2 := hr.len
  clear hb hr hb1 hr1 B1
  unfold condV
  dsimp only [vi]
  go_wp2_with (with_reducible refine at_conv rfl ?_; refine Hid.out ?_)
  refine Lib.hid ?_
  refine wpList_conv tx2 rfl rfl rfl rfl (by simp) rfl rfl rfl (by decide) ?_
  intro W2 hb2 hr2
  have B2 := Lib.hid hb2
  have X2 := Lib.hid ((Blk.new w1 35 #[.int .i64 2, .int .i64 0, .int .i64 0, .slice A1 2 c1]).below hb2 (by simp))
  have hb2' : Below w1.heap.size w1 W2 := ((Below.refl _ _).alloc (Nat.le_refl _) _).trans (hb2.mono (by simp))
  have C2 := Lib.hid (C1.out.trans (hb2'.mono C1.out.size))
  have R2 := Lib.hid (R1.out.only (S' := fun _ => False) (Only.of_below hb2') (fun _ h => h.elim))
  clear hb2 hb2' C1 R1 B2
  generalize w1.heap.size = bx at *
  go_wp2_with (fail)
  obtain ⟨⟨x2, a2, k2⟩, h2⟩ : ∃ r, topCond tx2 = r := ⟨_, rfl⟩
  have e2 := ex2
  rw [h2] at e2
  simp only [Prod.mk.injEq] at e2
  obtain ⟨rfl, rfl⟩ := e2
  refine (ytopCond_any _ _ _ tx2 W2 hr2 (by omega) (HG.out.on C2.out)).mono ?_
  rw [h2]
  rintro e w3 ⟨hb, _, rfl, A2, m2, c2, rfl, _⟩
  have C3 := Lib.hid (C2.out.trans (hb.mono C2.out.size))
  have X3 := Lib.hid (X2.out.below hb X2.out.lt)
  have R3 := Lib.hid (R2.out.only (S' := fun _ => False) (Only.of_below hb) (fun _ h => h.elim))
  clear hb C2 X2 R2 hr2 h2
  unfold condV
  dsimp only [vi]
  go_wp2_with (with_reducible refine at_conv rfl ?_; refine Hid.out ?_)
  refine Lib.hid ?_
  refine wpList_conv tx3 rfl rfl rfl rfl (by simp) rfl rfl rfl (by decide) ?_
  intro W3 hb3 hr3
  have hb3' : Below w3.heap.size w3 W3 := ((Below.refl _ _).alloc (Nat.le_refl _) _).trans (hb3.mono (by simp))
  have C4 := Lib.hid (C3.out.trans (hb3'.mono C3.out.size))
  have X4 := Lib.hid (X3.out.below hb3' X3.out.lt)
  have R4 := Lib.hid (R3.out.only (S' := fun _ => False) (Only.of_below hb3') (fun _ h => h.elim))
  clear hb3 hb3' C3 X3 R3
  generalize w3.heap.size = bx3 at *
  go_wp2_with (fail)
  obtain ⟨⟨x3, a3, k3⟩, h3⟩ : ∃ r, topRules tx3 = r := ⟨_, rfl⟩
  have e3 := ex3
  rw [h3] at e3
  simp only [Prod.mk.injEq] at e3
  obtain ⟨rfl, rfl⟩ := e3
  refine (ytopRules_any _ _ _ tx3 W3 hr3 (by omega) (HG.out.on C4.out)).mono ?_
  rw [h3]
  rintro e w4 ⟨hb, _, rfl, B1, p1, q1, B2, p2, q2, rfl, _, _⟩
  have C5 := Lib.hid (C4.out.trans (hb.mono C4.out.size))
  have X5 := Lib.hid (X4.out.below hb X4.out.lt)
  have R5 := Lib.hid (R4.out.only (S' := fun _ => False) (Only.of_below hb) (fun _ h => h.elim))
  clear hb C4 X4 R4 hr3 h3
  go_wp2_with (with_reducible refine at_conv rfl ?_; refine Hid.out ?_)
  refine Lib.hid ?_
  refine wpList_convS tx4 rfl rfl rfl (by decide) ?_
  intro W4 b4 d4 hb4 hr4
  have hb4' : Below w4.heap.size w4 W4 := ((Below.refl _ _).alloc (Nat.le_refl _) _).trans (hb4.mono (by simp))
  have C6 := Lib.hid (C5.out.trans (hb4'.mono C5.out.size))
  have X6 := Lib.hid (X5.out.below hb4' X5.out.lt)
  have R6 := Lib.hid (R5.out.only (S' := fun _ => False) (Only.of_below hb4') (fun _ h => h.elim))
  clear hb4 hb4' C5 X5 R5
  generalize w4.heap.size = bx4 at *
  go_wp2_with (fail)
  refine (ytopRules_any _ _ _ tx4 W4 hr4 (by decide) (HG.out.on C6.out)).mono ?_
  rw [ex4]
  rintro e w5 ⟨hb, _, rfl, E1, e1, f1, E2, e2, f2, rfl, ht5, hz5⟩
  obtain rfl : e1 = 1 := ht5.len
  have hz5l : e2 = 1 := by
    have h1 := hz5.1.len
    have h2 : ([(⟨[116, 111, 112], 1, 1⟩ : ZT)].flatMap zoneCells).length = 3 := rfl
    have h3 : 3 = e2 * 3 := h2.symm.trans h1
    omega
  subst hz5l
  have C7 := Lib.hid (C6.out.trans (hb.mono C6.out.size))
  have X7 := Lib.hid (X6.out.below hb X6.out.lt)
  have R7 := Lib.hid (R6.out.only (S' := fun _ => False) (Only.of_below hb) (fun _ h => h.elim))
  have Z7 := Lib.hid hz5
  clear hb C6 X6 R6 hr4 ht5 hz5
  go_wp2_with (with_reducible refine at_conv rfl ?_; refine Hid.out ?_)
  refine Lib.hid ?_
  refine wpList_convS tx5 rfl rfl rfl (by decide) ?_
  intro W5 b5 d5 hb5 hr5
  have X8 := Lib.hid ((Blk.new w5 28 #[.string (bs [97]), .int .i64 3, .int .i64 1, .int .i64 0, .slice E1 1 f1, .slice E2 1 f2]).below hb5 (by simp))
  have hb5' : Below w5.heap.size w5 W5 := ((Below.refl _ _).alloc (Nat.le_refl _) _).trans (hb5.mono (by simp))
  have C8 := Lib.hid (C7.out.trans (hb5'.mono C7.out.size))
  have X9 := Lib.hid (X7.out.below hb5' X7.out.lt)
  have R8 := Lib.hid (R7.out.only (S' := fun _ => False) (Only.of_below hb5') (fun _ h => h.elim))
  have Z8 := Lib.hid (Z7.out.only (S' := fun _ => False) (Only.of_below hb5') (fun _ h => h.elim))
  clear hb5 hb5' C7 X7 R7 Z7
  generalize w5.heap.size = bx5 at *
  go_wp2_with (fail)
  obtain ⟨x51, x52, x53⟩ := ex5
  have hl5 : (lex tx5).2 = [] := List.eq_nil_of_length_eq_zero x52
  obtain ⟨⟨pa, pc⟩, hs5⟩ : ∃ p, synP tx5 = [p] := by
    cases hq : synP tx5 with
    | nil => rw [hq] at x53; cases x53
    | cons p r =>
      cases r with
      | nil => exact ⟨p, rfl⟩
      | cons => rw [hq] at x53; simp at x53
  rw [hs5] at x53
  simp only [List.map_cons, List.map_nil, List.cons.injEq, Prod.mk.injEq, and_true] at x53
  obtain ⟨rfl, rfl⟩ := x53
  refine (ydoc_any 1 sort_one _ _ _ tx5 W5 hr5 (by decide) (HG.out.on C8.out) (by rw [hl5, hs5]; decide)).mono ?_
  unfold DocPost
  rw [hl5, hs5]
  rintro e w6 ⟨L1, lm, lc, Q1, qn, qc, RR, xs, rfl, rfl, _, _, hperm, _, hqn, hqr, hb⟩
  have hRR : RR = [⟨30, 130⟩] := List.perm_singleton.1 (by simpa using hperm)
  subst hRR
  obtain rfl : qn = 1 := hqn
  rw [x51]
  have C9 := Lib.hid (C8.out.trans (hb.mono C8.out.size))
  have X10 := Lib.hid (X9.out.below hb X9.out.lt)
  have X11 := Lib.hid (X8.out.below hb X8.out.lt)
  have R9 := Lib.hid (R8.out.only (S' := fun _ => False) (Only.of_below hb) (fun _ h => h.elim))
  have Z9 := Lib.hid (Z8.out.only (S' := fun _ => False) (Only.of_below hb) (fun _ h => h.elim))
  have P9 := Lib.hid hqr
  clear hb C8 X9 X8 R8 Z8 hr5 hperm hqr x51 x52 hs5 hl5
  go_wp2_with (fail)
  obtain ⟨x61, x62, x63⟩ := ex6
  have hl6 : (lex []).2 = [] := List.eq_nil_of_length_eq_zero x62
  refine (ydoc_any 1 sort_one none 0 0 [] w6 Rd.nil (by decide) (HG.out.on C9.out) (by rw [hl6, x63]; decide)).mono ?_
  unfold DocPost
  rw [hl6, x63, x61]
  rintro e w7 ⟨L2, lm2, lc2, Q2, qn2, qc2, RR, xs2, rfl, rfl, _, _, hperm, _, hqn, _, hb⟩
  have hRR : RR = [] := by simpa using hperm
  subst hRR
  obtain rfl : qn2 = 0 := hqn
  have CA := Lib.hid (C9.out.trans (hb.mono C9.out.size))
  have x1 := X10.out.below hb X10.out.lt
  have x5 := X11.out.below hb X11.out.lt
  have r1 := R9.out.only (S' := fun _ => False) (Only.of_below hb) (fun _ h => h.elim)
  have z1 := Z9.out.only (S' := fun _ => False) (Only.of_below hb) (fun _ h => h.elim)
  have q1 := (P9.out.below hb).more hb.size
  obtain ⟨ys, hrd, _, hF⟩ := r1
  obtain ⟨F1, g1, h1, zs1, rfl, _, hF2⟩ := RepF.uncons hF
  obtain ⟨F2, g2, h2, zs2, rfl, _, _⟩ := RepF.uncons hF2
  obtain ⟨bA, oA, rfl, _, hcA⟩ := hrd.cells (by omega)
  obtain ⟨bZ, oZ, rfl, _, hcZ⟩ := z1.1.cells (by omega)
  obtain ⟨bQ, oQ, rfl, _, hcQ⟩ := q1.cells (by omega)
  have n0 : w7.cell? ⟨bA, oA + 2, none⟩ = some (.int .i64 3) := hcA 2 _ rfl
  have n1 : w7.cell? ⟨bA, oA + 4, none⟩ = some (.int .i64 4) := hcA 4 _ rfl
  have n2 : w7.cell? ⟨bZ, oZ + 2, none⟩ = some (.int .i64 1) := hcZ 2 _ rfl
  have n3 : w7.cell? ⟨bQ, oQ, none⟩ = some (.int .i64 30) := hcQ 0 _ rfl
  have k0 : w7.cell? ⟨bx, 0, none⟩ = some (.int .i64 2) := by rw [x1.cell]; rfl
  have k3 : w7.cell? ⟨bx, 3, none⟩ = some (.slice (some ⟨bA, oA, none⟩) 2 c1) := by rw [x1.cell]; rfl
  have m1 : w7.cell? ⟨bx5, 1, none⟩ = some (.int .i64 3) := by rw [x5.cell]; rfl
  have m4 : w7.cell? ⟨bx5, 4, none⟩ = some (.slice E1 1 f1) := by rw [x5.cell]; rfl
  have m5 : w7.cell? ⟨bx5, 5, none⟩ = some (.slice (some ⟨bZ, oZ, none⟩) 1 f2) := by rw [x5.cell]; rfl
  have hc1 := hrd.cap
  have hc2 := z1.1.cap
  have hc3 := q1.cap
  clear hb x1 x5 z1 q1 hrd hF hF2 hcA hcZ hcQ X10 X11 R9 Z9 P9 hperm x61 x62 x63 hl6 C9
  go_wp2
  go_ret
  exact ⟨rfl, CA.out⟩
end Go.Proofs.YtlgdmbdhffdenaaGreatDoor

/- SyntaxConditionSpec: the walk of the law. -/
import Derived.Test.YtlgdmbdhffdenaaGreatDoorQC
import Derived.Test.YtlgdmbdhffdenaaGreatDoorYSame
import Derived.Test.YtlgdmbdhffdenaaGreatDoorYSane
namespace Go.Proofs.YtlgdmbdhffdenaaGreatDoor
set_option linter.unusedVariables false
set_option linter.unusedSimpArgs false
open Go.RowKit

set_option maxRecDepth 100000 in
theorem yshortC_any (A : Option Addr) (n c : Nat) (w : World) : Calls Tryz.prog 12 #[.slice A n c] w fun e w' => e = .returned (.bool (decide ((n : Int) ≤ 2000))) ∧ w' = w := by
  go_enter Tryz.func12, Tryz.ntmps12
  go_wp2
  go_ret
  exact ⟨rfl, rfl⟩

set_option maxHeartbeats 1000000 in
set_option maxRecDepth 100000 in
theorem cond_walk (A : Option Addr) (n c : Nat) (l : List UInt8) (w : World) (h : Rd w w.heap.size 1 A n c (l.map vb)) (hG : Gb w.heap.size w) :
    Calls Tryz.prog 4 #[.slice A n c] w fun e w' => e = .returned (.bool true) ∧ Below w.heap.size w w' := by
  have hlen := h.blen
  subst hlen
  have HH := Lib.hid h
  have HG := Lib.hid hG
  have hcap := h.cap
  have hbig := h.big
  clear h hG
  by_cases hn : l.length ≤ 2000
  · have hd : decide ((l.length : Int) ≤ 2000) = true := decide_eq_true (by omega)
    go_enter Tryz.func4, Tryz.ntmps4
    go_wp2_with (fail)
    refine (sane13_any w HG.out).mono ?_
    rintro e w1 ⟨rfl, hb1⟩
    have C1 := Lib.hid hb1
    clear hb1
    go_wp2_with (fail)
    refine (yshortC_any A l.length c w1).mono ?_
    rintro e w1' ⟨rfl, rfl⟩
    rw [hd]
    obtain ⟨⟨r, x, cd⟩, hx⟩ : ∃ q, topCond l = q := ⟨_, rfl⟩
    have W1 := ytopCond_any A l.length c l w1' ((HH.out.below C1.out).more C1.out.size) (by omega) (HG.out.on C1.out)
    rw [hx] at W1
    have W1h := Lib.hid W1
    have W2 := Lib.hid (fun w' hb => ztopC_any A l.length c l w' ((HH.out.below hb).more hb.size) (by omega))
    rw [hx] at W2
    clear W1 hx
    go_wp2_with (fail)
    refine W1h.out.mono ?_
    rintro e w2 ⟨hb2, _, rfl, A1, m1, c1, rfl, hr1⟩
    have C2 := Lib.hid (C1.out.trans (hb2.mono C1.out.size))
    have P2 := Lib.hid (hr1.sub (S' := fun k => k < w.heap.size) (fun k hk => Nat.lt_of_lt_of_le hk C1.out.size))
    clear hr1
    clear hb2 W1h C1
    unfold condV; dsimp only [vi]
    go_wp2_with (fail)
    first | (refine calls_named ?_; intro w3 hw3) | (refine body_named ?_; intro w3 hw3) | (refine wpList_named ?_; intro w3 hw3) | (refine wp_named ?_; intro w3 hw3)
    have hb3 : Below w2.heap.size w2 w3 := by rw [← hw3]; exact (Below.refl _ _).alloc (Nat.le_refl _) _
    have X3 := Lib.hid (show Blk w3 w2.heap.size 35 #[.int .i64 r.k, .int .i64 r.v, .int .i64 r.n, .slice A1 m1 c1] by rw [← hw3]; exact Blk.new _ _ _)
    clear hw3
    have C3 := Lib.hid (C2.out.trans (hb3.mono C2.out.size))
    have P3 := Lib.hid (P2.out.only (S' := fun _ => False) (Only.of_below hb3) (fun _ h => h.elim))
    generalize w2.heap.size = bx at *
    clear hb3 C2
    refine (W2.out w3 C3.out).mono ?_
    rintro e w4 ⟨hb4, _, rfl, B1, n1, d1, rfl, hs1⟩
    have C4 := Lib.hid (C3.out.trans (hb4.mono C3.out.size))
    have X4 := Lib.hid (X3.out.below hb4 X3.out.lt)
    have Q4 := Lib.hid (hs1.sub (S' := fun k => k < w.heap.size) (fun k hk => Nat.lt_of_lt_of_le hk C3.out.size))
    clear hs1
    have P4 := Lib.hid (P3.out.only (S' := fun _ => False) (Only.of_below hb4) (fun _ h => h.elim))
    clear hb4 W2 C3
    unfold condV; dsimp only [vi]
    have x0 := X4.out.cell 0
    have x1 := X4.out.cell 1
    have x2 := X4.out.cell 2
    have x3 := X4.out.cell 3
    have lx := X4.out.lt
    go_wp2_with (fail)
    first | (refine calls_named ?_; intro w5 hw5) | (refine body_named ?_; intro w5 hw5) | (refine wpList_named ?_; intro w5 hw5) | (refine wp_named ?_; intro w5 hw5)
    have hb5 : Below w4.heap.size w4 w5 := by rw [← hw5]; exact (Below.refl _ _).alloc (Nat.le_refl _) _
    have C5 := Lib.hid (C4.out.trans (hb5.mono C4.out.size))
    have P5 := Lib.hid (P4.out.only (S' := fun _ => False) (Only.of_below hb5) (fun _ h => h.elim))
    have Q5 := Lib.hid (Q4.out.only (S' := fun _ => False) (Only.of_below hb5) (fun _ h => h.elim))
    clear hw5 hb5 X4 C4 x0 x1 x2 x3
    have hcg := samecond_any (fun k => k < w.heap.size) (fun k => k < w.heap.size) r r A1 B1 m1 c1 n1 d1 w5 P5.out Q5.out
    rw [show decide (r = r) = true from decide_eq_true rfl] at hcg
    unfold condV vi at hcg
    refine hcg.mono ?_
    clear hcg
    rintro e w6 ⟨rfl, hb6⟩
    have C6 := Lib.hid (C5.out.trans (hb6.mono C5.out.size))
    clear hb6
    go_wp2_with (fail)
    go_ret
    exact ⟨rfl, C6.out⟩
  · have hd : decide ((l.length : Int) ≤ 2000) = false := decide_eq_false (by omega)
    go_enter Tryz.func4, Tryz.ntmps4
    go_wp2_with (fail)
    refine (sane13_any w HG.out).mono ?_
    rintro e w1 ⟨rfl, hb1⟩
    have C1 := Lib.hid hb1
    clear hb1
    go_wp2_with (fail)
    refine (yshortC_any A l.length c w1).mono ?_
    rintro e w1' ⟨rfl, rfl⟩
    rw [hd]
    go_wp2_with (fail)
    go_ret
    exact ⟨rfl, C1.out⟩
end Go.Proofs.YtlgdmbdhffdenaaGreatDoor

/- Check, Sum, Part (the program's and the reference's) and the reference's Same, by their contracts. -/
import Derived.Test.YtnigdcppdkcllaaDoorProg
import Derived.Test.YtnigdcppdkcllaaDoorMInts
namespace Go.Proofs.YtnigdcppdkcllaaDoor
set_option linter.unusedVariables false
set_option linter.unusedSimpArgs false
open Go.RowKit

section
variable (n : Int) (w : World)
theorem check_yes (h : amtB n = true) : Calls Tryd.prog 20 #[.int .i64 n] w fun e w' => e = .returned (.int .i64 0) ∧ w = w' := by
  obtain ⟨h1, h2⟩ := amtB_iff.1 h
  clear h
  go_enter Tryd.func20, Tryd.ntmps20
  go_wp2
  go_ret
  exact ⟨rfl, rfl⟩
theorem check_no (h : amtB n = false) : Calls Tryd.prog 20 #[.int .i64 n] w fun e w' => e = .returned (.int .i64 50) ∧ w = w' := by
  have h1 := amtB_no.1 h
  clear h
  rcases h1 with h1 | h1
  · have h2 : ¬ 1125899906842624 < n := by omega
    go_enter Tryd.func20, Tryd.ntmps20
    go_wp2
    go_ret
    exact ⟨rfl, rfl⟩
  · go_enter Tryd.func20, Tryd.ntmps20
    go_wp2
    go_ret
    exact ⟨rfl, rfl⟩
theorem check_any : Calls Tryd.prog 20 #[.int .i64 n] w fun e w' => e = .returned (.int .i64 (amtE n)) ∧ w = w' := by
  cases h : amtB n with
  | true => rw [amtE_yes h]; exact check_yes n w h
  | false => rw [amtE_no h]; exact check_no n w h
theorem rcheck_yes (h : amtB n = true) : Calls Tryd.prog 23 #[.int .i64 n] w fun e w' => e = .returned (.int .i64 0) ∧ w = w' := by
  obtain ⟨h1, h2⟩ := amtB_iff.1 h
  clear h
  go_enter Tryd.func23, Tryd.ntmps23
  go_wp2
  go_ret
  exact ⟨rfl, rfl⟩
theorem rcheck_no (h : amtB n = false) : Calls Tryd.prog 23 #[.int .i64 n] w fun e w' => e = .returned (.int .i64 50) ∧ w = w' := by
  have h1 := amtB_no.1 h
  clear h
  rcases h1 with h1 | h1
  · have h2 : ¬ 1125899906842624 < n := by omega
    go_enter Tryd.func23, Tryd.ntmps23
    go_wp2
    go_ret
    exact ⟨rfl, rfl⟩
  · go_enter Tryd.func23, Tryd.ntmps23
    go_wp2
    go_ret
    exact ⟨rfl, rfl⟩
theorem rcheck_any : Calls Tryd.prog 23 #[.int .i64 n] w fun e w' => e = .returned (.int .i64 (amtE n)) ∧ w = w' := by
  cases h : amtB n with
  | true => rw [amtE_yes h]; exact rcheck_yes n w h
  | false => rw [amtE_no h]; exact rcheck_no n w h
end

/-- What Part answers. -/
def partN (a p : Int) : Int := if amtB a && decide (0 ≤ p ∧ p ≤ 1000) then (a * p).tdiv 1000 else 0
def partE (a p : Int) : Int := if amtB a then if 0 ≤ p ∧ p ≤ 1000 then 0 else 1 else 50
theorem mul_bd {a p : Int} (h : amtB a = true) (h0 : 0 ≤ p) (h1 : p ≤ 1000) : -1125899906842624000 ≤ a * p ∧ a * p ≤ 1125899906842624000 := by
  obtain ⟨ha, hb⟩ := amtB_iff.1 h
  constructor
  · have h2 : -1125899906842624 * p ≤ a * p := Int.mul_le_mul_of_nonneg_right ha h0
    omega
  · have h2 : a * p ≤ 1125899906842624 * p := Int.mul_le_mul_of_nonneg_right hb h0
    omega
theorem tdiv_bd {x : Int} (h : -1125899906842624000 ≤ x ∧ x ≤ 1125899906842624000) : -1125899906842624 ≤ x.tdiv 1000 ∧ x.tdiv 1000 ≤ 1125899906842624 := by
  rcases Int.le_total 0 x with h0 | h0
  · rw [Int.tdiv_eq_ediv_of_nonneg h0]; omega
  · obtain ⟨y, rfl⟩ : ∃ y, x = -y := ⟨-x, by omega⟩
    rw [Int.neg_tdiv, Int.tdiv_eq_ediv_of_nonneg (by omega)]; omega
theorem part_any (a p : Int) (w : World) : Calls Tryd.prog 13 #[.int .i64 a, .int .i64 p] w fun e w' => e = .returned (.tuple #[.int .i64 (partN a p), .int .i64 (partE a p)]) ∧ w = w' := by
  cases h : amtB a with
  | false =>
    have e1 : partN a p = 0 := by simp [partN, h]
    have e2 : partE a p = 50 := by simp [partE, h]
    rw [e1, e2]
    clear e1 e2
    go_enter Tryd.func13, Tryd.ntmps13
    go_wp2_with (go_at_call 20; refine (check_no a _ h).mono ?_; rintro e w' ⟨rfl, rfl⟩)
    go_ret2
    exact ⟨rfl, rfl⟩
  | true =>
    by_cases h1 : 0 ≤ p
    · by_cases h2 : p ≤ 1000
      · have e1 : partN a p = (a * p).tdiv 1000 := by simp [partN, h, h1, h2]
        have e2 : partE a p = 0 := by simp [partE, h, h1, h2]
        rw [e1, e2]
        clear e1 e2
        obtain ⟨b1, b2⟩ := mul_bd h h1 h2
        obtain ⟨b3, b4⟩ := tdiv_bd ⟨b1, b2⟩
        go_enter Tryd.func13, Tryd.ntmps13
        go_wp2_with (go_at_call 20; refine (check_yes a _ h).mono ?_; rintro e w' ⟨rfl, rfl⟩)
        go_ret2
        exact ⟨rfl, rfl⟩
      · have e1 : partN a p = 0 := by simp [partN, h, h1, h2]
        have e2 : partE a p = 1 := by simp [partE, h, h1, h2]
        rw [e1, e2]
        clear e1 e2
        go_enter Tryd.func13, Tryd.ntmps13
        go_wp2_with (go_at_call 20; refine (check_yes a _ h).mono ?_; rintro e w' ⟨rfl, rfl⟩)
        go_ret2
        exact ⟨rfl, rfl⟩
    · have e1 : partN a p = 0 := by simp [partN, h, h1]
      have e2 : partE a p = 1 := by simp [partE, h, h1]
      rw [e1, e2]
      clear e1 e2
      go_enter Tryd.func13, Tryd.ntmps13
      go_wp2_with (go_at_call 20; refine (check_yes a _ h).mono ?_; rintro e w' ⟨rfl, rfl⟩)
      go_ret2
      exact ⟨rfl, rfl⟩
theorem rpart_any (a p : Int) (w : World) : Calls Tryd.prog 14 #[.int .i64 a, .int .i64 p] w fun e w' => e = .returned (.tuple #[.int .i64 (partN a p), .int .i64 (partE a p)]) ∧ w = w' := by
  cases h : amtB a with
  | false =>
    have e1 : partN a p = 0 := by simp [partN, h]
    have e2 : partE a p = 50 := by simp [partE, h]
    rw [e1, e2]
    clear e1 e2
    go_enter Tryd.func14, Tryd.ntmps14
    go_wp2_with (go_at_call 23; refine (rcheck_no a _ h).mono ?_; rintro e w' ⟨rfl, rfl⟩)
    go_ret2
    exact ⟨rfl, rfl⟩
  | true =>
    by_cases h1 : 0 ≤ p
    · by_cases h2 : p ≤ 1000
      · have e1 : partN a p = (a * p).tdiv 1000 := by simp [partN, h, h1, h2]
        have e2 : partE a p = 0 := by simp [partE, h, h1, h2]
        rw [e1, e2]
        clear e1 e2
        obtain ⟨b1, b2⟩ := mul_bd h h1 h2
        obtain ⟨b3, b4⟩ := tdiv_bd ⟨b1, b2⟩
        go_enter Tryd.func14, Tryd.ntmps14
        go_wp2_with (go_at_call 23; refine (rcheck_yes a _ h).mono ?_; rintro e w' ⟨rfl, rfl⟩)
        go_ret2
        exact ⟨rfl, rfl⟩
      · have e1 : partN a p = 0 := by simp [partN, h, h1, h2]
        have e2 : partE a p = 1 := by simp [partE, h, h1, h2]
        rw [e1, e2]
        clear e1 e2
        go_enter Tryd.func14, Tryd.ntmps14
        go_wp2_with (go_at_call 23; refine (rcheck_yes a _ h).mono ?_; rintro e w' ⟨rfl, rfl⟩)
        go_ret2
        exact ⟨rfl, rfl⟩
    · have e1 : partN a p = 0 := by simp [partN, h, h1]
      have e2 : partE a p = 1 := by simp [partE, h, h1]
      rw [e1, e2]
      clear e1 e2
      go_enter Tryd.func14, Tryd.ntmps14
      go_wp2_with (go_at_call 23; refine (rcheck_yes a _ h).mono ?_; rintro e w' ⟨rfl, rfl⟩)
      go_ret2
      exact ⟨rfl, rfl⟩
end Go.Proofs.YtnigdcppdkcllaaDoor

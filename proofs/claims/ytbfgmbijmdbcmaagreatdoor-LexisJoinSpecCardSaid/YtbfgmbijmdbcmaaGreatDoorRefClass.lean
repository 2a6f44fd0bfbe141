/- The reference's letter, digit, inner, blank by their contracts. -/
import Derived.Test.YtbfgmbijmdbcmaaGreatDoorProg
import Derived.Test.YtbfgmbijmdbcmaaGreatDoorLexSpec
namespace Go.Proofs.YtbfgmbijmdbcmaaGreatDoor
set_option linter.unusedVariables false
set_option linter.unusedSimpArgs false
open Go.RowKit

set_option maxHeartbeats 400000 in
theorem rletter_any (c : Nat) (w : World) : Calls Tryz.prog 45 #[.int .u8 (c : Int)] w fun e w' => e = .returned (.bool (isLetter c)) ∧ w = w' := by
  go_enter Tryz.func45, Tryz.ntmps45
  go_wp2
  all_goals
    go_ret
    exact ⟨ret_bool (by rw [Bool.eq_iff_iff]; simp [isLetter]; omega), rfl⟩
set_option maxHeartbeats 400000 in
theorem rdigit_any (c : Nat) (w : World) : Calls Tryz.prog 47 #[.int .u8 (c : Int)] w fun e w' => e = .returned (.bool (isDigit c)) ∧ w = w' := by
  go_enter Tryz.func47, Tryz.ntmps47
  go_wp2
  all_goals
    go_ret
    exact ⟨ret_bool (by rw [Bool.eq_iff_iff]; simp [isDigit]; omega), rfl⟩
set_option maxHeartbeats 400000 in
theorem rinner_any (c : Nat) (w : World) : Calls Tryz.prog 46 #[.int .u8 (c : Int)] w fun e w' => e = .returned (.bool (isInner c)) ∧ w = w' := by
  go_enter Tryz.func46, Tryz.ntmps46
  go_wp2_with (first | (go_at_call 45; refine (rletter_any _ _).mono ?_; rintro e w' ⟨rfl, rfl⟩) | (go_at_call 47; refine (rdigit_any _ _).mono ?_; rintro e w' ⟨rfl, rfl⟩))
  all_goals
    go_ret
    exact ⟨ret_bool (by rw [Bool.eq_iff_iff]; simp [isInner, *]; try omega), rfl⟩
end Go.Proofs.YtbfgmbijmdbcmaaGreatDoor

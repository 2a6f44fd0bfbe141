/- The comparison of two parts, by its contract. -/
import Derived.Test.YtnigdcppdkcllaaDoorProg
import Derived.Test.YtnigdcppdkcllaaDoorMInts
import Derived.Deep.QuietTactic
import Derived.BigQuiet
import Derived.BigRegion

import Derived.Lib.Hide
namespace Go.Proofs.YtnigdcppdkcllaaDoor
set_option linter.unusedVariables false
set_option linter.unusedSimpArgs false
open Go.RowKit

/-- cmp.Compare. -/
def cmpI (x y : Int) : Int := if x < y then -1 else if y < x then 1 else 0
theorem nan_any (x : Int) (w : World) : Calls Tryd.prog 61 #[.int .i64 x] w fun e w' => e = .returned (.bool false) ∧ w = w' := by
  have h1 : (x != x) = false := by simp
  go_enter Tryd.func61, Tryd.ntmps61
  go_wp2
  go_ret
  exact ⟨by first | rfl | (exact ret_bool (by simp)), rfl⟩
theorem cmpc_any (x y : Int) (w : World) : Calls Tryd.prog 37 #[.int .i64 x, .int .i64 y] w fun e w' => e = .returned (.int .i64 (cmpI x y)) ∧ w = w' := by
  unfold cmpI
  by_cases h1 : x < y
  · rw [if_pos h1]
    go_enter Tryd.func37, Tryd.ntmps37
    go_wp2_with (go_at_call 61; refine (nan_any _ _).mono ?_; rintro e w' ⟨rfl, rfl⟩)
    go_ret
    exact ⟨rfl, rfl⟩
  · rw [if_neg h1]
    by_cases h2 : y < x
    · rw [if_pos h2]
      go_enter Tryd.func37, Tryd.ntmps37
      go_wp2_with (go_at_call 61; refine (nan_any _ _).mono ?_; rintro e w' ⟨rfl, rfl⟩)
      go_ret
      exact ⟨rfl, rfl⟩
    · rw [if_neg h2]
      go_enter Tryd.func37, Tryd.ntmps37
      go_wp2_with (go_at_call 61; refine (nan_any _ _).mono ?_; rintro e w' ⟨rfl, rfl⟩)
      go_ret
      exact ⟨rfl, rfl⟩
/-- cmp.Or at two values. -/
def orI (a b : Int) : Int := if a = 0 then b else a
theorem or_any (a b : Int) (g : Nat) (w : World) (h0 : w.cell? ⟨g, 0, none⟩ = some (.int .i64 a)) (h1 : w.cell? ⟨g, 1, none⟩ = some (.int .i64 b)) :
    Calls Tryd.prog 36 #[.slice (some ⟨g, 0, none⟩) 2 2] w fun e w' => e = .returned (.int .i64 (orI a b)) ∧ w = w' := by
  unfold orI
  by_cases ha : a = 0
  · rw [if_pos ha]
    have a1 : (a != 0) = false := by simpa using ha
    by_cases hb : b = 0
    · have b1 : (b != 0) = false := by simpa using hb
      have HB := Lib.hid hb
      clear ha hb
      go_enter Tryd.func36, Tryd.ntmps36
      go_wp2
      go_loop [8] (fun i => ∃ k : Nat, k ≤ 2 ∧ i = .int .i64 k) (fun i => 2 - (intOf i).toNat)
      case atStart => exact ⟨0, by omega, rfl⟩
      case round =>
        obtain ⟨k, hk, rfl⟩ := hrel
        by_cases k0 : k = 0
        · subst k0
          go_wp2
          go_round
          case rel => exact ⟨1, by omega, rfl⟩
          case measure => simp [intOf]
        · by_cases k1 : k = 1
          · subst k1
            go_wp2
            go_round
            case rel => exact ⟨2, by omega, rfl⟩
            case measure => simp [intOf]
          · obtain rfl : k = 2 := by omega
            go_wp2
            go_ret
            exact ⟨ret_int HB.out.symm, rfl⟩
    · have b1 : (b != 0) = true := by simpa using hb
      clear ha hb
      go_enter Tryd.func36, Tryd.ntmps36
      go_wp2
      go_loop [8] (fun i => ∃ k : Nat, k ≤ 1 ∧ i = .int .i64 k) (fun i => 2 - (intOf i).toNat)
      case atStart => exact ⟨0, by omega, rfl⟩
      case round =>
        obtain ⟨k, hk, rfl⟩ := hrel
        by_cases k0 : k = 0
        · subst k0
          go_wp2
          go_round
          case rel => exact ⟨1, by omega, rfl⟩
          case measure => simp [intOf]
        · obtain rfl : k = 1 := by omega
          go_wp2
          go_ret
          exact ⟨rfl, rfl⟩
  · rw [if_neg ha]
    have a1 : (a != 0) = true := by simpa using ha
    clear ha
    go_enter Tryd.func36, Tryd.ntmps36
    go_wp2
    go_loop [8] (fun i => i = .int .i64 0) (fun i => 2 - (intOf i).toNat)
    case atStart => rfl
    case round =>
      subst hrel
      go_wp2
      go_ret
      exact ⟨rfl, rfl⟩
end Go.Proofs.YtnigdcppdkcllaaDoor

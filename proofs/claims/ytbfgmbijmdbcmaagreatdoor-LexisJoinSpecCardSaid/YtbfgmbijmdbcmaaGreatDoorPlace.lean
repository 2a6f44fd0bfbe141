/- lexis.Place and the reference's Place by their contracts. -/
import Derived.Test.YtbfgmbijmdbcmaaGreatDoorProg
import Derived.Test.YtbfgmbijmdbcmaaGreatDoorWords
namespace Go.Proofs.YtbfgmbijmdbcmaaGreatDoor
set_option linter.unusedVariables false
set_option linter.unusedSimpArgs false
open Go.RowKit

/-- The number of bytes 10 among the first k. -/
def nls (l : List UInt8) : Nat → Nat
  | 0 => 0
  | k + 1 => if bt l k = 10 then nls l k + 1 else nls l k
/-- The index of the last byte 10 among the first k, or -1. -/
def lastNl (l : List UInt8) : Nat → Int
  | 0 => -1
  | k + 1 => if bt l k = 10 then k else lastNl l k

theorem lastNl_bd (l : List UInt8) (k : Nat) : -1 ≤ lastNl l k ∧ lastNl l k < k := by
  induction k with
  | zero => simp [lastNl]
  | succ k ih => unfold lastNl; split <;> omega
theorem nls_le (l : List UInt8) (k : Nat) : nls l k ≤ k := by
  induction k with
  | zero => simp [nls]
  | succ k ih => unfold nls; split <;> omega
theorem nls_yes (l : List UInt8) (k : Nat) (h : bt l k = 10) : nls l (k + 1) = nls l k + 1 := by simp [nls, h]
theorem nls_no (l : List UInt8) (k : Nat) (h : ¬ bt l k = 10) : nls l (k + 1) = nls l k := by simp [nls, h]
theorem last_yes (l : List UInt8) (k : Nat) (h : bt l k = 10) : lastNl l (k + 1) = k := by simp [lastNl, h]
theorem last_no (l : List UInt8) (k : Nat) (h : ¬ bt l k = 10) : lastNl l (k + 1) = lastNl l k := by simp [lastNl, h]

set_option maxHeartbeats 400000 in
theorem place_any (A : Option Addr) (n c : Nat) (l : List UInt8) (B : Nat) (at_ : Int) (w : World) (h : Rd w B 1 A n c (l.map vb)) (hn : n ≤ 65536) (h0 : 0 ≤ at_) (h1 : at_ ≤ n) :
    Calls Tryz.prog 21 #[.slice A n c, .int .i64 at_] w fun e w' => e = .returned (.tuple #[.int .i64 (nls l at_.toNat + 1), .int .i64 (at_ - lastNl l at_.toNat), .int .i64 0]) ∧ w = w' := by
  obtain ⟨k0, rfl⟩ := Int.eq_ofNat_of_zero_le h0
  have hcap := h.cap
  have hbig := h.big
  go_enter Tryz.func21, Tryz.ntmps21
  go_wp2
  go_loop [4, 7, 8, 9, 27] (fun a b _ _ i => ∃ k : Nat, k ≤ k0 ∧ i = .int .i64 k ∧ a = .int .i64 (nls l k) ∧ b = .int .i64 (lastNl l k)) (fun _ _ _ _ i => k0 - (intOf i).toNat)
  case atStart => exact ⟨0, Nat.zero_le _, rfl, rfl, rfl⟩
  case round =>
    obtain ⟨k, hk, rfl, rfl, rfl⟩ := hrel
    have b1 := lastNl_bd l k
    have b2 := nls_le l k
    by_cases hlt : k < k0
    · obtain ⟨b, off, rfl, hb, hc⟩ := h.byte (k := k) (by omega)
      by_cases h10 : bt l k = 10
      · have e1 : ((bt l k : Int) == 10) = true := by simp; omega
        have Hn := Lib.hid (nls_yes l k h10)
        have Hl := Lib.hid (last_yes l k h10)
        clear h10
        go_wp2
        go_round
        case rel => exact ⟨k + 1, by omega, by go_num, int_eq (by rw [Hn.out]; omega), int_eq (by rw [Hl.out])⟩
        case measure => simp [intOf]; omega
      · have e1 : ((bt l k : Int) == 10) = false := by simp; omega
        have Hn := Lib.hid (nls_no l k h10)
        have Hl := Lib.hid (last_no l k h10)
        clear h10
        go_wp2
        go_round
        case rel => exact ⟨k + 1, by omega, by go_num, int_eq (by rw [Hn.out]), int_eq (by rw [Hl.out])⟩
        case measure => simp [intOf]; omega
    · have : k = k0 := by omega
      subst this
      go_wp2
      go_ret3
      exact ⟨rfl, rfl⟩

set_option maxHeartbeats 400000 in
theorem place_arg (A : Option Addr) (n c : Nat) (at_ : Int) (w : World) (hn : n ≤ 65536) (h : at_ < 0 ∨ n < at_) :
    Calls Tryz.prog 21 #[.slice A n c, .int .i64 at_] w fun e w' => e = .returned (.tuple #[.int .i64 0, .int .i64 0, .int .i64 1]) ∧ w = w' := by
  rcases h with h | h
  · go_enter Tryz.func21, Tryz.ntmps21
    go_wp2
    go_ret3
    exact ⟨rfl, rfl⟩
  · have : ¬ at_ < 0 := by omega
    go_enter Tryz.func21, Tryz.ntmps21
    go_wp2
    go_ret3
    exact ⟨rfl, rfl⟩
set_option maxHeartbeats 400000 in
theorem place_big (A : Option Addr) (n c : Nat) (at_ : Int) (w : World) (hn : 65536 < n) :
    Calls Tryz.prog 21 #[.slice A n c, .int .i64 at_] w fun e w' => e = .returned (.tuple #[.int .i64 0, .int .i64 0, .int .i64 2]) ∧ w = w' := by
  go_enter Tryz.func21, Tryz.ntmps21
  go_wp2
  go_ret3
  exact ⟨rfl, rfl⟩
end Go.Proofs.YtbfgmbijmdbcmaaGreatDoor

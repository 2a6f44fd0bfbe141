/- The reference's Text, Decimal and Digits, by their contracts. -/
import Derived.Test.YtnigdcppdkcllaaDoorMParseW
namespace Go.Proofs.YtnigdcppdkcllaaDoor
set_option linter.unusedVariables false
set_option linter.unusedSimpArgs false
open Go.RowKit

theorem dig_piece : ∀ d : Fin 10, ({ data := #[48, 49, 50, 51, 52, 53, 54, 55, 56, 57] } : ByteArray).extract d.val (d.val + 1) = bs [UInt8.ofNat (48 + d.val)] := by decide +kernel
set_option maxRecDepth 100000 in
set_option maxHeartbeats 1000000 in
theorem digits_any : ∀ (a : Nat), a ≤ 9007199254740992 → ∀ w : World, Calls Tryd.prog 45 #[.int .u64 (a : Int)] w fun e w' => e = .returned (.string (bs (Lib.decDigits a))) ∧ w = w' := by
  intro a
  induction a using Nat.strongRecOn with
  | _ a ih =>
    intro ha w
    obtain ⟨d, hd⟩ : ∃ d : Nat, a % 10 = d := ⟨_, rfl⟩
    obtain ⟨q, hq⟩ : ∃ q : Nat, a / 10 = q := ⟨_, rfl⟩
    have hd10 : d < 10 := by omega
    have hx := dig_piece ⟨d, hd10⟩
    dsimp only at hx
    obtain ⟨X, hX⟩ : ∃ X, [UInt8.ofNat (48 + d)] = X := ⟨_, rfl⟩
    have hXl : X.length = 1 := by rw [← hX]; rfl
    rw [hX] at hx
    have hdi : (a : Int) % 10 = (d : Int) := by omega
    have hqi : (a : Int) / 10 = (q : Int) := by omega
    have hdi' : (d : Int) < 10 := by omega
    by_cases h : a < 10
    · have HE := Lib.hid (show bs X = bs (Lib.decDigits a) by rw [dec_small h, ← hX, ← hd, show a % 10 = a from by omega])
      have hlt : (a : Int) < 10 := by omega
      clear ih hd hq hqi hX
      go_enter Tryd.func45, Tryd.ntmps45
      go_wp2
      go_ret
      exact ⟨by rw [← HE.out]; rfl, rfl⟩
    · have HE := Lib.hid (show bs (Lib.decDigits q) ++ bs X = bs (Lib.decDigits a) by rw [bs_cat, dec_big h, hd, hq, hX])
      have hlt : ¬ (a : Int) < 10 := by omega
      have hI := Lib.hid (ih q (by omega) (by omega) w)
      have hl := Lib.hid (Lib.decDigits_length q)
      have hn20 : (Lib.decDigits q).length ≤ 20 := by rw [Lib.decDigits_length]; exact Lib.nDigits_le20 q (by omega)
      clear ih hd hq hX
      go_enter Tryd.func45, Tryd.ntmps45
      go_wp2_with (fail)
      refine hI.out.mono ?_
      rintro e w' ⟨rfl, rfl⟩
      go_wp2
      go_ret
      exact ⟨by rw [← HE.out]; rfl, rfl⟩
theorem decimal_any (a : Nat) (ha : a ≤ 9007199254740992) (w : World) : Calls Tryd.prog 30 #[.int .i64 (a : Int)] w fun e w' => e = .returned (.string (bs (Lib.decDigits a))) ∧ w = w' := by
  have hI := Lib.hid (digits_any a ha w)
  have h0 : ¬ (a : Int) < 0 := by omega
  go_enter Tryd.func30, Tryd.ntmps30
  go_wp2_with (fail)
  refine hI.out.mono ?_
  rintro e w' ⟨rfl, rfl⟩
  go_wp2
  go_ret
  exact ⟨rfl, rfl⟩
end Go.Proofs.YtnigdcppdkcllaaDoor

/- The reference's Integer and Sign by their contracts. -/
import Derived.Test.YtbfgmbijmdbcmaaGreatDoorRefClass
import Derived.Test.YtbfgmbijmdbcmaaGreatDoorStrs2
namespace Go.Proofs.YtbfgmbijmdbcmaaGreatDoor
set_option linter.unusedVariables false
set_option linter.unusedSimpArgs false
open Go.RowKit

theorem bs_drop (l : List UInt8) (k : Nat) : (bs l).extract k l.length = bs (l.drop k) := by
  apply ByteArray.ext
  simp [bs, ByteArray.data_extract]
  rw [List.take_of_length_le (by simp)]
theorem num_no {u : List UInt8} {k : Nat} (hk : k < u.length) (h : isDigit (bt u k) = false) : numB u = false := by
  have : (u.all fun c => isDigit c.toNat) = false := by
    rw [Bool.eq_false_iff]
    intro e
    rw [(all_bt isDigit u).1 e k hk] at h
    cases h
  simp [numB, this]
theorem num_yes {u : List UInt8} (h : ∀ q, q < u.length → isDigit (bt u q) = true) : numB u = (decide (0 < u.length) && decide (u.length ≤ 18) && (bt u 0 != 48)) := by
  have : (u.all fun c => isDigit c.toNat) = true := (all_bt isDigit u).2 h
  unfold numB
  rw [this, Bool.and_true]
  cases u <;> simp
set_option maxHeartbeats 2000000 in
theorem rinteger_any (l : List UInt8) (w : World) (hl : l.length ≤ 9223372036854775807) :
    Calls Tryz.prog 37 #[.string (bs l)] w fun e w' => e = .returned (.bool (intB l)) ∧ w = w' := by
  by_cases hz : l = [48]
  · have hz1 : (l == [48]) = true := by simp [hz]
    have H := Lib.hid (show intB l = true by unfold intB; rw [hz1]; rfl)
    clear hz
    go_enter Tryz.func37, Tryz.ntmps37
    go_wp2
    go_ret
    exact ⟨ret_bool H.out.symm, rfl⟩
  · have hz1 : (l == [48]) = false := by simp [hz]
    have H := Lib.hid (show intB l = numB (unsigned l) by unfold intB unsigned; rw [hz1]; split <;> simp)
    clear hz
    by_cases h0 : 0 < l.length
    · by_cases h45 : bt l 0 = 45
      · have e1 := yb (a := bt l 0) (m := 45) (by omega)
        have H45 := Lib.hid h45
        clear h45
        go_enter Tryz.func37, Tryz.ntmps37
        go_wp2
        rw [bs_drop]
        generalize hu : l.drop 1 = u at *
        have hul : u.length ≤ 9223372036854775807 := by rw [← hu]; simp; omega
        have HU := Lib.hid (show unsigned l = u by unfold unsigned; rw [if_pos H45.out]; exact hu)
        clear hu
        go_loop [3] (fun i => ∃ k : Nat, i = .int .i64 k ∧ k ≤ u.length ∧ Hid (∀ q, q < k → isDigit (bt u q) = true)) (fun i => u.length - (intOf i).toNat)
        case atStart => exact ⟨0, rfl, Nat.zero_le _, fun q hq => absurd hq (by omega)⟩
        case round =>
          obtain ⟨k, rfl, hk, Hk⟩ := hrel
          by_cases hlt : k < u.length
          · cases hd : isDigit (bt u k) with
            | false =>
              have HN := Lib.hid (num_no hlt hd)
              go_wp2_with (go_at_call 47; refine (rdigit_any _ _).mono ?_; rw [hd]; rintro e w' ⟨rfl, rfl⟩)
              go_ret
              exact ⟨ret_bool (by rw [H.out, HU.out, HN.out]), rfl⟩
            | true =>
              have HN := Lib.hid (show ∀ q, q < k + 1 → isDigit (bt u q) = true from fun q hq => by
                rcases Nat.lt_or_ge q k with h | h
                · exact Hk.out q h
                · rw [show q = k from by omega]; exact hd)
              go_wp2_with (go_at_call 47; refine (rdigit_any _ _).mono ?_; rw [hd]; rintro e w' ⟨rfl, rfl⟩)
              go_round
              case rel => exact ⟨k + 1, by go_num, by omega, HN.out⟩
              case measure => simp [intOf]; omega
          · have hku : k = u.length := by omega
            subst hku
            have HV := Lib.hid (num_yes Hk.out)
            by_cases h1 : 0 < u.length
            · by_cases h2 : u.length ≤ 18
              · by_cases h3 : bt u 0 = 48
                · have e3 := ynb (a := bt u 0) (m := 48) (by omega)
                  have HW := Lib.hid (show numB u = false by rw [HV.out]; simp [h3])
                  clear h3
                  go_wp2
                  go_ret
                  exact ⟨ret_bool (by rw [H.out, HU.out, HW.out]), rfl⟩
                · have e3 := nnb (a := bt u 0) (m := 48) (by omega)
                  have HW := Lib.hid (show numB u = true by rw [HV.out]; simp [h1, h2, h3])
                  clear h3
                  go_wp2
                  go_ret
                  exact ⟨ret_bool (by rw [H.out, HU.out, HW.out]), rfl⟩
              · have HW := Lib.hid (show numB u = false by rw [HV.out]; simp [h2])
                go_wp2
                go_ret
                exact ⟨ret_bool (by rw [H.out, HU.out, HW.out]), rfl⟩
            · have HW := Lib.hid (show numB u = false by rw [HV.out]; simp [h1])
              have h1' : u.length = 0 := by omega
              go_wp2
              go_ret
              exact ⟨ret_bool (by rw [H.out, HU.out, HW.out]), rfl⟩
      · have e1 := nb (a := bt l 0) (m := 45) (by omega)
        have H45 := Lib.hid h45
        clear h45
        go_enter Tryz.func37, Tryz.ntmps37
        go_wp2
        have HU := Lib.hid (show unsigned l = l by unfold unsigned; rw [if_neg H45.out])
        go_loop [3] (fun i => ∃ k : Nat, i = .int .i64 k ∧ k ≤ l.length ∧ Hid (∀ q, q < k → isDigit (bt l q) = true)) (fun i => l.length - (intOf i).toNat)
        case atStart => exact ⟨0, rfl, Nat.zero_le _, fun q hq => absurd hq (by omega)⟩
        case round =>
          obtain ⟨k, rfl, hk, Hk⟩ := hrel
          by_cases hlt : k < l.length
          · cases hd : isDigit (bt l k) with
            | false =>
              have HN := Lib.hid (num_no hlt hd)
              go_wp2_with (go_at_call 47; refine (rdigit_any _ _).mono ?_; rw [hd]; rintro e w' ⟨rfl, rfl⟩)
              go_ret
              exact ⟨ret_bool (by rw [H.out, HU.out, HN.out]), rfl⟩
            | true =>
              have HN := Lib.hid (show ∀ q, q < k + 1 → isDigit (bt l q) = true from fun q hq => by
                rcases Nat.lt_or_ge q k with h | h
                · exact Hk.out q h
                · rw [show q = k from by omega]; exact hd)
              go_wp2_with (go_at_call 47; refine (rdigit_any _ _).mono ?_; rw [hd]; rintro e w' ⟨rfl, rfl⟩)
              go_round
              case rel => exact ⟨k + 1, by go_num, by omega, HN.out⟩
              case measure => simp [intOf]; omega
          · have hku : k = l.length := by omega
            subst hku
            have HV := Lib.hid (num_yes Hk.out)
            by_cases h1 : 0 < l.length
            · by_cases h2 : l.length ≤ 18
              · by_cases h3 : bt l 0 = 48
                · have e3 := ynb (a := bt l 0) (m := 48) (by omega)
                  have HW := Lib.hid (show numB l = false by rw [HV.out]; simp [h3])
                  clear h3
                  go_wp2
                  go_ret
                  exact ⟨ret_bool (by rw [H.out, HU.out, HW.out]), rfl⟩
                · have e3 := nnb (a := bt l 0) (m := 48) (by omega)
                  have HW := Lib.hid (show numB l = true by rw [HV.out]; simp [h1, h2, h3])
                  clear h3
                  go_wp2
                  go_ret
                  exact ⟨ret_bool (by rw [H.out, HU.out, HW.out]), rfl⟩
              · have HW := Lib.hid (show numB l = false by rw [HV.out]; simp [h2])
                go_wp2
                go_ret
                exact ⟨ret_bool (by rw [H.out, HU.out, HW.out]), rfl⟩
            · have HW := Lib.hid (show numB l = false by rw [HV.out]; simp [h1])
              have h1' : l.length = 0 := by omega
              go_wp2
              go_ret
              exact ⟨ret_bool (by rw [H.out, HU.out, HW.out]), rfl⟩
    · have h0' : l.length = 0 := by omega
      go_enter Tryz.func37, Tryz.ntmps37
      have HW := Lib.hid (show intB l = false by rw [List.length_eq_zero_iff.1 h0']; rfl)
      go_wp2
      go_loop [3] (fun i => i = .int .i64 0) (fun i => 0)
      case atStart => exact rfl
      case round =>
        subst hrel
        go_wp2
        go_ret
        exact ⟨ret_bool (by rw [HW.out]), rfl⟩

theorem sign_iff (l : List UInt8) : signB l = (l == [123] || l == [125] || l == [40] || l == [41] || l == [91] || l == [93] || l == [59] || l == [44] || l == [58] || l == [47] || l == [61] || l == [60] || l == [62] || l == [60, 61] || l == [62, 61]) := by
  unfold signB
  by_cases h : l.length = 1
  · obtain ⟨c, rfl⟩ := List.length_eq_one_iff.1 h
    have : ∀ n : Nat, n < 256 → isSignC n = ([UInt8.ofNat n] == [123] || [UInt8.ofNat n] == [125] || [UInt8.ofNat n] == [40] || [UInt8.ofNat n] == [41] || [UInt8.ofNat n] == [91] || [UInt8.ofNat n] == [93] || [UInt8.ofNat n] == [59] || [UInt8.ofNat n] == [44] || [UInt8.ofNat n] == [58] || [UInt8.ofNat n] == [47] || [UInt8.ofNat n] == [61] || [UInt8.ofNat n] == [60] || [UInt8.ofNat n] == [62]) := by decide +kernel
    have h2 := this c.toNat (UInt8.toNat_lt c)
    rw [UInt8.ofNat_toNat] at h2
    rw [bt_cons_zero, h2]
    simp
  · have h1 : (l.length == 1) = false := by simpa using h
    have h2 : ∀ c : UInt8, (l == [c]) = false := fun c => by
      rw [Bool.eq_false_iff]; intro e; exact h (by simp at e; simp [e])
    rw [h1]
    simp [h2]
set_option maxHeartbeats 4000000 in
theorem rsign_any (l : List UInt8) (w : World) :
    Calls Tryz.prog 40 #[.string (bs l)] w fun e w' => e = .returned (.bool (signB l)) ∧ w = w' := by
  have H := Lib.hid (sign_iff l)
  go_enter Tryz.func40, Tryz.ntmps40
  go_wp2
  all_goals
    go_ret
    refine ⟨ret_bool ?_, rfl⟩
    rw [H.out]
    clear H
    simp_all
end Go.Proofs.YtbfgmbijmdbcmaaGreatDoor

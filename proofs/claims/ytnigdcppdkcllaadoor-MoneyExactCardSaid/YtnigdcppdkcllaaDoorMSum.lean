/- Sum (the program's and the reference's) and the reference's Same, by their contracts. -/
import Derived.Test.YtnigdcppdkcllaaDoorMCheck
import Derived.Deep.QuietTactic
import Derived.BigQuiet
namespace Go.Proofs.YtnigdcppdkcllaaDoor
set_option linter.unusedVariables false
set_option linter.unusedSimpArgs false
open Go.RowKit

theorem amt_sum {n x : Int} (h : amtB n = true) (h' : amtB x = true) : -2251799813685248 ≤ n + x ∧ n + x ≤ 2251799813685248 := by
  have := amtB_iff.1 h; have := amtB_iff.1 h'; omega
set_option maxHeartbeats 400000 in
theorem sum_any (A : Option Addr) (n c B : Nat) (l : List Int) (w : World) (h : Rd w B 1 A n c (l.map vi)) :
    Calls Tryd.prog 21 #[.slice A n c] w fun e w' => e = .returned (.tuple #[.int .i64 (sumN l), .int .i64 (sumE l)]) ∧ w = w' := by
  have hl := h.ilen
  have hcap := h.cap
  have hbig := h.big
  go_enter Tryd.func21, Tryd.ntmps21
  go_wp2
  go_loop [2, 8] (fun s i => ∃ k : Nat, ∃ m : Int, k ≤ n ∧ i = .int .i64 k ∧ s = .int .i64 m ∧ amtB m = true ∧ Hid (sumF 0 l = sumF m (l.drop k))) (fun _ i => n - (intOf i).toNat)
  case atStart => exact ⟨0, 0, Nat.zero_le _, rfl, rfl, by decide, by rfl⟩
  case round =>
    obtain ⟨k, m, hk, rfl, rfl, hm, hs⟩ := hrel
    obtain ⟨b1, b2⟩ := amtB_iff.1 hm
    by_cases hlt : k < n
    · obtain ⟨b, off, rfl, hb, hx⟩ := h.int hlt
      cases h1 : amtB (gi l k) with
      | false =>
        have EE := Lib.hid (sum_none (sumF_no hs.out (by omega) (.inl h1)))
        generalize gi l k = x at *
        go_wp2_with (go_at_call 20; refine (check_no x _ h1).mono ?_; rintro e w' ⟨rfl, rfl⟩)
        go_ret2
        exact ⟨ret_ii EE.out.1.symm EE.out.2.symm, rfl⟩
      | true =>
        obtain ⟨b3, b4⟩ := amt_sum hm h1
        cases h2 : amtB (m + gi l k) with
        | false =>
          have EE := Lib.hid (sum_none (sumF_no hs.out (by omega) (.inr h2)))
          generalize gi l k = x at *
          go_wp2_with (go_at_call 20; first | ((with_reducible refine (check_yes x _ h1).mono ?_); rintro e w' ⟨rfl, rfl⟩) | ((with_reducible refine (check_no (m + x) _ h2).mono ?_); rintro e w' ⟨rfl, rfl⟩))
          go_ret2
          exact ⟨ret_ii EE.out.1.symm EE.out.2.symm, rfl⟩
        | true =>
          have HS := Lib.hid (sumF_yes hs.out (by omega) h1 h2)
          obtain ⟨b5, b6⟩ := amtB_iff.1 h2
          go_wp2_with (go_at_call 20; first | ((with_reducible refine (check_yes (gi l k) _ h1).mono ?_); rintro e w' ⟨rfl, rfl⟩) | ((with_reducible refine (check_yes (m + gi l k) _ h2).mono ?_); rintro e w' ⟨rfl, rfl⟩))
          go_round
          case rel => exact ⟨k + 1, _, by omega, by go_num, rfl, h2, HS.out⟩
          case measure => simp [intOf]; omega
    · have EE := Lib.hid (sum_some (sumF_end hs.out (by omega)))
      go_wp2
      go_ret2
      exact ⟨ret_ii EE.out.1.symm EE.out.2.symm, rfl⟩
set_option maxHeartbeats 400000 in
theorem rsum_any (A : Option Addr) (n c B : Nat) (l : List Int) (w : World) (h : Rd w B 1 A n c (l.map vi)) :
    Calls Tryd.prog 22 #[.slice A n c] w fun e w' => e = .returned (.tuple #[.int .i64 (sumN l), .int .i64 (sumE l)]) ∧ w = w' := by
  have hl := h.ilen
  have hcap := h.cap
  have hbig := h.big
  go_enter Tryd.func22, Tryd.ntmps22
  go_wp2
  go_loop [4, 5] (fun s i => ∃ k : Nat, ∃ m : Int, k ≤ n ∧ i = .int .i64 k ∧ s = .int .i64 m ∧ amtB m = true ∧ Hid (sumF 0 l = sumF m (l.drop k))) (fun _ i => n - (intOf i).toNat)
  case atStart => exact ⟨0, 0, Nat.zero_le _, rfl, rfl, by decide, by rfl⟩
  case round =>
    obtain ⟨k, m, hk, rfl, rfl, hm, hs⟩ := hrel
    obtain ⟨b1, b2⟩ := amtB_iff.1 hm
    by_cases hlt : k < n
    · obtain ⟨b, off, rfl, hb, hx⟩ := h.int hlt
      cases h1 : amtB (gi l k) with
      | false =>
        have EE := Lib.hid (sum_none (sumF_no hs.out (by omega) (.inl h1)))
        generalize gi l k = x at *
        go_wp2_with (go_at_call 23; refine (rcheck_no x _ h1).mono ?_; rintro e w' ⟨rfl, rfl⟩)
        go_ret2
        exact ⟨ret_ii EE.out.1.symm EE.out.2.symm, rfl⟩
      | true =>
        obtain ⟨b3, b4⟩ := amt_sum hm h1
        cases h2 : amtB (m + gi l k) with
        | false =>
          have EE := Lib.hid (sum_none (sumF_no hs.out (by omega) (.inr h2)))
          generalize gi l k = x at *
          go_wp2_with (go_at_call 23; first | ((with_reducible refine (rcheck_yes x _ h1).mono ?_); rintro e w' ⟨rfl, rfl⟩) | ((with_reducible refine (rcheck_no (m + x) _ h2).mono ?_); rintro e w' ⟨rfl, rfl⟩))
          go_ret2
          exact ⟨ret_ii EE.out.1.symm EE.out.2.symm, rfl⟩
        | true =>
          have HS := Lib.hid (sumF_yes hs.out (by omega) h1 h2)
          obtain ⟨b5, b6⟩ := amtB_iff.1 h2
          go_wp2_with (go_at_call 23; first | ((with_reducible refine (rcheck_yes (gi l k) _ h1).mono ?_); rintro e w' ⟨rfl, rfl⟩) | ((with_reducible refine (rcheck_yes (m + gi l k) _ h2).mono ?_); rintro e w' ⟨rfl, rfl⟩))
          go_round
          case rel => exact ⟨k + 1, _, by omega, by go_num, rfl, h2, HS.out⟩
          case measure => simp [intOf]; omega
    · have EE := Lib.hid (sum_some (sumF_end hs.out (by omega)))
      go_wp2
      go_ret2
      exact ⟨ret_ii EE.out.1.symm EE.out.2.symm, rfl⟩
theorem take_gi_succ {a b : List Int} {k : Nat} (h : a.take k = b.take k) (ha : k < a.length) (hb : k < b.length) (e : gi a k = gi b k) : a.take (k + 1) = b.take (k + 1) := by
  rw [List.take_succ_eq_append_getElem ha, List.take_succ_eq_append_getElem hb, h, ← gi_get a k ha, ← gi_get b k hb, e]
set_option maxHeartbeats 400000 in
theorem sameI_any (A A' : Option Addr) (n n' c c' B : Nat) (T T' : List Int) (w : World) (h : Rd w B 1 A n c (T.map vi)) (h' : Rd w B 1 A' n' c' (T'.map vi)) :
    Calls Tryd.prog 15 #[.slice A n c, .slice A' n' c'] w fun e w' => e = .returned (.bool (decide (T = T'))) ∧ Below w.heap.size w w' := by
  have hT := h.ilen
  have hT' := h'.ilen
  have hcap := h.cap
  have hbig := h.big
  have hcap' := h'.cap
  have hbig' := h'.big
  by_cases hn : n = n'
  · subst hn
    go_enter Tryd.func15, Tryd.ntmps15
    go_wp2
    go_loopw [5] (fun i wr => ∃ k : Nat, k ≤ n ∧ i = .int .i64 k ∧ Hid (T.take k = T'.take k) ∧ Below w.heap.size w wr ∧ Rd wr B 1 A n c (T.map vi) ∧ Rd wr B 1 A' n c' (T'.map vi)) (fun i _ => n - (intOf i).toNat)
    case atStart => exact ⟨0, Nat.zero_le _, rfl, rfl, Below.refl _ _, h, h'⟩
    case round =>
      obtain ⟨k, hk, rfl, ht, hbw, hr, hr'⟩ := hrel
      by_cases hlt : k < n
      · obtain ⟨b, off, rfl, hb, g1⟩ := hr.int hlt
        obtain ⟨b', off', rfl, hb', g1'⟩ := hr'.int hlt
        by_cases hk1 : gi T k = gi T' k
        · have q1 : (gi T k == gi T' k) = true := by simpa using hk1
          have q2 : (gi T k != gi T' k) = false := by simpa using hk1
          have HK := Lib.hid (take_gi_succ ht.out (by omega) (by omega) hk1)
          clear hk1
          generalize gi T k = x at *
          generalize gi T' k = y at *
          go_wp2
          go_quiet (fail)
          go_wp2
          go_round
          case rel => exact ⟨k + 1, by omega, by go_num, HK.out, hbw.trans (bdrew wr nq), hr.drewN nq, hr'.drewN nq⟩
          case measure => simp [intOf]; omega
        · have q1 : (gi T k == gi T' k) = false := by simpa using hk1
          have q2 : (gi T k != gi T' k) = true := by simpa using hk1
          have HN := Lib.hid (show T ≠ T' from fun e => hk1 (by rw [e]))
          clear hk1
          generalize gi T k = x at *
          generalize gi T' k = y at *
          go_wp2
          go_quiet (fail)
          go_wp2
          go_ret
          exact ⟨ret_bool (by simp [HN.out]), hbw.trans (bdrew wr nq)⟩
      · have hkn : k = n := by omega
        subst hkn
        have HE := Lib.hid (show T = T' by have ht := ht.out; rw [List.take_of_length_le (by omega), List.take_of_length_le (by omega)] at ht; exact ht)
        go_wp2
        go_ret
        exact ⟨ret_bool (by simp [HE.out]), hbw⟩
  · have HE := Lib.hid (show T ≠ T' from fun e => hn (by rw [← hT, ← hT', e]))
    have e1 := nnb (a := n) (m := n') (by omega)
    clear hn
    go_enter Tryd.func15, Tryd.ntmps15
    go_wp2
    go_ret
    exact ⟨ret_bool (by simp [HE.out]), Below.refl _ _⟩
end Go.Proofs.YtnigdcppdkcllaaDoor

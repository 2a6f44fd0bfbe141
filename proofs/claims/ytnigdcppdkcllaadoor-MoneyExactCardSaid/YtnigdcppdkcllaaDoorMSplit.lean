/- Split, for every amount and weights. -/
import Derived.Test.YtnigdcppdkcllaaDoorMSplitW
namespace Go.Proofs.YtnigdcppdkcllaaDoor
set_option linter.unusedVariables false
set_option linter.unusedSimpArgs false
open Go.RowKit

/-- What a call of Split leaves behind. -/
def SplitPost (m : Int) (ws : List Int) (w : World) (e : Ending) (w' : World) : Prop :=
  ∃ A n c l, e = .returned (.tuple #[.slice A n c, .int .i64 (splitE m ws)]) ∧ SplitIs m ws l ∧ Rd w' w'.heap.size 1 A n c (l.map vi) ∧ Below w.heap.size w w'
theorem post_fail {m : Int} {ws : List Int} {w w' : World} {x : Int} (hx : splitE m ws = x) (h0 : x ≠ 0) (hb : Below w.heap.size w w') : SplitPost m ws w (.returned (.tuple #[.slice none 0 0, .int .i64 x])) w' :=
  ⟨none, 0, 0, [], by rw [hx], .inr ⟨by rw [hx]; exact h0, rfl⟩, Rd.nil, hb⟩
theorem range_bad {ws : List Int} {k : Nat} (hk : k < ws.length) (h : gi ws k < 0 ∨ 1000 < gi ws k) : ¬ WOk ws := fun h' => by
  have := h'.2.1 k hk; omega
set_option maxHeartbeats 1000000 in
set_option maxRecDepth 100000 in
theorem split_any (A : Option Addr) (n c : Nat) (ws : List Int) (m : Int) (w : World) (h : Rd w w.heap.size 1 A n c (ws.map vi)) :
    Calls Tryd.prog 11 #[.int .i64 m, .slice A n c] w (SplitPost m ws w) := by
  have hl := h.ilen
  have hcap := h.cap
  have hbig := h.big
  cases hm : amtB m with
  | false =>
    have hE := splitE_amt (ws := ws) hm
    have HP := Lib.hid (fun w' hb => post_fail (w := w) (w' := w') hE (by omega) hb)
    clear hE
    go_enter Tryd.func11, Tryd.ntmps11
    go_wp2_with (go_at_call 20; refine (check_no m _ hm).mono ?_; rintro e w' ⟨rfl, rfl⟩)
    go_ret2
    exact HP.out _ (Below.refl _ _)
  | true =>
    by_cases hW : WOk ws
    · have hE := splitE_ok hm hW
      have fin : ∀ e w', (∃ A' c' l, e = .returned (.tuple #[.slice A' n c', .int .i64 0]) ∧ IsSplit m ws l ∧ Rd w' w'.heap.size 1 A' n c' (l.map vi) ∧ Below w.heap.size w w') → SplitPost m ws w e w' := by
        rintro e w' ⟨A', c', l, rfl, h1, h2, h3⟩
        exact ⟨A', n, c', l, by rw [hE], .inl ⟨hE, h1⟩, h2, h3⟩
      rcases sgn_cases m with ⟨hm0, hsg, hab⟩ | ⟨hm0, hsg, hab⟩
      · exact (split_neg' A n c ws m w h hm hW hm0 hsg hab).mono fin
      · exact (split_pos A n c ws m w h hm hW hm0 hsg hab).mono fin
    · have hE := splitE_arg hm hW
      have HP := Lib.hid (fun w' hb => post_fail (w := w) (w' := w') hE (by omega) hb)
      clear hE
      by_cases hn : 256 < n
      · go_enter Tryd.func11, Tryd.ntmps11
        go_wp2_with (go_at_call 20; refine (check_yes m _ hm).mono ?_; rintro e w' ⟨rfl, rfl⟩)
        go_ret2
        exact HP.out _ (Below.refl _ _)
      · have hn' : n ≤ 256 := by omega
        have d1 : decide ((256 : Int) < (n : Int)) = false := decide_eq_false (by omega)
        have d2 : decide (256 < n) = false := decide_eq_false (by omega)
        have HL := Lib.hid hl
        have HWN := Lib.hid hW
        clear hl hW hn
        go_enter Tryd.func11, Tryd.ntmps11
        go_wp2_with (go_at_call 20; refine (check_yes m _ hm).mono ?_; rintro e w' ⟨rfl, rfl⟩)
        go_loop [6, 24] (fun s i => ∃ k : Nat, k ≤ n ∧ i = .int .i64 k ∧ s = .int .i64 (sumTo (gi ws) k) ∧ Hid (∀ i, i < k → 0 ≤ gi ws i ∧ gi ws i ≤ 1000)) (fun _ i => n - (intOf i).toNat)
        case atStart => exact ⟨0, Nat.zero_le _, rfl, rfl, Lib.hid (fun _ hi => by omega)⟩
        case round =>
          obtain ⟨k, hk, rfl, rfl, hok⟩ := hrel
          have s0 : 0 ≤ sumTo (gi ws) k := sumTo_nonneg k (fun i hi => (hok.out i hi).1)
          have s1 : sumTo (gi ws) k ≤ 256000 := by
            have h1 := sumTo_le (f := gi ws) (g := fun _ => 1000) k (fun i hi => (hok.out i hi).2)
            have h2 : ∀ n : Nat, sumTo (fun _ => 1000) n = 1000 * n := by
              intro n
              induction n with
              | zero => rfl
              | succ n ih => rw [sumTo, ih]; omega
            rw [h2] at h1
            omega
          by_cases hlt : k < n
          · obtain ⟨b, off, rfl, hb, hx⟩ := h.int hlt
            have HS := Lib.hid (show sumTo (gi ws) (k + 1) = sumTo (gi ws) k + gi ws k from rfl)
            by_cases g1 : gi ws k < 0
            · clear HWN
              generalize gi ws k = x at *
              go_wp2
              go_ret2
              exact HP.out _ (Below.refl _ _)
            · by_cases g2 : 1000 < gi ws k
              · generalize gi ws k = x at *
                go_wp2
                go_ret2
                exact HP.out _ (Below.refl _ _)
              · have g3 : 0 ≤ gi ws k := by omega
                have g4 : gi ws k ≤ 1000 := by omega
                have HX := Lib.hid (show ∀ i, i < k + 1 → 0 ≤ gi ws i ∧ gi ws i ≤ 1000 from fun i hi => by
                  rcases Nat.eq_or_lt_of_le (Nat.le_of_lt_succ hi) with rfl | h2
                  · exact ⟨g3, g4⟩
                  · exact hok.out i h2)
                generalize gi ws k = x at *
                go_wp2
                go_round
                case rel => exact ⟨k + 1, by omega, by go_num, by rw [HS.out], HX⟩
                case measure => simp [intOf]; omega
          · obtain rfl : k = n := by omega
            have hz : (sumTo (gi ws) k == 0) = true := by
              rw [beq_iff_eq]
              rcases Int.lt_or_le 0 (sumTo (gi ws) k) with h1 | h1
              · exfalso
                refine HWN.out ⟨by rw [HL.out]; exact hn', fun i hi => hok.out i (by rw [← HL.out]; exact hi), ?_⟩
                unfold wsum
                rw [HL.out]; omega
              · omega
            generalize sumTo (gi ws) k = S at *
            go_wp2
            go_ret2
            exact HP.out _ (Below.refl _ _)
end Go.Proofs.YtnigdcppdkcllaaDoor

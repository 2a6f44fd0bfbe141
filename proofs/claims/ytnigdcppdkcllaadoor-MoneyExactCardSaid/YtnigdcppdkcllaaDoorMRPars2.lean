/- The reference's Parse, by its contract. -/
import Derived.Test.YtnigdcppdkcllaaDoorMRParse
namespace Go.Proofs.YtnigdcppdkcllaaDoor
set_option linter.unusedVariables false
set_option linter.unusedSimpArgs false
open Go.RowKit

theorem rfold_succ (l : List UInt8) (k : Nat) (hk : k < l.length) : rfold (l.take (k + 1)) = if 48 ≤ bt l k ∧ bt l k ≤ 57 ∧ rfold (l.take k) ≤ 11258999068426240 then 10 * rfold (l.take k) + ((bt l k : Int) - 48) else rfold (l.take k) := by
  rw [List.take_succ_eq_append_getElem hk]
  unfold rfold
  rw [List.foldl_append, List.foldl_cons, List.foldl_nil, rstep, bt_get l k hk]
theorem rsign_bt (l : List UInt8) : rsign l = if 0 < l.length ∧ bt l 0 = 45 then - rfold l else rfold l := by
  unfold rsign
  cases l with
  | nil => simp
  | cons c l => simp [bt_cons_zero]
set_option maxRecDepth 100000 in
set_option maxHeartbeats 2000000 in
theorem rparse_tail (l : List UInt8) (n : Int) (hn : n = rsign l) : (∃ c : Bool, c = (txtR n != l) ∧ c = (!(txtR n == l)) ∧ (amtE n = 0 ∧ c = false ∧ ParseIs l n 0 ∨ amtE n = 50 ∧ ParseIs l 0 50 ∨ amtE n = 0 ∧ c = true ∧ ParseIs l 0 50)) := by
  refine ⟨txtR n != l, rfl, rfl, ?_⟩
  cases hm : amtB n with
  | false => exact .inr (.inl ⟨amtE_no hm, rparse_miss (by rw [← hn]; simp [hm])⟩)
  | true =>
    by_cases h : txt n = l
    · exact .inl ⟨amtE_yes hm, by rw [txtR_yes hm, h]; simp, parse_hit hm h⟩
    · exact .inr (.inr ⟨amtE_yes hm, by rw [txtR_yes hm]; simpa using h, rparse_miss (by rw [← hn]; exact fun h' => h h'.2)⟩)
def RParsePost (l : List UInt8) (w : World) (e : Ending) (w' : World) : Prop := ∃ n ec, e = .returned (.tuple #[.int .i64 n, .int .i64 ec]) ∧ ParseIs l n ec ∧ w = w'
set_option maxRecDepth 100000 in
set_option maxHeartbeats 2000000 in
theorem rparse_any (l : List UInt8) (w : World) (hmax : l.length ≤ 9223372036854775807) : Calls Tryd.prog 19 #[.string (bs l)] w (RParsePost l w) := by
  by_cases h30 : 30 < l.length
  · have HP := Lib.hid (long_miss h30)
    go_enter Tryd.func19, Tryd.ntmps19
    go_wp2
    go_ret2
    exact ⟨_, _, rfl, HP.out, rfl⟩
  · have hl30 : l.length ≤ 30 := by omega
    go_enter Tryd.func19, Tryd.ntmps19
    go_wp2
    go_loop [4, 5] (fun s i => ∃ k : Nat, k ≤ l.length ∧ i = .int .i64 k ∧ s = .int .i64 (rfold (l.take k))) (fun _ i => l.length - (intOf i).toNat)
    case atStart => exact ⟨0, Nat.zero_le _, rfl, rfl⟩
    case round =>
      obtain ⟨k, hk, rfl, rfl⟩ := hrel
      obtain ⟨b1, b2⟩ := rfold_take_bd l k
      by_cases hlt : k < l.length
      · have HS := Lib.hid (rfold_succ l k hlt)
        have hb256 := bt_lt l k
        have hb' : (bt l k : Int) < 256 := by omega
        generalize rfold (l.take k) = x at *
        by_cases h1 : 48 ≤ bt l k
        · have h1' : (48 : Int) ≤ (bt l k : Int) := by omega
          by_cases h2 : bt l k ≤ 57
          · have h2' : (bt l k : Int) ≤ 57 := by omega
            by_cases h3 : x ≤ 11258999068426240
            · have HS' := Lib.hid (show rfold (l.take (k + 1)) = 10 * x + ((bt l k : Int) - 48) by rw [HS.out, if_pos ⟨h1, h2, h3⟩])
              clear HS
              go_wp2
              go_round
              case rel => exact ⟨k + 1, by omega, by go_num, by rw [HS'.out]⟩
              case measure => simp [intOf]; omega
            · have HS' := Lib.hid (show rfold (l.take (k + 1)) = x by rw [HS.out, if_neg (by omega)])
              clear HS
              go_wp2
              go_round
              case rel => exact ⟨k + 1, by omega, by go_num, by rw [HS'.out]⟩
              case measure => simp [intOf]; omega
          · have h2' : ¬ (bt l k : Int) ≤ 57 := by omega
            have HS' := Lib.hid (show rfold (l.take (k + 1)) = x by rw [HS.out, if_neg (by omega)])
            clear HS
            go_wp2
            go_round
            case rel => exact ⟨k + 1, by omega, by go_num, by rw [HS'.out]⟩
            case measure => simp [intOf]; omega
        · have h1' : ¬ (48 : Int) ≤ (bt l k : Int) := by omega
          have HS' := Lib.hid (show rfold (l.take (k + 1)) = x by rw [HS.out, if_neg (by omega)])
          clear HS
          go_wp2
          go_round
          case rel => exact ⟨k + 1, by omega, by go_num, by rw [HS'.out]⟩
          case measure => simp [intOf]; omega
      · obtain rfl : k = l.length := by omega
        rw [List.take_length] at b1 b2 ⊢
        have hsb := rsign_bt l
        by_cases hn : 0 < l.length ∧ bt l 0 = 45
        · rw [if_pos hn] at hsb
          obtain ⟨hn1, hn2⟩ := hn
          have hn1' : (0 : Int) < (l.length : Int) := by omega
          have hn3 := yb (a := bt l 0) (m := 45) (by omega)
          obtain ⟨c, hc1, hc2, hcase⟩ := rparse_tail l _ hsb.symm
          have hT := Lib.hid (rtext_any (-rfold l) w)
          generalize rfold l = x at *
          clear hn2 hsb
          rcases hcase with ⟨e1, e2, e3⟩ | ⟨e1, e3⟩ | ⟨e1, e2, e3⟩
          · have HP := Lib.hid e3
            have HE := Lib.hid e1
            subst e2
            have t1 := hc1.symm
            have t2 : (txtR (-x) == l) = true := by simpa using hc2
            clear e3 e1 hc1 hc2
            go_wp2_with (fail)
            refine hT.out.mono ?_
            rintro e w' ⟨rfl, rfl⟩
            rw [HE.out]
            go_wp2
            go_ret2
            exact ⟨_, _, rfl, HP.out, rfl⟩
          · have HP := Lib.hid e3
            have HE := Lib.hid e1
            clear e3 e1 hc1 hc2
            go_wp2_with (fail)
            refine hT.out.mono ?_
            rintro e w' ⟨rfl, rfl⟩
            rw [HE.out]
            go_wp2
            go_ret2
            exact ⟨_, _, rfl, HP.out, rfl⟩
          · have HP := Lib.hid e3
            have HE := Lib.hid e1
            subst e2
            have t1 := hc1.symm
            have t2 : (txtR (-x) == l) = false := by simpa using hc2
            clear e3 e1 hc1 hc2
            go_wp2_with (fail)
            refine hT.out.mono ?_
            rintro e w' ⟨rfl, rfl⟩
            rw [HE.out]
            go_wp2
            go_ret2
            exact ⟨_, _, rfl, HP.out, rfl⟩
        · rw [if_neg hn] at hsb
          obtain ⟨c, hc1, hc2, hcase⟩ := rparse_tail l _ hsb.symm
          have hT := Lib.hid (rtext_any (rfold l) w)
          have hor : (l.length = 0) ∨ (0 < l.length ∧ ((bt l 0 : Int) == 45) = false) := by
            rcases Nat.eq_zero_or_pos l.length with h | h
            · exact .inl h
            · exact .inr ⟨h, nb (by omega)⟩
          generalize rfold l = x at *
          clear hn hsb
          rcases hor with hn1 | ⟨hn1, hn3⟩
          all_goals
            rcases hcase with ⟨e1, e2, e3⟩ | ⟨e1, e3⟩ | ⟨e1, e2, e3⟩
            · have HP := Lib.hid e3
              have HE := Lib.hid e1
              subst e2
              have t1 := hc1.symm
              have t2 : (txtR x == l) = true := by simpa using hc2
              clear e3 e1 hc1 hc2
              go_wp2_with (fail)
              refine hT.out.mono ?_
              rintro e w' ⟨rfl, rfl⟩
              rw [HE.out]
              go_wp2
              go_ret2
              exact ⟨_, _, rfl, HP.out, rfl⟩
            · have HP := Lib.hid e3
              have HE := Lib.hid e1
              clear e3 e1 hc1 hc2
              go_wp2_with (fail)
              refine hT.out.mono ?_
              rintro e w' ⟨rfl, rfl⟩
              rw [HE.out]
              go_wp2
              go_ret2
              exact ⟨_, _, rfl, HP.out, rfl⟩
            · have HP := Lib.hid e3
              have HE := Lib.hid e1
              subst e2
              have t1 := hc1.symm
              have t2 : (txtR x == l) = false := by simpa using hc2
              clear e3 e1 hc1 hc2
              go_wp2_with (fail)
              refine hT.out.mono ?_
              rintro e w' ⟨rfl, rfl⟩
              rw [HE.out]
              go_wp2
              go_ret2
              exact ⟨_, _, rfl, HP.out, rfl⟩
end Go.Proofs.YtnigdcppdkcllaaDoor

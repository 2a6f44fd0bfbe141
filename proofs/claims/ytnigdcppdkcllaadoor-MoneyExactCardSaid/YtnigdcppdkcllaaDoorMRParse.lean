/- The reference's Text and Parse, by their contracts. -/
import Derived.Test.YtnigdcppdkcllaaDoorMRText
namespace Go.Proofs.YtnigdcppdkcllaaDoor
set_option linter.unusedVariables false
set_option linter.unusedSimpArgs false
open Go.RowKit

theorem rtxt_cat {a : Nat} {n : Int} (hn : n.natAbs = a) {q : Nat} (hq : a / 100 = q) {T : List UInt8} (hT : two a = T) :
    (0 ≤ n → ({ data := #[] } : ByteArray) ++ bs (Lib.decDigits q) ++ { data := #[46] } ++ bs T = bs (txt n)) ∧ (n < 0 → ({ data := #[45] } : ByteArray) ++ bs (Lib.decDigits q) ++ { data := #[46] } ++ bs T = bs (txt n)) := by
  subst hn hq hT
  have h := txt_cat (n := n) rfl rfl
  refine ⟨fun h0 => ?_, fun h0 => ?_⟩
  · rw [← h.1 h0, show ({ data := #[] } : ByteArray) = bs [] from rfl, show ({ data := #[46] } : ByteArray) = bs [46] from rfl]
    simp only [bs_cat, List.nil_append]
  · rw [← h.2 h0, show ({ data := #[45] } : ByteArray) = bs [45] from rfl, show ({ data := #[46] } : ByteArray) = bs [46] from rfl]
    simp only [bs_cat, List.append_assoc]
theorem two_small {a r : Nat} (hr : a % 100 = r) : (r < 10 → ({ data := #[48] } : ByteArray) ++ bs (Lib.decDigits r) = bs (two a)) ∧ (¬ r < 10 → bs (Lib.decDigits r) = bs (two a)) := by
  refine ⟨fun h => ?_, fun h => ?_⟩
  · rw [show ({ data := #[48] } : ByteArray) = bs [48] from rfl, bs_cat, dec_small h]
    unfold two
    rw [show a / 10 % 10 = 0 from by omega, show a % 10 = r from by omega]; rfl
  · rw [dec_big h, dec_small (show r / 10 < 10 by omega)]
    unfold two
    rw [show a / 10 % 10 = r / 10 from by omega, show a % 10 = r % 10 from by omega]; rfl
set_option maxRecDepth 100000 in
set_option maxHeartbeats 2000000 in
theorem rtext_any (n : Int) (w : World) : Calls Tryd.prog 17 #[.int .i64 n] w fun e w' => e = .returned (.tuple #[.string (bs (txtR n)), .int .i64 (amtE n)]) ∧ w = w' := by
  cases hm : amtB n with
  | false =>
    have HE := Lib.hid (amtE_no hm)
    have HT := Lib.hid (txtR_no hm)
    go_enter Tryd.func17, Tryd.ntmps17
    go_wp2_with (go_at_call 23; refine (rcheck_no n _ hm).mono ?_; rintro e w' ⟨rfl, rfl⟩)
    go_ret2
    exact ⟨by rw [HE.out, HT.out]; rfl, rfl⟩
  | true =>
    obtain ⟨b1, b2⟩ := amtB_iff.1 hm
    have HE := Lib.hid (amtE_yes hm)
    have HT := Lib.hid (txtR_yes hm)
    have HC := Lib.hid (rcheck_yes n w hm)
    obtain ⟨a, ha⟩ : ∃ a : Nat, n.natAbs = a := ⟨_, rfl⟩
    obtain ⟨r, hr⟩ : ∃ r : Nat, a % 100 = r := ⟨_, rfl⟩
    obtain ⟨q, hq⟩ : ∃ q : Nat, a / 100 = q := ⟨_, rfl⟩
    have hri : (a : Int) % 100 = (r : Int) := by omega
    have hqi : (a : Int) / 100 = (q : Int) := by omega
    have hr100 : r < 100 := by omega
    have ha2 : a ≤ 1125899906842624 := by omega
    have hD1 := Lib.hid (decimal_any r (by omega) w)
    have hD2 := Lib.hid (decimal_any q (by omega) w)
    have hl1 : (Lib.decDigits r).length ≤ 20 := (dec_len (by omega)).2
    have hl2 : (Lib.decDigits q).length ≤ 20 := (dec_len (by omega)).2
    have hT2 : (two a).length = 2 := rfl
    have HX := Lib.hid (rtxt_cat ha hq rfl)
    have HS := Lib.hid (two_small hr)
    clear hm hr hq
    generalize two a = T at *
    rcases Int.lt_or_le n 0 with h0 | h0
    · obtain rfl : n = -(a : Int) := by omega
      have hY := HX.out.2 h0
      clear ha
      by_cases h10 : r < 10
      · have hS := HS.out.1 h10
        have h10' : (r : Int) < 10 := by omega
        go_enter Tryd.func17, Tryd.ntmps17
        go_wp2_with (fail)
        refine HC.out.mono ?_
        rintro e w' ⟨rfl, rfl⟩
        go_wp2_with (fail)
        refine hD1.out.mono ?_
        rintro e w' ⟨rfl, rfl⟩
        go_wp2_with (fail)
        refine hD2.out.mono ?_
        rintro e w' ⟨rfl, rfl⟩
        go_wp2
        go_ret2
        exact ⟨by rw [HE.out, HT.out]; rfl, rfl⟩
      · have hS := HS.out.2 h10
        have h10' : ¬ (r : Int) < 10 := by omega
        go_enter Tryd.func17, Tryd.ntmps17
        go_wp2_with (fail)
        refine HC.out.mono ?_
        rintro e w' ⟨rfl, rfl⟩
        go_wp2_with (fail)
        refine hD1.out.mono ?_
        rintro e w' ⟨rfl, rfl⟩
        rw [hS]
        go_wp2_with (fail)
        refine hD2.out.mono ?_
        rintro e w' ⟨rfl, rfl⟩
        go_wp2
        go_ret2
        exact ⟨by rw [HE.out, HT.out]; rfl, rfl⟩
    · obtain rfl : n = (a : Int) := by omega
      have hY := HX.out.1 h0
      clear ha
      by_cases h10 : r < 10
      · have hS := HS.out.1 h10
        have h10' : (r : Int) < 10 := by omega
        go_enter Tryd.func17, Tryd.ntmps17
        go_wp2_with (fail)
        refine HC.out.mono ?_
        rintro e w' ⟨rfl, rfl⟩
        go_wp2_with (fail)
        refine hD1.out.mono ?_
        rintro e w' ⟨rfl, rfl⟩
        go_wp2_with (fail)
        refine hD2.out.mono ?_
        rintro e w' ⟨rfl, rfl⟩
        go_wp2
        go_ret2
        exact ⟨by rw [HE.out, HT.out]; rfl, rfl⟩
      · have hS := HS.out.2 h10
        have h10' : ¬ (r : Int) < 10 := by omega
        go_enter Tryd.func17, Tryd.ntmps17
        go_wp2_with (fail)
        refine HC.out.mono ?_
        rintro e w' ⟨rfl, rfl⟩
        go_wp2_with (fail)
        refine hD1.out.mono ?_
        rintro e w' ⟨rfl, rfl⟩
        rw [hS]
        go_wp2_with (fail)
        refine hD2.out.mono ?_
        rintro e w' ⟨rfl, rfl⟩
        go_wp2
        go_ret2
        exact ⟨by rw [HE.out, HT.out]; rfl, rfl⟩
end Go.Proofs.YtnigdcppdkcllaaDoor

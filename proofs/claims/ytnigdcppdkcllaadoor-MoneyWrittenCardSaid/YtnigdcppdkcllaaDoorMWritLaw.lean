/- MoneyWritten: the walk of the law. -/
import Derived.Test.YtnigdcppdkcllaaDoorMSane
namespace Go.Proofs.YtnigdcppdkcllaaDoor
set_option linter.unusedVariables false
set_option linter.unusedSimpArgs false
open Go.RowKit

theorem amtE_cases (n : Int) : (amtB n = true ∧ amtE n = 0) ∨ (amtB n = false ∧ amtE n = 50) := by
  cases h : amtB n
  · exact .inr ⟨rfl, amtE_no h⟩
  · exact .inl ⟨rfl, amtE_yes h⟩
theorem parse_cases {s : List UInt8} {n e : Int} (h : ParseIs s n e) : (e = 0 ∧ amtB n = true ∧ txt n = s) ∨ (e = 50 ∧ n = 0) := by
  rcases h with ⟨h1, h2, h3⟩ | ⟨h1, h2, _⟩
  · exact .inl ⟨h1, h2, h3⟩
  · exact .inr ⟨h1, h2⟩
theorem txtR_len (n : Int) : (txtR n).length ≤ 24 := by
  unfold txtR
  split
  · rename_i h; exact (txt_len h).2
  · simp
set_option maxRecDepth 100000 in
set_option maxHeartbeats 4000000 in
theorem written_walk (x : Int) (l : List UInt8) (w : World) (hmax : l.length ≤ maxLen) (hg : Gd w) :
    Calls Tryd.prog 6 #[.int .i64 x, .string (bs l)] w fun e w' => e = .returned (.bool true) ∧ Below w.heap.size w w' := by
  unfold maxLen at hmax
  by_cases hn : 1000 < l.length
  · go_enter Tryd.func6, Tryd.ntmps6
    go_wp2_with (go_at_call 10; refine (sane_any _ hg).mono ?_; rintro e w1 ⟨rfl, hb1⟩)
    go_ret
    exact ⟨rfl, hb1⟩
  · have HG := Lib.hid hg
    have hS := Lib.hid (sane_any w hg)
    have hlx := txtR_len x
    clear hg
    go_enter Tryd.func6, Tryd.ntmps6
    go_wp2_with (fail)
    refine hS.out.mono ?_
    rintro e w1 ⟨rfl, hb1'⟩
    have hb1 := Lib.hid hb1'
    clear hb1'
    go_wp2_with (fail)
    refine (text_any x w1 (HG.out.below hb1.out).now.tab).mono ?_
    rintro e w2 ⟨rfl, hb2'⟩
    have hb2 := Lib.hid (hb1.out.trans (hb2'.mono hb1.out.size))
    have hP := Lib.hid (parse_any (txtR x) (by omega) w2 (HG.out.below hb2.out))
    have HC := Lib.hid (check_any x w2)
    clear hb2' hb1
    obtain ⟨ax, hax⟩ : ∃ ax, amtE x = ax := ⟨_, rfl⟩
    have HAX := Lib.hid hax
    rw [hax]
    clear hax
    go_wp2_with (fail)
    refine HC.out.mono ?_
    rintro e w3 ⟨rfl, rfl⟩
    rw [HAX.out]
    go_wp2_with (fail)
    refine hP.out.mono ?_
    rintro e w3 ⟨n1, e1, rfl, hp, hb3'⟩
    have hb3 := Lib.hid (hb2.out.trans (hb3'.mono hb2.out.size))
    have hP2 := Lib.hid (parse_any l (by omega) w3 (HG.out.below hb3.out))
    have hcase : ax = 50 ∨ (ax = 0 ∧ e1 = 0 ∧ n1 = x) := by
      rcases amtE_cases x with ⟨a1, a2⟩ | ⟨a1, a2⟩
      · right
        have hq := hp.unique (parse_hit a1 (txtR_yes a1).symm)
        exact ⟨by rw [← HAX.out, a2], hq.2, hq.1⟩
      · left; rw [← HAX.out, a2]
    clear hb3' hb2 hp hP
    generalize txtR x = tx at *
    rcases hcase with rfl | ⟨rfl, rfl, rfl⟩
    all_goals
      go_wp2_with (fail)
      refine hP2.out.mono ?_
      rintro e w4 ⟨n2, e2, rfl, hp2, hb4'⟩
      have hb4 := Lib.hid (hb3.out.trans (hb4'.mono hb3.out.size))
      have hc2 := parse_cases hp2
      clear hb4' hp2
      rcases hc2 with ⟨rfl, h2, h3⟩ | ⟨rfl, rfl⟩
      · have hT := Lib.hid (text_any n2 w4 (HG.out.below hb4.out).now.tab)
        have HT1 := Lib.hid (txtR_yes h2)
        have HT2 := Lib.hid (amtE_yes h2)
        have HT3 := Lib.hid h3
        clear h2 h3
        go_wp2_with (fail)
        refine hT.out.mono ?_
        rintro e w5 ⟨rfl, hb5'⟩
        rw [HT1.out, HT2.out, HT3.out]
        have hb5 := Lib.hid (hb4.out.trans (hb5'.mono hb4.out.size))
        clear hb5'
        go_wp2
        go_ret
        exact ⟨ret_bool (by simp), hb5.out⟩
      · go_wp2
        go_ret
        exact ⟨ret_bool (by simp), hb4.out⟩
end Go.Proofs.YtnigdcppdkcllaaDoor

/- MoneyTextSpec and MoneyWritten: the walks of the laws. -/
import Derived.Test.YtnigdcppdkcllaaDoorMSane
namespace Go.Proofs.YtnigdcppdkcllaaDoor
set_option linter.unusedVariables false
set_option linter.unusedSimpArgs false
open Go.RowKit

set_option maxRecDepth 100000 in
set_option maxHeartbeats 2000000 in
theorem textspec_walk (x : Int) (l : List UInt8) (w : World) (hmax : l.length ≤ maxLen) (hg : Gd w) :
    Calls Tryd.prog 4 #[.int .i64 x, .string (bs l)] w fun e w' => e = .returned (.bool true) ∧ Below w.heap.size w w' := by
  unfold maxLen at hmax
  by_cases hn : 1000 < l.length
  · go_enter Tryd.func4, Tryd.ntmps4
    go_wp2_with (go_at_call 10; refine (sane_any _ hg).mono ?_; rintro e w1 ⟨rfl, hb1⟩)
    go_ret
    exact ⟨rfl, hb1⟩
  · have HG := Lib.hid hg
    have hS := Lib.hid (sane_any w hg)
    clear hg
    go_enter Tryd.func4, Tryd.ntmps4
    go_wp2_with (fail)
    refine hS.out.mono ?_
    rintro e w1 ⟨rfl, hb1'⟩
    have hb1 := Lib.hid hb1'
    clear hb1'
    go_wp2_with (fail)
    refine (text_any x w1 (HG.out.below hb1.out).now.tab).mono ?_
    rintro e w2 ⟨rfl, hb2'⟩
    have hb2 := Lib.hid (hb1.out.trans (hb2'.mono hb1.out.size))
    clear hb2' hb1
    go_wp2_with (fail)
    refine (rtext_any x w2).mono ?_
    rintro e w3 ⟨rfl, rfl⟩
    generalize txtR x = tx at *
    generalize amtE x = ax at *
    go_wp2_with (fail)
    refine (parse_any l (by omega) w2 (HG.out.below hb2.out)).mono ?_
    rintro e w3 ⟨n1, e1, rfl, hp, hb3'⟩
    have hb3 := Lib.hid (hb2.out.trans (hb3'.mono hb2.out.size))
    have HP := Lib.hid hp
    clear hb3' hb2 hp
    go_wp2_with (fail)
    refine (rparse_any l w3 (by omega)).mono ?_
    rintro e w4 ⟨n2, e2, rfl, hp2, rfl⟩
    obtain ⟨rfl, rfl⟩ := HP.out.unique hp2
    clear hp2 HP
    go_wp2
    go_ret
    exact ⟨ret_bool (by simp), hb3.out⟩
end Go.Proofs.YtnigdcppdkcllaaDoor

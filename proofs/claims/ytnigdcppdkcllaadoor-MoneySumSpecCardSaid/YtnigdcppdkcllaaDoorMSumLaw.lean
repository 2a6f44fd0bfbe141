/- MoneySumSpec: the walk of the law. -/
import Derived.Test.YtnigdcppdkcllaaDoorMSane
namespace Go.Proofs.YtnigdcppdkcllaaDoor
set_option linter.unusedVariables false
set_option linter.unusedSimpArgs false
open Go.RowKit

set_option maxRecDepth 100000 in
set_option maxHeartbeats 2000000 in
theorem sumspec_walk (A : Option Addr) (n c : Nat) (l : List Int) (x : Int) (w : World) (h : Rd w w.heap.size 1 A n c (l.map vi)) (hg : Gd w) :
    Calls Tryd.prog 7 #[.int .i64 x, .slice A n c] w fun e w' => e = .returned (.bool true) ∧ Below w.heap.size w w' := by
  have hcap := h.cap
  have hbig := h.big
  by_cases hn : n > 500
  · go_enter Tryd.func7, Tryd.ntmps7
    go_wp2_with (go_at_call 10; refine (sane_any _ hg).mono ?_; rintro e w1 ⟨rfl, hb1⟩)
    go_ret
    exact ⟨rfl, hb1⟩
  · go_enter Tryd.func7, Tryd.ntmps7
    go_wp2_with (fail)
    refine (sane_any _ hg).mono ?_
    rintro e w1 ⟨rfl, hb1'⟩
    have hb1 := Lib.hid hb1'
    have hr := Lib.hid (h.below hb1')
    clear hb1'
    go_wp2_with (fail)
    refine (sum_any A n c _ l w1 hr.out).mono ?_
    rintro e w2 ⟨rfl, rfl⟩
    go_wp2_with (fail)
    refine (rsum_any A n c _ l w1 hr.out).mono ?_
    rintro e w2 ⟨rfl, rfl⟩
    generalize sumN l = sn at *
    generalize sumE l = se at *
    go_wp2_with (fail)
    refine (check_any x w1).mono ?_
    rintro e w2 ⟨rfl, rfl⟩
    go_wp2_with (fail)
    refine (rcheck_any x w1).mono ?_
    rintro e w2 ⟨rfl, rfl⟩
    generalize amtE x = ax at *
    go_wp2
    go_ret
    exact ⟨ret_bool (by simp), hb1.out⟩
end Go.Proofs.YtnigdcppdkcllaaDoor

/- MoneySplitSpec: the walk of the law. -/
import Derived.Test.YtnigdcppdkcllaaDoorMSane
import Derived.Test.YtnigdcppdkcllaaDoorMRSplit
namespace Go.Proofs.YtnigdcppdkcllaaDoor
set_option linter.unusedVariables false
set_option linter.unusedSimpArgs false
open Go.RowKit

set_option maxRecDepth 100000 in
set_option maxHeartbeats 2000000 in
theorem splitspec_walk (A : Option Addr) (n c : Nat) (ws : List Int) (m p : Int) (w : World) (h : Rd w w.heap.size 1 A n c (ws.map vi)) (hg : Gd w) :
    Calls Tryd.prog 3 #[.int .i64 m, .slice A n c, .int .i64 p] w fun e w' => e = .returned (.bool true) ∧ Below w.heap.size w w' := by
  have hcap := h.cap
  have hbig := h.big
  have hS := Lib.hid (sane_any w hg)
  clear hg
  obtain ⟨se, hse⟩ : ∃ se, splitE m ws = se := ⟨_, rfl⟩
  have HSE := Lib.hid hse
  clear hse
  by_cases hn : n > 300
  · go_enter Tryd.func3, Tryd.ntmps3
    go_wp2_with (go_at_call 10; refine hS.out.mono ?_; rintro e w1 ⟨rfl, hb1⟩)
    go_ret
    exact ⟨rfl, hb1⟩
  · go_enter Tryd.func3, Tryd.ntmps3
    go_wp2_with (fail)
    refine hS.out.mono ?_
    rintro e w1 ⟨rfl, hb1'⟩
    have hb1 := Lib.hid hb1'
    have hr := Lib.hid (rd_on h hb1')
    clear hb1'
    go_wp2_with (fail)
    refine (split_any A n c ws m w1 hr.out).mono ?_
    rintro e w2 ⟨A1, n1, c1, l1, rfl, hs1, hr1', hb2'⟩
    have hb2 := Lib.hid (hb1.out.trans (hb2'.mono hb1.out.size))
    have hr2 := Lib.hid (rd_on hr.out hb2')
    have hr1 := Lib.hid hr1'
    have hS1 := Lib.hid hs1
    rw [HSE.out]
    clear hb2' hr1' hs1 hr hb1
    go_wp2_with (fail)
    refine (rsplit_any A n c ws m w2 hr2.out (by omega)).mono ?_
    rintro e w3 ⟨A2, n2, c2, l2, rfl, hs2, hr3', hb3'⟩
    obtain rfl := hS1.out.unique hs2
    have hb3 := Lib.hid (hb2.out.trans (hb3'.mono hb2.out.size))
    have hr13 := Lib.hid (rd_on hr1.out hb3')
    have hr23 := Lib.hid hr3'
    clear hb3' hr3' hs2 hr1 hb2 hS1 hr2
    rw [HSE.out]
    go_wp2_with (fail)
    refine (part_any m p w3).mono ?_
    rintro e w4 ⟨rfl, rfl⟩
    go_wp2_with (fail)
    refine (rpart_any m p w3).mono ?_
    rintro e w4 ⟨rfl, rfl⟩
    generalize partN m p = pn at *
    generalize partE m p = pe at *
    go_wp2_with (fail)
    refine (sameI_any A1 A2 n1 n2 c1 c2 _ l1 l1 w3 hr13.out hr23.out).mono ?_
    rintro e w5 ⟨rfl, hb5'⟩
    have hb5 := Lib.hid (hb3.out.trans (hb5'.mono hb3.out.size))
    rw [show decide (l1 = l1) = true from decide_eq_true rfl]
    clear hb5' hb3 hr13 hr23
    go_wp2
    go_ret
    exact ⟨ret_bool (by simp), hb5.out⟩
end Go.Proofs.YtnigdcppdkcllaaDoor

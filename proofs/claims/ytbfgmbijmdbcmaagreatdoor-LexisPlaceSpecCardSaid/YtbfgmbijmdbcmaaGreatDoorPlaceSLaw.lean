/- LexisPlaceSpec: the walk of the law. -/
import Derived.Test.YtbfgmbijmdbcmaaGreatDoorSane
import Derived.Test.YtbfgmbijmdbcmaaGreatDoorRPlace
namespace Go.Proofs.YtbfgmbijmdbcmaaGreatDoor
set_option linter.unusedVariables false
set_option linter.unusedSimpArgs false
open Go.RowKit

set_option maxHeartbeats 4000000 in
set_option maxRecDepth 100000 in
theorem placespec_walk (A : Option Addr) (n c : Nat) (l : List UInt8) (at_ m : Int) (w : World) (h : Rd w w.heap.size 1 A n c (l.map vb)) (hm : w.cell? ⟨0, 0, none⟩ = some (.int .i64 m)) :
    Calls Tryz.prog 5 #[.slice A n c, .int .i64 at_] w fun e w' => e = .returned (.bool true) ∧ Below w.heap.size w w' := by
  have hcap := h.cap
  have hbig := h.big
  by_cases hn : n > 70000
  · go_enter Tryz.func5, Tryz.ntmps5
    go_wp2_with (go_at_call 11; refine (sane_any _ m hm).mono ?_; rintro e w1 ⟨rfl, hb1⟩)
    go_ret
    exact ⟨rfl, hb1⟩
  · by_cases hg : n > 65536
    · go_enter Tryz.func5, Tryz.ntmps5
      go_wp2_with (fail)
      refine (sane_any _ m hm).mono ?_
      rintro e w1 ⟨rfl, hb1'⟩
      have hb1 := Lib.hid hb1'
      clear hb1'
      go_wp2_with (fail)
      refine (place_big A n c at_ w1 hg).mono ?_
      rintro e w2 ⟨rfl, rfl⟩
      go_wp2_with (fail)
      refine (rplace_big A n c at_ w1 hg).mono ?_
      rintro e w2 ⟨rfl, rfl⟩
      go_wp2
      go_ret
      exact ⟨rfl, hb1.out⟩
    · by_cases hk : n > 3000
      · go_enter Tryz.func5, Tryz.ntmps5
        go_wp2_with (go_at_call 11; refine (sane_any _ m hm).mono ?_; rintro e w1 ⟨rfl, hb1⟩)
        go_ret
        exact ⟨rfl, hb1⟩
      · by_cases h0 : at_ < 0 ∨ n < at_
        · have H0 := Lib.hid h0
          clear h0
          go_enter Tryz.func5, Tryz.ntmps5
          go_wp2_with (fail)
          refine (sane_any _ m hm).mono ?_
          rintro e w1 ⟨rfl, hb1'⟩
          have hb1 := Lib.hid hb1'
          clear hb1'
          go_wp2_with (fail)
          refine (place_arg A n c at_ w1 (by omega) H0.out).mono ?_
          rintro e w2 ⟨rfl, rfl⟩
          go_wp2_with (fail)
          refine (rplace_arg A n c at_ w1 (by omega) H0.out).mono ?_
          rintro e w2 ⟨rfl, rfl⟩
          go_wp2
          go_ret
          exact ⟨rfl, hb1.out⟩
        · have h1 : 0 ≤ at_ := by omega
          have h2 : at_ ≤ n := by omega
          clear h0
          go_enter Tryz.func5, Tryz.ntmps5
          go_wp2_with (fail)
          refine (sane_any _ m hm).mono ?_
          rintro e w1 ⟨rfl, hb1'⟩
          have hb1 := Lib.hid hb1'
          clear hb1'
          have hr := Lib.hid (h.below hb1.out)
          go_wp2_with (fail)
          refine (place_any A n c l _ at_ w1 hr.out (by omega) h1 h2).mono ?_
          rintro e w2 ⟨rfl, rfl⟩
          go_wp2_with (fail)
          refine (rplace_any A n c l _ at_ w1 hr.out (by omega) h1 h2).mono ?_
          rintro e w2 ⟨rfl, rfl⟩
          generalize nls l at_.toNat = x
          generalize lastNl l at_.toNat = y
          go_wp2
          go_ret
          exact ⟨ret_bool (by simp), hb1.out⟩
end Go.Proofs.YtbfgmbijmdbcmaaGreatDoor

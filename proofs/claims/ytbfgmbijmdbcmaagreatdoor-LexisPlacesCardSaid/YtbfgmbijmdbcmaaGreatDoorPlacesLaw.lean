/- LexisPlaces: the walk of the law. -/
import Derived.Test.YtbfgmbijmdbcmaaGreatDoorSane
namespace Go.Proofs.YtbfgmbijmdbcmaaGreatDoor
set_option linter.unusedVariables false
set_option linter.unusedSimpArgs false
open Go.RowKit

set_option maxHeartbeats 4000000 in
set_option maxRecDepth 100000 in
theorem places_walk (A : Option Addr) (n c : Nat) (l : List UInt8) (at_ m : Int) (w : World) (h : Rd w w.heap.size 1 A n c (l.map vb)) (hm : w.cell? ⟨0, 0, none⟩ = some (.int .i64 m)) :
    Calls Tryz.prog 10 #[.slice A n c, .int .i64 at_] w fun e w' => e = .returned (.bool true) ∧ Below w.heap.size w w' := by
  have hcap := h.cap
  have hbig := h.big
  by_cases hn : n > 3000
  · go_enter Tryz.func10, Tryz.ntmps10
    go_wp2_with (go_at_call 11; refine (sane_any _ m hm).mono ?_; rintro e w1 ⟨rfl, hb1⟩)
    go_ret
    exact ⟨rfl, hb1⟩
  · by_cases h0 : at_ < 0
    · go_enter Tryz.func10, Tryz.ntmps10
      go_wp2_with (go_at_call 11; refine (sane_any _ m hm).mono ?_; rintro e w1 ⟨rfl, hb1⟩)
      go_ret
      exact ⟨rfl, hb1⟩
    · by_cases h1 : at_ ≥ n
      · go_enter Tryz.func10, Tryz.ntmps10
        go_wp2_with (go_at_call 11; refine (sane_any _ m hm).mono ?_; rintro e w1 ⟨rfl, hb1⟩)
        go_ret
        exact ⟨rfl, hb1⟩
      · obtain ⟨k, rfl⟩ := Int.eq_ofNat_of_zero_le (show 0 ≤ at_ by omega)
        have hk : k < n := by omega
        go_enter Tryz.func10, Tryz.ntmps10
        go_wp2_with (fail)
        refine (sane_any _ m hm).mono ?_
        rintro e w1 ⟨rfl, hb1'⟩
        have hb1 := Lib.hid hb1'
        clear hb1'
        have hr := Lib.hid (h.below hb1.out)
        obtain ⟨b, off, rfl, hb, hc⟩ := hr.out.byte (k := k) hk
        have n1 := nls_le l k
        have n2 := lastNl_bd l k
        go_wp2_with (fail)
        refine (place_any _ n c l _ (k : Int) w1 hr.out (by omega) (by omega) (by omega)).mono ?_
        rintro e w2 ⟨rfl, rfl⟩
        rw [show ((k : Int).toNat) = k from by omega]
        go_wp2_with (fail)
        refine (place_any _ n c l _ _ w1 hr.out (by omega) (by omega) (by omega)).mono ?_
        rintro e w2 ⟨rfl, rfl⟩
        rw [show (((k : Int) + 1).toNat) = k + 1 from by omega]
        by_cases h10 : bt l k = 10
        · rw [nls_yes l k h10, last_yes l k h10]
          have e1 := yb (a := bt l k) (m := 10) (by omega)
          clear h10
          go_wp2
          go_ret
          exact ⟨ret_bool (by simp; omega), hb1.out⟩
        · rw [nls_no l k h10, last_no l k h10]
          have e1 := nb (a := bt l k) (m := 10) (by omega)
          clear h10
          go_wp2
          go_ret
          exact ⟨ret_bool (by simp; omega), hb1.out⟩
end Go.Proofs.YtbfgmbijmdbcmaaGreatDoor

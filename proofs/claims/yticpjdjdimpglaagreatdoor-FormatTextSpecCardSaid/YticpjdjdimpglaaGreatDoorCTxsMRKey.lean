/- The reference's Keyword by its contract. -/
import Derived.Test.YticpjdjdimpglaaGreatDoorCTxsMKeyword
namespace Go.Proofs.YticpjdjdimpglaaGreatDoor
set_option linter.unusedVariables false
set_option linter.unusedSimpArgs false
open Go.RowKit
def kwsE : List (List UInt8) := [[114, 117, 108, 101, 115], [119, 105, 110], [100, 114, 97, 119], [108, 111, 115, 115], [111, 114, 100, 101, 114], [122, 111, 110, 101, 115], [116, 111], [105, 102], [101, 108, 115, 101], [97, 110, 100], [111, 114], [110, 111, 116], [116, 105, 101, 100], [114, 111, 117, 110, 100], [102, 105, 110, 105, 115, 104, 101, 100], [99, 108, 117, 98, 115], [112, 111, 105, 110, 116, 115], [100, 105, 102, 102, 101, 114, 101, 110, 99, 101], [103, 111, 97, 108, 115], [119, 105, 110, 115], [97, 119, 97, 121], [102, 97, 105, 114], [104, 101, 97, 100], [108, 111, 116, 115]]
theorem kws_E : kws = kwsE := by decide +kernel
set_option maxHeartbeats 4000000 in
set_option maxRecDepth 100000 in
theorem rkeyword_any (l : List UInt8) (w : World) : Calls Tryz.prog 57 #[.string (bs l)] w fun e w' => e = .returned (.bool (kwB l)) ∧ w = w' := by
  cases hk : kwB l with
  | false =>
    have h : ∀ x ∈ kwsE, (l == x) = false := fun x hx => by
      cases hq : l == x
      · rfl
      · have e : l = x := by simpa using hq
        subst e
        have h2 : kwB l = true := by unfold kwB; rw [kws_E, List.contains_iff_mem]; exact hx
        rw [hk] at h2; cases h2
    have f0 := h [114, 117, 108, 101, 115] (by simp [kwsE])
    have f1 := h [119, 105, 110] (by simp [kwsE])
    have f2 := h [100, 114, 97, 119] (by simp [kwsE])
    have f3 := h [108, 111, 115, 115] (by simp [kwsE])
    have f4 := h [111, 114, 100, 101, 114] (by simp [kwsE])
    have f5 := h [122, 111, 110, 101, 115] (by simp [kwsE])
    have f6 := h [116, 111] (by simp [kwsE])
    have f7 := h [105, 102] (by simp [kwsE])
    have f8 := h [101, 108, 115, 101] (by simp [kwsE])
    have f9 := h [97, 110, 100] (by simp [kwsE])
    have f10 := h [111, 114] (by simp [kwsE])
    have f11 := h [110, 111, 116] (by simp [kwsE])
    have f12 := h [116, 105, 101, 100] (by simp [kwsE])
    have f13 := h [114, 111, 117, 110, 100] (by simp [kwsE])
    have f14 := h [102, 105, 110, 105, 115, 104, 101, 100] (by simp [kwsE])
    have f15 := h [99, 108, 117, 98, 115] (by simp [kwsE])
    have f16 := h [112, 111, 105, 110, 116, 115] (by simp [kwsE])
    have f17 := h [100, 105, 102, 102, 101, 114, 101, 110, 99, 101] (by simp [kwsE])
    have f18 := h [103, 111, 97, 108, 115] (by simp [kwsE])
    have f19 := h [119, 105, 110, 115] (by simp [kwsE])
    have f20 := h [97, 119, 97, 121] (by simp [kwsE])
    have f21 := h [102, 97, 105, 114] (by simp [kwsE])
    have f22 := h [104, 101, 97, 100] (by simp [kwsE])
    have f23 := h [108, 111, 116, 115] (by simp [kwsE])
    clear h hk
    go_enter Tryz.func57, Tryz.ntmps57
    go_wp2
    go_ret
    exact ⟨rfl, rfl⟩
  | true =>
    have h : l ∈ kwsE := by
      unfold kwB at hk
      rw [kws_E, List.contains_iff_mem] at hk
      exact hk
    clear hk
    simp only [kwsE, List.mem_cons, List.not_mem_nil, or_false] at h
    rcases h with rfl | rfl | rfl | rfl | rfl | rfl | rfl | rfl | rfl | rfl | rfl | rfl | rfl | rfl | rfl | rfl | rfl | rfl | rfl | rfl | rfl | rfl | rfl | rfl
    all_goals
      go_enter Tryz.func57, Tryz.ntmps57
      go_wp2
      go_ret
      exact ⟨rfl, rfl⟩
end Go.Proofs.YticpjdjdimpglaaGreatDoor

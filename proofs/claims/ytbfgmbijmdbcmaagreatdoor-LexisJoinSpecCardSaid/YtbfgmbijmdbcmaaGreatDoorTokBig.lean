/- lexis.Tokens on what is too long; lexis.Join on nothing and on the end alone. -/
import Derived.Test.YtbfgmbijmdbcmaaGreatDoorTokens
import Derived.Test.YtbfgmbijmdbcmaaGreatDoorRSame
namespace Go.Proofs.YtbfgmbijmdbcmaaGreatDoor
set_option linter.unusedVariables false
set_option linter.unusedSimpArgs false
open Go.RowKit

set_option maxHeartbeats 400000 in
set_option maxRecDepth 100000 in
theorem tokens_big (A : Option Addr) (n c : Nat) (w : World) (hn : 65536 < n) (h63 : n ≤ 9223372036854775807) :
    Calls Tryz.prog 12 #[.slice A n c] w fun e w' => e = .returned (.tuple #[.slice none 0 0, .slice none 0 0, .int .i64 2]) ∧ Below w.heap.size w w' := by
  go_enter Tryz.func12, Tryz.ntmps12
  go_wp2
  go_step3
  go_wp2
  try rw [Exit.noGoto_ret]
  refine bodyPost_ret (v := .tuple #[.slice none 0 0, .slice none 0 0, .int .i64 2]) (by simp [results, Tryz.results12, go_sem]) rfl ?_
  exact ⟨rfl, (Below.refl _ w).alloc (Nat.le_refl _) _⟩

set_option maxHeartbeats 400000 in
theorem join_nil (w : World) : Calls Tryz.prog 17 #[.slice none 0 0] w fun e w' => e = .returned (.tuple #[.slice none 0 0, .int .i64 1]) ∧ w' = w := by
  go_enter Tryz.func17, Tryz.ntmps17
  go_wp2
  go_ret2
  exact ⟨rfl, rfl⟩
set_option maxHeartbeats 400000 in
set_option maxRecDepth 100000 in
theorem join_end (A : Option Addr) (c B : Nat) (at_ : Int) (w : World) (h : Rd w B 3 A 1 c (tokCells ⟨5, [], at_⟩)) : Calls Tryz.prog 17 #[.slice A 1 c] w fun e w' => e = .returned (.tuple #[.slice none 0 0, .int .i64 0]) ∧ w' = w := by
  obtain ⟨b, off, e, hb, hc⟩ := h.cells (by omega)
  subst e
  have hcap := h.cap
  have hbig := h.big
  have g0 : w.cell? ⟨b, off, none⟩ = some (.int .i64 5) := hc 0 _ rfl
  have g1 : w.cell? ⟨b, off + 1, none⟩ = some (.string ⟨#[]⟩) := hc 1 _ rfl
  go_enter Tryz.func17, Tryz.ntmps17
  go_wp2
  go_loopw [2, 34] (fun s2 i wr => s2 = .slice none 0 0 ∧ i = .int .i64 0 ∧ wr = w) (fun _ _ _ => 0)
  case atStart => exact ⟨rfl, rfl, rfl⟩
  case round =>
    obtain ⟨rfl, rfl, rfl⟩ := hrel
    go_wp2
    go_ret2
    exact ⟨rfl, rfl⟩
end Go.Proofs.YtbfgmbijmdbcmaaGreatDoor

/- The closures of the parser's comparison by their contracts. -/
import Derived.Test.YtlgdmbdhffdenaaGreatDoorYChoose
namespace Go.Proofs.YtlgdmbdhffdenaaGreatDoor
set_option linter.unusedVariables false
set_option linter.unusedSimpArgs false
open Go.RowKit

def condV (c : CT) (A : Option Addr) (m cc : Nat) : Value := .agg #[vi c.k, vi c.v, vi c.n, .slice A m cc]
/-- What a parser's function hands back for a condition: new blocks alone. -/
def CV (w : World) (c : CT) (w' : World) (v : Value) : Prop := ∃ A m cc, v = condV c A m cc ∧ RepH (fun k => k < w.heap.size) w' c.ps A m cc

set_option maxRecDepth 100000 in
theorem yleast_any (x v : Int) (b : Nat) (w : World) (h : Blk w b 3 #[.int .i64 v]) :
    Calls Tryz.prog 147 #[.int .i64 x, .pointer (some ⟨b, 0, none⟩)] w fun e w' => e = .returned (condV (least v x) none 0 0) ∧ Below w.heap.size w w' := by
  have x0 : w.cell? ⟨b, 0, none⟩ = some (.int .i64 v) := by rw [h.cell]; rfl
  have hlt := h.lt
  go_enter Tryz.func147, Tryz.ntmps147
  go_wp2
  go_returns
  exact ⟨rfl, (Below.refl _ _).alloc (Nat.le_refl _) _⟩

set_option maxRecDepth 100000 in
theorem ynot_any (k v x : Int) (A : Option Addr) (m cc : Nat) (w : World) :
    Calls Tryz.prog 148 #[.agg #[.int .i64 k, .int .i64 v, .int .i64 x, .slice A m cc]] w fun e w' => ∃ b, w.heap.size ≤ b ∧ e = .returned (.agg #[.int .i64 4, .int .i64 0, .int .i64 0, .slice (some ⟨b, 0, none⟩) 1 1]) ∧ Below w.heap.size w w' ∧
      Blk w' b 35 #[.int .i64 k, .int .i64 v, .int .i64 x, .slice A m cc] := by
  go_enter Tryz.func148, Tryz.ntmps148
  go_wp2
  go_returns
  refine ⟨w.heap.size + 1 + 1, by omega, rfl, (((Below.refl _ _).alloc (Nat.le_refl _) _).alloc (by simp) _).alloc (by simp; omega) _, ?_⟩
  have h := Blk.new ((w.alloc (.cells #[.int .i64 k, .int .i64 v, .int .i64 x, .slice A m cc] 35)).alloc (.cells #[.int .i64 4, .int .i64 0, .int .i64 0, .slice (some ⟨w.heap.size + 1 + 1, 0, none⟩) 1 1] 35)) 35 #[.int .i64 k, .int .i64 v, .int .i64 x, .slice A m cc]
  simp only [World.size_alloc] at h
  exact h
end Go.Proofs.YtlgdmbdhffdenaaGreatDoor

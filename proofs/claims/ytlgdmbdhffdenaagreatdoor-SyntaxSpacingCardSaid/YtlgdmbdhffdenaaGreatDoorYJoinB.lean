/- What Join's texts want beside the tokens in memory. -/
import Derived.Test.YtlgdmbdhffdenaaGreatDoorPD
import Derived.Test.YtlgdmbdhffdenaaGreatDoorTokens
import Derived.Test.YtlgdmbdhffdenaaGreatDoorPC
import Derived.Maps.Own
import Derived.BigQuiet
import Derived.Maps.Views
import Derived.Lib.SlBytesConst
namespace Go.Proofs.YtlgdmbdhffdenaaGreatDoor
set_option linter.unusedVariables false
set_option linter.unusedSimpArgs false
open Go.RowKit

theorem rd_new (w : World) (l : List UInt8) (t : TypeId) (fr : Nat × Nat) (n : Nat) (hn : l.length = n) (hs : n ≤ 9223372036854775807) : Rd (w.alloc (.cells (l.map vb).toArray t fr)) (w.alloc (.cells (l.map vb).toArray t fr)).heap.size 1 (some ⟨w.heap.size, 0, none⟩) n n (l.map vb) := by
  refine ⟨by simp [hn], Nat.le_refl _, hs, fun _ => ⟨_, _, rfl, by simp, fun j u hj => ?_⟩⟩
  rw [Nat.zero_add, cell_of_row _ _ _ _ _ _ (heap_alloc_new w _)]
  simpa using hj
theorem Rd.tokAt {w : World} {B b off n c : Nat} {T : List Tok} {k : Nat} {t : Tok} (h : Rd w B 3 (some ⟨b, off, none⟩) n c (T.flatMap tokCells)) (ht : T[k]? = some t) : b < B ∧ w.cell? ⟨b, off + k * 3, none⟩ = some (.int .i64 t.kind) ∧ w.cell? ⟨b, off + k * 3 + 1, none⟩ = some (.string (bs t.text)) ∧ w.cell? ⟨b, off + k * 3 + 2, none⟩ = some (.int .i64 t.at_) := by
  have hk : k < n := by
    have := h.tlen
    rcases Nat.lt_or_ge k T.length with h1 | h1
    · omega
    · rw [List.getElem?_eq_none h1] at ht; cases ht
  obtain ⟨b', off', t', e, hb, g0, g1, g2, g3⟩ := h.tok hk
  obtain ⟨e1, e2⟩ : b = b' ∧ off = off' := by simpa using e
  subst e1 e2
  rw [ht] at g0
  obtain rfl := Option.some.inj g0
  exact ⟨hb, g1, g2, g3⟩
end Go.Proofs.YtlgdmbdhffdenaaGreatDoor

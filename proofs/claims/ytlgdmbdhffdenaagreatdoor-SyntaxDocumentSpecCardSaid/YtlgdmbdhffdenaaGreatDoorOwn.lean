/- Laws over any program: append of one element onto a slice of the call's own, the slice's shape kept in sight. -/
import Derived.Test.YtlgdmbdhffdenaaGreatDoorPA
import Derived.OwnWalk
import Derived.Laws.AppendOwn
namespace Go.Proofs.YtlgdmbdhffdenaaGreatDoor
set_option linter.unusedVariables false
set_option linter.unusedSimpArgs false
open Go.RowKit

/-- What a law on append asks of the slice type t, element type e. -/
structure Elem (P : Program) (t e : TypeId) (size bytes : Nat) : Prop where
  ht : P.underlying t = some (.slice e)
  info : ∃ i z, P.info? e = some i ∧ i.zero = some z ∧ i.size = size ∧ i.bytes = bytes ∧ z.cells.size = size
  pos : 0 < size
theorem Elem.mk' {P : Program} {t e : TypeId} {size bytes : Nat} {z : Value} (ht : P.underlying t = some (.slice e)) (h : (P.info? e).map (fun i => (i.zero, i.size, i.bytes)) = some (some z, size, bytes)) (hz : z.cells.size = size) (hp : 0 < size) : Elem P t e size bytes := by
  obtain ⟨i, h1, h2, h3, h4⟩ := info_parts h
  exact ⟨ht, ⟨i, z, h1, h2, h3, h4, hz⟩, hp⟩

theorem own_shape {w : World} {B : Nat} {e : TypeId} {size n : Nat} {v : Value} {xs : List Value} (h : w.ownsRow B e size v n xs) : ∃ A c, v = .slice A n c := by
  rcases h.2 with ⟨rfl, rfl⟩ | ⟨g, cap, cur, rfl, _⟩
  · exact ⟨_, _, rfl⟩
  · exact ⟨_, _, rfl⟩
theorem own_lt {w : World} {B : Nat} {e : TypeId} {size n : Nat} {v : Value} {xs : List Value} (h : w.ownsRow B e size v n xs) : ∀ k, v.ownBlock = some k → B ≤ k ∧ k < w.heap.size := h.lt
theorem own_rd {w : World} {B : Nat} {e : TypeId} {size n c : Nat} {A : Option Addr} {xs : List Value} (h : w.ownsRow B e size (.slice A n c) n xs) : Rd w w.heap.size size A n c xs := by
  refine ⟨h.1, ?_, ?_, fun hn => ?_⟩
  · rcases h.2 with ⟨e1, rfl⟩ | ⟨g, cap, cur, e1, _, _, h1, h2, _⟩
    · omega
    · injection e1 with e2 e3 e4; omega
  · rcases h.2 with ⟨e1, rfl⟩ | ⟨g, cap, cur, e1, _, _, h1, h2, _⟩
    · injection e1 with e2 e3 e4; omega
    · injection e1 with e2 e3 e4
      unfold maxLen at h2
      omega
  · rcases h.2 with ⟨e1, rfl⟩ | ⟨g, cap, cur, e1, hg, hh, _⟩
    · omega
    · injection e1 with e2 e3 e4
      subst e2
      refine ⟨g, 0, rfl, (Array.getElem?_eq_some_iff.1 hh).1, fun j u hj => ?_⟩
      have := h.cells (g := g) rfl j u hj
      rw [Nat.zero_add]
      have hadd : (⟨g, 0, none⟩ : Addr).add j = ⟨g, j, none⟩ := by unfold Addr.add; split <;> simp_all
      rwa [hadd] at this
/-- A cell of an owned slice, with its block. -/
theorem own_below {w w' : World} {B B' : Nat} {e : TypeId} {size n : Nat} {v : Value} {xs : List Value} (h : w.ownsRow B e size v n xs) (hb : Below B' w w') (hB : ∀ k, v.ownBlock = some k → k < B') : w'.ownsRow B e size v n xs := by
  refine ⟨h.1, ?_⟩
  rcases h.2 with hn | ⟨g, cap, cur, rfl, hg, hgg, rest⟩
  · exact .inl hn
  · refine .inr ⟨g, cap, cur, rfl, hg, ?_, rest⟩
    rw [hb.block g (hB g rfl)]
    exact hgg
theorem own_below_all {w w' : World} {B : Nat} {e : TypeId} {size n : Nat} {v : Value} {xs : List Value} (h : w.ownsRow B e size v n xs) (hb : Below w.heap.size w w') : w'.ownsRow B e size v n xs :=
  own_below h hb fun k hk => (h.lt k hk).2
theorem own_setCell {w : World} {B : Nat} {e : TypeId} {size n : Nat} {v : Value} {xs : List Value} (h : w.ownsRow B e size v n xs) {p : Addr} (hp : ∀ k, v.ownBlock = some k → k ≠ p.block) (u : Value) : (w.setCell p u).ownsRow B e size v n xs := by
  refine ⟨h.1, ?_⟩
  rcases h.2 with hn | ⟨g, cap, cur, rfl, hg, hgg, rest⟩
  · exact .inl hn
  · refine .inr ⟨g, cap, cur, rfl, hg, ?_, rest⟩
    rw [Below.heap_setCell _ _ _ _ (hp g rfl)]
    exact hgg
/-- Rows and blocks of different element types lie apart. -/
theorem own_ne {w : World} {B : Nat} {e t : TypeId} {size n g : Nat} {v : Value} {xs : List Value} {cs : Array Value} (h : w.ownsRow B e size v n xs) (hb : Blk w g t cs) (hne : e ≠ t) : ∀ k, v.ownBlock = some k → k ≠ g := by
  rintro k hk rfl
  rcases h.2 with ⟨rfl, _⟩ | ⟨g', cap, cur, rfl, hg, hgg, rest⟩
  · simp [Value.ownBlock] at hk
  · simp [Value.ownBlock] at hk
    subst hk
    unfold Blk at hb
    rw [hgg] at hb
    injection hb with hb
    injection hb with h1 h2
    exact hne h2

section
variable {P : Program} {ops : Array Oper} {rest : List Oper} {o : Oper} {a : Act} {w : World} {Q : Exit → Act → World → Prop}
theorem wp_push {K : Act → World → Prop} {t e : TypeId} {size bytes : Nat} (E : Elem P t e size bytes) (s x : Operand)
    (ho : o.op = .call { callee := .builtin .append, args := #[s, x], argTypes := #[t, t] })
    (B : Nat) (A : Option Addr) (n c : Nat) (xs : List Value) (hs : a.eval s = .slice A n c) (hown : w.ownsRow B e size (.slice A n c) n xs)
    (g : Nat) (hx : a.eval x = .slice (some ⟨g, 0, none⟩) 1 1) (news : List Value) (hl : news.length = size) (hnews : ∀ j u, news[j]? = some u → w.cell? ⟨g, j, none⟩ = some u) (h1 : ∀ u ∈ news, u.oneCell' = true)
    (hbytes : (n + 1) * bytes ≤ 140737488355328) (h63 : n + 1 ≤ 9223372036854775807) (hbase : B ≤ w.heap.size)
    (h : ∀ A' c' w', w'.ownsRow B e size (.slice A' (n + 1) c') (n + 1) (xs ++ news) → Below B w w' → w.grownBy w' (Value.slice A n c).ownBlock → K (a.put o.dst (.slice A' (n + 1) c')) w') : o.wp P a w K Q := by
  obtain ⟨i, z, hi, hz, hsize, hby, hzs⟩ := E.info
  refine wp_append_own w s x t ho B e i z size bytes E.ht hi hz hsize hby hzs E.pos _ n xs hs hown ⟨g, 0, none⟩ 1 1 news hx (by omega) (fun j u hj => ?_) h1 h63 hbytes hbase ?_
  · have hadd : (⟨g, 0, none⟩ : Addr).add j = ⟨g, j, none⟩ := by unfold Addr.add; split <;> simp_all
    rw [hadd]
    exact hnews j u hj
  · intro v' w' hown' hg _
    obtain ⟨A', c', rfl⟩ := own_shape hown'
    exact h A' c' w' hown' ((Below.refl B w).grown hg hbase (fun k hk => (hown.lt k hk).1)) hg
theorem wpList_push {t e : TypeId} {size bytes : Nat} (E : Elem P t e size bytes) (hgd : o.guard = none) (s x : Operand)
    (ho : o.op = .call { callee := .builtin .append, args := #[s, x], argTypes := #[t, t] })
    (B : Nat) (A : Option Addr) (n c : Nat) (xs : List Value) (hs : a.eval s = .slice A n c) (hown : w.ownsRow B e size (.slice A n c) n xs)
    (g : Nat) (hx : a.eval x = .slice (some ⟨g, 0, none⟩) 1 1) (news : List Value) (hl : news.length = size) (hnews : ∀ j u, news[j]? = some u → w.cell? ⟨g, j, none⟩ = some u) (h1 : ∀ u ∈ news, u.oneCell' = true)
    (hbytes : (n + 1) * bytes ≤ 140737488355328) (h63 : n + 1 ≤ 9223372036854775807) (hbase : B ≤ w.heap.size)
    (h : ∀ A' c' w', w'.ownsRow B e size (.slice A' (n + 1) c') (n + 1) (xs ++ news) → Below B w w' → w.grownBy w' (Value.slice A n c).ownBlock → wpList P ops Q rest (a.put o.dst (.slice A' (n + 1) c')) w') : wpList P ops Q (o :: rest) a w :=
  wpList_plain hgd fun _ hK => wp_push E s x ho B A n c xs hs hown g hx news hl hnews h1 hbytes h63 hbase fun A' c' w' h2 h3 h4 => hK _ _ (h A' c' w' h2 h3 h4)
end
/-- Cells of a new block at its head. -/
theorem new_cells (w : World) (cs : List Value) (t : TypeId) : ∀ j u, cs[j]? = some u → (w.alloc (.cells cs.toArray t)).cell? ⟨w.heap.size, j, none⟩ = some u := by
  intro j u hj
  rw [cell_of_row _ _ _ _ _ _ (heap_alloc_new w _)]
  simpa using hj
end Go.Proofs.YtlgdmbdhffdenaaGreatDoor

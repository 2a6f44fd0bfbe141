/- Laws over any program for operations on wide rows (an array of 256 cells, a struct that holds one): the walk would write their cells out. -/
import Derived.Test.YtlgdmbdhffdenaaGreatDoorPA
namespace Go.Proofs.YtlgdmbdhffdenaaGreatDoor
set_option linter.unusedVariables false
set_option linter.unusedSimpArgs false
open Go.RowKit

section
variable {P : Program} {ops : Array Oper} {rest : List Oper} {o : Oper} {a : Act} {w : World} {Q : Exit → Act → World → Prop}

/-- An operation whose run is known. -/
theorem wpList_by {v : Value} {w' : World} (hgd : o.guard = none) (hr : (execOp a.eval o).run P w = .ok (.value v) w') (h : wpList P ops Q rest (a.put o.dst v) w') : wpList P ops Q (o :: rest) a w :=
  wpList_plain hgd fun _ hK => by
    unfold Oper.wp
    rw [hr]
    exact hK _ _ h
theorem wpList_by_skip {w' : World} (hgd : o.guard = none) (hr : (execOp a.eval o).run P w = .ok .skip w') (h : wpList P ops Q rest (a.put o.dst undef) w') : wpList P ops Q (o :: rest) a w :=
  wpList_plain hgd fun _ hK => by
    unfold Oper.wp
    rw [hr]
    exact hK _ _ h

/-- A new variable of a wide type: its cells under one name. -/
theorem wpList_alloc_row (hgd : o.guard = none) (ty : TypeId) (ho : o.op = .alloc ty) (z : Value) (cs : Array Value) (hz : ∀ w : World, (zeroValue ty).run P w = .ok z w) (hcs : z.cells = cs)
    (h : wpList P ops Q rest (a.put o.dst (.pointer (some ⟨w.heap.size, 0, none⟩))) (w.alloc (.cells cs ty))) : wpList P ops Q (o :: rest) a w := by
  refine wpList_by hgd (v := .pointer (some ⟨w.heap.size, 0, none⟩)) (w' := w.alloc (.cells cs ty)) ?_ h
  unfold execOp
  simp only [ho, Instr.alloc, Sem.run_bind, hz, Result.andThen_ok, newVar, newRow, hcs]
  rfl

/-- A value of a wide type boxed. -/
theorem wpList_box_row (hgd : o.guard = none) (ty : TypeId) (x : Operand) (ho : o.op = .box ty x) (cs : Array Value) (hx : a.eval x = .agg cs)
    (h : wpList P ops Q rest (a.put o.dst (.pointer (some ⟨w.heap.size, 0, none⟩))) (w.alloc (.cells cs ty))) : wpList P ops Q (o :: rest) a w := by
  refine wpList_by hgd (v := .pointer (some ⟨w.heap.size, 0, none⟩)) (w' := w.alloc (.cells cs ty)) ?_ h
  unfold execOp
  simp only [ho, hx, Instr.box, newVar, newRow, Value.cells]
  rfl

/-- A wide value stored over a whole block. -/
theorem wpList_store_row (hgd : o.guard = none) (ty : TypeId) (p x : Operand) (ho : o.op = .store ty p x) (g : Nat) (hp : a.eval p = .pointer (some ⟨g, 0, none⟩)) (cs cur : Array Value) (hx : a.eval x = .agg cs)
    (t : TypeId) (hb : Blk w g t cur) (hsz : cs.size = cur.size) (hi : (P.info? ty).map (·.size) = some cs.size) (h1 : ∀ v ∈ cs.toList, v.oneCell' = true)
    (h : wpList P ops Q rest (a.put o.dst undef) (w.setRow g cs)) : wpList P ops Q (o :: rest) a w := by
  refine wpList_by_skip hgd (w' := w.setRow g cs) ?_ h
  unfold execOp
  have hst := run_storeCells_from (P := P) g t cs.toList 0 cur w hb (by simpa using hsz) h1
  cases hq : P.info? ty with
  | none => simp [hq] at hi
  | some i =>
    have hs : i.size = cs.size := by simpa [hq] using hi
    simp only [List.take_zero, List.nil_append, Array.toArray_toList] at hst
    simp [ho, hp, hx, Instr.storeAt, Instr.sureAddr, storeVar, sizeOf, typeInfo, hq, hs, Value.cells, hst, Sem.run_bind, Result.andThen]
end

theorem Blk.setRow {w : World} {g : Nat} {t : TypeId} {cur : Array Value} (h : Blk w g t cur) (cs : Array Value) : Blk (w.setRow g cs) g t cs := setRow_heap w g cur cs t (0, 0) h
theorem Below.setRow {B : Nat} {a w : World} (h : Below B a w) {g : Nat} (hg : B ≤ g) (cs : Array Value) : Below B a (w.setRow g cs) :=
  h.trans ⟨rfl, rfl, rfl, by simp, fun k hk => setRow_other w g k cs (by omega)⟩

/-- 256 cells by a function. -/
def mk (f : Nat → Nat) : Array Value := ((List.range 256).map fun x => (.int .u8 (f x : Int) : Value)).toArray
theorem mk_get (f : Nat → Nat) (x : Nat) (h : x < 256) : (mk f)[x]? = some (.int .u8 (f x : Int)) := by simp [mk, h]
theorem mk_size (f : Nat → Nat) : (mk f).size = 256 := by simp [mk]
theorem mk_set (f : Nat → Nat) (i v : Nat) : (mk f).setIfInBounds i (.int .u8 (v : Int)) = mk fun x => if x = i then v else f x := by
  apply Array.ext
  · simp [mk]
  · intro k h1 h2
    simp only [mk, Array.getElem_setIfInBounds]
    by_cases hk : i = k
    · subst hk; simp
    · simp [hk, Ne.symm hk]
theorem mk_congr {f g : Nat → Nat} (h : ∀ x, x < 256 → f x = g x) : mk f = mk g := by
  unfold mk
  congr 1
  apply List.map_congr_left
  intro x hx
  rw [h x (by simpa using hx)]
theorem mk_one (f : Nat → Nat) : ∀ v ∈ (mk f).toList, v.oneCell' = true := by
  intro v hv
  simp [mk] at hv
  obtain ⟨x, _, rfl⟩ := hv
  rfl
end Go.Proofs.YtlgdmbdhffdenaaGreatDoor

/- The comparison of two parts: what the sort wants of it. -/
import Derived.Test.YtnigdcppdkcllaaDoorMBefore
import Derived.StillTailTactics
import Derived.Shelf.SlSortCmp.InsertionK
namespace Go.Proofs.YtnigdcppdkcllaaDoor
set_option linter.unusedVariables false
set_option linter.unusedSimpArgs false
open Go.RowKit Go.Sort Go.Shelf

/-- A part: its index, its cents, its remainder. -/
structure Pt where
  ix : Int
  ce : Int
  re : Int
theorem grow_three (w : World) (a b c : Obj) : ((w.alloc a).alloc b).drew.alloc c = grow (w.drewN 1) #[a, b, c] := by
  rw [alloc_eq_grow, alloc_eq_grow, alloc_eq_grow]
  show ({ w with heap := w.heap ++ #[a] ++ #[b] ++ #[c], drawn := w.drawn + 1 } : World) = { w with heap := w.heap ++ #[a, b, c], drawn := w.drawn + 1 }
  congr 1

def encP (p : Pt) : List Value := [.int .i64 p.ix, .int .i64 p.ce, .int .i64 p.re]
def befI (p q : Pt) : Int := orI (cmpI q.re p.re) (cmpI p.ix q.ix)
set_option maxRecDepth 100000 in
set_option maxHeartbeats 400000 in
theorem before_any (p q : Pt) (w : World) : Calls Tryd.prog 26 #[.agg #[.int .i64 p.ix, .int .i64 p.ce, .int .i64 p.re], .agg #[.int .i64 q.ix, .int .i64 q.ce, .int .i64 q.re]] w fun e w' => e = .returned (.int .i64 (befI p q)) ∧ ∃ k os, w' = grow (w.drewN k) os := by
  unfold befI
  have c1 := fun W => (cmpc_any q.re p.re W).mono (R' := fun e w' => e = .returned (.int .i64 (cmpI q.re p.re)) ∧ w' = W) fun _ _ ⟨h, h'⟩ => ⟨h, h'.symm⟩
  have c2 := fun W => (cmpc_any p.ix q.ix W).mono (R' := fun e w' => e = .returned (.int .i64 (cmpI p.ix q.ix)) ∧ w' = W) fun _ _ ⟨h, h'⟩ => ⟨h, h'.symm⟩
  have c3 := fun g W h0 h1 => or_any (cmpI q.re p.re) (cmpI p.ix q.ix) g W h0 h1
  generalize cmpI q.re p.re = r1 at *
  generalize cmpI p.ix q.ix = r2 at *
  generalize orI r1 r2 = r at *
  obtain ⟨a, b, c⟩ := p
  obtain ⟨a', b', c'⟩ := q
  dsimp only at *
  go_enter Tryd.func26, Tryd.ntmps26
  go_wp2
  refine wp_region_still_tail 10 (by kernel_rfl) (by kernel_rfl) ?_
  simp only [List.take_succ_cons, List.take_zero, List.drop_succ_cons, List.drop_zero]
  obtain ⟨W, hW⟩ : ∃ W : World, World.drew ((w.alloc (.cells #[.int .i64 a, .int .i64 b, .int .i64 c] 45)).alloc (.cells #[.int .i64 a', .int .i64 b', .int .i64 c'] 45)) = W := ⟨_, rfl⟩
  change wpStill _ _ (World.drew ((w.alloc (.cells #[.int .i64 a, .int .i64 b, .int .i64 c] 45)).alloc (.cells #[.int .i64 a', .int .i64 b', .int .i64 c'] 45))) (fun a'' => wpList _ _ _ _ a'' (World.drew ((w.alloc (.cells #[.int .i64 a, .int .i64 b, .int .i64 c] 45)).alloc (.cells #[.int .i64 a', .int .i64 b', .int .i64 c'] 45)))) _ _
  rw [hW]
  have x0 : W.cell? ⟨w.heap.size, 0, none⟩ = some (.int .i64 a) := by rw [← hW]; simp
  have x2 : W.cell? ⟨w.heap.size, 2, none⟩ = some (.int .i64 c) := by rw [← hW]; simp
  have y0 : W.cell? ⟨w.heap.size + 1, 0, none⟩ = some (.int .i64 a') := by rw [← hW]; simp
  have y2 : W.cell? ⟨w.heap.size + 1, 2, none⟩ = some (.int .i64 c') := by rw [← hW]; simp
  have HW := Lib.hid hW
  clear hW
  iterate 4 still_step
  still_call (c1 _)
  iterate 4 still_step
  still_call (c2 _)
  refine wpStill_nil ?_
  go_wp2_with (go_at_call 36; refine (c3 _ _ (by simp) (by simp)).mono ?_; rintro e w2 ⟨rfl, rfl⟩)
  go_ret
  exact ⟨rfl, 1, _, by rw [← HW.out]; exact grow_three _ _ _ _⟩
end Go.Proofs.YtnigdcppdkcllaaDoor

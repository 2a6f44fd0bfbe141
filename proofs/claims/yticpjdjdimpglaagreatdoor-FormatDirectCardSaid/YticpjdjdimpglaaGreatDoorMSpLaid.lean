/- From a row's cell 'laid' to the spans of the variables. -/
import Derived.Test.YticpjdjdimpglaaGreatDoorMFRd
namespace Go.Proofs.YticpjdjdimpglaaGreatDoor
set_option linter.unusedVariables false
set_option linter.unusedSimpArgs false
open Go.ChangeShapes Go.WideShapes Go.ChangeAt Go.RowKit

theorem gSpan : Tryz.prog.globalNamed "assize/typing.spans" = some 1 := by kernel_rfl
theorem gSpant : (Tryz.prog.globals[1]?).map (·.type) = some 155 := by kernel_rfl
theorem ceSp : Tryz.prog.cellsOf 154 = 2 := by kernel_rfl
theorem ceIn : Tryz.prog.cellsOf 3 = 1 := by kernel_rfl
theorem span_of {W : World} {r : List (String × DataW Unit)} (h : laidMet Tryz.prog (("assize/typing.spans", Rows.laid_assize_typing_spans) :: r) W) : SpanIs W := by
  obtain ⟨cs, fuel, p, hv, hd⟩ := laid_head gSpan gSpant h
  have key : ∀ (i : Nat) (lo hi : Int), ([(0, 0), (2, 24), (0, 46), (0, 1), (2, 24)] : List (Int × Int))[i]? = some (lo, hi) → W.cell? ⟨1, i * 2, none⟩ = some (.int .i64 lo) ∧ W.cell? ⟨1, i * 2 + 1, none⟩ = some (.int .i64 hi) := by
    intro i lo hi hl
    obtain ⟨m, q, h1⟩ := array_at Tryz.underlying155 hd i (.agg [.lit (.int .i64 lo), .lit (.int .i64 hi)]) (by
      have : i < 5 := by
        obtain ⟨h1, _⟩ := List.getElem?_eq_some_iff.1 hl
        exact h1
      have : i = 0 ∨ i = 1 ∨ i = 2 ∨ i = 3 ∨ i = 4 := by omega
      rcases this with rfl | rfl | rfl | rfl | rfl <;> (injection hl with hl; injection hl with e1 e2; subst e1 e2; rfl))
    rw [ceSp] at h1
    obtain ⟨xs, n, rfl, hx, hl2, hlen, hf⟩ := DataW.trod_struct Tryz.underlying154 h1
    have hxl : xs.length = 2 := hlen
    have f0 : DataW.trod (fun _ => ()) Tryz.prog W 0 (fun _ => true) false n 3 ((((cs.toList.drop (i * 2)).take 2).drop 0).take (Tryz.prog.cellsOf 3)) = xs[0]? := hf 0 _ rfl
    have f1 : DataW.trod (fun _ => ()) Tryz.prog W 0 (fun _ => true) false n 3 ((((cs.toList.drop (i * 2)).take 2).drop 1).take (Tryz.prog.cellsOf 3)) = xs[1]? := hf 1 _ rfl
    rw [List.getElem?_eq_getElem (by omega)] at f0 f1
    rw [ceIn] at f0 f1
    obtain ⟨a, e0, y0, _⟩ := DataW.trod_int Tryz.underlying3 f0
    obtain ⟨b, e1, y1, _⟩ := DataW.trod_int Tryz.underlying3 f1
    match xs, hxl with
    | [z0, z1], _ =>
      simp only [List.getElem_cons_zero, List.getElem_cons_succ] at y0 y1
      subst y0 y1
      have hx1 := congrArg Prod.fst hx
      simp only [List.map_cons, List.map_nil, DataW.agg.injEq, List.cons.injEq, DataW.lit.injEq, Lit.int.injEq, true_and, and_true] at hx1
      obtain ⟨rfl, rfl⟩ := hx1
      have g0 : cs.toList[i * 2]? = some (.int .i64 lo) := by
        have := congrArg (·[0]?) e0
        simpa [List.getElem?_take, List.getElem?_drop] using this
      have g1 : cs.toList[i * 2 + 1]? = some (.int .i64 hi) := by
        have := congrArg (·[0]?) e1
        simpa [List.getElem?_take, List.getElem?_drop] using this
      have c0 := World.var?_cell gSpan hv (i * 2)
      have c1 := World.var?_cell gSpan hv (i * 2 + 1)
      rw [c0, c1]
      exact ⟨by simpa using g0, by simpa using g1⟩
  intro i v hi
  have hlt : i < 10 := by
    obtain ⟨h1, _⟩ := List.getElem?_eq_some_iff.1 hi
    exact h1
  have : i = 0 ∨ i = 1 ∨ i = 2 ∨ i = 3 ∨ i = 4 ∨ i = 5 ∨ i = 6 ∨ i = 7 ∨ i = 8 ∨ i = 9 := by omega
  rcases this with rfl | rfl | rfl | rfl | rfl | rfl | rfl | rfl | rfl | rfl <;> (injection hi with hi; subst hi)
  · exact (key 0 _ _ rfl).1
  · exact (key 0 _ _ rfl).2
  · exact (key 1 _ _ rfl).1
  · exact (key 1 _ _ rfl).2
  · exact (key 2 _ _ rfl).1
  · exact (key 2 _ _ rfl).2
  · exact (key 3 _ _ rfl).1
  · exact (key 3 _ _ rfl).2
  · exact (key 4 _ _ rfl).1
  · exact (key 4 _ _ rfl).2
end Go.Proofs.YticpjdjdimpglaaGreatDoor

/- Rules that came in as an argument read as the chapter's rules. -/
import Derived.Test.YticpjdjdimpglaaGreatDoorCFpaMFRd
namespace Go.Proofs.YticpjdjdimpglaaGreatDoor
set_option linter.unusedVariables false
set_option linter.unusedSimpArgs false
open Go.ChangeShapes Go.WideShapes Go.ChangeAt Go.RowKit
theorem cells3 {cs : List Value} (h : cs.length = 3) : ∃ a b c, cs = [a, b, c] := by
  match cs, h with
  | [a, b, c], _ => exact ⟨a, b, c, rfl⟩
theorem cells6 {cs : List Value} (h : cs.length = 6) : ∃ a b c d e f, cs = [a, b, c, d, e, f] := by
  match cs, h with
  | [a, b, c, d, e, f], _ => exact ⟨a, b, c, d, e, f, rfl⟩
theorem ceZn : Tryz.prog.cellsOf 73 = 3 := by kernel_rfl
theorem ceR : Tryz.prog.cellsOf 28 = 6 := by kernel_rfl
theorem ceG : Tryz.prog.cellsOf 9 = 1 := by kernel_rfl
theorem ceZs : Tryz.prog.cellsOf 26 = 1 := by kernel_rfl
section
variable {H : Type} {enc : TypeId × Value → H} {W : World}
theorem zone_all (fuel : Nat) (cs : List Value) (x : DataW H × List MemPlace) (h : DataW.trod enc Tryz.prog W 0 (fun _ => true) true fuel 73 cs = some x) : ∃ z : ZT, cs = zoneCells z := by
  obtain ⟨xs, n, rfl, _, hl, hlen, hf⟩ := DataW.trod_struct Tryz.underlying73 h
  rw [ceZn] at hl
  obtain ⟨v0, v1, v2, rfl⟩ := cells3 hl
  have hx : xs.length = 3 := hlen
  have h0 : DataW.trod enc Tryz.prog W 0 (fun _ => true) true n 9 ((([v0, v1, v2] : List Value).drop 0).take (Tryz.prog.cellsOf 9)) = xs[0]? := hf 0 _ rfl
  have h1 : DataW.trod enc Tryz.prog W 0 (fun _ => true) true n 3 ((([v0, v1, v2] : List Value).drop 1).take (Tryz.prog.cellsOf 3)) = xs[1]? := hf 1 _ rfl
  have h2 : DataW.trod enc Tryz.prog W 0 (fun _ => true) true n 3 ((([v0, v1, v2] : List Value).drop 2).take (Tryz.prog.cellsOf 3)) = xs[2]? := hf 2 _ rfl
  rw [List.getElem?_eq_getElem (by omega)] at h0 h1 h2
  simp only [ceI, ceG, List.drop_zero, List.drop_succ_cons, List.take_succ_cons, List.take_zero] at h0 h1 h2
  obtain ⟨s, e0, _⟩ := DataW.trod_string Tryz.underlying9 h0
  obtain ⟨k1, e1, _⟩ := DataW.trod_int Tryz.underlying3 h1
  obtain ⟨k2, e2, _⟩ := DataW.trod_int Tryz.underlying3 h2
  simp only [List.cons.injEq, and_true] at e0 e1 e2
  subst e0 e1 e2
  exact ⟨⟨s.data.toList, k1, k2⟩, rfl⟩
theorem zone_row (fuel : Nat) (cs : List Value) (x : DataW H × List MemPlace) (h : DataW.trod enc Tryz.prog W 0 (fun _ => true) true fuel 26 cs = some x) : ∃ l A m d, cs = [.slice A m d] ∧ RepZ NC W l A m d := by
  rcases DataW.trod_slice Tryz.underlying26 h with ⟨rfl, _⟩ | ⟨a, len, cap, elems, rest, n, rfl, rfl, _, hb, hl, hm, hlen, hel, _, _⟩
  · exact ⟨[], none, 0, 0, rfl, ⟨by simp, by omega, by omega, fun h => absurd h (by omega)⟩, fun _ _ _ h => h⟩
  · obtain ⟨T, hTl, hT⟩ := build_list2 (α := ZT) (p := fun i p => ∀ j u, (zoneCells p)[j]? = some u → W.cell? ((a.add (i * 3)).add j) = some u) len fun i hi => by
      have h1 := hel i hi
      rw [List.getElem?_eq_getElem (by omega), ceZn] at h1
      obtain ⟨cs', h2, h3⟩ := Option.bind_eq_some_iff.1 h1
      obtain ⟨p, rfl⟩ := zone_all n cs' _ h3
      obtain ⟨_, _, hc⟩ := World.cells?_some h2
      refine ⟨p, fun j u hj => ?_⟩
      have hj3 : j < 3 := by
        rcases Nat.lt_or_ge j 3 with h6 | h6
        · exact h6
        · rw [List.getElem?_eq_none (by simpa [zoneCells] using h6)] at hj; cases hj
      rw [hc j hj3]
      exact hj
    exact ⟨T, some a, len, cap, rfl, rd_rows zoneCells 3 (fun _ => rfl) (by omega) T hTl hl hm hT, fun _ _ _ h => h⟩
/-- Rules as an argument. -/
theorem rules_arg {v : Value} {d : DataW H} {ps : List MemPlace} {cs : Array Value} (hv : v = .agg cs) (h : DataW.Trod enc Tryz.prog W 0 (fun _ => true) true 28 v d ps) :
    ∃ (r : RT) (A : Option Addr) (m n : Nat) (C : Option Addr) (i j : Nat), v = .agg #[.string (bs r.name), .int .i64 r.win, .int .i64 r.draw, .int .i64 r.loss, .slice A m n, .slice C i j] ∧ RepT NC W r.order A m n ∧ RepZ NC W r.zones C i j := by
  obtain ⟨fuel, h⟩ := h
  obtain ⟨xs, n, rfl, _, hl, hlen, hf⟩ := DataW.trod_struct Tryz.underlying28 h
  rw [ceR] at hl
  obtain ⟨v0, v1, v2, v3, v4, v5, e⟩ := cells6 hl
  rw [e] at hf
  have hx : xs.length = 6 := hlen
  have h0 : DataW.trod enc Tryz.prog W 0 (fun _ => true) true n 9 ((([v0, v1, v2, v3, v4, v5] : List Value).drop 0).take (Tryz.prog.cellsOf 9)) = xs[0]? := hf 0 _ rfl
  have h1 : DataW.trod enc Tryz.prog W 0 (fun _ => true) true n 3 ((([v0, v1, v2, v3, v4, v5] : List Value).drop 1).take (Tryz.prog.cellsOf 3)) = xs[1]? := hf 1 _ rfl
  have h2 : DataW.trod enc Tryz.prog W 0 (fun _ => true) true n 3 ((([v0, v1, v2, v3, v4, v5] : List Value).drop 2).take (Tryz.prog.cellsOf 3)) = xs[2]? := hf 2 _ rfl
  have h3 : DataW.trod enc Tryz.prog W 0 (fun _ => true) true n 3 ((([v0, v1, v2, v3, v4, v5] : List Value).drop 3).take (Tryz.prog.cellsOf 3)) = xs[3]? := hf 3 _ rfl
  have h4 : DataW.trod enc Tryz.prog W 0 (fun _ => true) true n 25 ((([v0, v1, v2, v3, v4, v5] : List Value).drop 4).take (Tryz.prog.cellsOf 25)) = xs[4]? := hf 4 _ rfl
  have h5 : DataW.trod enc Tryz.prog W 0 (fun _ => true) true n 26 ((([v0, v1, v2, v3, v4, v5] : List Value).drop 5).take (Tryz.prog.cellsOf 26)) = xs[5]? := hf 5 _ rfl
  rw [List.getElem?_eq_getElem (by omega)] at h0 h1 h2 h3 h4 h5
  simp only [ceI, ceG, ceSs, ceZs, List.drop_zero, List.drop_succ_cons, List.take_succ_cons, List.take_zero] at h0 h1 h2 h3 h4 h5
  obtain ⟨s, e0, _⟩ := DataW.trod_string Tryz.underlying9 h0
  obtain ⟨k1, e1, _⟩ := DataW.trod_int Tryz.underlying3 h1
  obtain ⟨k2, e2, _⟩ := DataW.trod_int Tryz.underlying3 h2
  obtain ⟨k3, e3, _⟩ := DataW.trod_int Tryz.underlying3 h3
  obtain ⟨F, A, m, c, e4, hr⟩ := step_row n (fun j _ => step_all j) _ _ h4
  obtain ⟨l, C, i, j, e5, hz⟩ := zone_row n _ _ h5
  simp only [List.cons.injEq, and_true] at e0 e1 e2 e3 e4 e5
  subst e0 e1 e2 e3 e4 e5
  subst hv
  have e6 : cs.toList = [.string s, .int .i64 k1, .int .i64 k2, .int .i64 k3, .slice A m c, .slice C i j] := by simpa [Value.cells] using e
  refine ⟨⟨s.data.toList, k1, k2, k3, F, l⟩, A, m, c, C, i, j, ?_, hr, hz⟩
  have : cs = [.string s, .int .i64 k1, .int .i64 k2, .int .i64 k3, .slice A m c, .slice C i j].toArray := by rw [← e6]
  rw [this]
  rfl
end
end Go.Proofs.YticpjdjdimpglaaGreatDoor

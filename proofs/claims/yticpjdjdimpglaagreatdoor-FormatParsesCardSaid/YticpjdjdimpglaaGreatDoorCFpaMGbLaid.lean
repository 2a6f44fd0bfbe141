/- From a row's cell 'laid' to what the parser's calls ask of the world. -/
import Derived.Test.YticpjdjdimpglaaGreatDoorCFpaMFRd
import Derived.Test.YticpjdjdimpglaaGreatDoorCFpaMYSt
namespace Go.Proofs.YticpjdjdimpglaaGreatDoor
set_option linter.unusedVariables false
set_option linter.unusedSimpArgs false
open Go.ChangeShapes Go.WideShapes Go.ChangeAt Go.RowKit
theorem gbES : Tryz.prog.globalNamed "strconv.ErrSyntax" = some 6 := by kernel_rfl
theorem gbESt : (Tryz.prog.globals[6]?).map (·.type) = some 125 := by kernel_rfl
theorem gbER : Tryz.prog.globalNamed "strconv.ErrRange" = some 7 := by kernel_rfl
theorem gbERt : (Tryz.prog.globals[7]?).map (·.type) = some 125 := by kernel_rfl
theorem gbCE : Tryz.prog.cellsOf 285 = 1 := by kernel_rfl
theorem gbCS : Tryz.prog.cellsOf 9 = 1 := by kernel_rfl
theorem gbStar : "*" ++ "errors.errorString" = "*errors.errorString" := by decide
theorem gbRow (u : TypeId) (h : Tryz.prog.typeName? 3 u = some "*errors.errorString") : u = 283 :=
  typeName_ptr_named (nm := "errors.errorString") (by rw [gbStar]; kernel_rfl) (by kernel_rfl) (by decide) u (by rw [gbStar]; exact h)
theorem gb_on {W W' : World} {n : String} {g : Nat} {cs : Array Value} (hg : Tryz.prog.globalNamed n = some g) (h : W.var? Tryz.prog n = some cs) (hb : Below W.heap.size W W') : W'.var? Tryz.prog n = some cs := by
  unfold World.var? at h ⊢
  rw [hg] at h ⊢
  simp only [Option.bind_some] at h ⊢
  have hlt : g < W.heap.size := by
    rcases Nat.lt_or_ge g W.heap.size with h' | h'
    · exact h'
    · simp [Array.getElem?_eq_none h'] at h
  rw [hb.block g hlt]
  exact h
theorem gb_of2 {W : World} {r : List (String × DataW Unit)} (h5 : laidMet Tryz.prog (("strconv.ErrRange", Rows.laid_strconv_ErrRange) :: ("strconv.ErrSyntax", Rows.laid_strconv_ErrSyntax) :: r) W)
    (hm : ∃ m, W.cell? ⟨4, 0, none⟩ = some (.int .i64 m)) : Gb W.heap.size W := by
  obtain ⟨a0, s0, hv0, -, -, -⟩ := laid_sentinel h5 gbER gbERt Tryz.underlying125 gbRow Tryz.underlying283 Tryz.underlying285 rfl rfl Tryz.underlying9 gbCE gbCS
  obtain ⟨a1, s1, hv1, -, -, -⟩ := laid_sentinel h5.tail gbES gbESt Tryz.underlying125 gbRow Tryz.underlying283 Tryz.underlying285 rfl rfl Tryz.underlying9 gbCE gbCS
  intro W' hb
  obtain ⟨m, hm⟩ := hm
  exact ⟨⟨m, (hb.cell (p := ⟨4, 0, none⟩) (World.block_lt_of_cell? W _ hm)).trans hm⟩, ⟨_, _, gb_on gbES hv1 hb⟩, ⟨_, _, gb_on gbER hv0 hb⟩⟩
end Go.Proofs.YticpjdjdimpglaaGreatDoor

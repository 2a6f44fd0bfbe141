/- From a row's cell 'laid' to what the calls ask of the world. -/
import Derived.Test.YtlgdmbdhffdenaaGreatDoorRows
import Derived.Test.YtlgdmbdhffdenaaGreatDoorPD
import Derived.Test.YtlgdmbdhffdenaaGreatDoorPF
import Derived.Stop.LaidErr
import Derived.MakeChecks
namespace Go.Proofs.YtlgdmbdhffdenaaGreatDoor
set_option linter.unusedVariables false
set_option linter.unusedSimpArgs false
open Go.ChangeShapes Go.WideShapes Go.ChangeAt Go.RowKit

theorem gES : Tryz.prog.globalNamed "strconv.ErrSyntax" = some 1 := by kernel_rfl
theorem gESt : (Tryz.prog.globals[1]?).map (·.type) = some 135 := by kernel_rfl
theorem gER : Tryz.prog.globalNamed "strconv.ErrRange" = some 2 := by kernel_rfl
theorem gERt : (Tryz.prog.globals[2]?).map (·.type) = some 135 := by kernel_rfl
theorem cellsES : Tryz.prog.cellsOf 230 = 1 := by kernel_rfl
theorem cellsStr : Tryz.prog.cellsOf 9 = 1 := by kernel_rfl
theorem starES : "*" ++ "errors.errorString" = "*errors.errorString" := by decide
theorem rowES (u : TypeId) (h : Tryz.prog.typeName? 3 u = some "*errors.errorString") : u = 228 :=
  typeName_ptr_named (nm := "errors.errorString") (by rw [starES]; kernel_rfl) (by kernel_rfl) (by decide) u (by rw [starES]; exact h)
theorem var_on {W W' : World} {n : String} {g : Nat} {cs : Array Value} (hg : Tryz.prog.globalNamed n = some g) (h : W.var? Tryz.prog n = some cs) (hb : Below W.heap.size W W') : W'.var? Tryz.prog n = some cs := by
  unfold World.var? at h ⊢
  rw [hg] at h ⊢
  simp only [Option.bind_some] at h ⊢
  have hlt : g < W.heap.size := by
    rcases Nat.lt_or_ge g W.heap.size with h' | h'
    · exact h'
    · simp [Array.getElem?_eq_none h'] at h
  rw [hb.block g hlt]
  exact h
theorem gb_of {W : World} {d32 d64 p10 acc fst : String × DataW Unit} (h : laidMet Tryz.prog [d32, d64, p10, acc, ("strconv.ErrRange", Rows.laid_strconv_ErrRange), ("strconv.ErrSyntax", Rows.laid_strconv_ErrSyntax), fst] W)
    (hm : ∃ m, W.cell? ⟨0, 0, none⟩ = some (.int .i64 m)) : Gb W.heap.size W := by
  have h5 := h.tail.tail.tail.tail
  obtain ⟨a0, s0, hv0, -, -, -⟩ := laid_sentinel h5 gER gERt Tryz.underlying135 rowES Tryz.underlying228 Tryz.underlying230 rfl rfl Tryz.underlying9 cellsES cellsStr
  obtain ⟨a1, s1, hv1, -, -, -⟩ := laid_sentinel h5.tail gES gESt Tryz.underlying135 rowES Tryz.underlying228 Tryz.underlying230 rfl rfl Tryz.underlying9 cellsES cellsStr
  intro W' hb
  obtain ⟨m, hm⟩ := hm
  exact ⟨⟨m, (hb.cell (p := ⟨0, 0, none⟩) (World.block_lt_of_cell? W _ hm)).trans hm⟩, ⟨_, _, var_on gES hv1 hb⟩, ⟨_, _, var_on gER hv0 hb⟩⟩
end Go.Proofs.YtlgdmbdhffdenaaGreatDoor

/- From a row's cell 'laid' to what the calls ask of the world. -/
import Derived.Test.YtnigdcppdkcllaaDoorRows
import Derived.Test.YtnigdcppdkcllaaDoorMParseW
import Derived.Test.YtnigdcppdkcllaaDoorFrame
import Derived.Stop.LaidErr
import Derived.Lib.LaidTab
import Derived.MakeChecks
namespace Go.Proofs.YtnigdcppdkcllaaDoor
set_option linter.unusedVariables false
set_option linter.unusedSimpArgs false
open Go.ChangeShapes Go.WideShapes Go.ChangeAt Go.RowKit

theorem gES : Tryd.prog.globalNamed "strconv.ErrSyntax" = some 0 := by kernel_rfl
theorem gESt : (Tryd.prog.globals[0]?).map (·.type) = some 53 := by kernel_rfl
theorem gER : Tryd.prog.globalNamed "strconv.ErrRange" = some 1 := by kernel_rfl
theorem gERt : (Tryd.prog.globals[1]?).map (·.type) = some 53 := by kernel_rfl
theorem gTab : Tryd.prog.globalNamed "internal/strconv.uint64pow10" = some 5 := by kernel_rfl
theorem gTabt : (Tryd.prog.globals[5]?).map (·.type) = some 133 := by kernel_rfl
theorem cellsES : Tryd.prog.cellsOf 139 = 1 := by kernel_rfl
theorem cellsStr : Tryd.prog.cellsOf 9 = 1 := by kernel_rfl
theorem starES : "*" ++ "errors.errorString" = "*errors.errorString" := by decide
theorem rowES (u : TypeId) (h : Tryd.prog.typeName? 3 u = some "*errors.errorString") : u = 137 :=
  typeName_ptr_named (nm := "errors.errorString") (by rw [starES]; kernel_rfl) (by kernel_rfl) (by decide) u (by rw [starES]; exact h)
theorem tab_eq : (Rows.laid_internal_strconv_uint64pow10 : DataW Unit) = Lib.tabData .u64 Lib.pow10Tab := by kernel_rfl
theorem var_on {W W' : World} {n : String} {g : Nat} {cs : Array Value} (hg : Tryd.prog.globalNamed n = some g) (h : W.var? Tryd.prog n = some cs) (hb : Below W.heap.size W W') : W'.var? Tryd.prog n = some cs := by
  unfold World.var? at h ⊢
  rw [hg] at h ⊢
  simp only [Option.bind_some] at h ⊢
  have hlt : g < W.heap.size := by
    rcases Nat.lt_or_ge g W.heap.size with h' | h'
    · exact h'
    · simp [Array.getElem?_eq_none h'] at h
  rw [hb.block g hlt]
  exact h
theorem now_of {W : World} {d32 d64 acc fst : String × DataW Unit} (h : laidMet Tryd.prog [d32, d64, ("internal/strconv.uint64pow10", Rows.laid_internal_strconv_uint64pow10), acc, ("strconv.ErrRange", Rows.laid_strconv_ErrRange), ("strconv.ErrSyntax", Rows.laid_strconv_ErrSyntax), fst] W)
    (hm : ∃ m, W.cell? ⟨2, 0, none⟩ = some (.int .i64 m)) : Gd W := by
  have h3 := h.tail.tail
  rw [tab_eq] at h3
  have ht := Lib.tabIs_of_head gTab gTabt (Tryd.underlying133) Tryd.underlying74 (by kernel_rfl) (by kernel_rfl) h3
  have h5 := h3.tail.tail
  obtain ⟨a0, s0, hv0, -, -, -⟩ := laid_sentinel h5 gER gERt Tryd.underlying53 rowES Tryd.underlying137 Tryd.underlying139 rfl rfl Tryd.underlying9 cellsES cellsStr
  obtain ⟨a1, s1, hv1, -, -, -⟩ := laid_sentinel h5.tail gES gESt Tryd.underlying53 rowES Tryd.underlying137 Tryd.underlying139 rfl rfl Tryd.underlying9 cellsES cellsStr
  intro W' hb
  obtain ⟨m, hm⟩ := hm
  exact ⟨⟨m, (hb.cell (p := ⟨2, 0, none⟩) (World.block_lt_of_cell? W _ hm)).trans hm⟩, var_on gTab ht hb, ⟨_, _, var_on gES hv1 hb⟩, ⟨_, _, var_on gER hv0 hb⟩⟩
theorem maxlen_cell {W : World} (h : W.ShapedOpen Tryd.prog) : ∃ m, W.cell? ⟨2, 0, none⟩ = some (.int .i64 m) :=
  cell_of_shapedOpen_int (g := 2) (t := 3) (zero := #[.int .i64 0]) h (of_decide_eq_true (by kernel_rfl)) (by kernel_rfl) rfl (by kernel_rfl) (by kernel_rfl) Tryd.underlying3
theorem own_knob : ownKnob Tryd.prog.godebug = none := by kernel_rfl
theorem laid_out : laidOutB Tryd.prog = true := by kernel_rfl
theorem rdi_of_trod {H : Type} {enc : TypeId × Value → H} {P : Program} {W : World} {t e : TypeId} {a0 : Option Addr} {len cap : Nat} {d : DataW H} {p : List MemPlace} (hu : P.underlying t = some (.slice e)) (he : P.underlying e = some (.int .i64)) (hc : P.cellsOf e = 1)
    (h : DataW.Trod enc P W 0 (fun _ => true) true t (.slice a0 len cap) d p) : ∃ l : List Int, Rd W W.heap.size 1 a0 len cap (l.map vi) ∧ ∀ x ∈ l, -9223372036854775808 ≤ x ∧ x ≤ 9223372036854775807 := by
  obtain ⟨fuel, hf⟩ := h
  rcases open_ints hu he hc hf with ⟨hcs, _⟩ | ⟨x, l, c, zs, hcs, _, hl, hm, hz, _, hcell, hwz⟩
  · simp [Value.cells] at hcs
    obtain ⟨rfl, rfl, rfl⟩ := hcs
    exact ⟨[], Rd.nil, by simp⟩
  · simp [Value.cells] at hcs
    obtain ⟨rfl, rfl, rfl⟩ := hcs
    have hz' : zs.length = cap := by simpa using hz
    refine ⟨zs.take len, ⟨by simp; omega, hl, hm, fun hn => ?_⟩, fun y hy => ?_⟩
    · obtain ⟨b, off, spot⟩ := x
      have h0 := hcell 0 (by omega)
      have hs : spot = none := by simpa [Addr.add] using World.cell?_spot h0
      subst hs
      refine ⟨b, off, rfl, World.block_lt_of_cell? W _ h0, fun j u hj => ?_⟩
      have hj2 : j < len := by
        rcases Nat.lt_or_ge j len with h3 | h3
        · exact h3
        · rw [List.getElem?_eq_none (by simp; omega)] at hj; cases hj
      have hcj := hcell j (by omega)
      have e1 : u = .int .i64 zs[j] := by
        simp [List.getElem?_map, List.getElem?_take, hj2, show j < zs.length from by omega, vi] at hj
        rw [← hj]
      subst e1
      rw [show zs.getD j 0 = zs[j] from by simp [List.getD, show j < zs.length from by omega]] at hcj
      have hadd : (⟨b, off, none⟩ : Addr).add j = ⟨b, off + j, none⟩ := by unfold Addr.add; split <;> simp_all
      rwa [hadd] at hcj
    · have hw := hwz y (List.mem_of_mem_take hy)
      have h1 : IntKind.i64.min = -9223372036854775808 := rfl
      have h2 : IntKind.i64.max = 9223372036854775807 := rfl
      simp only [Lit.wf, Bool.and_eq_true, decide_eq_true_eq] at hw
      omega
end Go.Proofs.YtnigdcppdkcllaaDoor

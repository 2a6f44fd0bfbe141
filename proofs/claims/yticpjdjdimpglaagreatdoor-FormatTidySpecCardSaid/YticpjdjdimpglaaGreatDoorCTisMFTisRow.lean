/- FormatTidySpec: Tidy and Flat agree with the reference, for every condition and order: the tied card. No condition of its own. -/
import Derived.Test.YticpjdjdimpglaaGreatDoorRows
import Derived.Test.YticpjdjdimpglaaGreatDoorCards
import Derived.Test.YticpjdjdimpglaaGreatDoorTie
import Derived.Test.YticpjdjdimpglaaGreatDoorCTisMTiLaw
import Derived.Test.YticpjdjdimpglaaGreatDoorCTisMFRd
import Derived.SevenTiedAt
namespace Go.Proofs.YticpjdjdimpglaaGreatDoor
set_option linter.unusedVariables false
set_option linter.unusedSimpArgs false
open Go.ChangeShapes Go.WideShapes Go.ChangeAt Go.RowKit
set_option maxRecDepth 100000 in
theorem ftidyspec_lifted (os : Os) (started : os.Started) (H : Type) (enc : TypeId × Value → H) :
    ReturnsInHanded {} Tryz.checked os 4 .any (fun w args => (Rows.formatTidySpecSpec.pre enc Tryz.prog Tryz.f4 [] false w args ∧ laidMetH Tryz.prog Rows.formatTidySpecRow.laid w) ∧ sizedMet enc Tryz.prog Tryz.f4 (OpenSpec.ofChange Rows.formatTidySpecSpec) false w args)
      (Rows.formatTidySpecSpec.post enc Tryz.prog Tryz.f4 false true false false) := by
  refine wrap_both (C := Tryz.checked) (X := fun w _ => laidMetH Tryz.prog Rows.formatTidySpecRow.laid w) (fun _ _ _ hh h => h.of_heap hh) own_knob started (by kernel_rfl) Tryz.func4
    (ChangeSpec.witness_shaped (enc := enc) (C := Tryz.checked) (os := os) (X := fun w _ => laidMetH Tryz.prog Rows.formatTidySpecRow.laid w) false (World.laidAll Tryz.prog os Rows.formatTidySpecRow.laid) #[.agg #[.int .i64 0, .int .i64 0, .int .i64 0, .slice none 0 0], .slice none 0 0] 8 (World.laidAll_os _ _ _)
      (World.shaped_of_ZipB (by kernel_rfl) (by kernel_rfl)) (by kernel_rfl) (by kernel_rfl) (by kernel_rfl)
      (by rw [MakeChecks.laidMetH_plain _ _ _ (by kernel_rfl)]; exact laidMet_laidAll _ (by kernel_rfl) (by kernel_rfl))) ?_
  intro W base args ds gs before hval0 hW hL hsh
  have hval : ∀ (j : Nat) t v, Tryz.f4.params[j]? = some t → args[j]? = some v → Value.okWide Tryz.prog W .any base t v := hval0
  have hW' := hW
  obtain ⟨p, q, hA0, hV, rfl, _, _⟩ := hW
  have hA : DataW.TrodAll enc Tryz.prog W 0 (fun _ => true) true Tryz.f4.params.toList args.toList ds p := hA0
  rw [Tryz.params4] at hA hval
  obtain ⟨v0, vs0, d0, ds0, ps0, q0, hargs, rfl, rfl, h0, r0⟩ := trodAll_cons hA
  obtain ⟨v1, vs1, d1, ds1, ps1, q1, rfl, rfl, rfl, h1, r1⟩ := trodAll_cons r0
  obtain ⟨rfl, rfl, rfl⟩ := trodAll_nil r1
  obtain rfl : args = #[v0, v1] := by cases args; simp_all
  obtain ⟨rfl, rfl⟩ := trodVars_none hV
  have hL' := hL
  rw [MakeChecks.laidMetH_plain _ _ _ (by kernel_rfl)] at hL'
  have hL2 : laidMet Tryz.prog [("math/bits.deBruijn32tab", Rows.laid_math_bits_deBruijn32tab), ("math/bits.deBruijn64tab", Rows.laid_math_bits_deBruijn64tab), ("internal/strconv.uint64pow10", Rows.laid_internal_strconv_uint64pow10), ("bytes.ErrTooLarge", Rows.laid_bytes_ErrTooLarge), ("assize/format.variables", Rows.laid_assize_format_variables), ("assize/format.criteria", Rows.laid_assize_format_criteria)] W := hL'
  obtain ⟨HFG, HCP⟩ := fg_of (hL2.tail.tail) (hL2.tail.tail.tail.tail) (hL2.tail.tail.tail.tail.tail) (maxlen_cell hsh)
  have k0 := h0
  have lt0 : ∀ x ∈ ps0, x.block < W.heap.size := by obtain ⟨m, hm⟩ := k0; exact DataW.trod_lt m _ _ _ hm
  obtain ⟨cs0, hv0, _⟩ := okWide_struct Tryz.underlying24 (hval 0 24 v0 rfl rfl)
  obtain ⟨x0, A0, m0, n0, hw0, hr0⟩ := cond_arg hv0 h0
  clear hv0
  subst hw0
  have k1 := h1
  have lt1 : ∀ x ∈ ps1, x.block < W.heap.size := by obtain ⟨m, hm⟩ := k1; exact DataW.trod_lt m _ _ _ hm
  obtain ⟨a1, len1, cap1, rfl⟩ := okWide_slice Tryz.underlying25 (hval 1 25 v1 rfl rfl)
  obtain ⟨x1, hr1⟩ := steps_arg h1
  clear hA0 hval0
  refine (tis_walk x0 A0 m0 n0 x1 a1 len1 cap1 W hr0 hr1 HFG HCP).mono fun e W' ⟨he, bel⟩ => ?_
  subst he
  exact ⟨_, rfl, _, _, _, [], _, [], hW', trodAll_mk1 (shut_bool Tryz.underlying4 _), (trodAll_cons_mk (Below.trod laid_out (by kernel_rfl) (of_decide_eq_true (by kernel_rfl)) k0 bel lt0) (trodAll_cons_mk (Below.trod laid_out (by kernel_rfl) (of_decide_eq_true (by kernel_rfl)) k1 bel lt1) trodAll_mk0)), rfl, bel.frame _, fun h => by cases h⟩
theorem ftidyspec_holds : Rows.FormatTidySpecSaid :=
  OpenClaim.holds_of_wide 4 Tryz.f4 rfl rfl rfl rfl rfl rfl rfl ⟨rfl, rfl, rfl, rfl, rfl⟩ rfl rfl rfl rfl rfl (by kernel_rfl) Tryz.func4 (by kernel_rfl)
    (of_decide_eq_true (by kernel_rfl)) (by unfold Func.isWrapper; first | (rw [if_pos (by decide +kernel)]; kernel_rfl) | (rw [if_neg (by decide +kernel)]; exact ⟨rfl, rfl⟩))
    (fun os started H enc _ => ftidyspec_lifted os started H enc)
theorem ftidyspec_card : Rows.FormatTidySpecCardSaid :=
  Claim7.holds_tied_plain_at .later [] [.data, .data, .data, .sentinel, .data, .data] true (true, "8188f0b9cc5a32ae17a17750424c2355b0e80e319883cd72eb923e00cd9c8043") true
    ftidyspec_holds (fun _ h => by cases h) (by kernel_rfl) (fun _ h => by cases h) formatTidySpec_row_tie rfl ⟨rfl, rfl⟩ (by kernel_rfl) rfl
    (fun f fn hf hfn => by
      obtain rfl : f = 4 := Option.some.inj ((show Tryz.prog.funcNamed "assize/assizelaw15.FormatTidySpec" = some 4 by kernel_rfl).symm.trans hf) |>.symm
      obtain rfl : fn = Tryz.f4 := (Option.some.inj (Tryz.func4.symm.trans hfn)).symm
      exact ⟨by kernel_rfl, fun j t ht => by
        rw [Tryz.params4] at ht
        have hm : t ∈ [24, 25] := by simpa using Array.mem_of_getElem? ht
        have hall : ([24, 25].all fun u => !Tryz.prog.wantsStandIn u) = true := by kernel_rfl
        exact (show Tryz.prog.wantsStandIn t = false by simpa using List.all_eq_true.1 hall t hm)⟩)
    (by kernel_rfl)
#print axioms ftidyspec_card
end Go.Proofs.YticpjdjdimpglaaGreatDoor

/- FormatParses: what the printed text of rules is read as is the rules with their single conditions replaced by their cores, and prints the same, for all rules: the tied card. No condition of its own. -/
import Derived.Test.YticpjdjdimpglaaGreatDoorRows
import Derived.Test.YticpjdjdimpglaaGreatDoorCards
import Derived.Test.YticpjdjdimpglaaGreatDoorTie
import Derived.Test.YticpjdjdimpglaaGreatDoorCFpaMFpaLaw
import Derived.Test.YticpjdjdimpglaaGreatDoorCFpaMFRd
import Derived.Test.YticpjdjdimpglaaGreatDoorCFpaMRlArg
import Derived.Test.YticpjdjdimpglaaGreatDoorCFpaMGbLaid
import Derived.SevenTiedAt
namespace Go.Proofs.YticpjdjdimpglaaGreatDoor
set_option linter.unusedVariables false
set_option linter.unusedSimpArgs false
open Go.ChangeShapes Go.WideShapes Go.ChangeAt Go.RowKit
set_option maxRecDepth 100000 in
theorem fparses_lifted (os : Os) (started : os.Started) (H : Type) (enc : TypeId × Value → H) :
    ReturnsInHanded {} Tryz.checked os 8 .any (fun w args => (Rows.formatParsesSpec.pre enc Tryz.prog Tryz.f8 [] false w args ∧ laidMetH Tryz.prog Rows.formatParsesRow.laid w) ∧ sizedMet enc Tryz.prog Tryz.f8 (OpenSpec.ofChange Rows.formatParsesSpec) false w args)
      (Rows.formatParsesSpec.post enc Tryz.prog Tryz.f8 false true false false) := by
  refine wrap_both (C := Tryz.checked) (X := fun w _ => laidMetH Tryz.prog Rows.formatParsesRow.laid w) (fun _ _ _ hh h => h.of_heap hh) own_knob started (by kernel_rfl) Tryz.func8
    (ChangeSpec.witness_shaped (enc := enc) (C := Tryz.checked) (os := os) (X := fun w _ => laidMetH Tryz.prog Rows.formatParsesRow.laid w) false (World.laidAll Tryz.prog os Rows.formatParsesRow.laid) #[.agg #[.string ⟨#[]⟩, .int .i64 0, .int .i64 0, .int .i64 0, .slice none 0 0, .slice none 0 0]] 8 (World.laidAll_os _ _ _)
      (World.shaped_of_ZipB (by kernel_rfl) (by kernel_rfl)) (by kernel_rfl) (by kernel_rfl) (by kernel_rfl)
      (by rw [MakeChecks.laidMetH_plain _ _ _ (by kernel_rfl)]; exact laidMet_laidAll _ (by kernel_rfl) (by kernel_rfl))) ?_
  intro W base args ds gs before hval0 hW hL hsh
  have hval : ∀ (j : Nat) t v, Tryz.f8.params[j]? = some t → args[j]? = some v → Value.okWide Tryz.prog W .any base t v := hval0
  have hW' := hW
  obtain ⟨p, q, hA0, hV, rfl, _, _⟩ := hW
  have hA : DataW.TrodAll enc Tryz.prog W 0 (fun _ => true) true Tryz.f8.params.toList args.toList ds p := hA0
  rw [Tryz.params8] at hA hval
  obtain ⟨v0, vs0, d0, ds0, ps0, q0, hargs, rfl, rfl, h0, r0⟩ := trodAll_cons hA
  obtain ⟨rfl, rfl, rfl⟩ := trodAll_nil r0
  obtain rfl : args = #[v0] := by cases args; simp_all
  obtain ⟨rfl, rfl⟩ := trodVars_none hV
  have hL' := hL
  rw [MakeChecks.laidMetH_plain _ _ _ (by kernel_rfl)] at hL'
  have hL2 : laidMet Tryz.prog [("math/bits.deBruijn32tab", Rows.laid_math_bits_deBruijn32tab), ("math/bits.deBruijn64tab", Rows.laid_math_bits_deBruijn64tab), ("internal/strconv.uint64pow10", Rows.laid_internal_strconv_uint64pow10), ("unicode/utf8.acceptRanges", Rows.laid_unicode_utf8_acceptRanges), ("strconv.ErrRange", Rows.laid_strconv_ErrRange), ("strconv.ErrSyntax", Rows.laid_strconv_ErrSyntax), ("bytes.ErrTooLarge", Rows.laid_bytes_ErrTooLarge), ("assize/format.variables", Rows.laid_assize_format_variables), ("assize/format.criteria", Rows.laid_assize_format_criteria), ("unicode/utf8.first", Rows.laid_unicode_utf8_first)] W := hL'
  obtain ⟨HFG, HCP⟩ := fg_of (hL2.tail.tail) (hL2.tail.tail.tail.tail.tail.tail.tail) (hL2.tail.tail.tail.tail.tail.tail.tail.tail) (maxlen_cell hsh)
  have HG := gb_of2 (hL2.tail.tail.tail.tail) (maxlen_cell hsh)
  have k0 := h0
  have lt0 : ∀ x ∈ ps0, x.block < W.heap.size := by obtain ⟨m, hm⟩ := k0; exact DataW.trod_lt m _ _ _ hm
  obtain ⟨cs0, hv0, _⟩ := okWide_struct Tryz.underlying28 (hval 0 28 v0 rfl rfl)
  obtain ⟨x0, A0, m0, n0, C0, i0, j0, hw0, hr0, hz0⟩ := rules_arg hv0 h0
  clear hv0
  subst hw0
  clear hA0 hval0
  refine (fpa_walk x0 A0 m0 n0 C0 i0 j0 W hr0 hz0 HFG HCP HG).mono fun e W' ⟨he, bel⟩ => ?_
  subst he
  exact ⟨_, rfl, _, _, _, [], _, [], hW', trodAll_mk1 (shut_bool Tryz.underlying4 _), (trodAll_cons_mk (Below.trod laid_out (by kernel_rfl) (of_decide_eq_true (by kernel_rfl)) k0 bel lt0) trodAll_mk0), rfl, bel.frame _, fun h => by cases h⟩
theorem fparses_holds : Rows.FormatParsesSaid :=
  OpenClaim.holds_of_wide 8 Tryz.f8 rfl rfl rfl rfl rfl rfl rfl ⟨rfl, rfl, rfl, rfl, rfl⟩ rfl rfl rfl rfl rfl (by kernel_rfl) Tryz.func8 (by kernel_rfl)
    (of_decide_eq_true (by kernel_rfl)) (by unfold Func.isWrapper; first | (rw [if_pos (by decide +kernel)]; kernel_rfl) | (rw [if_neg (by decide +kernel)]; exact ⟨rfl, rfl⟩))
    (fun os started H enc _ => fparses_lifted os started H enc)
theorem fparses_card : Rows.FormatParsesCardSaid :=
  Claim7.holds_tied_plain_at .later [] [.data, .data, .data, .data, .sentinel, .sentinel, .sentinel, .data, .data, .pinned] true (true, "8188f0b9cc5a32ae17a17750424c2355b0e80e319883cd72eb923e00cd9c8043") true
    fparses_holds (fun _ h => by cases h) (by kernel_rfl) (fun _ h => by cases h) formatParses_row_tie rfl ⟨rfl, rfl⟩ (by kernel_rfl) rfl
    (fun f fn hf hfn => by
      obtain rfl : f = 8 := Option.some.inj ((show Tryz.prog.funcNamed "assize/assizelaw15.FormatParses" = some 8 by kernel_rfl).symm.trans hf) |>.symm
      obtain rfl : fn = Tryz.f8 := (Option.some.inj (Tryz.func8.symm.trans hfn)).symm
      exact ⟨by kernel_rfl, fun j t ht => by
        rw [Tryz.params8] at ht
        have hm : t ∈ [28] := by simpa using Array.mem_of_getElem? ht
        have hall : ([28].all fun u => !Tryz.prog.wantsStandIn u) = true := by kernel_rfl
        exact (show Tryz.prog.wantsStandIn t = false by simpa using List.all_eq_true.1 hall t hm)⟩)
    (by kernel_rfl)
#print axioms fparses_card
end Go.Proofs.YticpjdjdimpglaaGreatDoor

/- The reference's Flat by its contract. -/
import Derived.Test.YticpjdjdimpglaaGreatDoorCTisMPFb
import Derived.Test.YticpjdjdimpglaaGreatDoorCTisMQOrd
namespace Go.Proofs.YticpjdjdimpglaaGreatDoor
set_option linter.unusedVariables false
set_option linter.unusedSimpArgs false
open Go.RowKit
set_option maxHeartbeats 4000000 in
set_option maxRecDepth 100000 in
theorem pflatO_any {S : Nat → Prop} {w : World} {F : SF} {A : Option Addr} {m d : Nat} (hS : ∀ k, S k → k < w.heap.size) (h : RepT S w F A m d) (hz : F.sz ≤ 100000) :
    Calls Tryz.prog 23 #[.slice A m d] w (FOPost S w (flatO F)) := by
  have HS := Lib.hid hS
  have HR := Lib.hid h
  have HZ := Lib.hid hz
  have HF := Lib.hid (show flatO F = if torder F ≠ 0 then (.nil, torder F) else match flat [] F with | .ok x => (x, 0) | .error e => (.nil, e) from rfl)
  generalize flatO F = r at HF ⊢
  have HO := Lib.hid (qorder_any S F A m d w h (by omega))
  clear hS h hz
  go_enter Tryz.func23, Tryz.ntmps23
  go_wp2_with (fail)
  refine HO.out.mono ?_
  rintro e w1 ⟨hb1, rfl⟩
  have HB1 := Lib.hid hb1
  clear hb1 HO
  by_cases h0 : torder F = 0
  · have HF2 := Lib.hid (HF.out.trans (if_neg (Classical.not_not.2 h0)))
    rw [h0]
    clear HF h0
    go_wp2_with (fail)
    refine (pfl_all (F.sz + 1) S F A m d none 0 0 [] [] w1 (Nat.lt_succ_self _) (by have := HZ.out; omega) (fun k hk => Nat.lt_of_lt_of_le (HS.out k hk) HB1.out.size) (HR.out.below HB1.out) Rd.nil (fun _ => Iff.rfl)).mono ?_
    cases hf : flat [] F with
    | error e =>
      have HRR := Lib.hid (show r = (.nil, e) by rw [HF2.out, hf])
      clear hf HF2
      rintro e' w2 ⟨hb2, rfl⟩
      have HB2 := Lib.hid (HB1.out.trans (hb2.mono HB1.out.size))
      clear hb2
      go_wp2_with (fail)
      go_ret2
      refine ⟨HB2.out, none, 0, 0, ?_⟩
      rw [HRR.out]
      exact ⟨rfl, RepT.nil⟩
    | ok G =>
      have HRR := Lib.hid (show r = (G, 0) by rw [HF2.out, hf])
      clear hf HF2
      rintro e' w2 ⟨hb2, A2, m2, d2, rfl, hr2⟩
      have HB2 := Lib.hid (HB1.out.trans (hb2.mono HB1.out.size))
      have HR2 := Lib.hid hr2
      clear hb2 hr2
      go_wp2_with (fail)
      go_ret2
      refine ⟨HB2.out, A2, m2, d2, ?_⟩
      rw [HRR.out]
      exact ⟨rfl, HR2.out⟩
  · have HF2 := Lib.hid (HF.out.trans (if_pos h0))
    have hb : (torder F != 0) = true := bne_iff_ne.2 h0
    clear HF h0
    generalize torder F = z at hb HF2 ⊢
    go_wp2_with (fail)
    go_ret2
    refine ⟨HB1.out, none, 0, 0, ?_⟩
    rw [HF2.out]
    exact ⟨rfl, RepT.nil⟩
end Go.Proofs.YticpjdjdimpglaaGreatDoor

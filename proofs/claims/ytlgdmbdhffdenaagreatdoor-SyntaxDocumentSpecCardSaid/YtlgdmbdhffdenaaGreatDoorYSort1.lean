/- The library's stable sort of at most one problem. -/
import Derived.Test.YtlgdmbdhffdenaaGreatDoorYDoc
namespace Go.Proofs.YtlgdmbdhffdenaaGreatDoor
set_option linter.unusedVariables false
set_option linter.unusedSimpArgs false
open Go.RowKit

set_option maxRecDepth 100000 in
theorem yins_one (A : Option Addr) (n c : Nat) (hn : n ≤ 1) (fv : Value) (w : World) : Calls Tryz.prog 98 #[.slice A n c, .int .i64 0, .int .i64 n, fv] w fun e w' => e = .returned (.tuple #[]) ∧ w' = w := by
  have h1 : ¬ (1 : Int) < (n : Int) := by omega
  go_enter Tryz.func98, Tryz.ntmps98
  go_wp2
  go_loopw [8] (fun s wr => s = .int .i64 1 ∧ Hid (wr = w)) (fun _ _ => 0)
  case atStart => exact ⟨rfl, rfl⟩
  case round =>
    obtain ⟨rfl, hw⟩ := hrel
    go_wp2
    go_end0
    exact ⟨rfl, hw.out⟩
set_option maxRecDepth 100000 in
theorem ystab_one (A : Option Addr) (n c : Nat) (hn : n ≤ 1) (fv : Value) (w : World) : Calls Tryz.prog 75 #[.slice A n c, .int .i64 n, fv] w fun e w' => e = .returned (.tuple #[]) ∧ w' = w := by
  have h1 : ¬ (20 : Int) ≤ (n : Int) := by omega
  have h2 : ¬ (20 : Int) < (n : Int) := by omega
  go_enter Tryz.func75, Tryz.ntmps75
  go_wp2_with (fail)
  go_loopw [7, 8] (fun s t wr => s = .int .i64 0 ∧ t = .int .i64 20 ∧ Hid (wr = w)) (fun _ _ _ => 0)
  case atStart => exact ⟨rfl, rfl, rfl⟩
  case round =>
    obtain ⟨rfl, rfl, hw⟩ := hrel
    go_wp2_with (fail)
    refine (yins_one A n c hn fv wr).mono ?_
    rintro e w2 ⟨rfl, hw2'⟩
    have HW2 := Lib.hid (hw2'.trans hw.out)
    clear hw2' hw
    go_wp2_with (fail)
    go_loopw [6] (fun s wr => s = .int .i64 20 ∧ Hid (wr = w2)) (fun _ _ => 0)
    case atStart => exact ⟨rfl, rfl⟩
    case round =>
      obtain ⟨rfl, hw2⟩ := hrel
      go_wp2_with (fail)
      go_end0
      exact ⟨rfl, hw2.out.trans HW2.out⟩
theorem sort_one : SortC 1 := by
  intro base base2 A n c P w h hP
  have hn : n ≤ 1 := by rw [h.len]; exact hP
  have hmf := hmfP
  have HB := Lib.hid h
  clear h
  go_enter Tryz.func38, Tryz.ntmps38
  go_wp2_with (fail)
  refine (ystab_one A n c hn _ w).mono ?_
  rintro e w' ⟨rfl, rfl⟩
  go_wp2_with (fail)
  go_end0
  refine ⟨rfl, Only.refl _ _, P, List.Perm.refl _, ?_, HB.out⟩
  match P, hP with
  | [], _ => exact List.Pairwise.nil
  | [x], _ => exact List.pairwise_singleton _ _
  | _ :: _ :: _, h => exact absurd h (by simp)
end Go.Proofs.YtlgdmbdhffdenaaGreatDoor

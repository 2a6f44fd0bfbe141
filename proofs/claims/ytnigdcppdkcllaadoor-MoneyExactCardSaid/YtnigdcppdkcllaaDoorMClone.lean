/- slices.Clone of numbers, by its contract. -/
import Derived.Test.YtnigdcppdkcllaaDoorProg
import Derived.Test.YtnigdcppdkcllaaDoorMInts
import Derived.Test.YtnigdcppdkcllaaDoorApp
namespace Go.Proofs.YtnigdcppdkcllaaDoor
set_option linter.unusedVariables false
set_option linter.unusedSimpArgs false
open Go.RowKit

theorem elemInt : Elem Tryd.prog 22 3 1 8 := Elem.mk' Tryd.underlying22 (z := .int .i64 0) (by kernel_rfl) rfl (by omega)
theorem vi_one (l : List Int) : ∀ u ∈ l.map vi, u.oneCell' = true := by
  intro u hu
  obtain ⟨c, _, rfl⟩ := List.mem_map.1 hu
  rfl
theorem own_new0 (w : World) (B : Nat) (e : TypeId) (size : Nat) (hB : B ≤ w.heap.size) : (w.alloc (.cells #[] e)).ownsRow B e size (.slice (some ⟨w.heap.size, 0, none⟩) 0 0) 0 [] :=
  ⟨by simp, .inr ⟨w.heap.size, 0, #[], rfl, hB, heap_alloc_new w _, by omega, by unfold maxLen; omega, by simp, by simp⟩⟩
set_option maxHeartbeats 400000 in
set_option maxRecDepth 100000 in
theorem clone_any (b off n c B : Nat) (l : List Int) (w : World) (h : Rd w B 1 (some ⟨b, off, none⟩) n c (l.map vi)) (hB : B ≤ w.heap.size) (hn : n ≤ 100000) :
    Calls Tryd.prog 27 #[.slice (some ⟨b, off, none⟩) n c] w fun e w' => ∃ A' c', e = .returned (.slice A' n c') ∧ Rd w' w'.heap.size 1 A' n c' (l.map vi) ∧ Below w.heap.size w w' := by
  have hnil : ∀ w : World, (binOp .eql 22 (.slice (some ⟨b, off, none⟩) n c) (.slice none 0 0)).run Tryd.prog w = .ok (.bool false) w := fun _ => rfl
  have hr := Lib.hid (h.alloc hB (.cells #[] 3))
  have ho := Lib.hid (own_new0 w w.heap.size 3 1 (Nat.le_refl _))
  have hb0 := Lib.hid ((Below.refl w.heap.size w).alloc (Nat.le_refl _) (.cells #[] 3))
  clear h
  go_enter Tryd.func27, Tryd.ntmps27
  go_wp2_with (first | (at_builtin; refine wpList_app elemInt rfl (.tmp 5) (.tmp 6) rfl w.heap.size _ 0 0 [] rfl ho.out B _ _ _ rfl _ hr.out (vi_one _) (by omega) (by omega) (by simp) ?_; intro A3 c3 w3 ho3 hb3 hg3) | fail)
  have HO := Lib.hid ho3
  have HB := Lib.hid hb3
  clear ho3 hb3 hg3
  go_wp2
  refine bodyPost_ret (v := .slice A3 (0 + n) c3) (by simp [results, Tryd.results27, go_sem]) rfl ?_
  have e0 : 0 + n = n := by omega
  have ho' := HO.out
  rw [e0, List.nil_append] at ho'
  exact ⟨A3, c3, by rw [e0], own_rd ho', hb0.out.trans HB.out⟩
end Go.Proofs.YtnigdcppdkcllaaDoor

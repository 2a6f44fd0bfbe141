/- The small functions of chapter 15's statements: at, not, and, or, by. -/
import Derived.Test.YticpjdjdimpglaaGreatDoorCTisMFla
namespace Go.Proofs.YticpjdjdimpglaaGreatDoor
set_option linter.unusedVariables false
set_option linter.unusedSimpArgs false
open Go.RowKit
abbrev N0 : Nat → Prop := fun _ => False
set_option maxRecDepth 100000 in
theorem at_any (v n : Int) (w : World) : Calls Tryz.prog 36 #[.int .i64 v, .int .i64 n] w fun e w' => e = .returned (.agg #[.int .i64 1, .int .i64 v, .int .i64 n, .slice none 0 0]) ∧ Below w.heap.size w w' := by
  go_enter Tryz.func36, Tryz.ntmps36
  go_wp2
  first | (refine calls_named ?_; intro W hW) | (refine body_named ?_; intro W hW) | (refine wpList_named ?_; intro W hW) | (refine wp_named ?_; intro W hW)
  have hb : Below w.heap.size w W := by rw [← hW]; exact (Below.refl _ _).alloc (Nat.le_refl _) _
  have hx : Blk W w.heap.size 24 #[.int .i64 1, .int .i64 v, .int .i64 n, .slice none 0 0] := by rw [← hW]; exact Blk.new _ _ _
  clear hW
  have r0 := hx.cell 0
  have r1 := hx.cell 1
  have r2 := hx.cell 2
  have r3 := hx.cell 3
  exact bodyPost_ret (v := .agg #[.int .i64 1, .int .i64 v, .int .i64 n, .slice none 0 0]) (by simp [results, Tryz.results36, go_sem, r0, r1, r2, r3]; try rfl) rfl ⟨rfl, hb⟩
theorem one_new {w : World} {b : Nat} {x : CT} {A : Option Addr} {m d : Nat} (hx : Blk w b 24 #[.int .i64 x.k, .int .i64 x.v, .int .i64 x.n, .slice A m d]) (h : RepH N0 w x.ps A m d) : RepH N0 w (.one x .nil) (some ⟨b, 0, none⟩) 1 1 :=
  ⟨[vi x.k, vi x.v, vi x.n, .slice A m d], own_rd (own_of_blk2 (base := 0) (m := 1) hx rfl (Nat.zero_le _) (by omega)), fun _ _ _ h => h, RepF.one1 h⟩
set_option maxRecDepth 100000 in
theorem lnot_any (c : CT) (A : Option Addr) (m d : Nat) (w : World) (h : RepH N0 w c.ps A m d) : Calls Tryz.prog 37 #[.agg #[.int .i64 c.k, .int .i64 c.v, .int .i64 c.n, .slice A m d]] w fun e w' => Below w.heap.size w w' ∧ ∃ g, e = .returned (.agg #[.int .i64 4, .int .i64 0, .int .i64 0, .slice (some ⟨g, 0, none⟩) 1 1]) ∧ RepH N0 w' (.one c .nil) (some ⟨g, 0, none⟩) 1 1 := by
  have HR := Lib.hid h
  clear h
  go_enter Tryz.func37, Tryz.ntmps37
  go_wp2
  first | (refine calls_named ?_; intro W hW) | (refine body_named ?_; intro W hW) | (refine wpList_named ?_; intro W hW) | (refine wp_named ?_; intro W hW)
  have hb : Below w.heap.size w W := by rw [← hW]; exact (((Below.refl _ _).alloc (Nat.le_refl _) _).alloc (by simp) _).alloc (by simp; omega) _
  have hx : Blk W (w.heap.size + 1) 24 #[.int .i64 4, .int .i64 0, .int .i64 0, .slice (some ⟨w.heap.size + 1 + 1, 0, none⟩) 1 1] := by
    rw [← hW, ← World.size_alloc w]
    exact (Blk.new _ _ _).alloc _
  have hy : Blk W (w.heap.size + 1 + 1) 24 #[.int .i64 c.k, .int .i64 c.v, .int .i64 c.n, .slice A m d] := by rw [← hW]; exact Blk.at_end (by simp [World.size_alloc])
  clear hW
  have r0 := hx.cell 0
  have r1 := hx.cell 1
  have r2 := hx.cell 2
  have r3 := hx.cell 3
  exact bodyPost_ret (v := .agg #[.int .i64 4, .int .i64 0, .int .i64 0, .slice (some ⟨w.heap.size + 1 + 1, 0, none⟩) 1 1]) (by simp [results, Tryz.results37, go_sem, r0, r1, r2, r3]; try rfl) rfl ⟨hb, _, rfl, one_new hy (HR.out.below hb)⟩
set_option maxRecDepth 100000 in
theorem land_any (A : Option Addr) (m d : Nat) (w : World) : Calls Tryz.prog 35 #[.slice A m d] w fun e w' => e = .returned (.agg #[.int .i64 2, .int .i64 0, .int .i64 0, .slice A m d]) ∧ Below w.heap.size w w' := by
  go_enter Tryz.func35, Tryz.ntmps35
  go_wp2
  first | (refine calls_named ?_; intro W hW) | (refine body_named ?_; intro W hW) | (refine wpList_named ?_; intro W hW) | (refine wp_named ?_; intro W hW)
  have hb : Below w.heap.size w W := by rw [← hW]; exact (Below.refl _ _).alloc (Nat.le_refl _) _
  have hx : Blk W w.heap.size 24 #[.int .i64 2, .int .i64 0, .int .i64 0, .slice A m d] := by rw [← hW]; exact Blk.new _ _ _
  clear hW
  have r0 := hx.cell 0
  have r1 := hx.cell 1
  have r2 := hx.cell 2
  have r3 := hx.cell 3
  exact bodyPost_ret (v := .agg #[.int .i64 2, .int .i64 0, .int .i64 0, .slice A m d]) (by simp [results, Tryz.results35, go_sem, r0, r1, r2, r3]; try rfl) rfl ⟨rfl, hb⟩
set_option maxRecDepth 100000 in
theorem lor_any (A : Option Addr) (m d : Nat) (w : World) : Calls Tryz.prog 38 #[.slice A m d] w fun e w' => e = .returned (.agg #[.int .i64 3, .int .i64 0, .int .i64 0, .slice A m d]) ∧ Below w.heap.size w w' := by
  go_enter Tryz.func38, Tryz.ntmps38
  go_wp2
  first | (refine calls_named ?_; intro W hW) | (refine body_named ?_; intro W hW) | (refine wpList_named ?_; intro W hW) | (refine wp_named ?_; intro W hW)
  have hb : Below w.heap.size w W := by rw [← hW]; exact (Below.refl _ _).alloc (Nat.le_refl _) _
  have hx : Blk W w.heap.size 24 #[.int .i64 3, .int .i64 0, .int .i64 0, .slice A m d] := by rw [← hW]; exact Blk.new _ _ _
  clear hW
  have r0 := hx.cell 0
  have r1 := hx.cell 1
  have r2 := hx.cell 2
  have r3 := hx.cell 3
  exact bodyPost_ret (v := .agg #[.int .i64 3, .int .i64 0, .int .i64 0, .slice A m d]) (by simp [results, Tryz.results38, go_sem, r0, r1, r2, r3]; try rfl) rfl ⟨rfl, hb⟩
set_option maxRecDepth 100000 in
theorem by_any (n : Int) (w : World) : Calls Tryz.prog 39 #[.int .i64 n] w fun e w' => e = .returned (.agg #[.int .i64 1, .int .i64 n, .int .i64 0, .int .i64 0, .int .i64 0, .slice none 0 0, .slice none 0 0, .slice none 0 0]) ∧ Below w.heap.size w w' := by
  go_enter Tryz.func39, Tryz.ntmps39
  go_wp2
  first | (refine calls_named ?_; intro W hW) | (refine body_named ?_; intro W hW) | (refine wpList_named ?_; intro W hW) | (refine wp_named ?_; intro W hW)
  have hb : Below w.heap.size w W := by rw [← hW]; exact (Below.refl _ _).alloc (Nat.le_refl _) _
  have hx : Blk W w.heap.size 56 #[.int .i64 1, .int .i64 n, .int .i64 0, .int .i64 0, .int .i64 0, .slice none 0 0, .slice none 0 0, .slice none 0 0] := by rw [← hW]; exact Blk.new _ _ _
  clear hW
  have r0 := hx.cell 0
  have r1 := hx.cell 1
  have r2 := hx.cell 2
  have r3 := hx.cell 3
  have r4 := hx.cell 4
  have r5 := hx.cell 5
  have r6 := hx.cell 6
  have r7 := hx.cell 7
  exact bodyPost_ret (v := .agg #[.int .i64 1, .int .i64 n, .int .i64 0, .int .i64 0, .int .i64 0, .slice none 0 0, .slice none 0 0, .slice none 0 0]) (by simp [results, Tryz.results39, go_sem, r0, r1, r2, r3, r4, r5, r6, r7]; try rfl) rfl ⟨rfl, hb⟩
end Go.Proofs.YticpjdjdimpglaaGreatDoor

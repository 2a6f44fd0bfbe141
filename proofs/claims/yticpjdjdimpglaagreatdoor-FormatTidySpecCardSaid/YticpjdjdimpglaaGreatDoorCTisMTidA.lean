/- Tidy's deferred closure by its two contracts. -/
import Derived.Test.YticpjdjdimpglaaGreatDoorCTisMTRow
import Derived.Recover
namespace Go.Proofs.YticpjdjdimpglaaGreatDoor
set_option linter.unusedVariables false
set_option linter.unusedSimpArgs false
open Go.RowKit
theorem bodyD_named2 {P : Program} {a : Act} {w : World} {fn : Func} {R : Ending → World → Prop} {e : Exit} (h : ∀ W, w = W → bodyPostD P fn R e a W) : bodyPostD P fn R e a w := h w rfl
theorem only_p2 {p q : Nat} {w : World} {i : Nat} {v : Value} : Only (fun k => k = p ∨ k = q) w (w.setCell ⟨p, i, none⟩ v) := Only.set (S := fun k => k = p ∨ k = q) w (p := ⟨p, i, none⟩) (.inl rfl) _
theorem only_q2 {p q : Nat} {w : World} {i : Nat} {v : Value} : Only (fun k => k = p ∨ k = q) w (w.setCell ⟨q, i, none⟩ v) := Only.set (S := fun k => k = p ∨ k = q) w (p := ⟨q, i, none⟩) (.inr rfl) _
theorem Blk.off2 {w : World} {p q i : Nat} {t : TypeId} {cs : Array Value} {v : Value} (h : Blk w p t cs) (hne : p ≠ q) : Blk (w.setCell ⟨q, i, none⟩ v) p t cs := h.only (Only.set (S := (· = q)) w (p := ⟨q, i, none⟩) rfl _) hne
theorem only_alloc2 {S : Nat → Prop} {w : World} {o : Obj} : Only S w (w.alloc o) := Only.of_below ((Below.refl _ _).alloc (Nat.le_refl _) _)
set_option maxRecDepth 100000 in
theorem tcatch_panicking (p q : Nat) (older : List PanicEntry) (c0 c1 c2 c3 cb : Value) (w : World) (hp : Blk w p 24 #[c0, c1, c2, c3]) (hq : Blk w q 32 #[cb]) (hne : p ≠ q) :
    CallsD Tryz.prog 63 #[.pointer (some ⟨p, 0, none⟩), .pointer (some ⟨q, 0, none⟩)] (.panicking ({ v := .iface 97 (.agg #[]), recovered := false } :: older)) w fun e u' w' =>
      e = .returned (.tuple #[]) ∧ u' = .panicking ({ v := .iface 97 (.agg #[]), recovered := true } :: older) ∧
      Blk w' p 24 #[.int .i64 0, .int .i64 0, .int .i64 0, .slice none 0 0] ∧ Blk w' q 32 #[.int .i64 2] ∧ Only (fun k => k = p ∨ k = q) w w' := by
  have x0 : w.cell? ⟨p, 0, none⟩ = some c0 := by rw [hp.cell]; rfl
  have x1 : w.cell? ⟨p, 1, none⟩ = some c1 := by rw [hp.cell]; rfl
  have x2 : w.cell? ⟨p, 2, none⟩ = some c2 := by rw [hp.cell]; rfl
  have x3 : w.cell? ⟨p, 3, none⟩ = some c3 := by rw [hp.cell]; rfl
  have f0 := hp.frozen 0
  have f1 := hp.frozen 1
  have f2 := hp.frozen 2
  have f3 := hp.frozen 3
  have xq : w.cell? ⟨q, 0, none⟩ = some cb := by rw [hq.cell]; rfl
  have fq := hq.frozen 0
  have hne' := hne.symm
  have lp := hp.lt
  have lq := hq.lt
  have hta : ∀ w : World, (Instr.typeAssert (.iface 97 (.agg #[])) 20 97 true).run Tryz.prog w = .ok (.tuple #[.agg #[], .bool true]) w := fun _ => by kernel_rfl
  have hnl : ∀ w : World, (binOp BinOp.eql 20 (.iface 97 (.agg #[])) .nilIface).run Tryz.prog w = .ok (.bool false) w := fun _ => by kernel_rfl
  refine callsD_of_wpS Tryz.func63 rfl fun c₀ cs hu => ?_
  apply wpS_seq
  apply wpS_region
  simp [wpOpsS, go_sem, recoverD, hu, Tryz.ntmps63, Exit.thenS]
  have hrep : (Array.replicate 10 undef : Array Value) = #[undef, undef, undef, undef, undef, undef, undef, undef, undef, undef] := rfl
  simp [hrep]
  refine wpS_of_wp ?_
  go_wp2_with (fail)
  refine ⟨rfl, _, rfl, .tuple #[], by simp [results, Tryz.results63], rfl, rfl, ?_, ?_, ?_⟩
  · exact (((((hp.set 0 (.int .i64 0)).set 1 (.int .i64 0)).set 2 (.int .i64 0)).set 3 (.slice none 0 0)).off2 hne).alloc _
  · exact (((((hq.off2 hne').off2 hne').off2 hne').off2 hne').set 0 (.int .i64 2)).alloc _
  · exact ((((only_p2.trans only_p2).trans only_p2).trans only_p2).trans only_q2).trans only_alloc2
set_option maxRecDepth 100000 in
theorem tcatch_idle (p q : Nat) (w : World) :
    CallsD Tryz.prog 63 #[.pointer (some ⟨p, 0, none⟩), .pointer (some ⟨q, 0, none⟩)] .returning w fun e u' w' => e = .returned (.tuple #[]) ∧ u' = .returning ∧ w' = w := by
  have hnl : ∀ w : World, (binOp BinOp.eql 20 .nilIface .nilIface).run Tryz.prog w = .ok (.bool true) w := fun _ => by kernel_rfl
  refine callsD_of_wpS Tryz.func63 rfl fun c₀ cs hu => ?_
  apply wpS_seq
  apply wpS_region
  simp [wpOpsS, go_sem, recoverD, hu, Tryz.ntmps63, Exit.thenS]
  have hrep : (Array.replicate 10 undef : Array Value) = #[undef, undef, undef, undef, undef, undef, undef, undef, undef, undef] := rfl
  simp [hrep]
  refine wpS_of_wp ?_
  go_wp2_with (fail)
  exact ⟨rfl, _, by cases c₀; simp_all, .tuple #[], by simp [results, Tryz.results63], rfl, rfl, rfl⟩
end Go.Proofs.YticpjdjdimpglaaGreatDoor

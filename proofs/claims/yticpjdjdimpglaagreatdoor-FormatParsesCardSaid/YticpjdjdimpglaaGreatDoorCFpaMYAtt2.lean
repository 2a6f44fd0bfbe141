/- The parser's attempt by its contract (printed by wip/bin/genatt.py). -/
import Derived.Test.YticpjdjdimpglaaGreatDoorCFpaMYRules
import Derived.Recover
namespace Go.Proofs.YticpjdjdimpglaaGreatDoor
set_option linter.unusedVariables false
set_option linter.unusedSimpArgs false
open Go.RowKit
theorem bodyD_named {P : Program} {a : Act} {w : World} {fn : Func} {R : Ending → World → Prop} {e : Exit} (h : ∀ W, w = W → bodyPostD P fn R e a W) : bodyPostD P fn R e a w := h w rfl
theorem only_p {p q : Nat} {w : World} {i : Nat} {v : Value} : Only (fun k => k = p ∨ k = q) w (w.setCell ⟨p, i, none⟩ v) := Only.set (S := fun k => k = p ∨ k = q) w (p := ⟨p, i, none⟩) (.inl rfl) _
theorem only_q {p q : Nat} {w : World} {i : Nat} {v : Value} : Only (fun k => k = p ∨ k = q) w (w.setCell ⟨q, i, none⟩ v) := Only.set (S := fun k => k = p ∨ k = q) w (p := ⟨q, i, none⟩) (.inr rfl) _
theorem Blk.off {w : World} {p q i : Nat} {t : TypeId} {cs : Array Value} {v : Value} (h : Blk w p t cs) (hne : p ≠ q) : Blk (w.setCell ⟨q, i, none⟩ v) p t cs := h.only (Only.set (S := (· = q)) w (p := ⟨q, i, none⟩) rfl _) hne
theorem only_alloc {S : Nat → Prop} {w : World} {o : Obj} : Only S w (w.alloc o) := Only.of_below ((Below.refl _ _).alloc (Nat.le_refl _) _)
set_option maxRecDepth 100000 in
theorem ycatchR_panicking (p q : Nat) (older : List PanicEntry) (c0 c1 c2 c3 c4 c5 cb : Value) (w : World) (hp : Blk w p 28 #[c0, c1, c2, c3, c4, c5]) (hq : Blk w q 4 #[cb]) (hne : p ≠ q) :
    CallsD Tryz.prog 172 #[.pointer (some ⟨p, 0, none⟩), .pointer (some ⟨q, 0, none⟩)] (.panicking ({ v := .iface 209 (.agg #[]), recovered := false } :: older)) w fun e u' w' =>
      e = .returned (.tuple #[]) ∧ u' = .panicking ({ v := .iface 209 (.agg #[]), recovered := true } :: older) ∧
      Blk w' p 28 #[.string ⟨#[]⟩, .int .i64 0, .int .i64 0, .int .i64 0, .slice none 0 0, .slice none 0 0] ∧ Blk w' q 4 #[.bool true] ∧ Only (fun k => k = p ∨ k = q) w w' := by
  have x0 : w.cell? ⟨p, 0, none⟩ = some c0 := by rw [hp.cell]; rfl
  have x1 : w.cell? ⟨p, 1, none⟩ = some c1 := by rw [hp.cell]; rfl
  have x2 : w.cell? ⟨p, 2, none⟩ = some c2 := by rw [hp.cell]; rfl
  have x3 : w.cell? ⟨p, 3, none⟩ = some c3 := by rw [hp.cell]; rfl
  have x4 : w.cell? ⟨p, 4, none⟩ = some c4 := by rw [hp.cell]; rfl
  have x5 : w.cell? ⟨p, 5, none⟩ = some c5 := by rw [hp.cell]; rfl
  have f0 := hp.frozen 0
  have f1 := hp.frozen 1
  have f2 := hp.frozen 2
  have f3 := hp.frozen 3
  have f4 := hp.frozen 4
  have f5 := hp.frozen 5
  have xq : w.cell? ⟨q, 0, none⟩ = some cb := by rw [hq.cell]; rfl
  have fq := hq.frozen 0
  have hne' := hne.symm
  have lp := hp.lt
  have lq := hq.lt
  have hta : ∀ w : World, (Instr.typeAssert (.iface 209 (.agg #[])) 20 209 false).run Tryz.prog w = .ok (.agg #[]) w := fun _ => by kernel_rfl
  refine callsD_of_wpS Tryz.func172 rfl fun c₀ cs hu => ?_
  apply wpS_seq
  apply wpS_region
  simp [wpOpsS, go_sem, recoverD, hu, Tryz.ntmps172, Exit.thenS]
  have hrep : (Array.replicate 8 undef : Array Value) = #[undef, undef, undef, undef, undef, undef, undef, undef] := rfl
  simp [hrep]
  refine wpS_of_wp ?_
  go_wp2_with (fail)
  refine ⟨rfl, _, rfl, .tuple #[], by simp [results, Tryz.results172], rfl, rfl, ?_, ?_, ?_⟩
  · exact (((((((hp.set 0 (.string ⟨#[]⟩)).set 1 (.int .i64 0)).set 2 (.int .i64 0)).set 3 (.int .i64 0)).set 4 (.slice none 0 0)).set 5 (.slice none 0 0)).off hne).alloc _
  · exact ((((((((hq.off hne').off hne').off hne').off hne').off hne').off hne')).set 0 (.bool true)).alloc _
  · exact ((((((only_p.trans only_p).trans only_p).trans only_p).trans only_p).trans only_p).trans only_q).trans only_alloc
set_option maxRecDepth 100000 in
theorem ycatchR_idle (p q : Nat) (w : World) :
    CallsD Tryz.prog 172 #[.pointer (some ⟨p, 0, none⟩), .pointer (some ⟨q, 0, none⟩)] .returning w fun e u' w' => e = .returned (.tuple #[]) ∧ u' = .returning ∧ w' = w := by
  have hnl : ∀ w : World, (binOp BinOp.neq 20 .nilIface .nilIface).run Tryz.prog w = .ok (.bool false) w := fun _ => by kernel_rfl
  refine callsD_of_wpS Tryz.func172 rfl fun c₀ cs hu => ?_
  apply wpS_seq
  apply wpS_region
  simp [wpOpsS, go_sem, recoverD, hu, Tryz.ntmps172, Exit.thenS]
  have hrep : (Array.replicate 8 undef : Array Value) = #[undef, undef, undef, undef, undef, undef, undef, undef] := rfl
  simp [hrep]
  refine wpS_of_wp ?_
  go_wp2_with (fail)
  exact ⟨rfl, _, by cases c₀; simp_all, .tuple #[], by simp [results, Tryz.results172], rfl, rfl, rfl⟩
end Go.Proofs.YticpjdjdimpglaaGreatDoor
/- The parser's attempt by its contract (printed by wip/bin/genatt2.py). -/
namespace Go.Proofs.YticpjdjdimpglaaGreatDoor
set_option linter.unusedVariables false
set_option linter.unusedSimpArgs false
open Go.RowKit
/-- What attempt hands back. -/
def AttPost {α : Type} (w : World) (B g : Nat) (A : Option Addr) (n c : Nat) (T : List Tok) (r : Res α) (z : Value) (V : α → World → Value → Prop) (e : Ending) (w' : World) : Prop :=
  Only (· = g) w w' ∧ match r with
    | .ok x m => (∃ v, e = .returned (.tuple #[v, .bool false]) ∧ V x w' v) ∧ PSt w' B g A n c T m
    | .bad m => e = .returned (.tuple #[z, .bool true]) ∧ PSt w' B g A n c T m
abbrev zeroR : Value := .agg #[.string ⟨#[]⟩, .int .i64 0, .int .i64 0, .int .i64 0, .slice none 0 0, .slice none 0 0]
theorem PSt.pq {w w' : World} {B g n c a p q : Nat} {A : Option Addr} {T : List Tok} (h : PSt w B g A n c T a) (ho : Only (fun k => k = p ∨ k = q) w w') (hp : g < p) (hq : g < q) : PSt w' B g A n c T a :=
  h.only ho (by omega) (fun k hk => by have := h.lb; omega)
theorem CV.keep {w0 w w1 w2 : World} {c : CT} {v : Value} (h : CV w c w1 v) (ho : Only (fun k => k = w0.heap.size ∨ k = w0.heap.size + 1) w1 w2) (h0 : w0.heap.size + 1 < w.heap.size) : CV w0 c w2 v := by
  obtain ⟨A, m, cc, e, h1⟩ := h
  exact ⟨A, m, cc, e, (h1.only ho (fun k hk => by omega)).sub (fun k hk => by omega)⟩
theorem RV.keep {w0 w w1 w2 : World} {c : RT} {v : Value} (h : RV w c w1 v) (ho : Only (fun k => k = w0.heap.size ∨ k = w0.heap.size + 1) w1 w2) (h0 : w0.heap.size + 1 < w.heap.size) : RV w0 c w2 v := by
  obtain ⟨A, m, cc, A', m', cc', e, h1, h2⟩ := h
  exact ⟨A, m, cc, A', m', cc', e, (h1.only ho (fun k hk => by omega)).sub (fun k hk => by omega), (h2.only ho (fun k hk => by omega)).sub (fun k hk => by omega)⟩
set_option maxHeartbeats 4000000 in
set_option maxRecDepth 100000 in
theorem yattR_lit (k : Nat) (c1 c2 : Value) (r : Res RT) (B g : Nat) (A : Option Addr) (n c : Nat) (T : List Tok) (w : World) (hg : g < w.heap.size)
    (hcf : ∀ w : World, (callFunc k #[c1, c2]).run Tryz.prog w = .ok (.enter k #[c1, c2]) w)
    (hcall : ∀ w', Below w.heap.size w w' → Calls Tryz.prog k #[c1, c2] w' (PPost w' B g A n c T r (RV w'))) :
    Calls Tryz.prog 135 #[.func (.func k) #[] #[c1, c2]] w (AttPost w B g A n c T r zeroR (RV w)) := by
  have hmf := hmfP
  have HC := Lib.hid hcall
  clear hcall
  go_enter_defers Tryz.func135, Tryz.ntmps135
  go_wp2_with (fail)
  have hb0 : Below w.heap.size w ((w.alloc (.cells #[.string ⟨#[]⟩, .int .i64 0, .int .i64 0, .int .i64 0, .slice none 0 0, .slice none 0 0] 28)).alloc (.cells #[.bool false] 4)) := ((Below.refl _ _).alloc (Nat.le_refl _) _).alloc (by simp) _
  have hp0 : Blk ((w.alloc (.cells #[.string ⟨#[]⟩, .int .i64 0, .int .i64 0, .int .i64 0, .slice none 0 0, .slice none 0 0] 28)).alloc (.cells #[.bool false] 4)) w.heap.size 28 #[.string ⟨#[]⟩, .int .i64 0, .int .i64 0, .int .i64 0, .slice none 0 0, .slice none 0 0] := (Blk.new w _ _).alloc _
  have hq0 : Blk ((w.alloc (.cells #[.string ⟨#[]⟩, .int .i64 0, .int .i64 0, .int .i64 0, .slice none 0 0, .slice none 0 0] 28)).alloc (.cells #[.bool false] 4)) (w.heap.size + 1) 4 #[.bool false] := by rw [← World.size_alloc]; exact Blk.new _ _ _
  have hz0 : w.heap.size + 1 < ((w.alloc (.cells #[.string ⟨#[]⟩, .int .i64 0, .int .i64 0, .int .i64 0, .slice none 0 0, .slice none 0 0] 28)).alloc (.cells #[.bool false] 4)).heap.size := hq0.lt
  refine (HC.out _ hb0).mono ?_
  generalize (w.alloc (.cells #[.string ⟨#[]⟩, .int .i64 0, .int .i64 0, .int .i64 0, .slice none 0 0, .slice none 0 0] 28)).alloc (.cells #[.bool false] 4) = w0 at *
  rintro e w1 ⟨hO1, hp⟩
  have hp1 := hp0.only hO1 (by omega)
  have hq1 := hq0.only hO1 (by omega)
  have hO : Only (· = g) w w1 := (Only.of_below hb0).trans hO1
  have hne : w.heap.size ≠ w.heap.size + 1 := by omega
  have hpp : ∃ p, p = w.heap.size := ⟨_, rfl⟩
  clear hp0 hq0
  cases hr : r with
  | bad m =>
    rw [hr] at hp
    obtain ⟨rfl, hP⟩ := hp
    refine leaves_cons (f := 172) (args := #[.pointer (some ⟨w.heap.size, 0, none⟩), .pointer (some ⟨w.heap.size + 1, 0, none⟩)]) (by simp) (by simp [go_sem]) ?_
    refine (ycatchR_panicking w.heap.size (w.heap.size + 1) [] _ _ _ _ _ _ _ w1 hp1 hq1 hne).mono ?_
    rintro e u' w2 ⟨rfl, rfl, hp2, hq2, hO2⟩
    have y0 : w2.cell? ⟨w.heap.size, 0, none⟩ = some (.string ⟨#[]⟩) := by rw [hp2.cell]; rfl
    have y1 : w2.cell? ⟨w.heap.size, 1, none⟩ = some (.int .i64 0) := by rw [hp2.cell]; rfl
    have y2 : w2.cell? ⟨w.heap.size, 2, none⟩ = some (.int .i64 0) := by rw [hp2.cell]; rfl
    have y3 : w2.cell? ⟨w.heap.size, 3, none⟩ = some (.int .i64 0) := by rw [hp2.cell]; rfl
    have y4 : w2.cell? ⟨w.heap.size, 4, none⟩ = some (.slice none 0 0) := by rw [hp2.cell]; rfl
    have y5 : w2.cell? ⟨w.heap.size, 5, none⟩ = some (.slice none 0 0) := by rw [hp2.cell]; rfl
    have yq : w2.cell? ⟨w.heap.size + 1, 0, none⟩ = some (.bool true) := by rw [hq2.cell]; rfl
    refine ⟨.tuple #[zeroR, .bool true], by simp [results, Tryz.results135, go_sem, y0, y1, y2, y3, y4, y5, yq]; try rfl, hO.new hO2 (fun k hk => by omega), rfl, hP.pq hO2 hg (by omega)⟩
  | ok x m =>
    rw [hr] at hp
    obtain ⟨⟨_, rfl, A1, m1, cc1, A2, m2, cc2, rfl, hR1, hR2⟩, hP⟩ := hp
    have hRV : RV w0 x w1 (.agg #[.string (bs x.name), .int .i64 x.win, .int .i64 x.draw, .int .i64 x.loss, .slice A1 m1 cc1, .slice A2 m2 cc2]) := ⟨A1, m1, cc1, A2, m2, cc2, rfl, hR1, hR2⟩
    clear hR1 hR2
    have x0 : w1.cell? ⟨w.heap.size, 0, none⟩ = some (.string ⟨#[]⟩) := by rw [hp1.cell]; rfl
    have x1 : w1.cell? ⟨w.heap.size, 1, none⟩ = some (.int .i64 0) := by rw [hp1.cell]; rfl
    have x2 : w1.cell? ⟨w.heap.size, 2, none⟩ = some (.int .i64 0) := by rw [hp1.cell]; rfl
    have x3 : w1.cell? ⟨w.heap.size, 3, none⟩ = some (.int .i64 0) := by rw [hp1.cell]; rfl
    have x4 : w1.cell? ⟨w.heap.size, 4, none⟩ = some (.slice none 0 0) := by rw [hp1.cell]; rfl
    have x5 : w1.cell? ⟨w.heap.size, 5, none⟩ = some (.slice none 0 0) := by rw [hp1.cell]; rfl
    have f0 := hp1.frozen 0
    have f1 := hp1.frozen 1
    have f2 := hp1.frozen 2
    have f3 := hp1.frozen 3
    have f4 := hp1.frozen 4
    have f5 := hp1.frozen 5
    have xq : w1.cell? ⟨w.heap.size + 1, 0, none⟩ = some (.bool false) := by rw [hq1.cell]; rfl
    have fq := hq1.frozen 0
    have lp := hp1.lt
    have lq := hq1.lt
    have hr' := Lib.hid hr
    clear hr
    go_wp2_with (fail)
    refine bodyD_named ?_
    intro W hW
    have hp2 : Blk W w.heap.size 28 #[.string (bs x.name), .int .i64 x.win, .int .i64 x.draw, .int .i64 x.loss, .slice A1 m1 cc1, .slice A2 m2 cc2] := by rw [← hW]; exact ((((((hp1.set 0 (.string (bs x.name))).set 1 (.int .i64 x.win)).set 2 (.int .i64 x.draw)).set 3 (.int .i64 x.loss)).set 4 (.slice A1 m1 cc1)).set 5 (.slice A2 m2 cc2)).off hne
    have hq2 : Blk W (w.heap.size + 1) 4 #[.bool false] := by rw [← hW]; exact ((((((hq1.off hne.symm).off hne.symm).off hne.symm).off hne.symm).off hne.symm).off hne.symm).set 0 (.bool false)
    have hO2 : Only (fun k => k = w.heap.size ∨ k = w.heap.size + 1) w1 W := by rw [← hW]; exact (((((only_p.trans only_p).trans only_p).trans only_p).trans only_p).trans only_p).trans only_q
    clear hW x0 f0 x1 f1 x2 f2 x3 f3 x4 f4 x5 f5 xq fq
    refine leaves_cons (f := 172) (args := #[.pointer (some ⟨w.heap.size, 0, none⟩), .pointer (some ⟨w.heap.size + 1, 0, none⟩)]) (by simp) (by simp [go_sem]) ?_
    refine (ycatchR_idle w.heap.size (w.heap.size + 1) W).mono ?_
    rintro e u' w2 ⟨rfl, rfl, rfl⟩
    have y0 : w2.cell? ⟨w.heap.size, 0, none⟩ = some (.string (bs x.name)) := by rw [hp2.cell]; rfl
    have y1 : w2.cell? ⟨w.heap.size, 1, none⟩ = some (.int .i64 x.win) := by rw [hp2.cell]; rfl
    have y2 : w2.cell? ⟨w.heap.size, 2, none⟩ = some (.int .i64 x.draw) := by rw [hp2.cell]; rfl
    have y3 : w2.cell? ⟨w.heap.size, 3, none⟩ = some (.int .i64 x.loss) := by rw [hp2.cell]; rfl
    have y4 : w2.cell? ⟨w.heap.size, 4, none⟩ = some (.slice A1 m1 cc1) := by rw [hp2.cell]; rfl
    have y5 : w2.cell? ⟨w.heap.size, 5, none⟩ = some (.slice A2 m2 cc2) := by rw [hp2.cell]; rfl
    have yq : w2.cell? ⟨w.heap.size + 1, 0, none⟩ = some (.bool false) := by rw [hq2.cell]; rfl
    refine ⟨.tuple #[.agg #[.string (bs x.name), .int .i64 x.win, .int .i64 x.draw, .int .i64 x.loss, .slice A1 m1 cc1, .slice A2 m2 cc2], .bool false], by simp [results, Tryz.results135, go_sem, y0, y1, y2, y3, y4, y5, yq]; try rfl, ?_⟩
    unfold AttPost
    rw [hr'.out]
    exact ⟨hO.new hO2 (fun k hk => by omega), ⟨_, rfl, hRV.keep hO2 hz0⟩, hP.pq hO2 hg (by omega)⟩
end Go.Proofs.YticpjdjdimpglaaGreatDoor

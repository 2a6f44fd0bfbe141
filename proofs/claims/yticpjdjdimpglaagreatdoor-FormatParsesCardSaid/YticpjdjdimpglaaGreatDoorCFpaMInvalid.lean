/- The function that Tokens calls at invalid bytes, by its contract. -/
import Derived.Test.YticpjdjdimpglaaGreatDoorCFpaMYSt
import Derived.Deep.RegionLaw
import Derived.BigRegion
namespace Go.Proofs.YticpjdjdimpglaaGreatDoor
set_option linter.unusedVariables false
set_option linter.unusedSimpArgs false
open Go.RowKit
theorem step_push {P : Program} {ops : Array Oper} {o : Oper} {a : Act} {w : World} {K : Act → World → Prop} {Q : Exit → Act → World → Prop} {F : Prop} {t e : TypeId} {size bytes : Nat} (E : Elem P t e size bytes) (hgd : o.guard = none) (s x : Operand)
    (ho : o.op = .call { callee := .builtin .append, args := #[s, x], argTypes := #[t, t] })
    (B : Nat) (A : Option Addr) (n c : Nat) (xs : List Value) (hs : a.eval s = .slice A n c) (hown : w.ownsRow B e size (.slice A n c) n xs)
    (g : Nat) (hx : a.eval x = .slice (some ⟨g, 0, none⟩) 1 1) (news : List Value) (hl : news.length = size) (hnews : ∀ j u, news[j]? = some u → w.cell? ⟨g, j, none⟩ = some u) (h1 : ∀ u ∈ news, u.oneCell' = true)
    (hbytes : (n + 1) * bytes ≤ 140737488355328) (h63 : n + 1 ≤ 9223372036854775807) (hbase : B ≤ w.heap.size)
    (h : ∀ A' c' w', w'.ownsRow B e size (.slice A' (n + 1) c') (n + 1) (xs ++ news) → Below B w w' → w.grownBy w' (Value.slice A n c).ownBlock → K (a.put o.dst (.slice A' (n + 1) c')) w') :
    if Region.wanted o (yielded ops a.tmps) = true then Oper.wp P o a w K Q else F := by
  have hw : Region.wanted o (yielded ops a.tmps) = true := by simp [Region.wanted, hgd]
  rw [if_pos hw]
  exact wp_push E s x ho B A n c xs hs hown g hx news hl hnews h1 hbytes h63 hbase h
/-- What invalid does te the problems. -/
def probs' (P : List Prob) (E : Int) (a : Nat) : List Prob := if (a : Int) ≠ E ∧ P.length < 64 then P ++ [⟨a, 60⟩] else P
def InvPost (B Pb Ps g Pe : Nat) (A : Option Addr) (n c : Nat) (l : List UInt8) (a : Nat) (E : Int) (P : List Prob) (Ab : Option Addr) (cb : Nat) (te : Int) (w : World) (e : Ending) (w' : World) : Prop :=
  e = .returned (.tuple #[]) ∧ ∃ Ab' cb', TSt B w' Pb Ps g Pe A n c l a te (probs' P E a) Ab' cb' ∧ Only (fun k => k = Pb ∨ k = Pe ∨ (Value.slice Ab P.length cb).ownBlock = some k) w w'
section
variable {B Pb Ps g Pe n c a cb c' : Nat} {A Ab A' : Option Addr} {l : List UInt8} {E te : Int} {P : List Prob} {w W w1 : World}
theorem row_ne (h : TSt B W Pb Ps g Pe A n c l a E P Ab cb) : ∀ k, (Value.slice Ab P.length cb).ownBlock = some k → k ≠ Pb ∧ k ≠ Ps ∧ k ≠ g ∧ k ≠ Pe := fun k hk =>
  ⟨own_ne h.row h.bad (by decide) k hk, own_ne h.row h.sv (by decide) k hk, own_ne h.row h.scn.blk (by decide) k hk, own_ne h.row h.endv (by decide) k hk⟩
theorem inv_cells (h : TSt B w Pb Ps g Pe A n c l a E P Ab cb) (hb : Below w.heap.size w W) (hg : W.grownBy w1 (Value.slice Ab P.length cb).ownBlock) :
    Blk w1 Pb 162 #[.slice Ab P.length cb] ∧ Blk w1 Pe 3 #[.int .i64 E] := by
  have hW := h.below hb
  have ho : Only (fun k => (Value.slice Ab P.length cb).ownBlock = some k) W w1 := Only.of_grown hg (fun k hk => hk)
  exact ⟨hW.bad.only ho (fun hk => (row_ne hW _ hk).1 rfl), hW.endv.only ho (fun hk => (row_ne hW _ hk).2.2.2 rfl)⟩
theorem inv_set (h : TSt B W Pb Ps g Pe A n c l a E P Ab cb) (te : Int) : TSt B (W.setCell ⟨Pe, 0, none⟩ (.int .i64 te)) Pb Ps g Pe A n c l a te P Ab cb := by
  have ho : Only (· = Pe) W (W.setCell ⟨Pe, 0, none⟩ (.int .i64 te)) := Only.set (S := (· = Pe)) W (p := ⟨Pe, 0, none⟩) rfl _
  have hs := h.src.only ho h.hB (fun k hk hS => by have := h.le; omega)
  exact ⟨h.bad.only ho (h.bad.ne h.endv (by decide)), own_only h.row ho (fun k hk => (row_ne h k hk).2.2.2), h.sv.only ho (h.sv.ne h.endv (by decide)), ⟨h.scn.blk.only ho (h.scn.blk.ne h.endv (by decide)), hs.more h.lg⟩, hs, h.endv.set 0 _, h.lb, h.ls, h.lg, h.le⟩
theorem inv_push (h : TSt B w Pb Ps g Pe A n c l a E P Ab cb) (hb : Below w.heap.size w W) (hg : W.grownBy w1 (Value.slice Ab P.length cb).ownBlock)
    (hown : w1.ownsRow B 166 2 (.slice A' (P.length + 1) c') (P.length + 1) (P.flatMap probCells ++ [.int .i64 (a : Int), .int .i64 60])) :
    TSt B (w1.setCell ⟨Pb, 0, none⟩ (.slice A' (P.length + 1) c')) Pb Ps g Pe A n c l a E (P ++ [⟨a, 60⟩]) A' c' ∧ Only (fun k => k = Pb ∨ (Value.slice Ab P.length cb).ownBlock = some k) w (w1.setCell ⟨Pb, 0, none⟩ (.slice A' (P.length + 1) c')) := by
  have hW := h.below hb
  have ho1 : Only (fun k => (Value.slice Ab P.length cb).ownBlock = some k) W w1 := Only.of_grown hg (fun k hk => hk)
  have hbad1 := hW.bad.only ho1 (fun hk => (row_ne hW _ hk).1 rfl)
  have ho2 : Only (fun k => k = Pb ∨ (Value.slice Ab P.length cb).ownBlock = some k) W (w1.setCell ⟨Pb, 0, none⟩ (.slice A' (P.length + 1) c')) :=
    Only.trans (Only.of_grown hg (fun k hk => .inr hk)) (Only.set w1 (p := ⟨Pb, 0, none⟩) (.inl rfl) _)
  have e1 : (P ++ [(⟨(a : Int), 60⟩ : Prob)]).length = P.length + 1 := by simp
  have e2 : (P ++ [(⟨(a : Int), 60⟩ : Prob)]).flatMap probCells = P.flatMap probCells ++ [.int .i64 (a : Int), .int .i64 60] := by simp [probCells]
  have hs := hW.src.only ho2 hW.hB (fun k hk hS => by
    rcases hS with hS | hS
    · have := h.lb; omega
    · have := (hW.row.lt k hS).1; omega)
  refine ⟨⟨?_, ?_, hW.sv.only ho2 ?_, ⟨hW.scn.blk.only ho2 ?_, hs.more h.lg⟩, hs, hW.endv.only ho2 ?_, h.lb, h.ls, h.lg, h.le⟩, (Only.of_below hb).trans ho2⟩
  · rw [e1]; exact hbad1.set 0 _
  · rw [e1, e2]; exact own_setCell hown (fun k hk => own_ne hown hbad1 (by decide) k hk) _
  · rintro (e | e)
    · exact hW.sv.ne hW.bad (by decide) e
    · exact (row_ne hW _ e).2.1 rfl
  · rintro (e | e)
    · exact hW.scn.blk.ne hW.bad (by decide) e
    · exact (row_ne hW _ e).2.2.1 rfl
  · rintro (e | e)
    · exact hW.endv.ne hW.bad (by decide) e
    · exact (row_ne hW _ e).2.2.2 rfl
end
theorem only_mono {S T : Nat → Prop} {w w' : World} (h : Only S w w') (hs : ∀ k, S k → T k) : Only T w w' := ⟨h.os, h.tape, h.output, h.size, fun k hk hn => h.block k hk (fun e => hn (hs k e))⟩
set_option maxHeartbeats 2000000 in
set_option maxRecDepth 100000 in
theorem invalid_any (B Pb Ps g Pe : Nat) (A : Option Addr) (n c : Nat) (l : List UInt8) (a : Nat) (E : Int) (P : List Prob) (Ab : Option Addr) (cb : Nat) (te : Int) (w : World) (h : TSt B w Pb Ps g Pe A n c l a E P Ab cb) (hP : P.length ≤ 64) :
    Calls Tryz.prog 166 #[.int .i64 te, .pointer (some ⟨Ps, 0, none⟩), .pointer (some ⟨Pe, 0, none⟩), .pointer (some ⟨Pb, 0, none⟩)] w (InvPost B Pb Ps g Pe A n c l a E P Ab cb te w) := by
  have s0 : w.cell? ⟨Ps, 0, none⟩ = some (.pointer (some ⟨g, 0, none⟩)) := h.sv.cell 0
  have s1 := h.scn.pos
  have e0 : w.cell? ⟨Pe, 0, none⟩ = some (.int .i64 E) := h.endv.cell 0
  have b0 : w.cell? ⟨Pb, 0, none⟩ = some (.slice Ab P.length cb) := h.bad.cell 0
  have fe := h.endv.frozen 0
  have fb := h.bad.frozen 0
  have hlen : (P.length : Int) ≤ 64 := by omega
  have l1 := h.bad.lt
  have l2 := h.sv.lt
  have l3 := h.scn.blk.lt
  have l4 := h.endv.lt
  have Hh := Lib.hid h
  clear h
  by_cases hE : (a : Int) = E
  · have hne : ((a : Int) != E) = false := by simp [hE]
    have HP := Lib.hid (show probs' P E a = P by simp [probs', hE])
    clear hE
    go_enter Tryz.func166, Tryz.ntmps166
    go_wp2
    go_quiet (fail)
    go_wp2
    go_end0
    refine ⟨rfl, Ab, cb, ?_, ?_⟩
    · rw [HP.out]; exact inv_set (Hh.out.drewN _) te
    · exact Only.trans (Only.of_below (below_drewNg w _)) (Only.set _ (p := ⟨Pe, 0, none⟩) (.inr (.inl rfl)) _)
  · have hne : ((a : Int) != E) = true := by simp [hE]
    by_cases hlt : P.length < 64
    · have hlt' : ((P.length : Int) < 64) := by omega
      have HP := Lib.hid (show probs' P E a = P ++ [⟨a, 60⟩] by simp [probs', hE, hlt])
      clear hE hlt
      go_enter Tryz.func166, Tryz.ntmps166
      go_wp2
      go_quiet (fail)
      go_wp2
      have HW := Lib.hid (Hh.out.drewN nq)
      have hbW := Lib.hid (below_drewNg w nq)
      clear s0 s1 e0 b0 fe fb l1 l2 l3 l4 Hh
      generalize w.drewN nq = W at HW hbW ⊢
      have s0 : W.cell? ⟨Ps, 0, none⟩ = some (.pointer (some ⟨g, 0, none⟩)) := HW.out.sv.cell 0
      have s1 := HW.out.scn.pos
      have b0 : W.cell? ⟨Pb, 0, none⟩ = some (.slice Ab P.length cb) := HW.out.bad.cell 0
      have l1 := HW.out.bad.lt
      have l2 := HW.out.sv.lt
      have l3 := HW.out.scn.blk.lt
      go_region_law (refine step_push elemProb rfl (.tmp 16) (.tmp 22) rfl B Ab P.length cb (P.flatMap probCells) (by simp [Act.eval, Act.put]) (own_below_all HW.out.row (by go_grown; try exact Below.refl _ _)) W.heap.size (by simp [Act.eval, Act.put]) [.int .i64 (a : Int), .int .i64 60] rfl (by intro j u hj; exact new_cells _ _ _ j u hj) (by intro u hu; simp at hu; rcases hu with rfl | rfl <;> rfl) (by omega) (by omega) (by have := HW.out.hB; simp; omega) ?_; intro A1 c1 w1 hown1 hb1 hg1; have hF := inv_cells HW.out (by go_grown; try exact Below.refl _ _) hg1; have x1 := hF.1.cell 0; have x2 := hF.1.frozen 0; have x3 := hF.2.cell 0; have x4 := hF.2.frozen 0)
      all_goals
        have hT := inv_push HW.out (by go_grown; try exact Below.refl _ _) hg1 hown1
        clear x1 x2 x3 x4 hF
        have x3 := hT.1.endv.cell 0
        have x4 := hT.1.endv.frozen 0
        have HT := Lib.hid hT
        clear hT
        go_wp2
        go_end0
        refine ⟨rfl, A1, c1, ?_, ?_⟩
        · rw [HP.out]; exact inv_set HT.out.1 te
        · exact Only.trans ((Only.of_below hbW.out).trans (only_mono HT.out.2 (fun k hk => hk.elim .inl (fun h => .inr (.inr h))))) (Only.set _ (p := ⟨Pe, 0, none⟩) (.inr (.inl rfl)) _)
    · have hlt' : ¬ ((P.length : Int) < 64) := by omega
      have HP := Lib.hid (show probs' P E a = P by simp [probs', hlt])
      clear hE hlt
      go_enter Tryz.func166, Tryz.ntmps166
      go_wp2
      go_quiet (fail)
      go_wp2
      go_end0
      refine ⟨rfl, Ab, cb, ?_, ?_⟩
      · rw [HP.out]; exact inv_set (Hh.out.drewN _) te
      · exact Only.trans (Only.of_below (below_drewNg w _)) (Only.set _ (p := ⟨Pe, 0, none⟩) (.inr (.inl rfl)) _)
end Go.Proofs.YticpjdjdimpglaaGreatDoor

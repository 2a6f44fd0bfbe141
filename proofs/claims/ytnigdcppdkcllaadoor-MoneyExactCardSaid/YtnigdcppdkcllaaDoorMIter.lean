/- The iterator over the parts of an amount: its contract. -/
import Derived.Test.YtnigdcppdkcllaaDoorProg
import Derived.Test.YtnigdcppdkcllaaDoorMBef2
import Derived.Test.YtnigdcppdkcllaaDoorMStill
import Derived.RangeFuncBox
import Derived.RangeFuncLeaves
import Derived.Shelf.Abstract
import Derived.WalkKit
import Derived.OwnWalkIn
import Derived.TacticsInMore
import Derived.LoopNIn
import Derived.LoopIn
import Derived.StillTailTactics
import Derived.IntWalk
namespace Go.Proofs.YtnigdcppdkcllaaDoor
set_option linter.unusedVariables false
set_option linter.unusedSimpArgs false
open Go.RowKit Go.Shelf

attribute [local go_sem] Oper.semAt_some

/-- Part k. -/
def ptAt (a s : Int) (ws : List Int) (k : Nat) : Pt := ⟨k, cen a s ws k, rst a s ws k⟩
/-- What has come when k rounds are over. -/
def upto (a s : Int) (ws : List Int) (k : Nat) : List Pt := (List.range k).map (ptAt a s ws)
theorem upto_succ (a s : Int) (ws : List Int) (k : Nat) : upto a s ws (k + 1) = upto a s ws k ++ [ptAt a s ws k] := by simp [upto, List.range_succ]
theorem upto_length (a s : Int) (ws : List Int) (k : Nat) : (upto a s ws k).length = k := by simp [upto]

/-- What a round keeps: whatever lay below n₀, and the two boxes that the iterator reads in every round. -/
def KpI (n₀ Ba Bs : Nat) (W W' : World) : Prop := Below n₀ W W' ∧ W'.heap[Ba]? = W.heap[Ba]? ∧ W'.heap[Bs]? = W.heap[Bs]?
theorem KpI.trans {n₀ Ba Bs : Nat} {A B C : World} (h : KpI n₀ Ba Bs A B) (h' : KpI n₀ Ba Bs B C) : KpI n₀ Ba Bs A C := ⟨h.1.trans h'.1, h'.2.1.trans h.2.1, h'.2.2.trans h.2.2⟩
theorem KpI.refl (n₀ Ba Bs : Nat) (A : World) : KpI n₀ Ba Bs A A := ⟨Below.refl _ _, rfl, rfl⟩
theorem KpI.put {n₀ Ba Bs : Nat} {w : World} (hn : n₀ ≤ w.heap.size) (h1 : Ba < w.heap.size) (h2 : Bs < w.heap.size) (W : World) (l : Nat) (o o' : Obj) (hl : w.heap.size ≤ l) (h : W.heap[l]? = some o) (hc : o.isCells = false) (hw : o.isWalk = false) : KpI n₀ Ba Bs W (W.putObj l o') :=
  ⟨belowK_b hn W l o o' hl h hc hw, World.putObj_heap_other (by omega), World.putObj_heap_other (by omega)⟩

set_option maxRecDepth 100000 in
set_option maxHeartbeats 2000000 in
theorem iter_in (m : Nat) (hm : 1 ≤ m) (l Bw Ba Bs n₀ b off len cap : Nat) (ws : List Int) (a s : Int) (hlen : ws.length = len) (hcap : len ≤ cap) (hbig : cap ≤ 9223372036854775807)
    (hws : okW ws) (ha0 : 0 ≤ a) (ha : a ≤ 1125899906842624) (hs0 : 0 < s) (hs1 : s ≤ 256000) (hb : b < n₀) (J Jx : List Pt → World → Prop)
    (hY : ∀ pre x W, J pre W → pre.length < len → YieldAt Fence.wide (m - 1) Tryd.prog l #[.agg #[.int .i64 x.ix, .int .i64 x.ce, .int .i64 x.re]] W fun e W' =>
      (e = .returned (.bool true) ∧ J (pre ++ [x]) W' ∧ KpI n₀ Ba Bs W W') ∨ (e = .returned (.bool false) ∧ Jx (pre ++ [x]) W'))
    (W : World) (hBw : W.cell? ⟨Bw, 0, none⟩ = some (.slice (some ⟨b, off, none⟩) len cap)) (hBa : W.cell? ⟨Ba, 0, none⟩ = some (.int .i64 a)) (hBs : W.cell? ⟨Bs, 0, none⟩ = some (.int .i64 s))
    (hc : ∀ j, j < len → W.cell? ⟨b, off + j, none⟩ = some (.int .i64 (gi ws j))) (hJd : ∀ pre W, J pre W → J pre W.drew) (h0 : J [] W) :
    CallsIn Fence.wide m Tryd.prog 33 #[.func (.yield l) #[] #[], .pointer (some ⟨Bw, 0, none⟩), .pointer (some ⟨Ba, 0, none⟩), .pointer (some ⟨Bs, 0, none⟩)] W fun e W' => (∃ v, e = .returned v) ∧
      ((∃ ys, ys = upto a s ws len ∧ J ys W') ∨ (∃ pre, (∃ k, k ≤ len ∧ pre = upto a s ws k) ∧ Jx pre W')) := by
  refine callsIn_of_wp Tryd.func33 rfl trivial ?_ rfl
  simp only [Tryd.ntmps33, List.size_toArray, List.length_cons, List.length_nil, Nat.reduceAdd, Nat.reduceSub, Array.replicate_succ, Array.replicate_zero, List.push_toArray, List.append_toArray, List.nil_append, List.cons_append]
  gi_wp2
  gi_loopw [9] (fun i wr => ∃ k : Nat, k ≤ len ∧ i = .int .i64 k ∧ J (upto a s ws k) wr ∧ KpI n₀ Ba Bs W wr)
    (fun i _ => len - (intOf i).toNat)
  case atStart => exact ⟨0, Nat.zero_le _, rfl, h0, KpI.refl _ _ _ _⟩
  case round =>
    obtain ⟨k, hk, rfl, hJs, hnx⟩ := hrel
    by_cases hlt : k < len
    · obtain ⟨fn, tmps, assign, body, hy, hR⟩ := hY _ (ptAt a s ws k) wr.drew (hJd _ _ hJs) (by rw [upto_length]; exact hlt)
      dsimp only [ptAt] at hy
      have c1 : wr.drew.cell? ⟨b, off + k, none⟩ = some (.int .i64 (gi ws k)) := (hnx.1.cell (p := ⟨b, off + k, none⟩) hb).trans (hc k hlt)
      have c0 : wr.cell? ⟨b, off + k, none⟩ = some (.int .i64 (gi ws k)) := c1
      have c3 : wr.drew.cell? ⟨Ba, 0, none⟩ = some (.int .i64 a) := (World.cell?_of_block (a := ⟨Ba, 0, none⟩) hnx.2.1).trans hBa
      have c4 : wr.drew.cell? ⟨Bs, 0, none⟩ = some (.int .i64 s) := (World.cell?_of_block (a := ⟨Bs, 0, none⟩) hnx.2.2).trans hBs
      obtain ⟨w1, w2⟩ := hws k (by omega)
      obtain ⟨x1, x2, x3⟩ := cr (a := a) (ws := ws) hs0 k
      have m0 : 0 ≤ a * gi ws k := Int.mul_nonneg ha0 w1
      have m1 : a * gi ws k ≤ 1125899906842624 * 1000 := Int.le_trans (Int.mul_le_mul_of_nonneg_left w2 ha0) (Int.mul_le_mul_of_nonneg_right ha (by omega))
      have q0 : 0 ≤ cen a s ws k := cen_nonneg ha0 hs0 hws (by omega)
      have q1 : cen a s ws k ≤ a * gi ws k := by
        have : 1 * cen a s ws k ≤ s * cen a s ws k := Int.mul_le_mul_of_nonneg_right hs0 q0
        omega
      have e1 : IntKind.i64.wrap (a * gi ws k) = a * gi ws k := IntWalk.i64_in _ (by omega)
      have e2 : IntKind.i64.wrap ((a * gi ws k).tdiv s) = cen a s ws k := by
        rw [Int.tdiv_eq_ediv_of_nonneg m0]; exact IntWalk.i64_in _ (by show _ ≤ cen a s ws k ∧ cen a s ws k ≤ _; omega)
      have e3 : (a * gi ws k).tmod s = rst a s ws k := Int.tmod_eq_emod_of_nonneg m0
      have e4 : ¬ s = 0 := by omega
      clear x1 x2 x3
      generalize cen a s ws k = ce at *
      generalize rst a s ws k = re at *
      gi_wp2
      refine wpInW_region_still_tail 13 (by kernel_rfl) (by kernel_rfl) ?_
      simp only [List.take_succ_cons, List.take_zero, List.drop_succ_cons, List.drop_zero]
      iterate 13 still_step
      refine wpStill_nil ?_
      clear e1 e2 e3
      gi_wp2
      refine hR.mono ?_
      rintro e W3 (⟨rfl, hJ3, hk3⟩ | ⟨rfl, hJx3⟩)
      · gi_wp2
        go_roundw
        case rel => exact ⟨k + 1, by omega, by go_num, by rw [upto_succ]; exact hJ3, hnx.trans ⟨(Below.refl _ wr).drew.trans hk3.1, hk3.2.1, hk3.2.2⟩⟩
        case measure => simp [intOf]; omega
      · gi_wp2
        refine bodyPost_ret (results_none rfl _ _ _) rfl ?_
        exact ⟨⟨_, rfl⟩, .inr ⟨_, ⟨k + 1, by omega, (upto_succ _ _ _ _).symm⟩, hJx3⟩⟩
    · obtain rfl : k = len := by omega
      gi_wp2
      go_end0
      exact ⟨⟨_, rfl⟩, .inl ⟨_, rfl, hJs⟩⟩

set_option maxHeartbeats 1000000 in
/-- parts(a, weights, sum): three boxes, and the closure over them. -/
theorem parts_any (a s : Int) (v : Option Addr) (len cap : Nat) (w : World) :
    Calls Tryd.prog 24 #[.int .i64 a, .slice v len cap, .int .i64 s] w fun e w' => e = .returned (.func (.func 33) #[] #[.pointer (some ⟨w.heap.size + 1, 0, none⟩), .pointer (some ⟨w.heap.size, 0, none⟩), .pointer (some ⟨w.heap.size + 2, 0, none⟩)]) ∧
      w' = ((w.alloc (.cells #[.int .i64 a] 3)).alloc (.cells #[.slice v len cap] 22)).alloc (.cells #[.int .i64 s] 3) := by
  go_enter Tryd.func24, Tryd.ntmps24
  go_wp2
  go_ret
  exact ⟨rfl, rfl⟩

/-- The iterator in the words of the law of a range over a function. -/
theorem iter_stops (m : Nat) (hm : 1 ≤ m) (Bw Ba Bs n₀ b off len cap : Nat) (ws : List Int) (a s : Int) (hlen : ws.length = len) (hcap : len ≤ cap) (hbig : cap ≤ 9223372036854775807)
    (hws : okW ws) (ha0 : 0 ≤ a) (ha : a ≤ 1125899906842624) (hs0 : 0 < s) (hs1 : s ≤ 256000) (hb : b < n₀) (w : World) (hn₀ : n₀ ≤ w.heap.size) (hB1 : Bw < w.heap.size) (hB2 : Ba < w.heap.size) (hB3 : Bs < w.heap.size)
    (hBw : w.cell? ⟨Bw, 0, none⟩ = some (.slice (some ⟨b, off, none⟩) len cap)) (hBa : w.cell? ⟨Ba, 0, none⟩ = some (.int .i64 a)) (hBs : w.cell? ⟨Bs, 0, none⟩ = some (.int .i64 s))
    (hc : ∀ j, j < len → w.cell? ⟨b, off + j, none⟩ = some (.int .i64 (gi ws j))) :
    SeqStopsK Fence.wide m Tryd.prog 33 #[.pointer (some ⟨Bw, 0, none⟩), .pointer (some ⟨Ba, 0, none⟩), .pointer (some ⟨Bs, 0, none⟩)] (fun x : Pt => #[.agg #[.int .i64 x.ix, .int .i64 x.ce, .int .i64 x.re]]) (KpI n₀ Ba Bs)
      (fun ys => ys = upto a s ws len) (fun pre => ∃ k, k ≤ len ∧ pre = upto a s ws k) len w := fun l J Jx W hW hJ _ hY h0 => by
  have hk : ∀ p : Addr, p.block < w.heap.size → W.cell? p = w.cell? p := fun p hp => hW.cell hp
  exact iter_in m hm l Bw Ba Bs n₀ b off len cap ws a s hlen hcap hbig hws ha0 ha hs0 hs1 hb J Jx hY W ((hk _ hB1).trans hBw) ((hk _ hB2).trans hBa) ((hk _ hB3).trans hBs) (fun j hj => (hk ⟨b, off + j, none⟩ (by show b < _; omega)).trans (hc j hj))
    (fun pre W' hj => hJ pre W' W'.drew none hj ⟨rfl, rfl, rfl, Nat.le_refl _, fun _ _ _ => rfl⟩ (fun r e => by cases e)) h0
end Go.Proofs.YtnigdcppdkcllaaDoor

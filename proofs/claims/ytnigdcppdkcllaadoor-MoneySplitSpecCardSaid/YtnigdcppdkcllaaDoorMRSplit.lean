/- The reference's Split where it succeeds: the walk. -/
import Derived.Test.YtnigdcppdkcllaaDoorMSplit
import Derived.Test.YtnigdcppdkcllaaDoorMApart
namespace Go.Proofs.YtnigdcppdkcllaaDoor
set_option linter.unusedVariables false
set_option linter.unusedSimpArgs false
open Go.RowKit

/-- A row of numbers in block g. -/
structure IA (W : World) (g n : Nat) (f : Nat → Int) : Prop where
  cell : ∀ j, j < n → W.cell? ⟨g, j, none⟩ = some (.int .i64 (f j))
  free : ∀ j, W.frozen? ⟨g, j, none⟩ = false
theorem IA.set {W : World} {g n : Nat} {f : Nat → Int} (h : IA W g n f) {b : Nat} (hb : b < n) (v : Int) : IA (W.setCell ⟨g, b, none⟩ (.int .i64 v)) g n (fun j => if j = b then v else f j) :=
  ⟨fun j hj => by
    by_cases e : j = b
    · subst e
      simp only [if_true]
      exact World.cell?_setCell_same' _ _ _ (by rw [h.cell j hj]; rfl)
    · simp only [e, if_false]
      rw [World.cell?_setCell_other _ _ _ _ (fun e' => e (by injection e' with _ e'; exact e'.symm))]
      exact h.cell j hj, fun j => by rw [World.frozen?_setCell]; exact h.free j⟩
theorem IA.far {W : World} {g n : Nat} {f : Nat → Int} (h : IA W g n f) {p : Addr} (hp : g ≠ p.block) (u : Value) : IA (W.setCell p u) g n f :=
  ⟨fun j hj => by
    rw [World.cell?_setCell_other _ _ _ _ (fun e => hp (by rw [e]))]
    exact h.cell j hj, fun j => by rw [World.frozen?_setCell]; exact h.free j⟩
theorem IA.congr {W : World} {g n : Nat} {f f' : Nat → Int} (h : IA W g n f) (e : ∀ j, j < n → f j = f' j) : IA W g n f' := ⟨fun j hj => by rw [← e j hj]; exact h.cell j hj, h.free⟩
theorem IA.drewN {W : World} {g n : Nat} {f : Nat → Int} (h : IA W g n f) (k : Nat) : IA (W.drewN k) g n f := ⟨h.cell, h.free⟩
theorem IA.of_own {W : World} {base g n c : Nat} {f : Nat → Int} (h : W.ownsRow base 3 1 (.slice (some ⟨g, 0, none⟩) n c) n (((List.range n).map f).map vi)) : IA W g n f := by
  refine ⟨fun j hj => ?_, fun j => ?_⟩
  · have h1 := h.cells (g := g) rfl j (.int .i64 (f j)) (by simp [hj, vi])
    rwa [show (⟨g, 0, none⟩ : Addr).add j = ⟨g, j, none⟩ from by unfold Addr.add; split <;> simp_all] at h1
  · rcases h.2 with ⟨e1, _⟩ | ⟨g', cap, cur, e1, _, hh, _⟩
    · cases e1
    · injection e1 with e1
      injection e1 with e1
      injection e1 with e1
      subst e1
      simp [World.frozen?, hh]
/-- Both rows, and what lay. -/
structure RS (w W : World) (g1 g2 n : Nat) (f r : Nat → Int) : Prop where
  o : IA W g1 n f
  r : IA W g2 n r
  bel : Below w.heap.size w W
theorem RS.drewN {w W : World} {g1 g2 n : Nat} {f r : Nat → Int} (h : RS w W g1 g2 n f r) (k : Nat) : RS w (W.drewN k) g1 g2 n f r := ⟨h.o.drewN k, h.r.drewN k, h.bel.trans (bdrew W k)⟩
/-- Both slices while they are filled. -/
structure RF (w W : World) (A1 A2 : Option Addr) (c1 c2 k : Nat) (f r : Nat → Int) : Prop where
  o : W.ownsRow w.heap.size 3 1 (.slice A1 k c1) k (((List.range k).map f).map vi)
  r : W.ownsRow w.heap.size 3 1 (.slice A2 k c2) k (((List.range k).map r).map vi)
  ne : ∀ b, (Value.slice A1 k c1).ownBlock = some b → (Value.slice A2 k c2).ownBlock ≠ some b
  bel : Below w.heap.size w W
/-- The remainders that are left when the parts of c are chosen. -/
def rem (r : Nat → Int) (c : Nat → Bool) (j : Nat) : Int := if c j then -1 else r j
/-- The first greatest so far. -/
def Best (R : Nat → Int) (b i : Nat) : Prop := b < i ∧ (∀ j, j < i → R j ≤ R b) ∧ (∀ j, j < b → R j < R b)
theorem best_one (R : Nat → Int) : Best R 0 1 := ⟨by omega, (fun j hj => by
    obtain rfl : j = 0 := by omega
    exact Int.le_refl _), (fun j hj => by omega)⟩
theorem best_yes {R : Nat → Int} {b i : Nat} (h : Best R b i) (hlt : R b < R i) : Best R i (i + 1) :=
  ⟨by omega, fun j hj => by
    rcases Nat.eq_or_lt_of_le (Nat.le_of_lt_succ hj) with rfl | h2
    · exact Int.le_refl _
    · have := h.2.1 j h2; omega, fun j hj => by have := h.2.1 j hj; omega⟩
theorem best_no {R : Nat → Int} {b i : Nat} (h : Best R b i) (hlt : ¬ R b < R i) : Best R b (i + 1) :=
  ⟨by have := h.1; omega, fun j hj => by
    rcases Nat.eq_or_lt_of_le (Nat.le_of_lt_succ hj) with rfl | h2
    · omega
    · exact h.2.1 j h2, h.2.2⟩
theorem range_map_succ (f : Nat → Int) (k : Nat) : (((List.range k).map f).map vi) ++ [.int .i64 (f k)] = (((List.range (k + 1)).map f).map vi) := by
  rw [List.range_succ, List.map_append, List.map_append]; rfl

theorem own_sep {v1 v2 : Value} (h : ∀ b, v1.ownBlock = some b → v2.ownBlock ≠ some b) : v2.ownBlock = none ∨ v2.ownBlock ≠ v1.ownBlock := by
  cases h1 : v2.ownBlock with
  | none => exact .inl rfl
  | some b => exact .inr (fun e => h b e.symm h1)
theorem RS.cong {w W : World} {g1 g2 n : Nat} {f r f' r' : Nat → Int} (h : RS w W g1 g2 n f r) (hf : ∀ j, j < n → f j = f' j) (hr : ∀ j, j < n → r j = r' j) : RS w W g1 g2 n f' r' := ⟨h.o.congr hf, h.r.congr hr, h.bel⟩

set_option maxRecDepth 100000 in
set_option maxHeartbeats 4000000 in
theorem rsplit_ok (A : Option Addr) (n c : Nat) (ws : List Int) (m : Int) (w : World) (h : Rd w w.heap.size 1 A n c (ws.map vi)) (hm : amtB m = true) (hW : WOk ws) :
    Calls Tryd.prog 12 #[.int .i64 m, .slice A n c] w fun e w' => ∃ A' c' l, e = .returned (.tuple #[.slice A' n c', .int .i64 0]) ∧ IsSplit m ws l ∧ Rd w' w'.heap.size 1 A' n c' (l.map vi) ∧ Below w.heap.size w w' := by
  have hl := h.ilen
  have hcap := h.cap
  have hbig := h.big
  have hn256 := hW.1
  have hpos := hW.pos
  have hok := hW.2.1
  have hle := wsum_le hok
  have ha0 := absI_nonneg m
  have ha1 := absI_le hm
  have hn0 : 0 < n := by
    rcases Nat.eq_zero_or_pos n with h0 | h0
    · rw [h0] at hl
      rw [List.eq_nil_of_length_eq_zero hl] at hpos
      exact absurd hpos (by decide)
    · exact h0
  obtain ⟨mb1, mb2⟩ := amtB_iff.1 hm
  obtain ⟨a, ha⟩ : ∃ a, absI m = a := ⟨_, rfl⟩
  have hmx : max m (-m) = a := by rw [← ha]; unfold absI; split <;> omega
  rw [ha] at ha0 ha1
  have HAB := Lib.hid ha
  have HH := Lib.hid h
  have HW := Lib.hid hW
  have HOK := Lib.hid hok
  have HL := Lib.hid hl
  have HC := Lib.hid (rcheck_yes m w hm)
  rw [hl] at hn256 hle
  clear h hW hok hl ha hm
  have d1 : decide ((n : Int) < 1) = false := decide_eq_false (by omega)
  have d2 : decide (n < 1) = false := decide_eq_false (by omega)
  have d3 : decide ((256 : Int) < (n : Int)) = false := decide_eq_false (by omega)
  have d4 : decide (256 < n) = false := decide_eq_false (by omega)
  go_enter Tryd.func12, Tryd.ntmps12
  go_wp2_with (fail)
  refine HC.out.mono ?_
  rintro e w' ⟨rfl, rfl⟩
  go_wp2_with (fail)
  go_loop [6, 7] (fun s i => ∃ k : Nat, k ≤ n ∧ i = .int .i64 k ∧ s = .int .i64 (sumTo (gi ws) k)) (fun _ i => n - (intOf i).toNat)
  case atStart => exact ⟨0, Nat.zero_le _, rfl, rfl⟩
  case round =>
    obtain ⟨k, hk, rfl, rfl⟩ := hrel
    have s0 : 0 ≤ sumTo (gi ws) k := sumTo_nonneg k (fun i hi => (HOK.out i (by have := HL.out; omega)).1)
    by_cases hlt : k < n
    · obtain ⟨b, off, rfl, hb, hx⟩ := HH.out.int hlt
      obtain ⟨w1, w2⟩ := HOK.out k (by have := HL.out; omega)
      have s1 : sumTo (gi ws) k + gi ws k ≤ 256000 := by
        have h1 := sumTo_mono (f := gi ws) (k + 1) ws.length (by have := HL.out; omega) (fun i hi => (HOK.out i hi).1)
        rw [sumTo] at h1
        have : sumTo (gi ws) ws.length = wsum ws := rfl
        omega
      have HS := Lib.hid (show sumTo (gi ws) (k + 1) = sumTo (gi ws) k + gi ws k from rfl)
      generalize gi ws k = x at *
      go_wp2
      go_round
      case rel => exact ⟨k + 1, by omega, by go_num, by rw [HS.out]⟩
      case measure => simp [intOf]; omega
    · obtain rfl : k = n := by omega
      have hs : sumTo (gi ws) k = wsum ws := by unfold wsum; rw [HL.out]
      rw [hs] at s0 ⊢
      clear hs
      have hz : (wsum ws == 0) = false := by rw [beq_eq_false_iff_ne]; omega
      obtain ⟨S, hS⟩ : ∃ S, wsum ws = S := ⟨_, rfl⟩
      rw [hS] at hz hpos hle s0 ⊢
      have HSS := Lib.hid hS
      clear hS
      have hn1 : ¬ (k : Int) < 1 := by omega
      have h00 : Hid (RF w ((w.alloc (.cells #[] 3)).alloc (.cells #[] 3)) (some ⟨w.heap.size, 0, none⟩) (some ⟨w.heap.size + 1, 0, none⟩) 0 0 0 (cen a S ws) (rst a S ws)) := by
        have h1 := own_new0 w w.heap.size 3 1 (Nat.le_refl _)
        have h2 := own_new0 (w.alloc (.cells #[] 3)) w.heap.size 3 1 (by simp)
        rw [World.size_alloc] at h2
        exact Lib.hid ⟨h1.alloc _, h2, fun b hb hb' => by simp [Value.ownBlock] at hb hb'; omega, ((Below.refl _ w).alloc (Nat.le_refl _) _).alloc (by simp) _⟩
      go_wp2_with (fail)
      go_loopw [9, 10, 11, 12] (fun o r l i wr => ∃ (j : Nat) (A1 A2 : Option Addr) (c1 c2 : Nat), j ≤ k ∧ i = .int .i64 j ∧ o = .slice A1 j c1 ∧ r = .slice A2 j c2 ∧ l = .int .i64 (a - sumTo (cen a S ws) j) ∧ Hid (RF w wr A1 A2 c1 c2 j (cen a S ws) (rst a S ws))) (fun _ _ _ i _ => k - (intOf i).toNat)
      case atStart => exact ⟨0, _, _, 0, 0, Nat.zero_le _, rfl, rfl, rfl, by simp [sumTo], h00.out⟩
      case round =>
        obtain ⟨j, A1, A2, c1, c2, hj, rfl, rfl, rfl, rfl, hF⟩ := hrel
        obtain ⟨sb1, sb2⟩ := cen_sum_le (ws := ws) HSS.out.symm hpos ha0 HOK.out j (by have := HL.out; omega)
        by_cases hjk : j < k
        · have hRd := Lib.hid ((HH.out.below hF.out.bel))
          obtain ⟨b, off, rfl, hb, hx⟩ := hRd.out.int hjk
          obtain ⟨w1, w2⟩ := HOK.out j (by have := HL.out; omega)
          obtain ⟨x1, x2, x3⟩ := cr (a := a) (ws := ws) hpos j
          have m0 : 0 ≤ a * gi ws j := Int.mul_nonneg ha0 w1
          have m1 : a * gi ws j ≤ 1125899906842624 * 1000 := Int.le_trans (Int.mul_le_mul_of_nonneg_left w2 ha0) (Int.mul_le_mul_of_nonneg_right ha1 (by omega))
          have hz0 := hF.out.bel.size
          have sb3 := cen_sum_le (ws := ws) HSS.out.symm hpos ha0 HOK.out (j + 1) (by have := HL.out; omega)
          rw [sumTo] at sb3
          have HSN := Lib.hid (show sumTo (cen a S ws) (j + 1) = sumTo (cen a S ws) j + cen a S ws j from rfl)
          have HCE := Lib.hid (show a * gi ws j / S = cen a S ws j from rfl)
          have HRE := Lib.hid (show a * gi ws j % S = rst a S ws j from rfl)
          have q0 : 0 ≤ cen a S ws j := cen_nonneg ha0 hpos HOK.out (by have := HL.out; omega)
          clear x1 x2 x3
          go_wp2_with (at_builtin; refine Hid.out ?_)
          refine Lib.hid ?_
          refine wpList_push_apart elemInt rfl (.tmp 68) (.tmp 77) rfl w.heap.size A1 j c1 _ rfl (hF.out.o.alloc _) wr.heap.size rfl [.int .i64 (a * gi ws j / S)] rfl (new_cells wr _ _) (by intro u hu; simp at hu; subst hu; rfl) (by omega) (by omega) (by simp; omega) ?_
          intro A3 c3 w3 ho3 hb3 hg3 hap3
          rw [HCE.out, range_map_succ] at ho3
          have r3 := (hF.out.r.alloc (.cells #[.int .i64 (a * gi ws j / S)] 3)).kept hg3 (own_sep hF.out.ne)
          have ne3 : ∀ b, (Value.slice A3 (j + 1) c3).ownBlock = some b → (Value.slice A2 j c2).ownBlock ≠ some b := fun b hb hb' => by
            rcases hap3 b hb with h1 | h1
            · exact hF.out.ne b h1 hb'
            · have := (hF.out.r.lt b hb').2
              simp at h1
              omega
          obtain ⟨g3, cap3, eA, _, _, _⟩ := own_pos (by omega) ho3
          injection eA with eA _ eC
          subst eA eC
          have hx3 : w3.cell? ⟨b, off + j, none⟩ = some (.int .i64 (gi ws j)) := (hb3.cell (p := ⟨b, off + j, none⟩) hb).trans ((World.cell?_alloc_lt wr _ _ (by show b < _; omega)).trans hx)
          have bel3 := (hF.out.bel.alloc hz0 (.cells #[.int .i64 (a * gi ws j / S)] 3)).trans hb3
          have HO3 := Lib.hid ho3
          have HR3 := Lib.hid r3
          have HN3 := Lib.hid ne3
          have HB3 := Lib.hid bel3
          have hz3 := bel3.size
          clear ho3 r3 ne3 bel3 hb3 hg3 hap3 hx hRd
          go_wp2_with (at_builtin; refine Hid.out ?_)
          refine Lib.hid ?_
          refine wpList_push_apart elemInt rfl (.tmp 79) (.tmp 88) rfl w.heap.size A2 j c2 _ rfl (HR3.out.alloc _) w3.heap.size rfl [.int .i64 (a * gi ws j % S)] rfl (new_cells w3 _ _) (by intro u hu; simp at hu; subst hu; rfl) (by omega) (by omega) (by simp; omega) ?_
          intro A4 c4 w4 ho4 hb4 hg4 hap4
          rw [HRE.out, range_map_succ] at ho4
          have o4 := (HO3.out.alloc (.cells #[.int .i64 (a * gi ws j % S)] 3)).kept hg4 (own_sep (fun b h1 h2 => HN3.out b h2 h1))
          have ne4 : ∀ b, (Value.slice (some ⟨g3, 0, none⟩) (j + 1) c3).ownBlock = some b → (Value.slice A4 (j + 1) c4).ownBlock ≠ some b := fun b hb hb' => by
            rcases hap4 b hb' with h1 | h1
            · exact HN3.out b hb h1
            · have := (HO3.out.lt b hb).2
              simp at h1
              omega
          have bel4 := (HB3.out.alloc hz3 (.cells #[.int .i64 (a * gi ws j % S)] 3)).trans hb4
          have HF4 : Hid (RF w w4 (some ⟨g3, 0, none⟩) A4 c3 c4 (j + 1) (cen a S ws) (rst a S ws)) := Lib.hid ⟨o4, ho4, ne4, bel4⟩
          have cg := (IA.of_own o4).cell j (by omega)
          have hjj : (j : Int) < (j : Int) + 1 := by omega
          clear ho4 o4 ne4 bel4 hb4 hg4 hap4 HO3 HR3 HN3 HB3
          generalize cen a S ws j = ce at *
          go_wp2
          go_roundw
          case rel => exact ⟨j + 1, _, _, _, _, by omega, by go_num, rfl, rfl, by rw [HSN.out]; exact int_eq (by omega), HF4.out⟩
          case measure => simp [intOf]; omega
        · obtain rfl : j = k := by omega
          obtain ⟨g1, cap1, eA, hc1, hg1, _⟩ := own_pos hn0 hF.out.o
          injection eA with eA _ eC
          subst eA eC
          obtain ⟨g2, cap2, eA, _, hg2, _⟩ := own_pos hn0 hF.out.r
          injection eA with eA _ eC
          subst eA eC
          have hne : g1 ≠ g2 := fun e => hF.out.ne g1 rfl (by rw [e]; rfl)
          have hcb := (own_rd hF.out.o).big
          have hlf0 := left_lt (a := a) (ws := ws) HSS.out.symm hpos
          have e1 : a - sumTo (cen a S ws) j = ((lft a S ws).toNat : Int) := by
            rw [Int.toNat_of_nonneg hlf0.1]
            unfold lft
            rw [HL.out]
          have hlfk := left_le (a := a) (ws := ws) HSS.out.symm hpos
          rw [HL.out] at hlfk
          rw [e1]
          obtain ⟨lf, hlf⟩ : ∃ lf, (lft a S ws).toNat = lf := ⟨_, rfl⟩
          rw [hlf] at hlfk ⊢
          have HLF := Lib.hid hlf
          have HS0 : Hid (First j (rst a S ws) 0 (fun _ => false) ∧ RS w wr g1 g2 j (fun i => cen a S ws i + if (fun _ => false) i then 1 else 0) (rem (rst a S ws) (fun _ => false))) :=
            Lib.hid ⟨First.zero _ _, (RS.mk (IA.of_own hF.out.o) (IA.of_own hF.out.r) hF.out.bel).cong (fun i _ => by simp) (fun i _ => by simp [rem])⟩
          have hrn : Hid (∀ i, i < j → 0 ≤ rst a S ws i) := Lib.hid (fun i _ => (cr (a := a) (ws := ws) hpos i).2.1)
          have hcn : Hid (∀ i, i < j → 0 ≤ cen a S ws i ∧ cen a S ws i ≤ a) := Lib.hid (fun i hi => ⟨cen_nonneg ha0 hpos HOK.out (by rw [HL.out]; exact hi), by
            have h1 := sumTo_one (f := cen a S ws) (i := i) (n := ws.length) (by rw [HL.out]; exact hi) (fun i hi => cen_nonneg ha0 hpos HOK.out hi)
            have h2 := (cen_sum_le HSS.out.symm hpos ha0 HOK.out ws.length (Nat.le_refl _)).2
            omega⟩)
          clear e1 hlf hlf0 hF
          go_wp2_with (fail)
          go_loopw [11] (fun l w3 => ∃ (q kk : Nat) (c : Nat → Bool), q + kk = lf ∧ l = .int .i64 q ∧ Hid (First j (rst a S ws) kk c ∧ RS w w3 g1 g2 j (fun i => cen a S ws i + if c i then 1 else 0) (rem (rst a S ws) c))) (fun l _ => (intOf l).toNat)
          case atStart => exact ⟨lf, 0, fun _ => false, by omega, rfl, HS0.out⟩
          case round =>
            obtain ⟨q, kk, c, hqk, rfl, hI⟩ := hrel
            by_cases hq : 0 < q
            · have hq' : (0 : Int) < (q : Int) := by omega
              have hj1 : Hid (1 ≤ j) := Lib.hid hn0
              go_wp2_with (fail)
              go_loopw [13, 14] (fun b i w5 => ∃ bb ii : Nat, ii ≤ j ∧ b = .int .i64 bb ∧ i = .int .i64 ii ∧ Hid (Best (rem (rst a S ws) c) bb ii) ∧ Hid (RS w w5 g1 g2 j (fun i => cen a S ws i + if c i then 1 else 0) (rem (rst a S ws) c))) (fun _ i _ => j - (intOf i).toNat)
              case atStart => exact ⟨0, 1, hj1.out, rfl, rfl, best_one _, hI.out.2⟩
              case round =>
                obtain ⟨bb, ii, hii, rfl, rfl, hB, hR⟩ := hrel
                have hbi := hB.out.1
                by_cases hij : ii < j
                · have y1 := hR.out.r.cell ii hij
                  have y2 := hR.out.r.cell bb (by omega)
                  have z1 : (ii : Int) < (j : Int) := by omega
                  have z2 : (bb : Int) < (j : Int) := by omega
                  have z3 : bb < j := by omega
                  by_cases hlt : rem (rst a S ws) c bb < rem (rst a S ws) c ii
                  · have HB := Lib.hid (best_yes hB.out hlt)
                    generalize rem (rst a S ws) c bb = r1 at y2 hlt
                    generalize rem (rst a S ws) c ii = r2 at y1 hlt
                    go_wp2
                    go_quiet (fail)
                    go_wp2
                    go_roundw
                    case rel => exact ⟨ii, ii + 1, by omega, rfl, by go_num, HB.out, hR.out.drewN nq⟩
                    case measure => simp [intOf]; omega
                  · have HB := Lib.hid (best_no hB.out hlt)
                    generalize rem (rst a S ws) c bb = r1 at y2 hlt
                    generalize rem (rst a S ws) c ii = r2 at y1 hlt
                    go_wp2
                    go_quiet (fail)
                    go_wp2
                    go_roundw
                    case rel => exact ⟨bb, ii + 1, by omega, rfl, by go_num, HB.out, hR.out.drewN nq⟩
                    case measure => simp [intOf]; omega
                · obtain rfl : ii = j := by omega
                  obtain ⟨hcb0, hF'⟩ := First.round hI.out.1 hrn.out (by omega) hbi hB.out.2.1 hB.out.2.2
                  have HF := Lib.hid hF'
                  have y1 := hR.out.o.cell bb hbi
                  have y2 := hR.out.r.cell bb hbi
                  have f1 := hR.out.o.free bb
                  have f2 := hR.out.r.free bb
                  simp only [hcb0] at y1
                  have z2 : (bb : Int) < (ii : Int) := by omega
                  obtain ⟨cb1, cb2⟩ := hcn.out bb hbi
                  have y1' : wr.cell? ⟨g1, bb, none⟩ = some (.int .i64 (cen a S ws bb)) := by rw [y1]; simp
                  generalize rem (rst a S ws) c bb = rv at y2
                  have HCE := Lib.hid hcb0
                  clear y1 hcb0 hF'
                  obtain ⟨ce, hce⟩ : ∃ ce, cen a S ws bb = ce := ⟨_, rfl⟩
                  rw [hce] at y1' cb1 cb2
                  have HCC := Lib.hid hce
                  clear hce
                  go_wp2
                  have hnew := (RS.mk ((hR.out.o.set hbi (ce + 1)).far (p := ⟨g2, bb, none⟩) hne (.int .i64 (-1))) ((hR.out.r.far (p := ⟨g1, bb, none⟩) (Ne.symm hne) (.int .i64 (ce + 1))).set hbi (-1)) ((hR.out.bel.setCell (p := ⟨g1, bb, none⟩) hg1 (.int .i64 (ce + 1))).setCell (p := ⟨g2, bb, none⟩) hg2 (.int .i64 (-1)))).cong
                    (f' := fun i => cen a S ws i + if (c i || i == bb) then 1 else 0) (r' := rem (rst a S ws) (fun i => c i || i == bb))
                    (fun x _ => by
                      by_cases e : x = bb
                      · subst e; simp [HCC.out]
                      · simp [e])
                    (fun x _ => by
                      unfold rem
                      by_cases e : x = bb
                      · subst e; simp
                      · simp [e])
                  exact ⟨⟨q - 1, kk + 1, _, by omega, int_eq (by omega), Lib.hid ⟨HF.out, hnew⟩⟩, by simp [intOf]; omega⟩
            · obtain rfl : q = 0 := by omega
              have HCH := Lib.hid (show ∃ c', First j (rst a S ws) lf c' ∧ ∀ i, c' i = c i from ⟨c, by have := hI.out.1; rwa [show kk = lf from by omega] at this, fun _ => rfl⟩)
              have HQ := Lib.hid hI.out.2
              have HIS : Hid (∀ (l : List Int), l.length = j → (∀ i, i < j → gi l i = sgn m * (cen a S ws i + if c i then 1 else 0)) → IsSplit m ws l) := Lib.hid (fun l h1 h2 => by
                refine ⟨by rw [h1, HL.out], c, ?_, fun i hi => ?_⟩
                · rw [HAB.out, HSS.out, HL.out, HLF.out]
                  have := hI.out.1
                  rwa [show kk = lf from by omega] at this
                · rw [HAB.out, HSS.out]
                  exact h2 i (by rw [← HL.out]; exact hi))
              obtain ⟨fv, hfv⟩ : ∃ fv, (fun i => cen a S ws i + if c i = true then (1 : Int) else 0) = fv := ⟨_, rfl⟩
              have hfb : Hid (∀ i, i < j → 0 ≤ fv i ∧ fv i ≤ 1125899906842625) := Lib.hid (fun i hi => by
                rw [← hfv]
                have := hcn.out i hi
                simp only
                split <;> omega)
              have HFV := Lib.hid hfv
              have HO : Hid (IA wr g1 j fv ∧ Below w.heap.size w wr) := Lib.hid ⟨by rw [← hfv]; exact HQ.out.o, HQ.out.bel⟩
              clear hfv hI hqk HQ HCH
              rcases sgn_cases m with ⟨hm0, hsg, _⟩ | ⟨hm0, hsg, _⟩
              · have HSG := Lib.hid hsg
                clear hsg
                go_wp2_with (fail)
                go_loopw [15] (fun i w5 => ∃ ii : Nat, ii ≤ j ∧ i = .int .i64 ii ∧ Hid (IA w5 g1 j (fun x => if x < ii then - fv x else fv x) ∧ Below w.heap.size w w5)) (fun i _ => j - (intOf i).toNat)
                case atStart => exact ⟨0, Nat.zero_le _, rfl, HO.out.1.congr (fun x _ => by simp), HO.out.2⟩
                case round =>
                  obtain ⟨ii, hii, rfl, hI⟩ := hrel
                  by_cases hij : ii < j
                  · have y1 := hI.out.1.cell ii hij
                    have f1 := hI.out.1.free ii
                    simp only [Nat.lt_irrefl, if_false] at y1
                    obtain ⟨v1, v2⟩ := hfb.out ii hij
                    have z1 : (ii : Int) < (j : Int) := by omega
                    have hnew := (hI.out.1.set hij (- fv ii)).congr (f' := fun x => if x < ii + 1 then - fv x else fv x) (fun x _ => by
                      by_cases e : x = ii
                      · subst e; simp
                      · by_cases e2 : x < ii
                        · have : x < ii + 1 := by omega
                          simp [e, e2, this]
                        · have : ¬ x < ii + 1 := by omega
                          simp [e, e2, this])
                    have hbn := hI.out.2.setCell (p := ⟨g1, ii, none⟩) hg1 (.int .i64 (- fv ii))
                    have HN := Lib.hid hnew
                    have HBN := Lib.hid hbn
                    clear hnew hbn
                    generalize fv ii = x at *
                    go_wp2
                    go_roundw
                    case rel => exact ⟨ii + 1, by omega, by go_num, HN.out, HBN.out⟩
                    case measure => simp [intOf]; omega
                  · obtain rfl : ii = j := by omega
                    have HE := Lib.hid (HIS.out ((List.range ii).map (fun x => - fv x)) (by simp) (fun i hi => by
                      rw [gi_get _ i (by simpa using hi), HSG.out]
                      simp only [List.getElem_map, List.getElem_range]
                      rw [← HFV.out]; simp))
                    have HR := Lib.hid (Rd.of_cells (l := (List.range ii).map (fun x => - fv x)) (n := ii) (c := c1) (b := g1) (off := 0) (B := wr.heap.size) (by simp) (by omega) hcb (World.block_lt_of_cell? wr _ (hI.out.1.cell 0 hn0)) (fun i hi => by
                      rw [Nat.zero_add, hI.out.1.cell i hi, gi_get _ i (by simpa using hi)]
                      simp [hi]))
                    go_wp2
                    go_ret2
                    exact ⟨_, _, _, rfl, HE.out, HR.out, hI.out.2⟩
              · have HSG := Lib.hid hsg
                clear hsg
                have hz1 : (0 : Int) < (j : Int) := by omega
                go_wp2_with (fail)
                go_loopw [15] (fun i w5 => i = .int .i64 0 ∧ w5 = wr) (fun i _ => 0)
                case atStart => exact ⟨rfl, rfl⟩
                case round =>
                  obtain ⟨rfl, rfl⟩ := hrel
                  have HE := Lib.hid (HIS.out ((List.range j).map fv) (by simp) (fun i hi => by
                      rw [gi_get _ i (by simpa using hi), HSG.out]
                      simp only [List.getElem_map, List.getElem_range]
                      rw [← HFV.out]; simp))
                  have HR := Lib.hid (Rd.of_cells (l := (List.range j).map fv) (n := j) (c := c1) (b := g1) (off := 0) (B := wr.heap.size) (by simp) (by omega) hcb (World.block_lt_of_cell? wr _ (HO.out.1.cell 0 hn0)) (fun i hi => by
                      rw [Nat.zero_add, HO.out.1.cell i hi, gi_get _ i (by simpa using hi)]
                      simp))
                  go_wp2
                  go_ret2
                  exact ⟨_, _, _, rfl, HE.out, HR.out, HO.out.2⟩

set_option maxRecDepth 100000 in
set_option maxHeartbeats 1000000 in
theorem rsplit_any (A : Option Addr) (n c : Nat) (ws : List Int) (m : Int) (w : World) (h : Rd w w.heap.size 1 A n c (ws.map vi)) (hn : n ≤ 1000) :
    Calls Tryd.prog 12 #[.int .i64 m, .slice A n c] w (SplitPost m ws w) := by
  have hl := h.ilen
  have hcap := h.cap
  have hbig := h.big
  cases hm : amtB m with
  | false =>
    have hE := splitE_amt (ws := ws) hm
    have HP := Lib.hid (fun w' hb => post_fail (w := w) (w' := w') hE (by omega) hb)
    clear hE
    go_enter Tryd.func12, Tryd.ntmps12
    go_wp2_with (go_at_call 23; refine (rcheck_no m _ hm).mono ?_; rintro e w' ⟨rfl, rfl⟩)
    go_ret2
    exact HP.out _ (Below.refl _ _)
  | true =>
    by_cases hW : WOk ws
    · have hE := splitE_ok hm hW
      have fin : ∀ e w', (∃ A' c' l, e = .returned (.tuple #[.slice A' n c', .int .i64 0]) ∧ IsSplit m ws l ∧ Rd w' w'.heap.size 1 A' n c' (l.map vi) ∧ Below w.heap.size w w') → SplitPost m ws w e w' := by
        rintro e w' ⟨A', c', l, rfl, h1, h2, h3⟩
        exact ⟨A', n, c', l, by rw [hE], .inl ⟨hE, h1⟩, h2, h3⟩
      exact (rsplit_ok A n c ws m w h hm hW).mono fin
    · have hE := splitE_arg hm hW
      have HP := Lib.hid (fun w' hb => post_fail (w := w) (w' := w') hE (by omega) hb)
      clear hE
      have HL := Lib.hid hl
      have HWN := Lib.hid hW
      clear hl hW
      go_enter Tryd.func12, Tryd.ntmps12
      go_wp2_with (go_at_call 23; refine (rcheck_yes m _ hm).mono ?_; rintro e w' ⟨rfl, rfl⟩)
      go_loop [6, 7] (fun s i => ∃ k : Nat, k ≤ n ∧ i = .int .i64 k ∧ s = .int .i64 (sumTo (gi ws) k) ∧ Hid (∀ i, i < k → 0 ≤ gi ws i ∧ gi ws i ≤ 1000)) (fun _ i => n - (intOf i).toNat)
      case atStart => exact ⟨0, Nat.zero_le _, rfl, rfl, Lib.hid (fun _ hi => by omega)⟩
      case round =>
        obtain ⟨k, hk, rfl, rfl, hok⟩ := hrel
        have s0 : 0 ≤ sumTo (gi ws) k := sumTo_nonneg k (fun i hi => (hok.out i hi).1)
        have s1 : sumTo (gi ws) k ≤ 1000000 := by
          have h1 := sumTo_le (f := gi ws) (g := fun _ => 1000) k (fun i hi => (hok.out i hi).2)
          have h2 : ∀ n : Nat, sumTo (fun _ => 1000) n = 1000 * n := by
            intro n
            induction n with
            | zero => rfl
            | succ n ih => rw [sumTo, ih]; omega
          rw [h2] at h1
          omega
        by_cases hlt : k < n
        · obtain ⟨b, off, rfl, hb, hx⟩ := h.int hlt
          have HS := Lib.hid (show sumTo (gi ws) (k + 1) = sumTo (gi ws) k + gi ws k from rfl)
          by_cases g1 : gi ws k < 0
          · clear HWN
            generalize gi ws k = x at *
            go_wp2
            go_ret2
            exact HP.out _ (Below.refl _ _)
          · by_cases g2 : 1000 < gi ws k
            · generalize gi ws k = x at *
              go_wp2
              go_ret2
              exact HP.out _ (Below.refl _ _)
            · have g3 : 0 ≤ gi ws k := by omega
              have g4 : gi ws k ≤ 1000 := by omega
              have HX := Lib.hid (show ∀ i, i < k + 1 → 0 ≤ gi ws i ∧ gi ws i ≤ 1000 from fun i hi => by
                rcases Nat.eq_or_lt_of_le (Nat.le_of_lt_succ hi) with rfl | h2
                · exact ⟨g3, g4⟩
                · exact hok.out i h2)
              generalize gi ws k = x at *
              go_wp2
              go_round
              case rel => exact ⟨k + 1, by omega, by go_num, by rw [HS.out], HX⟩
              case measure => simp [intOf]; omega
        · obtain rfl : k = n := by omega
          by_cases e1 : k < 1
          · have e1' : (k : Int) < 1 := by omega
            generalize sumTo (gi ws) k = S at *
            go_wp2
            go_ret2
            exact HP.out _ (Below.refl _ _)
          · have e1' : ¬ (k : Int) < 1 := by omega
            by_cases e2 : 256 < k
            · have e2' : (256 : Int) < (k : Int) := by omega
              generalize sumTo (gi ws) k = S at *
              go_wp2
              go_ret2
              exact HP.out _ (Below.refl _ _)
            · have e2' : ¬ (256 : Int) < (k : Int) := by omega
              have hz : (sumTo (gi ws) k == 0) = true := by
                rw [beq_iff_eq]
                rcases Int.lt_or_le 0 (sumTo (gi ws) k) with h1 | h1
                · exfalso
                  refine HWN.out ⟨by rw [HL.out]; omega, fun i hi => hok.out i (by rw [← HL.out]; exact hi), ?_⟩
                  unfold wsum
                  rw [HL.out]; omega
                · omega
              generalize sumTo (gi ws) k = S at *
              go_wp2
              go_ret2
              exact HP.out _ (Below.refl _ _)
end Go.Proofs.YtnigdcppdkcllaaDoor

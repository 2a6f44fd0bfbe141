/- The reference's SameCond and SameSteps by their contracts. -/
import Derived.Test.YticpjdjdimpglaaGreatDoorCTisMRCmp
import Derived.Test.YticpjdjdimpglaaGreatDoorCTisMSam
namespace Go.Proofs.YticpjdjdimpglaaGreatDoor
set_option linter.unusedVariables false
set_option linter.unusedSimpArgs false
open Go.RowKit
set_option maxHeartbeats 4000000 in
set_option maxRecDepth 100000 in
theorem rsc_any (S S' : Nat → Prop) (a b : CT) (A : Option Addr) (m d : Nat) (B : Option Addr) (n e : Nat) (w : World) (h1 : RepH S w a.ps A m d) (h2 : RepH S' w b.ps B n e) :
    Calls Tryz.prog 24 #[cV a A m d, cV b B n e] w fun e w' => e = .returned (.bool (a.cmp b == 0)) ∧ Below w.heap.size w w' := by
  have HC := Lib.hid (fun W (hW : Below w.heap.size w W) => rcmp_all (a.ps.cnt + 1) S S' a b A m d B n e W (Nat.lt_succ_self _) (h1.below hW) (h2.below hW))
  clear h1 h2
  generalize a.cmp b = r at HC ⊢
  obtain ⟨k, v, q, ps⟩ := a
  obtain ⟨k', v', q', ps'⟩ := b
  unfold cV at HC ⊢
  dsimp only [vi] at HC ⊢
  go_enter Tryz.func24, Tryz.ntmps24
  go_wp2_with (fail)
  first | (refine calls_named ?_; intro W hW) | (refine body_named ?_; intro W hW) | (refine wpList_named ?_; intro W hW) | (refine wp_named ?_; intro W hW)
  have hb : Below w.heap.size w W := by rw [← hW]; exact ((Below.refl _ _).alloc (Nat.le_refl _) _).alloc (by simp) _
  clear hW
  refine (HC.out W hb).mono ?_
  rintro e' w2 ⟨rfl, hb2⟩
  have HB2 := Lib.hid (hb.trans (hb2.mono hb.size))
  clear hb hb2
  go_wp2_with (fail)
  go_ret
  exact ⟨rfl, HB2.out⟩
def RSAME (N : Nat) : Prop := ∀ (S S' : Nat → Prop) (F G : SF) (A : Option Addr) (m d : Nat) (B : Option Addr) (n e : Nat) (w : World), F.sz < N → RepT S w F A m d → RepT S' w G B n e →
  Calls Tryz.prog 25 #[.slice A m d, .slice B n e] w fun e w' => e = .returned (.bool (decide (F = G))) ∧ Below w.heap.size w w'
set_option maxHeartbeats 8000000 in
set_option maxRecDepth 100000 in
theorem rsame_of (N : Nat) (ih : RSAME N) : RSAME (N + 1) := by
  intro S S' F G A m d B n e w hN h1 h2
  have HI := Lib.hid ih
  have HR1 := Lib.hid h1
  have HR2 := Lib.hid h2
  have HL1 := Lib.hid (h1.len.trans (stoL_len F).symm)
  have HL2 := Lib.hid (h2.len.trans (stoL_len G).symm)
  have HN := Lib.hid hN
  have HE := Lib.hid (show decide (F = G) = true ↔ F.toL.drop 0 = G.toL.drop 0 by
    rw [decide_eq_true_eq]
    exact ⟨fun h => by rw [h], fun h => stoL_inj (by simpa using h)⟩)
  generalize decide (F = G) = r at HE ⊢
  obtain ⟨x1, hr1, -, -⟩ := h1
  obtain ⟨x2, hr2, -, -⟩ := h2
  have hc1 := hr1.cap
  have hb1 := hr1.big
  have hc2 := hr2.cap
  have hb2 := hr2.big
  clear ih hN hr1 hr2
  go_enter Tryz.func25, Tryz.ntmps25
  by_cases hmn : m = n
  · have hmn2 : ((m : Int) != (n : Int)) = false := by rw [hmn]; simp
    have HMN := Lib.hid hmn
    clear hmn
    go_wp2_with (fail)
    go_loopw [5] (fun q wr => ∃ i : Nat, i ≤ m ∧ q = .int .i64 i ∧ Hid (Below w.heap.size w wr) ∧ Hid (r = true ↔ F.toL.drop i = G.toL.drop i)) (fun q _ => m - (intOf q).toNat)
    case atStart => exact ⟨0, Nat.zero_le _, rfl, Below.refl _ _, HE.out⟩
    case round =>
      obtain ⟨i, him, rfl, HB, HC⟩ := hrel
      by_cases hlt : i < m
      · have hltn : i < n := by have := HMN.out; omega
        obtain ⟨b, off, x, Bc, nc, ec, B1, n1, e1, B2, n2, e2, rfl, hb, hS, hx, ⟨g0, g1, g2, g3, g4, g5, g6, g7⟩, k1, k2, k3⟩ := HR1.out.elem hlt
        obtain ⟨b', off', y, Bd, nd, ed, D1, l1, u1, D2, l2, u2, rfl, hb', hS', hy, ⟨i0, i1, i2, i3, i4, i5, i6, i7⟩, j1, j2, j3⟩ := HR2.out.elem hltn
        have hz := HB.out.size
        have HC2 := Lib.hid (show r = true ↔ sameS x y = true ∧ F.toL.drop (i + 1) = G.toL.drop (i + 1) by
          obtain ⟨a1, a2⟩ := List.getElem?_eq_some_iff.1 hx
          obtain ⟨a3, a4⟩ := List.getElem?_eq_some_iff.1 hy
          rw [HC.out, List.drop_eq_getElem_cons a1, List.drop_eq_getElem_cons a3, a2, a4, List.cons.injEq, sameS_iff])
        have HZ := Lib.hid (ssz_memF (l := F) (x := x) (by
          obtain ⟨a1, a2⟩ := List.getElem?_eq_some_iff.1 hx
          rw [← a2]
          exact List.getElem_mem a1))
        have c1 := Lib.hid (fun W (hW : Below w.heap.size w W) => rsc_any S S' x.c y.c Bc nc ec Bd nd ed W (k1.below hW) (j1.below hW))
        have c2 := Lib.hid (fun W (hW : Below w.heap.size w W) => HI.out S S' x.th y.th B1 n1 e1 D1 l1 u1 W (by have := HZ.out; have := HN.out; omega) (k2.below hW) (j2.below hW))
        have c3 := Lib.hid (fun W (hW : Below w.heap.size w W) => HI.out S S' x.el y.el B2 n2 e2 D2 l2 u2 W (by have := HZ.out; have := HN.out; omega) (k3.below hW) (j3.below hW))
        have hbl : b < wr.heap.size := by omega
        have hbl' : b' < wr.heap.size := by omega
        have HSE := Lib.hid (show sameS x y = (x.k == y.k && (x.b == y.b && (x.c.cmp y.c == 0 && (decide (x.th = y.th) && decide (x.el = y.el))))) from rfl)
        rw [← HB.out.cell (p := ⟨b, _, none⟩) hb] at g0 g1 g2 g3 g4 g5 g6 g7
        rw [← HB.out.cell (p := ⟨b', _, none⟩) hb'] at i0 i1 i2 i3 i4 i5 i6 i7
        have Xg0 := cell_by hbl g0
        have Xg1 := cell_by hbl g1
        have Xg2 := cell_by hbl g2
        have Xg3 := cell_by hbl g3
        have Xg4 := cell_by hbl g4
        have Xg5 := cell_by hbl g5
        have Xg6 := cell_by hbl g6
        have Xg7 := cell_by hbl g7
        have Xi0 := cell_by hbl' i0
        have Xi1 := cell_by hbl' i1
        have Xi2 := cell_by hbl' i2
        have Xi3 := cell_by hbl' i3
        have Xi4 := cell_by hbl' i4
        have Xi5 := cell_by hbl' i5
        have Xi6 := cell_by hbl' i6
        have Xi7 := cell_by hbl' i7
        clear hx hy k1 k2 k3 j1 j2 j3 hS hS' g0 g1 g2 g3 g4 g5 g6 g7 i0 i1 i2 i3 i4 i5 i6 i7
        generalize sameS x y = rs at HC2 HSE
        generalize (x.c.cmp y.c == 0) = rc at c1 HSE
        generalize decide (x.th = y.th) = rt at c2 HSE
        generalize decide (x.el = y.el) = re at c3 HSE
        unfold cV at c1
        dsimp only [vi] at c1
        have hlt2 : (i : Int) < (m : Int) := by omega
        have hlt3 : (i : Int) < (n : Int) := by omega
        have hno : ∀ W, Hid (Below w.heap.size w W) → rs = false → (fun e w' => e = Ending.returned (.bool r) ∧ Below w.heap.size w w') (.returned (.bool false)) W := fun W hW hf => ⟨ret_bool (by
          have h := HC2.out
          rw [hf] at h
          cases r
          · rfl
          · exact absurd (h.1 rfl).1 (by decide)), hW.out⟩
        have HNO := Lib.hid hno
        clear hno
        have hc1 : ∀ p : BelowBy wr, _ := calls_by fun W hW => c1.out W (HB.out.trans (hW.mono hz))
        have hc2 : ∀ p : BelowBy wr, _ := calls_by fun W hW => c2.out W (HB.out.trans (hW.mono hz))
        have hc3 : ∀ p : BelowBy wr, _ := calls_by fun W hW => c3.out W (HB.out.trans (hW.mono hz))
        cases q1 : (x.k != y.k)
        case true =>
          have HF := Lib.hid (show rs = false by rw [HSE.out, show (x.k == y.k) = false by simpa using q1]; rfl)
          go_wp2_with (fail)
          refine wp_region_below mixF (by kernel_rfl) ?_
          repeat (go_big_quiet_step (first | (go_at_call 24; with_reducible exact hc1 _) | (go_at_call 25; first | with_reducible exact hc2 _ | with_reducible exact hc3 _)))
          refine wpQuiet_nil ?_
          intro _ hw'
          obtain ⟨⟨wq, hbq⟩, hw2⟩ := hw'
          subst hw2
          have hbz := Lib.hid (HB.out.trans (hbq.mono hz))
          clear Xg0 Xg1 Xg2 Xg3 Xg4 Xg5 Xg6 Xg7 Xi0 Xi1 Xi2 Xi3 Xi4 Xi5 Xi6 Xi7
          go_wp2_with (fail)
          go_ret
          exact HNO.out _ hbz HF.out
        cases q2 : (x.b != y.b)
        case true =>
          have HF := Lib.hid (show rs = false by rw [HSE.out, show (x.b == y.b) = false by simpa using q2]; simp)
          go_wp2_with (fail)
          refine wp_region_below mixF (by kernel_rfl) ?_
          repeat (go_big_quiet_step (first | (go_at_call 24; with_reducible exact hc1 _) | (go_at_call 25; first | with_reducible exact hc2 _ | with_reducible exact hc3 _)))
          refine wpQuiet_nil ?_
          intro _ hw'
          obtain ⟨⟨wq, hbq⟩, hw2⟩ := hw'
          subst hw2
          have hbz := Lib.hid (HB.out.trans (hbq.mono hz))
          clear Xg0 Xg1 Xg2 Xg3 Xg4 Xg5 Xg6 Xg7 Xi0 Xi1 Xi2 Xi3 Xi4 Xi5 Xi6 Xi7
          go_wp2_with (fail)
          go_ret
          exact HNO.out _ hbz HF.out
        have HSE2 := Lib.hid (show rs = (rc && (rt && re)) by
          rw [HSE.out, show (x.k == y.k) = true by simpa using q1, show (x.b == y.b) = true by simpa using q2]
          rfl)
        cases rc
        case false =>
          have HF := Lib.hid (show rs = false by rw [HSE2.out]; rfl)
          go_wp2_with (fail)
          refine wp_region_below mixF (by kernel_rfl) ?_
          repeat (go_big_quiet_step (first | (go_at_call 24; with_reducible exact hc1 _) | (go_at_call 25; first | with_reducible exact hc2 _ | with_reducible exact hc3 _)))
          refine wpQuiet_nil ?_
          intro _ hw'
          obtain ⟨⟨wq, hbq⟩, hw2⟩ := hw'
          subst hw2
          have hbz := Lib.hid (HB.out.trans (hbq.mono hz))
          clear Xg0 Xg1 Xg2 Xg3 Xg4 Xg5 Xg6 Xg7 Xi0 Xi1 Xi2 Xi3 Xi4 Xi5 Xi6 Xi7
          go_wp2_with (fail)
          go_ret
          exact HNO.out _ hbz HF.out
        cases rt
        case false =>
          have HF := Lib.hid (show rs = false by rw [HSE2.out]; rfl)
          go_wp2_with (fail)
          refine wp_region_below mixF (by kernel_rfl) ?_
          repeat (go_big_quiet_step (first | (go_at_call 24; with_reducible exact hc1 _) | (go_at_call 25; first | with_reducible exact hc2 _ | with_reducible exact hc3 _)))
          refine wpQuiet_nil ?_
          intro _ hw'
          obtain ⟨⟨wq, hbq⟩, hw2⟩ := hw'
          subst hw2
          have hbz := Lib.hid (HB.out.trans (hbq.mono hz))
          clear Xg0 Xg1 Xg2 Xg3 Xg4 Xg5 Xg6 Xg7 Xi0 Xi1 Xi2 Xi3 Xi4 Xi5 Xi6 Xi7
          go_wp2_with (fail)
          go_ret
          exact HNO.out _ hbz HF.out
        cases re
        case false =>
          have HF := Lib.hid (show rs = false by rw [HSE2.out]; rfl)
          go_wp2_with (fail)
          refine wp_region_below mixF (by kernel_rfl) ?_
          repeat (go_big_quiet_step (first | (go_at_call 24; with_reducible exact hc1 _) | (go_at_call 25; first | with_reducible exact hc2 _ | with_reducible exact hc3 _)))
          refine wpQuiet_nil ?_
          intro _ hw'
          obtain ⟨⟨wq, hbq⟩, hw2⟩ := hw'
          subst hw2
          have hbz := Lib.hid (HB.out.trans (hbq.mono hz))
          clear Xg0 Xg1 Xg2 Xg3 Xg4 Xg5 Xg6 Xg7 Xi0 Xi1 Xi2 Xi3 Xi4 Xi5 Xi6 Xi7
          go_wp2_with (fail)
          go_ret
          exact HNO.out _ hbz HF.out
        have HC3 := Lib.hid (show r = true ↔ F.toL.drop (i + 1) = G.toL.drop (i + 1) by
          rw [HC2.out, HSE2.out]
          simp)
        go_wp2_with (fail)
        refine wp_region_below mixF (by kernel_rfl) ?_
        repeat (go_big_quiet_step (first | (go_at_call 24; with_reducible exact hc1 _) | (go_at_call 25; first | with_reducible exact hc2 _ | with_reducible exact hc3 _)))
        refine wpQuiet_nil ?_
        intro _ hw'
        obtain ⟨⟨wq, hbq⟩, hw2⟩ := hw'
        subst hw2
        have hbz := Lib.hid (HB.out.trans (hbq.mono hz))
        clear Xg0 Xg1 Xg2 Xg3 Xg4 Xg5 Xg6 Xg7 Xi0 Xi1 Xi2 Xi3 Xi4 Xi5 Xi6 Xi7
        go_wp2_with (fail)
        go_roundw
        case rel => exact ⟨i + 1, hlt, by go_num, hbz, HC3.out⟩
        case measure => simp [intOf]; omega
      · have HC2 := Lib.hid (show r = true by
          have h := HC.out
          rw [List.drop_eq_nil_of_le (by rw [← HL1.out]; omega), List.drop_eq_nil_of_le (by rw [← HL2.out, ← HMN.out]; omega)] at h
          exact h.2 rfl)
        go_wp2_with (fail)
        go_ret
        exact ⟨ret_bool HC2.out.symm, HB.out⟩
  · have hmn2 : ((m : Int) != (n : Int)) = true := bne_iff_ne.2 fun h => hmn (Int.ofNat.inj h)
    have HC2 := Lib.hid (show r = false by
      have h := HE.out
      cases r
      · rfl
      · have h2 := h.1 rfl
        simp only [List.drop_zero] at h2
        exact absurd (HL1.out.trans ((congrArg List.length h2).trans HL2.out.symm)) hmn)
    clear hmn
    go_wp2_with (fail)
    go_ret
    exact ⟨ret_bool HC2.out.symm, Below.refl _ _⟩
theorem rsame_all : ∀ N, RSAME N
  | 0 => fun _ _ _ _ _ _ _ _ _ _ _ h => absurd h (by omega)
  | N + 1 => rsame_of N (rsame_all N)
end Go.Proofs.YticpjdjdimpglaaGreatDoor

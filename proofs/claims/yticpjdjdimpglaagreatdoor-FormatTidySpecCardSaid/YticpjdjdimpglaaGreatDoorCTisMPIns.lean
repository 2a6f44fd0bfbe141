/- The reference's insert by its contract. -/
import Derived.Test.YticpjdjdimpglaaGreatDoorCTisMPLit
import Derived.Test.YticpjdjdimpglaaGreatDoorCTisMSam
namespace Go.Proofs.YticpjdjdimpglaaGreatDoor
set_option linter.unusedVariables false
set_option linter.unusedSimpArgs false
open Go.RowKit
def insR (kind : Int) (c : CT) : Bool → List CT → List CT
  | dn, [] => if dn then [] else [c]
  | dn, y :: r => if covers kind c y then insR kind c dn r else if !dn && decide (c.cmp y < 0) then c :: y :: insR kind c true r else y :: insR kind c dn r
theorem insR_done (kind : Int) (c : CT) : ∀ l : List CT, insR kind c true l = l.filter fun y => !covers kind c y
  | [] => rfl
  | y :: r => by
    rw [insR, insR_done kind c r, List.filter_cons]
    cases covers kind c y <;> simp
theorem insR_ins {kind : Int} {c : CT} : ∀ {l : List CT}, Rise l → (∀ y ∈ l, covers kind y c = false) → insR kind c false l = (l.filter fun y => !covers kind c y && decide (y.cmp c < 0)) ++ c :: (l.filter fun y => !covers kind c y && !decide (y.cmp c < 0))
  | [], _, _ => rfl
  | y :: r, hr, hc => by
    have hr2 := List.pairwise_cons.1 hr
    have ih := insR_ins (kind := kind) (c := c) (l := r) hr2.2 (fun z hz => hc z (List.mem_cons_of_mem _ hz))
    rw [insR]
    by_cases h1 : covers kind c y = true
    · rw [if_pos h1, ih, List.filter_cons, List.filter_cons]
      simp [h1]
    · rw [if_neg h1]
      have h1' : covers kind c y = false := by simpa using h1
      by_cases h2 : c.cmp y < 0
      · rw [if_pos (by simp [h2])]
        have hy : ¬ y.cmp c < 0 := by have := CT.cmp_swap c y; omega
        have hz : ∀ z ∈ r, ¬ z.cmp c < 0 := fun z hz => by
          have h3 := CT.cmp_trans h2 (hr2.1 z hz)
          have := CT.cmp_swap c z
          omega
        have e1 : (r.filter fun z => !covers kind c z && decide (z.cmp c < 0)) = [] := by
          rw [List.filter_eq_nil_iff]
          intro z hz'
          simp [hz z hz']
        have e2 : (r.filter fun z => !covers kind c z && !decide (z.cmp c < 0)) = r.filter fun z => !covers kind c z := List.filter_congr fun z hz' => by simp [hz z hz']
        rw [insR_done, List.filter_cons, List.filter_cons, e1, e2]
        simp [h1', hy]
      · rw [if_neg (by simp [h2]), ih]
        have hne : c.cmp y ≠ 0 := fun h => by
          have h4 := CT.cmp_zero.1 h
          have h3 := hc y (by simp)
          rw [← h4, cov_refl] at h3
          cases h3
        have hy : y.cmp c < 0 := by have := CT.cmp_swap c y; omega
        rw [List.filter_cons, List.filter_cons]
        simp [h1', hy]
theorem insC_R {kind : Int} {c : CT} {l : List CT} (hr : Rise l) (h : ∀ y ∈ l, covers kind y c = false) : insC kind l c = insR kind c false l := by
  rw [insR_ins hr h]
  unfold insC
  rw [if_neg]
  rw [List.any_eq_true]
  rintro ⟨y, hy, h1⟩
  rw [h y hy] at h1
  cases h1
theorem insC_has {kind : Int} {c y : CT} {l : List CT} (hy : y ∈ l) (h : covers kind y c = true) : insC kind l c = l := by
  unfold insC
  rw [if_pos (List.any_eq_true.2 ⟨y, hy, h⟩)]
theorem NSt.made {S : Nat → Prop} {w0 W : World} {g : Nat} (h : Blk W g 24 #[]) (h0 : w0.heap.size ≤ g) : NSt S w0 W [] (some ⟨g, 0, none⟩) 0 0 :=
  ⟨rfl, Nat.le_trans h0 (Nat.le_of_lt h.lt), [], own_of_blk2 (xs := []) (m := 0) (size := 4) h rfl h0 (by omega), rfl⟩
set_option maxHeartbeats 8000000 in
set_option maxRecDepth 100000 in
theorem pins_any (S : Nat → Prop) (kind : Int) (F : CF) (A : Option Addr) (m d : Nat) (c : CT) (B : Option Addr) (n e : Nat) (w : World) (hS : ∀ k, S k → k < w.heap.size) (h1 : RepH S w F A m d) (h2 : RepH S w c.ps B n e)
    (hn : ∀ x ∈ F.toL, Nrm x) (hc : Nrm c) (hr : Rise F.toL) (hm : m ≤ 900000) :
    Calls Tryz.prog 113 #[.int .i64 kind, .slice A m d, cV c B n e] w fun e w' => Below w.heap.size w w' ∧ ∃ A' m' d', e = .returned (.slice A' m' d') ∧ RepH S w' (CF.ofL (insC kind F.toL c)) A' m' d' := by
  have HS := Lib.hid hS
  have HR := Lib.hid h1
  have HRC := Lib.hid h2
  have HNF := Lib.hid hn
  have HNC := Lib.hid hc
  have HRI := Lib.hid hr
  have HL := Lib.hid (h1.len.trans (toL_len F).symm)
  have HCP := Lib.hid (nrm_pos hc h2)
  have hcap := h1.choose_spec.1.cap
  have hbig := h1.choose_spec.1.big
  clear hS h1 h2 hn hc hr
  unfold cV
  dsimp only [vi]
  go_enter Tryz.func113, Tryz.ntmps113
  go_wp2_with (fail)
  first | (refine calls_named ?_; intro w0 hW) | (refine body_named ?_; intro w0 hW) | (refine wpList_named ?_; intro w0 hW) | (refine wp_named ?_; intro w0 hW)
  have HB0 := Lib.hid (show Below w.heap.size w w0 by rw [← hW]; exact (Below.refl _ _).alloc (Nat.le_refl _) _)
  have HX0 := Lib.hid (show Blk w0 w.heap.size 24 #[.int .i64 c.k, .int .i64 c.v, .int .i64 c.n, .slice B n e] by rw [← hW]; exact Blk.new w _ _)
  clear hW
  go_loopw [7] (fun q wr => ∃ i : Nat, i ≤ m ∧ q = .int .i64 i ∧ Hid (∀ y ∈ F.toL.take i, covers kind y c = false) ∧ Hid (Below w0.heap.size w0 wr)) (fun q _ => m - (intOf q).toNat)
  case atStart => exact ⟨0, Nat.zero_le _, rfl, Lib.hid (fun y hy => by simp at hy), Below.refl _ _⟩
  case round =>
    obtain ⟨i, him, rfl, HC, HBr⟩ := hrel
    have HB := Lib.hid (HB0.out.trans (HBr.out.mono HB0.out.size))
    have HX := Lib.hid (HX0.out.below HBr.out HX0.out.lt)
    by_cases hlt : i < m
    · obtain ⟨b, off, x, Bx, nx, ex, rfl, hb, hSb, hx, g0, g1, g2, g3, hrx⟩ := HR.out.elem hlt
      have hbl : b < wr.heap.size := Nat.lt_of_lt_of_le hb HB.out.size
      rw [← HB.out.cell (p := ⟨b, _, none⟩) hb] at g0 g1 g2 g3
      have hmem := List.mem_of_getElem? hx
      have HTE := Lib.hid (show F.toL.take (i + 1) = F.toL.take i ++ [x] by rw [List.take_add_one, hx]; rfl)
      have HMX := Lib.hid hmem
      have hcv := Lib.hid (fun W (hW : Below w.heap.size w W) => pcov_any kind x c Bx nx ex B n e W (hrx.below hW) (HRC.out.below hW) (nrm_pos (HNF.out x hmem) hrx) HCP.out)
      have hbr := HB.out.size
      unfold cV at hcv
      dsimp only [vi] at hcv
      have Xg0 := cell_by hbl g0
      have Xg1 := cell_by hbl g1
      have Xg2 := cell_by hbl g2
      have Xg3 := cell_by hbl g3
      have Xc0 := cell_by HX.out.lt (HX.out.cell 0)
      have Xc1 := cell_by HX.out.lt (HX.out.cell 1)
      have Xc2 := cell_by HX.out.lt (HX.out.cell 2)
      have Xc3 := cell_by HX.out.lt (HX.out.cell 3)
      have hi2 : (i : Int) < (m : Int) := by omega
      clear hx hrx hSb hmem g0 g1 g2 g3
      have HCV := Lib.hid (show ∃ q, q = covers kind x c from ⟨_, rfl⟩)
      obtain ⟨q, hq⟩ := HCV.out
      rw [← hq] at hcv
      have HQ := Lib.hid hq
      clear hq HCV
      have hc1 : ∀ p : BelowBy wr, _ := calls_by fun W hW => hcv.out W (HB.out.trans (hW.mono hbr))
      have hc2 := True.intro
      clear hcv
      cases q with
      | true =>
        have HRR := Lib.hid (insC_has HMX.out HQ.out.symm)
        go_wp2_with (fail)
        refine wp_region_below mixF (by kernel_rfl) ?_
        repeat (go_big_quiet_step (first | (go_at_call 160; with_reducible exact hc1 _) | (go_at_call 69; with_reducible exact hc2 _)))
        refine wpQuiet_nil ?_
        intro wq hw'
        obtain ⟨⟨wq2, hbq⟩, hw2⟩ := hw'
        subst hw2
        clear Xg0 Xg1 Xg2 Xg3 Xc0 Xc1 Xc2 Xc3
        have HBQ := Lib.hid (HB.out.trans (hbq.mono hbr))
        go_wp2_with (fail)
        go_ret
        exact ⟨HBQ.out, _, _, _, rfl, by rw [HRR.out, ofL_toL2]; exact HR.out.below HBQ.out⟩
      | false =>
        have HC2 := Lib.hid (show ∀ y ∈ F.toL.take (i + 1), covers kind y c = false from fun y hy => by
          rw [HTE.out] at hy
          rcases List.mem_append.1 hy with hy | hy
          · exact HC.out y hy
          · rw [List.mem_singleton.1 hy]; exact HQ.out.symm)
        go_wp2_with (fail)
        refine wp_region_below mixF (by kernel_rfl) ?_
        repeat (go_big_quiet_step (first | (go_at_call 160; with_reducible exact hc1 _) | (go_at_call 69; with_reducible exact hc2 _)))
        refine wpQuiet_nil ?_
        intro wq hw'
        obtain ⟨⟨wq2, hbq⟩, hw2⟩ := hw'
        subst hw2
        clear Xg0 Xg1 Xg2 Xg3 Xc0 Xc1 Xc2 Xc3
        have HBQ := Lib.hid (HBr.out.trans (hbq.mono HBr.out.size))
        go_wp2_with (fail)
        go_roundw
        case rel => exact ⟨i + 1, hlt, by go_num, HC2.out, HBQ.out⟩
        case measure => simp [intOf]; omega
    · obtain rfl : i = m := by omega
      have hii : ¬ (i : Int) < (i : Int) := by omega
      have HIN := Lib.hid (insC_R (kind := kind) (c := c) HRI.out (fun y hy => HC.out y (by rw [List.take_of_length_le (by have := HL.out; omega)]; exact hy)))
      obtain ⟨w1, rfl⟩ : ∃ w1, w1 = wr := ⟨_, rfl⟩
      have HW1 := Lib.hid (show w.heap.size < w1.heap.size from HX.out.lt)
      clear HBr HC
      go_wp2_with (fail)
      first | (refine calls_named ?_; intro w2 hW) | (refine body_named ?_; intro w2 hW) | (refine wpList_named ?_; intro w2 hW) | (refine wp_named ?_; intro w2 hW)
      have hb2 : Below w1.heap.size w1 w2 := by rw [← hW]; exact (Below.refl _ _).alloc (Nat.le_refl _) _
      have hx2 : Blk w2 w1.heap.size 24 #[] := by rw [← hW]; exact Blk.new w1 _ _
      clear hW
      have HB2 := Lib.hid (HB.out.trans (hb2.mono HB.out.size))
      have HX2 := Lib.hid (HX.out.below hb2 HX.out.lt)
      have HN2 := Lib.hid (NSt.made (S := S) (w0 := w1) hx2 (Nat.le_refl _))
      clear hb2 hx2 HX0 HB0
      go_loopw [8, 9, 10] (fun o dv q wr => ∃ (j nn : Nat) (dn : Bool) (O : List CT) (A' : Option Addr) (c' : Nat), j ≤ i ∧ nn ≤ j + 1 ∧ q = .int .i64 j ∧ dv = .bool dn ∧ o = .slice A' nn c' ∧ Hid (NSt S w1 wr O A' nn c') ∧ Hid (insR kind c false F.toL = O ++ insR kind c dn (F.toL.drop j)) ∧ Hid (Below w.heap.size w wr) ∧ Hid (Blk wr w.heap.size 24 #[.int .i64 c.k, .int .i64 c.v, .int .i64 c.n, .slice B n e]) ∧ Hid (dn = false → nn ≤ j)) (fun _ _ q _ => i - (intOf q).toNat)
      case atStart => exact ⟨0, 0, false, [], _, 0, Nat.zero_le _, Nat.zero_le _, rfl, rfl, rfl, HN2.out, rfl, HB2.out, HX2.out, fun _ => Nat.le_refl _⟩
      case round =>
        obtain ⟨j, nn, dn, O, A', c', hji, hnn, rfl, rfl, rfl, HN, HE, HBr, HXr, HNN⟩ := hrel
        clear HN2 HB2 HX2 HB HX
        by_cases hlt : j < i
        · obtain ⟨b, off, x, Bx, nx, ex, rfl, hb, hSb, hx, g0, g1, g2, g3, hrx⟩ := HR.out.elem hlt
          have hbl : b < wr.heap.size := Nat.lt_of_lt_of_le hb HBr.out.size
          have HG := Lib.hid (show ∀ W, Below w.heap.size w W → W.cell? ⟨b, off + j * 4, none⟩ = some (.int .i64 x.k) ∧ W.cell? ⟨b, off + j * 4 + 1, none⟩ = some (.int .i64 x.v) ∧ W.cell? ⟨b, off + j * 4 + 2, none⟩ = some (.int .i64 x.n) ∧ W.cell? ⟨b, off + j * 4 + 3, none⟩ = some (.slice Bx nx ex) ∧ b < W.heap.size from fun W hW =>
            ⟨(hW.cell (p := ⟨b, _, none⟩) hb).trans g0, (hW.cell (p := ⟨b, _, none⟩) hb).trans g1, (hW.cell (p := ⟨b, _, none⟩) hb).trans g2, (hW.cell (p := ⟨b, _, none⟩) hb).trans g3, Nat.lt_of_lt_of_le hb hW.size⟩)
          have hmem := List.mem_of_getElem? hx
          have HDR := Lib.hid (show F.toL.drop j = x :: F.toL.drop (j + 1) by
            obtain ⟨a1, a2⟩ := List.getElem?_eq_some_iff.1 hx
            rw [List.drop_eq_getElem_cons a1, a2])
          have HRX := Lib.hid hrx
          have hcv := Lib.hid (fun W (hW : Below w.heap.size w W) => pcov_any kind c x B n e Bx nx ex W (HRC.out.below hW) (hrx.below hW) HCP.out (nrm_pos (HNF.out x hmem) hrx))
          have hcm := Lib.hid (fun W (hW : Below w.heap.size w W) => rcmp_all (c.ps.cnt + 1) S S c x B n e Bx nx ex W (Nat.lt_succ_self _) (HRC.out.below hW) (hrx.below hW))
          have hbr := HBr.out.size
          unfold cV at hcv hcm
          dsimp only [vi] at hcv hcm
          obtain ⟨y0, y1, y2, y3, yl⟩ := HG.out wr HBr.out
          have Xg0 := cell_by yl y0
          have Xg1 := cell_by yl y1
          have Xg2 := cell_by yl y2
          have Xg3 := cell_by yl y3
          have Xc0 := cell_by HXr.out.lt (HXr.out.cell 0)
          have Xc1 := cell_by HXr.out.lt (HXr.out.cell 1)
          have Xc2 := cell_by HXr.out.lt (HXr.out.cell 2)
          have Xc3 := cell_by HXr.out.lt (HXr.out.cell 3)
          have hi2 : (j : Int) < (i : Int) := by omega
          clear hx hrx hSb hmem g0 g1 g2 g3 y0 y1 y2 y3 yl
          have HIR := Lib.hid (show insR kind c dn (x :: F.toL.drop (j + 1)) = if covers kind c x then insR kind c dn (F.toL.drop (j + 1)) else if !dn && decide (c.cmp x < 0) then c :: x :: insR kind c true (F.toL.drop (j + 1)) else x :: insR kind c dn (F.toL.drop (j + 1)) from by rw [insR])
          generalize covers kind c x = q at hcv HIR
          generalize c.cmp x = cm at hcm HIR
          have hc1 : ∀ p : BelowBy wr, _ := calls_by fun W hW => hcv.out W (HBr.out.trans (hW.mono hbr))
          cases q with
          | true =>
            have HE2 := Lib.hid (show insR kind c false F.toL = O ++ insR kind c dn (F.toL.drop (j + 1)) by rw [HE.out, HDR.out, HIR.out]; rfl)
            have hc2 := True.intro
            go_wp2_with (fail)
            refine wp_region_below mixF (by kernel_rfl) ?_
            repeat (go_big_quiet_step (first | (go_at_call 160; with_reducible exact hc1 _) | (go_at_call 69; with_reducible exact hc2 _)))
            refine wpQuiet_nil ?_
            intro wq hw'
            obtain ⟨⟨wq2, hbq⟩, hw2⟩ := hw'
            subst hw2
            clear Xg0 Xg1 Xg2 Xg3 Xc0 Xc1 Xc2 Xc3
            have HBQ := Lib.hid (HBr.out.trans (hbq.mono hbr))
            have HNQ := Lib.hid (HN.out.below hbq)
            have HXQ := Lib.hid (HXr.out.below hbq HXr.out.lt)
            have HNM := Lib.hid (show dn = false → nn ≤ j + 1 from fun h => Nat.le_succ_of_le (HNN.out h))
            go_wp2_with (fail)
            go_roundw
            case rel => exact ⟨j + 1, nn, dn, O, A', c', hlt, by omega, by go_num, rfl, rfl, HNQ.out, HE2.out, HBQ.out, HXQ.out, HNM.out⟩
            case measure => simp [intOf]; omega
          | false =>
            have hc2 := True.intro
            go_wp2_with (fail)
            refine wp_region_below mixF (by kernel_rfl) ?_
            repeat (go_big_quiet_step (first | (go_at_call 160; with_reducible exact hc1 _) | (go_at_call 69; with_reducible exact hc2 _)))
            refine wpQuiet_nil ?_
            intro wq hw'
            obtain ⟨⟨wq2, hbq⟩, hw2⟩ := hw'
            subst hw2
            clear Xg0 Xg1 Xg2 Xg3 Xc0 Xc1 Xc2 Xc3 hc1 hc2
            have HBQ := Lib.hid (HBr.out.trans (hbq.mono hbr))
            have HNQ := Lib.hid (HN.out.below hbq)
            have HXQ := Lib.hid (HXr.out.below hbq HXr.out.lt)
            clear hbq HN HXr HBr hbr hbl
            obtain ⟨y0, y1, y2, y3, yl⟩ := HG.out wq HBQ.out
            have Xg0 := cell_by yl y0
            have Xg1 := cell_by yl y1
            have Xg2 := cell_by yl y2
            have Xg3 := cell_by yl y3
            have Xc0 := cell_by HXQ.out.lt (HXQ.out.cell 0)
            have Xc1 := cell_by HXQ.out.lt (HXQ.out.cell 1)
            have Xc2 := cell_by HXQ.out.lt (HXQ.out.cell 2)
            have Xc3 := cell_by HXQ.out.lt (HXQ.out.cell 3)
            have hbr := HBQ.out.size
            have hc1 := True.intro
            have hc2 : ∀ p : BelowBy wq, _ := calls_by fun W hW => hcm.out W (HBQ.out.trans (hW.mono hbr))
            clear y0 y1 y2 y3 yl
            obtain ⟨wz, rfl⟩ : ∃ wz, wz = wq := ⟨_, rfl⟩
            cases dn with
            | true =>
              have HE2 := Lib.hid (show insR kind c false F.toL = (O ++ [x]) ++ insR kind c true (F.toL.drop (j + 1)) by rw [HE.out, HDR.out, HIR.out]; simp)
              go_wp2_with (fail)
              refine wp_region_below mixF (by kernel_rfl) ?_
              repeat (go_big_quiet_step (first | (go_at_call 160; with_reducible exact hc1 _) | (go_at_call 69; with_reducible exact hc2 _)))
              refine wpQuiet_nil ?_
              intro wq hw'
              obtain ⟨⟨wq2, hbq⟩, hw2⟩ := hw'
              subst hw2
              clear Xg0 Xg1 Xg2 Xg3 Xc0 Xc1 Xc2 Xc3 hc1 hc2
              have HBV := Lib.hid (HBQ.out.trans (hbq.mono hbr))
              have HNV := Lib.hid (HNQ.out.below hbq)
              have HXV := Lib.hid (HXQ.out.below hbq HXQ.out.lt)
              clear hbq HBQ HNQ HXQ hbr
              obtain ⟨y0, y1, y2, y3, yl⟩ := HG.out wq HBV.out
              go_wp2_with (at_builtin; refine Hid.out ?_)
              refine Lib.hid ?_
              clear y0 y1 y2 y3 yl
              have hba : Below wq.heap.size wq (wq.alloc (.cells #[.int .i64 x.k, .int .i64 x.v, .int .i64 x.n, .slice Bx nx ex] 24)) := (Below.refl _ _).alloc (Nat.le_refl _) _
              have hssb := HNV.out.below hba
              obtain ⟨zs, hrow, hrep⟩ := hssb.row
              have hzz := HBV.out.size
              have hz1 := HNV.out.base
              refine wpList_push_apart elemCond2 rfl (.tmp 54) (.tmp 59) rfl w1.heap.size A' nn c' zs rfl hrow wq.heap.size rfl [.int .i64 x.k, .int .i64 x.v, .int .i64 x.n, .slice Bx nx ex] rfl (new_cells _ _ _) (by intro u hu; simp at hu; rcases hu with rfl | rfl | rfl | rfl <;> rfl) (by omega) (by omega) (by simp only [World.size_alloc]; omega) ?_
              intro A9 c9 w11 hown11 hb11 hg11 hap11
              have hlt0 : ∀ k, (Value.slice A' nn c').ownBlock = some k → w1.heap.size ≤ k := fun k hk => (hrow.lt k hk).1
              have HN11 := Lib.hid (NSt.push (M := [x]) hssb hrep (RepF.one1 ((HRX.out.new.below (HBV.out.trans (hba.mono HBV.out.size))).sub fun k hk => by
                rcases hk with hk | hk
                · exact .inl hk
                · have := hlt0 k hk
                  exact .inr (by have := HW1.out; omega))) rfl hg11 hown11 hap11)
              have HB11 := Lib.hid ((HBV.out.trans (hba.mono HBV.out.size)).grown hg11 (HBV.out.trans (hba.mono HBV.out.size)).size (fun k hk => by have := hlt0 k hk; have := HW1.out; omega))
              have HX11 := Lib.hid ((HXV.out.below hba HXV.out.lt).only (Only.of_grown (S := fun k => (Value.slice A' nn c').ownBlock = some k) hg11 (fun k hk => hk)) (fun hk => by have := hlt0 _ hk; have := HW1.out; omega))
              clear hba hssb hrow hrep hown11 hb11 hg11 hap11 hlt0
              go_wp2_with (fail)
              go_roundw
              case rel => exact ⟨j + 1, nn + 1, true, O ++ [x], A9, c9, hlt, by omega, by go_num, rfl, rfl, HN11.out, HE2.out, HB11.out, HX11.out, fun h => by cases h⟩
              case measure => simp [intOf]; omega
            | false =>
              by_cases hcm0 : cm < 0
              · have HE2 := Lib.hid (show insR kind c false F.toL = (O ++ [c] ++ [x]) ++ insR kind c true (F.toL.drop (j + 1)) by rw [HE.out, HDR.out, HIR.out]; simp [hcm0])
                go_wp2_with (fail)
                refine wp_region_below mixF (by kernel_rfl) ?_
                repeat (go_big_quiet_step (first | (go_at_call 160; with_reducible exact hc1 _) | (go_at_call 69; with_reducible exact hc2 _)))
                refine wpQuiet_nil ?_
                intro wq hw'
                obtain ⟨⟨wq2, hbq⟩, hw2⟩ := hw'
                subst hw2
                clear Xg0 Xg1 Xg2 Xg3 Xc0 Xc1 Xc2 Xc3 hc1 hc2
                have HBV := Lib.hid (HBQ.out.trans (hbq.mono hbr))
                have HNV := Lib.hid (HNQ.out.below hbq)
                have HXV := Lib.hid (HXQ.out.below hbq HXQ.out.lt)
                have hnj := HNN.out (by simp)
                clear hbq HBQ HNQ HXQ hbr
                have y0 := HXV.out.cell 0
                have y1 := HXV.out.cell 1
                have y2 := HXV.out.cell 2
                have y3 := HXV.out.cell 3
                have yl := HXV.out.lt
                go_wp2_with (at_builtin; refine Hid.out ?_)
                refine Lib.hid ?_
                clear y0 y1 y2 y3 yl
                have hba : Below wq.heap.size wq (wq.alloc (.cells #[.int .i64 c.k, .int .i64 c.v, .int .i64 c.n, .slice B n e] 24)) := (Below.refl _ _).alloc (Nat.le_refl _) _
                have hssb := HNV.out.below hba
                obtain ⟨zs, hrow, hrep⟩ := hssb.row
                have hzz := HBV.out.size
                have hz1 := HNV.out.base
                refine wpList_push_apart elemCond2 rfl (.tmp 50) (.tmp 52) rfl w1.heap.size A' nn c' zs rfl hrow wq.heap.size rfl [.int .i64 c.k, .int .i64 c.v, .int .i64 c.n, .slice B n e] rfl (new_cells _ _ _) (by intro u hu; simp at hu; rcases hu with rfl | rfl | rfl | rfl <;> rfl) (by omega) (by omega) (by simp only [World.size_alloc]; omega) ?_
                intro A8 c8 w12 hown11 hb11 hg11 hap11
                have hlt0 : ∀ k, (Value.slice A' nn c').ownBlock = some k → w1.heap.size ≤ k := fun k hk => (hrow.lt k hk).1
                have HN12 := Lib.hid (NSt.push (M := [c]) hssb hrep (RepF.one1 ((HRC.out.new.below (HBV.out.trans (hba.mono HBV.out.size))).sub fun k hk => by
                  rcases hk with hk | hk
                  · exact .inl hk
                  · have := hlt0 k hk
                    exact .inr (by have := HW1.out; omega))) rfl hg11 hown11 hap11)
                have HB12 := Lib.hid ((HBV.out.trans (hba.mono HBV.out.size)).grown hg11 (HBV.out.trans (hba.mono HBV.out.size)).size (fun k hk => by have := hlt0 k hk; have := HW1.out; omega))
                have HX12 := Lib.hid ((HXV.out.below hba HXV.out.lt).only (Only.of_grown (S := fun k => (Value.slice A' nn c').ownBlock = some k) hg11 (fun k hk => hk)) (fun hk => by have := hlt0 _ hk; have := HW1.out; omega))
                clear hba hssb hrow hrep hown11 hb11 hg11 hap11 hlt0
                clear HBV HNV HXV
                have HBV := HB12
                have HNV := HN12
                have HXV := HX12
                obtain ⟨y0, y1, y2, y3, yl⟩ := HG.out w12 HBV.out
                go_wp2_with (at_builtin; refine Hid.out ?_)
                refine Lib.hid ?_
                clear y0 y1 y2 y3 yl
                have hba : Below w12.heap.size w12 (w12.alloc (.cells #[.int .i64 x.k, .int .i64 x.v, .int .i64 x.n, .slice Bx nx ex] 24)) := (Below.refl _ _).alloc (Nat.le_refl _) _
                have hssb := HNV.out.below hba
                obtain ⟨zs, hrow, hrep⟩ := hssb.row
                have hzz := HBV.out.size
                have hz1 := HNV.out.base
                refine wpList_push_apart elemCond2 rfl (.tmp 54) (.tmp 59) rfl w1.heap.size A8 (nn + 1) c8 zs rfl hrow w12.heap.size rfl [.int .i64 x.k, .int .i64 x.v, .int .i64 x.n, .slice Bx nx ex] rfl (new_cells _ _ _) (by intro u hu; simp at hu; rcases hu with rfl | rfl | rfl | rfl <;> rfl) (by omega) (by omega) (by simp only [World.size_alloc]; omega) ?_
                intro A9 c9 w11 hown11 hb11 hg11 hap11
                have hlt0 : ∀ k, (Value.slice A8 (nn + 1) c8).ownBlock = some k → w1.heap.size ≤ k := fun k hk => (hrow.lt k hk).1
                have HN11 := Lib.hid (NSt.push (M := [x]) hssb hrep (RepF.one1 ((HRX.out.new.below (HBV.out.trans (hba.mono HBV.out.size))).sub fun k hk => by
                  rcases hk with hk | hk
                  · exact .inl hk
                  · have := hlt0 k hk
                    exact .inr (by have := HW1.out; omega))) rfl hg11 hown11 hap11)
                have HB11 := Lib.hid ((HBV.out.trans (hba.mono HBV.out.size)).grown hg11 (HBV.out.trans (hba.mono HBV.out.size)).size (fun k hk => by have := hlt0 k hk; have := HW1.out; omega))
                have HX11 := Lib.hid ((HXV.out.below hba HXV.out.lt).only (Only.of_grown (S := fun k => (Value.slice A8 (nn + 1) c8).ownBlock = some k) hg11 (fun k hk => hk)) (fun hk => by have := hlt0 _ hk; have := HW1.out; omega))
                clear hba hssb hrow hrep hown11 hb11 hg11 hap11 hlt0
                go_wp2_with (fail)
                go_roundw
                case rel => exact ⟨j + 1, nn + 1 + 1, true, O ++ [c] ++ [x], A9, c9, hlt, by omega, by go_num, rfl, rfl, HN11.out, HE2.out, HB11.out, HX11.out, fun h => by cases h⟩
                case measure => simp [intOf]; omega
              · have HE2 := Lib.hid (show insR kind c false F.toL = (O ++ [x]) ++ insR kind c false (F.toL.drop (j + 1)) by rw [HE.out, HDR.out, HIR.out]; simp [hcm0])
                go_wp2_with (fail)
                refine wp_region_below mixF (by kernel_rfl) ?_
                repeat (go_big_quiet_step (first | (go_at_call 160; with_reducible exact hc1 _) | (go_at_call 69; with_reducible exact hc2 _)))
                refine wpQuiet_nil ?_
                intro wq hw'
                obtain ⟨⟨wq2, hbq⟩, hw2⟩ := hw'
                subst hw2
                clear Xg0 Xg1 Xg2 Xg3 Xc0 Xc1 Xc2 Xc3 hc1 hc2
                have HBV := Lib.hid (HBQ.out.trans (hbq.mono hbr))
                have HNV := Lib.hid (HNQ.out.below hbq)
                have HXV := Lib.hid (HXQ.out.below hbq HXQ.out.lt)
                have HNM := Lib.hid (show false = false → nn + 1 ≤ j + 1 from fun _ => Nat.succ_le_succ (HNN.out (by simp)))
                clear hbq HBQ HNQ HXQ hbr
                obtain ⟨y0, y1, y2, y3, yl⟩ := HG.out wq HBV.out
                go_wp2_with (at_builtin; refine Hid.out ?_)
                refine Lib.hid ?_
                clear y0 y1 y2 y3 yl
                have hba : Below wq.heap.size wq (wq.alloc (.cells #[.int .i64 x.k, .int .i64 x.v, .int .i64 x.n, .slice Bx nx ex] 24)) := (Below.refl _ _).alloc (Nat.le_refl _) _
                have hssb := HNV.out.below hba
                obtain ⟨zs, hrow, hrep⟩ := hssb.row
                have hzz := HBV.out.size
                have hz1 := HNV.out.base
                refine wpList_push_apart elemCond2 rfl (.tmp 54) (.tmp 59) rfl w1.heap.size A' nn c' zs rfl hrow wq.heap.size rfl [.int .i64 x.k, .int .i64 x.v, .int .i64 x.n, .slice Bx nx ex] rfl (new_cells _ _ _) (by intro u hu; simp at hu; rcases hu with rfl | rfl | rfl | rfl <;> rfl) (by omega) (by omega) (by simp only [World.size_alloc]; omega) ?_
                intro A9 c9 w11 hown11 hb11 hg11 hap11
                have hlt0 : ∀ k, (Value.slice A' nn c').ownBlock = some k → w1.heap.size ≤ k := fun k hk => (hrow.lt k hk).1
                have HN11 := Lib.hid (NSt.push (M := [x]) hssb hrep (RepF.one1 ((HRX.out.new.below (HBV.out.trans (hba.mono HBV.out.size))).sub fun k hk => by
                  rcases hk with hk | hk
                  · exact .inl hk
                  · have := hlt0 k hk
                    exact .inr (by have := HW1.out; omega))) rfl hg11 hown11 hap11)
                have HB11 := Lib.hid ((HBV.out.trans (hba.mono HBV.out.size)).grown hg11 (HBV.out.trans (hba.mono HBV.out.size)).size (fun k hk => by have := hlt0 k hk; have := HW1.out; omega))
                have HX11 := Lib.hid ((HXV.out.below hba HXV.out.lt).only (Only.of_grown (S := fun k => (Value.slice A' nn c').ownBlock = some k) hg11 (fun k hk => hk)) (fun hk => by have := hlt0 _ hk; have := HW1.out; omega))
                clear hba hssb hrow hrep hown11 hb11 hg11 hap11 hlt0
                go_wp2_with (fail)
                go_roundw
                case rel => exact ⟨j + 1, nn + 1, false, O ++ [x], A9, c9, hlt, by omega, by go_num, rfl, rfl, HN11.out, HE2.out, HB11.out, HX11.out, Lib.hid (fun _ => HNM.out (by simp))⟩
                case measure => simp [intOf]; omega
        · obtain rfl : j = i := by omega
          have hjj : ¬ (j : Int) < (j : Int) := by omega
          have HEE := Lib.hid (show insC kind F.toL c = O ++ if dn then [] else [c] by
            rw [HIN.out, HE.out, List.drop_eq_nil_of_le (by have := HL.out; omega), insR])
          have HSW := Lib.hid (show ∀ k, S k → k < w1.heap.size from fun k hk => Nat.lt_trans (HS.out k hk) HW1.out)
          cases dn with
          | true =>
            have HRT := Lib.hid (HN.out.rep HSW.out)
            go_wp2_with (fail)
            go_ret
            exact ⟨HBr.out, _, _, _, rfl, by rw [HEE.out]; simpa using HRT.out⟩
          | false =>
            have HBV := HBr
            have HNV := HN
            have HXV := HXr
            obtain ⟨V, rfl⟩ : ∃ V, V = wr := ⟨_, rfl⟩
            have y0 := HXV.out.cell 0
            have y1 := HXV.out.cell 1
            have y2 := HXV.out.cell 2
            have y3 := HXV.out.cell 3
            have yl := HXV.out.lt
            go_wp2_with (at_builtin; refine Hid.out ?_)
            refine Lib.hid ?_
            clear y0 y1 y2 y3 yl
            have hba : Below V.heap.size V (V.alloc (.cells #[.int .i64 c.k, .int .i64 c.v, .int .i64 c.n, .slice B n e] 24)) := (Below.refl _ _).alloc (Nat.le_refl _) _
            have hssb := HNV.out.below hba
            obtain ⟨zs, hrow, hrep⟩ := hssb.row
            have hzz := HBV.out.size
            have hz1 := HNV.out.base
            refine wpList_push_apart elemCond2 rfl (.tmp 63) (.tmp 65) rfl w1.heap.size A' nn c' zs rfl hrow V.heap.size rfl [.int .i64 c.k, .int .i64 c.v, .int .i64 c.n, .slice B n e] rfl (new_cells _ _ _) (by intro u hu; simp at hu; rcases hu with rfl | rfl | rfl | rfl <;> rfl) (by omega) (by omega) (by simp only [World.size_alloc]; omega) ?_
            intro A9 c9 w11 hown11 hb11 hg11 hap11
            have hlt0 : ∀ k, (Value.slice A' nn c').ownBlock = some k → w1.heap.size ≤ k := fun k hk => (hrow.lt k hk).1
            have HN11 := Lib.hid (NSt.push (M := [c]) hssb hrep (RepF.one1 ((HRC.out.new.below (HBV.out.trans (hba.mono HBV.out.size))).sub fun k hk => by
              rcases hk with hk | hk
              · exact .inl hk
              · have := hlt0 k hk
                exact .inr (by have := HW1.out; omega))) rfl hg11 hown11 hap11)
            have HB11 := Lib.hid ((HBV.out.trans (hba.mono HBV.out.size)).grown hg11 (HBV.out.trans (hba.mono HBV.out.size)).size (fun k hk => by have := hlt0 k hk; have := HW1.out; omega))
            have HX11 := Lib.hid ((HXV.out.below hba HXV.out.lt).only (Only.of_grown (S := fun k => (Value.slice A' nn c').ownBlock = some k) hg11 (fun k hk => hk)) (fun hk => by have := hlt0 _ hk; have := HW1.out; omega))
            clear hba hssb hrow hrep hown11 hb11 hg11 hap11 hlt0
            have HRT := Lib.hid (HN11.out.rep HSW.out)
            go_wp2_with (fail)
            go_ret
            exact ⟨HB11.out, _, _, _, rfl, by rw [HEE.out]; exact HRT.out⟩
end Go.Proofs.YticpjdjdimpglaaGreatDoor

/- The reference's order and Compare by their contracts. -/
import Derived.Test.YticpjdjdimpglaaGreatDoorCTisMCmp2
import Derived.Deep.RegionHeld3
namespace Go.Proofs.YticpjdjdimpglaaGreatDoor
set_option linter.unusedVariables false
set_option linter.unusedSimpArgs false
open Go.RowKit
theorem rorder_any (x y : Int) (w : World) : Calls Tryz.prog 118 #[.int .i64 x, .int .i64 y] w fun e w' => e = .returned (.int .i64 (cord x y)) ∧ w = w' := by
  unfold cord
  by_cases h1 : x < y
  · rw [if_pos h1]
    go_enter Tryz.func118, Tryz.ntmps118
    go_wp2_with (fail)
    go_ret
    exact ⟨rfl, rfl⟩
  · rw [if_neg h1]
    by_cases h2 : y < x
    · rw [if_pos h2]
      go_enter Tryz.func118, Tryz.ntmps118
      go_wp2_with (fail)
      go_ret
      exact ⟨rfl, rfl⟩
    · rw [if_neg h2]
      go_enter Tryz.func118, Tryz.ntmps118
      go_wp2_with (fail)
      go_ret
      exact ⟨rfl, rfl⟩
theorem cmpL_take : ∀ (l m : List CT), cmpL l m = if l = [] ∨ m = [] then cord l.length m.length else cmpL l m
  | [], [] => rfl
  | [], b :: m => by
    rw [if_pos (.inl rfl)]
    unfold cmpL cord
    rw [if_pos (by simp only [List.length_nil, List.length_cons]; omega)]
  | a :: l, [] => by
    rw [if_pos (.inr rfl)]
    unfold cmpL cord
    rw [if_neg (by simp only [List.length_nil, List.length_cons]; omega), if_pos (by simp only [List.length_nil, List.length_cons]; omega)]
  | a :: l, b :: m => by rw [if_neg (by simp)]
def RCMP (N : Nat) : Prop := ∀ (S S' : Nat → Prop) (a b : CT) (A : Option Addr) (m d : Nat) (B : Option Addr) (n e : Nat) (w : World), a.ps.cnt < N → RepH S w a.ps A m d → RepH S' w b.ps B n e →
  Calls Tryz.prog 69 #[cV a A m d, cV b B n e] w fun e w' => e = .returned (.int .i64 (a.cmp b)) ∧ Below w.heap.size w w'
set_option maxHeartbeats 8000000 in
set_option maxRecDepth 100000 in
theorem rcmp_of (N : Nat) (ih : RCMP N) : RCMP (N + 1) := by
  intro S S' a b A m d B n e w hN h1 h2
  have HI := Lib.hid ih
  have HR1 := Lib.hid h1
  have HR2 := Lib.hid h2
  have HL1 := Lib.hid (h1.len.trans (toL_len a.ps).symm)
  have HL2 := Lib.hid (h2.len.trans (toL_len b.ps).symm)
  have HN := Lib.hid hN
  have HE := Lib.hid (ct_cmp a b)
  have HP := Lib.hid (cmp_L a.ps b.ps)
  generalize a.cmp b = r at HE ⊢
  have hb1 : m ≤ 9223372036854775807 := by obtain ⟨x1, hr1, -, -⟩ := h1; have := hr1.cap; have := hr1.big; omega
  have hb2 : n ≤ 9223372036854775807 := by obtain ⟨x1, hr1, -, -⟩ := h2; have := hr1.cap; have := hr1.big; omega
  clear ih h1 h2 hN
  obtain ⟨k, v, q, ps⟩ := a
  obtain ⟨k', v', q', ps'⟩ := b
  unfold cV
  dsimp only [vi] at HE HR1 HR2 HL1 HL2 HN HP ⊢
  have c1 := Lib.hid (fun W => rorder_any k k' W)
  have c2 := Lib.hid (fun W => rorder_any v v' W)
  have c3 := Lib.hid (fun W => rorder_any q q' W)
  generalize cord k k' = o1 at c1 HE
  generalize cord v v' = o2 at c2 HE
  generalize cord q q' = o3 at c3 HE
  generalize ps.cmp ps' = rp at HP HE
  go_enter Tryz.func69, Tryz.ntmps69
  by_cases z1 : o1 = 0
  · have y1 : (o1 == 0) = true := by rw [z1]; rfl
    have HE1 := Lib.hid (HE.out.trans (if_neg (Classical.not_not.2 z1)))
    clear z1 HE
    by_cases z2 : o2 = 0
    · have y2 : (o2 == 0) = true := by rw [z2]; rfl
      have HEE := Lib.hid (show r = if o3 = 0 then rp else o3 by
        rw [HE1.out, if_neg (Classical.not_not.2 z2)]
        by_cases h : o3 = 0
        · rw [if_neg (Classical.not_not.2 h), if_pos h]
        · rw [if_pos h, if_neg h])
      clear z2 HE1
      go_wp2_with (go_at_call 118; (first | (with_reducible refine (c1.out _).mono ?_) | (with_reducible refine (c2.out _).mono ?_) | (with_reducible refine (c3.out _).mono ?_)); rintro e' w' ⟨rfl, rfl⟩)
      obtain ⟨o, ho⟩ : ∃ o, o = o3 := ⟨_, rfl⟩
      rw [← ho] at HEE ⊢
      clear ho y1 y2
      have hb0 : Below w.heap.size w ((w.alloc (.cells #[.int .i64 k, .int .i64 v, .int .i64 q, .slice A m d] 24)).alloc (.cells #[.int .i64 k', .int .i64 v', .int .i64 q', .slice B n e] 24)) := ((Below.refl _ _).alloc (Nat.le_refl _) _).alloc (by simp) _
      have hx0 : Blk ((w.alloc (.cells #[.int .i64 k, .int .i64 v, .int .i64 q, .slice A m d] 24)).alloc (.cells #[.int .i64 k', .int .i64 v', .int .i64 q', .slice B n e] 24)) w.heap.size 24 #[.int .i64 k, .int .i64 v, .int .i64 q, .slice A m d] := (Blk.new w _ _).alloc _
      have hy0 : Blk ((w.alloc (.cells #[.int .i64 k, .int .i64 v, .int .i64 q, .slice A m d] 24)).alloc (.cells #[.int .i64 k', .int .i64 v', .int .i64 q', .slice B n e] 24)) (w.heap.size + 1) 24 #[.int .i64 k', .int .i64 v', .int .i64 q', .slice B n e] := by
        rw [← World.size_alloc w]
        exact Blk.new _ _ _
      generalize ((w.alloc (.cells #[.int .i64 k, .int .i64 v, .int .i64 q, .slice A m d] 24)).alloc (.cells #[.int .i64 k', .int .i64 v', .int .i64 q', .slice B n e] 24)) = W1 at hb0 hx0 hy0 ⊢
      have HB1 := Lib.hid hb0
      have HX1 := Lib.hid hx0
      have HY1 := Lib.hid hy0
      clear hb0 hx0 hy0
      have HEP := Lib.hid (show r = if o = 0 then cmpL (ps.toL.drop 0) (ps'.toL.drop 0) else o by rw [HEE.out, HP.out]; rfl)
      clear HEE
      go_loopw [5, 6] (fun ov iv wr => ∃ (o : Int) (i : Nat), i ≤ m ∧ i ≤ n ∧ iv = .int .i64 i ∧ ov = .int .i64 o ∧ Hid (r = if o = 0 then cmpL (ps.toL.drop i) (ps'.toL.drop i) else o) ∧ Hid (Below W1.heap.size W1 wr)) (fun _ iv _ => m - (intOf iv).toNat)
      case atStart => exact ⟨o, 0, Nat.zero_le _, Nat.zero_le _, rfl, rfl, HEP.out, Below.refl _ _⟩
      case round =>
        clear HEP
        obtain ⟨o, i, him, hin, rfl, rfl, HEI, HBr⟩ := hrel
        have HBw := Lib.hid (HB1.out.trans (HBr.out.mono HB1.out.size))
        have HXr := Lib.hid (HX1.out.below HBr.out HX1.out.lt)
        have HYr := Lib.hid (HY1.out.below HBr.out HY1.out.lt)
        have x3 := HXr.out.cell 3
        have y3 := HYr.out.cell 3
        have xl := HXr.out.lt
        have yl := HYr.out.lt
        by_cases ho : o = 0
        · have HEJ := Lib.hid (HEI.out.trans (if_pos ho))
          have yo : (o == 0) = true := by rw [ho]; rfl
          clear ho HEI
          by_cases hlt : i < m
          · by_cases hln : i < n
            · obtain ⟨b, off, x, Bx, nx, ex, rfl, hb, hS, hx, h0, h1, h2, h3, hr⟩ := HR1.out.elem hlt
              obtain ⟨b', off', y, By, ny, ey, rfl, hb', hS', hy, g0, g1, g2, g3, hr'⟩ := HR2.out.elem hln
              rw [← HBw.out.cell (p := ⟨b, _, none⟩) hb] at h0 h1 h2 h3
              rw [← HBw.out.cell (p := ⟨b', _, none⟩) hb'] at g0 g1 g2 g3
              have HC := Lib.hid (fun W (hW : Below w.heap.size w W) => HI.out S S' x y Bx nx ex By ny ey W (by
                have h1 := cntL_memC (show x ∈ ps.toL by obtain ⟨k1, k2⟩ := List.getElem?_eq_some_iff.1 hx; rw [← k2]; exact List.getElem_mem k1)
                have := HN.out
                omega) (hr.below hW) (hr'.below hW))
              have HEK := Lib.hid (show r = if x.cmp y ≠ 0 then x.cmp y else cmpL (ps.toL.drop (i + 1)) (ps'.toL.drop (i + 1)) by
                obtain ⟨k1, k2⟩ := List.getElem?_eq_some_iff.1 hx
                obtain ⟨k3, k4⟩ := List.getElem?_eq_some_iff.1 hy
                rw [HEJ.out, List.drop_eq_getElem_cons k1, List.drop_eq_getElem_cons k3, k2, k4]
                rfl)
              clear hx hy hr hr' hS hS' HEJ
              have i1 : (i : Int) < (m : Int) := by omega
              have i2 : (i : Int) < (n : Int) := by omega
              have hzw := HBw.out.size
              have hbl : b < wr.heap.size := by omega
              have hbl' : b' < wr.heap.size := by omega
              have hbd := Lib.hid (show Below w.heap.size w wr.drew from HBw.out.drew)
              generalize x.cmp y = rr at HC HEK
              unfold cV at HC
              dsimp only [vi] at HC
              go_wp2_with (fail)
              have hbw := Lib.hid (show Below wr.heap.size wr wr.drew from ⟨rfl, rfl, rfl, Nat.le_refl _, fun _ _ => rfl⟩)
              go_region_held3 (fun w' => w'.cell? ⟨w.heap.size, 3, none⟩ = some (.slice (some ⟨b, off, none⟩) m d) ∧ w'.cell? ⟨w.heap.size + 1, 3, none⟩ = some (.slice (some ⟨b', off', none⟩) n e) ∧ w'.cell? ⟨b, off + i * 4, none⟩ = some (.int .i64 x.k) ∧ w'.cell? ⟨b, off + i * 4 + 1, none⟩ = some (.int .i64 x.v) ∧ w'.cell? ⟨b, off + i * 4 + 2, none⟩ = some (.int .i64 x.n) ∧ w'.cell? ⟨b, off + i * 4 + 3, none⟩ = some (.slice Bx nx ex) ∧ w'.cell? ⟨b', off' + i * 4, none⟩ = some (.int .i64 y.k) ∧ w'.cell? ⟨b', off' + i * 4 + 1, none⟩ = some (.int .i64 y.v) ∧ w'.cell? ⟨b', off' + i * 4 + 2, none⟩ = some (.int .i64 y.n) ∧ w'.cell? ⟨b', off' + i * 4 + 3, none⟩ = some (.slice By ny ey) ∧ Hid (Below wr.heap.size wr w'))
                (first
                  | (exact ⟨x3, y3, h0, h1, h2, h3, g0, g1, g2, g3, hbw⟩)
                  | (exact ⟨zx3, zy3, zh0, zh1, zh2, zh3, zg0, zg1, zg2, zg3, zb⟩))
                ((first
                  | (go_at_call 69
                     with_reducible refine (HC.out _ hbd.out).mono ?_
                     rintro e' wn ⟨rfl, hbn'⟩
                     have hbn : Below wr.heap.size wr wn := hbw.out.trans hbn'
                     have zx3 := (hbn.cell (p := ⟨w.heap.size, 3, none⟩) xl).trans x3
                     have zy3 := (hbn.cell (p := ⟨w.heap.size + 1, 3, none⟩) yl).trans y3
                     have zh0 := (hbn.cell (p := ⟨b, off + i * 4, none⟩) hbl).trans h0
                     have zh1 := (hbn.cell (p := ⟨b, off + i * 4 + 1, none⟩) hbl).trans h1
                     have zh2 := (hbn.cell (p := ⟨b, off + i * 4 + 2, none⟩) hbl).trans h2
                     have zh3 := (hbn.cell (p := ⟨b, off + i * 4 + 3, none⟩) hbl).trans h3
                     have zg0 := (hbn.cell (p := ⟨b', off' + i * 4, none⟩) hbl').trans g0
                     have zg1 := (hbn.cell (p := ⟨b', off' + i * 4 + 1, none⟩) hbl').trans g1
                     have zg2 := (hbn.cell (p := ⟨b', off' + i * 4 + 2, none⟩) hbl').trans g2
                     have zg3 := (hbn.cell (p := ⟨b', off' + i * 4 + 3, none⟩) hbl').trans g3
                     have zb := Lib.hid hbn
                     clear hbn hbn')))
              all_goals
                have HBn := Lib.hid (HBr.out.trans (zb.out.mono HBr.out.size))
                clear x3 y3 h0 h1 h2 h3 g0 g1 g2 g3 zx3 zy3 zh0 zh1 zh2 zh3 zg0 zg1 zg2 zg3
                go_wp2_with (fail)
                go_roundw
                case rel => exact ⟨rr, i + 1, hlt, hln, by go_num, rfl, by
                  refine Lib.hid ?_
                  rw [HEK.out]
                  by_cases h : rr = 0
                  · rw [if_neg (Classical.not_not.2 h), if_pos h]
                  · rw [if_pos h, if_neg h], HBn.out⟩
                case measure => simp [intOf]; omega
            · obtain rfl : i = n := by omega
              have HEK := Lib.hid (show r = cord (m : Int) (i : Int) by
                rw [HEJ.out, cmpL_take, if_pos (.inr (List.drop_eq_nil_of_le (by rw [← HL2.out]; omega))), List.length_drop, List.length_drop, ← HL1.out, ← HL2.out]
                unfold cord
                split <;> (try split) <;> (try split) <;> (try split) <;> omega)
              have c4 := Lib.hid (fun W => rorder_any (m : Int) (i : Int) W)
              generalize cord (m : Int) (i : Int) = oo at HEK c4
              have i1 : (i : Int) < (m : Int) := by omega
              have i2 : ¬ (i : Int) < (i : Int) := by omega
              clear HEJ
              go_wp2_with (go_at_call 118; (with_reducible refine (c4.out _).mono ?_); rintro e' w' ⟨rfl, rfl⟩)
              go_ret
              exact ⟨ret_int HEK.out.symm, HBw.out⟩
          · obtain rfl : i = m := by omega
            have HEK := Lib.hid (show r = cord (i : Int) (n : Int) by
              rw [HEJ.out, cmpL_take, if_pos (.inl (List.drop_eq_nil_of_le (by rw [← HL1.out]; omega))), List.length_drop, List.length_drop, ← HL1.out, ← HL2.out]
              unfold cord
              split <;> (try split) <;> (try split) <;> (try split) <;> omega)
            have c4 := Lib.hid (fun W => rorder_any (i : Int) (n : Int) W)
            generalize cord (i : Int) (n : Int) = oo at HEK c4
            have i1 : ¬ (i : Int) < (i : Int) := by omega
            clear HEJ
            go_wp2_with (go_at_call 118; (with_reducible refine (c4.out _).mono ?_); rintro e' w' ⟨rfl, rfl⟩)
            go_ret
            exact ⟨ret_int HEK.out.symm, HBw.out⟩
        · have HEK := Lib.hid (HEI.out.trans (if_neg ho))
          have yo : (o == 0) = false := by simpa using ho
          clear ho HEI
          go_wp2_with (fail)
          go_ret
          exact ⟨ret_int HEK.out.symm, HBw.out⟩
    · have y2 : (o2 == 0) = false := by simpa using z2
      have HEE := Lib.hid (show r = if o2 = 0 then rp else o2 by
        rw [HE1.out, if_pos z2, if_neg z2])
      clear z2 HE1
      go_wp2_with (go_at_call 118; (first | (with_reducible refine (c1.out _).mono ?_) | (with_reducible refine (c2.out _).mono ?_) | (with_reducible refine (c3.out _).mono ?_)); rintro e' w' ⟨rfl, rfl⟩)
      obtain ⟨o, ho⟩ : ∃ o, o = o2 := ⟨_, rfl⟩
      rw [← ho] at HEE ⊢
      clear ho y1 y2
      have hb0 : Below w.heap.size w ((w.alloc (.cells #[.int .i64 k, .int .i64 v, .int .i64 q, .slice A m d] 24)).alloc (.cells #[.int .i64 k', .int .i64 v', .int .i64 q', .slice B n e] 24)) := ((Below.refl _ _).alloc (Nat.le_refl _) _).alloc (by simp) _
      have hx0 : Blk ((w.alloc (.cells #[.int .i64 k, .int .i64 v, .int .i64 q, .slice A m d] 24)).alloc (.cells #[.int .i64 k', .int .i64 v', .int .i64 q', .slice B n e] 24)) w.heap.size 24 #[.int .i64 k, .int .i64 v, .int .i64 q, .slice A m d] := (Blk.new w _ _).alloc _
      have hy0 : Blk ((w.alloc (.cells #[.int .i64 k, .int .i64 v, .int .i64 q, .slice A m d] 24)).alloc (.cells #[.int .i64 k', .int .i64 v', .int .i64 q', .slice B n e] 24)) (w.heap.size + 1) 24 #[.int .i64 k', .int .i64 v', .int .i64 q', .slice B n e] := by
        rw [← World.size_alloc w]
        exact Blk.new _ _ _
      generalize ((w.alloc (.cells #[.int .i64 k, .int .i64 v, .int .i64 q, .slice A m d] 24)).alloc (.cells #[.int .i64 k', .int .i64 v', .int .i64 q', .slice B n e] 24)) = W1 at hb0 hx0 hy0 ⊢
      have HB1 := Lib.hid hb0
      have HX1 := Lib.hid hx0
      have HY1 := Lib.hid hy0
      clear hb0 hx0 hy0
      have HEP := Lib.hid (show r = if o = 0 then cmpL (ps.toL.drop 0) (ps'.toL.drop 0) else o by rw [HEE.out, HP.out]; rfl)
      clear HEE
      go_loopw [5, 6] (fun ov iv wr => ∃ (o : Int) (i : Nat), i ≤ m ∧ i ≤ n ∧ iv = .int .i64 i ∧ ov = .int .i64 o ∧ Hid (r = if o = 0 then cmpL (ps.toL.drop i) (ps'.toL.drop i) else o) ∧ Hid (Below W1.heap.size W1 wr)) (fun _ iv _ => m - (intOf iv).toNat)
      case atStart => exact ⟨o, 0, Nat.zero_le _, Nat.zero_le _, rfl, rfl, HEP.out, Below.refl _ _⟩
      case round =>
        clear HEP
        obtain ⟨o, i, him, hin, rfl, rfl, HEI, HBr⟩ := hrel
        have HBw := Lib.hid (HB1.out.trans (HBr.out.mono HB1.out.size))
        have HXr := Lib.hid (HX1.out.below HBr.out HX1.out.lt)
        have HYr := Lib.hid (HY1.out.below HBr.out HY1.out.lt)
        have x3 := HXr.out.cell 3
        have y3 := HYr.out.cell 3
        have xl := HXr.out.lt
        have yl := HYr.out.lt
        by_cases ho : o = 0
        · have HEJ := Lib.hid (HEI.out.trans (if_pos ho))
          have yo : (o == 0) = true := by rw [ho]; rfl
          clear ho HEI
          by_cases hlt : i < m
          · by_cases hln : i < n
            · obtain ⟨b, off, x, Bx, nx, ex, rfl, hb, hS, hx, h0, h1, h2, h3, hr⟩ := HR1.out.elem hlt
              obtain ⟨b', off', y, By, ny, ey, rfl, hb', hS', hy, g0, g1, g2, g3, hr'⟩ := HR2.out.elem hln
              rw [← HBw.out.cell (p := ⟨b, _, none⟩) hb] at h0 h1 h2 h3
              rw [← HBw.out.cell (p := ⟨b', _, none⟩) hb'] at g0 g1 g2 g3
              have HC := Lib.hid (fun W (hW : Below w.heap.size w W) => HI.out S S' x y Bx nx ex By ny ey W (by
                have h1 := cntL_memC (show x ∈ ps.toL by obtain ⟨k1, k2⟩ := List.getElem?_eq_some_iff.1 hx; rw [← k2]; exact List.getElem_mem k1)
                have := HN.out
                omega) (hr.below hW) (hr'.below hW))
              have HEK := Lib.hid (show r = if x.cmp y ≠ 0 then x.cmp y else cmpL (ps.toL.drop (i + 1)) (ps'.toL.drop (i + 1)) by
                obtain ⟨k1, k2⟩ := List.getElem?_eq_some_iff.1 hx
                obtain ⟨k3, k4⟩ := List.getElem?_eq_some_iff.1 hy
                rw [HEJ.out, List.drop_eq_getElem_cons k1, List.drop_eq_getElem_cons k3, k2, k4]
                rfl)
              clear hx hy hr hr' hS hS' HEJ
              have i1 : (i : Int) < (m : Int) := by omega
              have i2 : (i : Int) < (n : Int) := by omega
              have hzw := HBw.out.size
              have hbl : b < wr.heap.size := by omega
              have hbl' : b' < wr.heap.size := by omega
              have hbd := Lib.hid (show Below w.heap.size w wr.drew from HBw.out.drew)
              generalize x.cmp y = rr at HC HEK
              unfold cV at HC
              dsimp only [vi] at HC
              go_wp2_with (fail)
              have hbw := Lib.hid (show Below wr.heap.size wr wr.drew from ⟨rfl, rfl, rfl, Nat.le_refl _, fun _ _ => rfl⟩)
              go_region_held3 (fun w' => w'.cell? ⟨w.heap.size, 3, none⟩ = some (.slice (some ⟨b, off, none⟩) m d) ∧ w'.cell? ⟨w.heap.size + 1, 3, none⟩ = some (.slice (some ⟨b', off', none⟩) n e) ∧ w'.cell? ⟨b, off + i * 4, none⟩ = some (.int .i64 x.k) ∧ w'.cell? ⟨b, off + i * 4 + 1, none⟩ = some (.int .i64 x.v) ∧ w'.cell? ⟨b, off + i * 4 + 2, none⟩ = some (.int .i64 x.n) ∧ w'.cell? ⟨b, off + i * 4 + 3, none⟩ = some (.slice Bx nx ex) ∧ w'.cell? ⟨b', off' + i * 4, none⟩ = some (.int .i64 y.k) ∧ w'.cell? ⟨b', off' + i * 4 + 1, none⟩ = some (.int .i64 y.v) ∧ w'.cell? ⟨b', off' + i * 4 + 2, none⟩ = some (.int .i64 y.n) ∧ w'.cell? ⟨b', off' + i * 4 + 3, none⟩ = some (.slice By ny ey) ∧ Hid (Below wr.heap.size wr w'))
                (first
                  | (exact ⟨x3, y3, h0, h1, h2, h3, g0, g1, g2, g3, hbw⟩)
                  | (exact ⟨zx3, zy3, zh0, zh1, zh2, zh3, zg0, zg1, zg2, zg3, zb⟩))
                ((first
                  | (go_at_call 69
                     with_reducible refine (HC.out _ hbd.out).mono ?_
                     rintro e' wn ⟨rfl, hbn'⟩
                     have hbn : Below wr.heap.size wr wn := hbw.out.trans hbn'
                     have zx3 := (hbn.cell (p := ⟨w.heap.size, 3, none⟩) xl).trans x3
                     have zy3 := (hbn.cell (p := ⟨w.heap.size + 1, 3, none⟩) yl).trans y3
                     have zh0 := (hbn.cell (p := ⟨b, off + i * 4, none⟩) hbl).trans h0
                     have zh1 := (hbn.cell (p := ⟨b, off + i * 4 + 1, none⟩) hbl).trans h1
                     have zh2 := (hbn.cell (p := ⟨b, off + i * 4 + 2, none⟩) hbl).trans h2
                     have zh3 := (hbn.cell (p := ⟨b, off + i * 4 + 3, none⟩) hbl).trans h3
                     have zg0 := (hbn.cell (p := ⟨b', off' + i * 4, none⟩) hbl').trans g0
                     have zg1 := (hbn.cell (p := ⟨b', off' + i * 4 + 1, none⟩) hbl').trans g1
                     have zg2 := (hbn.cell (p := ⟨b', off' + i * 4 + 2, none⟩) hbl').trans g2
                     have zg3 := (hbn.cell (p := ⟨b', off' + i * 4 + 3, none⟩) hbl').trans g3
                     have zb := Lib.hid hbn
                     clear hbn hbn')))
              all_goals
                have HBn := Lib.hid (HBr.out.trans (zb.out.mono HBr.out.size))
                clear x3 y3 h0 h1 h2 h3 g0 g1 g2 g3 zx3 zy3 zh0 zh1 zh2 zh3 zg0 zg1 zg2 zg3
                go_wp2_with (fail)
                go_roundw
                case rel => exact ⟨rr, i + 1, hlt, hln, by go_num, rfl, by
                  refine Lib.hid ?_
                  rw [HEK.out]
                  by_cases h : rr = 0
                  · rw [if_neg (Classical.not_not.2 h), if_pos h]
                  · rw [if_pos h, if_neg h], HBn.out⟩
                case measure => simp [intOf]; omega
            · obtain rfl : i = n := by omega
              have HEK := Lib.hid (show r = cord (m : Int) (i : Int) by
                rw [HEJ.out, cmpL_take, if_pos (.inr (List.drop_eq_nil_of_le (by rw [← HL2.out]; omega))), List.length_drop, List.length_drop, ← HL1.out, ← HL2.out]
                unfold cord
                split <;> (try split) <;> (try split) <;> (try split) <;> omega)
              have c4 := Lib.hid (fun W => rorder_any (m : Int) (i : Int) W)
              generalize cord (m : Int) (i : Int) = oo at HEK c4
              have i1 : (i : Int) < (m : Int) := by omega
              have i2 : ¬ (i : Int) < (i : Int) := by omega
              clear HEJ
              go_wp2_with (go_at_call 118; (with_reducible refine (c4.out _).mono ?_); rintro e' w' ⟨rfl, rfl⟩)
              go_ret
              exact ⟨ret_int HEK.out.symm, HBw.out⟩
          · obtain rfl : i = m := by omega
            have HEK := Lib.hid (show r = cord (i : Int) (n : Int) by
              rw [HEJ.out, cmpL_take, if_pos (.inl (List.drop_eq_nil_of_le (by rw [← HL1.out]; omega))), List.length_drop, List.length_drop, ← HL1.out, ← HL2.out]
              unfold cord
              split <;> (try split) <;> (try split) <;> (try split) <;> omega)
            have c4 := Lib.hid (fun W => rorder_any (i : Int) (n : Int) W)
            generalize cord (i : Int) (n : Int) = oo at HEK c4
            have i1 : ¬ (i : Int) < (i : Int) := by omega
            clear HEJ
            go_wp2_with (go_at_call 118; (with_reducible refine (c4.out _).mono ?_); rintro e' w' ⟨rfl, rfl⟩)
            go_ret
            exact ⟨ret_int HEK.out.symm, HBw.out⟩
        · have HEK := Lib.hid (HEI.out.trans (if_neg ho))
          have yo : (o == 0) = false := by simpa using ho
          clear ho HEI
          go_wp2_with (fail)
          go_ret
          exact ⟨ret_int HEK.out.symm, HBw.out⟩
  · have y1 : (o1 == 0) = false := by simpa using z1
    have HEE := Lib.hid (show r = if o1 = 0 then rp else o1 by
      rw [HE.out, if_pos z1, if_neg z1])
    clear z1 HE
    go_wp2_with (go_at_call 118; (first | (with_reducible refine (c1.out _).mono ?_) | (with_reducible refine (c2.out _).mono ?_) | (with_reducible refine (c3.out _).mono ?_)); rintro e' w' ⟨rfl, rfl⟩)
    obtain ⟨o, ho⟩ : ∃ o, o = o1 := ⟨_, rfl⟩
    rw [← ho] at HEE ⊢
    clear ho y1
    have hb0 : Below w.heap.size w ((w.alloc (.cells #[.int .i64 k, .int .i64 v, .int .i64 q, .slice A m d] 24)).alloc (.cells #[.int .i64 k', .int .i64 v', .int .i64 q', .slice B n e] 24)) := ((Below.refl _ _).alloc (Nat.le_refl _) _).alloc (by simp) _
    have hx0 : Blk ((w.alloc (.cells #[.int .i64 k, .int .i64 v, .int .i64 q, .slice A m d] 24)).alloc (.cells #[.int .i64 k', .int .i64 v', .int .i64 q', .slice B n e] 24)) w.heap.size 24 #[.int .i64 k, .int .i64 v, .int .i64 q, .slice A m d] := (Blk.new w _ _).alloc _
    have hy0 : Blk ((w.alloc (.cells #[.int .i64 k, .int .i64 v, .int .i64 q, .slice A m d] 24)).alloc (.cells #[.int .i64 k', .int .i64 v', .int .i64 q', .slice B n e] 24)) (w.heap.size + 1) 24 #[.int .i64 k', .int .i64 v', .int .i64 q', .slice B n e] := by
      rw [← World.size_alloc w]
      exact Blk.new _ _ _
    generalize ((w.alloc (.cells #[.int .i64 k, .int .i64 v, .int .i64 q, .slice A m d] 24)).alloc (.cells #[.int .i64 k', .int .i64 v', .int .i64 q', .slice B n e] 24)) = W1 at hb0 hx0 hy0 ⊢
    have HB1 := Lib.hid hb0
    have HX1 := Lib.hid hx0
    have HY1 := Lib.hid hy0
    clear hb0 hx0 hy0
    have HEP := Lib.hid (show r = if o = 0 then cmpL (ps.toL.drop 0) (ps'.toL.drop 0) else o by rw [HEE.out, HP.out]; rfl)
    clear HEE
    go_loopw [5, 6] (fun ov iv wr => ∃ (o : Int) (i : Nat), i ≤ m ∧ i ≤ n ∧ iv = .int .i64 i ∧ ov = .int .i64 o ∧ Hid (r = if o = 0 then cmpL (ps.toL.drop i) (ps'.toL.drop i) else o) ∧ Hid (Below W1.heap.size W1 wr)) (fun _ iv _ => m - (intOf iv).toNat)
    case atStart => exact ⟨o, 0, Nat.zero_le _, Nat.zero_le _, rfl, rfl, HEP.out, Below.refl _ _⟩
    case round =>
      clear HEP
      obtain ⟨o, i, him, hin, rfl, rfl, HEI, HBr⟩ := hrel
      have HBw := Lib.hid (HB1.out.trans (HBr.out.mono HB1.out.size))
      have HXr := Lib.hid (HX1.out.below HBr.out HX1.out.lt)
      have HYr := Lib.hid (HY1.out.below HBr.out HY1.out.lt)
      have x3 := HXr.out.cell 3
      have y3 := HYr.out.cell 3
      have xl := HXr.out.lt
      have yl := HYr.out.lt
      by_cases ho : o = 0
      · have HEJ := Lib.hid (HEI.out.trans (if_pos ho))
        have yo : (o == 0) = true := by rw [ho]; rfl
        clear ho HEI
        by_cases hlt : i < m
        · by_cases hln : i < n
          · obtain ⟨b, off, x, Bx, nx, ex, rfl, hb, hS, hx, h0, h1, h2, h3, hr⟩ := HR1.out.elem hlt
            obtain ⟨b', off', y, By, ny, ey, rfl, hb', hS', hy, g0, g1, g2, g3, hr'⟩ := HR2.out.elem hln
            rw [← HBw.out.cell (p := ⟨b, _, none⟩) hb] at h0 h1 h2 h3
            rw [← HBw.out.cell (p := ⟨b', _, none⟩) hb'] at g0 g1 g2 g3
            have HC := Lib.hid (fun W (hW : Below w.heap.size w W) => HI.out S S' x y Bx nx ex By ny ey W (by
              have h1 := cntL_memC (show x ∈ ps.toL by obtain ⟨k1, k2⟩ := List.getElem?_eq_some_iff.1 hx; rw [← k2]; exact List.getElem_mem k1)
              have := HN.out
              omega) (hr.below hW) (hr'.below hW))
            have HEK := Lib.hid (show r = if x.cmp y ≠ 0 then x.cmp y else cmpL (ps.toL.drop (i + 1)) (ps'.toL.drop (i + 1)) by
              obtain ⟨k1, k2⟩ := List.getElem?_eq_some_iff.1 hx
              obtain ⟨k3, k4⟩ := List.getElem?_eq_some_iff.1 hy
              rw [HEJ.out, List.drop_eq_getElem_cons k1, List.drop_eq_getElem_cons k3, k2, k4]
              rfl)
            clear hx hy hr hr' hS hS' HEJ
            have i1 : (i : Int) < (m : Int) := by omega
            have i2 : (i : Int) < (n : Int) := by omega
            have hzw := HBw.out.size
            have hbl : b < wr.heap.size := by omega
            have hbl' : b' < wr.heap.size := by omega
            have hbd := Lib.hid (show Below w.heap.size w wr.drew from HBw.out.drew)
            generalize x.cmp y = rr at HC HEK
            unfold cV at HC
            dsimp only [vi] at HC
            go_wp2_with (fail)
            have hbw := Lib.hid (show Below wr.heap.size wr wr.drew from ⟨rfl, rfl, rfl, Nat.le_refl _, fun _ _ => rfl⟩)
            go_region_held3 (fun w' => w'.cell? ⟨w.heap.size, 3, none⟩ = some (.slice (some ⟨b, off, none⟩) m d) ∧ w'.cell? ⟨w.heap.size + 1, 3, none⟩ = some (.slice (some ⟨b', off', none⟩) n e) ∧ w'.cell? ⟨b, off + i * 4, none⟩ = some (.int .i64 x.k) ∧ w'.cell? ⟨b, off + i * 4 + 1, none⟩ = some (.int .i64 x.v) ∧ w'.cell? ⟨b, off + i * 4 + 2, none⟩ = some (.int .i64 x.n) ∧ w'.cell? ⟨b, off + i * 4 + 3, none⟩ = some (.slice Bx nx ex) ∧ w'.cell? ⟨b', off' + i * 4, none⟩ = some (.int .i64 y.k) ∧ w'.cell? ⟨b', off' + i * 4 + 1, none⟩ = some (.int .i64 y.v) ∧ w'.cell? ⟨b', off' + i * 4 + 2, none⟩ = some (.int .i64 y.n) ∧ w'.cell? ⟨b', off' + i * 4 + 3, none⟩ = some (.slice By ny ey) ∧ Hid (Below wr.heap.size wr w'))
              (first
                | (exact ⟨x3, y3, h0, h1, h2, h3, g0, g1, g2, g3, hbw⟩)
                | (exact ⟨zx3, zy3, zh0, zh1, zh2, zh3, zg0, zg1, zg2, zg3, zb⟩))
              ((first
                | (go_at_call 69
                   with_reducible refine (HC.out _ hbd.out).mono ?_
                   rintro e' wn ⟨rfl, hbn'⟩
                   have hbn : Below wr.heap.size wr wn := hbw.out.trans hbn'
                   have zx3 := (hbn.cell (p := ⟨w.heap.size, 3, none⟩) xl).trans x3
                   have zy3 := (hbn.cell (p := ⟨w.heap.size + 1, 3, none⟩) yl).trans y3
                   have zh0 := (hbn.cell (p := ⟨b, off + i * 4, none⟩) hbl).trans h0
                   have zh1 := (hbn.cell (p := ⟨b, off + i * 4 + 1, none⟩) hbl).trans h1
                   have zh2 := (hbn.cell (p := ⟨b, off + i * 4 + 2, none⟩) hbl).trans h2
                   have zh3 := (hbn.cell (p := ⟨b, off + i * 4 + 3, none⟩) hbl).trans h3
                   have zg0 := (hbn.cell (p := ⟨b', off' + i * 4, none⟩) hbl').trans g0
                   have zg1 := (hbn.cell (p := ⟨b', off' + i * 4 + 1, none⟩) hbl').trans g1
                   have zg2 := (hbn.cell (p := ⟨b', off' + i * 4 + 2, none⟩) hbl').trans g2
                   have zg3 := (hbn.cell (p := ⟨b', off' + i * 4 + 3, none⟩) hbl').trans g3
                   have zb := Lib.hid hbn
                   clear hbn hbn')))
            all_goals
              have HBn := Lib.hid (HBr.out.trans (zb.out.mono HBr.out.size))
              clear x3 y3 h0 h1 h2 h3 g0 g1 g2 g3 zx3 zy3 zh0 zh1 zh2 zh3 zg0 zg1 zg2 zg3
              go_wp2_with (fail)
              go_roundw
              case rel => exact ⟨rr, i + 1, hlt, hln, by go_num, rfl, by
                refine Lib.hid ?_
                rw [HEK.out]
                by_cases h : rr = 0
                · rw [if_neg (Classical.not_not.2 h), if_pos h]
                · rw [if_pos h, if_neg h], HBn.out⟩
              case measure => simp [intOf]; omega
          · obtain rfl : i = n := by omega
            have HEK := Lib.hid (show r = cord (m : Int) (i : Int) by
              rw [HEJ.out, cmpL_take, if_pos (.inr (List.drop_eq_nil_of_le (by rw [← HL2.out]; omega))), List.length_drop, List.length_drop, ← HL1.out, ← HL2.out]
              unfold cord
              split <;> (try split) <;> (try split) <;> (try split) <;> omega)
            have c4 := Lib.hid (fun W => rorder_any (m : Int) (i : Int) W)
            generalize cord (m : Int) (i : Int) = oo at HEK c4
            have i1 : (i : Int) < (m : Int) := by omega
            have i2 : ¬ (i : Int) < (i : Int) := by omega
            clear HEJ
            go_wp2_with (go_at_call 118; (with_reducible refine (c4.out _).mono ?_); rintro e' w' ⟨rfl, rfl⟩)
            go_ret
            exact ⟨ret_int HEK.out.symm, HBw.out⟩
        · obtain rfl : i = m := by omega
          have HEK := Lib.hid (show r = cord (i : Int) (n : Int) by
            rw [HEJ.out, cmpL_take, if_pos (.inl (List.drop_eq_nil_of_le (by rw [← HL1.out]; omega))), List.length_drop, List.length_drop, ← HL1.out, ← HL2.out]
            unfold cord
            split <;> (try split) <;> (try split) <;> (try split) <;> omega)
          have c4 := Lib.hid (fun W => rorder_any (i : Int) (n : Int) W)
          generalize cord (i : Int) (n : Int) = oo at HEK c4
          have i1 : ¬ (i : Int) < (i : Int) := by omega
          clear HEJ
          go_wp2_with (go_at_call 118; (with_reducible refine (c4.out _).mono ?_); rintro e' w' ⟨rfl, rfl⟩)
          go_ret
          exact ⟨ret_int HEK.out.symm, HBw.out⟩
      · have HEK := Lib.hid (HEI.out.trans (if_neg ho))
        have yo : (o == 0) = false := by simpa using ho
        clear ho HEI
        go_wp2_with (fail)
        go_ret
        exact ⟨ret_int HEK.out.symm, HBw.out⟩
theorem rcmp_all : ∀ N, RCMP N
  | 0 => fun _ _ _ _ _ _ _ _ _ _ _ h => absurd h (by omega)
  | N + 1 => rcmp_of N (rcmp_all N)
end Go.Proofs.YticpjdjdimpglaaGreatDoor

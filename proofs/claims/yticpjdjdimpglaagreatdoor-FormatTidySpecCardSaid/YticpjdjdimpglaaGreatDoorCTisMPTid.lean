/- The reference's Tidy by its contract. -/
import Derived.Test.YticpjdjdimpglaaGreatDoorCTisMPNor
import Derived.Test.YticpjdjdimpglaaGreatDoorCTisMQCnd
import Derived.Test.YticpjdjdimpglaaGreatDoorCTisMSam
namespace Go.Proofs.YticpjdjdimpglaaGreatDoor
set_option linter.unusedVariables false
set_option linter.unusedSimpArgs false
open Go.RowKit
set_option maxHeartbeats 8000000 in
set_option maxRecDepth 100000 in
theorem ptidy_any {S : Nat → Prop} {w : World} {c : CT} {A : Option Addr} {m d : Nat} (hS : ∀ k, S k → k < w.heap.size) (h : RepH S w c.ps A m d) (hz : c.ps.cnt ≤ 400000) :
    Calls Tryz.prog 21 #[cV c A m d] w (TPost S w (tidy c)) := by
  have HS := Lib.hid hS
  have HR := Lib.hid h
  have HT := Lib.hid (fun W (hW : Below w.heap.size w W) => qcond_any S c A m d W (h.below hW) (by omega))
  have HTD := Lib.hid (show tidy c = if tcond c ≠ 0 then (.zero, tcond c) else match norm 100 false c with
    | none => (.zero, 2)
    | some y => if tcond y = 0 then (y, 0) else (.zero, 2) from rfl)
  have HZ := Lib.hid hz
  clear hS h hz
  generalize tidy c = r at HTD ⊢
  unfold cV at HT ⊢
  dsimp only [vi] at HT ⊢
  go_enter Tryz.func21, Tryz.ntmps21
  go_wp2_with (fail)
  first | (refine calls_named ?_; intro W hW) | (refine body_named ?_; intro W hW) | (refine wpList_named ?_; intro W hW) | (refine wp_named ?_; intro W hW)
  have HB := Lib.hid (show Below w.heap.size w W by rw [← hW]; exact ((Below.refl _ _).alloc (Nat.le_refl _) _).alloc (by simp) _)
  have HX := Lib.hid (show Blk W w.heap.size 24 #[.int .i64 c.k, .int .i64 c.v, .int .i64 c.n, .slice A m d] by rw [← hW]; exact (Blk.new w _ _).alloc _)
  have HQ := Lib.hid (show Blk W (w.heap.size + 1) 24 #[.int .i64 0, .int .i64 0, .int .i64 0, .slice none 0 0] by rw [← hW, ← World.size_alloc w]; exact Blk.new _ _ _)
  clear hW
  refine (HT.out W HB.out).mono ?_
  rintro e w1 ⟨hb1, rfl⟩
  have HB1 := Lib.hid (HB.out.trans (hb1.mono HB.out.size))
  have HX1 := Lib.hid (HX.out.below hb1 HX.out.lt)
  have HQ1 := Lib.hid (HQ.out.below hb1 HQ.out.lt)
  clear hb1 HB HX HQ HT
  by_cases hc : tcond c = 0
  · have HTD2 := Lib.hid (HTD.out.trans (if_neg (Classical.not_not.2 hc)))
    have HOK := Lib.hid (tcond_zero hc)
    have x0 := HX1.out.cell 0
    have x1 := HX1.out.cell 1
    have x2 := HX1.out.cell 2
    have x3 := HX1.out.cell 3
    have xl := HX1.out.lt
    rw [hc]
    clear HTD hc
    go_wp2_with (fail)
    refine (pnormal_any 100 (fun k => S k ∨ k = w.heap.size + 1) w1 c false A m d (fun k hk => by
      rcases hk with hk | rfl
      · exact Nat.lt_of_lt_of_le (HS.out k hk) HB1.out.size
      · exact HQ1.out.lt) HOK.out.2.2 (by
        have h1 := HOK.out.2.1
        have h2 : (CF.one c .nil).dep = max (c.ps.dep + 1) 0 := rfl
        omega) ((HR.out.new.below HB1.out).sub fun k hk => by
      rcases hk with hk | rfl
      · exact .inl hk
      · exact .inr (by omega))).mono ?_
    rintro e w3 ⟨hb3, hp⟩
    have HB3 := Lib.hid (HB1.out.trans (hb3.mono HB1.out.size))
    have HQ3 := Lib.hid (HQ1.out.below hb3 HQ1.out.lt)
    clear hb3 HX1 HQ1 HB1 x0 x1 x2 x3 xl
    cases hy : norm 100 false c with
    | none =>
      rw [hy] at hp
      obtain rfl := hp
      have HRR := Lib.hid (show r = (.zero, 2) by rw [HTD2.out, hy])
      clear HTD2 hy
      have r0 := HQ3.out.cell 0
      have r1 := HQ3.out.cell 1
      have r2 := HQ3.out.cell 2
      have r3 := HQ3.out.cell 3
      have rf0 := HQ3.out.frozen 0
      have rf1 := HQ3.out.frozen 1
      have rf2 := HQ3.out.frozen 2
      have rf3 := HQ3.out.frozen 3
      have rl := HQ3.out.lt
      go_wp2_with (fail)
      first | (refine calls_named ?_; intro W8 hW) | (refine body_named ?_; intro W8 hW) | (refine wpList_named ?_; intro W8 hW) | (refine wp_named ?_; intro W8 hW)
      have hs := HQ3.out.set4 (y0 := .int .i64 0) (y1 := .int .i64 0) (y2 := .int .i64 0) (y3 := .slice none 0 0)
      have hO8 : Only (· = w.heap.size + 1) w3 W8 := by rw [← hW]; first | (with_reducible exact hs.2) | (with_reducible exact hs.2.trans (Only.of_below ((Below.refl _ _).alloc (Nat.le_refl _) _)))
      have hr8 : Blk W8 (w.heap.size + 1) 24 #[.int .i64 0, .int .i64 0, .int .i64 0, .slice none 0 0] := by rw [← hW]; first | (with_reducible exact hs.1) | (with_reducible exact hs.1.alloc _)
      have HB8 := Lib.hid (hO8.below HB3.out HB3.out.size (fun k hk => by rw [show k = w.heap.size + 1 from hk]; omega))
      clear hW hs hO8 r0 r1 r2 r3 rf0 rf1 rf2 rf3 rl
      have r0 := hr8.cell 0
      have r1 := hr8.cell 1
      have r2 := hr8.cell 2
      have r3 := hr8.cell 3
      refine bodyPost_ret (P := Tryz.prog) (fn := Tryz.f21) (v := .tuple #[.agg #[.int .i64 0, .int .i64 0, .int .i64 0, .slice none 0 0], .int .i64 2]) (by simp [results, Tryz.results21, go_sem, r0, r1, r2, r3]; try rfl) rfl ?_
      refine ⟨HB8.out, none, 0, 0, ?_⟩
      rw [HRR.out]
      exact ⟨rfl, RepH.nil⟩
    | some y =>
      rw [hy] at hp
      obtain ⟨A2, m2, d2, rfl, hr2⟩ := hp
      have HR2 := Lib.hid hr2
      have HCN := Lib.hid (norm_cnt HOK.out.2.2 hy)
      have HTD3 := Lib.hid (show r = if tcond y = 0 then (y, 0) else (.zero, 2) by rw [HTD2.out, hy])
      clear HTD2 hy hr2
      unfold cV
      dsimp only [vi]
      go_wp2_with (fail)
      first | (refine calls_named ?_; intro W4 hW) | (refine body_named ?_; intro W4 hW) | (refine wpList_named ?_; intro W4 hW) | (refine wp_named ?_; intro W4 hW)
      have hb4 : Below w3.heap.size w3 W4 := by rw [← hW]; exact (Below.refl _ _).alloc (Nat.le_refl _) _
      have HY4 := Lib.hid (show Blk W4 w3.heap.size 24 #[.int .i64 y.k, .int .i64 y.v, .int .i64 y.n, .slice A2 m2 d2] by rw [← hW]; exact Blk.new _ _ _)
      clear hW
      have HB4 := Lib.hid (HB3.out.trans (hb4.mono HB3.out.size))
      have HQ4 := Lib.hid (HQ3.out.below hb4 HQ3.out.lt)
      have HR4 := Lib.hid (HR2.out.below hb4)
      clear hb4 HB3 HQ3 HR2
      refine (qcond_any _ y A2 m2 d2 W4 HR4.out (by have h1 := HCN.out; have h2 := HZ.out; omega)).mono ?_
      rintro e w5 ⟨hb5, rfl⟩
      have HB5 := Lib.hid (HB4.out.trans (hb5.mono HB4.out.size))
      have HY5 := Lib.hid (HY4.out.below hb5 HY4.out.lt)
      have HQ5 := Lib.hid (HQ4.out.below hb5 HQ4.out.lt)
      have HR5 := Lib.hid (HR4.out.below hb5)
      clear hb5 HB4 HY4 HQ4 HR4
      have r0 := HQ5.out.cell 0
      have r1 := HQ5.out.cell 1
      have r2 := HQ5.out.cell 2
      have r3 := HQ5.out.cell 3
      have rf0 := HQ5.out.frozen 0
      have rf1 := HQ5.out.frozen 1
      have rf2 := HQ5.out.frozen 2
      have rf3 := HQ5.out.frozen 3
      have rl := HQ5.out.lt
      have y0 := HY5.out.cell 0
      have y1 := HY5.out.cell 1
      have y2 := HY5.out.cell 2
      have y3 := HY5.out.cell 3
      have yl := HY5.out.lt
      by_cases ht : tcond y = 0
      · have HRR := Lib.hid (HTD3.out.trans (if_pos ht))
        have htb : (tcond y != 0) = false := by simpa using ht
        generalize tcond y = ty at htb ⊢
        clear ht HTD3
        go_wp2_with (fail)
        first | (refine calls_named ?_; intro W8 hW) | (refine body_named ?_; intro W8 hW) | (refine wpList_named ?_; intro W8 hW) | (refine wp_named ?_; intro W8 hW)
        have hs := HQ5.out.set4 (y0 := .int .i64 y.k) (y1 := .int .i64 y.v) (y2 := .int .i64 y.n) (y3 := .slice A2 m2 d2)
        have hO8 : Only (· = w.heap.size + 1) w5 W8 := by rw [← hW]; exact hs.2
        have hr8 : Blk W8 (w.heap.size + 1) 24 #[.int .i64 y.k, .int .i64 y.v, .int .i64 y.n, .slice A2 m2 d2] := by rw [← hW]; exact hs.1
        have HB8 := Lib.hid (hO8.below HB5.out HB5.out.size (fun k hk => by rw [show k = w.heap.size + 1 from hk]; omega))
        clear hW hs r0 r1 r2 r3 rf0 rf1 rf2 rf3 rl
        have r0 := hr8.cell 0
        have r1 := hr8.cell 1
        have r2 := hr8.cell 2
        have r3 := hr8.cell 3
        refine bodyPost_ret (P := Tryz.prog) (fn := Tryz.f21) (v := .tuple #[.agg #[.int .i64 y.k, .int .i64 y.v, .int .i64 y.n, .slice A2 m2 d2], .int .i64 0]) (by simp [results, Tryz.results21, go_sem, r0, r1, r2, r3]; try rfl) rfl ?_
        refine ⟨HB8.out, A2, m2, d2, ?_⟩
        rw [HRR.out]
        exact ⟨rfl, (HR5.out.only hO8 (fun k hk => .inr hk)).sub fun k hk => .inl hk⟩
      · have HRR := Lib.hid (HTD3.out.trans (if_neg ht))
        have htb : (tcond y != 0) = true := bne_iff_ne.2 ht
        generalize tcond y = ty at htb ⊢
        clear ht HTD3
        go_wp2_with (fail)
        first | (refine calls_named ?_; intro W8 hW) | (refine body_named ?_; intro W8 hW) | (refine wpList_named ?_; intro W8 hW) | (refine wp_named ?_; intro W8 hW)
        have hs := HQ5.out.set4 (y0 := .int .i64 0) (y1 := .int .i64 0) (y2 := .int .i64 0) (y3 := .slice none 0 0)
        have hO8 : Only (· = w.heap.size + 1) w5 W8 := by rw [← hW]; exact hs.2
        have hr8 : Blk W8 (w.heap.size + 1) 24 #[.int .i64 0, .int .i64 0, .int .i64 0, .slice none 0 0] := by rw [← hW]; exact hs.1
        have HB8 := Lib.hid (hO8.below HB5.out HB5.out.size (fun k hk => by rw [show k = w.heap.size + 1 from hk]; omega))
        clear hW hs hO8 r0 r1 r2 r3 rf0 rf1 rf2 rf3 rl
        have r0 := hr8.cell 0
        have r1 := hr8.cell 1
        have r2 := hr8.cell 2
        have r3 := hr8.cell 3
        refine bodyPost_ret (P := Tryz.prog) (fn := Tryz.f21) (v := .tuple #[.agg #[.int .i64 0, .int .i64 0, .int .i64 0, .slice none 0 0], .int .i64 2]) (by simp [results, Tryz.results21, go_sem, r0, r1, r2, r3]; try rfl) rfl ?_
        refine ⟨HB8.out, none, 0, 0, ?_⟩
        rw [HRR.out]
        exact ⟨rfl, RepH.nil⟩
  · have HRR := Lib.hid (HTD.out.trans (if_pos hc))
    have htb : (tcond c != 0) = true := bne_iff_ne.2 hc
    generalize tcond c = t at htb HRR ⊢
    clear hc HTD
    have r0 := HQ1.out.cell 0
    have r1 := HQ1.out.cell 1
    have r2 := HQ1.out.cell 2
    have r3 := HQ1.out.cell 3
    have rf0 := HQ1.out.frozen 0
    have rf1 := HQ1.out.frozen 1
    have rf2 := HQ1.out.frozen 2
    have rf3 := HQ1.out.frozen 3
    have rl := HQ1.out.lt
    go_wp2_with (fail)
    first | (refine calls_named ?_; intro W8 hW) | (refine body_named ?_; intro W8 hW) | (refine wpList_named ?_; intro W8 hW) | (refine wp_named ?_; intro W8 hW)
    have hs := HQ1.out.set4 (y0 := .int .i64 0) (y1 := .int .i64 0) (y2 := .int .i64 0) (y3 := .slice none 0 0)
    have hO8 : Only (· = w.heap.size + 1) w1 W8 := by rw [← hW]; exact hs.2
    have hr8 : Blk W8 (w.heap.size + 1) 24 #[.int .i64 0, .int .i64 0, .int .i64 0, .slice none 0 0] := by rw [← hW]; exact hs.1
    have HB8 := Lib.hid (hO8.below HB1.out HB1.out.size (fun k hk => by rw [show k = w.heap.size + 1 from hk]; omega))
    clear hW hs hO8 r0 r1 r2 r3 rf0 rf1 rf2 rf3 rl
    have r0 := hr8.cell 0
    have r1 := hr8.cell 1
    have r2 := hr8.cell 2
    have r3 := hr8.cell 3
    refine bodyPost_ret (P := Tryz.prog) (fn := Tryz.f21) (v := .tuple #[.agg #[.int .i64 0, .int .i64 0, .int .i64 0, .slice none 0 0], .int .i64 t]) (by simp [results, Tryz.results21, go_sem, r0, r1, r2, r3]; try rfl) rfl ?_
    refine ⟨HB8.out, none, 0, 0, ?_⟩
    rw [HRR.out]
    exact ⟨rfl, RepH.nil⟩
end Go.Proofs.YticpjdjdimpglaaGreatDoor

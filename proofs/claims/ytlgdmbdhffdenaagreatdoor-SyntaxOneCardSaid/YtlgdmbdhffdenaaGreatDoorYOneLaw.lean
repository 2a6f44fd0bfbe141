/- SyntaxOne: the walk of the law. -/
import Derived.Test.YtlgdmbdhffdenaaGreatDoorYDocF
namespace Go.Proofs.YtlgdmbdhffdenaaGreatDoor
set_option linter.unusedVariables false
set_option linter.unusedSimpArgs false
open Go.RowKit

set_option maxHeartbeats 8000000 in
set_option maxRecDepth 100000 in
theorem one_walk (A : Option Addr) (n c : Nat) (l : List UInt8) (w : World) (h : Rd w w.heap.size 1 A n c (l.map vb)) (hG : Gb w.heap.size w) :
    Calls Tryz.prog 6 #[.slice A n c] w fun e w' => e = .returned (.bool true) ∧ Below w.heap.size w w' := by
  have hlen := h.blen
  subst hlen
  have HH := Lib.hid h
  have HG := Lib.hid hG
  have hcap := h.cap
  have hbig := h.big
  clear h hG
  by_cases hn : l.length ≤ 2000
  · have hd : decide ((l.length : Int) ≤ 2000) = true := decide_eq_true (by omega)
    go_enter Tryz.func6, Tryz.ntmps6
    go_wp2_with (fail)
    refine (sane13_any w HG.out).mono ?_
    rintro e w1 ⟨rfl, hb1⟩
    have C1 := Lib.hid hb1
    clear hb1
    go_wp2_with (fail)
    refine (yshortD_any A l.length c w1).mono ?_
    rintro e w1' ⟨rfl, rfl⟩
    rw [hd]
    obtain ⟨⟨r, x, cd⟩, hx⟩ : ∃ q, topRules l = q := ⟨_, rfl⟩
    have HX := Lib.hid hx
    have W1 := ytopRules_any A l.length c l w1' ((HH.out.below C1.out).more C1.out.size) (by omega) (HG.out.on C1.out)
    rw [hx] at W1
    have W1h := Lib.hid W1
    clear W1 hx
    go_wp2_with (fail)
    refine W1h.out.mono ?_
    rintro e w2 ⟨hb2, _, rfl, A1, m1, c1, A2, m2, c2, rfl, hr1, hr2⟩
    have C2 := Lib.hid (C1.out.trans (hb2.mono C1.out.size))
    have P2 := Lib.hid (hr1.sub (S' := fun k => k < w.heap.size) (fun k hk => Nat.lt_of_lt_of_le hk C1.out.size))
    have Z2 := Lib.hid (hr2.sub (S' := fun k => k < w.heap.size) (fun k hk => Nat.lt_of_lt_of_le hk C1.out.size))
    clear hb2 hr1 hr2 W1h C1
    dsimp only
    go_wp2_with (fail)
    first | (refine calls_named ?_; intro w3 hw3) | (refine body_named ?_; intro w3 hw3) | (refine wpList_named ?_; intro w3 hw3) | (refine wp_named ?_; intro w3 hw3)
    have hb3 : Below w2.heap.size w2 w3 := by rw [← hw3]; exact (Below.refl _ _).alloc (Nat.le_refl _) _
    have X3 := Lib.hid (show Blk w3 w2.heap.size 28 #[.string (bs r.name), .int .i64 r.win, .int .i64 r.draw, .int .i64 r.loss, .slice A1 m1 c1, .slice A2 m2 c2] by rw [← hw3]; exact Blk.new _ _ _)
    clear hw3
    have C3 := Lib.hid (C2.out.trans (hb3.mono C2.out.size))
    have P3 := Lib.hid (P2.out.only (S' := fun _ => False) (Only.of_below hb3) (fun _ h => h.elim))
    have Z3 := Lib.hid (Z2.out.only (S' := fun _ => False) (Only.of_below hb3) (fun _ h => h.elim))
    generalize w2.heap.size = bx at *
    clear hb3 C2 P2 Z2
    refine (ydoc_all A l.length c l w3 ((HH.out.below C3.out).more C3.out.size) (by omega) (HG.out.on C3.out)).mono ?_
    rintro e w4 ⟨B1, k1, d1, B2, k2, d2, R, xs, rfl, hk1, hrd, hrl, hperm, _, hk2, hrd2, hb4⟩
    have hcnt : k2 = (docP l).length := hk2.trans (doc_len hperm)
    have C4 := Lib.hid (C3.out.trans (hb4.mono C3.out.size))
    have hX := X3.out.below hb4 X3.out.lt
    have P4 := Lib.hid (P3.out.only (S' := fun _ => False) (Only.of_below hb4) (fun _ h => h.elim))
    have Z4 := Lib.hid (Z3.out.only (S' := fun _ => False) (Only.of_below hb4) (fun _ h => h.elim))
    have HRL := Lib.hid (hrl.sub (S' := fun k => k < w.heap.size) (fun k hk => Nat.lt_of_lt_of_le hk C3.out.size))
    have HRD := Lib.hid hrd
    have q1 := hrd.cap
    have q2 := hrd.big
    have q3 := hrd2.cap
    have q4 := hrd2.big
    have x0 := hX.cell 0
    have x1 := hX.cell 1
    have x2 := hX.cell 2
    have x3 := hX.cell 3
    have x4 := hX.cell 4
    have x5 := hX.cell 5
    have lx := hX.lt
    clear hrd hrl hperm hk2 hrd2 hb4 hX X3 C3 P3 Z3
    have HC := Lib.hid hcnt
    have HK := Lib.hid hk1
    clear hcnt hk1
    by_cases hcd : cd = 0
    · subst hcd
      obtain ⟨rfl, hd1, hd2⟩ := law_one_ok HX.out
      have hrl := HRL.out
      rw [hd1] at hrl
      obtain rfl : k1 = 1 := by rw [HK.out, hd1]; rfl
      obtain rfl : k2 = 0 := by rw [HC.out, hd2]; rfl
      obtain ⟨E1, n1, f1, E2, n2, f2, zs, rfl, hr3, hr4, hz⟩ := hrl
      have R3 := Lib.hid hr3
      have R4 := Lib.hid hr4
      obtain ⟨b, off, rfl, hb, hc⟩ := HRD.out.cells (by omega)
      have y0 : w4.cell? ⟨b, off, none⟩ = some (.string (bs r.name)) := hc 0 _ rfl
      have y1 := hc 1 _ rfl
      have y2 := hc 2 _ rfl
      have y3 := hc 3 _ rfl
      have y4 := hc 4 _ rfl
      have y5 := hc 5 _ rfl
      clear hc hr3 hr4 hz hd1 hd2 HRL HRD HK HC
      go_wp2_with (fail)
      have hcg := same_by (fun k => k < w.heap.size) (fun k => k < w.heap.size) r r E1 A1 E2 A2 n1 f1 m1 c1 n2 f2 m2 c2 w4 R3.out P4.out R4.out Z4.out
      rw [show decide (r = r) = true from decide_eq_true rfl] at hcg
      unfold rulesV at hcg
      have X0 := cell_by lx x0
      have X1 := cell_by lx x1
      have X2 := cell_by lx x2
      have X3 := cell_by lx x3
      have X4 := cell_by lx x4
      have X5 := cell_by lx x5
      have Y0 := cell_by hb y0
      have Y1 := cell_by hb y1
      have Y2 := cell_by hb y2
      have Y3 := cell_by hb y3
      have Y4 := cell_by hb y4
      have Y5 := cell_by hb y5
      clear x0 x1 x2 x3 x4 x5 y0 y1 y2 y3 y4 y5
      refine wp_region_below hmixP (by kernel_rfl) ?_
      repeat (quiet_step (first | (go_at_call 15; exact hcg _) | (go_at_fn 15; exact hcg _)))
      refine wpQuiet_nil ?_
      intro _ hw'
      obtain ⟨⟨wq, hbq⟩, hw2⟩ := hw'
      subst hw2
      have C6 := Lib.hid (C4.out.trans (hbq.mono C4.out.size))
      clear X0 X1 X2 X3 X4 X5 Y0 Y1 Y2 Y3 Y4 Y5 hcg
      go_wp2_with (fail)
      go_ret
      exact ⟨rfl, C6.out⟩
    · have e0 : (cd == 0) = false := by rw [beq_eq_false_iff_ne]; exact hcd
      by_cases h0 : 0 < k2
      · clear x0 x1 x2 x3 x4 x5
        have C5 := Lib.hid (C4.out.trans (show Below w.heap.size w4 w4.drew from ⟨rfl, rfl, rfl, Nat.le_refl _, fun _ _ => rfl⟩))
        go_wp2_with (fail)
        first | (go_ret; exact ⟨rfl, C4.out⟩) | (go_region; all_goals (go_wp2_with (fail); go_ret; exact ⟨rfl, C5.out⟩))
      · obtain rfl : k2 = 0 := by omega
        have h1 : k1 ≠ 1 := by
          rcases law_one_no HX.out hcd with h | h
          · have := HC.out; omega
          · rw [HK.out]; exact h
        have e1 : ((k1 : Int) != 1) = true := by rw [bne_iff_ne]; omega
        clear x0 x1 x2 x3 x4 x5
        have C5 := Lib.hid (C4.out.trans (show Below w.heap.size w4 w4.drew from ⟨rfl, rfl, rfl, Nat.le_refl _, fun _ _ => rfl⟩))
        go_wp2_with (fail)
        first | (go_ret; exact ⟨rfl, C4.out⟩) | (go_region; all_goals (go_wp2_with (fail); go_ret; exact ⟨rfl, C5.out⟩))
  · have hd : decide ((l.length : Int) ≤ 2000) = false := decide_eq_false (by omega)
    go_enter Tryz.func6, Tryz.ntmps6
    go_wp2_with (fail)
    refine (sane13_any w HG.out).mono ?_
    rintro e w1 ⟨rfl, hb1⟩
    have C1 := Lib.hid hb1
    clear hb1
    go_wp2_with (fail)
    refine (yshortD_any A l.length c w1).mono ?_
    rintro e w1' ⟨rfl, rfl⟩
    rw [hd]
    go_wp2_with (fail)
    go_ret
    exact ⟨rfl, C1.out⟩
end Go.Proofs.YtlgdmbdhffdenaaGreatDoor

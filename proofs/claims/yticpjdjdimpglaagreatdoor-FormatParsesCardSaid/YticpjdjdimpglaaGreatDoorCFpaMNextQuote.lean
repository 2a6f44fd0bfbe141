/- The scanner's next, at a quote, by its contract. -/
import Derived.Test.YticpjdjdimpglaaGreatDoorCFpaMNext
import Derived.Test.YticpjdjdimpglaaGreatDoorCFpaMJoinPlain
namespace Go.Proofs.YticpjdjdimpglaaGreatDoor
set_option linter.unusedVariables false
set_option linter.unusedSimpArgs false
open Go.RowKit
/-- What quoted gives at a. -/
theorem nx_quote' {l : List UInt8} {a : Nat} (h : a < l.length) (hc : bt l a = 34) {t : List UInt8} {m : Nat} (hq : qout (qscan (l.drop (a + 1))) = (t, m)) :
    (0 < m ∧ nextItem (l.drop a) = ⟨3, t, m⟩) ∨ (m = 0 ∧ nextItem (l.drop a) = ⟨0, [], 1⟩) := by
  rw [nx_quote h hc]
  cases hx : qscan (l.drop (a + 1)) with
  | none =>
    rw [hx] at hq
    simp [qout] at hq
    exact .inr ⟨hq.2.symm, rfl⟩
  | some x =>
    rw [hx] at hq
    simp [qout] at hq
    refine .inl ⟨by omega, ?_⟩
    rw [← hq.1, ← hq.2]
set_option maxHeartbeats 4000000 in
set_option maxRecDepth 100000 in
theorem next_quote (g : Nat) (A : Option Addr) (n c : Nat) (l : List UInt8) (a : Nat) (w : World) (h : Scn w g A n c l a) (ha : a < n) (hn : n ≤ 70000) (hq : bt l a = 34) :
    Calls Tryz.prog 168 #[.pointer (some ⟨g, 0, none⟩)] w (NRet (nextItem (l.drop a)) a w) := by
  have hlen := h.blen
  have hcap := h.rd.cap
  have hbig := h.rd.big
  have hg : g < w.heap.size := h.blk.lt
  have hs := h.src
  have hp := h.pos
  obtain ⟨b, off, rfl, hb, hc⟩ := h.rd.byte (k := a) ha
  have hbw : b < w.heap.size := by omega
  subst hlen
  have hrd : ∀ q, Rd ((w.alloc (.cells tokZero 171)).drewN q) ((w.alloc (.cells tokZero 171)).drewN q).heap.size 1 (some ⟨b, off + a, none⟩) (l.length - a) (c - a) ((l.drop a).map vb) := fun q => by
    have h1 := (((h.alloc (.cells tokZero 171)).drewN q).rd).sub (lo := a) (hi := l.length) (by omega) (Nat.le_refl _)
    rw [List.take_of_length_le (by simp)] at h1
    exact h1.more (by simp; omega)
  have HRD := Lib.hid hrd
  obtain ⟨tm, htm⟩ : ∃ x, qout (qscan (l.drop (a + 1))) = x := ⟨_, rfl⟩
  obtain ⟨t, m⟩ := tm
  have HTM := Lib.hid (show qout (qscan ((l.drop a).drop 1)) = (t, m) by rw [List.drop_drop]; exact htm)
  have hor := nx_quote' ha hq htm
  have e2 : clsAt l a = 0 := (clsAt_in ha).trans (by rw [hq]; rfl)
  have e34 := yb (a := bt l a) (m := 34) (by omega)
  have e45 := nb (a := bt l a) (m := 45) (by omega)
  have hne : ¬ c = a := by omega
  have hmb : m ≤ l.length := by
    rcases hor with ⟨h1, h2⟩ | ⟨h1, h2⟩
    · have := next_in ha
      rw [h2] at this
      simp only at this
      omega
    · omega
  clear hq htm hrd
  rcases hor with ⟨h1, h2⟩ | ⟨h1, h2⟩
  · have HI := Lib.hid h2
    have hm0 : (0 : Int) < (m : Int) := by omega
    clear h1 h2
    go_enter Tryz.func168, Tryz.ntmps168
    go_wp2
    go_quiet (fail)
    go_wp2_with (go_at_call 167; refine (class_any g _ _ _ l a _ _ ((h.alloc _).drewN _) (by omega) (by omega)).mono ?_; rintro e w' ⟨rfl, nq1, rfl⟩)
    go_region_with (go_at_call 205; refine (quoted_any _ _ _ _ _ (HRD.out _) (by omega) (by omega)).mono ?_; unfold QRet; rw [HTM.out]; rintro e w2 ⟨rfl, hb2⟩)
    all_goals
      have hS2 := (((h.alloc (.cells tokZero 171)).drewN _).below hb2 (by simp; omega))
      have hs2 := hS2.src
      have hp2 := hS2.pos
      have hB2 := (tokBlk hb2).1
      have c0 : w2.cell? ⟨w.heap.size, 0, none⟩ = some (.int .i64 0) := hB2.cell 0
      have c1 : w2.cell? ⟨w.heap.size, 1, none⟩ = some (.string ⟨#[]⟩) := hB2.cell 1
      have c2 : w2.cell? ⟨w.heap.size, 2, none⟩ = some (.int .i64 0) := hB2.cell 2
      have f0 := hB2.frozen 0
      have f1 := hB2.frozen 1
      have f2 := hB2.frozen 2
      have hL2 := Lib.hid (tokBlk hb2).2
      have HB2 := Lib.hid hB2
      clear hc hs hp hS2 hB2 hb2 HRD
      go_wp2
      go_region
      all_goals
        go_wp2
        rw [HI.out]
        refine next_end rfl rfl rfl ?_ (((HB2.out.drewN _).set 0 _).set 1 _ |>.set 2 _) ?_ rfl ((((hL2.out.trans ((below_drewNg w2 _).mono hL2.out.size)).setCell (Nat.le_refl _) _).setCell (Nat.le_refl _) _).setCell (Nat.le_refl _) _)
        · exact int_eq (show (a : Int) + (m : Int) = ((a + m : Nat) : Int) by omega)
        · rfl
  · have HI := Lib.hid h2
    subst h1
    clear h2
    go_enter Tryz.func168, Tryz.ntmps168
    go_wp2
    go_quiet (fail)
    go_wp2_with (go_at_call 167; refine (class_any g _ _ _ l a _ _ ((h.alloc _).drewN _) (by omega) (by omega)).mono ?_; rintro e w' ⟨rfl, nq1, rfl⟩)
    go_region_with (go_at_call 205; refine (quoted_any _ _ _ _ _ (HRD.out _) (by omega) (by omega)).mono ?_; unfold QRet; rw [HTM.out]; rintro e w2 ⟨rfl, hb2⟩)
    all_goals
      have hS2 := (((h.alloc (.cells tokZero 171)).drewN _).below hb2 (by simp; omega))
      have hs2 := hS2.src
      have hp2 := hS2.pos
      have hB2 := (tokBlk hb2).1
      have c0 : w2.cell? ⟨w.heap.size, 0, none⟩ = some (.int .i64 0) := hB2.cell 0
      have c1 : w2.cell? ⟨w.heap.size, 1, none⟩ = some (.string ⟨#[]⟩) := hB2.cell 1
      have c2 : w2.cell? ⟨w.heap.size, 2, none⟩ = some (.int .i64 0) := hB2.cell 2
      have f0 := hB2.frozen 0
      have f1 := hB2.frozen 1
      have f2 := hB2.frozen 2
      have hL2 := Lib.hid (tokBlk hb2).2
      have HB2 := Lib.hid hB2
      clear hc hs hp hS2 hB2 hb2 HRD
      go_wp2
      go_region
      all_goals
        go_wp2
        rw [HI.out]
        refine next_end rfl rfl rfl ?_ (((HB2.out.drewN _).set 0 _).set 1 _ |>.set 2 _) ?_ rfl ((((hL2.out.trans ((below_drewNg w2 _).mono hL2.out.size)).setCell (Nat.le_refl _) _).setCell (Nat.le_refl _) _).setCell (Nat.le_refl _) _)
        · exact int_eq (show (a : Int) + 1 = ((a + 1 : Nat) : Int) by omega)
        · rfl
end Go.Proofs.YticpjdjdimpglaaGreatDoor

/- The scanner's next, at a sign, by its contract. -/
import Derived.Test.YticpjdjdimpglaaGreatDoorCFpaMNext
namespace Go.Proofs.YticpjdjdimpglaaGreatDoor
set_option linter.unusedVariables false
set_option linter.unusedSimpArgs false
open Go.RowKit
set_option maxHeartbeats 4000000 in
set_option maxRecDepth 100000 in
theorem next_sign2 (g : Nat) (A : Option Addr) (n c : Nat) (l : List UInt8) (a : Nat) (w : World) (h : Scn w g A n c l a) (ha : a < n) (hn : n ≤ 70000) (h1 : a + 1 < n) (hc1 : bt l a = 60 ∨ bt l a = 62) (hc2 : bt l (a + 1) = 61) :
    Calls Tryz.prog 168 #[.pointer (some ⟨g, 0, none⟩)] w (NRet (nextItem (l.drop a)) a w) := by
  have hlen := h.blen
  have hcap := h.rd.cap
  have hbig := h.rd.big
  have hg : g < w.heap.size := h.blk.lt
  have hs := h.src
  have hp := h.pos
  obtain ⟨b, off, rfl, hb, hc⟩ := h.rd.byte (k := a) ha
  have hbw : b < w.heap.size := by omega
  subst hlen
  obtain ⟨b', off', he, hb', hc'⟩ := h.rd.byte (k := a + 1) h1
  injection he with he
  injection he with he1 he2
  subst he1 he2
  have HI := Lib.hid (nx_sign2 h1 hc1 hc2)
  have e2 : clsAt l a = 4 := (clsAt_in ha).trans (cls_sign.2 (by rcases hc1 with e | e <;> rw [e] <;> rfl))
  have e45 := nb (a := bt l a) (m := 45) (by omega)
  have e61 := yb (a := bt l (a + 1)) (m := 61) (by omega)
  have hor : ((bt l a : Int) == 60) = true ∨ (((bt l a : Int) == 60) = false ∧ ((bt l a : Int) == 62) = true) := by
    rcases hc1 with e | e
    · exact .inl (yb (by omega))
    · exact .inr ⟨nb (by omega), yb (by omega)⟩
  clear hc1 hc2
  rcases hor with e60 | ⟨e60, e62⟩
  all_goals
    go_enter Tryz.func168, Tryz.ntmps168
    go_wp2
    go_quiet (fail)
    go_wp2_with (first
      | (go_at_call 167; refine (class_any g _ _ _ l a _ _ ((h.alloc _).drewN _) (by omega) (by omega)).mono ?_; rintro e w' ⟨rfl, nq1, rfl⟩)
      | (go_at_call 203; refine (take_any g _ _ _ l a _ _ _ ((h.alloc _).drewN _) (by omega) (by omega)).mono ?_; rintro e w1 ⟨rfl, hb1⟩)
      | refine wpList_store_row rfl 171 (.tmp 2) (.tmp 114) rfl _ rfl #[.int .i64 4, .string (bs _), .int .i64 a] tokZero rfl 171 (tokBlk hb1).1 rfl infoTok (tok_one _ _ _) ?_)
    rw [HI.out]
    refine next_end rfl rfl rfl ?_ (Blk.setRow (tokBlk hb1).1 _) ?_ rfl (Below.setRow (tokBlk hb1).2 (Nat.le_refl _) _)
    · first | rfl | exact int_eq (show (a : Int) + 2 = ((a + 2 : Nat) : Int) by omega)
    · first | rfl | (rw [show a + 2 - a = 2 from by omega]; rfl) | (simp [tokVal, tokOf]; done)
set_option maxHeartbeats 4000000 in
set_option maxRecDepth 100000 in
theorem next_sign1 (g : Nat) (A : Option Addr) (n c : Nat) (l : List UInt8) (a : Nat) (w : World) (h : Scn w g A n c l a) (ha : a < n) (hn : n ≤ 70000) (hsg : isSignC (bt l a) = true) (hno : ¬ ((bt l a = 60 ∨ bt l a = 62) ∧ bt l (a + 1) = 61)) :
    Calls Tryz.prog 168 #[.pointer (some ⟨g, 0, none⟩)] w (NRet (nextItem (l.drop a)) a w) := by
  have hlen := h.blen
  have hcap := h.rd.cap
  have hbig := h.rd.big
  have hg : g < w.heap.size := h.blk.lt
  have hs := h.src
  have hp := h.pos
  obtain ⟨b, off, rfl, hb, hc⟩ := h.rd.byte (k := a) ha
  have hbw : b < w.heap.size := by omega
  subst hlen
  have HI := Lib.hid (nx_sign1 ha hsg hno)
  have e2 : clsAt l a = 4 := (clsAt_in ha).trans (cls_sign.2 hsg)
  have e45 : ((bt l a : Int) == 45) = false := nb (by
    intro e
    have e' : bt l a = 45 := by omega
    rw [e'] at hsg
    cases hsg)
  clear hsg
  by_cases hc1 : bt l a = 60 ∨ bt l a = 62
  · have hor : ((bt l a : Int) == 60) = true ∨ (((bt l a : Int) == 60) = false ∧ ((bt l a : Int) == 62) = true) := by
      rcases hc1 with e | e
      · exact .inl (yb (by omega))
      · exact .inr ⟨nb (by omega), yb (by omega)⟩
    by_cases h1 : a + 1 < l.length
    · obtain ⟨b', off', he, hb', hc'⟩ := h.rd.byte (k := a + 1) h1
      injection he with he
      injection he with he1 he2
      subst he1 he2
      have e61 := nb (a := bt l (a + 1)) (m := 61) (fun e => hno ⟨hc1, by omega⟩)
      clear hc1 hno
      rcases hor with e60 | ⟨e60, e62⟩
      all_goals
        go_enter Tryz.func168, Tryz.ntmps168
        go_wp2
        go_quiet (fail)
        go_wp2_with (first
          | (go_at_call 167; refine (class_any g _ _ _ l a _ _ ((h.alloc _).drewN _) (by omega) (by omega)).mono ?_; rintro e w' ⟨rfl, nq1, rfl⟩)
          | (go_at_call 203; refine (take_any g _ _ _ l a _ _ _ ((h.alloc _).drewN _) (by omega) (by omega)).mono ?_; rintro e w1 ⟨rfl, hb1⟩)
          | refine wpList_store_row rfl 171 (.tmp 2) (.tmp 114) rfl _ rfl #[.int .i64 4, .string (bs _), .int .i64 a] tokZero rfl 171 (tokBlk hb1).1 rfl infoTok (tok_one _ _ _) ?_)
        rw [HI.out]
        refine next_end rfl rfl rfl ?_ (Blk.setRow (tokBlk hb1).1 _) ?_ rfl (Below.setRow (tokBlk hb1).2 (Nat.le_refl _) _)
        · first | rfl | exact int_eq (show (a : Int) + 1 = ((a + 1 : Nat) : Int) by omega)
        · first | rfl | (rw [show a + 1 - a = 1 from by omega]; rfl) | (simp [tokVal, tokOf]; done)
    · clear hc1 hno
      rcases hor with e60 | ⟨e60, e62⟩
      all_goals
        go_enter Tryz.func168, Tryz.ntmps168
        go_wp2
        go_quiet (fail)
        go_wp2_with (first
          | (go_at_call 167; refine (class_any g _ _ _ l a _ _ ((h.alloc _).drewN _) (by omega) (by omega)).mono ?_; rintro e w' ⟨rfl, nq1, rfl⟩)
          | (go_at_call 203; refine (take_any g _ _ _ l a _ _ _ ((h.alloc _).drewN _) (by omega) (by omega)).mono ?_; rintro e w1 ⟨rfl, hb1⟩)
          | refine wpList_store_row rfl 171 (.tmp 2) (.tmp 114) rfl _ rfl #[.int .i64 4, .string (bs _), .int .i64 a] tokZero rfl 171 (tokBlk hb1).1 rfl infoTok (tok_one _ _ _) ?_)
        rw [HI.out]
        refine next_end rfl rfl rfl ?_ (Blk.setRow (tokBlk hb1).1 _) ?_ rfl (Below.setRow (tokBlk hb1).2 (Nat.le_refl _) _)
        · first | rfl | exact int_eq (show (a : Int) + 1 = ((a + 1 : Nat) : Int) by omega)
        · first | rfl | (rw [show a + 1 - a = 1 from by omega]; rfl) | (simp [tokVal, tokOf]; done)
  · have e60 := nb (a := bt l a) (m := 60) (by omega)
    have e62 := nb (a := bt l a) (m := 62) (by omega)
    clear hc1 hno
    go_enter Tryz.func168, Tryz.ntmps168
    go_wp2
    go_quiet (fail)
    go_wp2_with (first
      | (go_at_call 167; refine (class_any g _ _ _ l a _ _ ((h.alloc _).drewN _) (by omega) (by omega)).mono ?_; rintro e w' ⟨rfl, nq1, rfl⟩)
      | (go_at_call 203; refine (take_any g _ _ _ l a _ _ _ ((h.alloc _).drewN _) (by omega) (by omega)).mono ?_; rintro e w1 ⟨rfl, hb1⟩)
      | refine wpList_store_row rfl 171 (.tmp 2) (.tmp 114) rfl _ rfl #[.int .i64 4, .string (bs _), .int .i64 a] tokZero rfl 171 (tokBlk hb1).1 rfl infoTok (tok_one _ _ _) ?_)
    rw [HI.out]
    refine next_end rfl rfl rfl ?_ (Blk.setRow (tokBlk hb1).1 _) ?_ rfl (Below.setRow (tokBlk hb1).2 (Nat.le_refl _) _)
    · first | rfl | exact int_eq (show (a : Int) + 1 = ((a + 1 : Nat) : Int) by omega)
    · first | rfl | (rw [show a + 1 - a = 1 from by omega]; rfl) | (simp [tokVal, tokOf]; done)
end Go.Proofs.YticpjdjdimpglaaGreatDoor

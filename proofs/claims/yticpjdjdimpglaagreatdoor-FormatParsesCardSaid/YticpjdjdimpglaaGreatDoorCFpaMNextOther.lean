/- The scanner's next, at invalid bytes, by its contract. -/
import Derived.Test.YticpjdjdimpglaaGreatDoorCFpaMNext
namespace Go.Proofs.YticpjdjdimpglaaGreatDoor
set_option linter.unusedVariables false
set_option linter.unusedSimpArgs false
open Go.RowKit
theorem tokB0 (w : World) (cs : Array Value) (q : Nat) : Below w.heap.size w ((w.alloc (.cells cs 171)).drewN q) :=
  ((Below.refl w.heap.size w).alloc (Nat.le_refl _) (.cells cs 171)).trans ((below_drewNg _ q).mono (by simp))
set_option maxHeartbeats 4000000 in
set_option maxRecDepth 100000 in
theorem next_other (g : Nat) (A : Option Addr) (n c : Nat) (l : List UInt8) (a : Nat) (w : World) (h : Scn w g A n c l a) (ha : a < n) (hn : n ≤ 70000) (hl : isLetter (bt l a) = false) (hnum : ¬ NumAt l a) (hsg : isSignC (bt l a) = false) (hq : ¬ bt l a = 34) :
    Calls Tryz.prog 168 #[.pointer (some ⟨g, 0, none⟩)] w (NRet (nextItem (l.drop a)) a w) := by
  have hlen := h.blen
  have hcap := h.rd.cap
  have hbig := h.rd.big
  have hg : g < w.heap.size := h.blk.lt
  have hs := h.src
  have hp := h.pos
  obtain ⟨b, off, rfl, hb, hc⟩ := h.rd.byte (k := a) ha
  have hbw : b < w.heap.size := by omega
  subst hlen
  have HI := Lib.hid (nx_other ha hl hnum hsg hq)
  have n2 : ((clsAt l a : Int) == 2) = false := nb (by rw [clsAt_in ha]; intro e; rw [cls_letter.1 (by omega)] at hl; cases hl)
  have n3 : ((clsAt l a : Int) == 3) = false := nb (by rw [clsAt_in ha]; intro e; exact hnum (.inl (cls_digit.1 (by omega))))
  have n4 : ((clsAt l a : Int) == 4) = false := nb (by rw [clsAt_in ha]; intro e; rw [cls_sign.1 (by omega)] at hsg; cases hsg)
  have e34 := nb (a := bt l a) (m := 34) (by omega)
  have hor : ((bt l a : Int) == 45) = false ∨ (((bt l a : Int) == 45) = true ∧ ((clsAt l (a + 1) : Int) == 3) = false) := by
    by_cases h45 : bt l a = 45
    · refine .inr ⟨yb (by omega), nb (fun e => hnum (.inr ⟨h45, ?_⟩))⟩
      have h3 : a + 1 < l.length := by
        rcases Nat.lt_or_ge (a + 1) l.length with h | h
        · exact h
        · rw [clsAt_out (by omega)] at e; omega
      rw [clsAt_in h3] at e
      exact cls_digit.1 (by omega)
    · exact .inl (nb (by omega))
  clear hl hnum hsg hq
  rcases hor with e45 | ⟨e45, n5⟩
  all_goals
    go_enter Tryz.func168, Tryz.ntmps168
    go_wp2
    go_quiet (fail)
    go_wp2_with (go_at_call 167; refine (class_any g _ _ _ l a _ _ ((h.alloc _).drewN _) (by omega) (by omega)).mono ?_; rintro e w' ⟨rfl, nq1, rfl⟩)
    go_region
    go_wp2
    rw [HI.out]
    refine next_end rfl rfl rfl ?_ ((((Blk.drewN (Blk.new w 171 tokZero) _).set 0 _).set 1 _).set 2 _) rfl rfl ((((tokB0 w tokZero _).setCell (Nat.le_refl _) _).setCell (Nat.le_refl _) _).setCell (Nat.le_refl _) _)
    exact int_eq (show (a : Int) + 1 = ((a + 1 : Nat) : Int) by omega)
end Go.Proofs.YticpjdjdimpglaaGreatDoor

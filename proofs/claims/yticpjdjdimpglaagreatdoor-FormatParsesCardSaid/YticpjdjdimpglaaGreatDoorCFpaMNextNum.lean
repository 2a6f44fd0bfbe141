/- The scanner's next, at a number, by its contract. -/
import Derived.Test.YticpjdjdimpglaaGreatDoorCFpaMNext
namespace Go.Proofs.YticpjdjdimpglaaGreatDoor
set_option linter.unusedVariables false
set_option linter.unusedSimpArgs false
open Go.RowKit
theorem clsAt_num {l : List UInt8} {a : Nat} (ha : a < l.length) (h : NumAt l a) : clsAt l a = 3 ∨ (((clsAt l a : Int) == 2) = false ∧ ((clsAt l a : Int) == 3) = false ∧ ((bt l a : Int) == 45) = true ∧ clsAt l (a + 1) = 3) := by
  rcases h with h | ⟨h1, h2⟩
  · exact .inl ((clsAt_in ha).trans (cls_digit.2 h))
  · right
    have hc : clsAt l a = 0 := by rw [clsAt_in ha, h1]; rfl
    have h3 : a + 1 < l.length := by
      rcases Nat.lt_or_ge (a + 1) l.length with h | h
      · exact h
      · rw [bt_out l (a + 1) h] at h2; cases h2
    exact ⟨nb (by omega), nb (by omega), yb (by omega), (clsAt_in h3).trans (cls_digit.2 h2)⟩
set_option maxHeartbeats 4000000 in
set_option maxRecDepth 100000 in
theorem next_num (g : Nat) (A : Option Addr) (n c : Nat) (l : List UInt8) (a : Nat) (w : World) (h : Scn w g A n c l a) (ha : a < n) (hn : n ≤ 70000) (hnum : NumAt l a) :
    Calls Tryz.prog 168 #[.pointer (some ⟨g, 0, none⟩)] w (NRet (nextItem (l.drop a)) a w) := by
  have hlen := h.blen
  have hcap := h.rd.cap
  have hbig := h.rd.big
  have hg : g < w.heap.size := h.blk.lt
  have hs := h.src
  have hp := h.pos
  obtain ⟨b, off, rfl, hb, hc⟩ := h.rd.byte (k := a) ha
  have hbw : b < w.heap.size := by omega
  subst hlen
  have HI := Lib.hid (nx_num ha hnum)
  have hor := clsAt_num ha hnum
  have hrl := runLen_le (l.drop (a + 1))
  rw [List.length_drop] at hrl
  have hrd := fun m => ((h.alloc (.cells #[.int .i64 0, .string ⟨#[]⟩, .int .i64 0] 171)).drewN m).rd
  clear hnum
  generalize hrr : runLen (l.drop (a + 1)) = r at *
  have Hrr := Lib.hid hrr
  have hr2 : r ≤ l.length - (a + 1) := by omega
  have hcv0 := fun m => ((hrd m).sub (lo := a) (hi := a + 1 + r) (by omega) (by omega)).conv (P := Tryz.prog) Tryz.underlying35 Tryz.underlying5 Tryz.underlying9 (c - a)
  have hcv : ∀ m, (convert 35 9 (.slice (some ⟨b, off + a, none⟩) (a + 1 + r - a) (c - a))).run Tryz.prog ((w.alloc (.cells #[.int .i64 0, .string ⟨#[]⟩, .int .i64 0] 171)).drewN m) = .ok (.string (bs ((l.drop a).take (r + 1)))) ((w.alloc (.cells #[.int .i64 0, .string ⟨#[]⟩, .int .i64 0] 171)).drewN m) := fun m => by
    rw [show r + 1 = a + 1 + r - a from by omega]
    exact hcv0 m
  clear hcv0
  have hne : ¬ c = a := by omega
  have hpl : ((l.drop a).take (r + 1)).length = r + 1 := by rw [List.length_take, List.length_drop]; omega
  have HPL := Lib.hid hpl
  generalize hpp : (l.drop a).take (r + 1) = pc at *
  have Hpp := Lib.hid hpp
  have HCV := Lib.hid hcv
  clear hrr hrl hrd hpl hpp hcv
  by_cases hint : intB pc = true
  · have Hint := Lib.hid hint
    clear hint
    rcases hor with e2 | ⟨e2, e3, e4, e5⟩
    all_goals
      go_enter Tryz.func168, Tryz.ntmps168
      go_wp2
      go_quiet (fail)
      go_wp2_with (first
        | (go_at_call 167; refine (class_any g _ _ _ l a _ _ ((h.alloc _).drewN _) (by omega) (by omega)).mono ?_; rintro e w' ⟨rfl, nq1, rfl⟩)
        | (go_at_call 202; refine (run_any g _ _ _ l a _ _ ((h.alloc _).drewN _) (by omega) (by omega)).mono ?_; rw [show ((a : Int) + 1).toNat = a + 1 from by omega, Hrr.out]; rintro e w' ⟨rfl, nq2, rfl⟩))
      have hcv := HCV.out
      go_region_with (go_at_call 204; refine (isInteger_any pc _ (by have := HPL.out; omega)).mono ?_; rw [Hint.out]; rintro e w2 ⟨rfl, hb2⟩)
      all_goals
        clear hcv hc hs hp
        go_wp2_with (first
          | (go_at_call 203; refine (take_any g _ _ _ l a _ _ _ (((h.alloc _).drewN _).below hb2 (by simp; omega)) (by omega) (by omega)).mono ?_; rintro e w3 ⟨rfl, hb3⟩)
          | refine wpList_store_row rfl 171 (.tmp 2) (.tmp 73) rfl _ rfl #[.int .i64 2, .string (bs ((l.drop a).take (((a : Int) + 1 + (r : Int)).toNat - a))), .int .i64 a] tokZero rfl 171 ((tokBlk hb2).1.below hb3 (tokBlk hb2).1.lt) rfl infoTok (tok_one _ _ _) ?_)
        rw [HI.out, Hint.out, if_pos rfl]
        refine next_end rfl rfl rfl ?_ (Blk.setRow ((tokBlk hb2).1.below hb3 (tokBlk hb2).1.lt) _) ?_ rfl (Below.setRow ((tokBlk hb2).2.trans (hb3.mono (tokBlk hb2).2.size)) (Nat.le_refl _) _)
        · exact int_eq (show (a : Int) + 1 + (r : Int) = ((a + (r + 1) : Nat) : Int) by omega)
        · rw [show a + 1 + r - a = r + 1 from by omega, Hpp.out]
          rfl
  · have Hint := Lib.hid (show intB pc = false by simpa using hint)
    clear hint
    rcases hor with e2 | ⟨e2, e3, e4, e5⟩
    all_goals
      go_enter Tryz.func168, Tryz.ntmps168
      go_wp2
      go_quiet (fail)
      go_wp2_with (first
        | (go_at_call 167; refine (class_any g _ _ _ l a _ _ ((h.alloc _).drewN _) (by omega) (by omega)).mono ?_; rintro e w' ⟨rfl, nq1, rfl⟩)
        | (go_at_call 202; refine (run_any g _ _ _ l a _ _ ((h.alloc _).drewN _) (by omega) (by omega)).mono ?_; rw [show ((a : Int) + 1).toNat = a + 1 from by omega, Hrr.out]; rintro e w' ⟨rfl, nq2, rfl⟩))
      have hcv := HCV.out
      go_region_with (go_at_call 204; refine (isInteger_any pc _ (by have := HPL.out; omega)).mono ?_; rw [Hint.out]; rintro e w2 ⟨rfl, hb2⟩)
      all_goals
        clear hcv hc hs hp
        have Hb := (tokBlk hb2).1
        go_wp2_with (first
          | refine wpList_load_row rfl 171 (.tmp 2) rfl w.heap.size rfl 171 tokZero (0, 0) _ Hb Tryz.underlying171 rfl infoTok ?_
          | refine wpList_store_row rfl 171 (.tmp 2) (.tmp 75) rfl w.heap.size rfl tokZero tokZero rfl 171 Hb rfl infoTok (tok_one _ [] _) ?_)
        rw [HI.out, Hint.out, if_neg (by simp)]
        refine next_end rfl rfl rfl ?_ (Blk.setRow Hb _) rfl rfl (Below.setRow (tokBlk hb2).2 (Nat.le_refl _) _)
        exact int_eq (show (a : Int) + 1 + (r : Int) = ((a + (r + 1) : Nat) : Int) by omega)
end Go.Proofs.YticpjdjdimpglaaGreatDoor

/- The chapter's examples: sane() returns true. -/
import Derived.Test.YtnigdcppdkcllaaDoorMSplit
import Derived.Test.YtnigdcppdkcllaaDoorMSum
import Derived.Test.YtnigdcppdkcllaaDoorMRPars2
namespace Go.Proofs.YtnigdcppdkcllaaDoor
set_option linter.unusedVariables false
set_option linter.unusedSimpArgs false
open Go.RowKit

theorem rd_lit (w : World) (l : List Int) (hl : l.length ≤ 9223372036854775807) : Rd (w.alloc (.cells (l.map vi).toArray 3)) (w.heap.size + 1) 1 (some ⟨w.heap.size, 0, none⟩) l.length l.length (l.map vi) :=
  ⟨by simp, Nat.le_refl _, hl, fun _ => ⟨w.heap.size, 0, rfl, by omega, fun j u hu => by
    rw [Nat.zero_add]
    exact new_cells w (l.map vi) 3 j u hu⟩⟩
theorem ex1 : IsSplit 100 [1, 1, 1] [34, 33, 33] := by
  refine ⟨rfl, (fun i => i == 0), ⟨by decide, ?_⟩, by decide⟩
  have h : ∀ i, i < 3 → ∀ j, j < 3 → (i == 0) = true → (j == 0) = false → (rst (absI 100) (wsum [1, 1, 1]) [1, 1, 1] j < rst (absI 100) (wsum [1, 1, 1]) [1, 1, 1] i ∨ (rst (absI 100) (wsum [1, 1, 1]) [1, 1, 1] i = rst (absI 100) (wsum [1, 1, 1]) [1, 1, 1] j ∧ i < j)) := by decide
  exact fun i j hi hj h1 h2 => h i hi j hj h1 h2
theorem ex2 : IsSplit (-5) [1, 3] [-1, -4] := by
  refine ⟨rfl, (fun i => i == 1), ⟨by decide, ?_⟩, by decide⟩
  have h : ∀ i, i < 2 → ∀ j, j < 2 → (i == 1) = true → (j == 1) = false → (rst (absI (-5)) (wsum [1, 3]) [1, 3] j < rst (absI (-5)) (wsum [1, 3]) [1, 3] i ∨ (rst (absI (-5)) (wsum [1, 3]) [1, 3] i = rst (absI (-5)) (wsum [1, 3]) [1, 3] j ∧ i < j)) := by decide
  exact fun i j hi hj h1 h2 => h i hi j hj h1 h2
theorem ok1 : amtB 100 = true ∧ WOk [1, 1, 1] := ⟨by decide, by decide, by unfold okW; decide, by decide⟩
theorem ok2 : amtB (-5) = true ∧ WOk [1, 3] := ⟨by decide, by decide, by unfold okW; decide, by decide⟩
theorem is_of {m : Int} {ws l l' : List Int} (h : amtB m = true ∧ WOk ws) (hl : IsSplit m ws l) (h' : SplitIs m ws l') : l' = l ∧ splitE m ws = 0 := by
  have h0 := splitE_ok h.1 h.2
  rcases h' with ⟨_, h'⟩ | ⟨h', _⟩
  · exact ⟨h'.unique hl, h0⟩
  · exact absurd h0 h'
theorem ex3 : txt 123456 = [49, 50, 51, 52, 46, 53, 54] := by decide +kernel
theorem ex4 {n e : Int} (h : ParseIs [45, 48, 46, 48, 48] n e) : e = 50 := by
  rcases h with ⟨_, h2, h3⟩ | ⟨h1, _⟩
  · exfalso
    have h4 := txt_atoi h2
    rw [h3] at h4
    have h5 : Lib.atoiAll (undot [45, 48, 46, 48, 48]) = .ok 0 := by decide +kernel
    rw [h5] at h4
    injection h4 with h4
    subst h4
    revert h3
    decide +kernel
  · exact h1
theorem ex5 : txtR (-5) = [45, 48, 46, 48, 53] := by decide +kernel

/-- What stays when a call makes memory. -/
theorem rd_on {w w' : World} {n c : Nat} {A : Option Addr} {xs : List Value} (h : Rd w w.heap.size 1 A n c xs) (hb : Below w.heap.size w w') : Rd w' w'.heap.size 1 A n c xs := (h.below hb).more hb.size
set_option maxRecDepth 100000 in
set_option maxHeartbeats 4000000 in
theorem sane_any (w : World) (hg : Gd w) : Calls Tryd.prog 10 #[] w fun e w' => e = .returned (.bool true) ∧ Below w.heap.size w w' := by
  have HG := Lib.hid hg
  clear hg
  have r1 := Lib.hid (rd_lit w [1, 1, 1] (by decide))
  go_enter Tryd.func10, Tryd.ntmps10
  go_wp2_with (fail)
  refine (split_any (some ⟨w.heap.size, 0, none⟩) 3 3 [1, 1, 1] 100 _ (r1.out.more (by simp))).mono ?_
  rintro e w1 ⟨A1, n1, c1, l1, rfl, hs1, hr1', hb1'⟩
  obtain ⟨rfl, hE1⟩ := is_of ok1 ex1 hs1
  rw [hE1]
  obtain rfl : 3 = n1 := hr1'.ilen
  have hb1 := Lib.hid (((Below.refl _ w).alloc (Nat.le_refl _) (.cells ([1, 1, 1].map vi).toArray 3)).trans (hb1'.mono (by simp)))
  have hr1 := Lib.hid hr1'
  have r2 := Lib.hid (rd_lit w1 [1, 3] (by decide))
  clear hE1 hs1 hr1' hb1' r1
  go_wp2_with (fail)
  refine (split_any (some ⟨w1.heap.size, 0, none⟩) 2 2 [1, 3] (-5) _ (r2.out.more (by simp))).mono ?_
  rintro e w2 ⟨A2, n2, c2, l2, rfl, hs2, hr2', hb2'⟩
  obtain ⟨rfl, hE2⟩ := is_of ok2 ex2 hs2
  rw [hE2]
  obtain rfl : 2 = n2 := hr2'.ilen
  have hb12 : Below w1.heap.size w1 w2 := ((Below.refl _ w1).alloc (Nat.le_refl _) (.cells ([1, 3].map vi).toArray 3)).trans (hb2'.mono (by simp))
  have hb2 := Lib.hid (hb1.out.trans (hb12.mono hb1.out.size))
  have hr12 := Lib.hid (rd_on hr1.out hb12)
  have hr2 := Lib.hid hr2'
  clear hE2 hs2 hr2' hb2' r2 hb12 hr1 hb1
  go_wp2_with (fail)
  refine (part_any (-1999) 500 w2).mono ?_
  rintro e w2' ⟨rfl, rfl⟩
  rw [show partN (-1999) 500 = -999 by decide, show partE (-1999) 500 = 0 by decide]
  go_wp2_with (fail)
  refine (text_any (-5) w2 (HG.out.below hb2.out).now.tab).mono ?_
  rintro e w3 ⟨rfl, hb3'⟩
  rw [ex5, show amtE (-5) = 0 by decide]
  have hb3 := Lib.hid (hb2.out.trans (hb3'.mono hb2.out.size))
  have hr13 := Lib.hid (rd_on hr12.out hb3')
  have hr23 := Lib.hid (rd_on hr2.out hb3')
  clear hb3' hr12 hr2 hb2
  go_wp2_with (fail)
  refine (parse_any [49, 50, 51, 52, 46, 53, 54] (by decide) w3 (HG.out.below hb3.out)).mono ?_
  rintro e w4 ⟨nn, ec, rfl, hp, hb4'⟩
  obtain ⟨rfl, rfl⟩ := hp.unique (parse_hit (v := 123456) (by decide) ex3)
  have hb4 := Lib.hid (hb3.out.trans (hb4'.mono hb3.out.size))
  have hr14 := Lib.hid (rd_on hr13.out hb4')
  have hr24 := Lib.hid (rd_on hr23.out hb4')
  clear hb4' hr13 hr23 hb3 hp
  go_wp2_with (fail)
  refine (parse_any [45, 48, 46, 48, 48] (by decide) w4 (HG.out.below hb4.out)).mono ?_
  rintro e w5 ⟨nn, ec, rfl, hp, hb5'⟩
  obtain rfl := ex4 hp
  have hb5 := Lib.hid (hb4.out.trans (hb5'.mono hb4.out.size))
  have hr15 := Lib.hid (rd_on hr14.out hb5')
  have hr25 := Lib.hid (rd_on hr24.out hb5')
  have r3 := Lib.hid (rd_lit w5 [34, 33, 33] (by decide))
  clear hb5' hr14 hr24 hb4 hp
  go_wp2_with (fail)
  refine (sameI_any A1 (some ⟨w5.heap.size, 0, none⟩) 3 3 c1 3 (w5.heap.size + 1) [34, 33, 33] [34, 33, 33] _ ((hr15.out.alloc (Nat.le_refl _) _).more (by omega)) r3.out).mono ?_
  rintro e w6 ⟨rfl, hb6'⟩
  have hb56 : Below w5.heap.size w5 w6 := ((Below.refl _ w5).alloc (Nat.le_refl _) (.cells ([34, 33, 33].map vi).toArray 3)).trans (hb6'.mono (by simp))
  have hb6 := Lib.hid (hb5.out.trans (hb56.mono hb5.out.size))
  have hr26 := Lib.hid (rd_on hr25.out hb56)
  have r4 := Lib.hid (rd_lit w6 [-1, -4] (by decide))
  clear hb6' hb56 hr15 hr25 hb5 r3
  rw [show decide (([34, 33, 33] : List Int) = [34, 33, 33]) = true from rfl]
  go_wp2_with (fail)
  refine (sameI_any A2 (some ⟨w6.heap.size, 0, none⟩) 2 2 c2 2 (w6.heap.size + 1) [-1, -4] [-1, -4] _ ((hr26.out.alloc (Nat.le_refl _) _).more (by omega)) r4.out).mono ?_
  rintro e w7 ⟨rfl, hb7'⟩
  have hb67 : Below w6.heap.size w6 w7 := ((Below.refl _ w6).alloc (Nat.le_refl _) (.cells ([-1, -4].map vi).toArray 3)).trans (hb7'.mono (by simp))
  have hb7 := Lib.hid (hb6.out.trans (hb67.mono hb6.out.size))
  clear hb7' hb67 hr26 hb6 r4
  rw [show decide (([-1, -4] : List Int) = [-1, -4]) = true from rfl]
  go_wp2_with (fail)
  refine (check_no 1125899906842625 w7 (by decide)).mono ?_
  rintro e w8 ⟨rfl, rfl⟩
  go_wp2
  go_ret
  exact ⟨rfl, hb7.out⟩
end Go.Proofs.YtnigdcppdkcllaaDoor

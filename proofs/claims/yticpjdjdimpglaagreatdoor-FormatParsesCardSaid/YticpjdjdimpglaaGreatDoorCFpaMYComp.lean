/- The parser's comparison by its contract. -/
import Derived.Test.YticpjdjdimpglaaGreatDoorCFpaMYJoin
import Derived.Test.YticpjdjdimpglaaGreatDoorCFpaMCmp2
namespace Go.Proofs.YticpjdjdimpglaaGreatDoor
set_option linter.unusedVariables false
set_option linter.unusedSimpArgs false
open Go.RowKit
set_option maxHeartbeats 4000000 in
set_option maxRecDepth 100000 in
theorem ycomp_any (B g : Nat) (A : Option Addr) (n c : Nat) (T : List Tok) (a : Nat) (w : World) (h : PSt w B g A n c T a) (hT : TOk T) (ha : a ≤ 65537) :
    Calls Tryz.prog 207 #[.pointer (some ⟨g, 0, none⟩)] w (PPost w B g A n c T (pcomp T a) (CV w)) := by
  have HS := Lib.hid h
  have HT := Lib.hid hT
  have hmm := @run_makeMap Tryz.prog
  have hmf : ∀ (fn : Fn) (first cap : Array Value) (w : World), (Instr.makeFunc fn first cap).run Tryz.prog w = .ok (.func fn first cap) w := fun _ _ _ _ => rfl
  clear h hT
  go_enter Tryz.func207, Tryz.ntmps207
  go_wp2_with (with_reducible refine at_ins rfl ?_; refine Hid.out ?_)
  have hM0 := MSt.made (w := w.alloc (.cells #[.int .i64 0, .int .i64 0, .int .i64 0, .slice none 0 0] 24)) (w' := w.alloc (.cells #[.int .i64 0, .int .i64 0, .int .i64 0, .slice none 0 0] 24)) (b := w.heap.size + 1) (Below.refl _ _) (by simp)
  refine Lib.hid ?_
  refine wpList_insert_st (.tmp 9) hM0 kTied 1 (by decide) (by decide) (by decide) ?_ ?_ ?_ ?_
  · rfl
  · rfl
  · rfl
  intro w1 hM1
  clear hM0
  go_wp2_with (with_reducible refine at_ins rfl ?_; refine Hid.out ?_)
  refine Lib.hid ?_
  refine wpList_insert_st (.tmp 9) hM1 kRound 2 (by decide) (by decide) (by decide) ?_ ?_ ?_ ?_
  · rfl
  · rfl
  · rfl
  intro w2 hM2
  clear hM1
  go_wp2_with (with_reducible refine at_ins rfl ?_; refine Hid.out ?_)
  refine Lib.hid ?_
  refine wpList_insert_st (.tmp 9) hM2 kFin 3 (by decide) (by decide) (by decide) ?_ ?_ ?_ ?_
  · rfl
  · rfl
  · rfl
  intro w3 hM3
  clear hM2
  go_wp2_with (with_reducible refine at_ins rfl ?_; refine Hid.out ?_)
  refine Lib.hid ?_
  refine wpList_insert_st (.tmp 9) hM3 kClubs 4 (by decide) (by decide) (by decide) ?_ ?_ ?_ ?_
  · rfl
  · rfl
  · rfl
  intro w4 hM4
  clear hM3
  go_wp2_with (with_reducible refine at_ins rfl ?_; refine Hid.out ?_)
  have hgw := HS.out.lt
  have hb4 : Below w.heap.size w w4 := ((Below.refl _ _).alloc (Nat.le_refl _) _).trans (hM4.1.mono (by simp))
  have hr4 : Blk w4 w.heap.size 24 #[.int .i64 0, .int .i64 0, .int .i64 0, .slice none 0 0] := (Blk.new w _ _).below hM4.1 (by simp)
  refine (ychoose_any B g A n c T a _ wVars w4 (HS.out.below hb4) HT.out ha hM4.2.2).mono ?_
  rintro e w5 ⟨hO', hp⟩
  have hO5 := Lib.hid ((Only.of_below hb4).trans hO')
  have hr5 := hr4.only hO' (by omega)
  clear hM4 hO' hb4 hr4
  have hin := pchoose_in T wVars a
  cases hv : pchoose T wVars a with
  | bad m =>
    rw [hv] at hp
    obtain ⟨rfl, hP⟩ := hp
    have HE := Lib.hid (show pcomp T a = .bad m by unfold pcomp; rw [hv]; rfl)
    clear hv hin
    go_wp2
    refine ⟨rfl, ?_⟩
    unfold PPost
    rw [HE.out]
    exact ⟨hO5.out, rfl, hP⟩
  | ok v m =>
    rw [hv] at hp hin
    obtain ⟨⟨_, rfl, rfl⟩, hP'⟩ := hp
    have HP5 := Lib.hid hP'
    have HV := Lib.hid hv
    have hm : m ≤ 65537 := Nat.le_trans hin.2 HT.out.len
    clear hv hin hP'
    go_wp2_with (with_reducible refine at_ins rfl ?_; refine Hid.out ?_)
    have hN0 := MSt.made (w := w5.alloc (.cells #[.int .i64 v] 3)) (w' := w5.alloc (.cells #[.int .i64 v] 3)) (b := w5.heap.size + 1) (Below.refl _ _) (by simp)
    refine Lib.hid ?_
    refine wpList_insert_st (.tmp 13) hN0 kGe 1 (by decide) (by decide) (by decide) ?_ ?_ ?_ ?_
    · rfl
    · rfl
    · rfl
    intro v1 hN1
    clear hN0
    go_wp2_with (with_reducible refine at_ins rfl ?_; refine Hid.out ?_)
    refine Lib.hid ?_
    refine wpList_insert_st (.tmp 13) hN1 kGt 2 (by decide) (by decide) (by decide) ?_ ?_ ?_ ?_
    · rfl
    · rfl
    · rfl
    intro v2 hN2
    clear hN1
    go_wp2_with (with_reducible refine at_ins rfl ?_; refine Hid.out ?_)
    refine Lib.hid ?_
    refine wpList_insert_st (.tmp 13) hN2 kLt 3 (by decide) (by decide) (by decide) ?_ ?_ ?_ ?_
    · rfl
    · rfl
    · rfl
    intro v3 hN3
    clear hN2
    go_wp2_with (with_reducible refine at_ins rfl ?_; refine Hid.out ?_)
    refine Lib.hid ?_
    refine wpList_insert_st (.tmp 13) hN3 kLe 4 (by decide) (by decide) (by decide) ?_ ?_ ?_ ?_
    · rfl
    · rfl
    · rfl
    intro v4 hN4
    clear hN3
    go_wp2_with (with_reducible refine at_ins rfl ?_; refine Hid.out ?_)
    refine Lib.hid ?_
    refine wpList_insert_st (.tmp 13) hN4 kEq 5 (by decide) (by decide) (by decide) ?_ ?_ ?_ ?_
    · rfl
    · rfl
    · rfl
    intro v5 hN5
    clear hN4
    go_wp2_with (with_reducible refine at_ins rfl ?_; refine Hid.out ?_)
    have hbx : Blk v5 w5.heap.size 3 #[.int .i64 v] := (Blk.new w5 _ _).below hN5.1 (by simp)
    have hb5 : Below w5.heap.size w5 v5 := ((Below.refl _ _).alloc (Nat.le_refl _) _).trans (hN5.1.mono (by simp))
    refine (ychoose_any B g A n c T m _ wOps v5 (HP5.out.below hb5) HT.out hm hN5.2.2).mono ?_
    rintro e v6 ⟨hO', hp⟩
    have hg5 := HP5.out.lt
    have hbx6 := hbx.only hO' (by omega)
    have hr6 := (hr5.below hb5 hr5.lt).only hO' (by omega)
    have hO6 := Lib.hid (hO5.out.trans ((Only.of_below hb5).trans hO'))
    have hz6 : w.heap.size ≤ w5.heap.size := hO5.out.size
    clear hN5 hO' hb5 hbx hr5
    have hin := pchoose_in T wOps m
    cases hv : pchoose T wOps m with
    | bad q =>
      rw [hv] at hp
      obtain ⟨rfl, hP⟩ := hp
      have HE := Lib.hid (show pcomp T a = .bad q by unfold pcomp; rw [HV.out]; show ((pchoose T wOps m).bind _) = _; rw [hv]; rfl)
      clear hv hin
      go_wp2
      refine ⟨rfl, ?_⟩
      unfold PPost
      rw [HE.out]
      exact ⟨hO6.out, rfl, hP⟩
    | ok op q =>
      rw [hv] at hp hin
      obtain ⟨⟨_, rfl, rfl⟩, hP'⟩ := hp
      have HP6 := Lib.hid hP'
      have HW := Lib.hid hv
      have hq : q ≤ 65537 := Nat.le_trans hin.2 HT.out.len
      clear hv hin hP'
      go_wp2_with (fail)
      refine (yint_any B g A n c T q v6 HP6.out HT.out hq).mono ?_
      rintro e v7 ⟨hO', hp⟩
      have hbx7 := hbx6.only hO' (by omega)
      have hr7 := hr6.only hO' (by omega)
      have hO7 := Lib.hid (hO6.out.trans hO')
      clear hO' hbx6 hr6
      cases hv : pint T q with
      | bad r =>
        rw [hv] at hp
        obtain ⟨rfl, hP⟩ := hp
        have HE := Lib.hid (show pcomp T a = .bad r by unfold pcomp; rw [HV.out]; show ((pchoose T wOps m).bind _) = _; rw [HW.out]; show ((pint T q).bind _) = _; rw [hv]; rfl)
        clear hv
        go_wp2
        refine ⟨rfl, ?_⟩
        unfold PPost
        rw [HE.out]
        exact ⟨hO7.out, rfl, hP⟩
      | ok x r =>
        rw [hv] at hp
        obtain ⟨⟨_, rfl, rfl, hx1, hx2⟩, hP'⟩ := hp
        have HP7 := Lib.hid hP'
        have HE := Lib.hid (show pcomp T a = .ok (compare_ v op x) r by unfold pcomp; rw [HV.out]; show ((pchoose T wOps m).bind _) = _; rw [HW.out]; show ((pint T q).bind _) = _; rw [hv]; rfl)
        clear hv hP'
        have hz7 := Lib.hid hO7.out.size
        have hr7l := hr7.lt
        go_wp2_with (fail)
        · refine (yleast_any x v _ v7 hbx7).mono ?_
          rintro e v8 ⟨rfl, hb8⟩
          have hr8 := hr7.below hb8 hr7.lt
          have HPX := Lib.hid (HP7.out.below hb8)
          have HOX := Lib.hid (hO7.out.trans (Only.of_below hb8))
          unfold condV least
          dsimp only [vi]
          obtain ⟨x0, x1, x2, x3, f0, f1, f2, f3⟩ := hr8.four
          go_wp2_with (fail)
          first | (refine calls_named ?_; intro W hW) | (refine body_named ?_; intro W hW) | (refine wpList_named ?_; intro W hW) | (refine wp_named ?_; intro W hW)
          obtain ⟨hk, hO⟩ : Blk W w.heap.size 24 #[.int .i64 1, .int .i64 v, .int .i64 x, .slice none 0 0] ∧ Only (· = w.heap.size) v8 W := by rw [← hW]; exact hr8.set4
          clear hW x0 x1 x2 x3 f0 f1 f2 f3
          obtain ⟨y0, y1, y2, y3, _⟩ := hk.four
          refine bodyPost_ret (by simp [results, Tryz.results207, go_sem, y0, y1, y2, y3]; try rfl) rfl ?_
          unfold PPost
          rw [HE.out, show compare_ v op x = _ from by unfold compare_; rw [if_pos (eq_of_beq (by assumption))]]
          refine ⟨(HOX.out).new hO (fun k e => by rw [e]; exact Nat.le_refl _), ⟨_, rfl, ?_⟩, (HPX.out.only hO (by omega) (fun k e => by rw [e]; have := HPX.out.lb; omega))⟩
          exact ⟨none, 0, 0, rfl, RepH.nil⟩
        · refine (yleast_any (x + 1) v _ v7 hbx7).mono ?_
          rintro e v8 ⟨rfl, hb8⟩
          have hr8 := hr7.below hb8 hr7.lt
          have HPX := Lib.hid (HP7.out.below hb8)
          have HOX := Lib.hid (hO7.out.trans (Only.of_below hb8))
          unfold condV least
          dsimp only [vi]
          obtain ⟨x0, x1, x2, x3, f0, f1, f2, f3⟩ := hr8.four
          go_wp2_with (fail)
          first | (refine calls_named ?_; intro W hW) | (refine body_named ?_; intro W hW) | (refine wpList_named ?_; intro W hW) | (refine wp_named ?_; intro W hW)
          obtain ⟨hk, hO⟩ : Blk W w.heap.size 24 #[.int .i64 1, .int .i64 v, .int .i64 (x + 1), .slice none 0 0] ∧ Only (· = w.heap.size) v8 W := by rw [← hW]; exact hr8.set4
          clear hW x0 x1 x2 x3 f0 f1 f2 f3
          obtain ⟨y0, y1, y2, y3, _⟩ := hk.four
          refine bodyPost_ret (by simp [results, Tryz.results207, go_sem, y0, y1, y2, y3]; try rfl) rfl ?_
          unfold PPost
          rw [HE.out, show compare_ v op x = _ from by unfold compare_; rw [if_neg (ne_of_beq_false (by assumption)), if_pos (eq_of_beq (by assumption))]]
          refine ⟨(HOX.out).new hO (fun k e => by rw [e]; exact Nat.le_refl _), ⟨_, rfl, ?_⟩, (HPX.out.only hO (by omega) (fun k e => by rw [e]; have := HPX.out.lb; omega))⟩
          exact ⟨none, 0, 0, rfl, RepH.nil⟩
        · refine (yleast_any x v _ v7 hbx7).mono ?_
          rintro e v8 ⟨rfl, hb8⟩
          have hr8 := hr7.below hb8 hr7.lt
          have HP8 := Lib.hid (HP7.out.below hb8)
          have HO8 := Lib.hid (hO7.out.trans (Only.of_below hb8))
          have hz8 := hb8.size
          unfold condV least
          dsimp only [vi]
          go_wp2_with (fail)
          refine (ynot_any 1 v x none 0 0 v8).mono ?_
          rintro e v9 ⟨b9, hb9, rfl, hbb, hk9⟩
          have hr9 := hr8.below hbb hr8.lt
          have HPX := Lib.hid (HP8.out.below hbb)
          have HOX := Lib.hid (HO8.out.trans (Only.of_below hbb))
          obtain ⟨x0, x1, x2, x3, f0, f1, f2, f3⟩ := hr9.four
          go_wp2_with (fail)
          first | (refine calls_named ?_; intro W hW) | (refine body_named ?_; intro W hW) | (refine wpList_named ?_; intro W hW) | (refine wp_named ?_; intro W hW)
          obtain ⟨hk, hO⟩ : Blk W w.heap.size 24 #[.int .i64 4, .int .i64 0, .int .i64 0, .slice (some ⟨b9, 0, none⟩) 1 1] ∧ Only (· = w.heap.size) v9 W := by rw [← hW]; exact hr9.set4
          clear hW x0 x1 x2 x3 f0 f1 f2 f3
          obtain ⟨y0, y1, y2, y3, _⟩ := hk.four
          refine bodyPost_ret (by simp [results, Tryz.results207, go_sem, y0, y1, y2, y3]; try rfl) rfl ?_
          unfold PPost
          rw [HE.out, show compare_ v op x = _ from by unfold compare_; rw [if_neg (ne_of_beq_false (by assumption)), if_neg (ne_of_beq_false (by assumption)), if_pos (eq_of_beq (by assumption))]]
          refine ⟨(HOX.out).new hO (fun k e => by rw [e]; exact Nat.le_refl _), ⟨_, rfl, ?_⟩, (HPX.out.only hO (by omega) (fun k e => by rw [e]; have := HPX.out.lb; omega))⟩
          have hkW := hk9.only hO (by omega)
          exact ⟨some ⟨b9, 0, none⟩, 1, 1, rfl, RepH.blk (F := (cnot (least v x)).ps) hkW (xs := [vi 1, vi v, vi x, .slice none 0 0]) (RepF.cons RepH.nil rfl) (by omega) (by simp [cnot, CF.one, CF.len])⟩
        · refine (yleast_any (x + 1) v _ v7 hbx7).mono ?_
          rintro e v8 ⟨rfl, hb8⟩
          have hr8 := hr7.below hb8 hr7.lt
          have HP8 := Lib.hid (HP7.out.below hb8)
          have HO8 := Lib.hid (hO7.out.trans (Only.of_below hb8))
          have hz8 := hb8.size
          unfold condV least
          dsimp only [vi]
          go_wp2_with (fail)
          refine (ynot_any 1 v (x + 1) none 0 0 v8).mono ?_
          rintro e v9 ⟨b9, hb9, rfl, hbb, hk9⟩
          have hr9 := hr8.below hbb hr8.lt
          have HPX := Lib.hid (HP8.out.below hbb)
          have HOX := Lib.hid (HO8.out.trans (Only.of_below hbb))
          obtain ⟨x0, x1, x2, x3, f0, f1, f2, f3⟩ := hr9.four
          go_wp2_with (fail)
          first | (refine calls_named ?_; intro W hW) | (refine body_named ?_; intro W hW) | (refine wpList_named ?_; intro W hW) | (refine wp_named ?_; intro W hW)
          obtain ⟨hk, hO⟩ : Blk W w.heap.size 24 #[.int .i64 4, .int .i64 0, .int .i64 0, .slice (some ⟨b9, 0, none⟩) 1 1] ∧ Only (· = w.heap.size) v9 W := by rw [← hW]; exact hr9.set4
          clear hW x0 x1 x2 x3 f0 f1 f2 f3
          obtain ⟨y0, y1, y2, y3, _⟩ := hk.four
          refine bodyPost_ret (by simp [results, Tryz.results207, go_sem, y0, y1, y2, y3]; try rfl) rfl ?_
          unfold PPost
          rw [HE.out, show compare_ v op x = _ from by unfold compare_; rw [if_neg (ne_of_beq_false (by assumption)), if_neg (ne_of_beq_false (by assumption)), if_neg (ne_of_beq_false (by assumption)), if_pos (eq_of_beq (by assumption))]]
          refine ⟨(HOX.out).new hO (fun k e => by rw [e]; exact Nat.le_refl _), ⟨_, rfl, ?_⟩, (HPX.out.only hO (by omega) (fun k e => by rw [e]; have := HPX.out.lb; omega))⟩
          have hkW := hk9.only hO (by omega)
          exact ⟨some ⟨b9, 0, none⟩, 1, 1, rfl, RepH.blk (F := (cnot (least v (x + 1))).ps) hkW (xs := [vi 1, vi v, vi (x + 1), .slice none 0 0]) (RepF.cons RepH.nil rfl) (by omega) (by simp [cnot, CF.one, CF.len])⟩
        · refine (yleast_any x v _ v7 hbx7).mono ?_
          rintro e v8 ⟨rfl, hb8⟩
          have hr8 := hr7.below hb8 hr7.lt
          have hbx8 := hbx7.below hb8 hbx7.lt
          have HP8 := Lib.hid (HP7.out.below hb8)
          have HO8 := Lib.hid (hO7.out.trans (Only.of_below hb8))
          have hz8 := hb8.size
          unfold condV least
          dsimp only [vi]
          go_wp2_with (fail)
          refine (yleast_any (x + 1) v _ v8 hbx8).mono ?_
          rintro e v9 ⟨rfl, hb9⟩
          have hr9 := hr8.below hb9 hr8.lt
          have HP9 := Lib.hid (HP8.out.below hb9)
          have HO9 := Lib.hid (HO8.out.trans (Only.of_below hb9))
          have hz9 := hb9.size
          unfold condV least
          dsimp only [vi]
          go_wp2_with (fail)
          refine (ynot_any 1 v (x + 1) none 0 0 v9).mono ?_
          rintro e v10 ⟨b10, hb10, rfl, hbb, hk10⟩
          have hr10 := hr9.below hbb hr9.lt
          have HPX := Lib.hid (HP9.out.below hbb)
          have HOX := Lib.hid (HO9.out.trans (Only.of_below hbb))
          have hz10 := hbb.size
          obtain ⟨x0, x1, x2, x3, f0, f1, f2, f3⟩ := hr10.four
          have hl10 := hr10.lt
          go_wp2_with (fail)
          first | (refine calls_named ?_; intro W hW) | (refine body_named ?_; intro W hW) | (refine wpList_named ?_; intro W hW) | (refine wp_named ?_; intro W hW)
          have h4 := hr10.set4 (y0 := .int .i64 2) (y1 := .int .i64 0) (y2 := .int .i64 0) (y3 := .slice (some ⟨v10.heap.size, 0, none⟩) 2 2)
          have hsV : ((((v10.setCell ⟨w.heap.size, 0, none⟩ (.int .i64 2)).setCell ⟨w.heap.size, 1, none⟩ (.int .i64 0)).setCell ⟨w.heap.size, 2, none⟩ (.int .i64 0)).setCell ⟨w.heap.size, 3, none⟩ (.slice (some ⟨v10.heap.size, 0, none⟩) 2 2)).heap.size = v10.heap.size := by simp
          generalize ((((v10.setCell ⟨w.heap.size, 0, none⟩ (.int .i64 2)).setCell ⟨w.heap.size, 1, none⟩ (.int .i64 0)).setCell ⟨w.heap.size, 2, none⟩ (.int .i64 0)).setCell ⟨w.heap.size, 3, none⟩ (.slice (some ⟨v10.heap.size, 0, none⟩) 2 2)) = V at h4 hW hsV
          have hkB : Blk W v10.heap.size 24 #[vi 1, vi v, vi x, .slice none 0 0, vi 4, vi 0, vi 0, .slice (some ⟨b10, 0, none⟩) 1 1] := by rw [← hW, ← hsV]; exact Blk.new _ _ _
          have hk : Blk W w.heap.size 24 #[.int .i64 2, .int .i64 0, .int .i64 0, .slice (some ⟨v10.heap.size, 0, none⟩) 2 2] := by rw [← hW]; exact h4.1.alloc _
          have hO : Only (· = w.heap.size) v10 W := by rw [← hW]; exact h4.2.trans (Only.of_below ((Below.refl _ _).alloc (Nat.le_refl _) _))
          clear hW h4 hsV x0 x1 x2 x3 f0 f1 f2 f3
          have hkX := hk10.only hO (by omega)
          obtain ⟨y0, y1, y2, y3, _⟩ := hk.four
          refine bodyPost_ret (by simp [results, Tryz.results207, go_sem, y0, y1, y2, y3]; try rfl) rfl ?_
          unfold PPost
          rw [HE.out, show compare_ v op x = _ from by unfold compare_; rw [if_neg (ne_of_beq_false (by assumption)), if_neg (ne_of_beq_false (by assumption)), if_neg (ne_of_beq_false (by assumption)), if_neg (ne_of_beq_false (by assumption))]]
          refine ⟨(HOX.out).new hO (fun k e => by rw [e]; exact Nat.le_refl _), ⟨_, rfl, ?_⟩, (HPX.out.only hO (by omega) (fun k e => by rw [e]; have := HPX.out.lb; omega))⟩
          have hin1 : RepH (fun k => k < w.heap.size) W (cnot (least v (x + 1))).ps (some ⟨b10, 0, none⟩) 1 1 := RepH.blk (F := (cnot (least v (x + 1))).ps) hkX (xs := [vi 1, vi v, vi (x + 1), .slice none 0 0]) (RepF.cons RepH.nil rfl) (by omega) (by simp [cnot, CF.one, CF.len])
          exact ⟨some ⟨v10.heap.size, 0, none⟩, 2, 2, rfl, RepH.blk (F := .one (least v x) (.one (cnot (least v (x + 1))) .nil)) hkB (xs := [vi 1, vi v, vi x, .slice none 0 0, vi 4, vi 0, vi 0, .slice (some ⟨b10, 0, none⟩) 1 1]) (RepF.cons RepH.nil (RepF.cons hin1 rfl)) (by omega) (by simp [CF.one, CF.len])⟩
end Go.Proofs.YticpjdjdimpglaaGreatDoor

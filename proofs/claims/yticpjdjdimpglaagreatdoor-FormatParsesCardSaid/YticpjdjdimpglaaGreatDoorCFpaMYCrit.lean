/- The parser's criterion by its contract. -/
import Derived.Test.YticpjdjdimpglaaGreatDoorCFpaMYJoin
import Derived.Test.YticpjdjdimpglaaGreatDoorCFpaMCmp2
namespace Go.Proofs.YticpjdjdimpglaaGreatDoor
set_option linter.unusedVariables false
set_option linter.unusedSimpArgs false
open Go.RowKit
set_option maxHeartbeats 4000000 in
set_option maxRecDepth 100000 in
theorem ycrit_any (B g : Nat) (A : Option Addr) (n c : Nat) (T : List Tok) (a : Nat) (w : World) (h : PSt w B g A n c T a) (hT : TOk T) (ha : a ≤ 65537) :
    Calls Tryz.prog 174 #[.pointer (some ⟨g, 0, none⟩)] w (PPost w B g A n c T (pcrit T a) fun x _ v => v = .int .i64 x) := by
  have HS := Lib.hid h
  have HT := Lib.hid hT
  have hmm := @run_makeMap Tryz.prog
  clear h hT
  go_enter Tryz.func174, Tryz.ntmps174
  go_wp2_with (with_reducible refine at_ins rfl ?_; refine Hid.out ?_)
  have hM0 := MSt.made (w := w) (w' := w) (b := w.heap.size) (Below.refl _ _) rfl
  refine Lib.hid ?_
  refine wpList_insert_st (.tmp 5) hM0 kPoints 1 (by decide) (by decide) (by decide) ?_ ?_ ?_ ?_
  · rfl
  · rfl
  · rfl
  intro w1 hM1
  clear hM0
  go_wp2_with (with_reducible refine at_ins rfl ?_; refine Hid.out ?_)
  refine Lib.hid ?_
  refine wpList_insert_st (.tmp 5) hM1 kDiff 2 (by decide) (by decide) (by decide) ?_ ?_ ?_ ?_
  · rfl
  · rfl
  · rfl
  intro w2 hM2
  clear hM1
  go_wp2_with (with_reducible refine at_ins rfl ?_; refine Hid.out ?_)
  refine Lib.hid ?_
  refine wpList_insert_st (.tmp 5) hM2 kGoals 3 (by decide) (by decide) (by decide) ?_ ?_ ?_ ?_
  · rfl
  · rfl
  · rfl
  intro w3 hM3
  clear hM2
  go_wp2_with (with_reducible refine at_ins rfl ?_; refine Hid.out ?_)
  refine Lib.hid ?_
  refine wpList_insert_st (.tmp 5) hM3 kWins 4 (by decide) (by decide) (by decide) ?_ ?_ ?_ ?_
  · rfl
  · rfl
  · rfl
  intro w4 hM4
  clear hM3
  go_wp2_with (with_reducible refine at_ins rfl ?_; refine Hid.out ?_)
  refine Lib.hid ?_
  refine wpList_insert_st (.tmp 5) hM4 kAway (-1) (by decide) (by decide) (by decide) ?_ ?_ ?_ ?_
  · rfl
  · rfl
  · rfl
  intro w5 hM5
  clear hM4
  go_wp2_with (with_reducible refine at_ins rfl ?_; refine Hid.out ?_)
  refine Lib.hid ?_
  refine wpList_insert_st (.tmp 5) hM5 kFair 7 (by decide) (by decide) (by decide) ?_ ?_ ?_ ?_
  · rfl
  · rfl
  · rfl
  intro w6 hM6
  clear hM5
  go_wp2_with (with_reducible refine at_ins rfl ?_; refine Hid.out ?_)
  refine Lib.hid ?_
  refine wpList_insert_st (.tmp 5) hM6 kHead (-2) (by decide) (by decide) (by decide) ?_ ?_ ?_ ?_
  · rfl
  · rfl
  · rfl
  intro w7 hM7
  clear hM6
  go_wp2_with (with_reducible refine at_ins rfl ?_; refine Hid.out ?_)
  refine Lib.hid ?_
  refine wpList_insert_st (.tmp 5) hM7 kLots 12 (by decide) (by decide) (by decide) ?_ ?_ ?_ ?_
  · rfl
  · rfl
  · rfl
  intro w8 hM8
  clear hM7
  go_wp2_with (with_reducible refine at_ins rfl ?_; refine Hid.out ?_)
  have hgw := HS.out.lt
  have hb8 : Below w.heap.size w w8 := hM8.1
  refine (ychoose_any B g A n c T a _ wBy w8 (HS.out.below hb8) HT.out ha hM8.2.2).mono ?_
  rintro e v1 ⟨hO', hp⟩
  have hO1 := Lib.hid ((Only.of_below hb8).trans hO')
  clear hM8 hO' hb8
  have hin := pchoose_in T wBy a
  cases hv : pchoose T wBy a with
  | bad m =>
    rw [hv] at hp
    obtain ⟨rfl, hP⟩ := hp
    have HE := Lib.hid (show pcrit T a = .bad m by unfold pcrit; rw [hv]; rfl)
    clear hv hin
    go_wp2
    refine ⟨rfl, ?_⟩
    unfold PPost
    rw [HE.out]
    exact ⟨hO1.out, rfl, hP⟩
  | ok v m =>
    rw [hv] at hp hin
    obtain ⟨⟨_, rfl, rfl⟩, hP'⟩ := hp
    have HP1 := Lib.hid hP'
    have HV := Lib.hid (show pcrit T a = if v = -1 then pchoose T wAway m else if v = -2 then pchoose T wHead m else .ok v m by unfold pcrit; rw [hv]; rfl)
    have hm : m ≤ 65537 := Nat.le_trans hin.2 HT.out.len
    clear hv hin hP'
    by_cases h1 : v = -1
    · subst h1
      go_wp2_with (with_reducible refine at_ins rfl ?_; refine Hid.out ?_)
      have hN0 := MSt.made (w := v1) (w' := v1) (b := v1.heap.size) (Below.refl _ _) rfl
      refine Lib.hid ?_
      refine wpList_insert_st (.tmp 12) hN0 kGoals 5 (by decide) (by decide) (by decide) ?_ ?_ ?_ ?_
      · rfl
      · rfl
      · rfl
      intro u1 hN1
      clear hN0
      go_wp2_with (with_reducible refine at_ins rfl ?_; refine Hid.out ?_)
      refine Lib.hid ?_
      refine wpList_insert_st (.tmp 12) hN1 kWins 6 (by decide) (by decide) (by decide) ?_ ?_ ?_ ?_
      · rfl
      · rfl
      · rfl
      intro u2 hN2
      clear hN1
      go_wp2_with (with_reducible refine at_ins rfl ?_; refine Hid.out ?_)
      have hb2 : Below v1.heap.size v1 u2 := hN2.1
      refine (ychoose_any B g A n c T m _ wAway u2 (HP1.out.below hb2) HT.out hm hN2.2.2).mono ?_
      rintro e v2 ⟨hO', hp⟩
      have hO2 := Lib.hid (hO1.out.trans ((Only.of_below hb2).trans hO'))
      clear hN2 hO' hb2
      have HE := Lib.hid (show pcrit T a = pchoose T wAway m by rw [HV.out]; simp)
      cases hv : pchoose T wAway m with
      | bad q =>
        rw [hv] at hp HE
        obtain ⟨rfl, hP⟩ := hp
        clear hv
        go_wp2
        refine ⟨rfl, ?_⟩
        unfold PPost
        rw [HE.out]
        exact ⟨hO2.out, rfl, hP⟩
      | ok v q =>
        rw [hv] at hp HE
        obtain ⟨⟨_, rfl, rfl⟩, hP⟩ := hp
        clear hv
        go_wp2_with (fail)
        go_ret
        unfold PPost
        rw [HE.out]
        exact ⟨hO2.out, ⟨_, rfl, rfl⟩, hP⟩
    · by_cases h2 : v = -2
      · subst h2
        go_wp2_with (with_reducible refine at_ins rfl ?_; refine Hid.out ?_)
        have hN0 := MSt.made (w := v1) (w' := v1) (b := v1.heap.size) (Below.refl _ _) rfl
        refine Lib.hid ?_
        refine wpList_insert_st (.tmp 18) hN0 kPoints 8 (by decide) (by decide) (by decide) ?_ ?_ ?_ ?_
        · rfl
        · rfl
        · rfl
        intro u1 hN1
        clear hN0
        go_wp2_with (with_reducible refine at_ins rfl ?_; refine Hid.out ?_)
        refine Lib.hid ?_
        refine wpList_insert_st (.tmp 18) hN1 kDiff 9 (by decide) (by decide) (by decide) ?_ ?_ ?_ ?_
        · rfl
        · rfl
        · rfl
        intro u2 hN2
        clear hN1
        go_wp2_with (with_reducible refine at_ins rfl ?_; refine Hid.out ?_)
        refine Lib.hid ?_
        refine wpList_insert_st (.tmp 18) hN2 kGoals 10 (by decide) (by decide) (by decide) ?_ ?_ ?_ ?_
        · rfl
        · rfl
        · rfl
        intro u3 hN3
        clear hN2
        go_wp2_with (with_reducible refine at_ins rfl ?_; refine Hid.out ?_)
        refine Lib.hid ?_
        refine wpList_insert_st (.tmp 18) hN3 kAway 11 (by decide) (by decide) (by decide) ?_ ?_ ?_ ?_
        · rfl
        · rfl
        · rfl
        intro u4 hN4
        clear hN3
        go_wp2_with (with_reducible refine at_ins rfl ?_; refine Hid.out ?_)
        have hb2 : Below v1.heap.size v1 u4 := hN4.1
        refine (ychoose_any B g A n c T m _ wHead u4 (HP1.out.below hb2) HT.out hm hN4.2.2).mono ?_
        rintro e v2 ⟨hO', hp⟩
        have hO2 := Lib.hid (hO1.out.trans ((Only.of_below hb2).trans hO'))
        clear hN4 hO' hb2
        have HE := Lib.hid (show pcrit T a = pchoose T wHead m by rw [HV.out]; simp)
        cases hv : pchoose T wHead m with
        | bad q =>
          rw [hv] at hp HE
          obtain ⟨rfl, hP⟩ := hp
          clear hv
          go_wp2
          refine ⟨rfl, ?_⟩
          unfold PPost
          rw [HE.out]
          exact ⟨hO2.out, rfl, hP⟩
        | ok v q =>
          rw [hv] at hp HE
          obtain ⟨⟨_, rfl, rfl⟩, hP⟩ := hp
          clear hv
          go_wp2_with (fail)
          go_ret
          unfold PPost
          rw [HE.out]
          exact ⟨hO2.out, ⟨_, rfl, rfl⟩, hP⟩
      · have HE := Lib.hid (show pcrit T a = .ok v m by rw [HV.out, if_neg h1, if_neg h2])
        have e1 : (v == -1) = false := by simpa using h1
        have e2 : (v == -2) = false := by simpa using h2
        clear h1 h2 HV
        go_wp2_with (fail)
        go_ret
        unfold PPost
        rw [HE.out]
        exact ⟨hO1.out, ⟨_, rfl, rfl⟩, HP1.out⟩
end Go.Proofs.YticpjdjdimpglaaGreatDoor

/- SyntaxProblems: the walk of the law. -/
import Derived.Test.YtlgdmbdhffdenaaGreatDoorYDocF
namespace Go.Proofs.YtlgdmbdhffdenaaGreatDoor
set_option linter.unusedVariables false
set_option linter.unusedSimpArgs false
open Go.RowKit

instance : DecidableEq Prob := fun a b => if h : a.at_ = b.at_ ∧ a.code = b.code then isTrue (by cases a; cases b; simp_all) else isFalse (fun e => h (by rw [e]; exact ⟨rfl, rfl⟩))
theorem found_nil (P : List Prob) : found P [] = 0 := by cases P <;> rfl
theorem found_yes {P Q : List Prob} {n k F : Nat} {p : Prob} (hp : P[n]? = some p) (hq : Q[k]? = some p) (h : n + found (P.drop n) (Q.drop k) = F) : n + 1 + found (P.drop (n + 1)) (Q.drop (k + 1)) = F := by
  obtain ⟨h1, rfl⟩ := List.getElem?_eq_some_iff.1 hp
  obtain ⟨h2, e⟩ := List.getElem?_eq_some_iff.1 hq
  rw [List.drop_eq_getElem_cons h1, List.drop_eq_getElem_cons h2, e] at h
  unfold found at h
  rw [if_pos rfl] at h
  omega
theorem found_no {P Q : List Prob} {n k F : Nat} {p x : Prob} (hp : P[n]? = some x) (hq : Q[k]? = some p) (hne : x ≠ p) (h : n + found (P.drop n) (Q.drop k) = F) : n + found (P.drop n) (Q.drop (k + 1)) = F := by
  obtain ⟨h1, rfl⟩ := List.getElem?_eq_some_iff.1 hp
  obtain ⟨h2, e⟩ := List.getElem?_eq_some_iff.1 hq
  rw [List.drop_eq_getElem_cons h1, List.drop_eq_getElem_cons h2, e] at h
  unfold found at h
  rw [if_neg hne, ← List.drop_eq_getElem_cons h1] at h
  exact h
theorem found_off {P Q : List Prob} {n k F : Nat} (hp : P.length ≤ n) (h : n + found (P.drop n) (Q.drop k) = F) : n + found (P.drop n) (Q.drop (k + 1)) = F := by
  rw [List.drop_eq_nil_of_le hp] at h ⊢
  have e : ∀ s : List Prob, found [] s = 0 := fun s => by unfold found; rfl
  rw [e] at h ⊢
  exact h
theorem found_end {P Q : List Prob} {n k F : Nat} (hk : Q.length ≤ k) (h : n + found (P.drop n) (Q.drop k) = F) : n = F := by
  rw [List.drop_eq_nil_of_le hk, found_nil] at h
  exact h
theorem sorted_at {Q : List Prob} {j : Nat} {p q : Prob} (h : Sorted Q) (hq : Q[j]? = some q) (hp : Q[j + 1]? = some p) : q.at_ ≤ p.at_ := by
  obtain ⟨h1, rfl⟩ := List.getElem?_eq_some_iff.1 hq
  obtain ⟨h2, rfl⟩ := List.getElem?_eq_some_iff.1 hp
  exact List.pairwise_iff_getElem.1 h j (j + 1) h1 h2 (by omega)
/-- What the law's loop keeps. -/
def ProI (w0 wr : World) (P Q : List Prob) (pl k2 : Nat) (s t : Value) : Prop := ∃ (n k : Nat), s = .int .i64 n ∧ t = .int .i64 k ∧ n ≤ pl ∧ k ≤ k2 ∧ Hid (Below w0.heap.size w0 wr) ∧ Hid (n + found (P.drop n) (Q.drop k) = found P Q)
set_option maxHeartbeats 8000000 in
set_option maxRecDepth 100000 in
theorem problems_walk (A : Option Addr) (n c : Nat) (l : List UInt8) (w : World) (h : Rd w w.heap.size 1 A n c (l.map vb)) (hG : Gb w.heap.size w) :
    Calls Tryz.prog 9 #[.slice A n c] w fun e w' => e = .returned (.bool true) ∧ Below w.heap.size w w' := by
  have hlen := h.blen
  subst hlen
  have HH := Lib.hid h
  have HG := Lib.hid hG
  have hcap := h.cap
  have hbig := h.big
  clear h hG
  by_cases hn : l.length ≤ 2000
  · have hd : decide ((l.length : Int) ≤ 2000) = true := decide_eq_true (by omega)
    go_enter Tryz.func9, Tryz.ntmps9
    go_wp2_with (fail)
    refine (sane13_any w HG.out).mono ?_
    rintro e w1 ⟨rfl, hb1⟩
    have C1 := Lib.hid hb1
    clear hb1
    go_wp2_with (fail)
    refine (yshortD_any A l.length c w1).mono ?_
    rintro e w1' ⟨rfl, rfl⟩
    rw [hd]
    go_wp2_with (fail)
    refine (ydoc_all A l.length c l w1' ((HH.out.below C1.out).more C1.out.size) (by omega) (HG.out.on C1.out)).mono ?_
    rintro e w4 ⟨B1, k1, d1, B2, k2, d2, R, xs, rfl, hk1, hrd, hrl, hperm, hsort, hk2, hrd2, hb4⟩
    have C4 := Lib.hid (C1.out.trans (hb4.mono C1.out.size))
    obtain ⟨hs, hm, hf⟩ := law_probsR hperm hsort
    have hql : (R.take 64).length = k2 := by rw [List.length_take, hk2, Nat.min_comm]
    generalize R.take 64 = Q at *
    have HS := Lib.hid hs
    have HM := Lib.hid hm
    have HF := Lib.hid hf
    have HQ := Lib.hid hql
    have h64 : k2 ≤ 64 := by omega
    have HRD := Lib.hid hrd2
    have q1 := hrd.cap
    have q2 := hrd.big
    have q3 := hrd2.cap
    have q4 := hrd2.big
    clear hk1 hrd hrl hperm hsort hk2 hrd2 hb4 hs hm hf hql C1
    go_wp2_with (fail)
    refine (tokens_any A l.length c l w4 ((HH.out.below C4.out).more C4.out.size) (by omega)).mono ?_
    unfold TokPost
    rintro e w5 ⟨A1, A2, c1, c2, rfl, h1, h2, hb5⟩
    have C5 := Lib.hid (C4.out.trans (hb5.mono C4.out.size))
    have R5 := Lib.hid ((HRD.out.below hb5).more hb5.size)
    have I5 := Lib.hid h2
    have k3 := h1.cap
    have k4 := h1.big
    have k5 := h2.cap
    have k6 := h2.big
    have hplen := lex_plen l
    clear h1 h2 hb5 C4 HRD
    generalize (lex l).1.length = tl at *
    generalize (lex l).2 = P at *
    obtain ⟨pl, hpl⟩ : ∃ x, P.length = x := ⟨_, rfl⟩
    have HPL := Lib.hid hpl
    have I5' := I5.out
    rw [hpl] at I5' k5 hplen ⊢
    clear I5 hpl
    have I5 := Lib.hid I5'
    clear I5'
    go_wp2_with (fail)
    go_loopw [9, 48] (fun s t wr => ProI w5 wr P Q pl k2 s t) (fun _ t _ => k2 - (intOf t).toNat)
    case atStart => exact ⟨0, 0, rfl, rfl, Nat.zero_le _, Nat.zero_le _, Below.refl _ _, by rw [Nat.zero_add]; rfl⟩
    case round =>
      obtain ⟨n, k, rfl, rfl, hn', hk', HB, HI⟩ := hrel
      have RQ := Lib.hid (R5.out.below HB.out)
      have RP := Lib.hid (I5.out.below HB.out)
      have hbl := HB.out.size
      by_cases hlt : k < k2
      · obtain ⟨b, off, p, rfl, hb, hp, g1, g2⟩ := RQ.out.prob hlt
        obtain ⟨z1, z2, z3⟩ := HM.out p (List.mem_of_getElem? hp)
        have HPk := Lib.hid hp
        clear hp
        obtain ⟨pa, pc⟩ := p
        simp only at g1 g2 z1 z2 z3
        have z1' : ¬ pa < 0 := by omega
        have z2' : ¬ (l.length : Int) < pa := by omega
        have z1d : decide (pa < 0) = false := decide_eq_false z1'
        have z2d : decide ((l.length : Int) < pa) = false := decide_eq_false z2'
        rcases Nat.eq_zero_or_pos k with hk0 | hk0
        · subst hk0
          simp only [Nat.zero_mul, Nat.add_zero] at g1 g2
          rcases z3 with rfl | rfl
          · go_wp2_with (fail)
            first | (refine calls_named ?_; intro W1 hW1) | (refine body_named ?_; intro W1 hW1) | (refine wpList_named ?_; intro W1 hW1) | (refine wp_named ?_; intro W1 hW1)
            have hb1 : Below wr.heap.size wr W1 := by rw [← hW1]; exact (Below.refl _ _).alloc (Nat.le_refl _) _
            have hX : Blk W1 wr.heap.size 49 #[.int .i64 pa, .int .i64 60] := by rw [← hW1]; exact Blk.new _ _ _
            clear hW1 g1 g2
            have HBW := Lib.hid (HB.out.trans (hb1.mono hbl))
            have d0 : W1.cell? ⟨wr.heap.size, 0, none⟩ = some (.int .i64 pa) := hX.cell 0
            have d1 : W1.cell? ⟨wr.heap.size, 1, none⟩ = some (.int .i64 60) := hX.cell 1
            have lx := hX.lt
            clear hX hb1 RQ RP
            generalize wr.heap.size = bx at *
            go_big_quiet (fail)
            go_wp2_with (fail)
            by_cases hnp : n < pl
            · obtain ⟨b', off', x, rfl, hb', hx, i1, i2⟩ := (I5.out.below HBW.out).prob hnp
              have hnd : decide ((n : Int) < (pl : Int)) = true := decide_eq_true (by omega)
              obtain ⟨xa, xc⟩ := x
              simp only at i1 i2
              have HXn := Lib.hid hx
              clear hx
              by_cases ha : xa = pa
              · subst ha
                by_cases hcc : xc = 60
                · subst hcc
                  have HFN := Lib.hid (found_yes HXn.out HPk.out HI.out)
                  clear HPk HI
                  go_big_quiet (fail)
                  go_wp2_with (fail)
                  go_roundw
                  case rel => exact ⟨n + 1, 0 + 1, by go_num, by go_num, by omega, by omega, HBW.out.trans (bdrew _ _), HFN.out⟩
                  case measure => simp [intOf] <;> omega
                · have HNE := Lib.hid (show (⟨xa, xc⟩ : Prob) ≠ ⟨xa, 60⟩ from fun e => hcc (congrArg Prob.code e))
                  have hc2 : (xc == 60) = false := by rw [beq_eq_false_iff_ne]; exact hcc
                  have HFN := Lib.hid (found_no HXn.out HPk.out HNE.out HI.out)
                  clear HPk HI
                  go_big_quiet (fail)
                  go_wp2_with (fail)
                  go_roundw
                  case rel => exact ⟨n, 0 + 1, rfl, by go_num, by omega, by omega, HBW.out.trans (bdrew _ _), HFN.out⟩
                  case measure => simp [intOf] <;> omega
              · have HNE := Lib.hid (show (⟨xa, xc⟩ : Prob) ≠ ⟨pa, 60⟩ from fun e => ha (congrArg Prob.at_ e))
                have ha2 : (xa == pa) = false := by rw [beq_eq_false_iff_ne]; exact ha
                have HFN := Lib.hid (found_no HXn.out HPk.out HNE.out HI.out)
                clear HPk HI
                go_big_quiet (fail)
                go_wp2_with (fail)
                go_roundw
                case rel => exact ⟨n, 0 + 1, rfl, by go_num, by omega, by omega, HBW.out.trans (bdrew _ _), HFN.out⟩
                case measure => simp [intOf] <;> omega
            · have HOF := Lib.hid (show P.length ≤ n by rw [HPL.out]; omega)
              have hnd : decide ((n : Int) < (pl : Int)) = false := decide_eq_false (by omega)
              have HFN := Lib.hid (found_off HOF.out HI.out)
              clear HPk HI
              go_big_quiet (fail)
              go_wp2_with (fail)
              go_roundw
              case rel => exact ⟨n, 0 + 1, rfl, by go_num, by omega, by omega, HBW.out.trans (bdrew _ _), HFN.out⟩
              case measure => simp [intOf] <;> omega
          · go_wp2_with (fail)
            first | (refine calls_named ?_; intro W1 hW1) | (refine body_named ?_; intro W1 hW1) | (refine wpList_named ?_; intro W1 hW1) | (refine wp_named ?_; intro W1 hW1)
            have hb1 : Below wr.heap.size wr W1 := by rw [← hW1]; exact (Below.refl _ _).alloc (Nat.le_refl _) _
            have hX : Blk W1 wr.heap.size 49 #[.int .i64 pa, .int .i64 130] := by rw [← hW1]; exact Blk.new _ _ _
            clear hW1 g1 g2
            have HBW := Lib.hid (HB.out.trans (hb1.mono hbl))
            have d0 : W1.cell? ⟨wr.heap.size, 0, none⟩ = some (.int .i64 pa) := hX.cell 0
            have d1 : W1.cell? ⟨wr.heap.size, 1, none⟩ = some (.int .i64 130) := hX.cell 1
            have lx := hX.lt
            clear hX hb1 RQ RP
            generalize wr.heap.size = bx at *
            go_big_quiet (fail)
            go_wp2_with (fail)
            by_cases hnp : n < pl
            · obtain ⟨b', off', x, rfl, hb', hx, i1, i2⟩ := (I5.out.below HBW.out).prob hnp
              have hnd : decide ((n : Int) < (pl : Int)) = true := decide_eq_true (by omega)
              obtain ⟨xa, xc⟩ := x
              simp only at i1 i2
              have HXn := Lib.hid hx
              clear hx
              by_cases ha : xa = pa
              · subst ha
                by_cases hcc : xc = 130
                · subst hcc
                  have HFN := Lib.hid (found_yes HXn.out HPk.out HI.out)
                  clear HPk HI
                  go_big_quiet (fail)
                  go_wp2_with (fail)
                  go_roundw
                  case rel => exact ⟨n + 1, 0 + 1, by go_num, by go_num, by omega, by omega, HBW.out.trans (bdrew _ _), HFN.out⟩
                  case measure => simp [intOf] <;> omega
                · have HNE := Lib.hid (show (⟨xa, xc⟩ : Prob) ≠ ⟨xa, 130⟩ from fun e => hcc (congrArg Prob.code e))
                  have hc2 : (xc == 130) = false := by rw [beq_eq_false_iff_ne]; exact hcc
                  have HFN := Lib.hid (found_no HXn.out HPk.out HNE.out HI.out)
                  clear HPk HI
                  go_big_quiet (fail)
                  go_wp2_with (fail)
                  go_roundw
                  case rel => exact ⟨n, 0 + 1, rfl, by go_num, by omega, by omega, HBW.out.trans (bdrew _ _), HFN.out⟩
                  case measure => simp [intOf] <;> omega
              · have HNE := Lib.hid (show (⟨xa, xc⟩ : Prob) ≠ ⟨pa, 130⟩ from fun e => ha (congrArg Prob.at_ e))
                have ha2 : (xa == pa) = false := by rw [beq_eq_false_iff_ne]; exact ha
                have HFN := Lib.hid (found_no HXn.out HPk.out HNE.out HI.out)
                clear HPk HI
                go_big_quiet (fail)
                go_wp2_with (fail)
                go_roundw
                case rel => exact ⟨n, 0 + 1, rfl, by go_num, by omega, by omega, HBW.out.trans (bdrew _ _), HFN.out⟩
                case measure => simp [intOf] <;> omega
            · have HOF := Lib.hid (show P.length ≤ n by rw [HPL.out]; omega)
              have hnd : decide ((n : Int) < (pl : Int)) = false := decide_eq_false (by omega)
              have HFN := Lib.hid (found_off HOF.out HI.out)
              clear HPk HI
              go_big_quiet (fail)
              go_wp2_with (fail)
              go_roundw
              case rel => exact ⟨n, 0 + 1, rfl, by go_num, by omega, by omega, HBW.out.trans (bdrew _ _), HFN.out⟩
              case measure => simp [intOf] <;> omega
        · obtain ⟨j, rfl⟩ : ∃ j, k = j + 1 := ⟨k - 1, by omega⟩
          have hwj : IntKind.i64.wrap (j : Int) = (j : Int) := by rw [IntKind.wrap_i64]; omega
          have hj1 : (0 : Int) < (j : Int) + 1 := by omega
          have hj1d : decide ((0 : Int) < (j : Int) + 1) = true := decide_eq_true hj1
          have hj2 : (j : Int) + 1 < (k2 : Int) := by omega
          have hj3 : (j : Int) < (k2 : Int) := by omega
          clear hk0
          rcases z3 with rfl | rfl
          · go_wp2_with (fail)
            first | (refine calls_named ?_; intro W1 hW1) | (refine body_named ?_; intro W1 hW1) | (refine wpList_named ?_; intro W1 hW1) | (refine wp_named ?_; intro W1 hW1)
            have hb1 : Below wr.heap.size wr W1 := by rw [← hW1]; exact (Below.refl _ _).alloc (Nat.le_refl _) _
            have hX : Blk W1 wr.heap.size 49 #[.int .i64 pa, .int .i64 60] := by rw [← hW1]; exact Blk.new _ _ _
            clear hW1 g1 g2
            have HBW := Lib.hid (HB.out.trans (hb1.mono hbl))
            have d0 : W1.cell? ⟨wr.heap.size, 0, none⟩ = some (.int .i64 pa) := hX.cell 0
            have d1 : W1.cell? ⟨wr.heap.size, 1, none⟩ = some (.int .i64 60) := hX.cell 1
            have lx := hX.lt
            obtain ⟨b2, off2, y, e2, hb2, hy, f1, f2⟩ := (R5.out.below HBW.out).prob (k := j) (by omega)
            obtain ⟨rfl, rfl⟩ : b = b2 ∧ off = off2 := by simpa using e2
            have hle := sorted_at HS.out hy HPk.out
            obtain ⟨ya, yc⟩ := y
            simp only at f1 hle
            have hle' : decide (pa < ya) = false := decide_eq_false (by omega)
            clear e2 hy f2 hle
            clear hX hb1 RQ RP
            generalize wr.heap.size = bx at *
            go_big_quiet (fail)
            go_wp2_with (fail)
            by_cases hnp : n < pl
            · obtain ⟨b', off', x, rfl, hb', hx, i1, i2⟩ := (I5.out.below HBW.out).prob hnp
              have hnd : decide ((n : Int) < (pl : Int)) = true := decide_eq_true (by omega)
              obtain ⟨xa, xc⟩ := x
              simp only at i1 i2
              have HXn := Lib.hid hx
              clear hx
              by_cases ha : xa = pa
              · subst ha
                by_cases hcc : xc = 60
                · subst hcc
                  have HFN := Lib.hid (found_yes HXn.out HPk.out HI.out)
                  clear HPk HI
                  go_big_quiet (fail)
                  go_wp2_with (fail)
                  go_roundw
                  case rel => exact ⟨n + 1, j + 1 + 1, by go_num, by go_num, by omega, by omega, HBW.out.trans (bdrew _ _), HFN.out⟩
                  case measure => simp [intOf] <;> omega
                · have HNE := Lib.hid (show (⟨xa, xc⟩ : Prob) ≠ ⟨xa, 60⟩ from fun e => hcc (congrArg Prob.code e))
                  have hc2 : (xc == 60) = false := by rw [beq_eq_false_iff_ne]; exact hcc
                  have HFN := Lib.hid (found_no HXn.out HPk.out HNE.out HI.out)
                  clear HPk HI
                  go_big_quiet (fail)
                  go_wp2_with (fail)
                  go_roundw
                  case rel => exact ⟨n, j + 1 + 1, rfl, by go_num, by omega, by omega, HBW.out.trans (bdrew _ _), HFN.out⟩
                  case measure => simp [intOf] <;> omega
              · have HNE := Lib.hid (show (⟨xa, xc⟩ : Prob) ≠ ⟨pa, 60⟩ from fun e => ha (congrArg Prob.at_ e))
                have ha2 : (xa == pa) = false := by rw [beq_eq_false_iff_ne]; exact ha
                have HFN := Lib.hid (found_no HXn.out HPk.out HNE.out HI.out)
                clear HPk HI
                go_big_quiet (fail)
                go_wp2_with (fail)
                go_roundw
                case rel => exact ⟨n, j + 1 + 1, rfl, by go_num, by omega, by omega, HBW.out.trans (bdrew _ _), HFN.out⟩
                case measure => simp [intOf] <;> omega
            · have HOF := Lib.hid (show P.length ≤ n by rw [HPL.out]; omega)
              have hnd : decide ((n : Int) < (pl : Int)) = false := decide_eq_false (by omega)
              have HFN := Lib.hid (found_off HOF.out HI.out)
              clear HPk HI
              go_big_quiet (fail)
              go_wp2_with (fail)
              go_roundw
              case rel => exact ⟨n, j + 1 + 1, rfl, by go_num, by omega, by omega, HBW.out.trans (bdrew _ _), HFN.out⟩
              case measure => simp [intOf] <;> omega
          · go_wp2_with (fail)
            first | (refine calls_named ?_; intro W1 hW1) | (refine body_named ?_; intro W1 hW1) | (refine wpList_named ?_; intro W1 hW1) | (refine wp_named ?_; intro W1 hW1)
            have hb1 : Below wr.heap.size wr W1 := by rw [← hW1]; exact (Below.refl _ _).alloc (Nat.le_refl _) _
            have hX : Blk W1 wr.heap.size 49 #[.int .i64 pa, .int .i64 130] := by rw [← hW1]; exact Blk.new _ _ _
            clear hW1 g1 g2
            have HBW := Lib.hid (HB.out.trans (hb1.mono hbl))
            have d0 : W1.cell? ⟨wr.heap.size, 0, none⟩ = some (.int .i64 pa) := hX.cell 0
            have d1 : W1.cell? ⟨wr.heap.size, 1, none⟩ = some (.int .i64 130) := hX.cell 1
            have lx := hX.lt
            obtain ⟨b2, off2, y, e2, hb2, hy, f1, f2⟩ := (R5.out.below HBW.out).prob (k := j) (by omega)
            obtain ⟨rfl, rfl⟩ : b = b2 ∧ off = off2 := by simpa using e2
            have hle := sorted_at HS.out hy HPk.out
            obtain ⟨ya, yc⟩ := y
            simp only at f1 hle
            have hle' : decide (pa < ya) = false := decide_eq_false (by omega)
            clear e2 hy f2 hle
            clear hX hb1 RQ RP
            generalize wr.heap.size = bx at *
            go_big_quiet (fail)
            go_wp2_with (fail)
            by_cases hnp : n < pl
            · obtain ⟨b', off', x, rfl, hb', hx, i1, i2⟩ := (I5.out.below HBW.out).prob hnp
              have hnd : decide ((n : Int) < (pl : Int)) = true := decide_eq_true (by omega)
              obtain ⟨xa, xc⟩ := x
              simp only at i1 i2
              have HXn := Lib.hid hx
              clear hx
              by_cases ha : xa = pa
              · subst ha
                by_cases hcc : xc = 130
                · subst hcc
                  have HFN := Lib.hid (found_yes HXn.out HPk.out HI.out)
                  clear HPk HI
                  go_big_quiet (fail)
                  go_wp2_with (fail)
                  go_roundw
                  case rel => exact ⟨n + 1, j + 1 + 1, by go_num, by go_num, by omega, by omega, HBW.out.trans (bdrew _ _), HFN.out⟩
                  case measure => simp [intOf] <;> omega
                · have HNE := Lib.hid (show (⟨xa, xc⟩ : Prob) ≠ ⟨xa, 130⟩ from fun e => hcc (congrArg Prob.code e))
                  have hc2 : (xc == 130) = false := by rw [beq_eq_false_iff_ne]; exact hcc
                  have HFN := Lib.hid (found_no HXn.out HPk.out HNE.out HI.out)
                  clear HPk HI
                  go_big_quiet (fail)
                  go_wp2_with (fail)
                  go_roundw
                  case rel => exact ⟨n, j + 1 + 1, rfl, by go_num, by omega, by omega, HBW.out.trans (bdrew _ _), HFN.out⟩
                  case measure => simp [intOf] <;> omega
              · have HNE := Lib.hid (show (⟨xa, xc⟩ : Prob) ≠ ⟨pa, 130⟩ from fun e => ha (congrArg Prob.at_ e))
                have ha2 : (xa == pa) = false := by rw [beq_eq_false_iff_ne]; exact ha
                have HFN := Lib.hid (found_no HXn.out HPk.out HNE.out HI.out)
                clear HPk HI
                go_big_quiet (fail)
                go_wp2_with (fail)
                go_roundw
                case rel => exact ⟨n, j + 1 + 1, rfl, by go_num, by omega, by omega, HBW.out.trans (bdrew _ _), HFN.out⟩
                case measure => simp [intOf] <;> omega
            · have HOF := Lib.hid (show P.length ≤ n by rw [HPL.out]; omega)
              have hnd : decide ((n : Int) < (pl : Int)) = false := decide_eq_false (by omega)
              have HFN := Lib.hid (found_off HOF.out HI.out)
              clear HPk HI
              go_big_quiet (fail)
              go_wp2_with (fail)
              go_roundw
              case rel => exact ⟨n, j + 1 + 1, rfl, by go_num, by omega, by omega, HBW.out.trans (bdrew _ _), HFN.out⟩
              case measure => simp [intOf] <;> omega
      · have HFe := Lib.hid (found_end (by rw [HQ.out]; omega) HI.out)
        have C6 := Lib.hid (C5.out.trans (HB.out.mono C5.out.size))
        by_cases en : n = pl
        · have e1 : ((n : Int) == (pl : Int)) = true := by rw [beq_iff_eq]; omega
          clear en
          go_wp2_with (fail)
          all_goals (go_ret; exact ⟨rfl, C6.out⟩)
        · have ek : k2 = 64 := by
            rcases HF.out with e | e
            · exfalso; apply en; rw [HFe.out, e, HPL.out]
            · rw [← HQ.out]; exact e
          have e1 : ((n : Int) == (pl : Int)) = false := by rw [beq_eq_false_iff_ne]; omega
          subst ek
          clear en
          go_wp2_with (fail)
          all_goals (go_ret; exact ⟨rfl, C6.out⟩)
  · have hd : decide ((l.length : Int) ≤ 2000) = false := decide_eq_false (by omega)
    go_enter Tryz.func9, Tryz.ntmps9
    go_wp2_with (fail)
    refine (sane13_any w HG.out).mono ?_
    rintro e w1 ⟨rfl, hb1⟩
    have C1 := Lib.hid hb1
    clear hb1
    go_wp2_with (fail)
    refine (yshortD_any A l.length c w1).mono ?_
    rintro e w1' ⟨rfl, rfl⟩
    rw [hd]
    go_wp2_with (fail)
    go_ret
    exact ⟨rfl, C1.out⟩
end Go.Proofs.YtlgdmbdhffdenaaGreatDoor

/- MoneyExact: the walk of the law. -/
import Derived.Test.YtnigdcppdkcllaaDoorMSane
import Derived.Test.YtnigdcppdkcllaaDoorMSplitL
import Derived.Deep.Cut
import Derived.Deep.CutRange
namespace Go.Proofs.YtnigdcppdkcllaaDoor
set_option linter.unusedVariables false
set_option linter.unusedSimpArgs false
open Go.RowKit

theorem sumTo_bd {f : Nat → Int} {B : Int} : ∀ n : Nat, (∀ i, i < n → -B ≤ f i ∧ f i ≤ B) → -(B * n) ≤ sumTo f n ∧ sumTo f n ≤ B * n
  | 0, _ => by simp [sumTo]
  | n + 1, h => by
    have h1 := sumTo_bd n (fun i hi => h i (by omega))
    have h2 := h n (by omega)
    rw [sumTo]
    have h3 : B * ((n + 1 : Nat) : Int) = B * (n : Int) + B := by rw [Int.natCast_add, Int.mul_add]; simp
    rw [h3]
    omega
theorem max_abs (x : Int) : max x (-x) = absI x := by unfold absI; split <;> omega

set_option maxRecDepth 100000 in
set_option maxHeartbeats 8000000 in
theorem exact_walk (A : Option Addr) (n c : Nat) (ws : List Int) (m : Int) (w : World) (h : Rd w w.heap.size 1 A n c (ws.map vi)) (hg : Gd w) :
    Calls Tryd.prog 8 #[.int .i64 m, .slice A n c] w fun e w' => e = .returned (.bool true) ∧ Below w.heap.size w w' := by
  have hcap := h.cap
  have hbig := h.big
  have hS := Lib.hid (sane_any w hg)
  clear hg
  by_cases hn : 256 < n
  · go_enter Tryd.func8, Tryd.ntmps8
    go_wp2_with (go_at_call 10; refine hS.out.mono ?_; rintro e w1 ⟨rfl, hb1⟩)
    go_ret
    exact ⟨rfl, hb1⟩
  · have HL := Lib.hid h.ilen
    have d1 : decide ((256 : Int) < (n : Int)) = false := decide_eq_false (by omega)
    have d2 : decide (256 < n) = false := decide_eq_false (by omega)
    go_enter Tryd.func8, Tryd.ntmps8
    go_wp2_with (fail)
    refine hS.out.mono ?_
    rintro e w1 ⟨rfl, hb1'⟩
    have hb1 := Lib.hid hb1'
    have hr := Lib.hid (rd_on h hb1')
    clear hb1' h
    go_wp2_with (fail)
    refine (split_any A n c ws m w1 hr.out).mono ?_
    rintro e w2 ⟨A2, n2, c2, l, rfl, hs, hr2', hb2'⟩
    have hr2 := Lib.hid hr2'
    have hrw := Lib.hid (rd_on hr.out hb2')
    have hbw := Lib.hid (hb1.out.trans (hb2'.mono hb1.out.size))
    clear hb2' hr hb1 hr2'
    rcases hs with ⟨hE, hIS⟩ | ⟨hE, rfl⟩
    · rw [hE]
      obtain ⟨hm, hW⟩ := splitE_zero hE
      have hn2 : n2 = n := by rw [← hr2.out.ilen, hIS.len, HL.out]
      subst hn2
      have HM := Lib.hid hm
      have HW := Lib.hid hW
      have HIS := Lib.hid hIS
      have HOK := Lib.hid hW.2.1
      have HC := Lib.hid (check_yes m w2 hm)
      have hpos := hW.pos
      have hle := wsum_le hW.2.1
      rw [HL.out] at hle
      obtain ⟨mb1, mb2⟩ := amtB_iff.1 hm
      clear hE hm hW hIS
      have hcap2 := hr2.out.cap
      have hbig2 := hr2.out.big
      go_wp2_with (fail)
      go_loop [7, 43] (fun s i => ∃ k : Nat, k ≤ n2 ∧ i = .int .i64 k ∧ s = .int .i64 (sumTo (gi ws) k)) (fun _ i => n2 - (intOf i).toNat)
      case atStart => exact ⟨0, Nat.zero_le _, rfl, rfl⟩
      case round =>
        obtain ⟨k, hk, rfl, rfl⟩ := hrel
        have s0 : 0 ≤ sumTo (gi ws) k := sumTo_nonneg k (fun i hi => (HOK.out i (by have := HL.out; omega)).1)
        by_cases hlt : k < n2
        · obtain ⟨b, off, rfl, hb, hx⟩ := hrw.out.int hlt
          obtain ⟨w1, w2⟩ := HOK.out k (by have := HL.out; omega)
          have s1 : sumTo (gi ws) k + gi ws k ≤ 256000 := by
            have h1 := sumTo_mono (f := gi ws) (k + 1) ws.length (by have := HL.out; omega) (fun i hi => (HOK.out i hi).1)
            rw [sumTo] at h1
            have : sumTo (gi ws) ws.length = wsum ws := rfl
            omega
          have HS := Lib.hid (show sumTo (gi ws) (k + 1) = sumTo (gi ws) k + gi ws k from rfl)
          generalize gi ws k = x at *
          go_wp2
          go_round
          case rel => exact ⟨k + 1, by omega, by go_num, by rw [HS.out]⟩
          case measure => simp [intOf]; omega
        · obtain rfl : k = n2 := by omega
          have hsw : sumTo (gi ws) k = wsum ws := by unfold wsum; rw [HL.out]
          rw [hsw] at s0 ⊢
          clear hsw
          have hz : (wsum ws == 0) = false := by rw [beq_eq_false_iff_ne]; omega
          obtain ⟨S, hSS⟩ : ∃ S, wsum ws = S := ⟨_, rfl⟩
          rw [hSS] at hz hpos hle s0 ⊢
          have HSS := Lib.hid hSS
          clear hSS
          go_wp2_with (fail)
          refine HC.out.mono ?_
          rintro e w3 ⟨rfl, rfl⟩
          obtain ⟨a, ha⟩ : ∃ a, absI m = a := ⟨_, rfl⟩
          have hmm : max m (-m) = a := by rw [max_abs, ha]
          have ha0 := absI_nonneg m
          have ha1 := absI_le HM.out
          rw [ha] at ha0 ha1
          have HAB := Lib.hid ha
          clear ha
          go_wp2_with (fail)
          go_loopw [8, 66] (fun s i wr => ∃ j : Nat, j ≤ k ∧ i = .int .i64 j ∧ s = .int .i64 (sumTo (gi l) j) ∧ Hid (Below w2.heap.size w2 wr)) (fun _ i _ => k - (intOf i).toNat)
          case atStart => exact ⟨0, Nat.zero_le _, rfl, rfl, Below.refl _ _⟩
          case round =>
            obtain ⟨j, hj, rfl, rfl, hB⟩ := hrel
            by_cases hjk : j < k
            · have hjw : j < ws.length := by have := HL.out; omega
              obtain ⟨q1, q2, q3, q4, q5, q6, q7⟩ := split_el HW.out HM.out HIS.out hjw
              obtain ⟨xb1, xb2⟩ := amtB_iff.1 q1
              have HQ1 := Lib.hid (fun w' => check_yes (gi l j) w' q1)
              have HP := Lib.hid (fun kk (hkk : kk < ws.length) => split_two HW.out HIS.out hjw hkk)
              have HBD := Lib.hid (sumTo_bd (f := gi l) (B := 1125899906842624) (j + 1) (fun i hi => amtB_iff.1 (split_el HW.out HM.out HIS.out (show i < ws.length by omega)).1))
              have HBJ := sumTo_bd (f := gi l) (B := 1125899906842624) j (fun i hi => amtB_iff.1 (split_el HW.out HM.out HIS.out (show i < ws.length by omega)).1)
              have HSN := Lib.hid (show sumTo (gi l) (j + 1) = sumTo (gi l) j + gi l j from rfl)
              obtain ⟨sb1, sb2⟩ := HBJ
              have sb3 : -288230376151711744 ≤ sumTo (gi l) j := by omega
              have sb4 : sumTo (gi l) j ≤ 288230376151711744 := by omega
              obtain ⟨w1, w2'⟩ := HOK.out j hjw
              have m0 : 0 ≤ a * gi ws j := Int.mul_nonneg ha0 w1
              have m1 : a * gi ws j ≤ 1125899906842624 * 1000 := Int.le_trans (Int.mul_le_mul_of_nonneg_left w2' ha0) (Int.mul_le_mul_of_nonneg_right ha1 (by omega))
              rw [HAB.out, HSS.out] at q5 q6 q7
              have r1 := hrw.out.below hB.out
              have r2 := hr2.out.below hB.out
              obtain ⟨b1, o1, rfl, _, x1⟩ := r1.int hjk
              obtain ⟨b2, o2, rfl, _, x2⟩ := r2.int hjk
              have hjk' : (j : Int) < (k : Int) := by omega
              obtain ⟨ax, hax⟩ : ∃ ax, absI (gi l j) = ax := ⟨_, rfl⟩
              have hmx : max (gi l j) (-gi l j) = ax := by rw [max_abs, hax]
              have hax0 := absI_nonneg (gi l j)
              have hax1 := absI_le q1
              rw [hax] at q5 q6 q7 hax0 hax1
              have HAX := Lib.hid hax
              have hqb0 : 0 ≤ a * gi ws j / S := Int.ediv_nonneg m0 (by omega)
              have hqb1 : a * gi ws j / S ≤ 1125899906842624 := by omega
              clear r1 r2 hax sb1 sb2
              generalize sumTo (gi l) j = sj at *
              generalize gi l j = x at *
              generalize hwj : gi ws j = wj at *
              have HWJ := Lib.hid hwj
              clear hwj
              go_upto_region 23 with (fail)
              go_cut [66, 100] from 66 to 192 (fun s66 s100 wx => s66 = .int .i64 j ∧ s100 = .bool false ∧ wx = wr)
              case first =>
                go_wp2_with (fail)
                refine (HQ1.out _).mono ?_
                rintro e w3 ⟨rfl, rfl⟩
                clear q5 q6 q7
                rcases Int.lt_trichotomy x 0 with hx | hx | hx
                · have f1 := q3 hx
                  have f2 : ¬ wj = 0 := fun e => by have := q4 e; omega
                  have f3 : (wj == 0) = false := by rw [beq_eq_false_iff_ne]; exact f2
                  have f4 : decide (0 < x) = false := decide_eq_false (by omega)
                  have f5 : decide (0 ≤ m) = false := decide_eq_false (by omega)
                  have f6 : decide (x < 0) = true := decide_eq_true (by omega)
                  clear q2 q3 q4
                  go_wp2_with (fail)
                  go_meet
                  exact ⟨rfl, rfl, rfl⟩
                · subst hx
                  clear q2 q3 q4
                  rcases Decidable.em (wj = 0) with f2 | f2
                  · subst f2
                    go_wp2_with (fail)
                    go_meet
                    exact ⟨rfl, rfl, rfl⟩
                  · have f3 : (wj == 0) = false := by rw [beq_eq_false_iff_ne]; exact f2
                    go_wp2_with (fail)
                    go_meet
                    exact ⟨rfl, rfl, rfl⟩
                · have f1 := q2 hx
                  have f2 : ¬ wj = 0 := fun e => by have := q4 e; omega
                  have f3 : (wj == 0) = false := by rw [beq_eq_false_iff_ne]; exact f2
                  have f4 : decide (x < 0) = false := decide_eq_false (by omega)
                  have f5 : decide (m ≤ 0) = false := decide_eq_false (by omega)
                  have f6 : decide (0 < x) = true := decide_eq_true (by omega)
                  clear q2 q3 q4
                  go_wp2_with (fail)
                  go_meet
                  exact ⟨rfl, rfl, rfl⟩
              case rest =>
                obtain ⟨rfl, rfl, rfl⟩ := hcut
                clear q2 q3 q4
                go_upto_region 27 with (fail)
                go_cut [66, 137] from 66 to 192 (fun s66 s137 wx => s66 = .int .i64 j ∧ s137 = .bool false ∧ wx = wc)
                case first =>
                  generalize hmul : a * wj = P at *
                  have hqm : P = S * (P / S) + P % S := (Int.mul_ediv_add_emod P S).symm
                  have hq0 : 0 ≤ P % S := Int.emod_nonneg _ (by omega)
                  have hlow : decide (ax < P / S) = false := decide_eq_false (by omega)
                  have hup : decide (P / S + 1 < ax) = false := decide_eq_false (by omega)
                  rcases Decidable.em (ax = P / S + 1) with e1 | e1
                  · have e2 := q7 e1
                    have e3 : (P % S == 0) = false := by rw [beq_eq_false_iff_ne]; exact e2
                    have e4 : (ax == P / S + 1) = true := by rw [beq_iff_eq]; exact e1
                    clear q7 hqm
                    have E1 := Lib.hid e1
                    clear e1
                    go_wp2_with (fail)
                    go_meet
                    exact ⟨rfl, rfl, rfl⟩
                  · have e4 : (ax == P / S + 1) = false := by rw [beq_eq_false_iff_ne]; exact e1
                    clear q7 hqm
                    go_wp2_with (fail)
                    go_meet
                    exact ⟨rfl, rfl, rfl⟩
                case rest =>
                  obtain ⟨rfl, rfl, rfl⟩ := hcut
                  clear q5 q6 q7
                  go_wp2_with (fail)
                  go_loopw [143] (fun i wx => ∃ kk : Nat, kk ≤ k ∧ i = .int .i64 kk ∧ Hid (Below w2.heap.size w2 wx)) (fun i _ => k - (intOf i).toNat)
                  case atStart => exact ⟨0, Nat.zero_le _, rfl, hB⟩
                  case round =>
                    obtain ⟨kk, hkk, rfl, hB⟩ := hrel
                    by_cases hkl : kk < k
                    · have hkw : kk < ws.length := by have := HL.out; omega
                      obtain ⟨p1, p2⟩ := HP.out kk hkw
                      have r1 := hrw.out.below hB.out
                      have r2 := hr2.out.below hB.out
                      obtain ⟨_, _, ⟨⟩, _, x1⟩ := r1.int hjk
                      obtain ⟨_, _, ⟨⟩, _, x3⟩ := r1.int hkl
                      obtain ⟨_, _, ⟨⟩, _, x2⟩ := r2.int hkl
                      obtain ⟨yb1, yb2⟩ := amtB_iff.1 (split_el HW.out HM.out HIS.out hkw).1
                      obtain ⟨ay, hay⟩ : ∃ ay, absI (gi l kk) = ay := ⟨_, rfl⟩
                      have hmy : max (gi l kk) (-gi l kk) = ay := by rw [max_abs, hay]
                      have hkl' : (kk : Int) < (k : Int) := by omega
                      rw [hay] at p1
                      rw [HAX.out] at p1
                      rw [HWJ.out] at x1
                      have hb2 : ¬ 9223372036854775807 < x - gi l kk := by omega
                      rcases Int.lt_trichotomy (gi ws kk) wj with hx | hx | hx
                      · have p3 := p1 hx
                        have f1 : decide (gi ws kk < wj) = true := decide_eq_true hx
                        have f2 : (wj == gi ws kk) = false := by rw [beq_eq_false_iff_ne]; omega
                        have f3 : decide (ax < ay) = false := decide_eq_false (by omega)
                        clear p1 p2
                        generalize gi l kk = y at *
                        generalize gi ws kk = wk at *
                        go_wp2_with (fail)
                        go_quiet (fail)
                        go_wp2
                        exact ⟨⟨kk + 1, by omega, by go_num, hB.out.trans (bdrew wr nq)⟩, by simp [intOf]; omega⟩
                      · obtain ⟨p3, p4⟩ := p2 hx.symm
                        clear p1 p2
                        have f3 : decide (1 < x - gi l kk) = false := decide_eq_false (by omega)
                        have f4 : decide (1 < gi l kk - x) = false := decide_eq_false (by omega)
                        rw [hx] at x3
                        clear hx
                        generalize gi l kk = y at *
                        go_wp2_with (fail)
                        go_quiet (fail)
                        go_wp2
                        exact ⟨⟨kk + 1, by omega, by go_num, hB.out.trans (bdrew wr nq)⟩, by simp [intOf]; omega⟩
                      · have f1 : decide (gi ws kk < wj) = false := decide_eq_false (by omega)
                        have f2 : (wj == gi ws kk) = false := by rw [beq_eq_false_iff_ne]; omega
                        clear p1 p2
                        generalize gi l kk = y at *
                        generalize gi ws kk = wk at *
                        go_wp2_with (fail)
                        go_quiet (fail)
                        go_wp2
                        exact ⟨⟨kk + 1, by omega, by go_num, hB.out.trans (bdrew wr nq)⟩, by simp [intOf]; omega⟩
                    · obtain rfl : kk = k := by omega
                      go_wp2_with (fail)
                      exact ⟨⟨j + 1, by omega, by go_num, by rw [HSN.out], hB⟩, by simp [intOf]; omega⟩
            · obtain rfl : j = k := by omega
              have hsum : sumTo (gi l) j = m := by rw [← split_sum HW.out HIS.out, ← sumTo_list, HIS.out.len, HL.out]
              have HSU := Lib.hid (sum_some (split_total HW.out HM.out HIS.out))
              rw [hsum]
              clear hsum
              go_wp2_with (fail)
              refine (sum_any _ _ _ _ _ wr (hr2.out.below hB.out)).mono ?_
              rintro e w3 ⟨rfl, rfl⟩
              rw [HSU.out.1, HSU.out.2]
              go_wp2
              go_ret
              exact ⟨rfl, hbw.out.trans (hB.out.mono hbw.out.size)⟩
    · obtain rfl : n2 = 0 := by rw [← hr2.out.ilen]; rfl
      go_wp2_with (fail)
      go_ret
      exact ⟨rfl, hbw.out⟩
end Go.Proofs.YtnigdcppdkcllaaDoor

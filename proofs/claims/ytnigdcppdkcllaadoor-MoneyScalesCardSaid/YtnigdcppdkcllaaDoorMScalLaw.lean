/- MoneyScales: the walk of the law. -/
import Derived.Test.YtnigdcppdkcllaaDoorMSane
import Derived.Test.YtnigdcppdkcllaaDoorMSplitL
namespace Go.Proofs.YtnigdcppdkcllaaDoor
set_option linter.unusedVariables false
set_option linter.unusedSimpArgs false
open Go.RowKit

theorem amtB_neg (m : Int) : amtB (-m) = amtB m := by
  unfold amtB
  rw [decide_eq_decide]
  omega
theorem scales_law {m k : Int} {ws a b c : List Int} (hk : 0 < k) (hn : ws.length ≤ 256) (hw : ∀ i, i < ws.length → 0 ≤ gi ws i ∧ gi ws i * k ≤ 1000) (ha : SplitIs m ws a) (hb : SplitIs m (ws.map (· * k)) b) (hc : SplitIs (-m) ws c) :
    a = b ∧ splitE m (ws.map (· * k)) = splitE m ws ∧ splitE (-m) ws = splitE m ws ∧ a.length = c.length ∧ ∀ i, i < a.length → gi a i = - gi c i ∧ -1125899906842624 ≤ gi c i ∧ gi c i ≤ 1125899906842624 := by
  have hWS := WOk.scale (ws := ws) hk hw hn
  have hAN := amtB_neg m
  have e1 : splitE m (ws.map (· * k)) = splitE m ws := by
    cases h1 : amtB m with
    | false => rw [splitE_amt h1, splitE_amt h1]
    | true =>
      by_cases h2 : WOk ws
      · rw [splitE_ok h1 h2, splitE_ok h1 (hWS.2 h2)]
      · rw [splitE_arg h1 h2, splitE_arg h1 (fun h => h2 (hWS.1 h))]
  have e2 : splitE (-m) ws = splitE m ws := by
    cases h1 : amtB m with
    | false => rw [splitE_amt h1, splitE_amt (by rw [hAN, h1])]
    | true =>
      have h1' : amtB (-m) = true := by rw [hAN, h1]
      by_cases h2 : WOk ws
      · rw [splitE_ok h1 h2, splitE_ok h1' h2]
      · rw [splitE_arg h1 h2, splitE_arg h1' h2]
  rcases ha with ⟨ea, ha⟩ | ⟨ea, rfl⟩
  · obtain ⟨hm, hW⟩ := splitE_zero ea
    have hb' : IsSplit m (ws.map (· * k)) b := by
      rcases hb with ⟨_, h⟩ | ⟨h, _⟩
      · exact h
      · rw [e1] at h; exact absurd ea h
    have hc' : IsSplit (-m) ws c := by
      rcases hc with ⟨_, h⟩ | ⟨h, _⟩
      · exact h
      · rw [e2] at h; exact absurd ea h
    refine ⟨split_scale hk ha hb', e1, e2, by rw [ha.len, hc'.len], fun i hi => ?_⟩
    rw [ha.len] at hi
    have hb3 := amtB_iff.1 (split_el hW (by rw [hAN, hm]) hc' hi).1
    exact ⟨split_neg hW ha hc' hi, hb3.1, hb3.2⟩
  · have hb' : b = [] := by
      rcases hb with ⟨h, _⟩ | ⟨_, h⟩
      · rw [e1] at h; exact absurd h ea
      · exact h
    have hc' : c = [] := by
      rcases hc with ⟨h, _⟩ | ⟨_, h⟩
      · rw [e2] at h; exact absurd h ea
      · exact h
    subst hb' hc'
    exact ⟨rfl, e1, e2, rfl, fun i hi => absurd hi (by simp)⟩
theorem take_mul_succ (ws : List Int) (k : Int) (j : Nat) (hj : j < ws.length) : (((ws.take j).map (· * k)).map vi) ++ [.int .i64 (gi ws j * k)] = (((ws.take (j + 1)).map (· * k)).map vi) := by
  rw [List.take_succ_eq_append_getElem hj, List.map_append, List.map_append, gi_get ws j hj]; rfl

set_option maxRecDepth 100000 in
set_option maxHeartbeats 4000000 in
theorem scales_walk (A : Option Addr) (n c : Nat) (ws : List Int) (m t : Int) (w : World) (h : Rd w w.heap.size 1 A n c (ws.map vi)) (hz : ∀ x ∈ ws, -9223372036854775808 ≤ x ∧ x ≤ 9223372036854775807) (hm : (Lit.int .i64 m).wf = true) (ht : (Lit.int .u8 t).wf = true) (hg : Gd w) :
    Calls Tryd.prog 5 #[.int .i64 m, .slice A n c, .int .u8 t] w fun e w' => e = .returned (.bool true) ∧ Below w.heap.size w w' := by
  have hcap := h.cap
  have hbig := h.big
  have hS := Lib.hid (sane_any w hg)
  have hm' : -9223372036854775808 ≤ m ∧ m ≤ 9223372036854775807 := by
    have h1 : IntKind.i64.min = -9223372036854775808 := rfl
    have h2 : IntKind.i64.max = 9223372036854775807 := rfl
    simp only [Lit.wf, Bool.and_eq_true, decide_eq_true_eq] at hm
    omega
  have ht' : 0 ≤ t ∧ t ≤ 255 := by
    have h1 : IntKind.u8.min = 0 := rfl
    have h2 : IntKind.u8.max = 255 := rfl
    simp only [Lit.wf, Bool.and_eq_true, decide_eq_true_eq] at ht
    omega
  obtain ⟨mb1, mb2⟩ := hm'
  obtain ⟨tb1, tb2⟩ := ht'
  clear hg hm ht
  by_cases hn : 256 < n
  · go_enter Tryd.func5, Tryd.ntmps5
    go_wp2_with (go_at_call 10; refine hS.out.mono ?_; rintro e w1 ⟨rfl, hb1⟩)
    go_ret
    exact ⟨rfl, hb1⟩
  · by_cases hml : m < -1125899906842624
    · go_enter Tryd.func5, Tryd.ntmps5
      go_wp2_with (go_at_call 10; refine hS.out.mono ?_; rintro e w1 ⟨rfl, hb1⟩)
      go_ret
      exact ⟨rfl, hb1⟩
    · have HL := Lib.hid h.ilen
      have mb3 : -1125899906842624 ≤ m := by omega
      have d1 : decide ((256 : Int) < (n : Int)) = false := decide_eq_false (by omega)
      have d2 : decide (256 < n) = false := decide_eq_false (by omega)
      have d3 : decide (m < -1125899906842624) = false := decide_eq_false (by omega)
      obtain ⟨k, hk⟩ : ∃ k, 1 + t % 10 = k := ⟨_, rfl⟩
      have hk1 : 1 ≤ k := by omega
      have hk2 : k ≤ 10 := by omega
      have hq0 : 0 ≤ 1000 / k := Int.ediv_nonneg (by omega) (by omega)
      have hq1 : 1000 / k * k ≤ 1000 := Int.ediv_mul_le _ (by omega)
      have hq2 : 1000 / k ≤ 1000 := by
        have : 1000 / k * 1 ≤ 1000 / k * k := Int.mul_le_mul_of_nonneg_left hk1 hq0
        omega
      have HQ1 := Lib.hid hq1
      clear hq1
      go_enter Tryd.func5, Tryd.ntmps5
      go_wp2_with (fail)
      refine hS.out.mono ?_
      rintro e w1 ⟨rfl, hb1'⟩
      have hb1 := Lib.hid hb1'
      have hr := Lib.hid (rd_on h hb1')
      clear hb1' h
      go_wp2_with (fail)
      go_loopw [8, 33] (fun o i wr => ∃ (j : Nat) (A2 : Option Addr) (c2 : Nat), j ≤ n ∧ i = .int .i64 j ∧ o = .slice A2 j c2 ∧ Hid (wr.ownsRow w1.heap.size 3 1 (.slice A2 j c2) j (((ws.take j).map (· * k)).map vi) ∧ Below w1.heap.size w1 wr ∧ ∀ i, i < j → 0 ≤ gi ws i ∧ gi ws i * k ≤ 1000)) (fun _ i _ => n - (intOf i).toNat)
      case atStart => exact ⟨0, none, 0, Nat.zero_le _, rfl, rfl, World.ownsRow_nil _ _ _ _, Below.refl _ _, fun i hi => by omega⟩
      case round =>
        obtain ⟨j, A2, c2, hj, rfl, rfl, hI⟩ := hrel
        have hz0 := hI.out.2.1.size
        by_cases hjn : j < n
        · have hRd := hr.out.below hI.out.2.1
          obtain ⟨b, off, rfl, hb, hx⟩ := hRd.int hjn
          have hxb := hz (gi ws j) (by rw [gi_get ws j (by have := HL.out; omega)]; exact List.getElem_mem _)
          have HT := Lib.hid (take_mul_succ ws k j (by have := HL.out; omega))
          clear hRd
          by_cases g1 : gi ws j < 0
          · clear HT
            generalize gi ws j = x at *
            go_wp2
            go_ret
            exact ⟨rfl, hb1.out.trans (hI.out.2.1.mono hb1.out.size)⟩
          · by_cases g2 : 1000 / k < gi ws j
            · clear HT
              generalize gi ws j = x at *
              go_wp2
              go_ret
              exact ⟨rfl, hb1.out.trans (hI.out.2.1.mono hb1.out.size)⟩
            · have g3 : 0 ≤ gi ws j := by omega
              have g4 : gi ws j ≤ 1000 / k := by omega
              have p0 : 0 ≤ gi ws j * k := Int.mul_nonneg g3 (by omega)
              have p1 : gi ws j * k ≤ 1000 := Int.le_trans (Int.mul_le_mul_of_nonneg_right g4 (by omega)) HQ1.out
              have HX := Lib.hid (show ∀ i, i < j + 1 → 0 ≤ gi ws i ∧ gi ws i * k ≤ 1000 from fun i hi => by
                rcases Nat.eq_or_lt_of_le (Nat.le_of_lt_succ hi) with rfl | h2
                · exact ⟨g3, p1⟩
                · exact hI.out.2.2 i h2)
              generalize gi ws j = x at *
              go_wp2_with (at_builtin; refine Hid.out ?_)
              refine Lib.hid ?_
              refine wpList_push elemInt rfl (.tmp 45) (.tmp 49) rfl w1.heap.size A2 j c2 _ rfl (hI.out.1.alloc _) wr.heap.size rfl [.int .i64 (x * k)] rfl (new_cells wr _ _) (by intro u hu; simp at hu; subst hu; rfl) (by omega) (by omega) (by simp; omega) ?_
              intro A3 c3 w3 ho3 hb3 hg3
              rw [HT.out] at ho3
              have HN := Lib.hid (And.intro ho3 (And.intro ((hI.out.2.1.alloc hz0 (.cells #[.int .i64 (x * k)] 3)).trans hb3) HX.out))
              clear ho3 hb3 hg3
              go_wp2
              go_roundw
              case rel => exact ⟨j + 1, _, _, by omega, by go_num, rfl, HN.out⟩
              case measure => simp [intOf]; omega
        · obtain rfl : j = n := by omega
          have how := hI.out.1
          rw [List.take_of_length_le (by rw [HL.out]; exact Nat.le_refl _)] at how
          have hRM := Lib.hid (own_rd how)
          have hRW := Lib.hid (rd_on hr.out hI.out.2.1)
          have hbw := Lib.hid (hb1.out.trans (hI.out.2.1.mono hb1.out.size))
          have hLW := Lib.hid (show ∀ i, i < ws.length → 0 ≤ gi ws i ∧ gi ws i * k ≤ 1000 from fun i hi => hI.out.2.2 i (by rw [← HL.out]; exact hi))
          clear how hI hr hb1
          go_wp2_with (fail)
          refine (split_any A j c ws m wr hRW.out).mono ?_
          rintro e w2 ⟨Aa, na, ca, la, rfl, hsa, hra, hb2⟩
          have HSA := Lib.hid hsa
          have hRM2 := Lib.hid (rd_on hRM.out hb2)
          have hRW2 := Lib.hid (rd_on hRW.out hb2)
          have hRA2 := Lib.hid hra
          have hbw2 := Lib.hid (hbw.out.trans (hb2.mono hbw.out.size))
          clear hsa hra hb2 hRM hRW hbw
          obtain ⟨se, hse⟩ : ∃ se, splitE m ws = se := ⟨_, rfl⟩
          rw [hse]
          have HSE := Lib.hid hse
          clear hse
          go_wp2_with (fail)
          refine (split_any A2 j c2 (ws.map (· * k)) m w2 hRM2.out).mono ?_
          rintro e w3 ⟨Ab, nb, cb, lb, rfl, hsb, hrb, hb3⟩
          have HSB := Lib.hid hsb
          have hRW3 := Lib.hid (rd_on hRW2.out hb3)
          have hRA3 := Lib.hid (rd_on hRA2.out hb3)
          have hRB3 := Lib.hid hrb
          have hbw3 := Lib.hid (hbw2.out.trans (hb3.mono hbw2.out.size))
          clear hsb hrb hb3 hRM2 hRW2 hRA2 hbw2
          obtain ⟨se2, hse2⟩ : ∃ se, splitE m (ws.map (· * k)) = se := ⟨_, rfl⟩
          rw [hse2]
          have HSE2 := Lib.hid hse2
          clear hse2
          go_wp2_with (fail)
          refine (split_any A j c ws (-m) w3 hRW3.out).mono ?_
          rintro e w4 ⟨Ac, nc, cc, lc, rfl, hsc, hrc, hb4⟩
          have hRA4 := Lib.hid (rd_on hRA3.out hb4)
          have hRB4 := Lib.hid (rd_on hRB3.out hb4)
          have hRC4 := Lib.hid hrc
          have hbw4 := Lib.hid (hbw3.out.trans (hb4.mono hbw3.out.size))
          obtain ⟨rfl, q2, q3, q4, q5⟩ := scales_law (by omega) (by rw [HL.out]; omega) hLW.out HSA.out HSB.out hsc
          have HQ5 := Lib.hid q5
          rw [q3, HSE.out]
          rw [HSE2.out, HSE.out] at q2
          subst q2
          have hna := hRA4.out.ilen
          have hnc := hRC4.out.ilen
          have hncc : na = nc := by rw [← hna, ← hnc, q4]
          clear q3 q4 q5 hsc hrc hb4 hRA3 hRB3 hbw3 hna hnc
          subst hncc
          go_wp2_with (fail)
          refine (sameI_any Aa Ab na nb ca cb _ la la w4 hRA4.out hRB4.out).mono ?_
          rintro e w5 ⟨rfl, hb5⟩
          rw [show decide (la = la) = true from decide_eq_true rfl]
          have hRA5 := Lib.hid (rd_on hRA4.out hb5)
          have hRC5 := Lib.hid (rd_on hRC4.out hb5)
          have hbw5 := Lib.hid (hbw4.out.trans (hb5.mono hbw4.out.size))
          have hcaa := hRA4.out.cap
          have hcab := hRA4.out.big
          have hcca := hRC4.out.cap
          have hccb := hRC4.out.big
          have HNA := Lib.hid hRA4.out.ilen
          clear hb5 hRA4 hRB4 hRC4 hbw4
          go_wp2_with (fail)
          go_loopw [94] (fun i w6 => ∃ ii : Nat, ii ≤ na ∧ i = .int .i64 ii ∧ Hid (Below w5.heap.size w5 w6)) (fun i _ => na - (intOf i).toNat)
          case atStart => exact ⟨0, Nat.zero_le _, rfl, Below.refl _ _⟩
          case round =>
            obtain ⟨ii, hii, rfl, hB6⟩ := hrel
            by_cases hin : ii < na
            · have r1 := hRA5.out.below hB6.out
              have r2 := hRC5.out.below hB6.out
              obtain ⟨b1, o1, rfl, _, x1⟩ := r1.int hin
              obtain ⟨b2, o2, rfl, _, x2⟩ := r2.int hin
              obtain ⟨q1, q2, q3⟩ := HQ5.out ii (by rw [HNA.out]; exact hin)
              rw [q1] at x1
              have hin' : (ii : Int) < (na : Int) := by omega
              clear r1 r2 q1
              generalize gi lc ii = y at *
              have hwy : IntKind.i64.wrap (-y) = -y := IntWalk.i64_in _ (by omega)
              go_wp2
              go_quiet (fail)
              go_wp2
              go_roundw
              case rel => exact ⟨ii + 1, by omega, by go_num, hB6.out.trans (bdrew wr nq)⟩
              case measure => simp [intOf]; omega
            · go_wp2
              go_ret
              exact ⟨rfl, hbw5.out.trans (hB6.out.mono hbw5.out.size)⟩
end Go.Proofs.YtnigdcppdkcllaaDoor

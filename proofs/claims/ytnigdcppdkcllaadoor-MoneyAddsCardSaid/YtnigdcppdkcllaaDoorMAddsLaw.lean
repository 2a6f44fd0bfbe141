/- MoneyAdds: the walk of the law. -/
import Derived.Test.YtnigdcppdkcllaaDoorMSane
namespace Go.Proofs.YtnigdcppdkcllaaDoor
set_option linter.unusedVariables false
set_option linter.unusedSimpArgs false
open Go.RowKit

theorem sumE_cases (l : List Int) : sumE l = 0 ∨ sumE l = 50 := by unfold sumE; split <;> simp
set_option maxRecDepth 100000 in
set_option maxHeartbeats 4000000 in
theorem adds_walk (A A' : Option Addr) (n n' c c' : Nat) (a b : List Int) (w : World) (h : Rd w w.heap.size 1 A n c (a.map vi)) (h' : Rd w w.heap.size 1 A' n' c' (b.map vi)) (hg : Gd w) (hsz : n ≤ 17592186044416) (hsz' : n' ≤ 17592186044416) :
    Calls Tryd.prog 9 #[.slice A n c, .slice A' n' c'] w fun e w' => e = .returned (.bool true) ∧ Below w.heap.size w w' := by
  have hcap := h.cap
  have hbig := h.big
  have hcap' := h'.cap
  have hbig' := h'.big
  by_cases hn : n + n' > 500
  · have hn2 : (500 : Int) < (n : Int) + (n' : Int) := by omega
    go_enter Tryd.func9, Tryd.ntmps9
    go_wp2_with (go_at_call 10; refine (sane_any _ hg).mono ?_; rintro e w1 ⟨rfl, hb1⟩)
    go_ret
    exact ⟨rfl, hb1⟩
  · have ha := h.ilen
    have hb := h'.ilen
    have HA := Lib.hid ha
    have HB := Lib.hid hb
    clear ha hb
    go_enter Tryd.func9, Tryd.ntmps9
    go_wp2_with (fail)
    refine (sane_any _ hg).mono ?_
    rintro e w1 ⟨rfl, hb1'⟩
    have hb1 := Lib.hid hb1'
    have hr := Lib.hid ((h.below hb1').more hb1'.size)
    have hr' := Lib.hid ((h'.below hb1').more hb1'.size)
    clear hb1' hg h h'
    go_wp2_with (fail)
    refine (sum_any A n c _ a w1 hr.out).mono ?_
    rintro e w2 ⟨rfl, rfl⟩
    go_wp2_with (fail)
    refine (sum_any A' n' c' _ b w1 hr'.out).mono ?_
    rintro e w2 ⟨rfl, rfl⟩
    have ho := Lib.hid (own_new0 w1 w1.heap.size 3 1 (Nat.le_refl _))
    have hb2 : Hid (Below w1.heap.size w1 (w1.alloc (.cells #[] 3))) := Lib.hid ((Below.refl _ w1).alloc (Nat.le_refl _) _)
    go_wp2_with (at_builtin; refine Hid.out ?_)
    refine Lib.hid ?_
    refine wpList_app elemInt rfl (.tmp 34) (.tmp 35) rfl w1.heap.size _ 0 0 [] rfl ho.out w1.heap.size _ _ _ rfl _ (hr.out.below hb2.out) (vi_one _) (by omega) (by omega) (by simp) ?_
    intro A3 c3 w3 ho3 hb3 hg3
    have e0 : 0 + n = n := by omega
    rw [e0, List.nil_append] at ho3
    have HO3 := Lib.hid ho3
    have hb13 := Lib.hid (hb2.out.trans hb3)
    have r13 := Lib.hid ((hr'.out.below (hb2.out.trans hb3)))
    have hz3 : w1.heap.size ≤ w3.heap.size := (hb2.out.trans hb3).size
    clear ho3 hb3 hg3 hb2 ho
    rw [e0]
    go_wp2_with (at_builtin; refine Hid.out ?_)
    refine Lib.hid ?_
    refine wpList_app elemInt rfl (.tmp 36) (.tmp 37) rfl w1.heap.size A3 n c3 (a.map vi) rfl HO3.out w1.heap.size _ _ _ rfl _ r13.out (vi_one _) (by omega) (by omega) hz3 ?_
    intro A4 c4 w4 ho4 hb4 hg4
    rw [← List.map_append] at ho4
    have HR4 := Lib.hid (own_rd ho4)
    have hb14 := Lib.hid (hb13.out.trans hb4)
    have hr4 := Lib.hid ((hr.out.below (hb13.out.trans hb4)).more (hb13.out.trans hb4).size)
    have hr4' := Lib.hid ((hr'.out.below (hb13.out.trans hb4)).more (hb13.out.trans hb4).size)
    have hbw4 := Lib.hid (hb1.out.trans ((hb13.out.trans hb4).mono hb1.out.size))
    clear ho4 hb4 hg4 HO3 r13 hb13 hr hr' hb1 hb14
    go_wp2_with (fail)
    refine (sum_any A4 (n + n') c4 _ (a ++ b) w4 HR4.out).mono ?_
    rintro e w2 ⟨rfl, rfl⟩
    have ho := Lib.hid (own_new0 w4 w4.heap.size 3 1 (Nat.le_refl _))
    have hb2 : Hid (Below w4.heap.size w4 (w4.alloc (.cells #[] 3))) := Lib.hid ((Below.refl _ w4).alloc (Nat.le_refl _) _)
    clear HR4 hz3
    go_wp2_with (at_builtin; refine Hid.out ?_)
    refine Lib.hid ?_
    refine wpList_app elemInt rfl (.tmp 43) (.tmp 44) rfl w4.heap.size _ 0 0 [] rfl ho.out w4.heap.size _ _ _ rfl _ (hr4'.out.below hb2.out) (vi_one _) (by omega) (by omega) (by simp) ?_
    intro A5 c5 w5 ho5 hb5 hg5
    have e1 : 0 + n' = n' := by omega
    rw [e1, List.nil_append] at ho5
    have HO5 := Lib.hid ho5
    have hb45 := Lib.hid (hb2.out.trans hb5)
    have r45 := Lib.hid ((hr4.out.below (hb2.out.trans hb5)))
    have hz5 : w4.heap.size ≤ w5.heap.size := (hb2.out.trans hb5).size
    clear ho5 hb5 hg5 hb2 ho hr4 hr4'
    rw [e1]
    go_wp2_with (at_builtin; refine Hid.out ?_)
    refine Lib.hid ?_
    refine wpList_app elemInt rfl (.tmp 45) (.tmp 46) rfl w4.heap.size A5 n' c5 (b.map vi) rfl HO5.out w4.heap.size _ _ _ rfl _ r45.out (vi_one _) (by omega) (by omega) hz5 ?_
    intro A6 c6 w6 ho6 hb6 hg6
    rw [← List.map_append] at ho6
    have HR6 := Lib.hid (own_rd ho6)
    have hbw6 := Lib.hid (hbw4.out.trans ((hb45.out.trans hb6).mono hbw4.out.size))
    clear ho6 hb6 hg6 HO5 r45 hb45 hz5 hbw4
    go_wp2_with (fail)
    refine (sum_any A6 (n' + n) c6 _ (b ++ a) w6 HR6.out).mono ?_
    rintro e w2 ⟨rfl, rfl⟩
    have HL := Lib.hid (fun h1 h2 h3 h4 => adds_law (a := a) (b := b) h1 h2 h3 h4)
    have hS := Lib.hid (fun w' (r : Rd w' (w6.heap.size + 1) 1 (some ⟨w6.heap.size, 0, none⟩) 2 2 ([sumN a, sumN b].map vi)) => sum_any (some ⟨w6.heap.size, 0, none⟩) 2 2 _ [sumN a, sumN b] w' r)
    have r7 := Lib.hid (rd_lit w6 [sumN a, sumN b] (by show 2 ≤ _; omega))
    have c1 := sumE_cases a
    have c2 := sumE_cases b
    have c3 := sumE_cases (a ++ b)
    have c4 := sumE_cases (b ++ a)
    generalize sumE a = ea at *
    generalize sumE b = eb at *
    generalize sumE (a ++ b) = eab at *
    generalize sumE (b ++ a) = eba at *
    generalize sumN (a ++ b) = nab at *
    generalize sumN (b ++ a) = nba at *
    generalize sumE [sumN a, sumN b] = es at *
    generalize sumN [sumN a, sumN b] = ns at *
    rcases c1 with rfl | rfl
    · rcases c2 with rfl | rfl
      · rcases c3 with rfl | rfl
        · rcases c4 with rfl | rfl
          · obtain ⟨l1, l2, l3⟩ := HL.out rfl rfl rfl rfl
            subst l1 l2 l3
            go_wp2_with (fail)
            refine (hS.out _ r7.out).mono ?_
            rintro e w8 ⟨rfl, rfl⟩
            go_wp2
            go_ret
            exact ⟨ret_bool (by simp), hbw6.out.alloc hbw6.out.size _⟩
          · go_wp2
            go_ret
            exact ⟨rfl, hbw6.out⟩
        · go_wp2
          go_ret
          exact ⟨rfl, hbw6.out⟩
      · go_wp2
        go_ret
        exact ⟨rfl, hbw6.out⟩
    · go_wp2
      go_ret
      exact ⟨rfl, hbw6.out⟩
end Go.Proofs.YtnigdcppdkcllaaDoor

/- SyntaxSpacing: the walk of the law. -/
import Derived.Test.YtlgdmbdhffdenaaGreatDoorYSane
import Derived.Test.YtlgdmbdhffdenaaGreatDoorYSameR
import Derived.Test.YtlgdmbdhffdenaaGreatDoorJoin
namespace Go.Proofs.YtlgdmbdhffdenaaGreatDoor
set_option linter.unusedVariables false
set_option linter.unusedSimpArgs false
open Go.RowKit

set_option maxRecDepth 100000 in
theorem yshortS_any (A : Option Addr) (n c : Nat) (w : World) : Calls Tryz.prog 12 #[.slice A n c] w fun e w' => e = .returned (.bool (decide ((n : Int) ≤ 2000))) ∧ w' = w := by
  go_enter Tryz.func12, Tryz.ntmps12
  go_wp2
  go_ret
  exact ⟨rfl, rfl⟩
theorem lookS (T : List Tok) (x : Int) (h : ∀ t ∈ T, okTok t = true) : (T ++ [(⟨5, [], x⟩ : Tok)]).map look = (lex (joinB T)).1.map look := by
  rw [(lex_join T h).1]
  simp [look]
theorem joinOkS {T : List Tok} {x : Int} (h : ∀ t ∈ T, okTok t = true) : joinOk T ⟨5, [], x⟩ = true := by
  unfold joinOk
  rw [List.all_eq_true.2 h]
  rfl
/-- Token k's offset is another one's only if it is the same token. -/
theorem lex_at {l : List UInt8} {k n : Nat} {t : Tok} (hk : (lex l).1[k]? = some t) (hn : n < (lex l).1.length) : (k < n → t.at_ ≠ (nx (lex l).1 n).at_) ∧ (k = n → t.at_ = (nx (lex l).1 n).at_) := by
  have hp := List.pairwise_iff_getElem.1 (lex_rise l)
  obtain ⟨hk1, rfl⟩ := List.getElem?_eq_some_iff.1 hk
  have e : nx (lex l).1 n = (lex l).1[n] := by
    unfold nx
    rw [List.getElem?_eq_getElem hn]
    rfl
  rw [e]
  refine ⟨fun h => ?_, fun h => by subst h; rfl⟩
  have := hp k n hk1 hn h
  omega

set_option maxHeartbeats 8000000 in
set_option maxRecDepth 100000 in
theorem spacing_walk (A : Option Addr) (n c : Nat) (l : List UInt8) (w : World) (h : Rd w w.heap.size 1 A n c (l.map vb)) (hG : Gb w.heap.size w) :
    Calls Tryz.prog 10 #[.slice A n c] w fun e w' => e = .returned (.bool true) ∧ Below w.heap.size w w' := by
  have hlen := h.blen
  subst hlen
  have HH := Lib.hid h
  have HG := Lib.hid hG
  have hcap := h.cap
  have hbig := h.big
  clear h hG
  by_cases hn : l.length ≤ 2000
  · have hd : decide ((l.length : Int) ≤ 2000) = true := decide_eq_true (by omega)
    go_enter Tryz.func10, Tryz.ntmps10
    go_wp2_with (fail)
    refine (sane13_any w HG.out).mono ?_
    rintro e w1 ⟨rfl, hb1⟩
    have C1 := Lib.hid hb1
    clear hb1
    go_wp2_with (fail)
    refine (yshortS_any A l.length c w1).mono ?_
    rintro e w1' ⟨rfl, rfl⟩
    rw [hd]
    go_wp2_with (fail)
    refine (tokens_any A l.length c l w1' ((HH.out.below C1.out).more C1.out.size) (by omega)).mono ?_
    obtain ⟨T, hx, hok, hwd⟩ := lex_wide' l
    have HE := Lib.hid hx
    have HO := Lib.hid hok
    have HP : ∃ P, (lex l).2 = P := ⟨_, rfl⟩
    obtain ⟨P, hp⟩ := HP
    have HP := Lib.hid hp
    unfold TokPost
    rw [hx, hp]
    rintro e w2 ⟨A1, A2, c1, c2, rfl, h1, h2, hb2⟩
    have C2 := Lib.hid (C1.out.trans (hb2.mono C1.out.size))
    have T2 := Lib.hid h1
    obtain ⟨m, hm⟩ := (HG.out w2 C2.out).len
    have Hm := Lib.hid hm
    have k1 := h1.cap
    have k2 := h1.big
    have k3 := h2.cap
    have k4 := h2.big
    clear h1 h2 hb2 hx hp hok C1 hm
    have hT1 : (T ++ [(⟨5, [], l.length⟩ : Tok)]).length = T.length + 1 := by simp
    rw [hT1] at k1 T2 ⊢
    by_cases hpl : P = []
    · subst hpl
      rw [show ([] : List Prob).length = 0 from rfl] at *
      go_wp2_with (fail)
      refine (join_any A1 (T.length + 1) c1 T ⟨5, [], l.length⟩ m w2 T2.out Hm.out (by omega)).mono ?_
      rintro e w3 ⟨hb3, ⟨_, Ab, cb, rfl, hrd⟩ | ⟨hno, _⟩⟩
      · have C3 := Lib.hid (C2.out.trans (hb3.mono C2.out.size))
        have T3 := Lib.hid ((T2.out.below hb3).more hb3.size)
        have B3 := Lib.hid hrd
        have HL := Lib.hid (lookS T l.length HO.out)
        have HJ := Lib.hid (lex_join T HO.out).2
        have kb1 := hrd.cap
        have kb2 := hrd.big
        clear hb3 hrd C2 T2 Hm
        generalize joinB T = J at *
        by_cases hj : J.length > 4000
        · go_wp2_with (fail)
          go_ret
          exact ⟨rfl, C3.out⟩
        · go_wp2_with (fail)
          refine (tokens_any Ab J.length cb J w3 B3.out (by omega)).mono ?_
          unfold TokPost
          have hl2 : (lex J).1.length = T.length + 1 := by
            have := congrArg List.length HL.out
            simpa using this.symm
          have HL2 := Lib.hid hl2
          rw [HJ.out, hl2, show ([] : List Prob).length = 0 from rfl]
          rintro e w4 ⟨A5, A6, c5, c6, rfl, h5, h6, hb4⟩
          have C4 := Lib.hid (C3.out.trans (hb4.mono C3.out.size))
          have T4 := Lib.hid ((T3.out.below hb4).more hb4.size)
          have B4 := Lib.hid ((B3.out.below hb4).more hb4.size)
          have U4 := Lib.hid h5
          have k5 := h5.cap
          have k6 := h5.big
          have k7 := h6.cap
          have k8 := h6.big
          clear h5 h6 hb4 C3 T3 B3 hl2
          obtain ⟨r, x, y, cd, e1, e2, hc⟩ : ∃ (r : RT) (x y cd : Int), topRules l = (r, x, cd) ∧ topRules J = (r, y, cd) ∧ ((cd = 0 ∧ x = 0 ∧ y = 0) ∨ (cd = 130 ∧ ∃ q, q < (lex l).1.length ∧ x = (nx (lex l).1 q).at_ ∧ y = (nx (lex J).1 q).at_)) := by
            rcases law_space HP.out HJ.out (by rw [HE.out]; exact HL.out) with ⟨r, e1, e2⟩ | ⟨q, hq, e1, e2⟩
            · exact ⟨r, 0, 0, 0, e1, e2, .inl ⟨rfl, rfl, rfl⟩⟩
            · exact ⟨RT.zero, _, _, 130, e1, e2, .inr ⟨rfl, q, hq, rfl, rfl⟩⟩
          have HC := Lib.hid hc
          have E2 := Lib.hid e2
          have W1 := ytopRules_any A l.length c l w4 ((HH.out.below C4.out).more C4.out.size) (by omega) (HG.out.on C4.out)
          rw [e1] at W1
          have W1h := Lib.hid W1
          clear W1 e1 e2 hc
          go_wp2_with (fail)
          refine W1h.out.mono ?_
          rintro e w5 ⟨hb5, _, rfl, A7, m7, c7, A8, m8, c8, rfl, hr1, hr2⟩
          have C5 := Lib.hid (C4.out.trans (hb5.mono C4.out.size))
          have T5 := Lib.hid ((T4.out.below hb5).more hb5.size)
          have B5 := Lib.hid ((B4.out.below hb5).more hb5.size)
          have U5 := Lib.hid ((U4.out.below hb5).more hb5.size)
          have P5 := Lib.hid (hr1.sub (S' := fun k => k < w.heap.size) (fun k hk => Nat.lt_of_lt_of_le hk C4.out.size))
          have Z5 := Lib.hid (hr2.sub (S' := fun k => k < w.heap.size) (fun k hk => Nat.lt_of_lt_of_le hk C4.out.size))
          clear hb5 hr1 hr2 W1h C4 T4 B4 U4
          dsimp only
          go_wp2_with (fail)
          first | (refine calls_named ?_; intro w6 hw6) | (refine body_named ?_; intro w6 hw6) | (refine wpList_named ?_; intro w6 hw6) | (refine wp_named ?_; intro w6 hw6)
          have hb6 : Below w5.heap.size w5 w6 := by rw [← hw6]; exact (Below.refl _ _).alloc (Nat.le_refl _) _
          have X6 := Lib.hid (show Blk w6 w5.heap.size 28 #[.string (bs r.name), .int .i64 r.win, .int .i64 r.draw, .int .i64 r.loss, .slice A7 m7 c7, .slice A8 m8 c8] by rw [← hw6]; exact Blk.new _ _ _)
          clear hw6
          have C6 := Lib.hid (C5.out.trans (hb6.mono C5.out.size))
          have T6 := Lib.hid ((T5.out.below hb6).more hb6.size)
          have U6 := Lib.hid ((U5.out.below hb6).more hb6.size)
          have P6 := Lib.hid (P5.out.only (S' := fun _ => False) (Only.of_below hb6) (fun _ h => h.elim))
          have Z6 := Lib.hid (Z5.out.only (S' := fun _ => False) (Only.of_below hb6) (fun _ h => h.elim))
          have W2 := ytopRules_any Ab J.length cb J w6 ((B5.out.below hb6).more hb6.size) (by omega) (HG.out.on C6.out)
          rw [E2.out] at W2
          generalize w5.heap.size = bx at *
          clear hb6 C5 T5 B5 U5 P5 Z5
          refine W2.mono ?_
          rintro e w7 ⟨hb7, _, rfl, A9, m9, c9, A10, m10, c10, rfl, hr3, hr4⟩
          have C7 := Lib.hid (C6.out.trans (hb7.mono C6.out.size))
          have hX := X6.out.below hb7 X6.out.lt
          have T7 := Lib.hid ((T6.out.below hb7).more hb7.size)
          have U7 := Lib.hid ((U6.out.below hb7).more hb7.size)
          have P7 := Lib.hid (P6.out.only (S' := fun _ => False) (Only.of_below hb7) (fun _ h => h.elim))
          have Z7 := Lib.hid (Z6.out.only (S' := fun _ => False) (Only.of_below hb7) (fun _ h => h.elim))
          have Q7 := Lib.hid (hr3.sub (S' := fun k => k < w.heap.size) (fun k hk => Nat.lt_of_lt_of_le hk C6.out.size))
          have Y7 := Lib.hid (hr4.sub (S' := fun k => k < w.heap.size) (fun k hk => Nat.lt_of_lt_of_le hk C6.out.size))
          clear hb7 hr3 hr4 W2 C6 T6 U6 P6 Z6 X6
          have x0 := hX.cell 0
          have x1 := hX.cell 1
          have x2 := hX.cell 2
          have x3 := hX.cell 3
          have x4 := hX.cell 4
          have x5 := hX.cell 5
          have lx := hX.lt
          clear hX
          dsimp only
          go_wp2_with (fail)
          refine calls_named ?_
          intro w8 hw8
          have hb8 : Below w7.heap.size w7 w8 := by rw [← hw8]; exact (Below.refl _ _).alloc (Nat.le_refl _) _
          clear hw8 x0 x1 x2 x3 x4 x5 lx
          have of8 : Only (fun _ => False) w7 w8 := Only.of_below hb8
          have no8 : ∀ k, (fun _ : Nat => False) k → k < w.heap.size := fun _ h => h.elim
          refine (same_any (fun k => k < w.heap.size) (fun k => k < w.heap.size) r r A7 A9 A8 A10 m7 c7 m9 c9 m8 c8 m10 c10 w8 (P7.out.only of8 no8) (Q7.out.only of8 no8) (Z7.out.only of8 no8) (Y7.out.only of8 no8)).mono ?_
          rw [show decide (r = r) = true from decide_eq_true rfl]
          rintro e w9 ⟨rfl, hb9⟩
          have hb79 := hb8.trans (hb9.mono hb8.size)
          have C9 := Lib.hid (C7.out.trans (hb79.mono C7.out.size))
          have T9 := Lib.hid ((T7.out.below hb79).more hb79.size)
          have U9 := Lib.hid ((U7.out.below hb79).more hb79.size)
          clear hb8 hb9 hb79 of8 no8 C7 T7 U7 P7 Z7 Q7 Y7
          rcases HC.out with ⟨rfl, rfl, rfl⟩ | ⟨rfl, q, hq, ex, ey⟩
          · go_wp2_with (fail)
            go_ret
            exact ⟨rfl, C9.out⟩
          · have HX := Lib.hid ex
            have HY := Lib.hid ey
            have hq' : q ≤ T.length := by rw [HE.out] at hq; simp at hq; omega
            have HQ := Lib.hid hq
            clear hq ex ey
            go_wp2_with (fail)
            go_loopw [99] (fun s wr => ∃ k : Nat, s = .int .i64 k ∧ k ≤ q ∧ Hid (wr = w9)) (fun s _ => T.length + 1 - (intOf s).toNat)
            case atStart => exact ⟨0, rfl, Nat.zero_le _, rfl⟩
            case round =>
              obtain ⟨k, rfl, hkq, hw⟩ := hrel
              obtain rfl := hw.out
              obtain ⟨b, off, t, rfl, hb, g0, g1, g2, g3⟩ := T9.out.tok (k := k) (by omega)
              obtain ⟨b', off', t', rfl, hb', g0', g1', g2', g3'⟩ := U9.out.tok (k := k) (by omega)
              have g4 := lex_at (show (lex l).1[k]? = some t by rw [HE.out]; exact g0) HQ.out
              have g4' := lex_at g0' (n := q) (by rw [HL2.out]; omega)
              rw [← HX.out] at g4
              rw [← HY.out] at g4'
              clear g0 g0' g1 g2 g1' g2'
              by_cases hk : k = q
              · have f1 := g4.2 hk
                have f2 := g4'.2 hk
                rw [f1] at g3
                rw [f2] at g3'
                clear g4 g4' f1 f2 hk
                go_wp2_with (fail)
                go_ret
                exact ⟨rfl, C9.out⟩
              · have hlt : k < q := by omega
                have hne : (t.at_ == x) = false := by rw [beq_eq_false_iff_ne]; exact g4.1 hlt
                clear g4 g4' g3' hk
                go_wp2_with (fail)
                go_roundw
                case rel => exact ⟨k + 1, by go_num, hlt, Lib.hid trivial⟩
                case measure => simp [intOf] <;> omega
      · rw [joinOkS HO.out] at hno
        cases hno
    · have hpl' : 0 < P.length := List.length_pos_iff.2 hpl
      go_wp2_with (fail)
      go_ret
      exact ⟨rfl, C2.out⟩
  · have hd : decide ((l.length : Int) ≤ 2000) = false := decide_eq_false (by omega)
    go_enter Tryz.func10, Tryz.ntmps10
    go_wp2_with (fail)
    refine (sane13_any w HG.out).mono ?_
    rintro e w1 ⟨rfl, hb1⟩
    have C1 := Lib.hid hb1
    clear hb1
    go_wp2_with (fail)
    refine (yshortS_any A l.length c w1).mono ?_
    rintro e w1' ⟨rfl, rfl⟩
    rw [hd]
    go_wp2_with (fail)
    go_ret
    exact ⟨rfl, C1.out⟩
end Go.Proofs.YtlgdmbdhffdenaaGreatDoor

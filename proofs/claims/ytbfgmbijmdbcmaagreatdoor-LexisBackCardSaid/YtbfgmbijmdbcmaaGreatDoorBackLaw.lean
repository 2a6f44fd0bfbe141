/- LexisBack: the walk of the law. -/
import Derived.Test.YtbfgmbijmdbcmaaGreatDoorFew
import Derived.Test.YtbfgmbijmdbcmaaGreatDoorAgaLaw
namespace Go.Proofs.YtbfgmbijmdbcmaaGreatDoor
set_option linter.unusedVariables false
set_option linter.unusedSimpArgs false
open Go.RowKit

theorem joinOk_parts {T : List Tok} {e : Tok} (h : joinOk T e = true) : look e = (5, []) ∧ ∀ t ∈ T, okTok t = true := by
  unfold joinOk at h
  simp only [Bool.and_eq_true, List.all_eq_true, beq_iff_eq, List.isEmpty_iff] at h
  exact ⟨by unfold look; rw [h.1.1, h.1.2], h.2⟩
theorem lex_back {T : List Tok} {e : Tok} (h : joinOk T e = true) : ∃ T', (lex (joinB T)).1 = T' ++ [⟨5, [], (joinB T).length⟩] ∧ joinOk T' ⟨5, [], (joinB T).length⟩ = true ∧ joinB T' = joinB T ∧ wide T' ≤ 2 * (joinB T).length ∧ (lex (joinB T)).2 = [] ∧ (T ++ [e]).map look = (lex (joinB T)).1.map look := by
  obtain ⟨he, hok⟩ := joinOk_parts h
  obtain ⟨T', h1, h2, h3⟩ := lex_wide (joinB T)
  have hj := lex_join T hok
  have hl : T'.map look = T.map look := by
    have := hj.1
    rw [h1, List.map_append] at this
    have hlen : (T'.map look).length = (T.map look).length := by
      have := congrArg List.length this
      simpa using this
    exact (List.append_inj this hlen).1
  refine ⟨T', h1, joinOk_all h2, joinB_look T' T hl, h3, hj.2, ?_⟩
  rw [hj.1, List.map_append]
  simp [he]

set_option maxHeartbeats 400000 in
theorem join_none (A : Option Addr) (c n : Nat) (hn : n = 0) (w : World) : Calls Tryz.prog 17 #[.slice A n c] w fun e w' => e = .returned (.tuple #[.slice none 0 0, .int .i64 1]) ∧ w = w' := by
  subst hn
  go_enter Tryz.func17, Tryz.ntmps17
  go_wp2
  go_ret2
  exact ⟨rfl, rfl⟩

set_option maxHeartbeats 4000000 in
set_option maxRecDepth 100000 in
theorem back_walk (A : Option Addr) (n c : Nat) (L : List Tok) (m : Int) (w : World) (h : Rd w w.heap.size 3 A n c (L.flatMap tokCells)) (hz : ∀ t ∈ L, t.text.length ≤ 140737488351232) (hm : w.cell? ⟨0, 0, none⟩ = some (.int .i64 m)) :
    Calls Tryz.prog 6 #[.slice A n c] w fun e w' => e = .returned (.bool true) ∧ Below w.heap.size w w' := by
  have hT := h.tlen
  have hcap := h.cap
  have hbig := h.big
  have Hm := Lib.hid hm
  have H := Lib.hid h
  have Hz := Lib.hid hz
  clear hm h hz
  by_cases hf : fewN L ≤ 3000
  · have Hf := Lib.hid hf
    have q0 : decide (fewN L ≤ 3000) = true := decide_eq_true hf
    clear hf
    rcases List.eq_nil_or_concat L with hL | ⟨T, e, hL⟩
    · -- no token: Join refuses
      go_enter Tryz.func6, Tryz.ntmps6
      go_wp2_with (fail)
      refine (sane_any _ m Hm.out).mono ?_
      rintro e w1 ⟨rfl, hb1'⟩
      have hb1 := Lib.hid hb1'
      clear hb1'
      go_wp2_with (fail)
      refine (few_any A n c _ L w1 (H.out.below hb1.out) Hz.out).mono ?_
      rintro e w2 ⟨rfl, rfl⟩
      rw [q0]
      go_wp2_with (fail)
      refine (join_none A c n (by rw [← hT, hL]; rfl) w1).mono ?_
      rintro e w2 ⟨rfl, rfl⟩
      go_wp2
      go_ret
      exact ⟨rfl, hb1.out⟩
    · rw [List.concat_eq_append] at hL
      have hW := Lib.hid (show wide T ≤ 12000 by
        have h1 := wide_few T
        have h2 := fewN_take L T.length
        have h3 : L.take T.length = T := by rw [hL]; simp
        rw [h3] at h2
        have := Hf.out
        omega)
      subst hL
      go_enter Tryz.func6, Tryz.ntmps6
      go_wp2_with (fail)
      refine (sane_any _ m Hm.out).mono ?_
      rintro E w1 ⟨rfl, hb1'⟩
      have hb1 := Lib.hid hb1'
      clear hb1'
      have hr := Lib.hid ((H.out.below hb1.out).more hb1.out.size)
      have hm1 := Lib.hid ((hb1.out.cell (World.block_lt_of_cell? w _ Hm.out)).trans Hm.out)
      go_wp2_with (fail)
      refine (few_any A n c _ (T ++ [e]) w1 hr.out Hz.out).mono ?_
      rintro E w2 ⟨rfl, rfl⟩
      rw [q0]
      go_wp2_with (fail)
      refine (join_any A n c T e m w1 hr.out hm1.out (Nat.le_trans hW.out (by omega))).mono ?_
      rintro E w3 ⟨hb3', ⟨hj', Ab, cb, rfl, hrd'⟩ | ⟨_, rfl⟩⟩
      · have hb3 := Lib.hid (chain hb1.out hb3')
        have hrd := Lib.hid hrd'
        have hT3 := Lib.hid ((H.out.below hb3.out).more hb3.out.size)
        have hm3 := Lib.hid ((hb3.out.cell (World.block_lt_of_cell? w _ Hm.out)).trans Hm.out)
        have hjl := joinB_len T
        have hWo := hW.out
        obtain ⟨T', hx1, hx2', hx3', hx4, hx5, hx6'⟩ := lex_back hj'
        have hx2 := Lib.hid hx2'
        have hx3 := Lib.hid hx3'
        have hx6 := Lib.hid hx6'
        clear hb3' hrd' hj' hx2' hx3' hx6'
        generalize joinB T = bt' at *
        generalize hNb : bt'.length = nb' at *
        have HNb := Lib.hid hNb
        clear hNb
        go_wp2_with (fail)
        refine (tokens_any Ab nb' cb bt' w3 hrd.out (by omega)).mono ?_
        unfold TokPost
        rw [hx5]
        rintro E w4 ⟨A5, A6, c5, c6, rfl, h5', h6', hb4'⟩
        have Hx1 := Lib.hid hx1
        have h5 := Lib.hid h5'
        have hb4 := Lib.hid hb4'
        have hb4c := Lib.hid (chain hb3.out hb4')
        have hm4 := Lib.hid ((hb4c.out.cell (World.block_lt_of_cell? w _ Hm.out)).trans Hm.out)
        have hrd4 := Lib.hid (hrd.out.below hb4'  |>.more hb4'.size)
        clear h5' h6' hb4' hx1
        generalize (lex bt').1 = TZ at *
        generalize hTz : TZ.length = tz at *
        clear hTz
        go_wp2_with (fail)
        refine (join_any A5 tz c5 T' ⟨5, [], nb'⟩ m w4 (by have := h5.out; rw [Hx1.out] at this; exact this) hm4.out (by omega)).mono ?_
        rintro E w5 ⟨hb5', ⟨_, A7, c7, rfl, hrd5'⟩ | ⟨hno, _⟩⟩
        · rw [hx3.out] at hrd5' ⊢
          rw [HNb.out] at hrd5' ⊢
          have hb5 := Lib.hid (chain hb4c.out hb5')
          have hr5 := Lib.hid hrd5'
          have hl5 := Lib.hid ((h5.out.below hb5').more hb5'.size)
          have ha5 := Lib.hid ((H.out.below hb5.out).more hb5.out.size)
          have hb5o := Lib.hid ((hrd4.out.below hb5').more hb5'.size)
          clear hrd5' hb5'
          go_wp2_with (fail)
          refine (alike_any _ _ _ _ _ _ _ (T ++ [e]) TZ w5 ha5.out hl5.out).mono ?_
          rintro E w6 ⟨rfl, hb6'⟩
          have hb6 := Lib.hid (chain hb5.out hb6')
          have k1 := (hr5.out.below hb6').conv (P := Tryz.prog) (src := 22) (dst := 9) Tryz.underlying22 Tryz.underlying5 Tryz.underlying9 c7
          have k2 := (hb5o.out.below hb6').conv (P := Tryz.prog) (src := 22) (dst := 9) Tryz.underlying22 Tryz.underlying5 Tryz.underlying9 cb
          clear hb6'
          rw [show (decide ((T ++ [e]).map look = TZ.map look)) = true from decide_eq_true hx6.out]
          go_wp2
          go_ret
          exact ⟨rfl, hb6.out⟩
        · rw [hx2.out] at hno
          cases hno
      · have hb3 := Lib.hid (chain hb1.out hb3')
        clear hb3'
        go_wp2
        go_ret
        exact ⟨rfl, hb3.out⟩
  · have q0 : decide (fewN L ≤ 3000) = false := decide_eq_false hf
    clear hf
    go_enter Tryz.func6, Tryz.ntmps6
    go_wp2_with (fail)
    refine (sane_any _ m Hm.out).mono ?_
    rintro e w1 ⟨rfl, hb1'⟩
    have hb1 := Lib.hid hb1'
    clear hb1'
    go_wp2_with (fail)
    refine (few_any A n c _ L w1 (H.out.below hb1.out) Hz.out).mono ?_
    rintro e w2 ⟨rfl, rfl⟩
    rw [q0]
    go_wp2
    go_ret
    exact ⟨rfl, hb1.out⟩
end Go.Proofs.YtbfgmbijmdbcmaaGreatDoor

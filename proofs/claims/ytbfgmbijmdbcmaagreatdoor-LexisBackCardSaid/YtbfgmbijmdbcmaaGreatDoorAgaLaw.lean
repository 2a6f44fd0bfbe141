/- LexisAgain: the walk of the law. -/
import Derived.Test.YtbfgmbijmdbcmaaGreatDoorJoin
namespace Go.Proofs.YtbfgmbijmdbcmaaGreatDoor
set_option linter.unusedVariables false
set_option linter.unusedSimpArgs false
open Go.RowKit

theorem lex_wide (l : List UInt8) : ∃ T, (lex l).1 = T ++ [⟨5, [], l.length⟩] ∧ (∀ t ∈ T, okTok t = true) ∧ wide T ≤ 2 * l.length := by
  obtain ⟨T, h1, h2, h3⟩ := fin_ok l l.length 0 [] [] (-1) (by omega) (Nat.zero_le _) (by simp) (by simp [wide])
  exact ⟨T, by simpa [lex] using h1, h2, h3⟩
theorem joinOk_all {T : List Tok} {x : Int} (h : ∀ t ∈ T, okTok t = true) : joinOk T ⟨5, [], x⟩ = true := by
  unfold joinOk
  rw [List.all_eq_true.2 h]
  rfl
theorem look_join (T : List Tok) (x : Int) (h : ∀ t ∈ T, okTok t = true) : (T ++ [(⟨5, [], x⟩ : Tok)]).map look = (lex (joinB T)).1.map look := by
  rw [(lex_join T h).1]
  simp [look]

set_option maxHeartbeats 4000000 in
set_option maxRecDepth 100000 in
theorem again_walk (A : Option Addr) (n c : Nat) (l : List UInt8) (m : Int) (w : World) (h : Rd w w.heap.size 1 A n c (l.map vb)) (hm : w.cell? ⟨0, 0, none⟩ = some (.int .i64 m)) :
    Calls Tryz.prog 7 #[.slice A n c] w fun e w' => e = .returned (.bool true) ∧ Below w.heap.size w w' := by
  have hlen := h.blen
  have hcap := h.cap
  have hbig := h.big
  subst hlen
  by_cases hn : l.length > 3000
  · go_enter Tryz.func7, Tryz.ntmps7
    go_wp2_with (go_at_call 11; refine (sane_any _ m hm).mono ?_; rintro e w1 ⟨rfl, hb1⟩)
    go_ret
    exact ⟨rfl, hb1⟩
  · have Hm := Lib.hid hm
    clear hm
    go_enter Tryz.func7, Tryz.ntmps7
    go_wp2_with (fail)
    refine (sane_any _ m Hm.out).mono ?_
    rintro e w1 ⟨rfl, hb1'⟩
    have hb1 := Lib.hid hb1'
    clear hb1'
    have hr := Lib.hid ((h.below hb1.out).more hb1.out.size)
    go_wp2_with (fail)
    refine (tokens_any A l.length c l w1 hr.out (by omega)).mono ?_
    obtain ⟨T, hx, hok', hwd⟩ := lex_wide l
    have hok := Lib.hid hok'
    unfold TokPost
    rw [hx]
    rintro e w2 ⟨A1, A2, c1, c2, rfl, h1', h2', hb2'⟩
    have h1 := Lib.hid h1'
    have hb2 := Lib.hid (chain hb1.out hb2')
    have hm2 := Lib.hid ((hb2.out.cell (World.block_lt_of_cell? w _ Hm.out)).trans Hm.out)
    clear h1' h2' hb2' hx hok'
    generalize (lex l).2.length = pl at *
    generalize hTl : (T ++ [(⟨5, [], l.length⟩ : Tok)]).length = tl at *
    clear hTl
    go_wp2_with (fail)
    refine (join_any A1 tl c1 T ⟨5, [], l.length⟩ m w2 h1.out hm2.out (by omega)).mono ?_
    rintro e w3 ⟨hb3', ⟨_, Ab, cb, rfl, hrd'⟩ | ⟨hno, _⟩⟩
    · have hb3 := Lib.hid hb3'
      have hrd := Lib.hid hrd'
      have hT3 := Lib.hid (h1.out.below hb3.out)
      clear hb3' hrd'
      have hjl := joinB_len T
      have HL := Lib.hid (look_join T l.length hok.out)
      have HP := Lib.hid (lex_join T hok.out).2
      generalize joinB T = bt' at *
      generalize hNb : bt'.length = nb' at *
      have HNb := Lib.hid hNb
      clear hNb
      go_wp2_with (fail)
      refine (tokens_any Ab nb' cb bt' w3 hrd.out (by omega)).mono ?_
      unfold TokPost
      rw [HP.out]
      rintro e w4 ⟨A5, A6, c5, c6, rfl, h5', h6', hb4'⟩
      have h5 := Lib.hid h5'
      have hb4 := Lib.hid (chain hb3.out hb4')
      have hT4 := Lib.hid (h1.out.below hb4.out)
      clear h5' h6' hb4'
      generalize (lex bt').1 = TZ at *
      generalize hTz : TZ.length = tz at *
      clear hTz
      go_wp2_with (fail)
      refine (alike_any _ _ _ _ _ _ _ (T ++ [⟨5, [], l.length⟩]) TZ w4 (hT4.out.more hb4.out.size) h5.out).mono ?_
      rintro e w5 ⟨rfl, hb5'⟩
      have hb5 := Lib.hid (chain hb2.out (chain hb4.out hb5'))
      clear hb5'
      rw [show (decide ((T ++ [(⟨5, [], l.length⟩ : Tok)]).map look = TZ.map look)) = true from decide_eq_true HL.out]
      go_wp2
      go_ret
      exact ⟨rfl, hb5.out⟩
    · rw [joinOk_all hok.out] at hno
      cases hno
end Go.Proofs.YtbfgmbijmdbcmaaGreatDoor

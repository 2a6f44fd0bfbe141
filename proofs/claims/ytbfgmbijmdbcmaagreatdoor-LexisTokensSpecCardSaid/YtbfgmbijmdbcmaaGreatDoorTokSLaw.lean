/- LexisTokensSpec: the walk of the law. -/
import Derived.Test.YtbfgmbijmdbcmaaGreatDoorSane
import Derived.Test.YtbfgmbijmdbcmaaGreatDoorRTokens
namespace Go.Proofs.YtbfgmbijmdbcmaaGreatDoor
set_option linter.unusedVariables false
set_option linter.unusedSimpArgs false
open Go.RowKit

set_option maxHeartbeats 4000000 in
set_option maxRecDepth 100000 in
theorem tokspec_walk (A : Option Addr) (n c : Nat) (l : List UInt8) (m : Int) (w : World) (h : Rd w w.heap.size 1 A n c (l.map vb)) (hm : w.cell? ⟨0, 0, none⟩ = some (.int .i64 m)) :
    Calls Tryz.prog 3 #[.slice A n c] w fun e w' => e = .returned (.bool true) ∧ Below w.heap.size w w' := by
  have hcap := h.cap
  have hbig := h.big
  by_cases hn : n > 70000
  · go_enter Tryz.func3, Tryz.ntmps3
    go_wp2_with (go_at_call 11; refine (sane_any _ m hm).mono ?_; rintro e w1 ⟨rfl, hb1⟩)
    go_ret
    exact ⟨rfl, hb1⟩
  · by_cases hg : n > 65536
    · go_enter Tryz.func3, Tryz.ntmps3
      go_wp2_with (fail)
      refine (sane_any _ m hm).mono ?_
      rintro e w1 ⟨rfl, hb1'⟩
      have hb1 := Lib.hid hb1'
      clear hb1'
      go_wp2_with (fail)
      refine (tokens_big A n c w1 hg (by omega)).mono ?_
      rintro e w2 ⟨rfl, hb2'⟩
      have hb2 := Lib.hid (chain hb1.out hb2')
      clear hb2'
      go_wp2_with (fail)
      refine (rtokens_big A n c w2 hg).mono ?_
      rintro e w3 ⟨rfl, rfl⟩
      go_wp2_with (fail)
      refine (same_any none none 0 0 0 0 0 [] [] _ Rd.nil Rd.nil).mono ?_
      rintro e w3 ⟨rfl, hb3'⟩
      have hb3 := Lib.hid (chain hb2.out hb3')
      clear hb3'
      rw [show (decide (([] : List Tok) = [])) = true from by simp]
      go_wp2_with (fail)
      refine (sameP_any none none 0 0 0 0 0 [] [] _ Rd.nil Rd.nil).mono ?_
      rintro e w4 ⟨rfl, hb4'⟩
      have hb4 := Lib.hid (chain hb3.out hb4')
      clear hb4'
      rw [show (decide (([] : List Prob) = [])) = true from by simp]
      go_wp2
      go_ret
      exact ⟨rfl, hb4.out⟩
    · by_cases hk : n > 3000
      · go_enter Tryz.func3, Tryz.ntmps3
        go_wp2_with (go_at_call 11; refine (sane_any _ m hm).mono ?_; rintro e w1 ⟨rfl, hb1⟩)
        go_ret
        exact ⟨rfl, hb1⟩
      · go_enter Tryz.func3, Tryz.ntmps3
        go_wp2_with (fail)
        refine (sane_any _ m hm).mono ?_
        rintro e w1 ⟨rfl, hb1'⟩
        have hb1 := Lib.hid hb1'
        clear hb1'
        have hr := Lib.hid ((h.below hb1.out).more hb1.out.size)
        go_wp2_with (fail)
        refine (tokens_any A n c l w1 hr.out (by omega)).mono ?_
        rintro e w2 ⟨A1, A2, c1, c2, rfl, h1', h2', hb2'⟩
        have h1 := Lib.hid h1'
        have h2 := Lib.hid h2'
        have hb2 := Lib.hid hb2'
        clear h1' h2' hb2'
        have hr2 := Lib.hid ((hr.out.below hb2.out).more hb2.out.size)
        go_wp2_with (fail)
        refine (rtokens_any A n c l w2 hr2.out (by omega)).mono ?_
        rintro e w3 ⟨A3, A4, c3, c4, rfl, h3', h4', hb3'⟩
        have h3 := Lib.hid h3'
        have h4 := Lib.hid h4'
        have hb3 := Lib.hid hb3'
        have i1 := Lib.hid ((h1.out.below hb3').more hb3'.size)
        have i2 := Lib.hid ((h2.out.below hb3').more hb3'.size)
        clear h3' h4' hb3'
        generalize hT : lex l = x at *
        obtain ⟨T, P⟩ := x
        dsimp only at *
        generalize hTl : T.length = t at *
        generalize hPl : P.length = q at *
        go_wp2_with (fail)
        refine (same_any A1 A3 _ _ c1 c3 _ T T w3 i1.out h3.out).mono ?_
        rintro e w4 ⟨rfl, hb4'⟩
        have hb4 := Lib.hid hb4'
        clear hb4'
        have j2 := Lib.hid ((i2.out.below hb4.out).more hb4.out.size)
        have j4 := Lib.hid ((h4.out.below hb4.out).more hb4.out.size)
        rw [show (decide (T = T)) = true from by simp]
        go_wp2_with (fail)
        refine (sameP_any A2 A4 _ _ c2 c4 _ P P w4 j2.out j4.out).mono ?_
        rintro e w5 ⟨rfl, hb5'⟩
        have hb5 := Lib.hid (chain hb1.out (chain hb2.out (chain hb3.out (chain hb4.out hb5'))))
        clear hb5'
        rw [show (decide (P = P)) = true from by simp]
        go_wp2
        go_ret
        exact ⟨rfl, hb5.out⟩
end Go.Proofs.YtbfgmbijmdbcmaaGreatDoor

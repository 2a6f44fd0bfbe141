/- The reference's blank by its contract. -/
import Derived.Test.YtbfgmbijmdbcmaaGreatDoorRefClass
import Derived.Test.YtbfgmbijmdbcmaaGreatDoorLexLaws
namespace Go.Proofs.YtbfgmbijmdbcmaaGreatDoor
set_option linter.unusedVariables false
set_option linter.unusedSimpArgs false
open Go.RowKit

def BlankTo (l : List UInt8) (a : Nat) (w : World) (e : Ending) (w' : World) : Prop := ∃ b : Nat, e = .returned (.int .i64 b) ∧ Skips l a b ∧ (b < l.length → Solid (bt l b)) ∧ w = w'

theorem blankC_of {c : Nat} (h : c = 32 ∨ c = 9 ∨ c = 10 ∨ c = 13) : isBlankC c = true := by rcases h with h | h | h | h <;> subst h <;> rfl
theorem blankC_not {c : Nat} (h1 : ¬ c = 32) (h2 : ¬ c = 9) (h3 : ¬ c = 10) (h4 : ¬ c = 13) : isBlankC c = false := by simp [isBlankC, h1, h2, h3, h4]

set_option maxHeartbeats 1000000 in
theorem rblank_any (A : Option Addr) (n c : Nat) (l : List UInt8) (B : Nat) (a : Nat) (w : World) (h : Rd w B 1 A n c (l.map vb)) (ha : a ≤ n) :
    Calls Tryz.prog 28 #[.slice A n c, .int .i64 (a : Int)] w (BlankTo l a w) := by
  have hlen := h.blen
  have hcap := h.cap
  have hbig := h.big
  subst hlen
  go_enter Tryz.func28, Tryz.ntmps28
  go_wp2
  go_loop [1] (fun i => ∃ k : Nat, i = .int .i64 k ∧ Skips l a k) (fun i => l.length - (intOf i).toNat)
  case atStart => exact ⟨a, rfl, Skips.refl l a ha⟩
  case round =>
    obtain ⟨k, rfl, hs⟩ := hrel
    have Hs := Lib.hid hs
    have hk : k ≤ l.length := hs.2.1
    clear hs
    by_cases hlt : k < l.length
    · obtain ⟨b, off, rfl, hb, hc⟩ := h.byte (k := k) hlt
      by_cases hbl : bt l k = 32 ∨ bt l k = 9 ∨ bt l k = 10 ∨ bt l k = 13
      · have hsk := Lib.hid (skips_blank l k hlt (blankC_of hbl))
        have hbl' : (bt l k = 32) ∨ (¬ bt l k = 32 ∧ bt l k = 9) ∨ (¬ bt l k = 32 ∧ ¬ bt l k = 9 ∧ bt l k = 10) ∨ (¬ bt l k = 32 ∧ ¬ bt l k = 9 ∧ ¬ bt l k = 10 ∧ bt l k = 13) := by omega
        clear hbl
        rcases hbl' with e | ⟨e1, e⟩ | ⟨e1, e2, e⟩ | ⟨e1, e2, e3, e⟩
        all_goals
          go_wp2
          go_round
          case rel => exact ⟨k + 1, by go_num, Hs.out.trans hsk.out⟩
          case measure => simp [intOf]; omega
      · have hnb := Lib.hid (blankC_not (c := bt l k) (by omega) (by omega) (by omega) (by omega))
        have n1 := nb (a := bt l k) (m := 32) (by omega)
        have n2 := nb (a := bt l k) (m := 9) (by omega)
        have n3 := nb (a := bt l k) (m := 10) (by omega)
        have n4 := nb (a := bt l k) (m := 13) (by omega)
        clear hbl
        by_cases h35 : bt l k = 35
        · have e1 := ynb (a := bt l k) (m := 35) (by omega)
          have H35 := Lib.hid h35
          clear h35
          go_wp2
          go_loop [1] (fun i => ∃ j : Nat, i = .int .i64 j ∧ k ≤ j ∧ j ≤ l.length ∧ Hid (∀ q, k ≤ q → q < j → ¬ bt l q = 10)) (fun i => l.length - (intOf i).toNat)
          case atStart => exact ⟨k, rfl, Nat.le_refl _, hk, fun q h1 h2 => absurd h1 (by omega)⟩
          case round =>
            obtain ⟨j, rfl, hj1, hj2, Hj⟩ := hrel
            by_cases hjl : j < l.length
            · obtain ⟨b', off', he, hb', hc'⟩ := h.byte (k := j) hjl
              injection he with he
              injection he with he1 he2
              subst he1 he2
              by_cases hj10 : bt l j = 10
              · have e2 := ynb (a := bt l j) (m := 10) (by omega)
                have hkj : k < j := by
                  rcases Nat.lt_or_ge k j with h3 | h3
                  · exact h3
                  · have h4 := H35.out; rw [show j = k from by omega] at hj10; omega
                have hsk := Lib.hid (Hs.out.trans (skips_line l k j hlt (by omega) hj2 hnb.out H35.out Hj.out (.inr hj10)))
                clear hj10
                go_wp2
                go_round
                case rel => exact ⟨j, rfl, hsk.out⟩
                case measure => simp [intOf]; omega
              · have e2 := nnb (a := bt l j) (m := 10) (by omega)
                go_wp2
                go_round
                case rel => exact ⟨j + 1, by go_num, by omega, by omega, fun q h1 h2 => by
                  rcases Nat.lt_or_ge q j with h3 | h3
                  · exact Hj.out q h1 h3
                  · rw [show q = j from by omega]; exact hj10⟩
                case measure => simp [intOf]; omega
            · have hsk := Lib.hid (Hs.out.trans (skips_line l k j hlt (by omega) hj2 hnb.out H35.out Hj.out (.inl (by omega))))
              go_wp2
              go_round
              case rel => exact ⟨j, rfl, hsk.out⟩
              case measure => simp [intOf]; omega
        · have e1 := nnb (a := bt l k) (m := 35) (by omega)
          go_wp2
          go_ret
          exact ⟨k, rfl, Hs.out, fun _ => ⟨hnb.out, h35⟩, rfl⟩
    · go_wp2
      go_ret
      exact ⟨k, rfl, Hs.out, fun h => absurd h hlt, rfl⟩
end Go.Proofs.YtbfgmbijmdbcmaaGreatDoor

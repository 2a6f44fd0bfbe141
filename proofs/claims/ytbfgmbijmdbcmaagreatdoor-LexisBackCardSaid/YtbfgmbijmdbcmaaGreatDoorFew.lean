/- The reference's Few by its contract. -/
import Derived.Test.YtbfgmbijmdbcmaaGreatDoorOffLaw
import Derived.Test.YtbfgmbijmdbcmaaGreatDoorJoin
namespace Go.Proofs.YtbfgmbijmdbcmaaGreatDoor
set_option linter.unusedVariables false
set_option linter.unusedSimpArgs false
open Go.RowKit

def fewN (T : List Tok) : Nat := (T.map fun t => t.text.length + 1).sum
theorem fewN_succ {T : List Tok} {t : Tok} {k : Nat} (h : T[k]? = some t) : fewN (T.take (k + 1)) = fewN (T.take k) + 1 + t.text.length := by
  have : T.take (k + 1) = T.take k ++ [t] := by rw [List.take_add_one, h]; rfl
  rw [this]
  simp [fewN]; omega
theorem fewN_take (T : List Tok) (k : Nat) : fewN (T.take k) ≤ fewN T := by
  have e : fewN T = fewN (T.take k) + fewN (T.drop k) := by
    unfold fewN
    rw [← List.sum_append, ← List.map_append, List.take_append_drop]
  omega
theorem escape_le2 (s : List UInt8) : (escape s).length ≤ 2 * s.length := by
  rw [escape_len]
  have := List.countP_le_length (p := sp) (l := s)
  omega
theorem wide_few : ∀ T : List Tok, wide T ≤ 4 * fewN T
  | [] => by simp [wide, fewN]
  | t :: r => by
    have ih := wide_few r
    have h1 : (spell t).length ≤ 2 * t.text.length + 2 := by
      unfold spell
      split
      · have := escape_le2 t.text; simp; omega
      · omega
    simp [wide, fewN] at ih ⊢
    omega

set_option maxHeartbeats 1000000 in
set_option maxRecDepth 100000 in
theorem few_any (A : Option Addr) (n c B : Nat) (T : List Tok) (w : World) (h : Rd w B 3 A n c (T.flatMap tokCells)) (hz : ∀ t ∈ T, t.text.length ≤ 140737488351232) :
    Calls Tryz.prog 16 #[.slice A n c] w fun e w' => e = .returned (.bool (decide (fewN T ≤ 3000))) ∧ w = w' := by
  have hT := h.tlen
  have hcap := h.cap
  have hbig := h.big
  have H := Lib.hid h
  have Hz := Lib.hid hz
  clear h hz
  go_enter Tryz.func16, Tryz.ntmps16
  go_wp2
  go_loopw [3, 4] (fun s3 s4 wr => ∃ k : Nat, k ≤ n ∧ s4 = .int .i64 k ∧ s3 = .int .i64 ((fewN (T.take k) : Nat) : Int) ∧ Hid (fewN (T.take k) ≤ 140737488355000) ∧ Hid (w = wr)) (fun _ s4 _ => n - (intOf s4).toNat)
  case atStart => exact ⟨0, Nat.zero_le _, rfl, rfl, by show fewN [] ≤ _; simp [fewN], rfl⟩
  case round =>
    obtain ⟨k, hk, rfl, rfl, hf, hw⟩ := hrel
    have hw' := hw.out
    subst hw'
    clear hw
    have hfo := hf.out
    by_cases hlt : k < n
    · obtain ⟨b, off, t, rfl, hb, g0, g1, g2, g3⟩ := H.out.tok hlt
      have hzt := Hz.out t (List.mem_of_getElem? g0)
      by_cases h3 : fewN (T.take k) ≤ 3000
      · have HS := Lib.hid (fewN_succ g0)
        generalize fewN (T.take k) = z at *
        have d1 : (z : Int) ≤ 3000 := by omega
        clear g0
        go_wp2
        go_roundw
        case rel => exact ⟨k + 1, by omega, by go_num, by rw [HS.out]; go_num, by show fewN (T.take (k + 1)) ≤ _; rw [HS.out]; omega, by first | exact rfl | exact trivial⟩
        case measure => simp [intOf]; omega
      · have HE := Lib.hid (show decide (fewN T ≤ 3000) = false from decide_eq_false (by have := fewN_take T k; omega))
        generalize fewN (T.take k) = z at *
        have d1 : decide ((z : Int) ≤ 3000) = false := decide_eq_false (by omega)
        clear g0
        go_wp2
        go_ret
        exact ⟨by rw [HE.out]; rfl, rfl⟩
    · obtain rfl : k = n := by omega
      have hTk : T.take k = T := List.take_of_length_le (by omega)
      rw [hTk]
      go_wp2
      go_ret
      exact ⟨ret_bool (by first | (apply decide_eq_decide.2; omega) | (simp; omega)), rfl⟩
end Go.Proofs.YtbfgmbijmdbcmaaGreatDoor

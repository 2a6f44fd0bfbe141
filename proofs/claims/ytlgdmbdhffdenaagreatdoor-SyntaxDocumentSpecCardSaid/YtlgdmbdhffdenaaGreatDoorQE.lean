/- The reference's letter, digit, inner, blank by their contracts. -/
import Derived.Test.YtlgdmbdhffdenaaGreatDoorProg
import Derived.Test.YtlgdmbdhffdenaaGreatDoorPA
import Derived.Test.YtlgdmbdhffdenaaGreatDoorStrs2
import Derived.Test.YtlgdmbdhffdenaaGreatDoorQuoted
import Derived.Test.YtlgdmbdhffdenaaGreatDoorNext
import Derived.Test.YtlgdmbdhffdenaaGreatDoorNextOther
import Derived.Test.YtlgdmbdhffdenaaGreatDoorLexLen
import Derived.Test.YtlgdmbdhffdenaaGreatDoorTokens
namespace Go.Proofs.YtlgdmbdhffdenaaGreatDoor
set_option linter.unusedVariables false
set_option linter.unusedSimpArgs false
open Go.RowKit

set_option maxHeartbeats 400000 in
theorem rletter_any (c : Nat) (w : World) : Calls Tryz.prog 100 #[.int .u8 (c : Int)] w fun e w' => e = .returned (.bool (isLetter c)) ∧ w = w' := by
  go_enter Tryz.func100, Tryz.ntmps100
  go_wp2
  all_goals
    go_ret
    exact ⟨ret_bool (by rw [Bool.eq_iff_iff]; simp [isLetter]; omega), rfl⟩
set_option maxHeartbeats 400000 in
theorem rdigit_any (c : Nat) (w : World) : Calls Tryz.prog 102 #[.int .u8 (c : Int)] w fun e w' => e = .returned (.bool (isDigit c)) ∧ w = w' := by
  go_enter Tryz.func102, Tryz.ntmps102
  go_wp2
  all_goals
    go_ret
    exact ⟨ret_bool (by rw [Bool.eq_iff_iff]; simp [isDigit]; omega), rfl⟩
set_option maxHeartbeats 400000 in
theorem rinner_any (c : Nat) (w : World) : Calls Tryz.prog 101 #[.int .u8 (c : Int)] w fun e w' => e = .returned (.bool (isInner c)) ∧ w = w' := by
  go_enter Tryz.func101, Tryz.ntmps101
  go_wp2_with (first | (go_at_call 100; refine (rletter_any _ _).mono ?_; rintro e w' ⟨rfl, rfl⟩) | (go_at_call 102; refine (rdigit_any _ _).mono ?_; rintro e w' ⟨rfl, rfl⟩))
  all_goals
    go_ret
    exact ⟨ret_bool (by rw [Bool.eq_iff_iff]; simp [isInner, *]; try omega), rfl⟩
end Go.Proofs.YtlgdmbdhffdenaaGreatDoor

/- The reference's blank by its contract. -/
namespace Go.Proofs.YtlgdmbdhffdenaaGreatDoor
set_option linter.unusedVariables false
set_option linter.unusedSimpArgs false
open Go.RowKit

def BlankTo (l : List UInt8) (a : Nat) (w : World) (e : Ending) (w' : World) : Prop := ∃ b : Nat, e = .returned (.int .i64 b) ∧ Skips l a b ∧ (b < l.length → Solid (bt l b)) ∧ w = w'

theorem blankC_of {c : Nat} (h : c = 32 ∨ c = 9 ∨ c = 10 ∨ c = 13) : isBlankC c = true := by rcases h with h | h | h | h <;> subst h <;> rfl
theorem blankC_not {c : Nat} (h1 : ¬ c = 32) (h2 : ¬ c = 9) (h3 : ¬ c = 10) (h4 : ¬ c = 13) : isBlankC c = false := by simp [isBlankC, h1, h2, h3, h4]

set_option maxHeartbeats 1000000 in
theorem rblank_any (A : Option Addr) (n c : Nat) (l : List UInt8) (B : Nat) (a : Nat) (w : World) (h : Rd w B 1 A n c (l.map vb)) (ha : a ≤ n) :
    Calls Tryz.prog 77 #[.slice A n c, .int .i64 (a : Int)] w (BlankTo l a w) := by
  have hlen := h.blen
  have hcap := h.cap
  have hbig := h.big
  subst hlen
  go_enter Tryz.func77, Tryz.ntmps77
  go_wp2
  go_loop [1] (fun i => ∃ k : Nat, i = .int .i64 k ∧ Skips l a k) (fun i => l.length - (intOf i).toNat)
  case atStart => exact ⟨a, rfl, Skips.refl l a ha⟩
  case round =>
    obtain ⟨k, rfl, hs⟩ := hrel
    have Hs := Lib.hid hs
    have hk : k ≤ l.length := hs.2.1
    clear hs
    by_cases hlt : k < l.length
    · obtain ⟨b, off, rfl, hb, hc⟩ := h.byte (k := k) hlt
      by_cases hbl : bt l k = 32 ∨ bt l k = 9 ∨ bt l k = 10 ∨ bt l k = 13
      · have hsk := Lib.hid (skips_blank l k hlt (blankC_of hbl))
        have hbl' : (bt l k = 32) ∨ (¬ bt l k = 32 ∧ bt l k = 9) ∨ (¬ bt l k = 32 ∧ ¬ bt l k = 9 ∧ bt l k = 10) ∨ (¬ bt l k = 32 ∧ ¬ bt l k = 9 ∧ ¬ bt l k = 10 ∧ bt l k = 13) := by omega
        clear hbl
        rcases hbl' with e | ⟨e1, e⟩ | ⟨e1, e2, e⟩ | ⟨e1, e2, e3, e⟩
        all_goals
          go_wp2
          go_round
          case rel => exact ⟨k + 1, by go_num, Hs.out.trans hsk.out⟩
          case measure => simp [intOf]; omega
      · have hnb := Lib.hid (blankC_not (c := bt l k) (by omega) (by omega) (by omega) (by omega))
        have n1 := nb (a := bt l k) (m := 32) (by omega)
        have n2 := nb (a := bt l k) (m := 9) (by omega)
        have n3 := nb (a := bt l k) (m := 10) (by omega)
        have n4 := nb (a := bt l k) (m := 13) (by omega)
        clear hbl
        by_cases h35 : bt l k = 35
        · have e1 := ynb (a := bt l k) (m := 35) (by omega)
          have H35 := Lib.hid h35
          clear h35
          go_wp2
          go_loop [1] (fun i => ∃ j : Nat, i = .int .i64 j ∧ k ≤ j ∧ j ≤ l.length ∧ Hid (∀ q, k ≤ q → q < j → ¬ bt l q = 10)) (fun i => l.length - (intOf i).toNat)
          case atStart => exact ⟨k, rfl, Nat.le_refl _, hk, fun q h1 h2 => absurd h1 (by omega)⟩
          case round =>
            obtain ⟨j, rfl, hj1, hj2, Hj⟩ := hrel
            by_cases hjl : j < l.length
            · obtain ⟨b', off', he, hb', hc'⟩ := h.byte (k := j) hjl
              injection he with he
              injection he with he1 he2
              subst he1 he2
              by_cases hj10 : bt l j = 10
              · have e2 := ynb (a := bt l j) (m := 10) (by omega)
                have hkj : k < j := by
                  rcases Nat.lt_or_ge k j with h3 | h3
                  · exact h3
                  · have h4 := H35.out; rw [show j = k from by omega] at hj10; omega
                have hsk := Lib.hid (Hs.out.trans (skips_line l k j hlt (by omega) hj2 hnb.out H35.out Hj.out (.inr hj10)))
                clear hj10
                go_wp2
                go_round
                case rel => exact ⟨j, rfl, hsk.out⟩
                case measure => simp [intOf]; omega
              · have e2 := nnb (a := bt l j) (m := 10) (by omega)
                go_wp2
                go_round
                case rel => exact ⟨j + 1, by go_num, by omega, by omega, fun q h1 h2 => by
                  rcases Nat.lt_or_ge q j with h3 | h3
                  · exact Hj.out q h1 h3
                  · rw [show q = j from by omega]; exact hj10⟩
                case measure => simp [intOf]; omega
            · have hsk := Lib.hid (Hs.out.trans (skips_line l k j hlt (by omega) hj2 hnb.out H35.out Hj.out (.inl (by omega))))
              go_wp2
              go_round
              case rel => exact ⟨j, rfl, hsk.out⟩
              case measure => simp [intOf]; omega
        · have e1 := nnb (a := bt l k) (m := 35) (by omega)
          go_wp2
          go_ret
          exact ⟨k, rfl, Hs.out, fun _ => ⟨hnb.out, h35⟩, rfl⟩
    · go_wp2
      go_ret
      exact ⟨k, rfl, Hs.out, fun h => absurd h hlt, rfl⟩
end Go.Proofs.YtlgdmbdhffdenaaGreatDoor

/- The reference's Integer and Sign by their contracts. -/
namespace Go.Proofs.YtlgdmbdhffdenaaGreatDoor
set_option linter.unusedVariables false
set_option linter.unusedSimpArgs false
open Go.RowKit

theorem bs_drop (l : List UInt8) (k : Nat) : (bs l).extract k l.length = bs (l.drop k) := by
  apply ByteArray.ext
  simp [bs, ByteArray.data_extract]
  rw [List.take_of_length_le (by simp)]
theorem num_no {u : List UInt8} {k : Nat} (hk : k < u.length) (h : isDigit (bt u k) = false) : numB u = false := by
  have : (u.all fun c => isDigit c.toNat) = false := by
    rw [Bool.eq_false_iff]
    intro e
    rw [(all_bt isDigit u).1 e k hk] at h
    cases h
  simp [numB, this]
theorem num_yes {u : List UInt8} (h : ∀ q, q < u.length → isDigit (bt u q) = true) : numB u = (decide (0 < u.length) && decide (u.length ≤ 18) && (bt u 0 != 48)) := by
  have : (u.all fun c => isDigit c.toNat) = true := (all_bt isDigit u).2 h
  unfold numB
  rw [this, Bool.and_true]
  cases u <;> simp
set_option maxHeartbeats 2000000 in
theorem rinteger_any (l : List UInt8) (w : World) (hl : l.length ≤ 9223372036854775807) :
    Calls Tryz.prog 103 #[.string (bs l)] w fun e w' => e = .returned (.bool (intB l)) ∧ w = w' := by
  by_cases hz : l = [48]
  · have hz1 : (l == [48]) = true := by simp [hz]
    have H := Lib.hid (show intB l = true by unfold intB; rw [hz1]; rfl)
    clear hz
    go_enter Tryz.func103, Tryz.ntmps103
    go_wp2
    go_ret
    exact ⟨ret_bool H.out.symm, rfl⟩
  · have hz1 : (l == [48]) = false := by simp [hz]
    have H := Lib.hid (show intB l = numB (unsigned l) by unfold intB unsigned; rw [hz1]; split <;> simp)
    clear hz
    by_cases h0 : 0 < l.length
    · by_cases h45 : bt l 0 = 45
      · have e1 := yb (a := bt l 0) (m := 45) (by omega)
        have H45 := Lib.hid h45
        clear h45
        go_enter Tryz.func103, Tryz.ntmps103
        go_wp2
        rw [bs_drop]
        generalize hu : l.drop 1 = u at *
        have hul : u.length ≤ 9223372036854775807 := by rw [← hu]; simp; omega
        have HU := Lib.hid (show unsigned l = u by unfold unsigned; rw [if_pos H45.out]; exact hu)
        clear hu
        go_loop [3] (fun i => ∃ k : Nat, i = .int .i64 k ∧ k ≤ u.length ∧ Hid (∀ q, q < k → isDigit (bt u q) = true)) (fun i => u.length - (intOf i).toNat)
        case atStart => exact ⟨0, rfl, Nat.zero_le _, fun q hq => absurd hq (by omega)⟩
        case round =>
          obtain ⟨k, rfl, hk, Hk⟩ := hrel
          by_cases hlt : k < u.length
          · cases hd : isDigit (bt u k) with
            | false =>
              have HN := Lib.hid (num_no hlt hd)
              go_wp2_with (go_at_call 102; refine (rdigit_any _ _).mono ?_; rw [hd]; rintro e w' ⟨rfl, rfl⟩)
              go_ret
              exact ⟨ret_bool (by rw [H.out, HU.out, HN.out]), rfl⟩
            | true =>
              have HN := Lib.hid (show ∀ q, q < k + 1 → isDigit (bt u q) = true from fun q hq => by
                rcases Nat.lt_or_ge q k with h | h
                · exact Hk.out q h
                · rw [show q = k from by omega]; exact hd)
              go_wp2_with (go_at_call 102; refine (rdigit_any _ _).mono ?_; rw [hd]; rintro e w' ⟨rfl, rfl⟩)
              go_round
              case rel => exact ⟨k + 1, by go_num, by omega, HN.out⟩
              case measure => simp [intOf]; omega
          · have hku : k = u.length := by omega
            subst hku
            have HV := Lib.hid (num_yes Hk.out)
            by_cases h1 : 0 < u.length
            · by_cases h2 : u.length ≤ 18
              · by_cases h3 : bt u 0 = 48
                · have e3 := ynb (a := bt u 0) (m := 48) (by omega)
                  have HW := Lib.hid (show numB u = false by rw [HV.out]; simp [h3])
                  clear h3
                  go_wp2
                  go_ret
                  exact ⟨ret_bool (by rw [H.out, HU.out, HW.out]), rfl⟩
                · have e3 := nnb (a := bt u 0) (m := 48) (by omega)
                  have HW := Lib.hid (show numB u = true by rw [HV.out]; simp [h1, h2, h3])
                  clear h3
                  go_wp2
                  go_ret
                  exact ⟨ret_bool (by rw [H.out, HU.out, HW.out]), rfl⟩
              · have HW := Lib.hid (show numB u = false by rw [HV.out]; simp [h2])
                go_wp2
                go_ret
                exact ⟨ret_bool (by rw [H.out, HU.out, HW.out]), rfl⟩
            · have HW := Lib.hid (show numB u = false by rw [HV.out]; simp [h1])
              have h1' : u.length = 0 := by omega
              go_wp2
              go_ret
              exact ⟨ret_bool (by rw [H.out, HU.out, HW.out]), rfl⟩
      · have e1 := nb (a := bt l 0) (m := 45) (by omega)
        have H45 := Lib.hid h45
        clear h45
        go_enter Tryz.func103, Tryz.ntmps103
        go_wp2
        have HU := Lib.hid (show unsigned l = l by unfold unsigned; rw [if_neg H45.out])
        go_loop [3] (fun i => ∃ k : Nat, i = .int .i64 k ∧ k ≤ l.length ∧ Hid (∀ q, q < k → isDigit (bt l q) = true)) (fun i => l.length - (intOf i).toNat)
        case atStart => exact ⟨0, rfl, Nat.zero_le _, fun q hq => absurd hq (by omega)⟩
        case round =>
          obtain ⟨k, rfl, hk, Hk⟩ := hrel
          by_cases hlt : k < l.length
          · cases hd : isDigit (bt l k) with
            | false =>
              have HN := Lib.hid (num_no hlt hd)
              go_wp2_with (go_at_call 102; refine (rdigit_any _ _).mono ?_; rw [hd]; rintro e w' ⟨rfl, rfl⟩)
              go_ret
              exact ⟨ret_bool (by rw [H.out, HU.out, HN.out]), rfl⟩
            | true =>
              have HN := Lib.hid (show ∀ q, q < k + 1 → isDigit (bt l q) = true from fun q hq => by
                rcases Nat.lt_or_ge q k with h | h
                · exact Hk.out q h
                · rw [show q = k from by omega]; exact hd)
              go_wp2_with (go_at_call 102; refine (rdigit_any _ _).mono ?_; rw [hd]; rintro e w' ⟨rfl, rfl⟩)
              go_round
              case rel => exact ⟨k + 1, by go_num, by omega, HN.out⟩
              case measure => simp [intOf]; omega
          · have hku : k = l.length := by omega
            subst hku
            have HV := Lib.hid (num_yes Hk.out)
            by_cases h1 : 0 < l.length
            · by_cases h2 : l.length ≤ 18
              · by_cases h3 : bt l 0 = 48
                · have e3 := ynb (a := bt l 0) (m := 48) (by omega)
                  have HW := Lib.hid (show numB l = false by rw [HV.out]; simp [h3])
                  clear h3
                  go_wp2
                  go_ret
                  exact ⟨ret_bool (by rw [H.out, HU.out, HW.out]), rfl⟩
                · have e3 := nnb (a := bt l 0) (m := 48) (by omega)
                  have HW := Lib.hid (show numB l = true by rw [HV.out]; simp [h1, h2, h3])
                  clear h3
                  go_wp2
                  go_ret
                  exact ⟨ret_bool (by rw [H.out, HU.out, HW.out]), rfl⟩
              · have HW := Lib.hid (show numB l = false by rw [HV.out]; simp [h2])
                go_wp2
                go_ret
                exact ⟨ret_bool (by rw [H.out, HU.out, HW.out]), rfl⟩
            · have HW := Lib.hid (show numB l = false by rw [HV.out]; simp [h1])
              have h1' : l.length = 0 := by omega
              go_wp2
              go_ret
              exact ⟨ret_bool (by rw [H.out, HU.out, HW.out]), rfl⟩
    · have h0' : l.length = 0 := by omega
      go_enter Tryz.func103, Tryz.ntmps103
      have HW := Lib.hid (show intB l = false by rw [List.length_eq_zero_iff.1 h0']; rfl)
      go_wp2
      go_loop [3] (fun i => i = .int .i64 0) (fun i => 0)
      case atStart => exact rfl
      case round =>
        subst hrel
        go_wp2
        go_ret
        exact ⟨ret_bool (by rw [HW.out]), rfl⟩

theorem sign_iff (l : List UInt8) : signB l = (l == [123] || l == [125] || l == [40] || l == [41] || l == [91] || l == [93] || l == [59] || l == [44] || l == [58] || l == [47] || l == [61] || l == [60] || l == [62] || l == [60, 61] || l == [62, 61]) := by
  unfold signB
  by_cases h : l.length = 1
  · obtain ⟨c, rfl⟩ := List.length_eq_one_iff.1 h
    have : ∀ n : Nat, n < 256 → isSignC n = ([UInt8.ofNat n] == [123] || [UInt8.ofNat n] == [125] || [UInt8.ofNat n] == [40] || [UInt8.ofNat n] == [41] || [UInt8.ofNat n] == [91] || [UInt8.ofNat n] == [93] || [UInt8.ofNat n] == [59] || [UInt8.ofNat n] == [44] || [UInt8.ofNat n] == [58] || [UInt8.ofNat n] == [47] || [UInt8.ofNat n] == [61] || [UInt8.ofNat n] == [60] || [UInt8.ofNat n] == [62]) := by decide +kernel
    have h2 := this c.toNat (UInt8.toNat_lt c)
    rw [UInt8.ofNat_toNat] at h2
    rw [bt_cons_zero, h2]
    simp
  · have h1 : (l.length == 1) = false := by simpa using h
    have h2 : ∀ c : UInt8, (l == [c]) = false := fun c => by
      rw [Bool.eq_false_iff]; intro e; exact h (by simp at e; simp [e])
    rw [h1]
    simp [h2]
set_option maxHeartbeats 4000000 in
theorem rsign_any (l : List UInt8) (w : World) :
    Calls Tryz.prog 105 #[.string (bs l)] w fun e w' => e = .returned (.bool (signB l)) ∧ w = w' := by
  have H := Lib.hid (sign_iff l)
  go_enter Tryz.func105, Tryz.ntmps105
  go_wp2
  all_goals
    go_ret
    refine ⟨ret_bool ?_, rfl⟩
    rw [H.out]
    clear H
    simp_all
end Go.Proofs.YtlgdmbdhffdenaaGreatDoor

/- The reference's Quoted by its contract. -/
namespace Go.Proofs.YtlgdmbdhffdenaaGreatDoor
set_option linter.unusedVariables false
set_option linter.unusedSimpArgs false
open Go.RowKit

set_option maxHeartbeats 400000 in
theorem rquoted_not (A : Option Addr) (n c : Nat) (l : List UInt8) (w : World) (h : Rd w w.heap.size 1 A n c (l.map vb)) (h0 : n = 0 ∨ ¬ bt l 0 = 34) :
    Calls Tryz.prog 104 #[.slice A n c] w fun e w' => e = .returned (.tuple #[.string ⟨#[]⟩, .int .i64 0]) ∧ w = w' := by
  by_cases hz : n = 0
  · have e1 : ((n : Int) == 0) = true := by rw [beq_iff_eq]; omega
    clear hz h0
    go_enter Tryz.func104, Tryz.ntmps104
    go_wp2
    go_ret2
    exact ⟨rfl, rfl⟩
  · have h1 : ¬ bt l 0 = 34 := by omega
    obtain ⟨b, off, rfl, hb, hc⟩ := h.byte (k := 0) (by omega)
    rw [Nat.add_zero] at hc
    have e1 : ((n : Int) == 0) = false := by rw [beq_eq_false_iff_ne]; omega
    have e2 := nnb (a := bt l 0) (m := 34) (by omega)
    have hn0 : 0 < n := by omega
    clear hz h0 h1
    go_enter Tryz.func104, Tryz.ntmps104
    go_wp2
    go_ret2
    exact ⟨rfl, rfl⟩

theorem own_empty (w : World) (B : Nat) (hB : B ≤ w.heap.size) : (w.alloc (.cells #[] 5)).ownsRow B 5 1 (.slice (some ⟨w.heap.size, 0, none⟩) 0 0) 0 [] :=
  World.ownsRow_made w #[] 0 hB (by unfold maxLen; omega) rfl

set_option maxHeartbeats 2000000 in
set_option maxRecDepth 100000 in
theorem rquoted_any (A : Option Addr) (n c : Nat) (l : List UInt8) (w : World) (h : Rd w w.heap.size 1 A n c (l.map vb)) (h0 : 1 ≤ n) (hn : n ≤ 70000) (hq : bt l 0 = 34) :
    Calls Tryz.prog 104 #[.slice A n c] w (QRet l w) := by
  have hlen := h.blen
  have hcap := h.cap
  have hbig := h.big
  subst hlen
  obtain ⟨b, off, rfl, hb, hc⟩ := h.byte (k := 0) (by omega)
  rw [Nat.add_zero] at hc
  have e1 : ((l.length : Int) == 0) = false := by rw [beq_eq_false_iff_ne]; omega
  have e2 := ynb (a := bt l 0) (m := 34) (by omega)
  have HO := Lib.hid (own_empty w w.heap.size (Nat.le_refl _))
  have Hq := Lib.hid hq
  clear hq
  go_enter Tryz.func104, Tryz.ntmps104
  go_wp2
  clear hc e1 e2
  go_loopw [4, 5, 6] (fun out i _ wr => ∃ (A' : Option Addr) (c' k : Nat) (xs : List UInt8), i = .int .i64 k ∧ 1 ≤ k ∧ k ≤ l.length ∧ out = .slice A' xs.length c' ∧ xs.length ≤ k ∧ Hid (wr.ownsRow w.heap.size 5 1 (.slice A' xs.length c') xs.length (xs.map vb)) ∧ Hid (QInv l k xs) ∧ Hid (Below w.heap.size w wr)) (fun _ i _ _ => l.length - (intOf i).toNat)
  case atStart => exact ⟨_, 0, 1, [], rfl, Nat.le_refl _, h0, rfl, by simp, HO.out, QInv.start l, (Below.refl _ _).alloc (Nat.le_refl _) _⟩
  case round =>
    obtain ⟨A', c', k, xs, rfl, hk1, hk2, rfl, hxk, Hown, HQ, HB⟩ := hrel
    have hr := h.below HB.out
    by_cases hlt : k < l.length
    · obtain ⟨b', off', he, hb', hc⟩ := hr.byte (k := k) hlt
      injection he with he
      injection he with he1 he2
      subst he1 he2
      by_cases h34 : bt l k = 34
      · have HR := Lib.hid (HQ.out.found hk1 (qs_end hlt h34))
        have e1 := yb (a := bt l k) (m := 34) (by omega)
        have hcv := (own_rd Hown.out).conv (P := Tryz.prog) Tryz.underlying22 Tryz.underlying5 Tryz.underlying9 c'
        clear hr h34
        go_wp2
        go_ret2
        exact QRet.mk' HR.out HB.out
      · have e1 := nb (a := bt l k) (m := 34) (by omega)
        by_cases hbad : bt l k < 32 ∨ 126 < bt l k
        · have HR := Lib.hid (HQ.out.none (qs_bad hlt hbad))
          have hbad' : (bt l k : Int) < 32 ∨ (¬ (bt l k : Int) < 32 ∧ 126 < (bt l k : Int)) := by omega
          clear hr h34 hbad
          rcases hbad' with hx | ⟨hx, hy⟩
          all_goals
            go_wp2
            go_ret2
            exact QRet.mk' HR.out HB.out
        · have g1 : ¬ (bt l k : Int) < 32 := by omega
          have g2 : ¬ 126 < (bt l k : Int) := by omega
          have hbe := Lib.hid HB.out.size
          by_cases h92 : bt l k = 92
          · have e2 := ynb (a := bt l k) (m := 92) (by omega)
            by_cases hk1' : k + 1 < l.length
            · obtain ⟨b', off', he, hb', hc'⟩ := hr.byte (k := k + 1) hk1'
              injection he with he
              injection he with he1 he2
              subst he1 he2
              have hlt2 := bt_lt l (k + 1)
              have e3 : (((k : Int) + 1) == (l.length : Int)) = false := by rw [beq_eq_false_iff_ne]; omega
              by_cases hd : bt l (k + 1) = 34 ∨ bt l (k + 1) = 92
              · have HQn := Lib.hid (HQ.out.step hk1 (UInt8.ofNat (bt l (k + 1))) 2 (by omega) (qs_esc hk1' h92 hd))
                have hd' : ((bt l (k + 1) : Int) == 34) = true ∨ (((bt l (k + 1) : Int) == 34) = false ∧ ((bt l (k + 1) : Int) == 92) = true) := by
                  rcases hd with hd | hd
                  · exact .inl (yb (by omega))
                  · exact .inr ⟨nb (by omega), yb (by omega)⟩
                clear hr h34 hbad h92 hd
                rcases hd' with e4 | ⟨e4, e5⟩
                all_goals
                  go_wp2_with (at_builtin; refine wpList_push elemByte rfl (.tmp 69) (.tmp 75) rfl w.heap.size A' xs.length c' (xs.map vb) rfl (Hown.out.alloc _) _ rfl [.int .u8 (bt l (k + 1) : Int)] rfl (new_cells _ _ _) (by intro u hu; simp at hu; subst hu; rfl) (by omega) (by omega) (by have := hbe.out; simp; omega) ?_; intro A1 c1 w1 hown1 hb1 hg1)
                  go_roundw
                  case rel => exact ⟨A1, c1, k + 2, xs ++ [UInt8.ofNat (bt l (k + 1))], by go_num, by omega, by omega, slice_eq (by simp), by simp; omega, own_snoc _ _ (bt_of l (k + 1)) hown1, HQn.out, (HB.out.alloc HB.out.size _).trans hb1⟩
                  case measure => simp [intOf]; omega
              · have e4 := nb (a := bt l (k + 1)) (m := 34) (by omega)
                have e5 := nb (a := bt l (k + 1)) (m := 92) (by omega)
                by_cases h110 : bt l (k + 1) = 110
                · have HQn := Lib.hid (HQ.out.step hk1 10 2 (by omega) (qs_esc_n hk1' h92 h110))
                  have e6 := yb (a := bt l (k + 1)) (m := 110) (by omega)
                  clear hr h34 hbad h92 hd h110
                  go_wp2_with (at_builtin; refine wpList_push elemByte rfl (.tmp 86) (.tmp 87) rfl w.heap.size A' xs.length c' (xs.map vb) rfl (Hown.out.alloc _) _ rfl [.int .u8 10] rfl (new_cells _ _ _) (by intro u hu; simp at hu; subst hu; rfl) (by omega) (by omega) (by have := hbe.out; simp; omega) ?_; intro A1 c1 w1 hown1 hb1 hg1)
                  go_roundw
                  case rel => exact ⟨A1, c1, k + 2, xs ++ [10], by go_num, by omega, by omega, slice_eq (by simp), by simp; omega, own_snoc _ _ rfl hown1, HQn.out, (HB.out.alloc HB.out.size _).trans hb1⟩
                  case measure => simp [intOf]; omega
                · have HR := Lib.hid (HQ.out.none (qs_esc_no hk1' h92 hd h110))
                  have e6 := nb (a := bt l (k + 1)) (m := 110) (by omega)
                  clear hr h34 hbad h92 hd h110
                  go_wp2
                  go_ret2
                  exact QRet.mk' HR.out HB.out
            · have HR := Lib.hid (HQ.out.none (qs_esc_out hlt h92 (by omega)))
              have e3 : (((k : Int) + 1) == (l.length : Int)) = true := by rw [beq_iff_eq]; omega
              clear hr h34 hbad h92
              go_wp2
              go_ret2
              exact QRet.mk' HR.out HB.out
          · have e2 := nnb (a := bt l k) (m := 92) (by omega)
            have HQn := Lib.hid (HQ.out.step hk1 (UInt8.ofNat (bt l k)) 1 (Nat.le_refl _) (qs_plain hlt ⟨by omega, by omega, h34, h92⟩))
            clear hr h34 hbad h92
            go_wp2_with (at_builtin; refine wpList_push elemByte rfl (.tmp 44) (.tmp 46) rfl w.heap.size A' xs.length c' (xs.map vb) rfl (Hown.out.alloc _) _ rfl [.int .u8 (bt l k : Int)] rfl (new_cells _ _ _) (by intro u hu; simp at hu; subst hu; rfl) (by omega) (by omega) (by have := hbe.out; simp; omega) ?_; intro A1 c1 w1 hown1 hb1 hg1)
            go_roundw
            case rel => exact ⟨A1, c1, k + 1, xs ++ [UInt8.ofNat (bt l k)], by go_num, by omega, by omega, slice_eq (by simp), by simp; omega, own_snoc _ _ (bt_of l k) hown1, HQn.out, (HB.out.alloc HB.out.size _).trans hb1⟩
            case measure => simp [intOf]; omega
    · have HR := Lib.hid (HQ.out.none (qs_out (by omega)))
      clear hr
      go_wp2
      go_ret2
      exact QRet.mk' HR.out HB.out
end Go.Proofs.YtlgdmbdhffdenaaGreatDoor

/- The reference's token by its contract. -/
namespace Go.Proofs.YtlgdmbdhffdenaaGreatDoor
set_option linter.unusedVariables false
set_option linter.unusedSimpArgs false
open Go.RowKit

/-- What token returns at offset a, for the item i. -/
def RRet (i : Item) (a : Nat) (w : World) (e : Ending) (w' : World) : Prop := e = .returned (.tuple #[tokVal (tokOf i a), .int .i64 (i.len : Int)]) ∧ Below w.heap.size w w'
theorem rt_end {fn : Func} {i : Item} {a : Nat} {w w' : World} {ac : Act} {g : Nat} {cs : Array Value} {p u : Tmp} (hf : fn.results = #[.cell p 53, .tmp u]) (hd : ac.defers = []) (hp : ac.tmps.getD p undef = .pointer (some ⟨g, 0, none⟩))
    (hu : ac.tmps.getD u undef = .int .i64 (i.len : Int)) (hb : Blk w' g 53 cs) (hcs : Value.agg cs = tokVal (tokOf i a)) (hsz : cs.size = 3) (hbl : Below w.heap.size w w') :
    bodyPost Tryz.prog fn (RRet i a w) .ret ac w' := by
  refine bodyPost_ret (v := .tuple #[tokVal (tokOf i a), .int .i64 (i.len : Int)]) ?_ hd ⟨rfl, hbl⟩
  rw [results_cell_tmp hf, hp, hu]
  have hl := run_loadVar_row (P := Tryz.prog) w' g 53 53 cs (0, 0) _ hb Tryz.underlying53 rfl (by rw [hsz]; exact infoTok)
  simp [asAddr, hl, hcs, Result.andThen]

set_option maxHeartbeats 4000000 in
set_option maxRecDepth 100000 in
theorem rtok_letter (A : Option Addr) (n c : Nat) (l : List UInt8) (a : Nat) (w : World) (h : Rd w w.heap.size 1 A n c (l.map vb)) (ha : a < n) (hn : n ≤ 70000) (hlet : isLetter (bt l a) = true) :
    Calls Tryz.prog 78 #[.slice A n c, .int .i64 (a : Int)] w (RRet (nextItem (l.drop a)) a w) := by
  have hlen := h.blen
  have hcap := h.cap
  have hbig := h.big
  obtain ⟨b, off, rfl, hb, hc⟩ := h.byte (k := a) ha
  subst hlen
  have HI := Lib.hid (nx_letter ha hlet)
  have hbw : ¬ b = w.heap.size := by omega
  go_enter Tryz.func78, Tryz.ntmps78
  go_wp2_with (go_at_call 100; refine (rletter_any _ _).mono ?_; rw [hlet]; rintro e w' ⟨rfl, rfl⟩)
  go_loop [7] (fun i => ∃ j : Nat, i = .int .i64 j ∧ a ≤ j ∧ j ≤ l.length ∧ Hid (∀ q, a ≤ q → q < j → isInner (bt l q) = true)) (fun i => l.length - (intOf i).toNat)
  case atStart => exact ⟨a, rfl, Nat.le_refl _, by omega, fun q h1 h2 => absurd h1 (by omega)⟩
  case round =>
    obtain ⟨j, rfl, haj, hj, Hj⟩ := hrel
    have hra := h.alloc (Nat.le_refl _) (.cells #[.int .i64 0, .string ⟨#[]⟩, .int .i64 0] 53)
    by_cases hlt : j < l.length
    · obtain ⟨b', off', he, hb', hcj⟩ := hra.byte (k := j) hlt
      injection he with he
      injection he with he1 he2
      subst he1 he2
      cases hin : isInner (bt l j) with
      | true =>
        have HN := Lib.hid (show ∀ q, a ≤ q → q < j + 1 → isInner (bt l q) = true from fun q h1 h2 => by
          rcases Nat.lt_or_ge q j with h3 | h3
          · exact Hj.out q h1 h3
          · rw [show q = j from by omega]; exact hin)
        go_wp2_with (go_at_call 101; refine (rinner_any _ _).mono ?_; rw [hin]; rintro e w' ⟨rfl, rfl⟩)
        go_round
        case rel => exact ⟨j + 1, by go_num, by omega, by omega, HN.out⟩
        case measure => simp [intOf]; omega
      | false =>
        have HR := Lib.hid (runLen_to l a j haj hj Hj.out (.inr hin))
        have hcv := (hra.sub (lo := a) (hi := j) haj hj).conv (P := Tryz.prog) Tryz.underlying22 Tryz.underlying5 Tryz.underlying9 (c - a)
        have haj' : (0 : Int) ≤ (j : Int) - a := by omega
        go_wp2_with (go_at_call 101; refine (rinner_any _ _).mono ?_; rw [hin]; rintro e w' ⟨rfl, rfl⟩)
        rw [HI.out, HR.out]
        refine rt_end rfl rfl rfl ?_ (Blk.new _ _ _) rfl rfl ((Below.refl _ w).alloc (Nat.le_refl _) _)
        exact int_eq (show (j : Int) - a = ((j - a : Nat) : Int) by omega)
    · have hx : j = l.length := by omega
      subst hx
      have HR := Lib.hid (runLen_to l a l.length haj (Nat.le_refl _) Hj.out (.inl rfl))
      have hcv := (hra.sub (lo := a) (hi := l.length) haj (Nat.le_refl _)).conv (P := Tryz.prog) Tryz.underlying22 Tryz.underlying5 Tryz.underlying9 (c - a)
      have haj' : (0 : Int) ≤ (l.length : Int) - a := by omega
      go_wp2
      rw [HI.out, HR.out]
      refine rt_end rfl rfl rfl ?_ (Blk.new _ _ _) rfl rfl ((Below.refl _ w).alloc (Nat.le_refl _) _)
      exact int_eq (show (l.length : Int) - a = ((l.length - a : Nat) : Int) by omega)

theorem numAt_or {l : List UInt8} {a : Nat} (h : NumAt l a) (hl : isLetter (bt l a) = false) : isDigit (bt l a) = true ∨ (isDigit (bt l a) = false ∧ ((bt l a : Int) == 45) = true ∧ isDigit (bt l (a + 1)) = true ∧ a + 1 < l.length) := by
  rcases h with h | ⟨h1, h2⟩
  · exact .inl h
  · right
    refine ⟨by rw [h1]; rfl, yb (by omega), h2, ?_⟩
    rcases Nat.lt_or_ge (a + 1) l.length with h | h
    · exact h
    · rw [bt_out l (a + 1) h] at h2; cases h2

set_option maxHeartbeats 4000000 in
set_option maxRecDepth 100000 in
theorem rtok_num (A : Option Addr) (n c : Nat) (l : List UInt8) (a : Nat) (w : World) (h : Rd w w.heap.size 1 A n c (l.map vb)) (ha : a < n) (hn : n ≤ 70000) (hlet : isLetter (bt l a) = false) (hnum : NumAt l a) :
    Calls Tryz.prog 78 #[.slice A n c, .int .i64 (a : Int)] w (RRet (nextItem (l.drop a)) a w) := by
  have hlen := h.blen
  have hcap := h.cap
  have hbig := h.big
  obtain ⟨b, off, rfl, hb, hc⟩ := h.byte (k := a) ha
  subst hlen
  have HI := Lib.hid (nx_num ha hnum)
  have hbw : ¬ b = w.heap.size := by omega
  have hra := h.alloc (Nat.le_refl _) (.cells #[.int .i64 0, .string ⟨#[]⟩, .int .i64 0] 53)
  obtain ⟨b', off', he, hb', hca⟩ := hra.byte (k := a) ha
  injection he with he
  injection he with he1 he2
  subst he1 he2
  have hor : isDigit (bt l a) = true ∨ (isDigit (bt l a) = false ∧ ((bt l a : Int) == 45) = true ∧ isDigit (bt l (a + 1)) = true ∧ a + 1 < l.length ∧ (w.alloc (.cells #[.int .i64 0, .string ⟨#[]⟩, .int .i64 0] 53)).cell? ⟨b, off + (a + 1), none⟩ = some (.int .u8 (bt l (a + 1) : Int))) := by
    rcases numAt_or hnum hlet with e2 | ⟨e2, e3, e4, e5⟩
    · exact .inl e2
    · obtain ⟨b', off', he, hb', hc1⟩ := hra.byte (k := a + 1) e5
      injection he with he
      injection he with he1 he2
      subst he1 he2
      exact .inr ⟨e2, e3, e4, e5, hc1⟩
  clear hnum
  rcases hor with e2 | ⟨e2, e3, e4, e5, hc1⟩
  all_goals
    go_enter Tryz.func78, Tryz.ntmps78
    go_wp2_with (first
      | (go_at_call 100; refine (rletter_any _ _).mono ?_; rw [hlet]; rintro e w' ⟨rfl, rfl⟩)
      | (go_at_call 102; refine (rdigit_any _ _).mono ?_; rw [e2]; rintro e w' ⟨rfl, rfl⟩)
      | (go_at_call 102; refine (rdigit_any _ _).mono ?_; rw [e4]; rintro e w' ⟨rfl, rfl⟩))
    go_loop [7] (fun i => ∃ j : Nat, i = .int .i64 j ∧ a + 1 ≤ j ∧ j ≤ l.length ∧ Hid (∀ q, a + 1 ≤ q → q < j → isInner (bt l q) = true)) (fun i => l.length - (intOf i).toNat)
    case atStart => exact ⟨a + 1, by go_num, Nat.le_refl _, by omega, fun q h1 h2 => absurd h1 (by omega)⟩
    case round =>
      obtain ⟨j, rfl, haj, hj, Hj⟩ := hrel
      by_cases hlt : j < l.length
      · obtain ⟨b', off', he, hb', hcj⟩ := hra.byte (k := j) hlt
        injection he with he
        injection he with he1 he2
        subst he1 he2
        cases hin : isInner (bt l j) with
        | true =>
          have HN := Lib.hid (show ∀ q, a + 1 ≤ q → q < j + 1 → isInner (bt l q) = true from fun q h1 h2 => by
            rcases Nat.lt_or_ge q j with h3 | h3
            · exact Hj.out q h1 h3
            · rw [show q = j from by omega]; exact hin)
          go_wp2_with (go_at_call 101; refine (rinner_any _ _).mono ?_; rw [hin]; rintro e w' ⟨rfl, rfl⟩)
          go_round
          case rel => exact ⟨j + 1, by go_num, by omega, by omega, HN.out⟩
          case measure => simp [intOf]; omega
        | false =>
          have hR := runLen_to l (a + 1) j haj hj Hj.out (.inr hin)
          have hcv := (hra.sub (lo := a) (hi := j) (by omega) hj).conv (P := Tryz.prog) Tryz.underlying22 Tryz.underlying5 Tryz.underlying9 (c - a)
          have haj' : (0 : Int) ≤ (j : Int) - a := by omega
          have hpl : ((l.drop a).take (j - a)).length ≤ 70000 := by rw [List.length_take, List.length_drop]; omega
          have HI2 := Lib.hid (show nextItem (l.drop a) = if intB ((l.drop a).take (j - a)) then ⟨2, (l.drop a).take (j - a), j - a⟩ else ⟨0, [], j - a⟩ by rw [HI.out, hR, show j - (a + 1) + 1 = j - a from by omega])
          clear hR
          generalize (l.drop a).take (j - a) = pc at *
          cases hint : intB pc with
          | true =>
            go_wp2_with (first
              | (go_at_call 101; refine (rinner_any _ _).mono ?_; rw [hin]; rintro e w' ⟨rfl, rfl⟩)
              | (go_at_call 103; refine (rinteger_any _ _ (by omega)).mono ?_; rw [hint]; rintro e w' ⟨rfl, rfl⟩))
            rw [HI2.out, hint, if_pos rfl]
            refine rt_end rfl rfl rfl ?_ (Blk.new _ _ _) rfl rfl ((Below.refl _ w).alloc (Nat.le_refl _) _)
            exact int_eq (show (j : Int) - a = ((j - a : Nat) : Int) by omega)
          | false =>
            go_wp2_with (first
              | (go_at_call 101; refine (rinner_any _ _).mono ?_; rw [hin]; rintro e w' ⟨rfl, rfl⟩)
              | (go_at_call 103; refine (rinteger_any _ _ (by omega)).mono ?_; rw [hint]; rintro e w' ⟨rfl, rfl⟩))
            rw [HI2.out, hint, if_neg (by simp)]
            refine rt_end rfl rfl rfl ?_ (Blk.new _ _ _) rfl rfl ((Below.refl _ w).alloc (Nat.le_refl _) _)
            exact int_eq (show (j : Int) - a = ((j - a : Nat) : Int) by omega)
      · have hx : j = l.length := by omega
        subst hx
        have hR := runLen_to l (a + 1) l.length haj (Nat.le_refl _) Hj.out (.inl rfl)
        have hcv := (hra.sub (lo := a) (hi := l.length) (by omega) (Nat.le_refl _)).conv (P := Tryz.prog) Tryz.underlying22 Tryz.underlying5 Tryz.underlying9 (c - a)
        have haj' : (0 : Int) ≤ (l.length : Int) - a := by omega
        have hpl : ((l.drop a).take (l.length - a)).length ≤ 70000 := by rw [List.length_take, List.length_drop]; omega
        have HI2 := Lib.hid (show nextItem (l.drop a) = if intB ((l.drop a).take (l.length - a)) then ⟨2, (l.drop a).take (l.length - a), l.length - a⟩ else ⟨0, [], l.length - a⟩ by rw [HI.out, hR, show l.length - (a + 1) + 1 = l.length - a from by omega])
        clear hR
        generalize (l.drop a).take (l.length - a) = pc at *
        cases hint : intB pc with
        | true =>
          go_wp2_with (go_at_call 103; refine (rinteger_any _ _ (by omega)).mono ?_; rw [hint]; rintro e w' ⟨rfl, rfl⟩)
          rw [HI2.out, hint, if_pos rfl]
          refine rt_end rfl rfl rfl ?_ (Blk.new _ _ _) rfl rfl ((Below.refl _ w).alloc (Nat.le_refl _) _)
          exact int_eq (show (l.length : Int) - a = ((l.length - a : Nat) : Int) by omega)
        | false =>
          go_wp2_with (go_at_call 103; refine (rinteger_any _ _ (by omega)).mono ?_; rw [hint]; rintro e w' ⟨rfl, rfl⟩)
          rw [HI2.out, hint, if_neg (by simp)]
          refine rt_end rfl rfl rfl ?_ (Blk.new _ _ _) rfl rfl ((Below.refl _ w).alloc (Nat.le_refl _) _)
          exact int_eq (show (l.length : Int) - a = ((l.length - a : Nat) : Int) by omega)
end Go.Proofs.YtlgdmbdhffdenaaGreatDoor

/- The reference's token at signs, at quotes and at invalid bytes, by its contract. -/
namespace Go.Proofs.YtlgdmbdhffdenaaGreatDoor
set_option linter.unusedVariables false
set_option linter.unusedSimpArgs false
open Go.RowKit

theorem take1 (l : List UInt8) (a : Nat) (h : a < l.length) : (l.drop a).take 1 = [UInt8.ofNat (bt l a)] := by
  obtain ⟨c, h1, h2⟩ := drop_cons l a h
  rw [h2, ← h1]
  simp
theorem take2 (l : List UInt8) (a : Nat) (h : a + 1 < l.length) : (l.drop a).take 2 = [UInt8.ofNat (bt l a), UInt8.ofNat (bt l (a + 1))] := by
  obtain ⟨c, h1, h2⟩ := drop_cons l a (by omega)
  obtain ⟨d, h3, h4⟩ := drop_cons l (a + 1) h
  rw [h2, h4, ← h1, ← h3]
  simp
theorem ofNat_eq {x y : Nat} (hx : x < 256) (hy : y < 256) : (UInt8.ofNat x = UInt8.ofNat y) ↔ x = y := by
  constructor
  · intro e
    have := congrArg UInt8.toNat e
    simp at this
    omega
  · rintro rfl; rfl
theorem sign_take1 (l : List UInt8) (a : Nat) (h : a < l.length) : signB ((l.drop a).take 1) = isSignC (bt l a) := by
  have h1 : ∀ n : Nat, n < 256 → signB [UInt8.ofNat n] = isSignC n := by decide +kernel
  rw [take1 l a h, h1 _ (bt_lt l a)]
theorem sign_take2 (l : List UInt8) (a : Nat) (h : a + 1 < l.length) : signB ((l.drop a).take 2) = true ↔ (bt l a = 60 ∨ bt l a = 62) ∧ bt l (a + 1) = 61 := by
  rw [take2 l a h]
  have h1 := bt_lt l a
  have h2 := bt_lt l (a + 1)
  have e60 := ofNat_eq h1 (show 60 < 256 by omega)
  have e62 := ofNat_eq h1 (show 62 < 256 by omega)
  have e61 := ofNat_eq h2 (show 61 < 256 by omega)
  have k60 : (60 : UInt8) = UInt8.ofNat 60 := rfl
  have k61 : (61 : UInt8) = UInt8.ofNat 61 := rfl
  have k62 : (62 : UInt8) = UInt8.ofNat 62 := rfl
  simp only [signB, List.length_cons, List.length_nil, List.cons_beq_cons, List.beq_nil_eq, Bool.or_eq_true, Bool.and_eq_true, beq_iff_eq, k60, k61, k62, e60, e61, e62]
  simp
  omega
theorem nx_rest (l : List UInt8) (a : Nat) (h : a < l.length) (hl : isLetter (bt l a) = false) (hn : ¬ NumAt l a) (hq : ¬ bt l a = 34) :
    nextItem (l.drop a) = if a + 1 < l.length ∧ signB ((l.drop a).take 2) = true then ⟨4, (l.drop a).take 2, 2⟩ else if signB ((l.drop a).take 1) = true then ⟨4, (l.drop a).take 1, 1⟩ else ⟨0, [], 1⟩ := by
  rw [sign_take1 l a h]
  by_cases h2 : (bt l a = 60 ∨ bt l a = 62) ∧ bt l (a + 1) = 61
  · have h3 : a + 1 < l.length := by
      rcases Nat.lt_or_ge (a + 1) l.length with h | h
      · exact h
      · rw [bt_out l (a + 1) h] at h2; omega
    rw [if_pos ⟨h3, (sign_take2 l a h3).2 h2⟩]
    exact nx_sign2 h3 h2.1 h2.2
  · rw [if_neg (fun e => h2 ((sign_take2 l a e.1).1 e.2))]
    by_cases hs : isSignC (bt l a) = true
    · rw [if_pos hs]; exact nx_sign1 h hs h2
    · rw [if_neg hs]; exact nx_other h hl hn (by simpa using hs) hq

set_option maxHeartbeats 16000000 in
set_option maxRecDepth 100000 in
theorem rtok_rest (A : Option Addr) (n c : Nat) (l : List UInt8) (a : Nat) (w : World) (h : Rd w w.heap.size 1 A n c (l.map vb)) (ha : a < n) (hn : n ≤ 70000) (hlet : isLetter (bt l a) = false) (hnum : ¬ NumAt l a) (hq : ¬ bt l a = 34) :
    Calls Tryz.prog 78 #[.slice A n c, .int .i64 (a : Int)] w (RRet (nextItem (l.drop a)) a w) := by
  have hlen := h.blen
  have hcap := h.cap
  have hbig := h.big
  obtain ⟨b, off, rfl, hb, hc⟩ := h.byte (k := a) ha
  subst hlen
  have HI := Lib.hid (nx_rest l a ha hlet hnum hq)
  have hbw : ¬ b = w.heap.size := by omega
  have hra := h.alloc (Nat.le_refl _) (.cells #[.int .i64 0, .string ⟨#[]⟩, .int .i64 0] 53)
  have hrs := (hra.more (B' := (w.alloc (.cells #[.int .i64 0, .string ⟨#[]⟩, .int .i64 0] 53)).heap.size) (by simp)).sub (lo := a) (hi := l.length) (by omega) (Nat.le_refl _)
  rw [List.take_of_length_le (by rw [List.length_drop]; omega)] at hrs
  have Hrs := Lib.hid hrs
  have Hq := Lib.hid (show ¬ bt (l.drop a) 0 = 34 by rw [bt_drop]; exact hq)
  clear hrs
  obtain ⟨b', off', he, hb', hca⟩ := hra.byte (k := a) ha
  injection he with he
  injection he with he1 he2
  subst he1 he2
  have hd : isDigit (bt l a) = false := by
    rw [Bool.eq_false_iff]; intro e; exact hnum (.inl e)
  have hor : ((bt l a : Int) == 45) = false ∨ (((bt l a : Int) == 45) = true ∧ isDigit (bt l (a + 1)) = false) := by
    by_cases h45 : bt l a = 45
    · refine .inr ⟨yb (by omega), ?_⟩
      rw [Bool.eq_false_iff]; intro e; exact hnum (.inr ⟨h45, e⟩)
    · exact .inl (nb (by omega))
  clear hnum hq
  have hcv1 := (hra.sub (lo := a) (hi := a + 1) (by omega) (by omega)).conv (P := Tryz.prog) Tryz.underlying22 Tryz.underlying5 Tryz.underlying9 (c - a)
  rw [show a + 1 - a = 1 from by omega] at hcv1
  generalize h1 : (l.drop a).take 1 = p1 at *
  clear h1
  generalize hX : bt l a = X at *
  clear hX
  by_cases h2 : a + 1 < l.length
  · obtain ⟨b', off', he, hb', hc1⟩ := hra.byte (k := a + 1) h2
    injection he with he
    injection he with he1 he2
    subst he1 he2
    have hcv2 := (hra.sub (lo := a) (hi := a + 2) (by omega) (by omega)).conv (P := Tryz.prog) Tryz.underlying22 Tryz.underlying5 Tryz.underlying9 (c - a)
    rw [show a + 2 - a = 2 from by omega] at hcv2
    generalize hp2 : (l.drop a).take 2 = p2 at *
    clear hp2
    generalize hY : bt l (a + 1) = Y at *
    clear hY
    rcases hor with e3 | ⟨e3, e4⟩
    · go_enter Tryz.func78, Tryz.ntmps78
      go_wp2_with (first
        | (go_at_call 100; refine (rletter_any _ _).mono ?_; rw [hlet]; rintro e w' ⟨rfl, rfl⟩)
        | (go_at_call 102; refine (rdigit_any X _).mono ?_; rw [hd]; rintro e w' ⟨rfl, rfl⟩))
      refine (rquoted_not _ _ _ _ _ Hrs.out (.inr Hq.out)).mono ?_
      rintro e w' ⟨rfl, rfl⟩
      go_wp2_with (fail)
      refine (rsign_any p2 _).mono ?_
      rintro e w' ⟨rfl, rfl⟩
      cases hs2 : signB p2 with
      | true =>
        go_wp2_with (fail)
        rw [HI.out, if_pos ⟨h2, hs2⟩]
        exact rt_end rfl rfl rfl rfl (Blk.new _ _ _) rfl rfl ((Below.refl _ w).alloc (Nat.le_refl _) _)
      | false =>
        cases hs1 : signB p1 with
        | true =>
          go_wp2_with (fail)
          refine (rsign_any p1 _).mono ?_
          rw [hs1]
          rintro e w' ⟨rfl, rfl⟩
          go_wp2_with (fail)
          rw [HI.out, if_neg (fun e => by rw [hs2] at e; cases e.2), if_pos hs1]
          exact rt_end rfl rfl rfl rfl (Blk.new _ _ _) rfl rfl ((Below.refl _ w).alloc (Nat.le_refl _) _)
        | false =>
          go_wp2_with (fail)
          refine (rsign_any p1 _).mono ?_
          rw [hs1]
          rintro e w' ⟨rfl, rfl⟩
          go_wp2_with (fail)
          rw [HI.out, if_neg (fun e => by rw [hs2] at e; cases e.2), if_neg (by rw [hs1]; simp)]
          exact rt_end rfl rfl rfl rfl (Blk.new _ _ _) rfl rfl ((Below.refl _ w).alloc (Nat.le_refl _) _)
    · go_enter Tryz.func78, Tryz.ntmps78
      go_wp2_with (first
        | (go_at_call 100; refine (rletter_any _ _).mono ?_; rw [hlet]; rintro e w' ⟨rfl, rfl⟩)
        | (go_at_call 102; refine (rdigit_any X _).mono ?_; rw [hd]; rintro e w' ⟨rfl, rfl⟩)
        | (go_at_call 102; refine (rdigit_any Y _).mono ?_; rw [e4]; rintro e w' ⟨rfl, rfl⟩))
      refine (rquoted_not _ _ _ _ _ Hrs.out (.inr Hq.out)).mono ?_
      rintro e w' ⟨rfl, rfl⟩
      go_wp2_with (fail)
      refine (rsign_any p2 _).mono ?_
      rintro e w' ⟨rfl, rfl⟩
      cases hs2 : signB p2 with
      | true =>
        go_wp2_with (fail)
        rw [HI.out, if_pos ⟨h2, hs2⟩]
        exact rt_end rfl rfl rfl rfl (Blk.new _ _ _) rfl rfl ((Below.refl _ w).alloc (Nat.le_refl _) _)
      | false =>
        cases hs1 : signB p1 with
        | true =>
          go_wp2_with (fail)
          refine (rsign_any p1 _).mono ?_
          rw [hs1]
          rintro e w' ⟨rfl, rfl⟩
          go_wp2_with (fail)
          rw [HI.out, if_neg (fun e => by rw [hs2] at e; cases e.2), if_pos hs1]
          exact rt_end rfl rfl rfl rfl (Blk.new _ _ _) rfl rfl ((Below.refl _ w).alloc (Nat.le_refl _) _)
        | false =>
          go_wp2_with (fail)
          refine (rsign_any p1 _).mono ?_
          rw [hs1]
          rintro e w' ⟨rfl, rfl⟩
          go_wp2_with (fail)
          rw [HI.out, if_neg (fun e => by rw [hs2] at e; cases e.2), if_neg (by rw [hs1]; simp)]
          exact rt_end rfl rfl rfl rfl (Blk.new _ _ _) rfl rfl ((Below.refl _ w).alloc (Nat.le_refl _) _)
  · rcases hor with e3 | ⟨e3, e4⟩
    · go_enter Tryz.func78, Tryz.ntmps78
      go_wp2_with (first
        | (go_at_call 100; refine (rletter_any _ _).mono ?_; rw [hlet]; rintro e w' ⟨rfl, rfl⟩)
        | (go_at_call 102; refine (rdigit_any X _).mono ?_; rw [hd]; rintro e w' ⟨rfl, rfl⟩))
      refine (rquoted_not _ _ _ _ _ Hrs.out (.inr Hq.out)).mono ?_
      rintro e w' ⟨rfl, rfl⟩
      cases hs1 : signB p1 with
      | true =>
        go_wp2_with (fail)
        refine (rsign_any p1 _).mono ?_
        rw [hs1]
        rintro e w' ⟨rfl, rfl⟩
        go_wp2_with (fail)
        rw [HI.out, if_neg (fun e => h2 e.1), if_pos hs1]
        exact rt_end rfl rfl rfl rfl (Blk.new _ _ _) rfl rfl ((Below.refl _ w).alloc (Nat.le_refl _) _)
      | false =>
        go_wp2_with (fail)
        refine (rsign_any p1 _).mono ?_
        rw [hs1]
        rintro e w' ⟨rfl, rfl⟩
        go_wp2_with (fail)
        rw [HI.out, if_neg (fun e => h2 e.1), if_neg (by rw [hs1]; simp)]
        exact rt_end rfl rfl rfl rfl (Blk.new _ _ _) rfl rfl ((Below.refl _ w).alloc (Nat.le_refl _) _)
    · go_enter Tryz.func78, Tryz.ntmps78
      go_wp2_with (first
        | (go_at_call 100; refine (rletter_any _ _).mono ?_; rw [hlet]; rintro e w' ⟨rfl, rfl⟩)
        | (go_at_call 102; refine (rdigit_any X _).mono ?_; rw [hd]; rintro e w' ⟨rfl, rfl⟩))
      refine (rquoted_not _ _ _ _ _ Hrs.out (.inr Hq.out)).mono ?_
      rintro e w' ⟨rfl, rfl⟩
      cases hs1 : signB p1 with
      | true =>
        go_wp2_with (fail)
        refine (rsign_any p1 _).mono ?_
        rw [hs1]
        rintro e w' ⟨rfl, rfl⟩
        go_wp2_with (fail)
        rw [HI.out, if_neg (fun e => h2 e.1), if_pos hs1]
        exact rt_end rfl rfl rfl rfl (Blk.new _ _ _) rfl rfl ((Below.refl _ w).alloc (Nat.le_refl _) _)
      | false =>
        go_wp2_with (fail)
        refine (rsign_any p1 _).mono ?_
        rw [hs1]
        rintro e w' ⟨rfl, rfl⟩
        go_wp2_with (fail)
        rw [HI.out, if_neg (fun e => h2 e.1), if_neg (by rw [hs1]; simp)]
        exact rt_end rfl rfl rfl rfl (Blk.new _ _ _) rfl rfl ((Below.refl _ w).alloc (Nat.le_refl _) _)
end Go.Proofs.YtlgdmbdhffdenaaGreatDoor

/- The reference's token, at quotes and whole, by its contract. -/
namespace Go.Proofs.YtlgdmbdhffdenaaGreatDoor
set_option linter.unusedVariables false
set_option linter.unusedSimpArgs false
open Go.RowKit

theorem rtBlk {w w1 : World} {cs : Array Value} (hb : Below (w.alloc (.cells cs 53)).heap.size (w.alloc (.cells cs 53)) w1) : Blk w1 w.heap.size 53 cs ∧ Below w.heap.size w w1 :=
  ⟨(Blk.new w 53 cs).below hb (by simp), ((Below.refl w.heap.size w).alloc (Nat.le_refl _) (.cells cs 53)).trans (hb.mono (by simp))⟩

set_option maxHeartbeats 4000000 in
set_option maxRecDepth 100000 in
theorem rtok_quote (A : Option Addr) (n c : Nat) (l : List UInt8) (a : Nat) (w : World) (h : Rd w w.heap.size 1 A n c (l.map vb)) (ha : a < n) (hn : n ≤ 70000) (hq : bt l a = 34) :
    Calls Tryz.prog 78 #[.slice A n c, .int .i64 (a : Int)] w (RRet (nextItem (l.drop a)) a w) := by
  have hlen := h.blen
  have hcap := h.cap
  have hbig := h.big
  obtain ⟨b, off, rfl, hb, hc⟩ := h.byte (k := a) ha
  subst hlen
  have HI := Lib.hid (nx_quote ha hq)
  have hbw : ¬ b = w.heap.size := by omega
  have hlet : isLetter (bt l a) = false := by rw [hq]; rfl
  have hd : isDigit (bt l a) = false := by rw [hq]; rfl
  have e3 := nb (a := bt l a) (m := 45) (by omega)
  have hra := h.alloc (Nat.le_refl _) (.cells #[.int .i64 0, .string ⟨#[]⟩, .int .i64 0] 53)
  have hrs := (hra.more (B' := (w.alloc (.cells #[.int .i64 0, .string ⟨#[]⟩, .int .i64 0] 53)).heap.size) (by simp)).sub (lo := a) (hi := l.length) (by omega) (Nat.le_refl _)
  rw [List.take_of_length_le (by rw [List.length_drop]; omega)] at hrs
  have Hrs := Lib.hid hrs
  have Hq := Lib.hid (show bt (l.drop a) 0 = 34 by rw [bt_drop]; exact hq)
  clear hrs
  obtain ⟨b', off', he, hb', hca⟩ := hra.byte (k := a) ha
  injection he with he
  injection he with he1 he2
  subst he1 he2
  have HS1 := Lib.hid (show signB ((l.drop a).take 1) = false by rw [sign_take1 l a ha, hq]; rfl)
  have HS2 := Lib.hid (show a + 1 < l.length → signB ((l.drop a).take 2) = false from fun h2 => by
    rw [Bool.eq_false_iff]; intro e; have := ((sign_take2 l a h2).1 e).1; omega)
  have HQ := Lib.hid (show qscan ((l.drop a).drop 1) = qscan (l.drop (a + 1)) by rw [List.drop_drop])
  clear hq
  generalize hX : bt l a = X at *
  clear hX
  go_enter Tryz.func78, Tryz.ntmps78
  go_wp2_with (first
    | (go_at_call 100; refine (rletter_any _ _).mono ?_; rw [hlet]; rintro e w' ⟨rfl, rfl⟩)
    | (go_at_call 102; refine (rdigit_any X _).mono ?_; rw [hd]; rintro e w' ⟨rfl, rfl⟩))
  refine (rquoted_any _ _ _ _ _ Hrs.out (by omega) (by omega) Hq.out).mono ?_
  unfold QRet
  rw [HQ.out]
  cases hqs : qscan (l.drop (a + 1)) with
  | some x =>
    obtain ⟨t, k⟩ := x
    have hk := (qscan_len _ _ (Nat.le_refl _) t k hqs).2
    rw [hqs] at HI
    simp only [qout]
    rintro e w1 ⟨rfl, hb1⟩
    have HB := Lib.hid (rtBlk hb1)
    clear hb1 hra hca hqs
    go_wp2_with (refine wpList_store_row rfl 53 (.tmp 4) (.tmp 105) rfl _ rfl #[.int .i64 3, .string (bs t), .int .i64 a] tokZero rfl 53 HB.out.1 rfl infoTok (tok_one _ _ _) ?_)
    rw [HI.out]
    exact rt_end rfl rfl rfl rfl (Blk.setRow HB.out.1 _) rfl rfl (Below.setRow HB.out.2 (Nat.le_refl _) _)
  | none =>
    rw [hqs] at HI
    simp only [qout]
    rintro e w1 ⟨rfl, hb1⟩
    have HB := Lib.hid (rtBlk hb1)
    have hr1 := h.below HB.out.2
    clear hb1 hra hca hqs
    have hcv1 := (hr1.sub (lo := a) (hi := a + 1) (by omega) (by omega)).conv (P := Tryz.prog) Tryz.underlying22 Tryz.underlying5 Tryz.underlying9 (c - a)
    rw [show a + 1 - a = 1 from by omega] at hcv1
    generalize h1 : (l.drop a).take 1 = p1 at *
    clear h1
    by_cases h2 : a + 1 < l.length
    · have hcv2 := (hr1.sub (lo := a) (hi := a + 2) (by omega) (by omega)).conv (P := Tryz.prog) Tryz.underlying22 Tryz.underlying5 Tryz.underlying9 (c - a)
      rw [show a + 2 - a = 2 from by omega] at hcv2
      have HS2' := Lib.hid (HS2.out h2)
      generalize hp2 : (l.drop a).take 2 = p2 at *
      clear hp2
      go_wp2_with (fail)
      refine (rsign_any p2 _).mono ?_
      rw [HS2'.out]
      rintro e w' ⟨rfl, rfl⟩
      go_wp2_with (fail)
      refine (rsign_any p1 _).mono ?_
      rw [HS1.out]
      rintro e w' ⟨rfl, rfl⟩
      go_wp2_with (refine wpList_store_row rfl 53 (.tmp 4) (.tmp 144) rfl _ rfl tokZero tokZero rfl 53 HB.out.1 rfl infoTok (tok_one 0 [] 0) ?_)
      rw [HI.out]
      exact rt_end rfl rfl rfl rfl (Blk.setRow HB.out.1 _) rfl rfl (Below.setRow HB.out.2 (Nat.le_refl _) _)
    · go_wp2_with (fail)
      refine (rsign_any p1 _).mono ?_
      rw [HS1.out]
      rintro e w' ⟨rfl, rfl⟩
      go_wp2_with (refine wpList_store_row rfl 53 (.tmp 4) (.tmp 144) rfl _ rfl tokZero tokZero rfl 53 HB.out.1 rfl infoTok (tok_one 0 [] 0) ?_)
      rw [HI.out]
      exact rt_end rfl rfl rfl rfl (Blk.setRow HB.out.1 _) rfl rfl (Below.setRow HB.out.2 (Nat.le_refl _) _)

theorem rtok_any (A : Option Addr) (n c : Nat) (l : List UInt8) (a : Nat) (w : World) (h : Rd w w.heap.size 1 A n c (l.map vb)) (ha : a < n) (hn : n ≤ 70000) :
    Calls Tryz.prog 78 #[.slice A n c, .int .i64 (a : Int)] w (RRet (nextItem (l.drop a)) a w) := by
  cases h1 : isLetter (bt l a) with
  | true => exact rtok_letter A n c l a w h ha hn h1
  | false =>
    by_cases h2 : NumAt l a
    · exact rtok_num A n c l a w h ha hn h1 h2
    · by_cases h3 : bt l a = 34
      · exact rtok_quote A n c l a w h ha hn h3
      · exact rtok_rest A n c l a w h ha hn h1 h2 h3
end Go.Proofs.YtlgdmbdhffdenaaGreatDoor

/- The reference's Tokens by its contract. -/
namespace Go.Proofs.YtlgdmbdhffdenaaGreatDoor
set_option linter.unusedVariables false
set_option linter.unusedSimpArgs false
open Go.RowKit

theorem own_new (w : World) (B : Nat) (e : TypeId) (size : Nat) (hB : B ≤ w.heap.size) : (w.alloc (.cells #[] e)).ownsRow B e size (.slice (some ⟨w.heap.size, 0, none⟩) 0 0) 0 [] :=
  ⟨by simp, .inr ⟨w.heap.size, 0, #[], rfl, hB, heap_alloc_new w _, by simp, by simp [maxLen], by simp, by simp⟩⟩

/-- The state at the head of a round. -/
structure RC (B : Nat) (w0 w : World) (A : Option Addr) (n c : Nat) (l : List UInt8) (P : List Prob) (Ab : Option Addr) (cb : Nat) (T : List Tok) (At : Option Addr) (ct : Nat) : Prop where
  src : Rd w B 1 A n c (l.map vb)
  tok : w.ownsRow B 53 3 (.slice At T.length ct) T.length (T.flatMap tokCells)
  bad : w.ownsRow B 49 2 (.slice Ab P.length cb) P.length (P.flatMap probCells)
  bel : Below B w0 w
  hB : B ≤ w.heap.size
  pl : P.length ≤ 64
section
variable {B : Nat} {w0 w W w1 : World} {n c cb ct c' : Nat} {A Ab At A' : Option Addr} {l : List UInt8} {P : List Prob} {T : List Tok}
theorem RC.below (h : RC B w0 w A n c l P Ab cb T At ct) (hb : Below w.heap.size w W) : RC B w0 W A n c l P Ab cb T At ct :=
  ⟨h.src.below (hb.mono h.hB), own_below_all h.tok hb, own_below_all h.bad hb, h.bel.trans (hb.mono h.hB), Nat.le_trans h.hB hb.size, h.pl⟩
theorem RC.push (h : RC B w0 w A n c l P Ab cb T At ct) (hg : w.grownBy w1 (Value.slice At T.length ct).ownBlock) (t : Tok)
    (hown : w1.ownsRow B 53 3 (.slice A' (T.length + 1) c') (T.length + 1) (T.flatMap tokCells ++ tokCells t)) : RC B w0 w1 A n c l P Ab cb (T ++ [t]) A' c' := by
  have ho : Only (fun k => (Value.slice At T.length ct).ownBlock = some k) w w1 := Only.of_grown hg (fun k hk => hk)
  refine ⟨h.src.only ho h.hB (fun k hk e => by have := (h.tok.lt k e).1; omega), ?_, own_only h.bad ho (fun k hk e => own_own h.tok h.bad (by decide) k e hk), ho.below h.bel h.hB (fun k hk => (h.tok.lt k hk).1), Nat.le_trans h.hB ho.size, h.pl⟩
  have e1 : (T ++ [t]).length = T.length + 1 := by simp
  have e2 : (T ++ [t]).flatMap tokCells = T.flatMap tokCells ++ tokCells t := by simp
  rw [e1, e2]
  exact hown
theorem RC.pushP (h : RC B w0 w A n c l P Ab cb T At ct) (hg : w.grownBy w1 (Value.slice Ab P.length cb).ownBlock) (t : Prob) (hl : P.length < 64)
    (hown : w1.ownsRow B 49 2 (.slice A' (P.length + 1) c') (P.length + 1) (P.flatMap probCells ++ probCells t)) : RC B w0 w1 A n c l (P ++ [t]) A' c' T At ct := by
  have ho : Only (fun k => (Value.slice Ab P.length cb).ownBlock = some k) w w1 := Only.of_grown hg (fun k hk => hk)
  have e1 : (P ++ [t]).length = P.length + 1 := by simp
  refine ⟨h.src.only ho h.hB (fun k hk e => by have := (h.bad.lt k e).1; omega), own_only h.tok ho (fun k hk e => own_own h.tok h.bad (by decide) k hk e), ?_, ho.below h.bel h.hB (fun k hk => (h.bad.lt k hk).1), Nat.le_trans h.hB ho.size, by rw [e1]; omega⟩
  have e2 : (P ++ [t]).flatMap probCells = P.flatMap probCells ++ probCells t := by simp
  rw [e1, e2]
  exact hown
end
theorem rtok_post {w w5 : World} {n c cb c1 : Nat} {A Ab A1 : Option Addr} {l : List UInt8} {P : List Prob} {T : List Tok} {m : Nat} (h : RC w.heap.size w w5 A n c l P Ab cb T A1 c1) (hl : lex l = (T, P)) (hm : m = T.length) :
    TokPost l w (.returned (.tuple #[.slice A1 m c1, .slice Ab P.length cb, .int .i64 0])) w5 := by
  subst hm
  refine ⟨A1, Ab, c1, cb, ?_, ?_, ?_, h.bel⟩
  · rw [hl]
  · rw [hl]; exact own_rd h.tok
  · rw [hl]; exact own_rd h.bad

set_option maxHeartbeats 4000000 in
set_option maxRecDepth 100000 in
theorem rtokens_any (A : Option Addr) (n c : Nat) (l : List UInt8) (w : World) (h : Rd w w.heap.size 1 A n c (l.map vb)) (hn : n ≤ 65536) :
    Calls Tryz.prog 41 #[.slice A n c] w (TokPost l w) := by
  have hlen := h.blen
  have hcap := h.cap
  have hbig := h.big
  subst hlen
  go_enter Tryz.func41, Tryz.ntmps41
  have hB0 : Hid (RC w.heap.size w ((w.alloc (.cells #[] 53)).alloc (.cells #[] 49)) A l.length c l [] (some ⟨w.heap.size + 1, 0, none⟩) 0 [] (some ⟨w.heap.size, 0, none⟩) 0) := by
    have k1 := own_new w w.heap.size 53 3 (Nat.le_refl _)
    have k2 := own_new (w.alloc (.cells #[] 53)) w.heap.size 49 2 (by simp)
    have hb2 : Below w.heap.size w ((w.alloc (.cells #[] 53)).alloc (.cells #[] 49)) := ((Below.refl _ w).alloc (Nat.le_refl _) _).alloc (by simp) _
    have e1 : (w.alloc (.cells #[] 53)).heap.size = w.heap.size + 1 := by simp
    rw [e1] at k2
    exact ⟨h.below hb2, own_below_all k1 ((Below.refl _ _).alloc (Nat.le_refl _) _), k2, hb2, hb2.size, by simp⟩
  go_wp2_with (fail)
  generalize ((w.alloc (.cells #[] 53)).alloc (.cells #[] 49)) = w2 at hB0 ⊢
  generalize hA1 : some (⟨w.heap.size + 1, 0, none⟩ : Addr) = A1 at hB0 ⊢
  generalize hA2 : some (⟨w.heap.size, 0, none⟩ : Addr) = A2 at hB0 ⊢
  clear hA1 hA2
  go_loopg [5, 6, 7, 8] l.length (fun gk s5 s6 s7 s8 wr => ∃ (a : Nat) (E : Int) (P : List Prob) (Ab : Option Addr) (cb : Nat) (T : List Tok) (At : Option Addr) (ct : Nat), gk + a = l.length ∧ T.length ≤ a ∧ s5 = .slice At T.length ct ∧ s6 = .slice Ab P.length cb ∧ s7 = .int .i64 (a : Int) ∧ s8 = .int .i64 E ∧ Hid (RC w.heap.size w wr A l.length c l P Ab cb T At ct) ∧ Hid (fin T P E a (items (l.drop a)) = lex l))
  case atStart => exact ⟨0, -1, [], _, 0, [], _, 0, rfl, by simp, rfl, rfl, rfl, rfl, hB0.out, rfl⟩
  case round =>
    obtain ⟨a, E, P, Ab, cb, T, At, ct, hgk, hTa, rfl, rfl, rfl, rfl, HT, HF⟩ := hrel
    have Hgk := Lib.hid hgk
    clear hB0
    have hal : a ≤ l.length := by omega
    go_wp2_with (fail)
    refine (rblank_any _ _ _ l _ a _ HT.out.src hal).mono ?_
    rintro e w' ⟨k, rfl, hsk, hsol, rfl⟩
    have HF2 := Lib.hid ((hsk.2.2 T P E).symm.trans HF.out)
    have hak : a ≤ k := hsk.1
    have hkl : k ≤ l.length := hsk.2.1
    have Hsol := Lib.hid hsol
    clear hsk hsol HF
    by_cases hlt : k < l.length
    · have hsl := Hsol.out hlt
      have hin := next_in hlt
      have hpos := nextItem_pos (l.drop k)
      by_cases hk : (nextItem (l.drop k)).kind = 0
      · have HN := Lib.hid (fin_bad (T := T) (P := P) (E := E) hlt hsl hk)
        have hz : tokOf (nextItem (l.drop k)) k = ⟨0, [], 0⟩ := by simp [tokOf, hk]
        generalize hm : (nextItem (l.drop k)).len = m at *
        have Hz := Lib.hid hz
        have Hm := Lib.hid hm
        clear hk hz hm hsl
        by_cases hE : (k : Int) = E ∨ ¬ P.length < 64
        · have HP := Lib.hid (show probs' P E k = P by unfold probs'; rw [if_neg (by rintro ⟨h1, h2⟩; rcases hE with h | h; exact h1 h; exact h h2)])
          have hor : ((k : Int) != E) = false ∨ (((k : Int) != E) = true ∧ ¬ (P.length : Int) < 64) := by
            by_cases h1 : (k : Int) = E
            · exact .inl (by simp [h1])
            · exact .inr ⟨by simp [h1], by rcases hE with h | h; exact absurd h h1; omega⟩
          clear hE
          rcases hor with e1 | ⟨e1, e2⟩
          all_goals
            go_wp2_with (go_at_call 78; refine (rtok_any A _ _ l k _ (HT.out.src.more HT.out.hB) hlt (by omega)).mono ?_; unfold RRet; rw [Hz.out, Hm.out]; unfold tokVal; rintro e w3 ⟨rfl, hb3⟩)
            go_roundg (l.length - (k + m))
            case measure => have := Hgk.out; omega
            case rel => exact ⟨k + m, _, P, Ab, cb, T, At, ct, by omega, by omega, rfl, rfl, by first | rfl | go_num | exact int_eq (by omega), rfl, (HT.out.below hb3).below ((Below.refl _ _).alloc (Nat.le_refl _) _), by have := HN.out.symm.trans HF2.out; rw [HP.out] at this; exact this⟩
        · have hE1 : ¬ (k : Int) = E := fun e => hE (.inl e)
          have hE2 : P.length < 64 := by rcases Nat.lt_or_ge P.length 64 with h | h; exact h; exact absurd (.inr (by omega)) hE
          have HP := Lib.hid (show probs' P E k = P ++ [⟨(k : Int), 60⟩] by unfold probs'; rw [if_pos ⟨hE1, hE2⟩])
          have e1 : ((k : Int) != E) = true := by simp [hE1]
          clear hE hE1
          go_wp2_with (first
            | (go_at_call 78; refine (rtok_any A _ _ l k _ (HT.out.src.more HT.out.hB) hlt (by omega)).mono ?_; unfold RRet; rw [Hz.out, Hm.out]; unfold tokVal; rintro e w3 ⟨rfl, hb3⟩; have HT3 := Lib.hid ((HT.out.below hb3).below ((Below.refl _ w3).alloc (Nat.le_refl _) (.cells #[.int .i64 0, .string (bs []), .int .i64 0] 53))); have HT4 := Lib.hid (HT3.out.below ((Below.refl _ _).alloc (Nat.le_refl _) (.cells #[.int .i64 (k : Int), .int .i64 60] 49))); have hP3 := own_lt HT3.out.bad)
            | (at_builtin; go_must (refine wpList_push elemProb rfl (.tmp 50) (.tmp 53) rfl w.heap.size Ab P.length cb (P.flatMap probCells) rfl HT4.out.bad (w3.heap.size + 1) rfl [.int .i64 (k : Int), .int .i64 60] rfl (new_cells' _ _ _ (by simp)) (by intro u hu; simp at hu; rcases hu with rfl | rfl <;> rfl) (by omega) (by omega) HT4.out.hB ?_); intro A1 c1 w5 hown5 hb5 hg5; have HT5 := Lib.hid (HT4.out.pushP hg5 ⟨(k : Int), 60⟩ hE2 hown5)))
          go_roundg (l.length - (k + m))
          case measure => have := Hgk.out; omega
          case rel => exact ⟨k + m, _, P ++ [(⟨(k : Int), 60⟩ : Prob)], A1, c1, T, At, ct, by omega, by omega, rfl, slice_eq (by simp), by first | rfl | go_num | exact int_eq (by omega), rfl, HT5.out, by have := HN.out.symm.trans HF2.out; rw [HP.out] at this; exact this⟩
      · have HN := Lib.hid (fin_tok (T := T) (P := P) (E := E) hlt hsl hk)
        have hz : tokOf (nextItem (l.drop k)) k = ⟨((nextItem (l.drop k)).kind : Int), (nextItem (l.drop k)).text, k⟩ := by simp [tokOf, hk]
        have hkb : (((nextItem (l.drop k)).kind : Int) != 0) = true := nnb (by omega)
        generalize hm : (nextItem (l.drop k)).len = m at *
        generalize hkk : (nextItem (l.drop k)).kind = kk at *
        generalize htx : (nextItem (l.drop k)).text = tx at *
        have Hz := Lib.hid hz
        have Hm := Lib.hid hm
        clear hk hz hm hkk htx hsl
        rw [Hz.out] at HN
        go_wp2_with (first
          | (go_at_call 78; refine (rtok_any A _ _ l k _ (HT.out.src.more HT.out.hB) hlt (by omega)).mono ?_; unfold RRet; rw [Hz.out, Hm.out]; unfold tokVal; rintro e w3 ⟨rfl, hb3⟩; have HT3 := Lib.hid ((HT.out.below hb3).below ((Below.refl _ w3).alloc (Nat.le_refl _) (.cells #[.int .i64 (kk : Int), .string (bs tx), .int .i64 (k : Int)] 53))); have HT4 := Lib.hid (HT3.out.below ((Below.refl _ _).alloc (Nat.le_refl _) (.cells #[.int .i64 (kk : Int), .string (bs tx), .int .i64 (k : Int)] 53))))
          | (at_builtin; go_must (refine wpList_push elemTok rfl (.tmp 38) (.tmp 40) rfl w.heap.size At T.length ct (T.flatMap tokCells) rfl HT4.out.tok (w3.heap.size + 1) rfl (tokCells ⟨(kk : Int), tx, (k : Int)⟩) rfl (new_cells' _ _ _ (by simp)) (by intro u hu; simp [tokCells] at hu; rcases hu with rfl | rfl | rfl <;> rfl) (by omega) (by omega) HT4.out.hB ?_); intro A1 c1 w5 hown5 hb5 hg5; have HT5 := Lib.hid (HT4.out.push hg5 ⟨(kk : Int), tx, (k : Int)⟩ hown5)))
        go_roundg (l.length - (k + m))
        case measure => have := Hgk.out; omega
        case rel => exact ⟨k + m, E, P, Ab, cb, T ++ [(⟨(kk : Int), tx, (k : Int)⟩ : Tok)], A1, c1, by omega, by simp; omega, slice_eq (by simp), rfl, by first | rfl | go_num | exact int_eq (by omega), rfl, HT5.out, HN.out.symm.trans HF2.out⟩
    · have hx : k = l.length := by omega
      subst hx
      have HL := Lib.hid (show lex l = (T ++ [⟨5, [], (l.length : Int)⟩], P) by
        rw [← HF2.out, drop_all l l.length (Nat.le_refl _), items_nil]
        rfl)
      have HT2 := Lib.hid (HT.out.below ((Below.refl _ wr).alloc (Nat.le_refl _) (.cells #[.int .i64 5, .string ⟨#[]⟩, .int .i64 (l.length : Int)] 53)))
      go_wp2_with (at_builtin; go_must (refine wpList_push elemTok rfl (.tmp 23) (.tmp 26) rfl w.heap.size At T.length ct (T.flatMap tokCells) rfl HT2.out.tok wr.heap.size rfl [.int .i64 5, .string ⟨#[]⟩, .int .i64 (l.length : Int)] rfl (new_cells _ _ _) (by intro u hu; simp at hu; rcases hu with rfl | rfl | rfl <;> rfl) (by omega) (by omega) HT2.out.hB ?_); intro A1 c1 w5 hown5 hb5 hg5; have HT5 := Lib.hid (HT2.out.push hg5 ⟨5, [], (l.length : Int)⟩ hown5))
      go_ret3
      exact rtok_post HT5.out HL.out (by simp)

set_option maxHeartbeats 400000 in
theorem rtokens_big (A : Option Addr) (n c : Nat) (w : World) (hn : 65536 < n) :
    Calls Tryz.prog 41 #[.slice A n c] w fun e w' => e = .returned (.tuple #[.slice none 0 0, .slice none 0 0, .int .i64 2]) ∧ w = w' := by
  go_enter Tryz.func41, Tryz.ntmps41
  go_wp2
  go_ret3
  exact ⟨rfl, rfl⟩
end Go.Proofs.YtlgdmbdhffdenaaGreatDoor

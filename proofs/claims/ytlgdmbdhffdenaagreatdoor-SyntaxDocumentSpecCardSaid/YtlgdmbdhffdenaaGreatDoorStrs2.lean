/- isWord, isSign, isText by their contracts. -/
import Derived.Test.YtlgdmbdhffdenaaGreatDoorStrs
import Derived.BigQuiet
import Derived.Deep.QuietTactic
import Derived.Laws.RangeAny
namespace Go.Proofs.YtlgdmbdhffdenaaGreatDoor
set_option linter.unusedVariables false
set_option linter.unusedSimpArgs false
open Go.RowKit

theorem all_bt (p : Nat → Bool) (l : List UInt8) : (l.all fun c => p c.toNat) = true ↔ ∀ q, q < l.length → p (bt l q) = true := by
  rw [List.all_eq_true]
  constructor
  · intro h q hq
    rw [bt_get l q hq]
    exact h _ (List.getElem_mem hq)
  · intro h c hc
    obtain ⟨q, hq, rfl⟩ := List.getElem_of_mem hc
    have := h q hq
    rwa [bt_get l q hq] at this
theorem word_yes {l : List UInt8} (h0 : 0 < l.length) (h1 : isLetter (bt l 0) = true) (h : ∀ q, q < l.length → isInner (bt l q) = true) : wordB l = true := by
  have he : l.isEmpty = false := by cases l <;> simp at h0 ⊢
  have := (all_bt isInner l).2 h
  unfold wordB
  rw [he, h1, this]
  rfl
theorem word_no {l : List UInt8} {q : Nat} (hq : q < l.length) (h : isInner (bt l q) = false) : wordB l = false := by
  cases hw : wordB l
  · rfl
  · unfold wordB at hw
    rw [Bool.and_eq_true] at hw
    have := (all_bt isInner l).1 hw.2 q hq
    rw [h] at this
    cases this
theorem word_no_letter {l : List UInt8} (h : isLetter (bt l 0) = false) : wordB l = false := by simp [wordB, h]
theorem word_nil : wordB [] = false := rfl

/-- The first k bytes are as a word's. -/
def WordPre (l : List UInt8) (k : Nat) : Prop := (∀ q, q < k → isInner (bt l q) = true) ∧ (0 < k → isLetter (bt l 0) = true)

set_option maxHeartbeats 2000000 in
set_option maxRecDepth 100000 in
theorem isWord_any (l : List UInt8) (w : World) (hl : l.length ≤ 9223372036854775807) :
    Calls Tryz.prog 48 #[.string (bs l)] w fun e w' => e = .returned (.bool (wordB l)) ∧ Below w.heap.size w w' := by
  go_enter Tryz.func48, Tryz.ntmps48
  go_wp2_with (first
    | (go_at_call 44; refine (classes_any _).mono ?_; rintro e w1 ⟨rfl, hb1⟩)
    | refine wpList_alloc_row rfl 81 rfl _ _ zero256 rfl ?_
    | refine wpList_store_row rfl 81 (.tmp 3) (.tmp 6) rfl _ rfl (mk cls) (mk fun _ => 0) rfl 81 (Blk.new _ _ _) (by rw [mk_size, mk_size]) (by rw [mk_size]; exact info256) (mk_one cls) ?_)
  have HB : Blk ((w1.alloc (.cells (mk fun _ => 0) 81)).setRow w1.heap.size (mk cls)) w1.heap.size 81 (mk cls) := (Blk.new w1 81 (mk fun _ => 0)).setRow _
  have HL : Below w.heap.size w ((w1.alloc (.cells (mk fun _ => 0) 81)).setRow w1.heap.size (mk cls)) := Below.setRow (hb1.alloc hb1.size _) hb1.size _
  generalize (w1.alloc (.cells (mk fun _ => 0) 81)).setRow w1.heap.size (mk cls) = w2 at HB HL ⊢
  generalize w1.heap.size = g at HB ⊢
  clear hb1
  have HLh := Lib.hid HL
  clear HL
  go_loop [9] (fun i => ∃ k : Nat, i = .int .i64 k ∧ k ≤ l.length ∧ Hid (WordPre l k)) (fun i => l.length - (intOf i).toNat)
  case atStart => exact ⟨0, rfl, Nat.zero_le _, fun q hq => absurd hq (by omega), fun h => absurd h (by omega)⟩
  case round =>
    obtain ⟨k, rfl, hk, Hk⟩ := hrel
    by_cases hlt : k < l.length
    · have hc := (HB.cell (bt l k)).trans (mk_get cls (bt l k) (bt_lt l k))
      have hb0 : (0 : Int) ≤ (bt l k : Int) := by omega
      have hb1 : (bt l k : Int) < 256 := by have := bt_lt l k; omega
      have hk0 : (0 : Int) ≤ (k : Int) := by omega
      by_cases h2 : cls (bt l k) = 2
      · have hin : isInner (bt l k) = true := inner_iff.2 (.inl h2)
        have HN := Lib.hid (show WordPre l (k + 1) from ⟨fun q hq => by
          rcases Nat.lt_or_ge q k with h | h
          · exact Hk.out.1 q h
          · rw [show q = k from by omega]; exact hin, fun _ => by
          rcases Nat.eq_zero_or_pos k with h | h
          · subst h; exact cls_letter.1 h2
          · exact Hk.out.2 h⟩)
        have e1 := ynb (a := cls (bt l k)) (m := 2) (by omega)
        clear hin h2
        go_wp2
        go_round
        case rel => exact ⟨k + 1, by go_num, by omega, HN.out⟩
        case measure => simp [intOf]; omega
      · have e1 := nnb (a := cls (bt l k)) (m := 2) (by omega)
        by_cases hk00 : k = 0
        · have hle : isLetter (bt l 0) = false := by
            rw [hk00] at h2
            cases hh : isLetter (bt l 0)
            · rfl
            · exact absurd (cls_letter.2 hh) h2
          have HW := Lib.hid (word_no_letter hle)
          have e2 := yb (a := k) (m := 0) (by omega)
          clear h2 hle hk00
          go_wp2
          go_ret
          exact ⟨ret_bool HW.out.symm, HLh.out⟩
        · have e2 := nb (a := k) (m := 0) (by omega)
          by_cases hin : isInner (bt l k) = true
          · have HN := Lib.hid (show WordPre l (k + 1) from ⟨fun q hq => by
              rcases Nat.lt_or_ge q k with h | h
              · exact Hk.out.1 q h
              · rw [show q = k from by omega]; exact hin, fun _ => Hk.out.2 (by omega)⟩)
            by_cases h3 : cls (bt l k) = 3
            · have e3 := ynb (a := cls (bt l k)) (m := 3) (by omega)
              clear hin h2 h3 hk00
              go_wp2
              go_round
              case rel => exact ⟨k + 1, by go_num, by omega, HN.out⟩
              case measure => simp [intOf]; omega
            · have h95 : bt l k = 95 := by
                rcases inner_iff.1 hin with h | h | h
                · exact absurd h h2
                · exact absurd h h3
                · exact h
              have e3 := nnb (a := cls (bt l k)) (m := 3) (by omega)
              have e4 := ynb (a := bt l k) (m := 95) (by omega)
              clear hin h2 h3 h95 hk00
              go_wp2
              go_round
              case rel => exact ⟨k + 1, by go_num, by omega, HN.out⟩
              case measure => simp [intOf]; omega
          · have hno : isInner (bt l k) = false := by simpa using hin
            have HW := Lib.hid (word_no hlt hno)
            obtain ⟨q2, q3, q95⟩ := inner_not.1 hno
            have e3 := nnb (a := cls (bt l k)) (m := 3) (by omega)
            have e4 := nnb (a := bt l k) (m := 95) (by omega)
            clear hin h2 hno q2 q3 q95 hk00
            go_wp2
            go_ret
            exact ⟨ret_bool HW.out.symm, HLh.out⟩
    · by_cases hl0 : l = []
      · subst hl0
        have e1 : ([] : List UInt8).isEmpty = true := rfl
        go_wp2
        go_ret
        exact ⟨rfl, HLh.out⟩
      · have hpos : 0 < l.length := List.length_pos_iff.2 hl0
        have e1 : l.isEmpty = false := by simpa using hl0
        have HW := Lib.hid (word_yes hpos (Hk.out.2 (by omega)) (fun q hq => Hk.out.1 q (by omega)))
        clear hl0
        go_wp2
        go_ret
        exact ⟨ret_bool HW.out.symm, HLh.out⟩

theorem sign_index : ∀ n : Nat, n < 256 → Lib.contains [123, 125, 40, 41, 91, 93, 59, 44, 58, 47, 61, 60, 62] [UInt8.ofNat n] = isSignC n := by decide +kernel
theorem sign_contains {l : List UInt8} (h : l.length = 1) : Lib.contains [123, 125, 40, 41, 91, 93, 59, 44, 58, 47, 61, 60, 62] l = isSignC (bt l 0) := by
  match l, h with
  | [c], _ =>
    have := sign_index c.toNat (UInt8.toNat_lt c)
    simpa [bt] using this

theorem contains_any (a l : List UInt8) (b : Bool) (hb : Lib.contains a l = b) (m : Int) (w : World) (hm : w.cell? ⟨0, 0, none⟩ = some (.int .i64 m)) (ha : a.length < 4294967281) :
    Calls Tryz.prog 85 #[.string (bs a), .string (bs l)] w fun e w' => e = .returned (.bool b) ∧ w = w' :=
  (Tryz.strings_Contains (bs a) (bs l) m w ha hm).mono fun e w' ⟨he, hw⟩ => ⟨by rw [he, ← hb]; rfl, hw.symm⟩
def signsL : List UInt8 := [123, 125, 40, 41, 91, 93, 59, 44, 58, 47, 61, 60, 62]

set_option maxHeartbeats 1000000 in
theorem isSign_any (l : List UInt8) (m : Int) (w : World) (hm : w.cell? ⟨0, 0, none⟩ = some (.int .i64 m)) :
    Calls Tryz.prog 50 #[.string (bs l)] w fun e w' => e = .returned (.bool (signB l)) ∧ w = w' := by
  by_cases h1 : l.length = 1
  · have e1 : ((l.length : Int) == 1) = true := by rw [beq_iff_eq]; omega
    have ha : (l == [60, 61]) = false := by
      rw [beq_eq_false_iff_ne]; intro e; rw [e] at h1; simp at h1
    have hb : (l == [62, 61]) = false := by
      rw [beq_eq_false_iff_ne]; intro e; rw [e] at h1; simp at h1
    have H := Lib.hid (show signB l = isSignC (bt l 0) by unfold signB; rw [ha, hb, h1]; simp)
    have Hc := Lib.hid (sign_contains h1)
    clear h1
    by_cases hs : isSignC (bt l 0) = true
    · have Hs := Lib.hid hs
      clear hs
      go_enter Tryz.func50, Tryz.ntmps50
      go_wp2_with (go_at_call 85; refine (contains_any signsL l true (Hc.out.trans Hs.out) _ _ hm (by decide)).mono ?_; rintro e w' ⟨rfl, rfl⟩)
      go_ret
      exact ⟨ret_bool (by rw [H.out, Hs.out]), rfl⟩
    · have Hs := Lib.hid (show isSignC (bt l 0) = false by simpa using hs)
      clear hs
      go_enter Tryz.func50, Tryz.ntmps50
      go_wp2_with (go_at_call 85; refine (contains_any signsL l false (Hc.out.trans Hs.out) _ _ hm (by decide)).mono ?_; rintro e w' ⟨rfl, rfl⟩)
      go_ret
      exact ⟨ret_bool (by rw [H.out, Hs.out]), rfl⟩
  · have e1 : ((l.length : Int) == 1) = false := by rw [beq_eq_false_iff_ne]; omega
    have H := Lib.hid (show signB l = (l == [60, 61] || l == [62, 61]) by unfold signB; rw [show (l.length == 1) = false from by simpa using h1]; simp)
    clear h1
    by_cases ha : l = [60, 61]
    · have e2 : (l == [60, 61]) = true := by simp [ha]
      have H2 := Lib.hid e2
      clear ha
      go_enter Tryz.func50, Tryz.ntmps50
      go_wp2
      go_ret
      exact ⟨ret_bool (by rw [H.out, H2.out]; rfl), rfl⟩
    · have e2 : (l == [60, 61]) = false := by simp [ha]
      have H2 := Lib.hid e2
      clear ha
      go_enter Tryz.func50, Tryz.ntmps50
      go_wp2
      all_goals
        go_ret
        exact ⟨ret_bool (by rw [H.out, H2.out]; simp), rfl⟩

/-- The predicate of isText's function: a rune that can't be in a text. -/
def badRune (x : Nat) : Bool := x != 10 && (decide (x < 32) || decide (126 < x))
set_option maxHeartbeats 400000 in
theorem isText1_any (x : Nat) (hx : x ≤ 1114111) (w : World) : Calls Tryz.prog 87 #[.int .i32 (x : Int)] w fun e w' => e = .returned (.bool (badRune x)) ∧ w = w' := by
  have h0 : (0 : Int) ≤ (x : Int) := by omega
  have h1 : (x : Int) ≤ 1114111 := by omega
  go_enter Tryz.func87, Tryz.ntmps87
  go_wp2
  all_goals
    go_ret
    exact ⟨ret_bool (by rw [Bool.eq_iff_iff]; simp [badRune]; omega), rfl⟩

theorem bad_high {x : Nat} (h : 128 ≤ x) : badRune x = true := by simp [badRune]; omega
theorem idx_text (l : List UInt8) : ∀ (f pos : Nat), l.length ≤ pos + f → (0 ≤ Lib.idxFuncFrom badRune true (bs l) f pos ↔ ∃ q, pos ≤ q ∧ q < l.length ∧ badRune (bt l q) = true)
  | 0, pos, h => by
    simp only [Lib.idxFuncFrom]
    constructor
    · intro h; omega
    · rintro ⟨q, h1, h2, _⟩; omega
  | f + 1, pos, h => by
    have ih := idx_text l f (pos + 1) (by omega)
    unfold Lib.idxFuncFrom
    by_cases hp : pos < (bs l).size
    · rw [if_pos hp]
      have hp' : pos < l.length := hp
      have hg : ((bs l)[pos]'hp).toNat = bt l pos := bs_get l pos hp
      by_cases h128 : 128 ≤ bt l pos
      · have hd := (decode_high (bs l) pos hp (by rw [hg]; exact h128)).1
        rw [if_pos (bad_high hd)]
        constructor
        · intro _; exact ⟨pos, Nat.le_refl _, hp', bad_high h128⟩
        · intro _; omega
      · have hd := decode_ascii (bs l) pos hp (by rw [hg]; omega)
        rw [hd]
        simp only [hg]
        by_cases hb : badRune (bt l pos) = true
        · rw [if_pos hb]
          constructor
          · intro _; exact ⟨pos, Nat.le_refl _, hp', hb⟩
          · intro _; omega
        · rw [if_neg hb, ih]
          constructor
          · rintro ⟨q, h1, h2, h3⟩; exact ⟨q, by omega, h2, h3⟩
          · rintro ⟨q, h1, h2, h3⟩
            refine ⟨q, ?_, h2, h3⟩
            rcases Nat.eq_or_lt_of_le h1 with h4 | h4
            · subst h4; exact absurd h3 hb
            · exact h4
    · rw [if_neg hp]
      constructor
      · intro h; omega
      · rintro ⟨q, h1, h2, _⟩
        exact absurd (show pos < (bs l).size from by show pos < l.length; omega) hp
theorem textB_idx (l : List UInt8) : textB l = !decide (0 ≤ Lib.idxFunc badRune true (bs l)) := by
  have h := idx_text l (bs l).size 0 (by show l.length ≤ 0 + l.length; omega)
  have h2 := all_bt (fun c => c == 10 || (decide (32 ≤ c) && decide (c ≤ 126))) l
  unfold Lib.idxFunc
  by_cases hx : 0 ≤ Lib.idxFuncFrom badRune true (bs l) (bs l).size 0
  · rw [decide_eq_true hx]
    obtain ⟨q, _, hq, hb⟩ := h.1 hx
    cases ht : textB l
    · rfl
    · have := h2.1 ht q hq
      simp [badRune] at hb
      simp at this
      omega
  · rw [decide_eq_false hx]
    refine (h2.2 fun q hq => ?_).trans rfl
    cases hb : badRune (bt l q)
    · simp [badRune] at hb
      simp
      omega
    · exact absurd (h.2 ⟨q, Nat.zero_le _, hq, hb⟩) hx
set_option maxHeartbeats 400000 in
theorem isText_any (l : List UInt8) (w : World) :
    Calls Tryz.prog 51 #[.string (bs l)] w fun e w' => e = .returned (.bool (textB l)) ∧ Below w.heap.size w w' := by
  have hp : PredAtRunes Tryz.prog 87 #[] badRune w := fun W x hx _ => (isText1_any x hx W).mono fun e w' ⟨he, hw⟩ => ⟨he, 0, hw.symm⟩
  have hc := Tryz.strings_ContainsFunc_runes 87 #[] (enters_of Tryz.func87 (by kernel_rfl) rfl) badRune (bs l) w hp
  have hT := Lib.hid (textB_idx l)
  clear hp
  go_enter Tryz.func51, Tryz.ntmps51
  go_wp2_with fail
  refine hc.mono ?_
  rintro e w1 ⟨rfl, hb⟩
  clear hc
  go_wp2
  go_ret
  exact ⟨ret_bool hT.out.symm, hb⟩
end Go.Proofs.YtlgdmbdhffdenaaGreatDoor

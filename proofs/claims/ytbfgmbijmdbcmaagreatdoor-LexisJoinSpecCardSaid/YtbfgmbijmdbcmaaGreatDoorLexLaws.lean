/- Plain laws about the lexer's steps, for the walks. No program. -/
import Derived.Test.YtbfgmbijmdbcmaaGreatDoorLexSpec
namespace Go.Proofs.YtbfgmbijmdbcmaaGreatDoor
set_option linter.unusedVariables false
set_option linter.unusedSimpArgs false

theorem drop_cons (l : List UInt8) (a : Nat) (h : a < l.length) : ∃ c, c.toNat = bt l a ∧ l.drop a = c :: l.drop (a + 1) :=
  ⟨l[a], (bt_get l a h).symm, List.drop_eq_getElem_cons h⟩
theorem drop_ne (l : List UInt8) (a : Nat) (h : a < l.length) : l.drop a ≠ [] := by
  intro e
  have := congrArg List.length e
  simp at this
  omega
theorem drop_all (l : List UInt8) (a : Nat) (h : l.length ≤ a) : l.drop a = [] := List.drop_eq_nil_of_le h

/-- The way from a to b turns nothing in what is returned. -/
def Skips (l : List UInt8) (a b : Nat) : Prop := a ≤ b ∧ b ≤ l.length ∧ ∀ T P E, fin T P E a (items (l.drop a)) = fin T P E b (items (l.drop b))
theorem Skips.refl (l : List UInt8) (a : Nat) (h : a ≤ l.length) : Skips l a a := ⟨Nat.le_refl _, h, fun _ _ _ => rfl⟩
theorem Skips.trans {l : List UInt8} {a b c : Nat} (h : Skips l a b) (k : Skips l b c) : Skips l a c :=
  ⟨Nat.le_trans h.1 k.1, k.2.1, fun T P E => (h.2.2 T P E).trans (k.2.2 T P E)⟩
theorem skips_step (l : List UInt8) (a : Nat) (h : a < l.length) (hs : (stepItem (l.drop a)).kind = 6) (hl : a + (stepItem (l.drop a)).len ≤ l.length) : Skips l a (a + (stepItem (l.drop a)).len) := by
  refine ⟨by omega, hl, fun T P E => ?_⟩
  rw [items_cons _ (drop_ne l a h)]
  simp only [fin, hs, if_true, List.drop_drop]
theorem skips_blank (l : List UInt8) (a : Nat) (h : a < l.length) (hb : isBlankC (bt l a) = true) : Skips l a (a + 1) := by
  obtain ⟨c, hc, hd⟩ := drop_cons l a h
  have hs : stepItem (l.drop a) = ⟨6, [], 1⟩ := by rw [hd]; simp [stepItem, hc, hb]
  have := skips_step l a h (by rw [hs]) (by rw [hs]; show a + 1 ≤ _; omega)
  rw [hs] at this
  exact this
theorem lineLen_to (l : List UInt8) (a j : Nat) (haj : a ≤ j) (hj : j ≤ l.length) (hno : ∀ i, a ≤ i → i < j → ¬ bt l i = 10) (hend : j = l.length ∨ bt l j = 10) : lineLen (l.drop a) = j - a := by
  obtain ⟨d, rfl⟩ : ∃ d, j = a + d := ⟨j - a, by omega⟩
  induction d generalizing a with
  | zero =>
    rcases Nat.lt_or_ge a l.length with h | h
    · obtain ⟨c, hc, hd⟩ := drop_cons l a h
      have : bt l a = 10 := by
        rcases hend with h' | h'
        · simp at h'; omega
        · simpa using h'
      rw [hd]; simp [lineLen, hc, this]
    · rw [drop_all l a h]; simp [lineLen]
  | succ d ih =>
    obtain ⟨c, hc, hd⟩ := drop_cons l a (by omega)
    have h1 := hno a (Nat.le_refl _) (by omega)
    have h2 := ih (a + 1) (by omega) (by omega) (fun i h3 h4 => hno i (by omega) (by omega)) (by rw [show a + 1 + d = a + (d + 1) from by omega]; exact hend)
    rw [hd]
    simp only [lineLen, hc, if_neg h1, h2]
    omega
theorem skips_line (l : List UInt8) (a j : Nat) (h : a < l.length) (haj : a ≤ j) (hj : j ≤ l.length) (hb : isBlankC (bt l a) = false) (hc : bt l a = 35) (hno : ∀ i, a ≤ i → i < j → ¬ bt l i = 10)
    (hend : j = l.length ∨ bt l j = 10) : Skips l a j := by
  obtain ⟨c, hc', hd⟩ := drop_cons l a h
  have hs : stepItem (l.drop a) = ⟨6, [], lineLen (l.drop a)⟩ := by rw [hd]; simp [stepItem, hc', hc, isBlankC]
  have hl := lineLen_to l a j haj hj hno hend
  rw [hl] at hs
  have := skips_step l a h (by rw [hs]) (by rw [hs]; show a + (j - a) ≤ _; omega)
  rw [hs] at this
  have e : a + (j - a) = j := by omega
  simpa only [e] using this
/-- A byte that is neither white space nor the beginning of a comment. -/
def Solid (c : Nat) : Prop := isBlankC c = false ∧ ¬ c = 35
theorem step_solid (l : List UInt8) (a : Nat) (h : a < l.length) (hs : Solid (bt l a)) : stepItem (l.drop a) = nextItem (l.drop a) := by
  obtain ⟨c, hc, hd⟩ := drop_cons l a h
  rw [hd]
  simp [stepItem, hc, hs.1, hs.2]
theorem nextItem_kind (s : List UInt8) : (nextItem s).kind ≠ 6 := by
  unfold nextItem
  split
  · simp
  · split
    · simp
    · split
      · split <;> simp
      · split
        · split <;> simp
        · split
          · split <;> simp
          · simp

theorem runLen_to (l : List UInt8) (a j : Nat) (haj : a ≤ j) (hj : j ≤ l.length) (hyes : ∀ i, a ≤ i → i < j → isInner (bt l i) = true) (hend : j = l.length ∨ isInner (bt l j) = false) : runLen (l.drop a) = j - a := by
  obtain ⟨d, rfl⟩ : ∃ d, j = a + d := ⟨j - a, by omega⟩
  induction d generalizing a with
  | zero =>
    rcases Nat.lt_or_ge a l.length with h | h
    · obtain ⟨c, hc, hd⟩ := drop_cons l a h
      have : isInner (bt l a) = false := by
        rcases hend with h' | h'
        · simp at h'; omega
        · simpa using h'
      rw [hd]; simp [runLen, hc, this]
    · rw [drop_all l a h]; simp [runLen]
  | succ d ih =>
    obtain ⟨c, hc, hd⟩ := drop_cons l a (by omega)
    have h1 := hyes a (Nat.le_refl _) (by omega)
    have h2 := ih (a + 1) (by omega) (by omega) (fun i h3 h4 => hyes i (by omega) (by omega)) (by rw [show a + 1 + d = a + (d + 1) from by omega]; exact hend)
    rw [hd]
    simp only [runLen, hc, h1, if_true, h2]
    omega

theorem cls_letter {c : Nat} : cls c = 2 ↔ isLetter c = true := by
  unfold cls; split <;> rename_i h
  · simp [h]
  · simp only [h]; split
    · simp
    · split
      · simp
      · split <;> simp
theorem isDigit_not_letter {c : Nat} (h : isDigit c = true) : isLetter c = false := by
  simp [isDigit] at h
  simp [isLetter]
  omega
theorem cls_digit {c : Nat} : cls c = 3 ↔ isDigit c = true := by
  unfold cls; split <;> rename_i h
  · have : isDigit c = false := by
      cases hd : isDigit c
      · rfl
      · rw [isDigit_not_letter hd] at h; cases h
    simp [this]
  · split <;> rename_i h1
    · simp [h1]
    · simp only [h1]; split
      · simp
      · split <;> simp
theorem sign_other {c : Nat} (h : isSignC c = true) : isLetter c = false ∧ isDigit c = false := by
  simp [isSignC] at h
  rcases h with (((((((((((h | h) | h) | h) | h) | h) | h) | h) | h) | h) | h) | h) | h <;> subst h <;> exact ⟨rfl, rfl⟩
theorem blank_other {c : Nat} (h : isBlankC c = true) : isLetter c = false ∧ isDigit c = false ∧ isSignC c = false := by
  simp [isBlankC] at h
  rcases h with ((h | h) | h) | h <;> subst h <;> exact ⟨rfl, rfl, rfl⟩
theorem cls_sign {c : Nat} : cls c = 4 ↔ isSignC c = true := by
  constructor
  · intro h
    unfold cls at h
    split at h
    · simp at h
    · split at h
      · simp at h
      · split at h
        · assumption
        · split at h <;> simp at h
  · intro h
    simp [cls, h, sign_other h]
theorem cls_blank {c : Nat} : cls c = 1 ↔ isBlankC c = true := by
  constructor
  · intro h
    unfold cls at h
    split at h
    · simp at h
    · split at h
      · simp at h
      · split at h
        · simp at h
        · split at h
          · assumption
          · simp at h
  · intro h
    simp [cls, h, blank_other h]
theorem cls_lt (c : Nat) : cls c < 5 := by unfold cls; (repeat' split) <;> omega
theorem inner_iff {c : Nat} : isInner c = true ↔ cls c = 2 ∨ cls c = 3 ∨ c = 95 := by
  rw [cls_letter, cls_digit]
  simp [isInner, or_assoc]
theorem inner_not {c : Nat} : isInner c = false ↔ ¬ cls c = 2 ∧ ¬ cls c = 3 ∧ ¬ c = 95 := by
  have h := inner_iff (c := c)
  cases hi : isInner c
  · rw [hi] at h
    simp at h
    simp [h]
  · rw [hi] at h
    simp at h
    simp
    intro h2 h3
    rcases h with h | h | h
    · exact absurd h h2
    · exact absurd h h3
    · exact h
end Go.Proofs.YtbfgmbijmdbcmaaGreatDoor

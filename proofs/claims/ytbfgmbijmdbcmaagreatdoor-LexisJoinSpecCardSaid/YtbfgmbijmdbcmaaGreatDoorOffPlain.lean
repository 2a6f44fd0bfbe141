/- Plain laws: the offsets of the tokens and of the problems. No program. -/
import Derived.Test.YtbfgmbijmdbcmaaGreatDoorLexLen
namespace Go.Proofs.YtbfgmbijmdbcmaaGreatDoor
set_option linter.unusedVariables false
set_option linter.unusedSimpArgs false

theorem step_next (s : List UInt8) (h : (stepItem s).kind ≠ 6) : s ≠ [] ∧ stepItem s = nextItem s := by
  cases s with
  | nil => exact absurd rfl h
  | cons c r =>
    refine ⟨by simp, ?_⟩
    by_cases h1 : isBlankC c.toNat = true
    · simp [stepItem, h1] at h
    · by_cases h2 : c.toNat = 35
      · exfalso
        apply h
        unfold stepItem
        simp only
        rw [if_neg h1, if_pos h2]
      · unfold stepItem
        simp only
        rw [if_neg h1, if_neg h2]
theorem nextItem_good (c : UInt8) (r : List UInt8) : (nextItem (c :: r)).kind ≤ 4 ∧ ((nextItem (c :: r)).kind = 3 → c.toNat = 34) ∧
    ((nextItem (c :: r)).kind ≠ 3 → (nextItem (c :: r)).kind ≠ 0 → (nextItem (c :: r)).text = (c :: r).take (nextItem (c :: r)).len) := by
  unfold nextItem
  simp only
  split
  · simp
  · split
    · split <;> simp
    · split
      · split <;> simp
      · split
        · split <;> simp_all
        · simp

/-- A token fits the bytes at its offset. -/
def Fits (l : List UInt8) (t : Tok) : Prop := ∃ a : Nat, t.at_ = a ∧ a < l.length ∧ t.kind ≠ 5 ∧ (t.kind = 3 → bt l a = 34) ∧
  (t.kind ≠ 3 → 0 < t.text.length ∧ a + t.text.length ≤ l.length ∧ (l.drop a).take t.text.length = t.text)
theorem fits_next (l : List UInt8) (a : Nat) (h : a < l.length) (h0 : (nextItem (l.drop a)).kind ≠ 0) : Fits l ⟨(nextItem (l.drop a)).kind, (nextItem (l.drop a)).text, a⟩ := by
  have hlen := nextItem_len (l.drop a) (drop_ne l a h)
  have hpos := nextItem_pos (l.drop a)
  obtain ⟨c, hc, hd⟩ := drop_cons l a h
  have hg := nextItem_good c (l.drop (a + 1))
  rw [← hd] at hg
  generalize hi : nextItem (l.drop a) = i at *
  obtain ⟨g1, g2, g3⟩ := hg
  rw [List.length_drop] at hlen
  refine ⟨a, rfl, h, ?_, ?_, ?_⟩
  · show ((i.kind : Nat) : Int) ≠ 5
    omega
  · intro e
    have e' : ((i.kind : Nat) : Int) = 3 := e
    rw [← hc]
    exact g2 (by omega)
  · intro e
    have e' : ¬ ((i.kind : Nat) : Int) = 3 := e
    have ht := g3 (by omega) h0
    have hl : i.text.length = i.len := by rw [ht, List.length_take, List.length_drop]; omega
    show 0 < i.text.length ∧ a + i.text.length ≤ l.length ∧ (l.drop a).take i.text.length = i.text
    rw [hl]
    exact ⟨hpos, by omega, ht.symm⟩

/-- The tokens and the problems that were found up to an offset. -/
structure Inv (l : List UInt8) (T : List Tok) (P : List Prob) (a : Nat) : Prop where
  tok : ∀ t ∈ T, Fits l t ∧ t.at_ < a
  tinc : T.Pairwise fun x y => x.at_ < y.at_
  prob : ∀ p ∈ P, p.code = 60 ∧ 0 ≤ p.at_ ∧ p.at_ < l.length ∧ p.at_ < a
  pinc : P.Pairwise fun x y => x.at_ < y.at_
  dis : ∀ t ∈ T, ∀ p ∈ P, t.at_ ≠ p.at_
  pl : P.length ≤ 64
theorem Inv.more {l : List UInt8} {T : List Tok} {P : List Prob} {a b : Nat} (h : Inv l T P a) (hb : a ≤ b) : Inv l T P b :=
  ⟨fun t ht => ⟨(h.tok t ht).1, by have := (h.tok t ht).2; omega⟩, h.tinc, fun p hp => by obtain ⟨h1, h2, h3, h4⟩ := h.prob p hp; exact ⟨h1, h2, h3, by omega⟩, h.pinc, h.dis, h.pl⟩
theorem Inv.push {l : List UInt8} {T : List Tok} {P : List Prob} {a b : Nat} (h : Inv l T P a) (t : Tok) (hf : Fits l t) (ha : t.at_ = a) (hb : a < b) : Inv l (T ++ [t]) P b := by
  refine ⟨fun x hx => ?_, ?_, (h.more (Nat.le_of_lt hb)).prob, h.pinc, fun x hx p hp => ?_, h.pl⟩
  · rcases List.mem_append.1 hx with hx | hx
    · exact (h.more (Nat.le_of_lt hb)).tok x hx
    · obtain rfl := List.mem_singleton.1 hx
      exact ⟨hf, by omega⟩
  · rw [List.pairwise_append]
    refine ⟨h.tinc, List.pairwise_singleton _ _, fun x hx y hy => ?_⟩
    obtain rfl := List.mem_singleton.1 hy
    have := (h.tok x hx).2
    omega
  · rcases List.mem_append.1 hx with hx | hx
    · exact h.dis x hx p hp
    · obtain rfl := List.mem_singleton.1 hx
      have := (h.prob p hp).2.2.2
      omega
theorem Inv.pushP {l : List UInt8} {T : List Tok} {P : List Prob} {a b : Nat} (h : Inv l T P a) (hl : a < l.length) (hb : a < b) (hP : P.length < 64) : Inv l T (P ++ [⟨a, 60⟩]) b := by
  refine ⟨(h.more (Nat.le_of_lt hb)).tok, h.tinc, fun x hx => ?_, ?_, fun x hx p hp => ?_, by simp; omega⟩
  · rcases List.mem_append.1 hx with hx | hx
    · exact (h.more (Nat.le_of_lt hb)).prob x hx
    · obtain rfl := List.mem_singleton.1 hx
      exact ⟨rfl, by show (0 : Int) ≤ (a : Nat); omega, by show ((a : Nat) : Int) < _; omega, by show ((a : Nat) : Int) < _; omega⟩
  · rw [List.pairwise_append]
    refine ⟨h.pinc, List.pairwise_singleton _ _, fun x hx y hy => ?_⟩
    obtain rfl := List.mem_singleton.1 hy
    exact (h.prob x hx).2.2.2
  · rcases List.mem_append.1 hp with hp | hp
    · exact h.dis x hx p hp
    · obtain rfl := List.mem_singleton.1 hp
      have := (h.tok x hx).2
      show x.at_ ≠ ((a : Nat) : Int)
      omega
theorem fin_inv (l : List UInt8) : ∀ (d a : Nat) (T : List Tok) (P : List Prob) (E : Int), l.length - a ≤ d → a ≤ l.length → Inv l T P a →
    ∃ T' P', fin T P E a (items (l.drop a)) = (T' ++ [⟨5, [], l.length⟩], P') ∧ Inv l T' P' l.length := by
  intro d
  induction d with
  | zero =>
    intro a T P E hd ha hi
    have : a = l.length := by omega
    subst this
    exact ⟨T, P, by rw [drop_all l _ (Nat.le_refl _), items_nil]; rfl, hi⟩
  | succ d ih =>
    intro a T P E hd ha hi
    rcases Nat.eq_or_lt_of_le ha with rfl | hlt
    · exact ⟨T, P, by rw [drop_all l _ (Nat.le_refl _), items_nil]; rfl, hi⟩
    · have hpos := stepItem_pos (l.drop a)
      have hlen := stepItem_len (l.drop a) (drop_ne l a hlt)
      rw [List.length_drop] at hlen
      rw [items_cons _ (drop_ne l a hlt)]
      simp only [fin, List.drop_drop]
      by_cases h6 : (stepItem (l.drop a)).kind = 6
      · rw [if_pos h6]
        exact ih _ _ _ _ (by omega) (by omega) (hi.more (by omega))
      · rw [if_neg h6]
        obtain ⟨_, hs⟩ := step_next _ h6
        by_cases h0 : (stepItem (l.drop a)).kind = 0
        · rw [if_pos h0]
          refine ih _ _ _ _ (by omega) (by omega) ?_
          split
          · rename_i h
            exact hi.pushP hlt (by omega) h.2
          · exact hi.more (by omega)
        · rw [if_neg h0]
          refine ih _ _ _ _ (by omega) (by omega) (hi.push _ ?_ rfl (by omega))
          rw [hs] at h0 ⊢
          exact fits_next l a hlt h0
/-- The law on offsets, of the lexer in plain Lean. -/
theorem lex_inv (l : List UInt8) : ∃ T P, lex l = (T ++ [⟨5, [], l.length⟩], P) ∧ Inv l T P l.length := by
  have := fin_inv l l.length 0 [] [] (-1) (by omega) (Nat.zero_le _) ⟨by simp, List.Pairwise.nil, by simp, List.Pairwise.nil, by simp, by simp⟩
  simpa [lex] using this
end Go.Proofs.YtbfgmbijmdbcmaaGreatDoor

/- What lexis computes, in plain Lean, on lists of bytes. No program. -/
import Derived.Test.YtbfgmbijmdbcmaaGreatDoorWords
namespace Go.Proofs.YtbfgmbijmdbcmaaGreatDoor
set_option linter.unusedVariables false
set_option linter.unusedSimpArgs false

def isLetter (c : Nat) : Bool := decide ((97 ≤ c ∧ c ≤ 122) ∨ (65 ≤ c ∧ c ≤ 90))
def isDigit (c : Nat) : Bool := decide (48 ≤ c ∧ c ≤ 57)
def isInner (c : Nat) : Bool := isLetter c || isDigit c || c == 95
def isSignC (c : Nat) : Bool := c == 123 || c == 125 || c == 40 || c == 41 || c == 91 || c == 93 || c == 59 || c == 44 || c == 58 || c == 47 || c == 61 || c == 60 || c == 62
def isBlankC (c : Nat) : Bool := c == 32 || c == 9 || c == 10 || c == 13
/-- The class of a byte. -/
def cls (c : Nat) : Nat := if isLetter c then 2 else if isDigit c then 3 else if isSignC c then 4 else if isBlankC c then 1 else 0

structure Tok where
  kind : Int
  text : List UInt8
  at_ : Int
structure Prob where
  at_ : Int
  code : Int
/-- One step of the lexer: kind 6: bytes that are skipped; 0: invalid bytes; else a token; its length. -/
structure Item where
  kind : Nat
  text : List UInt8
  len : Nat

/-- The number of letters, digits and _ at the beginning. -/
def runLen : List UInt8 → Nat
  | [] => 0
  | c :: r => if isInner c.toNat then runLen r + 1 else 0
theorem runLen_le (s : List UInt8) : runLen s ≤ s.length := by
  induction s with
  | nil => simp [runLen]
  | cons c r ih => unfold runLen; split <;> simp <;> omega
/-- The number of bytes up to the next byte 10. -/
def lineLen : List UInt8 → Nat
  | [] => 0
  | c :: r => if c.toNat = 10 then 0 else lineLen r + 1
theorem lineLen_le (s : List UInt8) : lineLen s ≤ s.length := by
  induction s with
  | nil => simp [lineLen]
  | cons c r ih => unfold lineLen; split <;> simp <;> omega

/-- A word. -/
def wordB (s : List UInt8) : Bool := !s.isEmpty && isLetter (bt s 0) && s.all fun c => isInner c.toNat
/-- Digits alone, one to 18, the first not 0. -/
def numB (s : List UInt8) : Bool := !s.isEmpty && decide (s.length ≤ 18) && (bt s 0 != 48) && s.all fun c => isDigit c.toNat
/-- An integer. -/
def intB (s : List UInt8) : Bool := s == [48] || (if bt s 0 = 45 then numB (s.drop 1) else numB s)
/-- A sign. -/
def signB (s : List UInt8) : Bool := (s.length == 1 && isSignC (bt s 0)) || s == [60, 61] || s == [62, 61]
/-- What can be quoted. -/
def textB (s : List UInt8) : Bool := s.all fun c => c.toNat == 10 || (decide (32 ≤ c.toNat) && decide (c.toNat ≤ 126))

/-- The contents up to the closing quote, and the number of bytes with it. -/
def qscan : List UInt8 → Option (List UInt8 × Nat)
  | [] => none
  | c :: r =>
    if c.toNat = 34 then some ([], 1)
    else if c.toNat < 32 ∨ 126 < c.toNat then none
    else if c.toNat ≠ 92 then (qscan r).map fun x => (c :: x.1, x.2 + 1)
    else match r with
      | [] => none
      | d :: r' =>
        if d.toNat = 34 ∨ d.toNat = 92 then (qscan r').map fun x => (d :: x.1, x.2 + 2)
        else if d.toNat = 110 then (qscan r').map fun x => (10 :: x.1, x.2 + 2)
        else none

/-- The token, or the invalid bytes, at the beginning of bytes that are neither white space nor a comment. -/
def nextItem : List UInt8 → Item
  | [] => ⟨0, [], 1⟩
  | c :: r =>
    if isLetter c.toNat then ⟨1, (c :: r).take (runLen (c :: r)), runLen (c :: r)⟩
    else if isDigit c.toNat || (c.toNat == 45 && isDigit (bt r 0)) then
      if intB ((c :: r).take (runLen r + 1)) then ⟨2, (c :: r).take (runLen r + 1), runLen r + 1⟩ else ⟨0, [], runLen r + 1⟩
    else if isSignC c.toNat then
      if (c.toNat == 60 || c.toNat == 62) && bt r 0 == 61 then ⟨4, (c :: r).take 2, 2⟩ else ⟨4, [c], 1⟩
    else if c.toNat = 34 then
      match qscan r with
      | some x => ⟨3, x.1, x.2 + 1⟩
      | none => ⟨0, [], 1⟩
    else ⟨0, [], 1⟩

/-- One step of the lexer. -/
def stepItem : List UInt8 → Item
  | [] => ⟨6, [], 1⟩
  | c :: r =>
    if isBlankC c.toNat then ⟨6, [], 1⟩
    else if c.toNat = 35 then ⟨6, [], lineLen (c :: r)⟩
    else nextItem (c :: r)

theorem nextItem_pos (s : List UInt8) : 0 < (nextItem s).len := by
  unfold nextItem
  split
  · simp
  · rename_i c r
    split
    · rename_i h
      have : isInner c.toNat = true := by simp [isInner, h]
      simp [runLen, this]
    · split
      · split <;> simp
      · split
        · split <;> simp
        · split
          · split <;> simp
          · simp
theorem stepItem_pos (s : List UInt8) : 0 < (stepItem s).len := by
  unfold stepItem
  split
  · simp
  · rename_i c r
    split
    · simp
    · split
      · rename_i h
        have : ¬ c.toNat = 10 := by omega
        simp [lineLen, this]
      · exact nextItem_pos _


def items (s : List UInt8) : List Item :=
  if h : s = [] then [] else stepItem s :: items (s.drop (stepItem s).len)
termination_by s.length
decreasing_by
  have := stepItem_pos s
  have : 0 < s.length := List.length_pos_iff.2 h
  rw [List.length_drop]
  omega

theorem items_nil : items [] = [] := by rw [items]; simp
theorem items_cons (s : List UInt8) (h : s ≠ []) : items s = stepItem s :: items (s.drop (stepItem s).len) := by
  rw [items]; simp [h]

/-- What is returned for the steps that are left. -/
def fin (T : List Tok) (P : List Prob) (E : Int) (at_ : Nat) : List Item → List Tok × List Prob
  | [] => (T ++ [⟨5, [], at_⟩], P)
  | i :: r =>
    if i.kind = 6 then fin T P E (at_ + i.len) r
    else if i.kind = 0 then fin T (if (at_ : Int) ≠ E ∧ P.length < 64 then P ++ [⟨at_, 60⟩] else P) ((at_ + i.len : Nat) : Int) (at_ + i.len) r
    else fin (T ++ [⟨i.kind, i.text, at_⟩]) P E (at_ + i.len) r
/-- The tokens and the problems of a text. -/
def lex (l : List UInt8) : List Tok × List Prob := fin [] [] (-1) 0 (items l)

end Go.Proofs.YtbfgmbijmdbcmaaGreatDoor

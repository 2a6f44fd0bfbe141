/- Words of my own for memory: a slice that reads as a list of cells; bytes as values; small lemmas. No program. -/
import Derived.WalkKit
import Derived.WalkSpells
import Derived.WalkLawsBesides
import Derived.Lib.Hide
import Derived.Lib.Strings
import Derived.Handy
import Derived.Lib.IndexMore
namespace Go.Proofs.YticpjdjdimpglaaGreatDoor
set_option linter.unusedVariables false
set_option linter.unusedSimpArgs false
open Go.RowKit
/-- A byte as a value. -/
def vb (b : UInt8) : Value := .int .u8 (b.toNat : Int)
/-- The slice value '.slice A n c' holds the cells xs ('size' cells an element), in a block below B. -/
structure Rd (w : World) (B size : Nat) (A : Option Addr) (n c : Nat) (xs : List Value) : Prop where
  len : xs.length = n * size
  cap : n ≤ c
  big : c ≤ 9223372036854775807
  cells : 0 < n → ∃ b off, A = some ⟨b, off, none⟩ ∧ b < B ∧ ∀ j u, xs[j]? = some u → w.cell? ⟨b, off + j, none⟩ = some u
section
variable {w w' : World} {B B' size n c : Nat} {A : Option Addr} {xs : List Value}
theorem Rd.keep (h : Rd w B size A n c xs) (hk : ∀ p : Addr, p.block < B → w'.cell? p = w.cell? p) : Rd w' B size A n c xs :=
  ⟨h.len, h.cap, h.big, fun hn => by
    obtain ⟨b, off, e, hb, hc⟩ := h.cells hn
    exact ⟨b, off, e, hb, fun j u hu => (hk _ hb).trans (hc j u hu)⟩⟩
theorem Rd.more (h : Rd w B size A n c xs) (hB : B ≤ B') : Rd w B' size A n c xs :=
  ⟨h.len, h.cap, h.big, fun hn => by
    obtain ⟨b, off, e, hb, hc⟩ := h.cells hn
    exact ⟨b, off, e, by omega, hc⟩⟩
theorem Rd.below (h : Rd w B size A n c xs) (hb : Below B w w') : Rd w' B size A n c xs := h.keep fun _ hp => hb.cell hp
theorem Rd.nil : Rd w B size none 0 0 [] := ⟨by simp, by omega, by omega, fun h => absurd h (by omega)⟩
/-- Element k of a slice of one-cell elements. -/
theorem Rd.one {k : Nat} (h : Rd w B 1 A n c xs) (hk : k < n) : ∃ b off u, A = some ⟨b, off, none⟩ ∧ b < B ∧ xs[k]? = some u ∧ w.cell? ⟨b, off + k, none⟩ = some u := by
  obtain ⟨b, off, e, hb, hc⟩ := h.cells (by omega)
  have hl : k < xs.length := by have := h.len; omega
  exact ⟨b, off, xs[k], e, hb, List.getElem?_eq_getElem hl, hc k _ (List.getElem?_eq_getElem hl)⟩
/-- Byte k of a list of bytes, as a number (a plain definition: the walk leaves it as it stands). -/
def bt (l : List UInt8) (k : Nat) : Nat := (l.getD k 0).toNat
theorem bt_lt (l : List UInt8) (k : Nat) : bt l k < 256 := UInt8.toNat_lt _
theorem bt_get (l : List UInt8) (k : Nat) (h : k < l.length) : bt l k = l[k].toNat := by simp [bt, h]
theorem bt_cons_succ (a : UInt8) (l : List UInt8) (k : Nat) : bt (a :: l) (k + 1) = bt l k := by simp [bt]
theorem bt_drop (l : List UInt8) (i k : Nat) : bt (l.drop i) k = bt l (i + k) := by simp [bt]
/-- Byte k of a slice. -/
theorem Rd.byte {l : List UInt8} {k : Nat} (h : Rd w B 1 A n c (l.map vb)) (hk : k < n) : ∃ b off, A = some ⟨b, off, none⟩ ∧ b < B ∧ w.cell? ⟨b, off + k, none⟩ = some (.int .u8 (bt l k : Int)) := by
  obtain ⟨b, off, u, e, hb, hu, hc⟩ := h.one hk
  refine ⟨b, off, e, hb, ?_⟩
  have hl : k < l.length := by have := h.len; simp at this; omega
  rw [hc]
  simp [hl, vb] at hu
  simp [bt, hl, ← hu]
theorem Rd.blen {l : List UInt8} (h : Rd w B 1 A n c (l.map vb)) : l.length = n := by have := h.len; simpa using this
end
/-- A block that is known whole, none of it frozen. -/
def Blk (w : World) (g : Nat) (t : TypeId) (cs : Array Value) : Prop := w.heap[g]? = some (.cells cs t (0, 0))
section
variable {w w' : World} {g : Nat} {t : TypeId} {cs : Array Value}
theorem Blk.lt (h : Blk w g t cs) : g < w.heap.size := by
  rcases Nat.lt_or_ge g w.heap.size with hlt | hge
  · exact hlt
  · unfold Blk at h; rw [Array.getElem?_eq_none hge] at h; cases h
theorem Blk.cell (h : Blk w g t cs) (i : Nat) : w.cell? ⟨g, i, none⟩ = cs[i]? := cell_of_row w g i cs t (0, 0) h
theorem Blk.frozen (h : Blk w g t cs) (i : Nat) : w.frozen? ⟨g, i, none⟩ = false := by
  unfold Blk at h
  simp [World.frozen?, h]
theorem Blk.new (w : World) (t : TypeId) (cs : Array Value) : Blk (w.alloc (.cells cs t)) w.heap.size t cs := heap_alloc_new w _
theorem Blk.drewN (h : Blk w g t cs) (n : Nat) : Blk (w.drewN n) g t cs := h
theorem Blk.alloc (h : Blk w g t cs) (o : Obj) : Blk (w.alloc o) g t cs := (Below.heap_alloc w o g h.lt).trans h
theorem Blk.set (h : Blk w g t cs) (i : Nat) (u : Value) : Blk (w.setCell ⟨g, i, none⟩ u) g t (cs.setIfInBounds i u) := by
  unfold Blk at h ⊢
  simp [World.setCell, Array.getElem?_modify, h]
theorem Blk.far (h : Blk w g t cs) {p : Addr} (hp : g ≠ p.block) (u : Value) : Blk (w.setCell p u) g t cs := (Below.heap_setCell w p u g hp).trans h
theorem Blk.below {B : Nat} (h : Blk w g t cs) (hb : Below B w w') (hg : g < B) : Blk w' g t cs := (hb.block g hg).trans h
theorem Blk.grown {row : Option Nat} (h : Blk w g t cs) (hb : w.grownBy w' row) (hg : some g ≠ row) : Blk w' g t cs := (hb.block g h.lt hg).trans h
theorem Blk.ne {g' : Nat} {t' : TypeId} {cs' : Array Value} (h : Blk w g t cs) (h' : Blk w g' t' cs') (hne : t ≠ t') : g ≠ g' := by
  rintro rfl
  unfold Blk at h h'
  rw [h] at h'
  injection h' with h'
  injection h' with _ ht
  exact hne ht
end
/-- A string out of bytes. -/
def bs (l : List UInt8) : ByteArray := ⟨l.toArray⟩
theorem bs_data (l : List UInt8) : (bs l).data.toList = l := rfl
theorem bs_size (l : List UInt8) : (bs l).size = l.length := rfl
@[go_sem] theorem bs_toList (l : List UInt8) : (bs l).toList = l := by
  rw [Lib.toList_data]
  rfl
@[go_sem] theorem bs_size_sem (l : List UInt8) : (bs l).size = l.length := rfl
@[go_sem] theorem bs_get (l : List UInt8) (k : Nat) (h : k < (bs l).size) : ((bs l)[k]'h).toNat = bt l k := by
  rw [bt_get l k h]
  rfl
section
variable {w w' : World} {B size n c : Nat} {A : Option Addr} {xs : List Value}
theorem Rd.drewN (h : Rd w B size A n c xs) (k : Nat) : Rd (w.drewN k) B size A n c xs := h.keep fun _ _ => rfl
theorem Rd.drew (h : Rd w B size A n c xs) : Rd w.drew B size A n c xs := h.keep fun _ _ => rfl
theorem Rd.alloc (h : Rd w B size A n c xs) (hB : B ≤ w.heap.size) (o : Obj) : Rd (w.alloc o) B size A n c xs := h.keep fun p hp => World.cell?_alloc_lt w o p (by omega)
theorem Rd.setCell (h : Rd w B size A n c xs) {p : Addr} (hB : B ≤ p.block) (u : Value) : Rd (w.setCell p u) B size A n c xs :=
  h.keep fun q hq => World.cell?_setCell_other w p q u (fun e => by subst e; omega)
/-- A piece of a slice of bytes. -/
theorem Rd.sub {l : List UInt8} {b off lo hi : Nat} (h : Rd w B 1 (some ⟨b, off, none⟩) n c (l.map vb)) (h1 : lo ≤ hi) (h2 : hi ≤ n) :
    Rd w B 1 (some ⟨b, off + lo, none⟩) (hi - lo) (c - lo) (((l.drop lo).take (hi - lo)).map vb) := by
  have hl := h.blen
  refine ⟨by simp; omega, by have := h.cap; omega, by have := h.big; omega, fun hn => ?_⟩
  obtain ⟨b', off', e, hb, hc⟩ := h.cells (by omega)
  injection e with e
  injection e with e1 e2
  subst e1 e2
  refine ⟨b, off + lo, rfl, hb, fun j u hj => ?_⟩
  rw [Nat.add_assoc]
  apply hc
  have hj2 : j < hi - lo := by
    rcases Nat.lt_or_ge j (hi - lo) with h3 | h3
    · exact h3
    · rw [List.getElem?_eq_none (by simp; omega)] at hj; cases hj
  simpa [List.getElem?_map, List.getElem?_take, hj2, List.getElem?_drop] using hj
theorem vb_get (l : List UInt8) (i : Nat) (h : i < l.length) : (l.map vb)[i]? = some (.int .u8 ((l.map fun c => (c.toNat : Int)).getD i 0)) := by
  simp [h, vb]
/-- string(b). -/
theorem Rd.conv {P : Program} {l : List UInt8} {src dst e : TypeId} (h : Rd w B 1 A n c (l.map vb)) (hs : P.underlying src = some (.slice e)) (he : P.underlying e = some (.int .u8)) (hd : P.underlying dst = some .string) (cap : Nat) :
    (convert src dst (.slice A n cap)).run P w = .ok (.string (bs l)) w := by
  have hl := h.blen
  rcases Nat.eq_zero_or_pos n with h0 | h0
  · have hl0 : l = [] := List.eq_nil_of_length_eq_zero (by omega)
    subst hl0 h0
    rcases A with _ | ⟨b, off, spot⟩
    · exact run_convert_bytes_nil w src e hs he _ _ dst hd
    · rw [run_convert_bytes_string w src dst e _ 0 cap hs he hd]
      simp [Conv.bytesToString, loadCells, loadCellsFrom, bs]
      rfl
  · obtain ⟨b, off, rfl, hb, hc⟩ := h.cells h0
    have := run_convert_bytes_arg (P := P) w src e hs he b off n cap (l.map fun c => (c.toNat : Int)) (by simpa using hl) (fun i hi => by
      apply hc
      rw [vb_get l i (by omega)]) dst hd
    rw [this]
    congr 1
    congr 1
    simp [strOfNums, bs]
    apply List.map_id''
    intro c
    simp
end
/-- A test's outcome, as the walk spells it. -/
theorem nb {a : Nat} {m : Int} (h : ¬ (a : Int) = m) : ((a : Int) == m) = false := by simpa using h
theorem yb {a : Nat} {m : Int} (h : (a : Int) = m) : ((a : Int) == m) = true := by simpa using h
theorem nnb {a : Nat} {m : Int} (h : ¬ (a : Int) = m) : ((a : Int) != m) = true := by simpa using h
theorem ynb {a : Nat} {m : Int} (h : (a : Int) = m) : ((a : Int) != m) = false := by simpa using h
theorem ret_int {k : IntKind} {a b : Int} (h : a = b) : Ending.returned (.int k a) = .returned (.int k b) := by rw [h]
theorem ret_bool {a b : Bool} (h : a = b) : Ending.returned (.bool a) = .returned (.bool b) := by rw [h]
end Go.Proofs.YticpjdjdimpglaaGreatDoor
/- What lexis computes, in plain Lean, on lists of bytes. No program. -/
namespace Go.Proofs.YticpjdjdimpglaaGreatDoor
set_option linter.unusedVariables false
set_option linter.unusedSimpArgs false
def isLetter (c : Nat) : Bool := decide ((97 ≤ c ∧ c ≤ 122) ∨ (65 ≤ c ∧ c ≤ 90))
def isDigit (c : Nat) : Bool := decide (48 ≤ c ∧ c ≤ 57)
def isInner (c : Nat) : Bool := isLetter c || isDigit c || c == 95
def isSignC (c : Nat) : Bool := c == 123 || c == 125 || c == 40 || c == 41 || c == 91 || c == 93 || c == 59 || c == 44 || c == 58 || c == 47 || c == 61 || c == 60 || c == 62
def isBlankC (c : Nat) : Bool := c == 32 || c == 9 || c == 10 || c == 13
/-- The class of a byte. -/
def cls (c : Nat) : Nat := if isLetter c then 2 else if isDigit c then 3 else if isSignC c then 4 else if isBlankC c then 1 else 0
structure Tok where
  kind : Int
  text : List UInt8
  at_ : Int
structure Prob where
  at_ : Int
  code : Int
/-- One step of the lexer: kind 6: bytes that are skipped; 0: invalid bytes; else a token; its length. -/
structure Item where
  kind : Nat
  text : List UInt8
  len : Nat
/-- The number of letters, digits and _ at the beginning. -/
def runLen : List UInt8 → Nat
  | [] => 0
  | c :: r => if isInner c.toNat then runLen r + 1 else 0
/-- The number of bytes up to the next byte 10. -/
def lineLen : List UInt8 → Nat
  | [] => 0
  | c :: r => if c.toNat = 10 then 0 else lineLen r + 1
/-- A word. -/
def wordB (s : List UInt8) : Bool := !s.isEmpty && isLetter (bt s 0) && s.all fun c => isInner c.toNat
/-- Digits alone, one to 18, the first not 0. -/
def numB (s : List UInt8) : Bool := !s.isEmpty && decide (s.length ≤ 18) && (bt s 0 != 48) && s.all fun c => isDigit c.toNat
/-- An integer. -/
def intB (s : List UInt8) : Bool := s == [48] || (if bt s 0 = 45 then numB (s.drop 1) else numB s)
/-- The contents up to the closing quote, and the number of bytes with it. -/
def qscan : List UInt8 → Option (List UInt8 × Nat)
  | [] => none
  | c :: r =>
    if c.toNat = 34 then some ([], 1)
    else if c.toNat < 32 ∨ 126 < c.toNat then none
    else if c.toNat ≠ 92 then (qscan r).map fun x => (c :: x.1, x.2 + 1)
    else match r with
      | [] => none
      | d :: r' =>
        if d.toNat = 34 ∨ d.toNat = 92 then (qscan r').map fun x => (d :: x.1, x.2 + 2)
        else if d.toNat = 110 then (qscan r').map fun x => (10 :: x.1, x.2 + 2)
        else none
/-- The token, or the invalid bytes, at the beginning of bytes that are neither white space nor a comment. -/
def nextItem : List UInt8 → Item
  | [] => ⟨0, [], 1⟩
  | c :: r =>
    if isLetter c.toNat then ⟨1, (c :: r).take (runLen (c :: r)), runLen (c :: r)⟩
    else if isDigit c.toNat || (c.toNat == 45 && isDigit (bt r 0)) then
      if intB ((c :: r).take (runLen r + 1)) then ⟨2, (c :: r).take (runLen r + 1), runLen r + 1⟩ else ⟨0, [], runLen r + 1⟩
    else if isSignC c.toNat then
      if (c.toNat == 60 || c.toNat == 62) && bt r 0 == 61 then ⟨4, (c :: r).take 2, 2⟩ else ⟨4, [c], 1⟩
    else if c.toNat = 34 then
      match qscan r with
      | some x => ⟨3, x.1, x.2 + 1⟩
      | none => ⟨0, [], 1⟩
    else ⟨0, [], 1⟩
/-- One step of the lexer. -/
def stepItem : List UInt8 → Item
  | [] => ⟨6, [], 1⟩
  | c :: r =>
    if isBlankC c.toNat then ⟨6, [], 1⟩
    else if c.toNat = 35 then ⟨6, [], lineLen (c :: r)⟩
    else nextItem (c :: r)
theorem nextItem_pos (s : List UInt8) : 0 < (nextItem s).len := by
  unfold nextItem
  split
  · simp
  · rename_i c r
    split
    · rename_i h
      have : isInner c.toNat = true := by simp [isInner, h]
      simp [runLen, this]
    · split
      · split <;> simp
      · split
        · split <;> simp
        · split
          · split <;> simp
          · simp
theorem stepItem_pos (s : List UInt8) : 0 < (stepItem s).len := by
  unfold stepItem
  split
  · simp
  · rename_i c r
    split
    · simp
    · split
      · rename_i h
        have : ¬ c.toNat = 10 := by omega
        simp [lineLen, this]
      · exact nextItem_pos _
def items (s : List UInt8) : List Item :=
  if h : s = [] then [] else stepItem s :: items (s.drop (stepItem s).len)
termination_by s.length
decreasing_by
  have := stepItem_pos s
  have : 0 < s.length := List.length_pos_iff.2 h
  rw [List.length_drop]
  omega
theorem items_cons (s : List UInt8) (h : s ≠ []) : items s = stepItem s :: items (s.drop (stepItem s).len) := by
  rw [items]; simp [h]
/-- What is returned for the steps that are left. -/
def fin (T : List Tok) (P : List Prob) (E : Int) (at_ : Nat) : List Item → List Tok × List Prob
  | [] => (T ++ [⟨5, [], at_⟩], P)
  | i :: r =>
    if i.kind = 6 then fin T P E (at_ + i.len) r
    else if i.kind = 0 then fin T (if (at_ : Int) ≠ E ∧ P.length < 64 then P ++ [⟨at_, 60⟩] else P) ((at_ + i.len : Nat) : Int) (at_ + i.len) r
    else fin (T ++ [⟨i.kind, i.text, at_⟩]) P E (at_ + i.len) r
end Go.Proofs.YticpjdjdimpglaaGreatDoor
/- The keywords in plain Lean. No program. -/
namespace Go.Proofs.YticpjdjdimpglaaGreatDoor
set_option linter.unusedVariables false
set_option linter.unusedSimpArgs false
open Go.RowKit
/-- The words of the keywords, as the program's constant has them. -/
def wordsL : List UInt8 := (([32, 114, 117, 108, 101, 115, 32, 119, 105, 110, 32, 100, 114, 97, 119, 32, 108, 111, 115, 115, 32, 111, 114, 100, 101, 114, 32, 122, 111, 110, 101, 115].append [32, 116, 111, 32, 105, 102, 32, 101, 108, 115, 101, 32, 97, 110, 100, 32, 111, 114, 32, 110, 111, 116, 32, 116, 105, 101, 100, 32, 114, 111, 117, 110, 100]).append ([32, 102, 105, 110, 105, 115, 104, 101, 100, 32, 99, 108, 117, 98, 115, 32, 112, 111, 105, 110, 116, 115, 32, 100, 105, 102, 102, 101, 114, 101, 110, 99].append [101, 32, 103, 111, 97, 108, 115, 32, 119, 105, 110, 115, 32, 97, 119, 97, 121, 32, 102, 97, 105, 114, 32, 104, 101, 97, 100, 32, 108, 111, 116, 115, 32]))
/-- A list of bytes cut at spaces. -/
def cuts : List UInt8 → List (List UInt8)
  | [] => [[]]
  | c :: r => if c = 32 then [] :: cuts r else match cuts r with | [] => [[c]] | x :: xs => (c :: x) :: xs
/-- The keywords. -/
def kws : List (List UInt8) := (cuts wordsL).filter fun x => !x.isEmpty
/-- Is it a keyword? -/
def kwB (l : List UInt8) : Bool := kws.contains l
theorem str_sp (l : List UInt8) : (({ data := #[32] } : ByteArray) ++ bs l ++ { data := #[32] }) = bs (32 :: l ++ [32]) := by
  apply ByteArray.ext
  simp [bs]
/-- An occurrence begins at some place. -/
theorem contains_iff (s sub : List UInt8) : Lib.contains s sub = true ↔ ∃ i, i ≤ s.length ∧ sub.isPrefixOf (s.drop i) = true := by
  unfold Lib.contains
  rw [decide_eq_true_iff]
  induction s with
  | nil =>
    unfold Lib.index
    cases sub with
    | nil => simp
    | cons a sub => simp
  | cons b s ih =>
    unfold Lib.index
    by_cases hp : sub.isPrefixOf (b :: s) = true
    · rw [if_pos hp]
      constructor
      · intro _; exact ⟨0, Nat.zero_le _, hp⟩
      · intro _; omega
    · rw [if_neg hp]
      have h1 : (∃ i, i ≤ (b :: s).length ∧ sub.isPrefixOf ((b :: s).drop i) = true) ↔ ∃ i, i ≤ s.length ∧ sub.isPrefixOf (s.drop i) = true := by
        constructor
        · rintro ⟨i, hi, h⟩
          cases i with
          | zero => exact absurd h hp
          | succ i => exact ⟨i, by simpa using hi, h⟩
        · rintro ⟨i, hi, h⟩
          exact ⟨i + 1, by simpa using hi, h⟩
      rw [h1, ← ih]
      have hge := Lib.index_ge s sub
      by_cases hm : (Lib.index s sub == -1) = true
      · rw [if_pos hm]
        have : Lib.index s sub = -1 := by simpa using hm
        omega
      · rw [if_neg hm]
        have : ¬ Lib.index s sub = -1 := by simpa using hm
        omega
/-- What stands between the space at place i and the next. -/
def wordAt (s : List UInt8) (i : Nat) : List UInt8 := (s.drop (i + 1)).takeWhile (· != 32)
theorem words_all : ∀ i, i ≤ wordsL.length → bt wordsL i = 32 → ¬ wordAt wordsL i = [] → wordAt wordsL i ∈ kws := by decide +kernel
theorem kws_in : ∀ x ∈ kws, Lib.contains wordsL (32 :: x ++ [32]) = true ∧ wordB x = true := by decide +kernel
theorem prefix_word {l r : List UInt8} (hl : ∀ c ∈ l, c ≠ 32) (h : (l ++ [32]).isPrefixOf r = true) : r.takeWhile (· != 32) = l := by
  rw [List.isPrefixOf_iff_prefix] at h
  obtain ⟨t, rfl⟩ := h
  induction l with
  | nil => simp
  | cons a l ih =>
    have ha := hl a (by simp)
    have := ih (fun c hc => hl c (by simp [hc]))
    simp only [List.cons_append, List.takeWhile_cons]
    rw [if_pos (by simpa using ha)]
    congr 1
theorem kw_eq (l : List UInt8) : (wordB l && Lib.contains wordsL (32 :: l ++ [32])) = kwB l := by
  unfold kwB
  rw [Bool.eq_iff_iff, Bool.and_eq_true, List.contains_iff_mem]
  constructor
  · rintro ⟨hw, hc⟩
    rw [contains_iff] at hc
    obtain ⟨i, hi, hp⟩ := hc
    have hne : l ≠ [] := by rintro rfl; cases hw
    have hsp : ∀ c ∈ l, c ≠ 32 := by
      intro c hc e
      unfold wordB at hw
      rw [Bool.and_eq_true] at hw
      have := List.all_eq_true.1 hw.2 c hc
      subst e
      cases this
    have h2 : bt wordsL i = 32 ∧ (l ++ [32]).isPrefixOf (wordsL.drop (i + 1)) = true := by
      cases hd : wordsL.drop i with
      | nil => rw [hd] at hp; cases hp
      | cons a r =>
        rw [hd, List.cons_append, List.isPrefixOf_cons_cons, Bool.and_eq_true] at hp
        have h3 : wordsL.drop (i + 1) = r := by
          have := congrArg (List.drop 1) hd
          simpa [List.drop_drop] using this
        rw [h3]
        have h4 : bt wordsL i = a.toNat := by
          have := bt_drop wordsL i 0
          rw [hd, Nat.add_zero] at this
          rw [← this]
          rfl
        refine ⟨?_, hp.2⟩
        rw [h4, ← beq_iff_eq.1 hp.1]
        rfl
    have h3 : wordAt wordsL i = l := prefix_word hsp h2.2
    have := words_all i hi h2.1 (by rw [h3]; exact hne)
    rwa [h3] at this
  · intro h
    have := kws_in l h
    exact ⟨this.2, this.1⟩
end Go.Proofs.YticpjdjdimpglaaGreatDoor
/- The parser of chapter 13 in plain Lean: on a list of tokens and an offset. No program. -/
namespace Go.Proofs.YticpjdjdimpglaaGreatDoor
set_option linter.unusedVariables false
set_option linter.unusedSimpArgs false
abbrev kRules : List UInt8 := [114, 117, 108, 101, 115]
abbrev kWin : List UInt8 := [119, 105, 110]
abbrev kDraw : List UInt8 := [100, 114, 97, 119]
abbrev kLoss : List UInt8 := [108, 111, 115, 115]
abbrev kOrder : List UInt8 := [111, 114, 100, 101, 114]
abbrev kZones : List UInt8 := [122, 111, 110, 101, 115]
abbrev kTied : List UInt8 := [116, 105, 101, 100]
abbrev kRound : List UInt8 := [114, 111, 117, 110, 100]
abbrev kFin : List UInt8 := [102, 105, 110, 105, 115, 104, 101, 100]
abbrev kClubs : List UInt8 := [99, 108, 117, 98, 115]
abbrev kPoints : List UInt8 := [112, 111, 105, 110, 116, 115]
abbrev kDiff : List UInt8 := [100, 105, 102, 102, 101, 114, 101, 110, 99, 101]
abbrev kGoals : List UInt8 := [103, 111, 97, 108, 115]
abbrev kWins : List UInt8 := [119, 105, 110, 115]
abbrev kAway : List UInt8 := [97, 119, 97, 121]
abbrev kFair : List UInt8 := [102, 97, 105, 114]
abbrev kHead : List UInt8 := [104, 101, 97, 100]
abbrev kLots : List UInt8 := [108, 111, 116, 115]
/-- Conditions in a row (first child, next in the row); one condition; steps in a row; zones; rules: as the chapter's types have them. -/
inductive CF where
  | nil
  | cons (k v n : Int) (ps rest : CF)
deriving DecidableEq
structure CT where
  k : Int
  v : Int
  n : Int
  ps : CF
deriving DecidableEq
inductive SF where
  | nil
  | cons (k b : Int) (ck cv cn : Int) (cps : CF) (th el rest : SF)
deriving DecidableEq
structure ZT where
  name : List UInt8
  fr : Int
  to : Int
deriving DecidableEq
structure RT where
  name : List UInt8
  win : Int
  draw : Int
  loss : Int
  order : SF
  zones : List ZT
deriving DecidableEq
def CF.one (c : CT) (r : CF) : CF := .cons c.k c.v c.n c.ps r
def SF.one (k b : Int) (c : CT) (th el rest : SF) : SF := .cons k b c.k c.v c.n c.ps th el rest
def CT.zero : CT := ⟨0, 0, 0, .nil⟩
def RT.zero : RT := ⟨[], 0, 0, 0, .nil, []⟩
/-- What a parser hands back: a thing and the next offset, or the offset of the first error. -/
inductive Res (α : Type) where
  | ok (a : α) (n : Nat)
  | bad (n : Nat)
def Res.bind {α β : Type} (r : Res α) (f : α → Nat → Res β) : Res β := match r with | .ok a n => f a n | .bad n => .bad n
def Res.map {α β : Type} (f : α → β) (r : Res α) : Res β := match r with | .ok a n => .ok (f a) n | .bad n => .bad n
section
variable (T : List Tok)
/-- The next token. -/
def nx (a : Nat) : Tok := T[a]?.getD ⟨5, [], 0⟩
/-- The number of an integer's text. -/
def dig (n : Int) (c : UInt8) : Int := if c = 45 then n else 10 * n + (c.toNat - 48 : Int)
def num (s : List UInt8) : Int := if bt s 0 = 45 then -(s.foldl dig 0) else s.foldl dig 0
def least (v n : Int) : CT := ⟨1, v, n, .nil⟩
def cnot (c : CT) : CT := ⟨4, 0, 0, .one c .nil⟩
end
end Go.Proofs.YticpjdjdimpglaaGreatDoor
/- Chapters 14 and 15 in plain Lean: what is a valid condition, order, rules; their texts; the normal form; the flat steps. No program. -/
namespace Go.Proofs.YticpjdjdimpglaaGreatDoor
set_option linter.unusedVariables false
set_option linter.unusedSimpArgs false
/-- Rows of conditions: how many stand in them, at all depths; how deep; how many in the row; as a list. -/
def CF.cnt : CF → Nat
  | .nil => 0
  | .cons _ _ _ ps r => ps.cnt + 1 + r.cnt
def CF.dep : CF → Nat
  | .nil => 0
  | .cons _ _ _ ps r => max (ps.dep + 1) r.dep
def CF.num : CF → Nat
  | .nil => 0
  | .cons _ _ _ _ r => r.num + 1
def CF.toL : CF → List CT
  | .nil => []
  | .cons k v n ps r => ⟨k, v, n, ps⟩ :: r.toL
def CF.ofL : List CT → CF
  | [] => .nil
  | c :: r => .one c (CF.ofL r)
/-- Valid conditions. -/
def CF.okB : CF → Bool
  | .nil => true
  | .cons k v n ps r => (if k = 1 then decide (1 ≤ v ∧ v ≤ 4 ∧ 0 ≤ n ∧ n ≤ 64) && ps.num == 0
      else if k = 4 then decide (v = 0 ∧ n = 0) && ps.num == 1 && ps.okB
      else if k = 2 ∨ k = 3 then decide (v = 0 ∧ n = 0) && decide (1 ≤ ps.num ∧ ps.num ≤ 16) && ps.okB
      else false) && r.okB
def tcond (c : CT) : Int := if 256 < (CF.one c .nil).cnt ∨ 17 < (CF.one c .nil).dep then 2 else if (CF.one c .nil).okB then 0 else 140
def CT.isZ (c : CT) : Bool := decide (c.k = 0 ∧ c.v = 0 ∧ c.n = 0) && c.ps.num == 0
def SF.num : SF → Nat
  | .nil => 0
  | .cons _ _ _ _ _ _ _ _ r => r.num + 1
def SF.cntS : SF → Nat
  | .nil => 0
  | .cons _ _ _ _ _ _ th el r => th.cntS + el.cntS + 1 + r.cntS
def SF.cntC : SF → Nat
  | .nil => 0
  | .cons _ _ ck cv cn cps th el r => (if CT.isZ ⟨ck, cv, cn, cps⟩ then 0 else cps.cnt + 1) + th.cntC + el.cntC + r.cntC
def SF.dep : SF → Nat
  | .nil => 0
  | .cons _ _ _ _ _ _ th el r => max (max th.dep el.dep + 1) r.dep
def SF.cdep : SF → Nat
  | .nil => 0
  | .cons _ _ _ _ _ cps th el r => max (max (cps.dep + 1) (max th.cdep el.cdep)) r.cdep
def SF.okB : SF → Bool
  | .nil => true
  | .cons k b ck cv cn cps th el r => (if k = 1 then decide (1 ≤ b ∧ b ≤ 12) && CT.isZ ⟨ck, cv, cn, cps⟩ && th.num == 0 && el.num == 0
      else if k = 2 then decide (b = 0) && (CF.one ⟨ck, cv, cn, cps⟩ .nil).okB && decide (0 < th.num) && th.okB && el.okB
      else false) && r.okB
def torder (l : SF) : Int := if 64 < l.cntS ∨ 256 < l.cntC ∨ 17 < l.dep ∨ 17 < l.cdep then 2 else if l.num = 0 ∨ l.okB = false then 140 else 0
def nameCh (c : UInt8) : Bool := (97 ≤ c.toNat && c.toNat ≤ 122) || (48 ≤ c.toNat && c.toNat ≤ 57) || c.toNat == 95
def nameB (l : List UInt8) : Bool := match l with | [] => false | c :: r => decide ((c :: r).length ≤ 24) && (97 ≤ c.toNat && c.toNat ≤ 122) && r.all nameCh
def zoneB (z : ZT) : Bool := decide (z.fr ≠ 0 ∧ z.fr ≤ 24 ∧ -24 ≤ z.fr ∧ z.to ≠ 0 ∧ z.to ≤ 24 ∧ -24 ≤ z.to) && nameB z.name
def trules (r : RT) : Int := if nameB r.name = false ∨ 99 < r.win ∨ r.win < r.draw ∨ r.draw < r.loss ∨ r.loss < -99 then 140 else
  if torder r.order ≠ 0 then torder r.order else if 16 < r.zones.length then 2 else if r.zones.all zoneB then 0 else 140
/-- Numbers in decimal notation. -/
def decN : Nat → Nat → List UInt8
  | 0, _ => []
  | f + 1, n => if n < 10 then [UInt8.ofNat (48 + n)] else decN f (n / 10) ++ [UInt8.ofNat (48 + n % 10)]
def dec (n : Int) : List UInt8 := if n < 0 then 45 :: decN 20 n.natAbs else decN 20 n.natAbs
/-- The condition without single ones around it. -/
def coreF (k v n : Int) : CF → CT
  | .nil => ⟨k, v, n, .nil⟩
  | .cons k' v' n' ps' r' => if (k = 2 ∨ k = 3) ∧ r' = .nil then coreF k' v' n' ps' else ⟨k, v, n, .cons k' v' n' ps' r'⟩
def core (c : CT) : CT := coreF c.k c.v c.n c.ps
def varW (v : Int) : List UInt8 := if v = 1 then kTied else if v = 2 then kRound else if v = 3 then kFin else kClubs
def joinW (sep : List UInt8) : List (List UInt8) → List UInt8
  | [] => []
  | [x] => x
  | x :: y :: r => x ++ sep ++ joinW sep (y :: r)
mutual
/-- The text of a valid condition; of an operand. -/
def ftext : Nat → CT → List UInt8
  | 0, _ => []
  | f + 1, c0 =>
    let c := core c0
    if c.k = 1 then varW c.v ++ [32, 62, 61, 32] ++ dec c.n
    else if c.k = 4 then [110, 111, 116, 32] ++ (match c.ps.toL with | p :: _ => foper f p | [] => [])
    else if c.k = 2 then joinW [32, 97, 110, 100, 32] (c.ps.toL.map (foper f))
    else joinW [32, 111, 114, 32] (c.ps.toL.map fun p => if (core p).k = 3 then foper f p else ftext f p)
def foper : Nat → CT → List UInt8
  | 0, _ => []
  | f + 1, p => let x := core p; if x.k = 2 ∨ x.k = 3 then 40 :: (ftext f x ++ [41]) else ftext f x
end
def fcond (c : CT) : List UInt8 × Int := if tcond c ≠ 0 then ([], tcond c) else (ftext 100 c, 0)
def critW (b : Int) : List UInt8 := if b = 1 then kPoints else if b = 2 then kDiff else if b = 3 then kGoals else if b = 4 then kWins else if b = 5 then kAway ++ 32 :: kGoals else if b = 6 then kAway ++ 32 :: kWins
  else if b = 7 then kFair else if b = 8 then kHead ++ 32 :: kPoints else if b = 9 then kHead ++ 32 :: kDiff else if b = 10 then kHead ++ 32 :: kGoals else if b = 11 then kHead ++ 32 :: kAway else kLots
def flines (ind : List UInt8) : SF → List UInt8
  | .nil => []
  | .cons k b ck cv cn cps th el r =>
    (if k = 1 then ind ++ critW b ++ [59, 10]
     else ind ++ [105, 102, 32] ++ ftext 100 ⟨ck, cv, cn, cps⟩ ++ [32, 123, 10] ++ flines (ind ++ [32, 32]) th ++ ind ++ [125] ++
       (if 0 < el.num then [32, 101, 108, 115, 101, 32, 123, 10] ++ flines (ind ++ [32, 32]) el ++ ind ++ [125] else []) ++ [10]) ++ flines ind r
def fzone (z : ZT) : List UInt8 := [32, 32, 32, 32] ++ z.name ++ [32] ++ dec z.fr ++ (if z.to = z.fr then [] else [32, 116, 111, 32] ++ dec z.to) ++ [59, 10]
def frules (r : RT) : List UInt8 × Int := if trules r ≠ 0 then ([], trules r) else if kwB r.name || r.zones.any (fun z => kwB z.name) then ([], 140) else
  (kRules ++ [32] ++ r.name ++ [32, 123, 10, 32, 32] ++ kWin ++ [32] ++ dec r.win ++ [32] ++ kDraw ++ [32] ++ dec r.draw ++ [32] ++ kLoss ++ [32] ++ dec r.loss ++ [59, 10, 32, 32] ++ kOrder ++ [32, 123, 10] ++
   flines [32, 32, 32, 32] r.order ++ [32, 32, 125, 10, 32, 32] ++ kZones ++ [32, 123, 10] ++ r.zones.flatMap fzone ++ [32, 32, 125, 10, 125, 10], 0)
/-- The order of conditions. -/
def cord (a b : Int) : Int := if a < b then -1 else if b < a then 1 else 0
def CF.cmp : CF → CF → Int
  | .nil, .nil => 0
  | .nil, .cons .. => -1
  | .cons .., .nil => 1
  | .cons k v n ps r, .cons k' v' n' ps' r' => if cord k k' ≠ 0 then cord k k' else if cord v v' ≠ 0 then cord v v' else if cord n n' ≠ 0 then cord n n' else if ps.cmp ps' ≠ 0 then ps.cmp ps' else r.cmp r'
def CT.cmp (a b : CT) : Int := (CF.one a .nil).cmp (CF.one b .nil)
/-- An AtLeastC, or the NotC of one: the variable and the number. -/
def litO (c : CT) : Option (Int × Int) := if c.k = 1 then some (c.v, c.n) else if c.k = 4 then match c.ps with | .cons k v n _ _ => if k = 1 then some (v, n) else none | .nil => none else none
/-- Element a makes element b superfluous in a condition of a kind. -/
def covers (kind : Int) (a b : CT) : Bool := match litO a, litO b with
  | some (v, n), some (v', n') => if a.k = b.k ∧ v = v' then (if (kind = 2) = (a.k = 1) then decide (n' ≤ n) else decide (n ≤ n')) else a.cmp b == 0
  | _, _ => a.cmp b == 0
def insC (kind : Int) (l : List CT) (c : CT) : List CT := if l.any (fun y => covers kind y c) then l else
  (l.filter fun y => !covers kind c y && decide (y.cmp c < 0)) ++ c :: (l.filter fun y => !covers kind c y && !decide (y.cmp c < 0))
def seqO {α : Type} : List (Option α) → Option (List α)
  | [] => some []
  | none :: _ => none
  | some x :: r => (seqO r).map (x :: ·)
/-- The normal form of a valid condition, or of its negation. -/
def norm : Nat → Bool → CT → Option CT
  | 0, _, _ => none
  | f + 1, neg, c =>
    if c.k = 1 then some (if neg then cnot c else c)
    else if c.k = 4 then match c.ps.toL with | p :: _ => norm f (!neg) p | [] => none
    else
      let kind := if neg then 5 - c.k else c.k
      (seqO (c.ps.toL.map (norm f neg))).bind fun xs =>
        let l := (xs.flatMap fun x => if x.k = kind then x.ps.toL else [x]).foldl (insC kind) []
        match l with
        | [x] => some x
        | _ => if 16 < l.length then none else some ⟨kind, 0, 0, CF.ofL l⟩
def tidy (c : CT) : CT × Int := if tcond c ≠ 0 then (.zero, tcond c) else match norm 100 false c with
  | none => (.zero, 2)
  | some y => if tcond y = 0 then (y, 0) else (.zero, 2)
def SF.byL : SF → List Int
  | .nil => []
  | .cons k b _ _ _ _ _ _ r => if k = 1 then b :: r.byL else r.byL
def SF.appF : SF → SF → SF
  | .nil, y => y
  | .cons k b ck cv cn cps th el r, y => .cons k b ck cv cn cps th el (r.appF y)
/-- The flat steps of an order for the criteria that are known. -/
def flat : List Int → SF → Except Int SF
  | _, .nil => .ok .nil
  | kn, .cons k b ck cv cn cps th el r =>
    if k = 1 then (if kn.contains b then flat kn r else (flat (b :: kn) r).map (SF.cons k b ck cv cn cps th el))
    else
      let c := tidy ⟨ck, cv, cn, cps⟩
      if c.2 ≠ 0 then .error c.2 else
      match flat kn th, flat kn el with
      | .error e, _ => .error e
      | _, .error e => .error e
      | .ok t, .ok f =>
        if t = f then (flat (t.byL ++ kn) r).map (t.appF ·)
        else if t.num = 0 then (let d := tidy (cnot c.1); if d.2 ≠ 0 then .error d.2 else (flat kn r).map (SF.one 2 0 d.1 f .nil))
        else (flat kn r).map (SF.one 2 0 c.1 t f)
def flatO (l : SF) : SF × Int := if torder l ≠ 0 then (.nil, torder l) else match flat [] l with | .ok x => (x, 0) | .error e => (.nil, e)
/-- The chapter's examples. -/
def exA : CT := ⟨2, 0, 0, .one (least 1 3) (.one (cnot (least 3 1)) .nil)⟩
def exF : SF := .one 1 1 .zero .nil .nil (.one 2 0 (least 1 3) (.one 1 1 .zero .nil .nil .nil) .nil (.one 1 4 .zero .nil .nil .nil))
def exR : RT := ⟨[97], 3, 1, 0, .one 1 1 .zero .nil .nil .nil, [⟨[117, 112], 1, 2⟩]⟩
theorem fex1 : fcond exA = ([116, 105, 101, 100, 32, 62, 61, 32, 51, 32, 97, 110, 100, 32, 110, 111, 116, 32, 102, 105, 110, 105, 115, 104, 101, 100, 32, 62, 61, 32, 49], 0) := by decide +kernel
theorem fex2 : fcond ⟨2, 0, 0, .one (least 4 2) .nil⟩ = ([99, 108, 117, 98, 115, 32, 62, 61, 32, 50], 0) := by decide +kernel
theorem fex3 : fcond ⟨2, 0, 0, .nil⟩ = ([], 140) := by decide +kernel
theorem fex4 : tidy (cnot ⟨3, 0, 0, .one (least 1 3) (.one (least 1 5) .nil)⟩) = (cnot (least 1 3), 0) := by decide +kernel
theorem fex5 : tidy (cnot (cnot (least 2 0))) = (least 2 0, 0) := by decide +kernel
theorem fex6 : flatO exF = (.one 1 1 .zero .nil .nil (.one 1 4 .zero .nil .nil .nil), 0) := by decide +kernel
theorem fex7 : flatO .nil = (.nil, 140) := by decide +kernel
theorem fex8 : frules exR = ([114, 117, 108, 101, 115, 32, 97, 32, 123, 10, 32, 32, 119, 105, 110, 32, 51, 32, 100, 114, 97, 119, 32, 49, 32, 108, 111, 115, 115, 32, 48, 59, 10, 32, 32, 111, 114, 100, 101, 114, 32, 123, 10, 32, 32, 32, 32, 112, 111, 105, 110, 116, 115, 59, 10, 32, 32, 125, 10, 32, 32, 122, 111, 110, 101, 115, 32, 123, 10, 32, 32, 32, 32, 117, 112, 32, 49, 32, 116, 111, 32, 50, 59, 10, 32, 32, 125, 10, 125, 10], 0) := by decide +kernel
end Go.Proofs.YticpjdjdimpglaaGreatDoor
/- Plain laws about the lexer's steps, for the walks. No program. -/
namespace Go.Proofs.YticpjdjdimpglaaGreatDoor
set_option linter.unusedVariables false
set_option linter.unusedSimpArgs false
/-- The way from a to b turns nothing in what is returned. -/
def Skips (l : List UInt8) (a b : Nat) : Prop := a ≤ b ∧ b ≤ l.length ∧ ∀ T P E, fin T P E a (items (l.drop a)) = fin T P E b (items (l.drop b))
theorem Skips.refl (l : List UInt8) (a : Nat) (h : a ≤ l.length) : Skips l a a := ⟨Nat.le_refl _, h, fun _ _ _ => rfl⟩
theorem Skips.trans {l : List UInt8} {a b c : Nat} (h : Skips l a b) (k : Skips l b c) : Skips l a c :=
  ⟨Nat.le_trans h.1 k.1, k.2.1, fun T P E => (h.2.2 T P E).trans (k.2.2 T P E)⟩
theorem cls_letter {c : Nat} : cls c = 2 ↔ isLetter c = true := by
  unfold cls; split <;> rename_i h
  · simp [h]
  · simp only [h]; split
    · simp
    · split
      · simp
      · split <;> simp
theorem isDigit_not_letter {c : Nat} (h : isDigit c = true) : isLetter c = false := by
  simp [isDigit] at h
  simp [isLetter]
  omega
theorem cls_digit {c : Nat} : cls c = 3 ↔ isDigit c = true := by
  unfold cls; split <;> rename_i h
  · have : isDigit c = false := by
      cases hd : isDigit c
      · rfl
      · rw [isDigit_not_letter hd] at h; cases h
    simp [this]
  · split <;> rename_i h1
    · simp [h1]
    · simp only [h1]; split
      · simp
      · split <;> simp
theorem inner_iff {c : Nat} : isInner c = true ↔ cls c = 2 ∨ cls c = 3 ∨ c = 95 := by
  rw [cls_letter, cls_digit]
  simp [isInner, or_assoc]
theorem inner_not {c : Nat} : isInner c = false ↔ ¬ cls c = 2 ∧ ¬ cls c = 3 ∧ ¬ c = 95 := by
  have h := inner_iff (c := c)
  cases hi : isInner c
  · rw [hi] at h
    simp at h
    simp [h]
  · rw [hi] at h
    simp at h
    simp
    intro h2 h3
    rcases h with h | h | h
    · exact absurd h h2
    · exact absurd h h3
    · exact h
end Go.Proofs.YticpjdjdimpglaaGreatDoor
/- Plain laws: the lexer's steps stay within the text. No program. -/
namespace Go.Proofs.YticpjdjdimpglaaGreatDoor
set_option linter.unusedVariables false
set_option linter.unusedSimpArgs false
end Go.Proofs.YticpjdjdimpglaaGreatDoor
/- Plain laws: the offsets of the tokens and of the problems. No program. -/
namespace Go.Proofs.YticpjdjdimpglaaGreatDoor
set_option linter.unusedVariables false
set_option linter.unusedSimpArgs false
/-- A token fits the bytes at its offset. -/
def Fits (l : List UInt8) (t : Tok) : Prop := ∃ a : Nat, t.at_ = a ∧ a < l.length ∧ t.kind ≠ 5 ∧ (t.kind = 3 → bt l a = 34) ∧
  (t.kind ≠ 3 → 0 < t.text.length ∧ a + t.text.length ≤ l.length ∧ (l.drop a).take t.text.length = t.text)
/-- The tokens and the problems that were found up to an offset. -/
structure Inv (l : List UInt8) (T : List Tok) (P : List Prob) (a : Nat) : Prop where
  tok : ∀ t ∈ T, Fits l t ∧ t.at_ < a
  tinc : T.Pairwise fun x y => x.at_ < y.at_
  prob : ∀ p ∈ P, p.code = 60 ∧ 0 ≤ p.at_ ∧ p.at_ < l.length ∧ p.at_ < a
  pinc : P.Pairwise fun x y => x.at_ < y.at_
  dis : ∀ t ∈ T, ∀ p ∈ P, t.at_ ≠ p.at_
  pl : P.length ≤ 64
theorem Inv.more {l : List UInt8} {T : List Tok} {P : List Prob} {a b : Nat} (h : Inv l T P a) (hb : a ≤ b) : Inv l T P b :=
  ⟨fun t ht => ⟨(h.tok t ht).1, by have := (h.tok t ht).2; omega⟩, h.tinc, fun p hp => by obtain ⟨h1, h2, h3, h4⟩ := h.prob p hp; exact ⟨h1, h2, h3, by omega⟩, h.pinc, h.dis, h.pl⟩
theorem Inv.push {l : List UInt8} {T : List Tok} {P : List Prob} {a b : Nat} (h : Inv l T P a) (t : Tok) (hf : Fits l t) (ha : t.at_ = a) (hb : a < b) : Inv l (T ++ [t]) P b := by
  refine ⟨fun x hx => ?_, ?_, (h.more (Nat.le_of_lt hb)).prob, h.pinc, fun x hx p hp => ?_, h.pl⟩
  · rcases List.mem_append.1 hx with hx | hx
    · exact (h.more (Nat.le_of_lt hb)).tok x hx
    · obtain rfl := List.mem_singleton.1 hx
      exact ⟨hf, by omega⟩
  · rw [List.pairwise_append]
    refine ⟨h.tinc, List.pairwise_singleton _ _, fun x hx y hy => ?_⟩
    obtain rfl := List.mem_singleton.1 hy
    have := (h.tok x hx).2
    omega
  · rcases List.mem_append.1 hx with hx | hx
    · exact h.dis x hx p hp
    · obtain rfl := List.mem_singleton.1 hx
      have := (h.prob p hp).2.2.2
      omega
end Go.Proofs.YticpjdjdimpglaaGreatDoor
/- Plain laws: a comment before a token turns no token. No program. -/
namespace Go.Proofs.YticpjdjdimpglaaGreatDoor
set_option linter.unusedVariables false
set_option linter.unusedSimpArgs false
/-- Kinds and texts of the tokens. -/
def toks : List Item → List (Nat × List UInt8)
  | [] => []
  | i :: r => if i.kind = 6 ∨ i.kind = 0 then toks r else (i.kind, i.text) :: toks r
def look (t : Tok) : Int × List UInt8 := (t.kind, t.text)
/-- From u ++ v the lexer comes to v. -/
inductive Al : List UInt8 → List UInt8 → Prop
  | nil (v : List UInt8) : Al [] v
  | step (u v : List UInt8) : u ≠ [] → (stepItem (u ++ v)).len ≤ u.length → Al (u.drop (stepItem (u ++ v)).len) v → Al u v
end Go.Proofs.YticpjdjdimpglaaGreatDoor
/- Plain laws: tokens that are joined with blanks come back. No program. -/
namespace Go.Proofs.YticpjdjdimpglaaGreatDoor
set_option linter.unusedVariables false
set_option linter.unusedSimpArgs false
/-- How a byte is written between quotes. -/
def esc1 (c : UInt8) : List UInt8 := if c.toNat = 34 then [92, 34] else if c.toNat = 92 then [92, 92] else if c.toNat = 10 then [92, 110] else [c]
def escape (s : List UInt8) : List UInt8 := s.flatMap esc1
/-- How a token is written. -/
def spell (t : Tok) : List UInt8 := if t.kind = 3 then 34 :: (escape t.text ++ [34]) else t.text
/-- What stands behind a token. -/
def Shut (v : List UInt8) : Prop := v = [] ∨ bt v 0 = 32
theorem Shut.inner {v : List UInt8} (h : Shut v) : isInner (bt v 0) = false := by
  rcases h with rfl | h
  · rfl
  · rw [h]; rfl
/-- The written length of tokens, each with a separator. -/
def wide (T : List Tok) : Nat := (T.map fun t => (spell t).length + 1).sum
end Go.Proofs.YticpjdjdimpglaaGreatDoor

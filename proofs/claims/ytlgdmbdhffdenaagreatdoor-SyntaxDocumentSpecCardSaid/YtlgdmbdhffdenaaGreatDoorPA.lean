/- Words of my own for memory: a slice that reads as a list of cells; bytes as values; small lemmas. No program. -/
import Derived.WalkKit
import Derived.WalkSpells
import Derived.WalkLawsBesides
import Derived.Lib.Hide
import Derived.Lib.Strings
import Derived.Handy
namespace Go.Proofs.YtlgdmbdhffdenaaGreatDoor
set_option linter.unusedVariables false
set_option linter.unusedSimpArgs false
open Go.RowKit

/-- A byte as a value. -/
def vb (b : UInt8) : Value := .int .u8 (b.toNat : Int)

/-- The slice value '.slice A n c' holds the cells xs ('size' cells an element), in a block below B. -/
structure Rd (w : World) (B size : Nat) (A : Option Addr) (n c : Nat) (xs : List Value) : Prop where
  len : xs.length = n * size
  cap : n ≤ c
  big : c ≤ 9223372036854775807
  cells : 0 < n → ∃ b off, A = some ⟨b, off, none⟩ ∧ b < B ∧ ∀ j u, xs[j]? = some u → w.cell? ⟨b, off + j, none⟩ = some u

section
variable {w w' : World} {B B' size n c : Nat} {A : Option Addr} {xs : List Value}

theorem Rd.keep (h : Rd w B size A n c xs) (hk : ∀ p : Addr, p.block < B → w'.cell? p = w.cell? p) : Rd w' B size A n c xs :=
  ⟨h.len, h.cap, h.big, fun hn => by
    obtain ⟨b, off, e, hb, hc⟩ := h.cells hn
    exact ⟨b, off, e, hb, fun j u hu => (hk _ hb).trans (hc j u hu)⟩⟩
theorem Rd.more (h : Rd w B size A n c xs) (hB : B ≤ B') : Rd w B' size A n c xs :=
  ⟨h.len, h.cap, h.big, fun hn => by
    obtain ⟨b, off, e, hb, hc⟩ := h.cells hn
    exact ⟨b, off, e, by omega, hc⟩⟩
theorem Rd.below (h : Rd w B size A n c xs) (hb : Below B w w') : Rd w' B size A n c xs := h.keep fun _ hp => hb.cell hp
theorem Rd.nil : Rd w B size none 0 0 [] := ⟨by simp, by omega, by omega, fun h => absurd h (by omega)⟩

/-- Element k of a slice of one-cell elements. -/
theorem Rd.one {k : Nat} (h : Rd w B 1 A n c xs) (hk : k < n) : ∃ b off u, A = some ⟨b, off, none⟩ ∧ b < B ∧ xs[k]? = some u ∧ w.cell? ⟨b, off + k, none⟩ = some u := by
  obtain ⟨b, off, e, hb, hc⟩ := h.cells (by omega)
  have hl : k < xs.length := by have := h.len; omega
  exact ⟨b, off, xs[k], e, hb, List.getElem?_eq_getElem hl, hc k _ (List.getElem?_eq_getElem hl)⟩

/-- Byte k of a list of bytes, as a number (a plain definition: the walk leaves it as it stands). -/
def bt (l : List UInt8) (k : Nat) : Nat := (l.getD k 0).toNat
theorem bt_lt (l : List UInt8) (k : Nat) : bt l k < 256 := UInt8.toNat_lt _
theorem bt_get (l : List UInt8) (k : Nat) (h : k < l.length) : bt l k = l[k].toNat := by simp [bt, h]
theorem bt_cons_zero (a : UInt8) (l : List UInt8) : bt (a :: l) 0 = a.toNat := rfl
theorem bt_cons_succ (a : UInt8) (l : List UInt8) (k : Nat) : bt (a :: l) (k + 1) = bt l k := by simp [bt]
theorem bt_drop (l : List UInt8) (i k : Nat) : bt (l.drop i) k = bt l (i + k) := by simp [bt]
theorem bt_out (l : List UInt8) (k : Nat) (h : l.length ≤ k) : bt l k = 0 := by simp [bt, h]
theorem take_bt (l : List UInt8) (k : Nat) (h : k < l.length) : l.take (k + 1) = l.take k ++ [UInt8.ofNat (bt l k)] := by
  rw [List.take_succ_eq_append_getElem h, bt_get l k h]
  simp

/-- Byte k of a slice. -/
theorem Rd.byte {l : List UInt8} {k : Nat} (h : Rd w B 1 A n c (l.map vb)) (hk : k < n) : ∃ b off, A = some ⟨b, off, none⟩ ∧ b < B ∧ w.cell? ⟨b, off + k, none⟩ = some (.int .u8 (bt l k : Int)) := by
  obtain ⟨b, off, u, e, hb, hu, hc⟩ := h.one hk
  refine ⟨b, off, e, hb, ?_⟩
  have hl : k < l.length := by have := h.len; simp at this; omega
  rw [hc]
  simp [hl, vb] at hu
  simp [bt, hl, ← hu]
theorem Rd.blen {l : List UInt8} (h : Rd w B 1 A n c (l.map vb)) : l.length = n := by have := h.len; simpa using this
end

/-- A block that is known whole, none of it frozen. -/
def Blk (w : World) (g : Nat) (t : TypeId) (cs : Array Value) : Prop := w.heap[g]? = some (.cells cs t (0, 0))

section
variable {w w' : World} {g : Nat} {t : TypeId} {cs : Array Value}
theorem Blk.lt (h : Blk w g t cs) : g < w.heap.size := by
  rcases Nat.lt_or_ge g w.heap.size with hlt | hge
  · exact hlt
  · unfold Blk at h; rw [Array.getElem?_eq_none hge] at h; cases h
theorem Blk.cell (h : Blk w g t cs) (i : Nat) : w.cell? ⟨g, i, none⟩ = cs[i]? := cell_of_row w g i cs t (0, 0) h
theorem Blk.frozen (h : Blk w g t cs) (i : Nat) : w.frozen? ⟨g, i, none⟩ = false := by
  unfold Blk at h
  simp [World.frozen?, h]
theorem Blk.new (w : World) (t : TypeId) (cs : Array Value) : Blk (w.alloc (.cells cs t)) w.heap.size t cs := heap_alloc_new w _
theorem Blk.drewN (h : Blk w g t cs) (n : Nat) : Blk (w.drewN n) g t cs := h
theorem Blk.alloc (h : Blk w g t cs) (o : Obj) : Blk (w.alloc o) g t cs := (Below.heap_alloc w o g h.lt).trans h
theorem Blk.set (h : Blk w g t cs) (i : Nat) (u : Value) : Blk (w.setCell ⟨g, i, none⟩ u) g t (cs.setIfInBounds i u) := by
  unfold Blk at h ⊢
  simp [World.setCell, Array.getElem?_modify, h]
theorem Blk.far (h : Blk w g t cs) {p : Addr} (hp : g ≠ p.block) (u : Value) : Blk (w.setCell p u) g t cs := (Below.heap_setCell w p u g hp).trans h
theorem Blk.below {B : Nat} (h : Blk w g t cs) (hb : Below B w w') (hg : g < B) : Blk w' g t cs := (hb.block g hg).trans h
theorem Blk.grown {row : Option Nat} (h : Blk w g t cs) (hb : w.grownBy w' row) (hg : some g ≠ row) : Blk w' g t cs := (hb.block g h.lt hg).trans h
theorem Blk.ne {g' : Nat} {t' : TypeId} {cs' : Array Value} (h : Blk w g t cs) (h' : Blk w g' t' cs') (hne : t ≠ t') : g ≠ g' := by
  rintro rfl
  unfold Blk at h h'
  rw [h] at h'
  injection h' with h'
  injection h' with _ ht
  exact hne ht
end

/-- A string out of bytes. -/
def bs (l : List UInt8) : ByteArray := ⟨l.toArray⟩
theorem bs_data (l : List UInt8) : (bs l).data.toList = l := rfl
theorem bs_size (l : List UInt8) : (bs l).size = l.length := rfl
@[go_sem] theorem bs_toList (l : List UInt8) : (bs l).toList = l := by
  rw [Lib.toList_data]
  rfl
@[go_sem] theorem bs_size_sem (l : List UInt8) : (bs l).size = l.length := rfl
@[go_sem] theorem bs_get (l : List UInt8) (k : Nat) (h : k < (bs l).size) : ((bs l)[k]'h).toNat = bt l k := by
  rw [bt_get l k h]
  rfl
theorem bs_of (s : ByteArray) : bs s.data.toList = s := rfl
theorem bs_inj {a b : List UInt8} (h : bs a = bs b) : a = b := by have := congrArg (fun s : ByteArray => s.data.toList) h; simpa [bs] using this

section
variable {w w' : World} {B size n c : Nat} {A : Option Addr} {xs : List Value}
theorem Rd.drewN (h : Rd w B size A n c xs) (k : Nat) : Rd (w.drewN k) B size A n c xs := h.keep fun _ _ => rfl
theorem Rd.drew (h : Rd w B size A n c xs) : Rd w.drew B size A n c xs := h.keep fun _ _ => rfl
theorem Rd.alloc (h : Rd w B size A n c xs) (hB : B ≤ w.heap.size) (o : Obj) : Rd (w.alloc o) B size A n c xs := h.keep fun p hp => World.cell?_alloc_lt w o p (by omega)
theorem Rd.setCell (h : Rd w B size A n c xs) {p : Addr} (hB : B ≤ p.block) (u : Value) : Rd (w.setCell p u) B size A n c xs :=
  h.keep fun q hq => World.cell?_setCell_other w p q u (fun e => by subst e; omega)
/-- A piece of a slice of bytes. -/
theorem Rd.sub {l : List UInt8} {b off lo hi : Nat} (h : Rd w B 1 (some ⟨b, off, none⟩) n c (l.map vb)) (h1 : lo ≤ hi) (h2 : hi ≤ n) :
    Rd w B 1 (some ⟨b, off + lo, none⟩) (hi - lo) (c - lo) (((l.drop lo).take (hi - lo)).map vb) := by
  have hl := h.blen
  refine ⟨by simp; omega, by have := h.cap; omega, by have := h.big; omega, fun hn => ?_⟩
  obtain ⟨b', off', e, hb, hc⟩ := h.cells (by omega)
  injection e with e
  injection e with e1 e2
  subst e1 e2
  refine ⟨b, off + lo, rfl, hb, fun j u hj => ?_⟩
  rw [Nat.add_assoc]
  apply hc
  have hj2 : j < hi - lo := by
    rcases Nat.lt_or_ge j (hi - lo) with h3 | h3
    · exact h3
    · rw [List.getElem?_eq_none (by simp; omega)] at hj; cases hj
  simpa [List.getElem?_map, List.getElem?_take, hj2, List.getElem?_drop] using hj
theorem vb_get (l : List UInt8) (i : Nat) (h : i < l.length) : (l.map vb)[i]? = some (.int .u8 ((l.map fun c => (c.toNat : Int)).getD i 0)) := by
  simp [h, vb]
/-- string(b). -/
theorem Rd.conv {P : Program} {l : List UInt8} {src dst e : TypeId} (h : Rd w B 1 A n c (l.map vb)) (hs : P.underlying src = some (.slice e)) (he : P.underlying e = some (.int .u8)) (hd : P.underlying dst = some .string) (cap : Nat) :
    (convert src dst (.slice A n cap)).run P w = .ok (.string (bs l)) w := by
  have hl := h.blen
  rcases Nat.eq_zero_or_pos n with h0 | h0
  · have hl0 : l = [] := List.eq_nil_of_length_eq_zero (by omega)
    subst hl0 h0
    rcases A with _ | ⟨b, off, spot⟩
    · exact run_convert_bytes_nil w src e hs he _ _ dst hd
    · rw [run_convert_bytes_string w src dst e _ 0 cap hs he hd]
      simp [Conv.bytesToString, loadCells, loadCellsFrom, bs]
      rfl
  · obtain ⟨b, off, rfl, hb, hc⟩ := h.cells h0
    have := run_convert_bytes_arg (P := P) w src e hs he b off n cap (l.map fun c => (c.toNat : Int)) (by simpa using hl) (fun i hi => by
      apply hc
      rw [vb_get l i (by omega)]) dst hd
    rw [this]
    congr 1
    congr 1
    simp [strOfNums, bs]
    apply List.map_id''
    intro c
    simp
end

/-- A test's outcome, as the walk spells it. -/
theorem nb {a : Nat} {m : Int} (h : ¬ (a : Int) = m) : ((a : Int) == m) = false := by simpa using h
theorem yb {a : Nat} {m : Int} (h : (a : Int) = m) : ((a : Int) == m) = true := by simpa using h
theorem nnb {a : Nat} {m : Int} (h : ¬ (a : Int) = m) : ((a : Int) != m) = true := by simpa using h
theorem ynb {a : Nat} {m : Int} (h : (a : Int) = m) : ((a : Int) != m) = false := by simpa using h
theorem int_eq {k : IntKind} {a b : Int} (h : a = b) : Value.int k a = .int k b := by rw [h]
theorem ret_int {k : IntKind} {a b : Int} (h : a = b) : Ending.returned (.int k a) = .returned (.int k b) := by rw [h]
theorem ret_bool {a b : Bool} (h : a = b) : Ending.returned (.bool a) = .returned (.bool b) := by rw [h]
end Go.Proofs.YtlgdmbdhffdenaaGreatDoor

/- What lexis computes, in plain Lean, on lists of bytes. No program. -/
namespace Go.Proofs.YtlgdmbdhffdenaaGreatDoor
set_option linter.unusedVariables false
set_option linter.unusedSimpArgs false

def isLetter (c : Nat) : Bool := decide ((97 ≤ c ∧ c ≤ 122) ∨ (65 ≤ c ∧ c ≤ 90))
def isDigit (c : Nat) : Bool := decide (48 ≤ c ∧ c ≤ 57)
def isInner (c : Nat) : Bool := isLetter c || isDigit c || c == 95
def isSignC (c : Nat) : Bool := c == 123 || c == 125 || c == 40 || c == 41 || c == 91 || c == 93 || c == 59 || c == 44 || c == 58 || c == 47 || c == 61 || c == 60 || c == 62
def isBlankC (c : Nat) : Bool := c == 32 || c == 9 || c == 10 || c == 13
/-- The class of a byte. -/
def cls (c : Nat) : Nat := if isLetter c then 2 else if isDigit c then 3 else if isSignC c then 4 else if isBlankC c then 1 else 0

structure Tok where
  kind : Int
  text : List UInt8
  at_ : Int
structure Prob where
  at_ : Int
  code : Int
/-- One step of the lexer: kind 6: bytes that are skipped; 0: invalid bytes; else a token; its length. -/
structure Item where
  kind : Nat
  text : List UInt8
  len : Nat

/-- The number of letters, digits and _ at the beginning. -/
def runLen : List UInt8 → Nat
  | [] => 0
  | c :: r => if isInner c.toNat then runLen r + 1 else 0
theorem runLen_le (s : List UInt8) : runLen s ≤ s.length := by
  induction s with
  | nil => simp [runLen]
  | cons c r ih => unfold runLen; split <;> simp <;> omega
/-- The number of bytes up to the next byte 10. -/
def lineLen : List UInt8 → Nat
  | [] => 0
  | c :: r => if c.toNat = 10 then 0 else lineLen r + 1
theorem lineLen_le (s : List UInt8) : lineLen s ≤ s.length := by
  induction s with
  | nil => simp [lineLen]
  | cons c r ih => unfold lineLen; split <;> simp <;> omega

/-- A word. -/
def wordB (s : List UInt8) : Bool := !s.isEmpty && isLetter (bt s 0) && s.all fun c => isInner c.toNat
/-- Digits alone, one to 18, the first not 0. -/
def numB (s : List UInt8) : Bool := !s.isEmpty && decide (s.length ≤ 18) && (bt s 0 != 48) && s.all fun c => isDigit c.toNat
/-- An integer. -/
def intB (s : List UInt8) : Bool := s == [48] || (if bt s 0 = 45 then numB (s.drop 1) else numB s)
/-- A sign. -/
def signB (s : List UInt8) : Bool := (s.length == 1 && isSignC (bt s 0)) || s == [60, 61] || s == [62, 61]
/-- What can be quoted. -/
def textB (s : List UInt8) : Bool := s.all fun c => c.toNat == 10 || (decide (32 ≤ c.toNat) && decide (c.toNat ≤ 126))

/-- The contents up to the closing quote, and the number of bytes with it. -/
def qscan : List UInt8 → Option (List UInt8 × Nat)
  | [] => none
  | c :: r =>
    if c.toNat = 34 then some ([], 1)
    else if c.toNat < 32 ∨ 126 < c.toNat then none
    else if c.toNat ≠ 92 then (qscan r).map fun x => (c :: x.1, x.2 + 1)
    else match r with
      | [] => none
      | d :: r' =>
        if d.toNat = 34 ∨ d.toNat = 92 then (qscan r').map fun x => (d :: x.1, x.2 + 2)
        else if d.toNat = 110 then (qscan r').map fun x => (10 :: x.1, x.2 + 2)
        else none

/-- The token, or the invalid bytes, at the beginning of bytes that are neither white space nor a comment. -/
def nextItem : List UInt8 → Item
  | [] => ⟨0, [], 1⟩
  | c :: r =>
    if isLetter c.toNat then ⟨1, (c :: r).take (runLen (c :: r)), runLen (c :: r)⟩
    else if isDigit c.toNat || (c.toNat == 45 && isDigit (bt r 0)) then
      if intB ((c :: r).take (runLen r + 1)) then ⟨2, (c :: r).take (runLen r + 1), runLen r + 1⟩ else ⟨0, [], runLen r + 1⟩
    else if isSignC c.toNat then
      if (c.toNat == 60 || c.toNat == 62) && bt r 0 == 61 then ⟨4, (c :: r).take 2, 2⟩ else ⟨4, [c], 1⟩
    else if c.toNat = 34 then
      match qscan r with
      | some x => ⟨3, x.1, x.2 + 1⟩
      | none => ⟨0, [], 1⟩
    else ⟨0, [], 1⟩

/-- One step of the lexer. -/
def stepItem : List UInt8 → Item
  | [] => ⟨6, [], 1⟩
  | c :: r =>
    if isBlankC c.toNat then ⟨6, [], 1⟩
    else if c.toNat = 35 then ⟨6, [], lineLen (c :: r)⟩
    else nextItem (c :: r)

theorem nextItem_pos (s : List UInt8) : 0 < (nextItem s).len := by
  unfold nextItem
  split
  · simp
  · rename_i c r
    split
    · rename_i h
      have : isInner c.toNat = true := by simp [isInner, h]
      simp [runLen, this]
    · split
      · split <;> simp
      · split
        · split <;> simp
        · split
          · split <;> simp
          · simp
theorem stepItem_pos (s : List UInt8) : 0 < (stepItem s).len := by
  unfold stepItem
  split
  · simp
  · rename_i c r
    split
    · simp
    · split
      · rename_i h
        have : ¬ c.toNat = 10 := by omega
        simp [lineLen, this]
      · exact nextItem_pos _


def items (s : List UInt8) : List Item :=
  if h : s = [] then [] else stepItem s :: items (s.drop (stepItem s).len)
termination_by s.length
decreasing_by
  have := stepItem_pos s
  have : 0 < s.length := List.length_pos_iff.2 h
  rw [List.length_drop]
  omega

theorem items_nil : items [] = [] := by rw [items]; simp
theorem items_cons (s : List UInt8) (h : s ≠ []) : items s = stepItem s :: items (s.drop (stepItem s).len) := by
  rw [items]; simp [h]

/-- What is returned for the steps that are left. -/
def fin (T : List Tok) (P : List Prob) (E : Int) (at_ : Nat) : List Item → List Tok × List Prob
  | [] => (T ++ [⟨5, [], at_⟩], P)
  | i :: r =>
    if i.kind = 6 then fin T P E (at_ + i.len) r
    else if i.kind = 0 then fin T (if (at_ : Int) ≠ E ∧ P.length < 64 then P ++ [⟨at_, 60⟩] else P) ((at_ + i.len : Nat) : Int) (at_ + i.len) r
    else fin (T ++ [⟨i.kind, i.text, at_⟩]) P E (at_ + i.len) r
/-- The tokens and the problems of a text. -/
def lex (l : List UInt8) : List Tok × List Prob := fin [] [] (-1) 0 (items l)

end Go.Proofs.YtlgdmbdhffdenaaGreatDoor

/- Plain laws about the lexer's steps, for the walks. No program. -/
namespace Go.Proofs.YtlgdmbdhffdenaaGreatDoor
set_option linter.unusedVariables false
set_option linter.unusedSimpArgs false

theorem drop_cons (l : List UInt8) (a : Nat) (h : a < l.length) : ∃ c, c.toNat = bt l a ∧ l.drop a = c :: l.drop (a + 1) :=
  ⟨l[a], (bt_get l a h).symm, List.drop_eq_getElem_cons h⟩
theorem drop_ne (l : List UInt8) (a : Nat) (h : a < l.length) : l.drop a ≠ [] := by
  intro e
  have := congrArg List.length e
  simp at this
  omega
theorem drop_all (l : List UInt8) (a : Nat) (h : l.length ≤ a) : l.drop a = [] := List.drop_eq_nil_of_le h

/-- The way from a to b turns nothing in what is returned. -/
def Skips (l : List UInt8) (a b : Nat) : Prop := a ≤ b ∧ b ≤ l.length ∧ ∀ T P E, fin T P E a (items (l.drop a)) = fin T P E b (items (l.drop b))
theorem Skips.refl (l : List UInt8) (a : Nat) (h : a ≤ l.length) : Skips l a a := ⟨Nat.le_refl _, h, fun _ _ _ => rfl⟩
theorem Skips.trans {l : List UInt8} {a b c : Nat} (h : Skips l a b) (k : Skips l b c) : Skips l a c :=
  ⟨Nat.le_trans h.1 k.1, k.2.1, fun T P E => (h.2.2 T P E).trans (k.2.2 T P E)⟩
theorem skips_step (l : List UInt8) (a : Nat) (h : a < l.length) (hs : (stepItem (l.drop a)).kind = 6) (hl : a + (stepItem (l.drop a)).len ≤ l.length) : Skips l a (a + (stepItem (l.drop a)).len) := by
  refine ⟨by omega, hl, fun T P E => ?_⟩
  rw [items_cons _ (drop_ne l a h)]
  simp only [fin, hs, if_true, List.drop_drop]
theorem skips_blank (l : List UInt8) (a : Nat) (h : a < l.length) (hb : isBlankC (bt l a) = true) : Skips l a (a + 1) := by
  obtain ⟨c, hc, hd⟩ := drop_cons l a h
  have hs : stepItem (l.drop a) = ⟨6, [], 1⟩ := by rw [hd]; simp [stepItem, hc, hb]
  have := skips_step l a h (by rw [hs]) (by rw [hs]; show a + 1 ≤ _; omega)
  rw [hs] at this
  exact this
theorem lineLen_to (l : List UInt8) (a j : Nat) (haj : a ≤ j) (hj : j ≤ l.length) (hno : ∀ i, a ≤ i → i < j → ¬ bt l i = 10) (hend : j = l.length ∨ bt l j = 10) : lineLen (l.drop a) = j - a := by
  obtain ⟨d, rfl⟩ : ∃ d, j = a + d := ⟨j - a, by omega⟩
  induction d generalizing a with
  | zero =>
    rcases Nat.lt_or_ge a l.length with h | h
    · obtain ⟨c, hc, hd⟩ := drop_cons l a h
      have : bt l a = 10 := by
        rcases hend with h' | h'
        · simp at h'; omega
        · simpa using h'
      rw [hd]; simp [lineLen, hc, this]
    · rw [drop_all l a h]; simp [lineLen]
  | succ d ih =>
    obtain ⟨c, hc, hd⟩ := drop_cons l a (by omega)
    have h1 := hno a (Nat.le_refl _) (by omega)
    have h2 := ih (a + 1) (by omega) (by omega) (fun i h3 h4 => hno i (by omega) (by omega)) (by rw [show a + 1 + d = a + (d + 1) from by omega]; exact hend)
    rw [hd]
    simp only [lineLen, hc, if_neg h1, h2]
    omega
theorem skips_line (l : List UInt8) (a j : Nat) (h : a < l.length) (haj : a ≤ j) (hj : j ≤ l.length) (hb : isBlankC (bt l a) = false) (hc : bt l a = 35) (hno : ∀ i, a ≤ i → i < j → ¬ bt l i = 10)
    (hend : j = l.length ∨ bt l j = 10) : Skips l a j := by
  obtain ⟨c, hc', hd⟩ := drop_cons l a h
  have hs : stepItem (l.drop a) = ⟨6, [], lineLen (l.drop a)⟩ := by rw [hd]; simp [stepItem, hc', hc, isBlankC]
  have hl := lineLen_to l a j haj hj hno hend
  rw [hl] at hs
  have := skips_step l a h (by rw [hs]) (by rw [hs]; show a + (j - a) ≤ _; omega)
  rw [hs] at this
  have e : a + (j - a) = j := by omega
  simpa only [e] using this
/-- A byte that is neither white space nor the beginning of a comment. -/
def Solid (c : Nat) : Prop := isBlankC c = false ∧ ¬ c = 35
theorem step_solid (l : List UInt8) (a : Nat) (h : a < l.length) (hs : Solid (bt l a)) : stepItem (l.drop a) = nextItem (l.drop a) := by
  obtain ⟨c, hc, hd⟩ := drop_cons l a h
  rw [hd]
  simp [stepItem, hc, hs.1, hs.2]
theorem nextItem_kind (s : List UInt8) : (nextItem s).kind ≠ 6 := by
  unfold nextItem
  split
  · simp
  · split
    · simp
    · split
      · split <;> simp
      · split
        · split <;> simp
        · split
          · split <;> simp
          · simp

theorem runLen_to (l : List UInt8) (a j : Nat) (haj : a ≤ j) (hj : j ≤ l.length) (hyes : ∀ i, a ≤ i → i < j → isInner (bt l i) = true) (hend : j = l.length ∨ isInner (bt l j) = false) : runLen (l.drop a) = j - a := by
  obtain ⟨d, rfl⟩ : ∃ d, j = a + d := ⟨j - a, by omega⟩
  induction d generalizing a with
  | zero =>
    rcases Nat.lt_or_ge a l.length with h | h
    · obtain ⟨c, hc, hd⟩ := drop_cons l a h
      have : isInner (bt l a) = false := by
        rcases hend with h' | h'
        · simp at h'; omega
        · simpa using h'
      rw [hd]; simp [runLen, hc, this]
    · rw [drop_all l a h]; simp [runLen]
  | succ d ih =>
    obtain ⟨c, hc, hd⟩ := drop_cons l a (by omega)
    have h1 := hyes a (Nat.le_refl _) (by omega)
    have h2 := ih (a + 1) (by omega) (by omega) (fun i h3 h4 => hyes i (by omega) (by omega)) (by rw [show a + 1 + d = a + (d + 1) from by omega]; exact hend)
    rw [hd]
    simp only [runLen, hc, h1, if_true, h2]
    omega

theorem cls_letter {c : Nat} : cls c = 2 ↔ isLetter c = true := by
  unfold cls; split <;> rename_i h
  · simp [h]
  · simp only [h]; split
    · simp
    · split
      · simp
      · split <;> simp
theorem isDigit_not_letter {c : Nat} (h : isDigit c = true) : isLetter c = false := by
  simp [isDigit] at h
  simp [isLetter]
  omega
theorem cls_digit {c : Nat} : cls c = 3 ↔ isDigit c = true := by
  unfold cls; split <;> rename_i h
  · have : isDigit c = false := by
      cases hd : isDigit c
      · rfl
      · rw [isDigit_not_letter hd] at h; cases h
    simp [this]
  · split <;> rename_i h1
    · simp [h1]
    · simp only [h1]; split
      · simp
      · split <;> simp
theorem sign_other {c : Nat} (h : isSignC c = true) : isLetter c = false ∧ isDigit c = false := by
  simp [isSignC] at h
  rcases h with (((((((((((h | h) | h) | h) | h) | h) | h) | h) | h) | h) | h) | h) | h <;> subst h <;> exact ⟨rfl, rfl⟩
theorem blank_other {c : Nat} (h : isBlankC c = true) : isLetter c = false ∧ isDigit c = false ∧ isSignC c = false := by
  simp [isBlankC] at h
  rcases h with ((h | h) | h) | h <;> subst h <;> exact ⟨rfl, rfl, rfl⟩
theorem cls_sign {c : Nat} : cls c = 4 ↔ isSignC c = true := by
  constructor
  · intro h
    unfold cls at h
    split at h
    · simp at h
    · split at h
      · simp at h
      · split at h
        · assumption
        · split at h <;> simp at h
  · intro h
    simp [cls, h, sign_other h]
theorem cls_blank {c : Nat} : cls c = 1 ↔ isBlankC c = true := by
  constructor
  · intro h
    unfold cls at h
    split at h
    · simp at h
    · split at h
      · simp at h
      · split at h
        · simp at h
        · split at h
          · assumption
          · simp at h
  · intro h
    simp [cls, h, blank_other h]
theorem cls_lt (c : Nat) : cls c < 5 := by unfold cls; (repeat' split) <;> omega
theorem inner_iff {c : Nat} : isInner c = true ↔ cls c = 2 ∨ cls c = 3 ∨ c = 95 := by
  rw [cls_letter, cls_digit]
  simp [isInner, or_assoc]
theorem inner_not {c : Nat} : isInner c = false ↔ ¬ cls c = 2 ∧ ¬ cls c = 3 ∧ ¬ c = 95 := by
  have h := inner_iff (c := c)
  cases hi : isInner c
  · rw [hi] at h
    simp at h
    simp [h]
  · rw [hi] at h
    simp at h
    simp
    intro h2 h3
    rcases h with h | h | h
    · exact absurd h h2
    · exact absurd h h3
    · exact h
end Go.Proofs.YtlgdmbdhffdenaaGreatDoor

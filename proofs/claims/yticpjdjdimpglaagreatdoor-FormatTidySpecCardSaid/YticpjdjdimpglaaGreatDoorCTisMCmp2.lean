/- Plain laws: the lexer on a text without invalid bytes and a line's end and another text. No program. -/
import Derived.Test.YticpjdjdimpglaaGreatDoorCTisMJoinPlain
import Derived.OwnWalk
import Derived.Laws.AppendOwn
import Derived.StillTail
import Derived.StillTactics
import Derived.Laws.OwnMore
import Derived.Lib.AppendStr
import Derived.Test.YticpjdjdimpglaaGreatDoorProg
import Derived.StillTailTactics
import Derived.Handy
import Derived.Deep.QuietTactic
import Derived.BigQuiet
import Derived.BigRegion
import Derived.Shelf.SlSortCmp.InsertionK
namespace Go.Proofs.YticpjdjdimpglaaGreatDoor
set_option linter.unusedVariables false
set_option linter.unusedSimpArgs false
/-- No invalid bytes. -/
def Clean (u : List UInt8) : Prop := ∀ i ∈ items u, i.kind ≠ 0
theorem Clean.step {u : List UInt8} (h : Clean u) (hu : u ≠ []) : (stepItem u).kind ≠ 0 ∧ Clean (u.drop (stepItem u).len) := by
  unfold Clean at h
  rw [items_cons u hu] at h
  exact ⟨h _ (by simp), fun i hi => h i (by simp [hi])⟩
/-- Kinds and texts of a text's tokens ahead of the end. -/
def lks (l : List UInt8) : List (Int × List UInt8) := (toks (items l)).map fun x => ((x.1 : Int), x.2)
end Go.Proofs.YticpjdjdimpglaaGreatDoor
/- Plain laws: the tokens of a text that is put together of words, numbers, signs and spaces. No program. -/
namespace Go.Proofs.YticpjdjdimpglaaGreatDoor
set_option linter.unusedVariables false
set_option linter.unusedSimpArgs false
/-- What may follow a word or a number. -/
def Stop (v : List UInt8) : Prop := isInner (bt v 0) = false
/-- The tokens of a text in front of another: a text reads as tokens. -/
def Reads (s : List UInt8) (ts : List (Int × List UInt8)) (v : List UInt8) : Prop := lks (s ++ v) = ts ++ lks v ∧ (Clean v → Clean (s ++ v))
theorem Reads.nil (v : List UInt8) : Reads [] [] v := ⟨rfl, fun h => h⟩
theorem Reads.app {s s' : List UInt8} {ts ts' : List (Int × List UInt8)} {v : List UInt8} (h : Reads s ts (s' ++ v)) (h' : Reads s' ts' v) : Reads (s ++ s') (ts ++ ts') v := by
  refine ⟨?_, fun hv => ?_⟩
  · rw [List.append_assoc, h.1, h'.1, List.append_assoc]
  · rw [List.append_assoc]; exact h.2 (h'.2 hv)
end Go.Proofs.YticpjdjdimpglaaGreatDoor
/- Plain laws: the tokens of a condition's printed text. No program. -/
namespace Go.Proofs.YticpjdjdimpglaaGreatDoor
set_option linter.unusedVariables false
set_option linter.unusedSimpArgs false
/-- One condition is valid. -/
def okC (c : CT) : Bool := (CF.one c .nil).okB
theorem okC_def (k v n : Int) (ps : CF) : okC ⟨k, v, n, ps⟩ = if k = 1 then decide (1 ≤ v ∧ v ≤ 4 ∧ 0 ≤ n ∧ n ≤ 64) && ps.num == 0
      else if k = 4 then decide (v = 0 ∧ n = 0) && ps.num == 1 && ps.okB
      else if k = 2 ∨ k = 3 then decide (v = 0 ∧ n = 0) && decide (1 ≤ ps.num ∧ ps.num ≤ 16) && ps.okB else false := by
  exact Bool.and_true _
theorem okB_cons (c : CT) (r : CF) : (CF.one c r).okB = (okC c && r.okB) := by
  rw [okC_def]
  rfl
theorem okB_mem : ∀ {F : CF}, F.okB = true → ∀ p ∈ F.toL, okC p = true
  | .nil, _, p, h => by cases h
  | .cons k v n ps r, hF, p, h => by
    have e : (CF.one ⟨k, v, n, ps⟩ r).okB = true := hF
    rw [okB_cons, Bool.and_eq_true] at e
    rcases List.mem_cons.1 h with rfl | h
    · exact e.1
    · exact okB_mem e.2 p h
theorem num_toL : ∀ F : CF, F.toL.length = F.num
  | .nil => rfl
  | .cons k v n ps r => by rw [CF.toL, List.length_cons, num_toL r]; rfl
theorem okC_cases {c : CT} (h : okC c = true) : (c.k = 1 ∧ 1 ≤ c.v ∧ c.v ≤ 4 ∧ 0 ≤ c.n ∧ c.n ≤ 64 ∧ c.ps = .nil) ∨ (c.k = 4 ∧ c.v = 0 ∧ c.n = 0 ∧ c.ps.num = 1 ∧ c.ps.okB = true) ∨
    ((c.k = 2 ∨ c.k = 3) ∧ c.v = 0 ∧ c.n = 0 ∧ 1 ≤ c.ps.num ∧ c.ps.num ≤ 16 ∧ c.ps.okB = true) := by
  obtain ⟨k, v, n, ps⟩ := c
  rw [okC_def] at h
  by_cases h1 : k = 1
  · rw [if_pos h1] at h
    simp only [Bool.and_eq_true, decide_eq_true_eq, beq_iff_eq] at h
    refine .inl ⟨h1, h.1.1, h.1.2.1, h.1.2.2.1, h.1.2.2.2, ?_⟩
    cases ps with
    | nil => rfl
    | cons => simp [CF.num] at h
  · rw [if_neg h1] at h
    by_cases h4 : k = 4
    · rw [if_pos h4] at h
      simp only [Bool.and_eq_true, decide_eq_true_eq, beq_iff_eq] at h
      exact .inr (.inl ⟨h4, h.1.1.1, h.1.1.2, h.1.2, h.2⟩)
    · rw [if_neg h4] at h
      by_cases h2 : k = 2 ∨ k = 3
      · rw [if_pos h2] at h
        simp only [Bool.and_eq_true, decide_eq_true_eq] at h
        exact .inr (.inr ⟨h2, h.1.1.1, h.1.1.2, h.1.2.1, h.1.2.2, h.2⟩)
      · rw [if_neg h2] at h; cases h
/-- The core of a valid condition. -/
theorem coreF_ok : ∀ (ps : CF) (k v n : Int), okC ⟨k, v, n, ps⟩ = true → okC (coreF k v n ps) = true ∧ (((coreF k v n ps).k = 2 ∨ (coreF k v n ps).k = 3) → 2 ≤ (coreF k v n ps).ps.num)
  | .nil, k, v, n, h => by
    refine ⟨h, fun h2 => ?_⟩
    have h2' : k = 2 ∨ k = 3 := h2
    rcases okC_cases h with h3 | h3 | h3
    · have := h3.1; simp only at this; omega
    · have := h3.1; simp only at this; omega
    · have := h3.2.2.2.1; simp [CF.num] at this
  | .cons k' v' n' ps' r', k, v, n, h => by
    unfold coreF
    split
    · next h2 =>
      obtain ⟨h2, rfl⟩ := h2
      refine coreF_ok ps' k' v' n' ?_
      rcases okC_cases h with h3 | h3 | h3
      · have := h3.1; simp only at this; omega
      · have := h3.1; simp only at this; omega
      · exact okB_mem h3.2.2.2.2.2 ⟨k', v', n', ps'⟩ (by simp [CF.toL])
    · next h2 =>
      refine ⟨h, fun h3 => ?_⟩
      have h3' : k = 2 ∨ k = 3 := h3
      have hr : r' ≠ .nil := fun e => h2 ⟨h3', e⟩
      show 2 ≤ r'.num + 1
      cases r' with
      | nil => exact absurd rfl hr
      | cons => simp [CF.num]
theorem core_ok {c : CT} (h : okC c = true) : okC (core c) = true ∧ (((core c).k = 2 ∨ (core c).k = 3) → 2 ≤ (core c).ps.num) := coreF_ok c.ps c.k c.v c.n h
theorem coreF_idem : ∀ (ps : CF) (k v n : Int), core (coreF k v n ps) = coreF k v n ps
  | .nil, k, v, n => rfl
  | .cons k' v' n' ps' r', k, v, n => by
    by_cases h : (k = 2 ∨ k = 3) ∧ r' = .nil
    · rw [show coreF k v n (.cons k' v' n' ps' r') = coreF k' v' n' ps' by rw [coreF, if_pos h]]
      exact coreF_idem ps' k' v' n'
    · rw [show coreF k v n (.cons k' v' n' ps' r') = ⟨k, v, n, .cons k' v' n' ps' r'⟩ by rw [coreF, if_neg h]]
      show coreF k v n (.cons k' v' n' ps' r') = _
      rw [coreF, if_neg h]
theorem core_idem (c : CT) : core (core c) = core c := coreF_idem c.ps c.k c.v c.n
end Go.Proofs.YticpjdjdimpglaaGreatDoor
/- Laws over any program: append of one element onto a slice of the call's own, the slice's shape kept in sight. -/
namespace Go.Proofs.YticpjdjdimpglaaGreatDoor
set_option linter.unusedVariables false
set_option linter.unusedSimpArgs false
open Go.RowKit
/-- What a law on append asks of the slice type t, element type e. -/
structure Elem (P : Program) (t e : TypeId) (size bytes : Nat) : Prop where
  ht : P.underlying t = some (.slice e)
  info : ∃ i z, P.info? e = some i ∧ i.zero = some z ∧ i.size = size ∧ i.bytes = bytes ∧ z.cells.size = size
  pos : 0 < size
theorem Elem.mk' {P : Program} {t e : TypeId} {size bytes : Nat} {z : Value} (ht : P.underlying t = some (.slice e)) (h : (P.info? e).map (fun i => (i.zero, i.size, i.bytes)) = some (some z, size, bytes)) (hz : z.cells.size = size) (hp : 0 < size) : Elem P t e size bytes := by
  obtain ⟨i, h1, h2, h3, h4⟩ := info_parts h
  exact ⟨ht, ⟨i, z, h1, h2, h3, h4, hz⟩, hp⟩
theorem own_shape {w : World} {B : Nat} {e : TypeId} {size n : Nat} {v : Value} {xs : List Value} (h : w.ownsRow B e size v n xs) : ∃ A c, v = .slice A n c := by
  rcases h.2 with ⟨rfl, rfl⟩ | ⟨g, cap, cur, rfl, _⟩
  · exact ⟨_, _, rfl⟩
  · exact ⟨_, _, rfl⟩
theorem own_lt {w : World} {B : Nat} {e : TypeId} {size n : Nat} {v : Value} {xs : List Value} (h : w.ownsRow B e size v n xs) : ∀ k, v.ownBlock = some k → B ≤ k ∧ k < w.heap.size := h.lt
theorem own_rd {w : World} {B : Nat} {e : TypeId} {size n c : Nat} {A : Option Addr} {xs : List Value} (h : w.ownsRow B e size (.slice A n c) n xs) : Rd w w.heap.size size A n c xs := by
  refine ⟨h.1, ?_, ?_, fun hn => ?_⟩
  · rcases h.2 with ⟨e1, rfl⟩ | ⟨g, cap, cur, e1, _, _, h1, h2, _⟩
    · omega
    · injection e1 with e2 e3 e4; omega
  · rcases h.2 with ⟨e1, rfl⟩ | ⟨g, cap, cur, e1, _, _, h1, h2, _⟩
    · injection e1 with e2 e3 e4; omega
    · injection e1 with e2 e3 e4
      unfold maxLen at h2
      omega
  · rcases h.2 with ⟨e1, rfl⟩ | ⟨g, cap, cur, e1, hg, hh, _⟩
    · omega
    · injection e1 with e2 e3 e4
      subst e2
      refine ⟨g, 0, rfl, (Array.getElem?_eq_some_iff.1 hh).1, fun j u hj => ?_⟩
      have := h.cells (g := g) rfl j u hj
      rw [Nat.zero_add]
      have hadd : (⟨g, 0, none⟩ : Addr).add j = ⟨g, j, none⟩ := by unfold Addr.add; split <;> simp_all
      rwa [hadd] at this
/-- A cell of an owned slice, with its block. -/
theorem own_below {w w' : World} {B B' : Nat} {e : TypeId} {size n : Nat} {v : Value} {xs : List Value} (h : w.ownsRow B e size v n xs) (hb : Below B' w w') (hB : ∀ k, v.ownBlock = some k → k < B') : w'.ownsRow B e size v n xs := by
  refine ⟨h.1, ?_⟩
  rcases h.2 with hn | ⟨g, cap, cur, rfl, hg, hgg, rest⟩
  · exact .inl hn
  · refine .inr ⟨g, cap, cur, rfl, hg, ?_, rest⟩
    rw [hb.block g (hB g rfl)]
    exact hgg
theorem own_below_all {w w' : World} {B : Nat} {e : TypeId} {size n : Nat} {v : Value} {xs : List Value} (h : w.ownsRow B e size v n xs) (hb : Below w.heap.size w w') : w'.ownsRow B e size v n xs :=
  own_below h hb fun k hk => (h.lt k hk).2
section
variable {P : Program} {ops : Array Oper} {rest : List Oper} {o : Oper} {a : Act} {w : World} {Q : Exit → Act → World → Prop}
theorem wp_push {K : Act → World → Prop} {t e : TypeId} {size bytes : Nat} (E : Elem P t e size bytes) (s x : Operand)
    (ho : o.op = .call { callee := .builtin .append, args := #[s, x], argTypes := #[t, t] })
    (B : Nat) (A : Option Addr) (n c : Nat) (xs : List Value) (hs : a.eval s = .slice A n c) (hown : w.ownsRow B e size (.slice A n c) n xs)
    (g : Nat) (hx : a.eval x = .slice (some ⟨g, 0, none⟩) 1 1) (news : List Value) (hl : news.length = size) (hnews : ∀ j u, news[j]? = some u → w.cell? ⟨g, j, none⟩ = some u) (h1 : ∀ u ∈ news, u.oneCell' = true)
    (hbytes : (n + 1) * bytes ≤ 140737488355328) (h63 : n + 1 ≤ 9223372036854775807) (hbase : B ≤ w.heap.size)
    (h : ∀ A' c' w', w'.ownsRow B e size (.slice A' (n + 1) c') (n + 1) (xs ++ news) → Below B w w' → w.grownBy w' (Value.slice A n c).ownBlock → K (a.put o.dst (.slice A' (n + 1) c')) w') : o.wp P a w K Q := by
  obtain ⟨i, z, hi, hz, hsize, hby, hzs⟩ := E.info
  refine wp_append_own w s x t ho B e i z size bytes E.ht hi hz hsize hby hzs E.pos _ n xs hs hown ⟨g, 0, none⟩ 1 1 news hx (by omega) (fun j u hj => ?_) h1 h63 hbytes hbase ?_
  · have hadd : (⟨g, 0, none⟩ : Addr).add j = ⟨g, j, none⟩ := by unfold Addr.add; split <;> simp_all
    rw [hadd]
    exact hnews j u hj
  · intro v' w' hown' hg _
    obtain ⟨A', c', rfl⟩ := own_shape hown'
    exact h A' c' w' hown' ((Below.refl B w).grown hg hbase (fun k hk => (hown.lt k hk).1)) hg
theorem wpList_push {t e : TypeId} {size bytes : Nat} (E : Elem P t e size bytes) (hgd : o.guard = none) (s x : Operand)
    (ho : o.op = .call { callee := .builtin .append, args := #[s, x], argTypes := #[t, t] })
    (B : Nat) (A : Option Addr) (n c : Nat) (xs : List Value) (hs : a.eval s = .slice A n c) (hown : w.ownsRow B e size (.slice A n c) n xs)
    (g : Nat) (hx : a.eval x = .slice (some ⟨g, 0, none⟩) 1 1) (news : List Value) (hl : news.length = size) (hnews : ∀ j u, news[j]? = some u → w.cell? ⟨g, j, none⟩ = some u) (h1 : ∀ u ∈ news, u.oneCell' = true)
    (hbytes : (n + 1) * bytes ≤ 140737488355328) (h63 : n + 1 ≤ 9223372036854775807) (hbase : B ≤ w.heap.size)
    (h : ∀ A' c' w', w'.ownsRow B e size (.slice A' (n + 1) c') (n + 1) (xs ++ news) → Below B w w' → w.grownBy w' (Value.slice A n c).ownBlock → wpList P ops Q rest (a.put o.dst (.slice A' (n + 1) c')) w') : wpList P ops Q (o :: rest) a w :=
  wpList_plain hgd fun _ hK => wp_push E s x ho B A n c xs hs hown g hx news hl hnews h1 hbytes h63 hbase fun A' c' w' h2 h3 h4 => hK _ _ (h A' c' w' h2 h3 h4)
end
/-- Cells of a new block at its head. -/
theorem new_cells (w : World) (cs : List Value) (t : TypeId) : ∀ j u, cs[j]? = some u → (w.alloc (.cells cs.toArray t)).cell? ⟨w.heap.size, j, none⟩ = some u := by
  intro j u hj
  rw [cell_of_row _ _ _ _ _ _ (heap_alloc_new w _)]
  simpa using hj
end Go.Proofs.YticpjdjdimpglaaGreatDoor
/- Worlds that differ in some blocks alone. No program. -/
namespace Go.Proofs.YticpjdjdimpglaaGreatDoor
set_option linter.unusedVariables false
set_option linter.unusedSimpArgs false
open Go.RowKit
/-- Only the blocks of S, and what is new, have turned. -/
structure Only (S : Nat → Prop) (w w' : World) : Prop where
  os : w'.os = w.os
  tape : w'.tape = w.tape
  output : w'.output = w.output
  size : w.heap.size ≤ w'.heap.size
  block : ∀ k, k < w.heap.size → ¬ S k → w'.heap[k]? = w.heap[k]?
section
variable {S : Nat → Prop} {w w' w'' : World}
theorem Only.refl (S : Nat → Prop) (w : World) : Only S w w := ⟨rfl, rfl, rfl, Nat.le_refl _, fun _ _ _ => rfl⟩
theorem Only.trans (h : Only S w w') (k : Only S w' w'') : Only S w w'' :=
  ⟨k.os.trans h.os, k.tape.trans h.tape, k.output.trans h.output, Nat.le_trans h.size k.size, fun i hi hn => (k.block i (Nat.lt_of_lt_of_le hi h.size) hn).trans (h.block i hi hn)⟩
theorem Only.of_below (h : Below w.heap.size w w') : Only S w w' := ⟨h.os, h.tape, h.output, h.size, fun k hk _ => h.block k hk⟩
theorem Only.of_grown {row : Option Nat} (h : w.grownBy w' row) (hr : ∀ k, row = some k → S k) : Only S w w' :=
  ⟨h.os, h.tape, h.output, h.size, fun k hk hn => h.block k hk (fun e => hn (hr k e.symm))⟩
theorem Only.set (w : World) {p : Addr} (hp : S p.block) (u : Value) : Only S w (w.setCell p u) :=
  ⟨rfl, rfl, rfl, by simp [World.setCell], fun k _ hn => Below.heap_setCell _ _ _ _ (fun e => hn (e ▸ hp))⟩
theorem Only.below {B : Nat} {w0 : World} (h : Only S w w') (hb : Below B w0 w) (hB : B ≤ w.heap.size) (hS : ∀ k, S k → B ≤ k) : Below B w0 w' :=
  hb.trans ⟨h.os, h.tape, h.output, h.size, fun k hk => h.block k (by omega) (fun hs => by have := hS k hs; omega)⟩
theorem Blk.only {g : Nat} {t : TypeId} {cs : Array Value} (hb : Blk w g t cs) (h : Only S w w') (hn : ¬ S g) : Blk w' g t cs := (h.block g hb.lt hn).trans hb
theorem own_only {B : Nat} {e : TypeId} {size n : Nat} {v : Value} {xs : List Value} (ho : w.ownsRow B e size v n xs) (h : Only S w w') (hn : ∀ k, v.ownBlock = some k → ¬ S k) : w'.ownsRow B e size v n xs := by
  refine ⟨ho.1, ?_⟩
  rcases ho.2 with h1 | ⟨g, cap, cur, rfl, hg, hgg, rest⟩
  · exact .inl h1
  · exact .inr ⟨g, cap, cur, rfl, hg, (h.block g (Array.getElem?_eq_some_iff.1 hgg).1 (hn g rfl)).trans hgg, rest⟩
theorem Rd.only {B size n c : Nat} {A : Option Addr} {xs : List Value} (hr : Rd w B size A n c xs) (h : Only S w w') (hB : B ≤ w.heap.size) (hn : ∀ k, k < B → ¬ S k) : Rd w' B size A n c xs :=
  hr.keep fun p hp => World.cell?_of_block (h.block p.block (by omega) (hn p.block hp))
end
end Go.Proofs.YticpjdjdimpglaaGreatDoor
/- What the parser's things look like in memory: conditions in a row, steps in a row, zones, rules; blocks of a set S are kept clear of. -/
namespace Go.Proofs.YticpjdjdimpglaaGreatDoor
set_option linter.unusedVariables false
set_option linter.unusedSimpArgs false
open Go.RowKit
def vi (x : Int) : Value := .int .i64 x
/-- The slice's block is not one of S. -/
def Av (S : Nat → Prop) (A : Option Addr) (m : Nat) : Prop := 0 < m → ∀ p, A = some p → ¬ S p.block
def RepF (S : Nat → Prop) (w : World) : CF → List Value → Prop
  | .nil, xs => xs = []
  | .cons k v n ps r, xs => ∃ A m c ys zs, xs = vi k :: vi v :: vi n :: .slice A m c :: zs ∧ (Rd w w.heap.size 4 A m c ys ∧ Av S A m ∧ RepF S w ps ys) ∧ RepF S w r zs
/-- A row of conditions by its slice. -/
def RepH (S : Nat → Prop) (w : World) (F : CF) (A : Option Addr) (m c : Nat) : Prop := ∃ ys, Rd w w.heap.size 4 A m c ys ∧ Av S A m ∧ RepF S w F ys
def RepS (S : Nat → Prop) (w : World) : SF → List Value → Prop
  | .nil, xs => xs = []
  | .cons k b ck cv cn cps th el r, xs => ∃ A m c A1 m1 c1 A2 m2 c2 zs, xs = vi k :: vi b :: vi ck :: vi cv :: vi cn :: .slice A m c :: .slice A1 m1 c1 :: .slice A2 m2 c2 :: zs ∧
    RepH S w cps A m c ∧ (∃ ys, Rd w w.heap.size 8 A1 m1 c1 ys ∧ Av S A1 m1 ∧ RepS S w th ys) ∧ (∃ ys, Rd w w.heap.size 8 A2 m2 c2 ys ∧ Av S A2 m2 ∧ RepS S w el ys) ∧ RepS S w r zs
def RepT (S : Nat → Prop) (w : World) (F : SF) (A : Option Addr) (m c : Nat) : Prop := ∃ ys, Rd w w.heap.size 8 A m c ys ∧ Av S A m ∧ RepS S w F ys
def zoneCells (z : ZT) : List Value := [.string (bs z.name), vi z.fr, vi z.to]
def RepZ (S : Nat → Prop) (w : World) (l : List ZT) (A : Option Addr) (m c : Nat) : Prop := Rd w w.heap.size 3 A m c (l.flatMap zoneCells) ∧ Av S A m
def CF.app : CF → CF → CF
  | .nil, y => y
  | .cons k v n ps r, y => .cons k v n ps (r.app y)
def SF.app : SF → SF → SF
  | .nil, y => y
  | .cons k b ck cv cn cps th el r, y => .cons k b ck cv cn cps th el (r.app y)
def CF.len : CF → Nat
  | .nil => 0
  | .cons _ _ _ _ r => r.len + 1
def SF.len : SF → Nat
  | .nil => 0
  | .cons _ _ _ _ _ _ _ _ r => r.len + 1
theorem Av.none (S : Nat → Prop) : Av S none 0 := fun h => absurd h (by omega)
theorem Av.sub {S S' : Nat → Prop} {A : Option Addr} {m : Nat} (h : Av S A m) (hs : ∀ k, S' k → S k) : Av S' A m := fun hm p e hp => h hm p e (hs _ hp)
theorem Rd.av {S S' : Nat → Prop} {w w' : World} {size n c : Nat} {A : Option Addr} {xs : List Value} (h : Rd w w.heap.size size A n c xs) (ha : Av S A n) (ho : Only S' w w') (hs : ∀ k, S' k → S k) : Rd w' w'.heap.size size A n c xs := by
  refine ⟨h.len, h.cap, h.big, fun hn => ?_⟩
  obtain ⟨b, off, e, hb, hc⟩ := h.cells hn
  exact ⟨b, off, e, Nat.lt_of_lt_of_le hb ho.size, fun j u hu => (World.cell?_of_block (ho.block b hb (fun k => ha hn _ e (hs _ k)))).trans (hc j u hu)⟩
section
variable {S S' : Nat → Prop} {w w' : World}
theorem RepF.only (ho : Only S' w w') (hs : ∀ k, S' k → S k) : ∀ {F : CF} {xs : List Value}, RepF S w F xs → RepF S w' F xs
  | .nil, _, h => h
  | .cons .., _, h => by
    obtain ⟨A, m, c, ys, zs, e, ⟨h1, h2, h3⟩, h4⟩ := h
    exact ⟨A, m, c, ys, zs, e, ⟨h1.av h2 ho hs, h2, RepF.only ho hs h3⟩, RepF.only ho hs h4⟩
theorem RepF.sub (hs : ∀ k, S' k → S k) : ∀ {F : CF} {xs : List Value}, RepF S w F xs → RepF S' w F xs
  | .nil, _, h => h
  | .cons .., _, h => by
    obtain ⟨A, m, c, ys, zs, e, ⟨h1, h2, h3⟩, h4⟩ := h
    exact ⟨A, m, c, ys, zs, e, ⟨h1, h2.sub hs, RepF.sub hs h3⟩, RepF.sub hs h4⟩
theorem RepH.only (ho : Only S' w w') (hs : ∀ k, S' k → S k) {F : CF} {A : Option Addr} {m c : Nat} (h : RepH S w F A m c) : RepH S w' F A m c := by
  obtain ⟨ys, h1, h2, h3⟩ := h
  exact ⟨ys, h1.av h2 ho hs, h2, RepF.only ho hs h3⟩
theorem RepH.sub (hs : ∀ k, S' k → S k) {F : CF} {A : Option Addr} {m c : Nat} (h : RepH S w F A m c) : RepH S' w F A m c := by
  obtain ⟨ys, h1, h2, h3⟩ := h
  exact ⟨ys, h1, h2.sub hs, RepF.sub hs h3⟩
theorem RepS.only (ho : Only S' w w') (hs : ∀ k, S' k → S k) : ∀ {F : SF} {xs : List Value}, RepS S w F xs → RepS S w' F xs
  | .nil, _, h => h
  | .cons .., _, h => by
    obtain ⟨A, m, c, A1, m1, c1, A2, m2, c2, zs, e, hc, ⟨y1, a1, a2, a3⟩, ⟨y2, b1, b2, b3⟩, h4⟩ := h
    exact ⟨A, m, c, A1, m1, c1, A2, m2, c2, zs, e, hc.only ho hs, ⟨y1, a1.av a2 ho hs, a2, RepS.only ho hs a3⟩, ⟨y2, b1.av b2 ho hs, b2, RepS.only ho hs b3⟩, RepS.only ho hs h4⟩
theorem RepS.sub (hs : ∀ k, S' k → S k) : ∀ {F : SF} {xs : List Value}, RepS S w F xs → RepS S' w F xs
  | .nil, _, h => h
  | .cons .., _, h => by
    obtain ⟨A, m, c, A1, m1, c1, A2, m2, c2, zs, e, hc, ⟨y1, a1, a2, a3⟩, ⟨y2, b1, b2, b3⟩, h4⟩ := h
    exact ⟨A, m, c, A1, m1, c1, A2, m2, c2, zs, e, hc.sub hs, ⟨y1, a1, a2.sub hs, RepS.sub hs a3⟩, ⟨y2, b1, b2.sub hs, RepS.sub hs b3⟩, RepS.sub hs h4⟩
theorem RepT.only (ho : Only S' w w') (hs : ∀ k, S' k → S k) {F : SF} {A : Option Addr} {m c : Nat} (h : RepT S w F A m c) : RepT S w' F A m c := by
  obtain ⟨ys, h1, h2, h3⟩ := h
  exact ⟨ys, h1.av h2 ho hs, h2, RepS.only ho hs h3⟩
theorem RepT.sub (hs : ∀ k, S' k → S k) {F : SF} {A : Option Addr} {m c : Nat} (h : RepT S w F A m c) : RepT S' w F A m c := by
  obtain ⟨ys, h1, h2, h3⟩ := h
  exact ⟨ys, h1, h2.sub hs, RepS.sub hs h3⟩
theorem RepZ.only (ho : Only S' w w') (hs : ∀ k, S' k → S k) {l : List ZT} {A : Option Addr} {m c : Nat} (h : RepZ S w l A m c) : RepZ S w' l A m c := ⟨h.1.av h.2 ho hs, h.2⟩
theorem RepZ.sub (hs : ∀ k, S' k → S k) {l : List ZT} {A : Option Addr} {m c : Nat} (h : RepZ S w l A m c) : RepZ S' w l A m c := ⟨h.1, h.2.sub hs⟩
theorem RepF.app : ∀ {F G : CF} {xs ys : List Value}, RepF S w F xs → RepF S w G ys → RepF S w (F.app G) (xs ++ ys)
  | .nil, _, _, _, h, k => by rw [show _ = [] from h]; exact k
  | .cons .., _, _, _, h, k => by
    obtain ⟨A, m, c, y, zs, rfl, h1, h4⟩ := h
    exact ⟨A, m, c, y, zs ++ _, rfl, h1, RepF.app h4 k⟩
theorem RepS.app : ∀ {F G : SF} {xs ys : List Value}, RepS S w F xs → RepS S w G ys → RepS S w (F.app G) (xs ++ ys)
  | .nil, _, _, _, h, k => by rw [show _ = [] from h]; exact k
  | .cons .., _, _, _, h, k => by
    obtain ⟨A, m, c, A1, m1, c1, A2, m2, c2, zs, rfl, h1, h2, h3, h4⟩ := h
    exact ⟨A, m, c, A1, m1, c1, A2, m2, c2, zs ++ _, rfl, h1, h2, h3, RepS.app h4 k⟩
theorem RepF.len : ∀ {F : CF} {xs : List Value}, RepF S w F xs → xs.length = F.len * 4
  | .nil, _, h => by rw [show _ = [] from h]; rfl
  | .cons .., _, h => by
    obtain ⟨A, m, c, y, zs, rfl, h1, h4⟩ := h
    simp [CF.len, RepF.len h4]
    omega
theorem RepS.len : ∀ {F : SF} {xs : List Value}, RepS S w F xs → xs.length = F.len * 8
  | .nil, _, h => by rw [show _ = [] from h]; rfl
  | .cons .., _, h => by
    obtain ⟨A, m, c, A1, m1, c1, A2, m2, c2, zs, rfl, h1, h2, h3, h4⟩ := h
    simp [SF.len, RepS.len h4]
    omega
theorem RepH.len {F : CF} {A : Option Addr} {m c : Nat} (h : RepH S w F A m c) : m = F.len := by
  obtain ⟨ys, h1, h2, h3⟩ := h
  have := h1.len
  rw [h3.len] at this
  omega
theorem RepT.len {F : SF} {A : Option Addr} {m c : Nat} (h : RepT S w F A m c) : m = F.len := by
  obtain ⟨ys, h1, h2, h3⟩ := h
  have := h1.len
  rw [h3.len] at this
  omega
/-- No row. -/
theorem RepH.nil : RepH S w .nil none 0 0 := ⟨[], Rd.nil, Av.none S, rfl⟩
theorem RepT.nil : RepT S w .nil none 0 0 := ⟨[], Rd.nil, Av.none S, rfl⟩
theorem RepZ.nil : RepZ S w [] none 0 0 := ⟨Rd.nil, Av.none S⟩
/-- What is new keeps clear, too. -/
theorem Rd.lt_av {size n c : Nat} {A : Option Addr} {xs : List Value} (h : Rd w w.heap.size size A n c xs) (ha : Av S A n) : Av (fun k => S k ∨ w.heap.size ≤ k) A n := by
  intro hn p ep hp
  rcases hp with hp | hp
  · exact ha hn p ep hp
  obtain ⟨b, off, e, hb, _⟩ := h.cells hn
  rw [e] at ep
  cases ep
  have hp' : w.heap.size ≤ b := hp
  omega
theorem RepF.new : ∀ {F : CF} {xs : List Value}, RepF S w F xs → RepF (fun k => S k ∨ w.heap.size ≤ k) w F xs
  | .nil, _, h => h
  | .cons .., _, h => by
    obtain ⟨A, m, c, ys, zs, e, ⟨h1, h2, h3⟩, h4⟩ := h
    exact ⟨A, m, c, ys, zs, e, ⟨h1, h1.lt_av h2, RepF.new h3⟩, RepF.new h4⟩
theorem RepH.new {F : CF} {A : Option Addr} {m c : Nat} (h : RepH S w F A m c) : RepH (fun k => S k ∨ w.heap.size ≤ k) w F A m c := by
  obtain ⟨ys, h1, h2, h3⟩ := h
  exact ⟨ys, h1, h1.lt_av h2, h3.new⟩
theorem RepS.new : ∀ {F : SF} {xs : List Value}, RepS S w F xs → RepS (fun k => S k ∨ w.heap.size ≤ k) w F xs
  | .nil, _, h => h
  | .cons .., _, h => by
    obtain ⟨A, m, c, A1, m1, c1, A2, m2, c2, zs, e, hc, ⟨y1, a1, a2, a3⟩, ⟨y2, b1, b2, b3⟩, h4⟩ := h
    exact ⟨A, m, c, A1, m1, c1, A2, m2, c2, zs, e, hc.new, ⟨y1, a1, a1.lt_av a2, RepS.new a3⟩, ⟨y2, b1, b1.lt_av b2, RepS.new b3⟩, RepS.new h4⟩
theorem RepT.new {F : SF} {A : Option Addr} {m c : Nat} (h : RepT S w F A m c) : RepT (fun k => S k ∨ w.heap.size ≤ k) w F A m c := by
  obtain ⟨ys, h1, h2, h3⟩ := h
  exact ⟨ys, h1, h1.lt_av h2, h3.new⟩
theorem RepZ.new {l : List ZT} {A : Option Addr} {m c : Nat} (h : RepZ S w l A m c) : RepZ (fun k => S k ∨ w.heap.size ≤ k) w l A m c := ⟨h.1, h.1.lt_av h.2⟩
end
end Go.Proofs.YticpjdjdimpglaaGreatDoor
/- A struct in a box of its own; a row of conditions in a block of its own. -/
namespace Go.Proofs.YticpjdjdimpglaaGreatDoor
set_option linter.unusedVariables false
set_option linter.unusedSimpArgs false
open Go.RowKit
section
variable {w w' w'' : World} {b : Nat} {t : TypeId}
theorem Blk.four {x0 x1 x2 x3 : Value} (h : Blk w b t #[x0, x1, x2, x3]) : w.cell? ⟨b, 0, none⟩ = some x0 ∧ w.cell? ⟨b, 1, none⟩ = some x1 ∧ w.cell? ⟨b, 2, none⟩ = some x2 ∧ w.cell? ⟨b, 3, none⟩ = some x3 ∧
    w.frozen? ⟨b, 0, none⟩ = false ∧ w.frozen? ⟨b, 1, none⟩ = false ∧ w.frozen? ⟨b, 2, none⟩ = false ∧ w.frozen? ⟨b, 3, none⟩ = false :=
  ⟨by rw [h.cell]; rfl, by rw [h.cell]; rfl, by rw [h.cell]; rfl, by rw [h.cell]; rfl, h.frozen 0, h.frozen 1, h.frozen 2, h.frozen 3⟩
theorem Blk.set4 {x0 x1 x2 x3 y0 y1 y2 y3 : Value} (h : Blk w b t #[x0, x1, x2, x3]) :
    Blk ((((w.setCell ⟨b, 0, none⟩ y0).setCell ⟨b, 1, none⟩ y1).setCell ⟨b, 2, none⟩ y2).setCell ⟨b, 3, none⟩ y3) b t #[y0, y1, y2, y3] ∧
    Only (· = b) w ((((w.setCell ⟨b, 0, none⟩ y0).setCell ⟨b, 1, none⟩ y1).setCell ⟨b, 2, none⟩ y2).setCell ⟨b, 3, none⟩ y3) :=
  ⟨(((h.set 0 _).set 1 _).set 2 _).set 3 _,
   ((((Only.refl _ _).trans (Only.set (S := (· = b)) _ (p := ⟨b, 0, none⟩) rfl _)).trans (Only.set (S := (· = b)) _ (p := ⟨b, 1, none⟩) rfl _)).trans (Only.set (S := (· = b)) _ (p := ⟨b, 2, none⟩) rfl _)).trans (Only.set (S := (· = b)) _ (p := ⟨b, 3, none⟩) rfl _)⟩
/-- What is written into a new block does not count. -/
theorem Only.new {S S' : Nat → Prop} (h : Only S w w') (h' : Only S' w' w'') (hs : ∀ k, S' k → w.heap.size ≤ k) : Only S w w'' :=
  ⟨h'.os.trans h.os, h'.tape.trans h.tape, h'.output.trans h.output, Nat.le_trans h.size h'.size, fun i hi hn =>
    (h'.block i (Nat.lt_of_lt_of_le hi h.size) (fun hq => by have := hs i hq; omega)).trans (h.block i hi hn)⟩
/-- A row of conditions that is a block of its own. -/
theorem RepH.blk {S : Nat → Prop} {F : CF} {xs : List Value} (h : Blk w b t xs.toArray) (hF : RepF S w F xs) (hS : ¬ S b) (hm : F.len ≤ 1000000) : RepH S w F (some ⟨b, 0, none⟩) F.len F.len :=
  ⟨xs, ⟨hF.len, Nat.le_refl _, by omega, fun _ => ⟨b, 0, rfl, h.lt, fun j u hj => by rw [h.cell, Nat.zero_add]; simpa using hj⟩⟩, fun _ p hp => by cases hp; exact hS, hF⟩
theorem RepF.cons {S : Nat → Prop} {k v n : Int} {ps r : CF} {A : Option Addr} {m c : Nat} {zs : List Value} (h : RepH S w ps A m c) (hr : RepF S w r zs) : RepF S w (.cons k v n ps r) (vi k :: vi v :: vi n :: .slice A m c :: zs) := by
  obtain ⟨ys, h1, h2, h3⟩ := h
  exact ⟨A, m, c, ys, zs, rfl, ⟨h1, h2, h3⟩, hr⟩
end
end Go.Proofs.YticpjdjdimpglaaGreatDoor
/- The world at hand by a name of its own (a line 'go_world W hW' of a template is written out by fill.py). -/
namespace Go.Proofs.YticpjdjdimpglaaGreatDoor
set_option linter.unusedVariables false
set_option linter.unusedSimpArgs false
section
variable {P : Program} {ops : Array Oper} {rest : List Oper} {o : Oper} {a : Act} {Q : Exit → Act → World → Prop} {w : World}
theorem calls_named {f : FuncId} {args : Array Value} {R : Ending → World → Prop} (h : ∀ W, w = W → Calls P f args W R) : Calls P f args w R := h w rfl
theorem body_named {fn : Func} {R : Ending → World → Prop} {e : Exit} (h : ∀ W, w = W → bodyPost P fn R e a W) : bodyPost P fn R e a w := h w rfl
theorem wp_named {c : Code} (h : ∀ W, w = W → c.wp P Q a W) : c.wp P Q a w := h w rfl
theorem wpList_named {l : List Oper} (h : ∀ W, w = W → wpList P ops Q l a W) : wpList P ops Q l a w := h w rfl
theorem at_op (op : Op) (ho : o.op = op) (h : wpList P ops Q (o :: rest) a w) : wpList P ops Q (o :: rest) a w := h
end
end Go.Proofs.YticpjdjdimpglaaGreatDoor
/- Laws over any program: append of a slice, or of a string, onto a slice of the call's own. -/
namespace Go.Proofs.YticpjdjdimpglaaGreatDoor
set_option linter.unusedVariables false
set_option linter.unusedSimpArgs false
open Go.RowKit
section
variable {P : Program} {ops : Array Oper} {rest : List Oper} {o : Oper} {a : Act} {w : World} {Q : Exit → Act → World → Prop}
theorem run_app_none (base : Nat) (t ty e : TypeId) (i : TypeInfo) (size : Nat) (ht : P.underlying t = some (.slice e)) (hi : P.info? e = some i)
    (v : Value) (n c : Nat) (xs : List Value) (hown : w.ownsRow base e size v n xs) :
    (Builtin.append_ #[t, t] ty #[v, .slice none 0 c]).run P w = .ok v w := by
  rcases hown.2 with ⟨rfl, rfl⟩ | ⟨g, cap, cur, rfl, _, _, hnc, _⟩
  · simp [Builtin.append_, run_underlying ht, sizeOf, typeInfo, hi, Builtin.lenOf, Builtin.firstCells]
  · simp [Builtin.append_, run_underlying ht, sizeOf, typeInfo, hi, Builtin.lenOf, Builtin.firstCells, hnc, storeCells]
theorem wp_app {K : Act → World → Prop} {t e : TypeId} {size bytes : Nat} (E : Elem P t e size bytes) (s x : Operand)
    (ho : o.op = .call { callee := .builtin .append, args := #[s, x], argTypes := #[t, t] })
    (B : Nat) (A : Option Addr) (n c : Nat) (xs : List Value) (hs : a.eval s = .slice A n c) (hown : w.ownsRow B e size (.slice A n c) n xs)
    (B' : Nat) (X : Option Addr) (m c' : Nat) (hx : a.eval x = .slice X m c') (news : List Value) (hr : Rd w B' size X m c' news) (h1 : ∀ u ∈ news, u.oneCell' = true)
    (hbytes : (n + m) * bytes ≤ 140737488355328) (h63 : n + m ≤ 9223372036854775807) (hbase : B ≤ w.heap.size)
    (h : ∀ A' c' w', w'.ownsRow B e size (.slice A' (n + m) c') (n + m) (xs ++ news) → Below B w w' → w.grownBy w' (Value.slice A n c).ownBlock → K (a.put o.dst (.slice A' (n + m) c')) w') : o.wp P a w K Q := by
  obtain ⟨i, z, hi, hz, hsize, hby, hzs⟩ := E.info
  rcases X with _ | ad
  · have hm : m = 0 := by
      rcases Nat.eq_zero_or_pos m with h0 | h0
      · exact h0
      · obtain ⟨b, off, e, _⟩ := hr.cells h0
        cases e
    subst hm
    have hn : news = [] := List.eq_nil_of_length_eq_zero (by have := hr.len; simpa using this)
    subst hn
    have hrun := run_app_none (P := P) B t o.type e i size E.ht hi _ n c' xs hown
    unfold Oper.wp execOp
    simp only [ho, resolve, invoke, builtin, Sem.run_bind, Sem.run_pure, Result.andThen_ok, List.map_toArray, List.map_cons, List.map_nil, hs, hx, hrun]
    exact h A c w (by simpa using hown) (Below.refl _ _) ⟨rfl, rfl, rfl, Nat.le_refl _, fun _ _ _ => rfl⟩
  · refine wp_append_own w s x t ho B e i z size bytes E.ht hi hz hsize hby hzs E.pos _ n xs hs hown ad m c' news hx hr.len (fun j u hj => ?_) h1 h63 hbytes hbase ?_
    · have h0 : 0 < m := by
        rcases Nat.eq_zero_or_pos m with h0 | h0
        · have hl := hr.len
          rw [h0, Nat.zero_mul] at hl
          rw [List.eq_nil_of_length_eq_zero hl] at hj
          cases hj
        · exact h0
      obtain ⟨b, off, e, _, hc⟩ := hr.cells h0
      injection e with e
      subst e
      have hadd : (⟨b, off, none⟩ : Addr).add j = ⟨b, off + j, none⟩ := by unfold Addr.add; split <;> simp_all
      rw [hadd]
      exact hc j u hj
    · intro v' w' hown' hg _
      obtain ⟨A', c', rfl⟩ := own_shape hown'
      exact h A' c' w' hown' ((Below.refl B w).grown hg hbase (fun k hk => (hown.lt k hk).1)) hg
theorem step_app {K : Act → World → Prop} {F : Prop} {t e : TypeId} {size bytes : Nat} (E : Elem P t e size bytes) (hgd : o.guard = none) (s x : Operand)
    (ho : o.op = .call { callee := .builtin .append, args := #[s, x], argTypes := #[t, t] })
    (B : Nat) (A : Option Addr) (n c : Nat) (xs : List Value) (hs : a.eval s = .slice A n c) (hown : w.ownsRow B e size (.slice A n c) n xs)
    (B' : Nat) (X : Option Addr) (m c' : Nat) (hx : a.eval x = .slice X m c') (news : List Value) (hr : Rd w B' size X m c' news) (h1 : ∀ u ∈ news, u.oneCell' = true)
    (hbytes : (n + m) * bytes ≤ 140737488355328) (h63 : n + m ≤ 9223372036854775807) (hbase : B ≤ w.heap.size)
    (h : ∀ A' c' w', w'.ownsRow B e size (.slice A' (n + m) c') (n + m) (xs ++ news) → Below B w w' → w.grownBy w' (Value.slice A n c).ownBlock → K (a.put o.dst (.slice A' (n + m) c')) w') :
    if Region.wanted o (yielded ops a.tmps) = true then Oper.wp P o a w K Q else F := by
  have hw : Region.wanted o (yielded ops a.tmps) = true := by simp [Region.wanted, hgd]
  rw [if_pos hw]
  exact wp_app E s x ho B A n c xs hs hown B' X m c' hx news hr h1 hbytes h63 hbase h
end
end Go.Proofs.YticpjdjdimpglaaGreatDoor
/- Law over any program: append onto a slice of the call's own lands in its own block or in a new one. -/
namespace Go.Proofs.YticpjdjdimpglaaGreatDoor
set_option linter.unusedVariables false
set_option linter.unusedSimpArgs false
open Go.RowKit
section
variable {P : Program} {ops : Array Oper} {rest : List Oper} {o : Oper} {a : Act} {w : World} {Q : Exit → Act → World → Prop}
theorem run_push_apart {t e : TypeId} {size bytes : Nat} (E : Elem P t e size bytes) (ty : TypeId) (B : Nat) (v : Value) (n : Nat) (xs : List Value) (hown : w.ownsRow B e size v n xs)
    (ad : Addr) (m c : Nat) (news : List Value) (hl : news.length = m * size) (hnews : ∀ j u, news[j]? = some u → w.cell? (ad.add j) = some u) (h1 : ∀ u ∈ news, u.oneCell' = true)
    (h63 : n + m ≤ maxLen) (hbytes : (n + m) * bytes ≤ 140737488355328) (hbase : B ≤ w.heap.size) :
    ∃ v' w', (Builtin.append_ #[t, t] ty #[v, .slice (some ad) m c]).run P w = .ok v' w' ∧ w'.ownsRow B e size v' (n + m) (xs ++ news) ∧ w.grownBy w' v.ownBlock ∧
      (∀ k, v'.ownBlock = some k → v.ownBlock = some k ∨ w.heap.size ≤ k) := by
  obtain ⟨i, z, hi, hz, hsize, hby, hzs⟩ := E.info
  obtain ⟨v', w', hr, r1, r2, r3⟩ := run_append_own (P := P) w B t ty e i z size bytes E.ht hi hz hsize hby hzs E.pos v n xs hown ad m c news hl hnews h1 h63 hbytes hbase
  refine ⟨v', w', hr, r1, r2, ?_⟩
  subst hsize
  subst hby
  have hsmall : n + m ≤ 9223372036854775807 := by simp only [maxLen] at h63; omega
  have key : ∀ v2 w2, (Builtin.append_ #[t, t] ty #[v, .slice (some ad) m c]).run P w = .ok v2 w2 → v' = v2 := fun v2 w2 h => by
    rw [hr] at h
    injection h
  rcases hown.2 with ⟨rfl, rfl⟩ | ⟨g, cap, cur, rfl, hbg, hg, hnc, hcm, hcs, htake⟩
  · by_cases hm : m = 0
    · have := r3.2 ⟨rfl, hm⟩
      subst this
      intro k hk
      simp [Value.ownBlock] at hk
    · have h := key _ _ (run_append_nil (P := P) w t ty e i z E.ht hi hz ad m c news hl hnews (by omega) (by omega) (by have hb := hbytes; simp only [Nat.zero_add] at hb; omega))
      subst h
      intro k hk
      right
      simp [Value.ownBlock] at hk
      omega
  · by_cases hroom : n + m ≤ cap
    · have hfit : n * i.size + news.length ≤ cur.size := by rw [hl, hcs, ← Nat.add_mul]; exact Nat.mul_le_mul_right _ hroom
      have h := key _ _ (run_append_room (P := P) w t ty e i E.ht hi g n cap cur hg ad m c news hl hnews h1 hroom hfit)
      subst h
      intro k hk
      left
      simpa [Value.ownBlock] using hk
    · have holds : ∀ j u, xs[j]? = some u → w.cell? ((⟨g, 0, none⟩ : Addr).add j) = some u := hown.cells (g := g) rfl
      have h := key _ _ (run_append_grow (P := P) w t ty e i z E.ht hi hz ⟨g, 0, none⟩ n cap xs hown.1 holds ad m c news hl hnews (by omega) (by omega) (growslice_fits (by omega) hbytes))
      subst h
      intro k hk
      right
      simp [Value.ownBlock] at hk
      omega
theorem wpList_push_apart {t e : TypeId} {size bytes : Nat} (E : Elem P t e size bytes) (hgd : o.guard = none) (s x : Operand)
    (ho : o.op = .call { callee := .builtin .append, args := #[s, x], argTypes := #[t, t] })
    (B : Nat) (A : Option Addr) (n c : Nat) (xs : List Value) (hs : a.eval s = .slice A n c) (hown : w.ownsRow B e size (.slice A n c) n xs)
    (g : Nat) (hx : a.eval x = .slice (some ⟨g, 0, none⟩) 1 1) (news : List Value) (hl : news.length = size) (hnews : ∀ j u, news[j]? = some u → w.cell? ⟨g, j, none⟩ = some u) (h1 : ∀ u ∈ news, u.oneCell' = true)
    (hbytes : (n + 1) * bytes ≤ 140737488355328) (h63 : n + 1 ≤ 9223372036854775807) (hbase : B ≤ w.heap.size)
    (h : ∀ A' c' w', w'.ownsRow B e size (.slice A' (n + 1) c') (n + 1) (xs ++ news) → Below B w w' → w.grownBy w' (Value.slice A n c).ownBlock → (∀ k, (Value.slice A' (n + 1) c').ownBlock = some k → (Value.slice A n c).ownBlock = some k ∨ w.heap.size ≤ k) → wpList P ops Q rest (a.put o.dst (.slice A' (n + 1) c')) w') : wpList P ops Q (o :: rest) a w :=
  wpList_plain hgd fun _ hK => by
    obtain ⟨v', w', hr, r1, r2, r3⟩ := run_push_apart (P := P) (w := w) E o.type B (.slice A n c) n xs hown ⟨g, 0, none⟩ 1 1 news (by omega) (fun j u hj => by
      have hadd : (⟨g, 0, none⟩ : Addr).add j = ⟨g, j, none⟩ := by unfold Addr.add; split <;> simp_all
      rw [hadd]
      exact hnews j u hj) h1 (by unfold maxLen; omega) hbytes hbase
    obtain ⟨A', c', rfl⟩ := own_shape r1
    unfold Oper.wp execOp
    simp only [ho, resolve, invoke, builtin, Sem.run_bind, Sem.run_pure, Result.andThen_ok, List.map_toArray, List.map_cons, List.map_nil, hs, hx, hr]
    exact hK _ _ (h A' c' w' r1 ((Below.refl B w).grown r2 hbase (fun k hk => (hown.lt k hk).1)) r2 r3)
end
end Go.Proofs.YticpjdjdimpglaaGreatDoor
/- Forms (conditions and steps) as the checks of rules see them: how many, how deep, valid; rows of them in memory; rows by index. -/
namespace Go.Proofs.YticpjdjdimpglaaGreatDoor
set_option linter.unusedVariables false
set_option linter.unusedSimpArgs false
open Go.RowKit
structure ST where
  k : Int
  b : Int
  c : CT
  th : SF
  el : SF
def SF.toL : SF → List ST
  | .nil => []
  | .cons k b ck cv cn cps th el r => ⟨k, b, ⟨ck, cv, cn, cps⟩, th, el⟩ :: r.toL
def SF.sz : SF → Nat
  | .nil => 0
  | .cons _ _ _ _ _ cps th el r => cps.cnt + 2 + th.sz + el.sz + r.sz
inductive Fo where
  | cd (c : CT)
  | st (x : ST)
def Fo.parts : Fo → List Fo
  | .cd c => c.ps.toL.map .cd
  | .st x => (x.th.toL ++ x.el.toL).map .st
def Fo.S : Fo → Nat
  | .cd _ => 0
  | .st x => x.th.cntS + x.el.cntS + 1
def Fo.C : Fo → Nat
  | .cd c => c.ps.cnt + 1
  | .st x => (if x.c.isZ then 0 else x.c.ps.cnt + 1) + x.th.cntC + x.el.cntC
def Fo.D : Fo → Nat
  | .cd c => c.ps.dep + 1
  | .st x => max x.th.dep x.el.dep + 1
def Fo.K : Fo → Nat
  | .cd _ => 0
  | .st x => max (x.c.ps.dep + 1) (max x.th.cdep x.el.cdep)
def Fo.Z : Fo → Nat
  | .cd c => c.ps.cnt + 1
  | .st x => x.c.ps.cnt + 2 + x.th.sz + x.el.sz
def foS : List Fo → Nat
  | [] => 0
  | f :: r => f.S + foS r
def foC : List Fo → Nat
  | [] => 0
  | f :: r => f.C + foC r
def foD : List Fo → Nat
  | [] => 0
  | f :: r => max f.D (foD r)
def foK : List Fo → Nat
  | [] => 0
  | f :: r => max f.K (foK r)
def foZ : List Fo → Nat
  | [] => 0
  | f :: r => f.Z + foZ r
def Fo.ok : Fo → Bool
  | .cd c => okC c
  | .st x => (SF.one x.k x.b x.c x.th x.el .nil).okB
theorem fo_app : ∀ l m : List Fo, foS (l ++ m) = foS l + foS m ∧ foC (l ++ m) = foC l + foC m ∧ foD (l ++ m) = max (foD l) (foD m) ∧ foK (l ++ m) = max (foK l) (foK m) ∧ foZ (l ++ m) = foZ l + foZ m
  | [], m => by simp [foS, foC, foD, foK, foZ]
  | f :: l, m => by
    obtain ⟨h1, h2, h3, h4, h5⟩ := fo_app l m
    simp only [List.cons_append, foS, foC, foD, foK, foZ, h1, h2, h3, h4, h5]
    omega
theorem fo_c : ∀ F : CF, foS (F.toL.map .cd) = 0 ∧ foC (F.toL.map .cd) = F.cnt ∧ foD (F.toL.map .cd) = F.dep ∧ foK (F.toL.map .cd) = 0 ∧ foZ (F.toL.map .cd) = F.cnt
  | .nil => ⟨rfl, rfl, rfl, rfl, rfl⟩
  | .cons k v n ps r => by
    obtain ⟨h1, h2, h3, h4, h5⟩ := fo_c r
    simp only [CF.toL, List.map_cons, foS, foC, foD, foK, foZ, h1, h2, h3, h4, h5, CF.cnt, CF.dep, Fo.S, Fo.C, Fo.D, Fo.K, Fo.Z]
    simp
theorem fo_s : ∀ F : SF, foS (F.toL.map .st) = F.cntS ∧ foC (F.toL.map .st) = F.cntC ∧ foD (F.toL.map .st) = F.dep ∧ foK (F.toL.map .st) = F.cdep ∧ foZ (F.toL.map .st) = F.sz
  | .nil => ⟨rfl, rfl, rfl, rfl, rfl⟩
  | .cons k b ck cv cn cps th el r => by
    obtain ⟨h1, h2, h3, h4, h5⟩ := fo_s r
    simp only [SF.toL, List.map_cons, foS, foC, foD, foK, foZ, h1, h2, h3, h4, h5, SF.cntS, SF.cntC, SF.dep, SF.cdep, SF.sz, Fo.S, Fo.C, Fo.D, Fo.K, Fo.Z]
    simp
theorem fo_parts (f : Fo) : f.D = foD f.parts + 1 ∧ (∀ c, f = .cd c → f.S = foS f.parts ∧ f.C = foC f.parts + 1 ∧ f.K = foK f.parts ∧ f.Z = foZ f.parts + 1) ∧
    (∀ x, f = .st x → f.S = foS f.parts + 1 ∧ f.C = (if x.c.isZ then 0 else x.c.ps.cnt + 1) + foC f.parts ∧ f.K = max (x.c.ps.dep + 1) (foK f.parts) ∧ f.Z = x.c.ps.cnt + 2 + foZ f.parts) := by
  cases f with
  | cd c =>
    obtain ⟨h1, h2, h3, h4, h5⟩ := fo_c c.ps
    refine ⟨?_, fun c' e => ?_, fun x e => by cases e⟩
    · show _ = foD (c.ps.toL.map .cd) + 1
      rw [h3]; rfl
    · show 0 = foS (c.ps.toL.map .cd) ∧ _ = foC (c.ps.toL.map .cd) + 1 ∧ 0 = foK (c.ps.toL.map .cd) ∧ _ = foZ (c.ps.toL.map .cd) + 1
      rw [h1, h2, h4, h5]
      exact ⟨rfl, rfl, rfl, rfl⟩
  | st x =>
    obtain ⟨h1, h2, h3, h4, h5⟩ := fo_s x.th
    obtain ⟨g1, g2, g3, g4, g5⟩ := fo_s x.el
    obtain ⟨a1, a2, a3, a4, a5⟩ := fo_app (x.th.toL.map .st) (x.el.toL.map .st)
    have e : (Fo.st x).parts = x.th.toL.map .st ++ x.el.toL.map .st := List.map_append
    refine ⟨?_, (fun c e => by cases e), fun y hy => ?_⟩
    · rw [e, a3, h3, g3]; rfl
    · cases hy
      rw [e, a1, a2, a4, a5, h1, h2, h4, h5, g1, g2, g4, g5]
      simp only [Fo.S, Fo.C, Fo.K, Fo.Z]
      refine ⟨trivial, ?_, trivial, ?_⟩ <;> omega
theorem num_len : ∀ F : CF, F.num = F.len
  | .nil => rfl
  | .cons _ _ _ _ r => by rw [CF.num, CF.len, num_len r]
theorem snum_len : ∀ F : SF, F.num = F.len
  | .nil => rfl
  | .cons _ _ _ _ _ _ _ _ r => by rw [SF.num, SF.len, snum_len r]
theorem toL_len : ∀ F : CF, F.toL.length = F.len
  | .nil => rfl
  | .cons _ _ _ _ r => by rw [CF.toL, CF.len, List.length_cons, toL_len r]
theorem stoL_len : ∀ F : SF, F.toL.length = F.len
  | .nil => rfl
  | .cons _ _ _ _ _ _ _ _ r => by rw [SF.toL, SF.len, List.length_cons, stoL_len r]
theorem len_cnt : ∀ F : CF, F.len ≤ F.cnt
  | .nil => Nat.le_refl _
  | .cons _ _ _ _ r => by rw [CF.len, CF.cnt]; have := len_cnt r; omega
theorem slen_sz : ∀ F : SF, F.len ≤ F.sz
  | .nil => Nat.le_refl _
  | .cons _ _ _ _ _ _ _ _ r => by rw [SF.len, SF.sz]; have := slen_sz r; omega
theorem fo_len : ∀ l : List Fo, l.length ≤ foZ l
  | [] => Nat.le_refl _
  | f :: r => by
    have := fo_len r
    have h : 0 < f.Z := by cases f <;> simp [Fo.Z]; omega
    rw [List.length_cons, foZ]; omega
/-- A condition, a step as a value. -/
def cV (c : CT) (A : Option Addr) (m d : Nat) : Value := .agg #[vi c.k, vi c.v, vi c.n, .slice A m d]
def stV (x : ST) (A : Option Addr) (m d : Nat) (A1 : Option Addr) (m1 d1 : Nat) (A2 : Option Addr) (m2 d2 : Nat) : Value :=
  .agg #[vi x.k, vi x.b, vi x.c.k, vi x.c.v, vi x.c.n, .slice A m d, .slice A1 m1 d1, .slice A2 m2 d2]
def FoV (S : Nat → Prop) (w : World) : Fo → Value → Prop
  | .cd c, v => ∃ A m d, v = .iface 104 (cV c A m d) ∧ RepH S w c.ps A m d
  | .st x, v => ∃ A m d A1 m1 d1 A2 m2 d2, v = .iface 159 (stV x A m d A1 m1 d1 A2 m2 d2) ∧ RepH S w x.c.ps A m d ∧ RepT S w x.th A1 m1 d1 ∧ RepT S w x.el A2 m2 d2
def FoR (S : Nat → Prop) (w : World) : List Fo → List Value → Prop
  | [], xs => xs = []
  | f :: r, xs => ∃ v zs, xs = v :: zs ∧ FoV S w f v ∧ FoR S w r zs
/-- A row of forms by its slice. -/
def FoH (S : Nat → Prop) (w : World) (fs : List Fo) (A : Option Addr) (m d : Nat) : Prop := ∃ xs, Rd w w.heap.size 1 A m d xs ∧ Av S A m ∧ FoR S w fs xs
section
variable {S S' : Nat → Prop} {w w' : World}
theorem FoV.only (ho : Only S' w w') (hs : ∀ k, S' k → S k) {f : Fo} {v : Value} (h : FoV S w f v) : FoV S w' f v := by
  cases f with
  | cd c => obtain ⟨A, m, d, e, h1⟩ := h; exact ⟨A, m, d, e, h1.only ho hs⟩
  | st x => obtain ⟨A, m, d, A1, m1, d1, A2, m2, d2, e, h1, h2, h3⟩ := h; exact ⟨A, m, d, A1, m1, d1, A2, m2, d2, e, h1.only ho hs, h2.only ho hs, h3.only ho hs⟩
theorem FoV.sub (hs : ∀ k, S' k → S k) {f : Fo} {v : Value} (h : FoV S w f v) : FoV S' w f v := by
  cases f with
  | cd c => obtain ⟨A, m, d, e, h1⟩ := h; exact ⟨A, m, d, e, h1.sub hs⟩
  | st x => obtain ⟨A, m, d, A1, m1, d1, A2, m2, d2, e, h1, h2, h3⟩ := h; exact ⟨A, m, d, A1, m1, d1, A2, m2, d2, e, h1.sub hs, h2.sub hs, h3.sub hs⟩
theorem FoR.only (ho : Only S' w w') (hs : ∀ k, S' k → S k) : ∀ {fs : List Fo} {xs : List Value}, FoR S w fs xs → FoR S w' fs xs
  | [], _, h => h
  | _ :: _, _, h => by obtain ⟨v, zs, e, h1, h2⟩ := h; exact ⟨v, zs, e, h1.only ho hs, FoR.only ho hs h2⟩
theorem FoR.sub (hs : ∀ k, S' k → S k) : ∀ {fs : List Fo} {xs : List Value}, FoR S w fs xs → FoR S' w fs xs
  | [], _, h => h
  | _ :: _, _, h => by obtain ⟨v, zs, e, h1, h2⟩ := h; exact ⟨v, zs, e, h1.sub hs, FoR.sub hs h2⟩
theorem FoR.app : ∀ {fs gs : List Fo} {xs ys : List Value}, FoR S w fs xs → FoR S w gs ys → FoR S w (fs ++ gs) (xs ++ ys)
  | [], _, _, _, h, k => by rw [show _ = [] from h]; exact k
  | _ :: _, _, _, _, h, k => by obtain ⟨v, zs, rfl, h1, h2⟩ := h; exact ⟨v, zs ++ _, rfl, h1, FoR.app h2 k⟩
theorem FoR.one {f : Fo} {v : Value} (h : FoV S w f v) : FoR S w [f] [v] := ⟨v, [], rfl, h, rfl⟩
theorem FoR.len : ∀ {fs : List Fo} {xs : List Value}, FoR S w fs xs → xs.length = fs.length
  | [], _, h => by rw [show _ = [] from h]; rfl
  | _ :: _, _, h => by obtain ⟨v, zs, rfl, h1, h2⟩ := h; simp [FoR.len h2]
theorem FoR.at_ : ∀ {fs : List Fo} {xs : List Value} {i : Nat} {f : Fo}, FoR S w fs xs → fs[i]? = some f → ∃ v, xs[i]? = some v ∧ FoV S w f v
  | [], _, _, _, _, e => by simp at e
  | _ :: _, _, 0, _, h, e => by obtain ⟨v, zs, rfl, h1, h2⟩ := h; simp at e; subst e; exact ⟨v, rfl, h1⟩
  | _ :: _, _, i + 1, _, h, e => by obtain ⟨v, zs, rfl, h1, h2⟩ := h; exact FoR.at_ (i := i) h2 (by simpa using e)
theorem FoH.len {fs : List Fo} {A : Option Addr} {m d : Nat} (h : FoH S w fs A m d) : m = fs.length := by
  obtain ⟨xs, h1, h2, h3⟩ := h
  have := h1.len
  rw [h3.len] at this
  omega
theorem FoH.only (ho : Only S' w w') (hs : ∀ k, S' k → S k) {fs : List Fo} {A : Option Addr} {m d : Nat} (h : FoH S w fs A m d) : FoH S w' fs A m d := by
  obtain ⟨xs, h1, h2, h3⟩ := h
  exact ⟨xs, h1.av h2 ho hs, h2, h3.only ho hs⟩
theorem FoH.sub (hs : ∀ k, S' k → S k) {fs : List Fo} {A : Option Addr} {m d : Nat} (h : FoH S w fs A m d) : FoH S' w fs A m d := by
  obtain ⟨xs, h1, h2, h3⟩ := h
  exact ⟨xs, h1, h2.sub hs, h3.sub hs⟩
theorem RepH.below (hb : Below w.heap.size w w') {F : CF} {A : Option Addr} {m c : Nat} (h : RepH S w F A m c) : RepH S w' F A m c := h.only (Only.of_below (S := fun _ => False) hb) (fun _ h => False.elim h)
theorem RepT.below (hb : Below w.heap.size w w') {F : SF} {A : Option Addr} {m c : Nat} (h : RepT S w F A m c) : RepT S w' F A m c := h.only (Only.of_below (S := fun _ => False) hb) (fun _ h => False.elim h)
theorem FoR.below (hb : Below w.heap.size w w') {fs : List Fo} {xs : List Value} (h : FoR S w fs xs) : FoR S w' fs xs := h.only (Only.of_below (S := fun _ => False) hb) (fun _ h => False.elim h)
theorem FoV.below (hb : Below w.heap.size w w') {f : Fo} {v : Value} (h : FoV S w f v) : FoV S w' f v := h.only (Only.of_below (S := fun _ => False) hb) (fun _ h => False.elim h)
theorem FoH.below (hb : Below w.heap.size w w') {fs : List Fo} {A : Option Addr} {m d : Nat} (h : FoH S w fs A m d) : FoH S w' fs A m d := h.only (Only.of_below (S := fun _ => False) hb) (fun _ h => False.elim h)
/-- Form i of a row. -/
theorem FoH.elem {fs : List Fo} {A : Option Addr} {m d i : Nat} (h : FoH S w fs A m d) (hi : i < m) : ∃ b off f v, A = some ⟨b, off, none⟩ ∧ b < w.heap.size ∧ fs[i]? = some f ∧ w.cell? ⟨b, off + i, none⟩ = some v ∧ FoV S w f v := by
  have hl := h.len
  obtain ⟨xs, h1, h2, h3⟩ := h
  obtain ⟨b, off, u, e, hb, hu, hc⟩ := h1.one hi
  have hf : fs[i]? = some fs[i] := List.getElem?_eq_getElem (by omega)
  obtain ⟨v, hv, hV⟩ := h3.at_ hf
  rw [hu] at hv
  injection hv with hv
  subst hv
  exact ⟨b, off, _, _, e, hb, hf, hc, hV⟩
/-- Condition i, step i of a row. -/
theorem RepF.elem : ∀ {F : CF} {xs : List Value} {i : Nat}, RepF S w F xs → i < F.len → ∃ (x : CT) (B : Option Addr) (d e : Nat), F.toL[i]? = some x ∧ xs[i * 4]? = some (vi x.k) ∧ xs[i * 4 + 1]? = some (vi x.v) ∧ xs[i * 4 + 2]? = some (vi x.n) ∧ xs[i * 4 + 3]? = some (.slice B d e) ∧ RepH S w x.ps B d e
  | .nil, _, _, _, hi => by simp [CF.len] at hi
  | .cons k v n ps r, xs, 0, h, _ => by
    obtain ⟨A, m, c, ys, zs, rfl, ⟨h1, h2, h3⟩, h4⟩ := h
    exact ⟨⟨k, v, n, ps⟩, A, m, c, rfl, rfl, rfl, rfl, rfl, ys, h1, h2, h3⟩
  | .cons k v n ps r, xs, i + 1, h, hi => by
    obtain ⟨A, m, c, ys, zs, rfl, h0, h4⟩ := h
    obtain ⟨x, B, d, e, g1, g2, g3, g4, g5, g6⟩ := RepF.elem (i := i) h4 (by rw [CF.len] at hi; omega)
    have hx : ∀ j, (vi k :: vi v :: vi n :: Value.slice A m c :: zs)[(i + 1) * 4 + j]? = zs[i * 4 + j]? := fun j => by
      rw [show (i + 1) * 4 + j = i * 4 + j + 1 + 1 + 1 + 1 by omega]
      simp only [List.getElem?_cons_succ]
    exact ⟨x, B, d, e, by rw [CF.toL, List.getElem?_cons_succ]; exact g1, (hx 0).trans g2, (hx 1).trans g3, (hx 2).trans g4, (hx 3).trans g5, g6⟩
theorem RepS.elem : ∀ {F : SF} {xs : List Value} {i : Nat}, RepS S w F xs → i < F.len → ∃ (x : ST) (A : Option Addr) (m d : Nat) (A1 : Option Addr) (m1 d1 : Nat) (A2 : Option Addr) (m2 d2 : Nat), F.toL[i]? = some x ∧
    (∀ j u, ([vi x.k, vi x.b, vi x.c.k, vi x.c.v, vi x.c.n, .slice A m d, .slice A1 m1 d1, .slice A2 m2 d2] : List Value)[j]? = some u → xs[i * 8 + j]? = some u) ∧ RepH S w x.c.ps A m d ∧ RepT S w x.th A1 m1 d1 ∧ RepT S w x.el A2 m2 d2
  | .nil, _, _, _, hi => by simp [SF.len] at hi
  | .cons k b ck cv cn cps th el r, xs, 0, h, _ => by
    obtain ⟨A, m, c, A1, m1, c1, A2, m2, c2, zs, rfl, hc, h1, h2, h4⟩ := h
    refine ⟨⟨k, b, ⟨ck, cv, cn, cps⟩, th, el⟩, A, m, c, A1, m1, c1, A2, m2, c2, rfl, fun j u hj => ?_, hc, h1, h2⟩
    rw [Nat.zero_mul, Nat.zero_add]
    match j, hj with
    | 0, hj => exact hj
    | 1, hj => exact hj
    | 2, hj => exact hj
    | 3, hj => exact hj
    | 4, hj => exact hj
    | 5, hj => exact hj
    | 6, hj => exact hj
    | 7, hj => exact hj
    | j + 8, hj => simp at hj
  | .cons k b ck cv cn cps th el r, xs, i + 1, h, hi => by
    obtain ⟨A, m, c, A1, m1, c1, A2, m2, c2, zs, rfl, hc, h1, h2, h4⟩ := h
    obtain ⟨x, B, d, e, B1, d1, e1, B2, d2, e2, g1, g2, g3, g4, g5⟩ := RepS.elem (i := i) h4 (by rw [SF.len] at hi; omega)
    refine ⟨x, B, d, e, B1, d1, e1, B2, d2, e2, by rw [SF.toL, List.getElem?_cons_succ]; exact g1, fun j u hj => ?_, g3, g4, g5⟩
    rw [show (i + 1) * 8 + j = i * 8 + j + 1 + 1 + 1 + 1 + 1 + 1 + 1 + 1 by omega]
    simp only [List.getElem?_cons_succ]
    exact g2 j u hj
theorem RepH.elem {F : CF} {A : Option Addr} {m c i : Nat} (h : RepH S w F A m c) (hi : i < m) : ∃ (b off : Nat) (x : CT) (B : Option Addr) (d e : Nat), A = some ⟨b, off, none⟩ ∧ b < w.heap.size ∧ ¬ S b ∧ F.toL[i]? = some x ∧
    w.cell? ⟨b, off + i * 4, none⟩ = some (.int .i64 x.k) ∧ w.cell? ⟨b, off + i * 4 + 1, none⟩ = some (.int .i64 x.v) ∧ w.cell? ⟨b, off + i * 4 + 2, none⟩ = some (.int .i64 x.n) ∧ w.cell? ⟨b, off + i * 4 + 3, none⟩ = some (.slice B d e) ∧ RepH S w x.ps B d e := by
  have hl := h.len
  obtain ⟨xs, h1, h2, h3⟩ := h
  obtain ⟨b, off, rfl, hb, hc⟩ := h1.cells (by omega)
  obtain ⟨x, B, d, e, g1, g2, g3, g4, g5, g6⟩ := h3.elem (i := i) (by omega)
  exact ⟨b, off, x, B, d, e, rfl, hb, h2 (by omega) _ rfl, g1, hc _ _ g2, by rw [Nat.add_assoc]; exact hc _ _ g3, by rw [Nat.add_assoc]; exact hc _ _ g4, by rw [Nat.add_assoc]; exact hc _ _ g5, g6⟩
theorem RepT.elem {F : SF} {A : Option Addr} {m c i : Nat} (h : RepT S w F A m c) (hi : i < m) : ∃ (b off : Nat) (x : ST) (B : Option Addr) (m d : Nat) (A1 : Option Addr) (m1 d1 : Nat) (A2 : Option Addr) (m2 d2 : Nat), A = some ⟨b, off, none⟩ ∧ b < w.heap.size ∧ ¬ S b ∧ F.toL[i]? = some x ∧
    (w.cell? ⟨b, off + i * 8, none⟩ = some (.int .i64 x.k) ∧ w.cell? ⟨b, off + i * 8 + 1, none⟩ = some (.int .i64 x.b) ∧ w.cell? ⟨b, off + i * 8 + 2, none⟩ = some (.int .i64 x.c.k) ∧ w.cell? ⟨b, off + i * 8 + 3, none⟩ = some (.int .i64 x.c.v) ∧
      w.cell? ⟨b, off + i * 8 + 4, none⟩ = some (.int .i64 x.c.n) ∧ w.cell? ⟨b, off + i * 8 + 5, none⟩ = some (.slice B m d) ∧ w.cell? ⟨b, off + i * 8 + 6, none⟩ = some (.slice A1 m1 d1) ∧ w.cell? ⟨b, off + i * 8 + 7, none⟩ = some (.slice A2 m2 d2)) ∧
    RepH S w x.c.ps B m d ∧ RepT S w x.th A1 m1 d1 ∧ RepT S w x.el A2 m2 d2 := by
  have hl := h.len
  obtain ⟨xs, h1, h2, h3⟩ := h
  obtain ⟨b, off, rfl, hb, hc⟩ := h1.cells (by omega)
  obtain ⟨x, B, d, e, B1, d1, e1, B2, d2, e2, g1, g2, g3, g4, g5⟩ := h3.elem (i := i) (by omega)
  have hcc : ∀ j u, ([vi x.k, vi x.b, vi x.c.k, vi x.c.v, vi x.c.n, .slice B d e, .slice B1 d1 e1, .slice B2 d2 e2] : List Value)[j]? = some u → w.cell? ⟨b, off + i * 8 + j, none⟩ = some u := fun j u hj => by
    rw [Nat.add_assoc]; exact hc _ _ (g2 j u hj)
  exact ⟨b, off, x, B, d, e, B1, d1, e1, B2, d2, e2, rfl, hb, h2 (by omega) _ rfl, g1, ⟨hcc 0 _ rfl, hcc 1 _ rfl, hcc 2 _ rfl, hcc 3 _ rfl, hcc 4 _ rfl, hcc 5 _ rfl, hcc 6 _ rfl, hcc 7 _ rfl⟩, g3, g4, g5⟩
end
theorem elemForm : Elem Tryz.prog 105 151 1 16 := Elem.mk' Tryz.underlying105 (z := .nilIface) (by kernel_rfl) rfl (by omega)
end Go.Proofs.YticpjdjdimpglaaGreatDoor
/- Plain laws: the order of conditions is total. No program. -/
namespace Go.Proofs.YticpjdjdimpglaaGreatDoor
set_option linter.unusedVariables false
set_option linter.unusedSimpArgs false
theorem cord_neg {a b : Int} : cord a b < 0 ↔ a < b := by unfold cord; split <;> (try split) <;> omega
theorem cord_zero {a b : Int} : cord a b = 0 ↔ a = b := by unfold cord; split <;> (try split) <;> omega
theorem cord_swap (a b : Int) : cord b a = -cord a b := by unfold cord; split <;> (try split) <;> (try split) <;> omega
theorem cmp_cons (k v n k' v' n' : Int) (ps r ps' r' : CF) : (CF.cons k v n ps r).cmp (.cons k' v' n' ps' r') = if cord k k' ≠ 0 then cord k k' else if cord v v' ≠ 0 then cord v v' else if cord n n' ≠ 0 then cord n n' else if ps.cmp ps' ≠ 0 then ps.cmp ps' else r.cmp r' := by
  rw [CF.cmp]
theorem cmp_swap : ∀ a b : CF, b.cmp a = -(a.cmp b)
  | .nil, .nil => by rw [CF.cmp]; rfl
  | .nil, .cons .. => by rw [CF.cmp, CF.cmp]; rfl
  | .cons .., .nil => by rw [CF.cmp, CF.cmp]
  | .cons k v n ps r, .cons k' v' n' ps' r' => by
    rw [cmp_cons, cmp_cons, cord_swap k k', cord_swap v v', cord_swap n n', cmp_swap ps ps', cmp_swap r r']
    by_cases h1 : cord k k' = 0
    · by_cases h2 : cord v v' = 0
      · by_cases h3 : cord n n' = 0
        · by_cases h4 : ps.cmp ps' = 0
          · simp [h1, h2, h3, h4]
          · simp [h1, h2, h3, h4]
        · simp [h1, h2, h3]
      · simp [h1, h2]
    · simp [h1]
theorem cmp_self : ∀ a : CF, a.cmp a = 0
  | .nil => by rw [CF.cmp]
  | .cons k v n ps r => by
    rw [cmp_cons, if_neg (by simp [cord_zero]), if_neg (by simp [cord_zero]), if_neg (by simp [cord_zero]), if_neg (by simp [cmp_self ps])]
    exact cmp_self r
theorem cmp_eq : ∀ a b : CF, a.cmp b = 0 → a = b
  | .nil, .nil, _ => rfl
  | .nil, .cons .., h => by rw [CF.cmp] at h; omega
  | .cons .., .nil, h => by rw [CF.cmp] at h; omega
  | .cons k v n ps r, .cons k' v' n' ps' r', h => by
    rw [cmp_cons] at h
    by_cases h1 : cord k k' = 0
    · rw [if_neg (by simp [h1])] at h
      by_cases h2 : cord v v' = 0
      · rw [if_neg (by simp [h2])] at h
        by_cases h3 : cord n n' = 0
        · rw [if_neg (by simp [h3])] at h
          by_cases h4 : ps.cmp ps' = 0
          · rw [if_neg (by simp [h4])] at h
            rw [cord_zero.1 h1, cord_zero.1 h2, cord_zero.1 h3, cmp_eq _ _ h4, cmp_eq _ _ h]
          · rw [if_pos h4] at h; exact absurd h h4
        · rw [if_pos h3] at h; exact absurd h h3
      · rw [if_pos h2] at h; exact absurd h h2
    · rw [if_pos h1] at h; exact absurd h h1
theorem cmp_lt {k v n k' v' n' : Int} {ps r ps' r' : CF} : (CF.cons k v n ps r).cmp (.cons k' v' n' ps' r') < 0 ↔ k < k' ∨ k = k' ∧ (v < v' ∨ v = v' ∧ (n < n' ∨ n = n' ∧ (ps.cmp ps' < 0 ∨ ps = ps' ∧ r.cmp r' < 0))) := by
  rw [cmp_cons]
  by_cases h1 : cord k k' = 0
  · have e1 := cord_zero.1 h1
    rw [if_neg (by simp [h1])]
    by_cases h2 : cord v v' = 0
    · have e2 := cord_zero.1 h2
      rw [if_neg (by simp [h2])]
      by_cases h3 : cord n n' = 0
      · have e3 := cord_zero.1 h3
        rw [if_neg (by simp [h3])]
        by_cases h4 : ps.cmp ps' = 0
        · have e4 := cmp_eq _ _ h4
          rw [if_neg (by simp [h4])]
          subst e1; subst e2; subst e3; subst e4
          simp [cmp_self]
        · rw [if_pos h4]
          subst e1; subst e2; subst e3
          have : ps ≠ ps' := fun e => h4 (by rw [e]; exact cmp_self _)
          simp [this]
      · rw [if_pos h3, cord_neg]
        have : n ≠ n' := fun e => h3 (cord_zero.2 e)
        subst e1; subst e2
        simp [this]
    · rw [if_pos h2, cord_neg]
      have : v ≠ v' := fun e => h2 (cord_zero.2 e)
      subst e1
      simp [this]
  · rw [if_pos h1, cord_neg]
    have : k ≠ k' := fun e => h1 (cord_zero.2 e)
    simp [this]
theorem cmp_trans : ∀ a b c : CF, a.cmp b < 0 → b.cmp c < 0 → a.cmp c < 0
  | .nil, .nil, _, h, _ => by rw [CF.cmp] at h; omega
  | .nil, .cons .., .nil, _, h => by rw [CF.cmp] at h; omega
  | .nil, .cons .., .cons .., _, _ => by rw [CF.cmp]; omega
  | .cons .., .nil, _, h, _ => by rw [CF.cmp] at h; omega
  | .cons .., .cons .., .nil, _, h => by rw [CF.cmp] at h; omega
  | .cons k v n ps r, .cons k' v' n' ps' r', .cons k2 v2 n2 ps2 r2, h, h' => by
    rw [cmp_lt] at h h' ⊢
    rcases h with h | ⟨rfl, h⟩
    · rcases h' with h' | ⟨rfl, h'⟩
      · exact .inl (by omega)
      · exact .inl h
    · rcases h' with h' | ⟨rfl, h'⟩
      · exact .inl h'
      · refine .inr ⟨rfl, ?_⟩
        rcases h with h | ⟨rfl, h⟩
        · rcases h' with h' | ⟨rfl, h'⟩
          · exact .inl (by omega)
          · exact .inl h
        · rcases h' with h' | ⟨rfl, h'⟩
          · exact .inl h'
          · refine .inr ⟨rfl, ?_⟩
            rcases h with h | ⟨rfl, h⟩
            · rcases h' with h' | ⟨rfl, h'⟩
              · exact .inl (by omega)
              · exact .inl h
            · rcases h' with h' | ⟨rfl, h'⟩
              · exact .inl h'
              · refine .inr ⟨rfl, ?_⟩
                rcases h with h | ⟨rfl, h⟩
                · rcases h' with h' | ⟨rfl, h'⟩
                  · exact .inl (cmp_trans _ _ _ h h')
                  · exact .inl h
                · rcases h' with h' | ⟨rfl, h'⟩
                  · exact .inl h'
                  · exact .inr ⟨rfl, cmp_trans _ _ _ h h'⟩
/-- The like for one condition. -/
theorem one_inj {a b : CT} (h : CF.one a .nil = CF.one b .nil) : a = b := by
  obtain ⟨k, v, n, ps⟩ := a
  obtain ⟨k', v', n', ps'⟩ := b
  unfold CF.one at h
  simp only [CF.cons.injEq, and_true] at h
  obtain ⟨rfl, rfl, rfl, rfl⟩ := h
  rfl
theorem CT.cmp_zero {a b : CT} : a.cmp b = 0 ↔ a = b := ⟨fun h => one_inj (cmp_eq _ _ h), fun h => by rw [h]; exact cmp_self _⟩
theorem CT.cmp_swap (a b : CT) : b.cmp a = -(a.cmp b) := Proofs.YticpjdjdimpglaaGreatDoor.cmp_swap _ _
theorem CT.cmp_trans {a b c : CT} (h : a.cmp b < 0) (h' : b.cmp c < 0) : a.cmp c < 0 := Proofs.YticpjdjdimpglaaGreatDoor.cmp_trans _ _ _ h h'
/-- A list that rises strictly; two such lists of the same things are one. -/
def Rise (l : List CT) : Prop := l.Pairwise fun a b => a.cmp b < 0
theorem rise_unique : ∀ (l m : List CT), Rise l → Rise m → (∀ x, x ∈ l ↔ x ∈ m) → l = m
  | [], [], _, _, _ => rfl
  | [], y :: m, _, _, h => absurd ((h y).2 (by simp)) (by simp)
  | x :: l, [], _, _, h => absurd ((h x).1 (by simp)) (by simp)
  | x :: l, y :: m, hl, hm, h => by
    have hl' := List.pairwise_cons.1 hl
    have hm' := List.pairwise_cons.1 hm
    have hxy : x = y := by
      rcases List.mem_cons.1 ((h x).1 (by simp)) with e | e
      · exact e
      · rcases List.mem_cons.1 ((h y).2 (by simp)) with e' | e'
        · exact e'.symm
        · have h1 := hm'.1 x e
          have h2 := hl'.1 y e'
          have := CT.cmp_trans h1 h2
          rw [CT.cmp_zero.2 rfl] at this
          omega
    subst hxy
    congr 1
    refine rise_unique l m hl'.2 hm'.2 fun z => ?_
    have hz := h z
    constructor
    · intro hzl
      rcases List.mem_cons.1 (hz.1 (by simp [hzl])) with e | e
      · subst e
        have := hl'.1 z hzl
        rw [CT.cmp_zero.2 rfl] at this
        omega
      · exact e
    · intro hzm
      rcases List.mem_cons.1 (hz.2 (by simp [hzm])) with e | e
      · subst e
        have := hm'.1 z hzm
        rw [CT.cmp_zero.2 rfl] at this
        omega
      · exact e
end Go.Proofs.YticpjdjdimpglaaGreatDoor
/- format.compare by its contract. -/
namespace Go.Proofs.YticpjdjdimpglaaGreatDoor
set_option linter.unusedVariables false
set_option linter.unusedSimpArgs false
open Go.RowKit
/-- New blocks and draws alone. -/
def Gw (w w' : World) : Prop := ∃ (q : Nat) (os : Array Obj), w' = Sort.grow (w.drewN q) os
section
variable {w w' w'' : World}
theorem Gw.refl (w : World) : Gw w w := ⟨0, #[], by simp [World.drewN]⟩
theorem Gw.trans (h : Gw w w') (h' : Gw w' w'') : Gw w w'' := by
  obtain ⟨q, os, rfl⟩ := h
  obtain ⟨q', os', rfl⟩ := h'
  refine ⟨q + q', os ++ os', ?_⟩
  unfold Sort.grow World.drewN
  dsimp only
  rw [Array.append_assoc, Nat.add_assoc]
theorem Gw.alloc (w : World) (o : Obj) : Gw w (w.alloc o) := ⟨0, #[o], by rw [Sort.alloc_eq_grow]; rfl⟩
theorem Gw.drew (w : World) : Gw w w.drew := ⟨1, #[], by rw [Sort.grow_empty]; rfl⟩
theorem Gw.below (h : Gw w w') : Below w.heap.size w w' := by
  obtain ⟨q, os, rfl⟩ := h
  exact ⟨rfl, rfl, rfl, by simp [Sort.grow, World.drewN], fun i hi => by
    show ((w.drewN q).heap ++ os)[i]? = _
    rw [Array.getElem?_append_left (by simpa [World.drewN] using hi)]
    rfl⟩
end
theorem nanF_any (x : Int) (w : World) : Calls Tryz.prog 188 #[.int .i64 x] w fun e w' => e = .returned (.bool false) ∧ w = w' := by
  have h1 : (x != x) = false := by simp
  go_enter Tryz.func188, Tryz.ntmps188
  go_wp2
  go_ret
  exact ⟨by first | rfl | (exact ret_bool (by simp)), rfl⟩
theorem cord_any (x y : Int) (w : World) : Calls Tryz.prog 156 #[.int .i64 x, .int .i64 y] w fun e w' => e = .returned (.int .i64 (cord x y)) ∧ w = w' := by
  unfold cord
  by_cases h1 : x < y
  · rw [if_pos h1]
    go_enter Tryz.func156, Tryz.ntmps156
    go_wp2_with (go_at_call 188; refine (nanF_any _ _).mono ?_; rintro e w' ⟨rfl, rfl⟩)
    go_ret
    exact ⟨rfl, rfl⟩
  · rw [if_neg h1]
    by_cases h2 : y < x
    · rw [if_pos h2]
      go_enter Tryz.func156, Tryz.ntmps156
      go_wp2_with (go_at_call 188; refine (nanF_any _ _).mono ?_; rintro e w' ⟨rfl, rfl⟩)
      go_ret
      exact ⟨rfl, rfl⟩
    · rw [if_neg h2]
      go_enter Tryz.func156, Tryz.ntmps156
      go_wp2_with (go_at_call 188; refine (nanF_any _ _).mono ?_; rintro e w' ⟨rfl, rfl⟩)
      go_ret
      exact ⟨rfl, rfl⟩
/-- cmp.Or at three values. -/
def or3 (a b c : Int) : Int := if a ≠ 0 then a else if b ≠ 0 then b else c
theorem or3_any (a b c : Int) (g : Nat) (w : World) (h0 : w.cell? ⟨g, 0, none⟩ = some (.int .i64 a)) (h1 : w.cell? ⟨g, 1, none⟩ = some (.int .i64 b)) (h2 : w.cell? ⟨g, 2, none⟩ = some (.int .i64 c)) :
    Calls Tryz.prog 155 #[.slice (some ⟨g, 0, none⟩) 3 3] w fun e w' => e = .returned (.int .i64 (or3 a b c)) ∧ w = w' := by
  have HO := Lib.hid (show or3 a b c = if a ≠ 0 then a else if b ≠ 0 then b else c from rfl)
  generalize or3 a b c = r at HO ⊢
  go_enter Tryz.func155, Tryz.ntmps155
  go_wp2
  go_loop [8] (fun i => ∃ k : Nat, k ≤ 3 ∧ i = .int .i64 k ∧ Hid ((0 < k → a = 0) ∧ (1 < k → b = 0) ∧ (2 < k → c = 0))) (fun i => 3 - (intOf i).toNat)
  case atStart => exact ⟨0, by omega, rfl, fun h => absurd h (by omega), fun h => absurd h (by omega), fun h => absurd h (by omega)⟩
  case round =>
    obtain ⟨k, hk, rfl, HK⟩ := hrel
    match k, hk with
    | 0, _ =>
      by_cases ha : a = 0
      · have a1 : (a != 0) = false := by simpa using ha
        have HA := Lib.hid ha
        clear ha
        go_wp2
        go_round
        case rel => exact ⟨1, by omega, rfl, (fun _ => HA.out), (fun h => absurd h (by omega)), (fun h => absurd h (by omega))⟩
        case measure => simp [intOf]
      · have a1 : (a != 0) = true := by simpa using ha
        have HE := Lib.hid (HO.out.trans (if_pos ha))
        clear ha
        go_wp2
        go_ret
        exact ⟨ret_int HE.out.symm, rfl⟩
    | 1, _ =>
      by_cases hb : b = 0
      · have b1 : (b != 0) = false := by simpa using hb
        have HB := Lib.hid hb
        clear hb
        go_wp2
        go_round
        case rel => exact ⟨2, by omega, rfl, (fun _ => HK.out.1 (by omega)), (fun _ => HB.out), (fun h => absurd h (by omega))⟩
        case measure => simp [intOf]
      · have b1 : (b != 0) = true := by simpa using hb
        have HE := Lib.hid (HO.out.trans ((if_neg (Classical.not_not.2 (HK.out.1 (by omega)))).trans (if_pos hb)))
        clear hb
        go_wp2
        go_ret
        exact ⟨ret_int HE.out.symm, rfl⟩
    | 2, _ =>
      have HE := Lib.hid (HO.out.trans ((if_neg (Classical.not_not.2 (HK.out.1 (by omega)))).trans (if_neg (Classical.not_not.2 (HK.out.2.1 (by omega))))))
      by_cases hc : c = 0
      · have c1 : (c != 0) = false := by simpa using hc
        have HC := Lib.hid hc
        clear hc
        go_wp2
        go_round
        case rel => exact ⟨3, by omega, rfl, (fun _ => HK.out.1 (by omega)), (fun _ => HK.out.2.1 (by omega)), (fun _ => HC.out)⟩
        case measure => simp [intOf]
      · have c1 : (c != 0) = true := by simpa using hc
        clear hc
        go_wp2
        go_ret
        exact ⟨ret_int HE.out.symm, rfl⟩
    | 3, _ =>
      have HE := Lib.hid (show r = 0 from (HO.out.trans ((if_neg (Classical.not_not.2 (HK.out.1 (by omega)))).trans (if_neg (Classical.not_not.2 (HK.out.2.1 (by omega)))))).trans (HK.out.2.2 (by omega)))
      go_wp2
      go_ret
      exact ⟨ret_int HE.out.symm, rfl⟩
end Go.Proofs.YticpjdjdimpglaaGreatDoor
/- format.compare, slices.CompareFunc with it, by their contracts. -/
namespace Go.Proofs.YticpjdjdimpglaaGreatDoor
set_option linter.unusedVariables false
set_option linter.unusedSimpArgs false
open Go.RowKit
def cmpL : List CT → List CT → Int
  | [], [] => 0
  | [], _ :: _ => -1
  | _ :: _, [] => 1
  | a :: l, b :: m => if a.cmp b ≠ 0 then a.cmp b else cmpL l m
theorem ct_cmp (a b : CT) : a.cmp b = if cord a.k b.k ≠ 0 then cord a.k b.k else if cord a.v b.v ≠ 0 then cord a.v b.v else if cord a.n b.n ≠ 0 then cord a.n b.n else a.ps.cmp b.ps := by
  show (CF.cons a.k a.v a.n a.ps .nil).cmp (.cons b.k b.v b.n b.ps .nil) = _
  rw [cmp_cons]
  by_cases h1 : cord a.k b.k ≠ 0
  · rw [if_pos h1, if_pos h1]
  · rw [if_neg h1, if_neg h1]
    by_cases h2 : cord a.v b.v ≠ 0
    · rw [if_pos h2, if_pos h2]
    · rw [if_neg h2, if_neg h2]
      by_cases h3 : cord a.n b.n ≠ 0
      · rw [if_pos h3, if_pos h3]
      · rw [if_neg h3, if_neg h3]
        by_cases h4 : a.ps.cmp b.ps ≠ 0
        · rw [if_pos h4]
        · rw [if_neg h4]
          have : a.ps.cmp b.ps = 0 := Classical.not_not.1 h4
          rw [this]
          rfl
theorem cmp_L : ∀ F G : CF, F.cmp G = cmpL F.toL G.toL
  | .nil, .nil => rfl
  | .nil, .cons .. => rfl
  | .cons .., .nil => rfl
  | .cons k v n ps r, .cons k' v' n' ps' r' => by
    rw [CF.toL, CF.toL, cmpL, ← cmp_L r r', ct_cmp, cmp_cons]
    dsimp only
    by_cases h1 : cord k k' ≠ 0
    · rw [if_pos h1, if_pos h1, if_pos h1]
    · rw [if_neg h1, if_neg h1]
      by_cases h2 : cord v v' ≠ 0
      · rw [if_pos h2, if_pos h2, if_pos h2]
      · rw [if_neg h2, if_neg h2]
        by_cases h3 : cord n n' ≠ 0
        · rw [if_pos h3, if_pos h3, if_pos h3]
        · rw [if_neg h3, if_neg h3]
theorem ct_or (a b : CT) : a.cmp b = if or3 (cord a.k b.k) (cord a.v b.v) (cord a.n b.n) ≠ 0 then or3 (cord a.k b.k) (cord a.v b.v) (cord a.n b.n) else a.ps.cmp b.ps := by
  rw [ct_cmp]
  unfold or3
  by_cases h1 : cord a.k b.k ≠ 0
  · rw [if_pos h1, if_pos h1, if_pos h1]
  · rw [if_neg h1, if_neg h1]
    by_cases h2 : cord a.v b.v ≠ 0
    · rw [if_pos h2, if_pos h2, if_pos h2]
    · rw [if_neg h2, if_neg h2]
theorem cntL_memC : ∀ {F : CF} {p : CT}, p ∈ F.toL → p.ps.cnt + 1 ≤ F.cnt
  | .nil, _, h => by cases h
  | .cons k v n ps r, p, h => by
    rw [CF.toL] at h
    rw [CF.cnt]
    rcases List.mem_cons.1 h with rfl | h
    · show ps.cnt + 1 ≤ _; omega
    · have := cntL_memC h; omega
/-- The contract of compare for conditions of a size. -/
def CMP (N : Nat) : Prop := ∀ (S S' : Nat → Prop) (a b : CT) (A : Option Addr) (m d : Nat) (B : Option Addr) (n e : Nat) (w : World), a.ps.cnt < N → RepH S w a.ps A m d → RepH S' w b.ps B n e →
  Calls Tryz.prog 107 #[cV a A m d, cV b B n e] w fun e w' => e = .returned (.int .i64 (a.cmp b)) ∧ Gw w w'
set_option maxHeartbeats 8000000 in
set_option maxRecDepth 100000 in
theorem cfunc_of (N : Nat) (ih : CMP N) (S S' : Nat → Prop) (F G : CF) (A : Option Addr) (m d : Nat) (B : Option Addr) (n e : Nat) (w : World) (hN : F.cnt < N + 1) (h1 : RepH S w F A m d) (h2 : RepH S' w G B n e) :
    Calls Tryz.prog 157 #[.slice A m d, .slice B n e, .func (.func 107) #[] #[]] w fun e w' => e = .returned (.int .i64 (F.cmp G)) ∧ Gw w w' := by
  have HI := Lib.hid ih
  have HR1 := Lib.hid h1
  have HR2 := Lib.hid h2
  have HL1 := Lib.hid (h1.len.trans (toL_len F).symm)
  have HL2 := Lib.hid (h2.len.trans (toL_len G).symm)
  have HN := Lib.hid hN
  have HE := Lib.hid (cmp_L F G)
  generalize F.cmp G = r at HE ⊢
  obtain ⟨x1, hr1, -, -⟩ := h1
  obtain ⟨x2, hr2, -, -⟩ := h2
  have hc1 := hr1.cap
  have hb1 := hr1.big
  have hc2 := hr2.cap
  have hb2 := hr2.big
  clear ih hN hr1 hr2
  go_enter Tryz.func157, Tryz.ntmps157
  go_wp2_with (fail)
  go_loopw [13] (fun q wr => ∃ i : Nat, i ≤ m ∧ i ≤ n ∧ q = .int .i64 i ∧ Hid (Gw w wr) ∧ Hid (r = cmpL (F.toL.drop i) (G.toL.drop i))) (fun q _ => m - (intOf q).toNat)
  case atStart => exact ⟨0, Nat.zero_le _, Nat.zero_le _, rfl, Gw.refl _, HE.out⟩
  case round =>
    obtain ⟨i, him, hin, rfl, HG, HC⟩ := hrel
    by_cases hlt : i < m
    · obtain ⟨b, off, x, B1, n1, e1, rfl, hb, hS, hx, h0, h1, h2, h3, hr⟩ := HR1.out.elem hlt
      rw [← HG.out.below.cell (p := ⟨b, _, none⟩) hb] at h0 h1 h2 h3
      have HX := Lib.hid hx
      have HRx := Lib.hid hr
      clear hx hr
      by_cases hln : i < n
      · obtain ⟨b', off', y, B2, n2, e2, rfl, hb', hS', hy, g0, g1, g2, g3, hr⟩ := HR2.out.elem hln
        rw [← HG.out.below.cell (p := ⟨b', _, none⟩) hb'] at g0 g1 g2 g3
        have HY := Lib.hid hy
        have HRy := Lib.hid hr
        have hz := HG.out.below.size
        have hbl : b' < wr.heap.size := by omega
        have HC2 := Lib.hid (show r = if x.cmp y ≠ 0 then x.cmp y else cmpL (F.toL.drop (i + 1)) (G.toL.drop (i + 1)) by
          obtain ⟨k1, k2⟩ := List.getElem?_eq_some_iff.1 HX.out
          obtain ⟨k3, k4⟩ := List.getElem?_eq_some_iff.1 hy
          rw [HC.out, List.drop_eq_getElem_cons k1, List.drop_eq_getElem_cons k3, k2, k4]
          rfl)
        clear hy hr
        go_wp2_with (fail)
        first | (refine calls_named ?_; intro W2 hW2) | (refine body_named ?_; intro W2 hW2) | (refine wpList_named ?_; intro W2 hW2) | (refine wp_named ?_; intro W2 hW2)
        have hg2 : Gw wr W2 := by rw [← hW2]; exact (Gw.alloc _ _).trans (Gw.alloc _ _)
        clear hW2
        have HG2 := Lib.hid (HG.out.trans hg2)
        have HR1' := Lib.hid (HRx.out.below HG2.out.below)
        have HR2' := Lib.hid (HRy.out.below HG2.out.below)
        clear hg2 h0 h1 h2 h3 g0 g1 g2 g3
        refine (HI.out S S' x y B1 n1 e1 B2 n2 e2 W2 (by
          have h1 := cntL_memC (show x ∈ F.toL by obtain ⟨k1, k2⟩ := List.getElem?_eq_some_iff.1 HX.out; rw [← k2]; exact List.getElem_mem k1)
          have := HN.out
          omega) HR1'.out HR2'.out).mono ?_
        rintro e w3 ⟨rfl, hg3⟩
        have HG3 := Lib.hid (HG2.out.trans hg3)
        clear hg3
        by_cases hc : x.cmp y = 0
        · have HC3 := Lib.hid (HC2.out.trans (if_neg (Classical.not_not.2 hc)))
          rw [hc]
          clear hc
          go_wp2_with (fail)
          go_roundw
          case rel => exact ⟨i + 1, hlt, hln, by go_num, HG3.out, HC3.out⟩
          case measure => simp [intOf]; omega
        · have HC3 := Lib.hid (HC2.out.trans (if_pos hc))
          have hcb : (x.cmp y != 0) = true := bne_iff_ne.2 hc
          generalize x.cmp y = v at hcb HC3 ⊢
          clear hc
          go_wp2_with (fail)
          go_ret
          exact ⟨ret_int HC3.out.symm, HG3.out⟩
      · have HC2 := Lib.hid (show r = 1 by
          obtain ⟨k1, k2⟩ := List.getElem?_eq_some_iff.1 HX.out
          rw [HC.out, List.drop_eq_getElem_cons k1, show G.toL.drop i = [] from List.drop_eq_nil_of_le (by rw [← HL2.out]; omega)]
          rfl)
        go_wp2_with (fail)
        go_ret
        exact ⟨ret_int HC2.out.symm, HG.out.trans (Gw.alloc _ _)⟩
    · by_cases hln : m < n
      · have HC2 := Lib.hid (show r = -1 by
          rw [HC.out, List.drop_eq_nil_of_le (by rw [← HL1.out]; omega), List.drop_eq_getElem_cons (show i < G.toL.length by rw [← HL2.out]; omega)]
          rfl)
        go_wp2_with (fail)
        go_ret
        exact ⟨ret_int HC2.out.symm, HG.out⟩
      · have HC2 := Lib.hid (show r = 0 by
          rw [HC.out, List.drop_eq_nil_of_le (by rw [← HL1.out]; omega), List.drop_eq_nil_of_le (by rw [← HL2.out]; omega)]
          rfl)
        go_wp2_with (fail)
        go_ret
        exact ⟨ret_int HC2.out.symm, HG.out⟩
set_option maxHeartbeats 8000000 in
set_option maxRecDepth 100000 in
theorem cmp_of (N : Nat) (ih : CMP N) : CMP (N + 1) := by
  intro S S' a b A m d B n e w hN h1 h2
  have HC := Lib.hid (fun W hW => cfunc_of N ih S S' a.ps b.ps A m d B n e W hN (h1.below hW) (h2.below hW))
  have HE := Lib.hid (ct_or a b)
  generalize a.cmp b = r at HE ⊢
  obtain ⟨k, v, q, ps⟩ := a
  obtain ⟨k', v', q', ps'⟩ := b
  unfold cV
  dsimp only [vi] at HC HE ⊢
  have c1 := fun W => (cord_any k k' W).mono (R' := fun e w' => e = .returned (.int .i64 (cord k k')) ∧ w' = W) fun _ _ ⟨h, h'⟩ => ⟨h, h'.symm⟩
  have c2 := fun W => (cord_any v v' W).mono (R' := fun e w' => e = .returned (.int .i64 (cord v v')) ∧ w' = W) fun _ _ ⟨h, h'⟩ => ⟨h, h'.symm⟩
  have c3 := fun W => (cord_any q q' W).mono (R' := fun e w' => e = .returned (.int .i64 (cord q q')) ∧ w' = W) fun _ _ ⟨h, h'⟩ => ⟨h, h'.symm⟩
  generalize cord k k' = r1 at *
  generalize cord v v' = r2 at *
  generalize cord q q' = r3 at *
  have c4 := fun g W h0 h1 h2 => or3_any r1 r2 r3 g W h0 h1 h2
  generalize or3 r1 r2 r3 = ro at *
  generalize ps.cmp ps' = rp at *
  clear ih hN h1 h2
  go_enter Tryz.func107, Tryz.ntmps107
  go_wp2
  refine wp_region_still_tail 15 (by kernel_rfl) (by kernel_rfl) ?_
  simp only [List.take_succ_cons, List.take_zero, List.drop_succ_cons, List.drop_zero]
  obtain ⟨W, hW⟩ : ∃ W : World, World.drew ((w.alloc (.cells #[.int .i64 k, .int .i64 v, .int .i64 q, .slice A m d] 24)).alloc (.cells #[.int .i64 k', .int .i64 v', .int .i64 q', .slice B n e] 24)) = W := ⟨_, rfl⟩
  change wpStill _ _ (World.drew ((w.alloc (.cells #[.int .i64 k, .int .i64 v, .int .i64 q, .slice A m d] 24)).alloc (.cells #[.int .i64 k', .int .i64 v', .int .i64 q', .slice B n e] 24))) (fun a'' => wpList _ _ _ _ a'' (World.drew ((w.alloc (.cells #[.int .i64 k, .int .i64 v, .int .i64 q, .slice A m d] 24)).alloc (.cells #[.int .i64 k', .int .i64 v', .int .i64 q', .slice B n e] 24)))) _ _
  rw [hW]
  have hg : Gw w W := by rw [← hW]; exact ((Gw.alloc _ _).trans (Gw.alloc _ _)).trans (Gw.drew _)
  have x0 : W.cell? ⟨w.heap.size, 0, none⟩ = some (.int .i64 k) := by rw [← hW]; simp
  have x1 : W.cell? ⟨w.heap.size, 1, none⟩ = some (.int .i64 v) := by rw [← hW]; simp
  have x2 : W.cell? ⟨w.heap.size, 2, none⟩ = some (.int .i64 q) := by rw [← hW]; simp
  have x3 : W.cell? ⟨w.heap.size, 3, none⟩ = some (.slice A m d) := by rw [← hW]; simp
  have y0 : W.cell? ⟨w.heap.size + 1, 0, none⟩ = some (.int .i64 k') := by rw [← hW]; simp
  have y1 : W.cell? ⟨w.heap.size + 1, 1, none⟩ = some (.int .i64 v') := by rw [← hW]; simp
  have y2 : W.cell? ⟨w.heap.size + 1, 2, none⟩ = some (.int .i64 q') := by rw [← hW]; simp
  have y3 : W.cell? ⟨w.heap.size + 1, 3, none⟩ = some (.slice B n e) := by rw [← hW]; simp
  have HW := Lib.hid hg
  have hwl : w.heap.size + 1 < W.heap.size := by rw [← hW]; simp
  clear hW hg
  iterate 4 still_step
  still_call (c1 _)
  iterate 4 still_step
  still_call (c2 _)
  iterate 4 still_step
  still_call (c3 _)
  refine wpStill_nil ?_
  clear c1 c2 c3 x0 x1 x2 y0 y1 y2
  go_wp2_with (fail)
  first | (refine calls_named ?_; intro W2 hW2) | (refine body_named ?_; intro W2 hW2) | (refine wpList_named ?_; intro W2 hW2) | (refine wp_named ?_; intro W2 hW2)
  have hg2 : Gw W W2 := by rw [← hW2]; exact Gw.alloc _ _
  have z0 : W2.cell? ⟨W.heap.size, 0, none⟩ = some (.int .i64 r1) := by rw [← hW2]; simp
  have z1 : W2.cell? ⟨W.heap.size, 1, none⟩ = some (.int .i64 r2) := by rw [← hW2]; simp
  have z2 : W2.cell? ⟨W.heap.size, 2, none⟩ = some (.int .i64 r3) := by rw [← hW2]; simp
  clear hW2
  have HG2 := Lib.hid (HW.out.trans hg2)
  rw [← hg2.below.cell (p := ⟨w.heap.size, 3, none⟩) (by show w.heap.size < _; omega)] at x3
  rw [← hg2.below.cell (p := ⟨w.heap.size + 1, 3, none⟩) hwl] at y3
  refine (c4 W.heap.size W2 z0 z1 z2).mono ?_
  rintro e1 w3 ⟨rfl, rfl⟩
  clear c4 z0 z1 z2 hg2
  by_cases h0 : ro = 0
  · have HE2 := Lib.hid (HE.out.trans (if_neg (Classical.not_not.2 h0)))
    clear HE
    subst h0
    go_wp2_with (fail)
    refine (HC.out W2 HG2.out.below).mono ?_
    rintro e1 w4 ⟨rfl, hg4⟩
    have HG4 := Lib.hid (HG2.out.trans hg4)
    clear hg4
    go_wp2_with (fail)
    go_ret
    exact ⟨ret_int HE2.out.symm, HG4.out⟩
  · have HE2 := Lib.hid (HE.out.trans (if_pos h0))
    have h0b : (ro == 0) = false := beq_eq_false_iff_ne.2 h0
    clear h0 HE
    go_wp2_with (fail)
    go_ret
    exact ⟨ret_int HE2.out.symm, HG2.out⟩
theorem cmp_all : ∀ N, CMP N
  | 0 => fun S S' a b A m d B n e w hN => absurd hN (Nat.not_lt_zero _)
  | N + 1 => cmp_of N (cmp_all N)
end Go.Proofs.YticpjdjdimpglaaGreatDoor

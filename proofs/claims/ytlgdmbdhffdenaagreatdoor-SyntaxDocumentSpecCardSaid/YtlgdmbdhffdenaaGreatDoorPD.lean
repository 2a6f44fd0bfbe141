/- What the parser's things look like in memory: conditions in a row, steps in a row, zones, rules; blocks of a set S are kept clear of. -/
import Derived.Test.YtlgdmbdhffdenaaGreatDoorPB
import Derived.Test.YtlgdmbdhffdenaaGreatDoorTokSt
import Derived.Test.YtlgdmbdhffdenaaGreatDoorProg
import Derived.Test.YtlgdmbdhffdenaaGreatDoorPA
import Derived.StillTail
import Derived.StillTactics
import Derived.Test.YtlgdmbdhffdenaaGreatDoorShelf
import Derived.Lib.AtoiAllMem
import Derived.Lib.AtoiErrMem
import Derived.Lib.AtoiAll
import Derived.Maps.Own
import Derived.Maps.OwnOps
import Derived.Maps.OwnSet
import Derived.StringKeys
namespace Go.Proofs.YtlgdmbdhffdenaaGreatDoor
set_option linter.unusedVariables false
set_option linter.unusedSimpArgs false
open Go.RowKit

def vi (x : Int) : Value := .int .i64 x
/-- The slice's block is not one of S. -/
def Av (S : Nat → Prop) (A : Option Addr) (m : Nat) : Prop := 0 < m → ∀ p, A = some p → ¬ S p.block
def RepF (S : Nat → Prop) (w : World) : CF → List Value → Prop
  | .nil, xs => xs = []
  | .cons k v n ps r, xs => ∃ A m c ys zs, xs = vi k :: vi v :: vi n :: .slice A m c :: zs ∧ (Rd w w.heap.size 4 A m c ys ∧ Av S A m ∧ RepF S w ps ys) ∧ RepF S w r zs
/-- A row of conditions by its slice. -/
def RepH (S : Nat → Prop) (w : World) (F : CF) (A : Option Addr) (m c : Nat) : Prop := ∃ ys, Rd w w.heap.size 4 A m c ys ∧ Av S A m ∧ RepF S w F ys
def RepS (S : Nat → Prop) (w : World) : SF → List Value → Prop
  | .nil, xs => xs = []
  | .cons k b ck cv cn cps th el r, xs => ∃ A m c A1 m1 c1 A2 m2 c2 zs, xs = vi k :: vi b :: vi ck :: vi cv :: vi cn :: .slice A m c :: .slice A1 m1 c1 :: .slice A2 m2 c2 :: zs ∧
    RepH S w cps A m c ∧ (∃ ys, Rd w w.heap.size 8 A1 m1 c1 ys ∧ Av S A1 m1 ∧ RepS S w th ys) ∧ (∃ ys, Rd w w.heap.size 8 A2 m2 c2 ys ∧ Av S A2 m2 ∧ RepS S w el ys) ∧ RepS S w r zs
def RepT (S : Nat → Prop) (w : World) (F : SF) (A : Option Addr) (m c : Nat) : Prop := ∃ ys, Rd w w.heap.size 8 A m c ys ∧ Av S A m ∧ RepS S w F ys
def zoneCells (z : ZT) : List Value := [.string (bs z.name), vi z.fr, vi z.to]
def RepZ (S : Nat → Prop) (w : World) (l : List ZT) (A : Option Addr) (m c : Nat) : Prop := Rd w w.heap.size 3 A m c (l.flatMap zoneCells) ∧ Av S A m

def CF.app : CF → CF → CF
  | .nil, y => y
  | .cons k v n ps r, y => .cons k v n ps (r.app y)
def SF.app : SF → SF → SF
  | .nil, y => y
  | .cons k b ck cv cn cps th el r, y => .cons k b ck cv cn cps th el (r.app y)
def CF.len : CF → Nat
  | .nil => 0
  | .cons _ _ _ _ r => r.len + 1
def SF.len : SF → Nat
  | .nil => 0
  | .cons _ _ _ _ _ _ _ _ r => r.len + 1
theorem CF.app_nil : ∀ x : CF, x.app .nil = x
  | .nil => rfl
  | .cons k v n ps r => by rw [CF.app, CF.app_nil r]
theorem CF.app_assoc : ∀ x y z : CF, (x.app y).app z = x.app (y.app z)
  | .nil, _, _ => rfl
  | .cons k v n ps r, y, z => by rw [CF.app, CF.app, CF.app, CF.app_assoc r]
theorem CF.len_app : ∀ x y : CF, (x.app y).len = x.len + y.len
  | .nil, _ => by simp [CF.app, CF.len]
  | .cons k v n ps r, y => by rw [CF.app, CF.len, CF.len, CF.len_app r]; omega
theorem SF.app_nil : ∀ x : SF, x.app .nil = x
  | .nil => rfl
  | .cons k b ck cv cn cps th el r => by rw [SF.app, SF.app_nil r]
theorem SF.app_assoc : ∀ x y z : SF, (x.app y).app z = x.app (y.app z)
  | .nil, _, _ => rfl
  | .cons k b ck cv cn cps th el r, y, z => by rw [SF.app, SF.app, SF.app, SF.app_assoc r]
theorem SF.len_app : ∀ x y : SF, (x.app y).len = x.len + y.len
  | .nil, _ => by simp [SF.app, SF.len]
  | .cons k b ck cv cn cps th el r, y => by rw [SF.app, SF.len, SF.len, SF.len_app r]; omega

theorem Av.none (S : Nat → Prop) : Av S none 0 := fun h => absurd h (by omega)
theorem Av.sub {S S' : Nat → Prop} {A : Option Addr} {m : Nat} (h : Av S A m) (hs : ∀ k, S' k → S k) : Av S' A m := fun hm p e hp => h hm p e (hs _ hp)
theorem Rd.av {S S' : Nat → Prop} {w w' : World} {size n c : Nat} {A : Option Addr} {xs : List Value} (h : Rd w w.heap.size size A n c xs) (ha : Av S A n) (ho : Only S' w w') (hs : ∀ k, S' k → S k) : Rd w' w'.heap.size size A n c xs := by
  refine ⟨h.len, h.cap, h.big, fun hn => ?_⟩
  obtain ⟨b, off, e, hb, hc⟩ := h.cells hn
  exact ⟨b, off, e, Nat.lt_of_lt_of_le hb ho.size, fun j u hu => (World.cell?_of_block (ho.block b hb (fun k => ha hn _ e (hs _ k)))).trans (hc j u hu)⟩

section
variable {S S' : Nat → Prop} {w w' : World}
theorem RepF.only (ho : Only S' w w') (hs : ∀ k, S' k → S k) : ∀ {F : CF} {xs : List Value}, RepF S w F xs → RepF S w' F xs
  | .nil, _, h => h
  | .cons .., _, h => by
    obtain ⟨A, m, c, ys, zs, e, ⟨h1, h2, h3⟩, h4⟩ := h
    exact ⟨A, m, c, ys, zs, e, ⟨h1.av h2 ho hs, h2, RepF.only ho hs h3⟩, RepF.only ho hs h4⟩
theorem RepF.sub (hs : ∀ k, S' k → S k) : ∀ {F : CF} {xs : List Value}, RepF S w F xs → RepF S' w F xs
  | .nil, _, h => h
  | .cons .., _, h => by
    obtain ⟨A, m, c, ys, zs, e, ⟨h1, h2, h3⟩, h4⟩ := h
    exact ⟨A, m, c, ys, zs, e, ⟨h1, h2.sub hs, RepF.sub hs h3⟩, RepF.sub hs h4⟩
theorem RepH.only (ho : Only S' w w') (hs : ∀ k, S' k → S k) {F : CF} {A : Option Addr} {m c : Nat} (h : RepH S w F A m c) : RepH S w' F A m c := by
  obtain ⟨ys, h1, h2, h3⟩ := h
  exact ⟨ys, h1.av h2 ho hs, h2, RepF.only ho hs h3⟩
theorem RepH.sub (hs : ∀ k, S' k → S k) {F : CF} {A : Option Addr} {m c : Nat} (h : RepH S w F A m c) : RepH S' w F A m c := by
  obtain ⟨ys, h1, h2, h3⟩ := h
  exact ⟨ys, h1, h2.sub hs, RepF.sub hs h3⟩
theorem RepS.only (ho : Only S' w w') (hs : ∀ k, S' k → S k) : ∀ {F : SF} {xs : List Value}, RepS S w F xs → RepS S w' F xs
  | .nil, _, h => h
  | .cons .., _, h => by
    obtain ⟨A, m, c, A1, m1, c1, A2, m2, c2, zs, e, hc, ⟨y1, a1, a2, a3⟩, ⟨y2, b1, b2, b3⟩, h4⟩ := h
    exact ⟨A, m, c, A1, m1, c1, A2, m2, c2, zs, e, hc.only ho hs, ⟨y1, a1.av a2 ho hs, a2, RepS.only ho hs a3⟩, ⟨y2, b1.av b2 ho hs, b2, RepS.only ho hs b3⟩, RepS.only ho hs h4⟩
theorem RepS.sub (hs : ∀ k, S' k → S k) : ∀ {F : SF} {xs : List Value}, RepS S w F xs → RepS S' w F xs
  | .nil, _, h => h
  | .cons .., _, h => by
    obtain ⟨A, m, c, A1, m1, c1, A2, m2, c2, zs, e, hc, ⟨y1, a1, a2, a3⟩, ⟨y2, b1, b2, b3⟩, h4⟩ := h
    exact ⟨A, m, c, A1, m1, c1, A2, m2, c2, zs, e, hc.sub hs, ⟨y1, a1, a2.sub hs, RepS.sub hs a3⟩, ⟨y2, b1, b2.sub hs, RepS.sub hs b3⟩, RepS.sub hs h4⟩
theorem RepT.only (ho : Only S' w w') (hs : ∀ k, S' k → S k) {F : SF} {A : Option Addr} {m c : Nat} (h : RepT S w F A m c) : RepT S w' F A m c := by
  obtain ⟨ys, h1, h2, h3⟩ := h
  exact ⟨ys, h1.av h2 ho hs, h2, RepS.only ho hs h3⟩
theorem RepT.sub (hs : ∀ k, S' k → S k) {F : SF} {A : Option Addr} {m c : Nat} (h : RepT S w F A m c) : RepT S' w F A m c := by
  obtain ⟨ys, h1, h2, h3⟩ := h
  exact ⟨ys, h1, h2.sub hs, RepS.sub hs h3⟩
theorem RepZ.only (ho : Only S' w w') (hs : ∀ k, S' k → S k) {l : List ZT} {A : Option Addr} {m c : Nat} (h : RepZ S w l A m c) : RepZ S w' l A m c := ⟨h.1.av h.2 ho hs, h.2⟩
theorem RepZ.sub (hs : ∀ k, S' k → S k) {l : List ZT} {A : Option Addr} {m c : Nat} (h : RepZ S w l A m c) : RepZ S' w l A m c := ⟨h.1, h.2.sub hs⟩

theorem RepF.app : ∀ {F G : CF} {xs ys : List Value}, RepF S w F xs → RepF S w G ys → RepF S w (F.app G) (xs ++ ys)
  | .nil, _, _, _, h, k => by rw [show _ = [] from h]; exact k
  | .cons .., _, _, _, h, k => by
    obtain ⟨A, m, c, y, zs, rfl, h1, h4⟩ := h
    exact ⟨A, m, c, y, zs ++ _, rfl, h1, RepF.app h4 k⟩
theorem RepS.app : ∀ {F G : SF} {xs ys : List Value}, RepS S w F xs → RepS S w G ys → RepS S w (F.app G) (xs ++ ys)
  | .nil, _, _, _, h, k => by rw [show _ = [] from h]; exact k
  | .cons .., _, _, _, h, k => by
    obtain ⟨A, m, c, A1, m1, c1, A2, m2, c2, zs, rfl, h1, h2, h3, h4⟩ := h
    exact ⟨A, m, c, A1, m1, c1, A2, m2, c2, zs ++ _, rfl, h1, h2, h3, RepS.app h4 k⟩
theorem RepF.len : ∀ {F : CF} {xs : List Value}, RepF S w F xs → xs.length = F.len * 4
  | .nil, _, h => by rw [show _ = [] from h]; rfl
  | .cons .., _, h => by
    obtain ⟨A, m, c, y, zs, rfl, h1, h4⟩ := h
    simp [CF.len, RepF.len h4]
    omega
theorem RepS.len : ∀ {F : SF} {xs : List Value}, RepS S w F xs → xs.length = F.len * 8
  | .nil, _, h => by rw [show _ = [] from h]; rfl
  | .cons .., _, h => by
    obtain ⟨A, m, c, A1, m1, c1, A2, m2, c2, zs, rfl, h1, h2, h3, h4⟩ := h
    simp [SF.len, RepS.len h4]
    omega
theorem RepH.len {F : CF} {A : Option Addr} {m c : Nat} (h : RepH S w F A m c) : m = F.len := by
  obtain ⟨ys, h1, h2, h3⟩ := h
  have := h1.len
  rw [h3.len] at this
  omega
theorem RepT.len {F : SF} {A : Option Addr} {m c : Nat} (h : RepT S w F A m c) : m = F.len := by
  obtain ⟨ys, h1, h2, h3⟩ := h
  have := h1.len
  rw [h3.len] at this
  omega
/-- No row. -/
theorem RepH.nil : RepH S w .nil none 0 0 := ⟨[], Rd.nil, Av.none S, rfl⟩
theorem RepT.nil : RepT S w .nil none 0 0 := ⟨[], Rd.nil, Av.none S, rfl⟩
theorem RepZ.nil : RepZ S w [] none 0 0 := ⟨Rd.nil, Av.none S⟩
/-- What is new keeps clear, too. -/
theorem Rd.lt_av {size n c : Nat} {A : Option Addr} {xs : List Value} (h : Rd w w.heap.size size A n c xs) (ha : Av S A n) : Av (fun k => S k ∨ w.heap.size ≤ k) A n := by
  intro hn p ep hp
  rcases hp with hp | hp
  · exact ha hn p ep hp
  obtain ⟨b, off, e, hb, _⟩ := h.cells hn
  rw [e] at ep
  cases ep
  have hp' : w.heap.size ≤ b := hp
  omega
theorem RepF.new : ∀ {F : CF} {xs : List Value}, RepF S w F xs → RepF (fun k => S k ∨ w.heap.size ≤ k) w F xs
  | .nil, _, h => h
  | .cons .., _, h => by
    obtain ⟨A, m, c, ys, zs, e, ⟨h1, h2, h3⟩, h4⟩ := h
    exact ⟨A, m, c, ys, zs, e, ⟨h1, h1.lt_av h2, RepF.new h3⟩, RepF.new h4⟩
theorem RepH.new {F : CF} {A : Option Addr} {m c : Nat} (h : RepH S w F A m c) : RepH (fun k => S k ∨ w.heap.size ≤ k) w F A m c := by
  obtain ⟨ys, h1, h2, h3⟩ := h
  exact ⟨ys, h1, h1.lt_av h2, h3.new⟩
theorem RepS.new : ∀ {F : SF} {xs : List Value}, RepS S w F xs → RepS (fun k => S k ∨ w.heap.size ≤ k) w F xs
  | .nil, _, h => h
  | .cons .., _, h => by
    obtain ⟨A, m, c, A1, m1, c1, A2, m2, c2, zs, e, hc, ⟨y1, a1, a2, a3⟩, ⟨y2, b1, b2, b3⟩, h4⟩ := h
    exact ⟨A, m, c, A1, m1, c1, A2, m2, c2, zs, e, hc.new, ⟨y1, a1, a1.lt_av a2, RepS.new a3⟩, ⟨y2, b1, b1.lt_av b2, RepS.new b3⟩, RepS.new h4⟩
theorem RepT.new {F : SF} {A : Option Addr} {m c : Nat} (h : RepT S w F A m c) : RepT (fun k => S k ∨ w.heap.size ≤ k) w F A m c := by
  obtain ⟨ys, h1, h2, h3⟩ := h
  exact ⟨ys, h1, h1.lt_av h2, h3.new⟩
theorem RepZ.new {l : List ZT} {A : Option Addr} {m c : Nat} (h : RepZ S w l A m c) : RepZ (fun k => S k ∨ w.heap.size ≤ k) w l A m c := ⟨h.1, h.1.lt_av h.2⟩
end
end Go.Proofs.YtlgdmbdhffdenaaGreatDoor

/- Tokens and problems in memory: one of a row. -/
namespace Go.Proofs.YtlgdmbdhffdenaaGreatDoor
set_option linter.unusedVariables false
set_option linter.unusedSimpArgs false
open Go.RowKit

theorem flat_get {α : Type} (f : α → List Value) (m : Nat) (hf : ∀ x, (f x).length = m) (l : List α) (k j : Nat) (hk : k < l.length) (hj : j < m) : (l.flatMap f)[k * m + j]? = (f l[k])[j]? := by
  induction l generalizing k with
  | nil => simp at hk
  | cons a l ih =>
    rw [List.flatMap_cons]
    cases k with
    | zero => rw [Nat.zero_mul, Nat.zero_add, List.getElem?_append_left (by rw [hf]; exact hj)]; rfl
    | succ k =>
      rw [List.getElem?_append_right (by rw [hf, Nat.succ_mul]; omega), hf, show (k + 1) * m + j - m = k * m + j by rw [Nat.succ_mul]; omega, ih k (by simpa using hk)]
      rfl
theorem tok_len (t : Tok) : (tokCells t).length = 3 := rfl
theorem prob_len (t : Prob) : (probCells t).length = 2 := rfl
section
variable {w : World} {B n c : Nat} {A : Option Addr}
theorem Rd.tlen {T : List Tok} (h : Rd w B 3 A n c (T.flatMap tokCells)) : T.length = n := by
  have := h.len; rw [flatMap_len tokCells 3 tok_len] at this; omega
theorem Rd.plen {T : List Prob} (h : Rd w B 2 A n c (T.flatMap probCells)) : T.length = n := by
  have := h.len; rw [flatMap_len probCells 2 prob_len] at this; omega
/-- Token k of a slice. -/
theorem Rd.tok {T : List Tok} {k : Nat} (h : Rd w B 3 A n c (T.flatMap tokCells)) (hk : k < n) : ∃ b off t, A = some ⟨b, off, none⟩ ∧ b < B ∧ T[k]? = some t ∧ w.cell? ⟨b, off + k * 3, none⟩ = some (.int .i64 t.kind) ∧ w.cell? ⟨b, off + k * 3 + 1, none⟩ = some (.string (bs t.text)) ∧ w.cell? ⟨b, off + k * 3 + 2, none⟩ = some (.int .i64 t.at_) := by
  have hT := h.tlen
  obtain ⟨b, off, e, hb, hc⟩ := h.cells (by omega)
  have hk' : k < T.length := by omega
  refine ⟨b, off, T[k], e, hb, List.getElem?_eq_getElem hk', ?_, ?_, ?_⟩
  · have := hc (k * 3 + 0) (.int .i64 T[k].kind) (by rw [flat_get tokCells 3 tok_len T k 0 hk' (by omega)]; rfl)
    simpa using this
  · have := hc (k * 3 + 1) (.string (bs T[k].text)) (by rw [flat_get tokCells 3 tok_len T k 1 hk' (by omega)]; rfl)
    rwa [← Nat.add_assoc] at this
  · have := hc (k * 3 + 2) (.int .i64 T[k].at_) (by rw [flat_get tokCells 3 tok_len T k 2 hk' (by omega)]; rfl)
    rwa [← Nat.add_assoc] at this
theorem Rd.prob {T : List Prob} {k : Nat} (h : Rd w B 2 A n c (T.flatMap probCells)) (hk : k < n) : ∃ b off t, A = some ⟨b, off, none⟩ ∧ b < B ∧ T[k]? = some t ∧ w.cell? ⟨b, off + k * 2, none⟩ = some (.int .i64 t.at_) ∧ w.cell? ⟨b, off + k * 2 + 1, none⟩ = some (.int .i64 t.code) := by
  have hT := h.plen
  obtain ⟨b, off, e, hb, hc⟩ := h.cells (by omega)
  have hk' : k < T.length := by omega
  refine ⟨b, off, T[k], e, hb, List.getElem?_eq_getElem hk', ?_, ?_⟩
  · have := hc (k * 2 + 0) (.int .i64 T[k].at_) (by rw [flat_get probCells 2 prob_len T k 0 hk' (by omega)]; rfl)
    simpa using this
  · have := hc (k * 2 + 1) (.int .i64 T[k].code) (by rw [flat_get probCells 2 prob_len T k 1 hk' (by omega)]; rfl)
    rwa [← Nat.add_assoc] at this
end
end Go.Proofs.YtlgdmbdhffdenaaGreatDoor

/- The world at hand by a name of its own (a line 'go_world W hW' of a template is written out by fill.py). -/
namespace Go.Proofs.YtlgdmbdhffdenaaGreatDoor
set_option linter.unusedVariables false
set_option linter.unusedSimpArgs false

section
variable {P : Program} {ops : Array Oper} {rest : List Oper} {o : Oper} {a : Act} {Q : Exit → Act → World → Prop} {w : World}
theorem calls_named {f : FuncId} {args : Array Value} {R : Ending → World → Prop} (h : ∀ W, w = W → Calls P f args W R) : Calls P f args w R := h w rfl
theorem body_named {fn : Func} {R : Ending → World → Prop} {e : Exit} (h : ∀ W, w = W → bodyPost P fn R e a W) : bodyPost P fn R e a w := h w rfl

theorem wp_named {c : Code} (h : ∀ W, w = W → c.wp P Q a W) : c.wp P Q a w := h w rfl
theorem wpList_named {l : List Oper} (h : ∀ W, w = W → wpList P ops Q l a W) : wpList P ops Q l a w := h w rfl
/-- The walk stands at a map literal's word; at an operation. -/
theorem at_ins {t : TypeId} {m x v : Operand} (ho : o.op = Op.insert t m x v) (h : wpList P ops Q (o :: rest) a w) : wpList P ops Q (o :: rest) a w := h
theorem at_op (op : Op) (ho : o.op = op) (h : wpList P ops Q (o :: rest) a w) : wpList P ops Q (o :: rest) a w := h
end
end Go.Proofs.YtlgdmbdhffdenaaGreatDoor

/- What the library's functions read of the package-level variables; strconv.Atoi. -/
namespace Go.Proofs.YtlgdmbdhffdenaaGreatDoor
set_option linter.unusedVariables false
set_option linter.unusedSimpArgs false
open Go.RowKit

/-- What the library's functions read of the package-level variables. -/
structure Now (w : World) : Prop where
  len : ∃ m, w.cell? ⟨0, 0, none⟩ = some (.int .i64 m)
  syn : ∃ tp p, w.var? Tryz.prog "strconv.ErrSyntax" = some #[.iface tp p]
  rng : ∃ tp p, w.var? Tryz.prog "strconv.ErrRange" = some #[.iface tp p]
/-- .. now and in every later world that keeps what lies below B. -/
def Gb (B : Nat) (w : World) : Prop := ∀ w', Below B w w' → Now w'
theorem Gb.now {B : Nat} {w : World} (h : Gb B w) : Now w := h w (Below.refl _ _)
theorem Gb.below {B : Nat} {w w' : World} (h : Gb B w) (hb : Below B w w') : Gb B w' := fun w2 hb2 => h w2 (hb.trans hb2)
theorem Gb.more {B B' : Nat} {w : World} (h : Gb B w) (hB : B ≤ B') : Gb B' w := fun w2 hb2 => h w2 (hb2.mono hB)

/-- How strconv.Atoi ends. -/
def AtoiPost (l : List UInt8) (w : World) (e : Ending) (w' : World) : Prop :=
  ((∃ v, Lib.atoiAll l = .ok v ∧ e = .returned (.tuple #[.int .i64 v, .nilIface])) ∨ ((∀ v, Lib.atoiAll l ≠ .ok v) ∧ ∃ x tp p, e = .returned (.tuple #[.int .i64 x, .iface tp p]))) ∧ Below w.heap.size w w'
theorem atoi_any (l : List UInt8) (hl : l.length ≤ 100000) (w : World) (hg : Now w) : Calls Tryz.prog 91 #[.string (bs l)] w (AtoiPost l w) := by
  cases h : Lib.atoiAll l with
  | ok v =>
    refine (Tryz.strconv_Atoi_ok (bs l) (by rw [bs_size]; omega) v h w).mono ?_
    rintro e w' ⟨rfl, hw⟩
    refine ⟨.inl ⟨v, h, rfl⟩, ?_⟩
    rcases hw with rfl | ⟨t, rfl⟩
    · exact Below.refl _ _
    · exact Lib.bytesWorld_below _ _ _
  | range =>
    obtain ⟨tp, p, hv⟩ := hg.rng
    refine (Tryz.strconv_Atoi_range_var (bs l) (by rw [bs_size]; omega) h tp p w hv).mono ?_
    rintro e w' ⟨N, rfl, _, _, hb⟩
    exact ⟨.inr ⟨(fun v => by rw [h]; exact (fun e => by cases e)), _, _, _, rfl⟩, hb⟩
  | _ =>
    obtain ⟨tp, p, hv⟩ := hg.syn
    refine (Tryz.strconv_Atoi_syntax_var (bs l) (by rw [bs_size]; omega) h tp p w hv).mono ?_
    rintro e w' ⟨N, rfl, _, _, hb⟩
    exact ⟨.inr ⟨(fun v => by rw [h]; exact (fun e => by cases e)), _, _, _, rfl⟩, hb⟩

end Go.Proofs.YtlgdmbdhffdenaaGreatDoor

/- The number of an integer's text, in plain Lean: as strconv.Atoi reads it. -/
namespace Go.Proofs.YtlgdmbdhffdenaaGreatDoor
set_option linter.unusedVariables false
set_option linter.unusedSimpArgs false

theorem pu_digits : ∀ (l : List UInt8) (acc k : Nat), (∀ c ∈ l, isDigit c.toNat = true) → acc < 10 ^ k → k + l.length ≤ 18 → ∃ v, Lib.parseUint10 acc l = .ok v ∧ l.foldl dig (acc : Int) = (v : Int) ∧ v < 10 ^ (k + l.length)
  | [], acc, k, _, ha, _ => ⟨acc, rfl, rfl, ha⟩
  | c :: r, acc, k, hd, ha, hk => by
    have hc := hd c (by simp)
    unfold isDigit at hc
    rw [decide_eq_true_iff] at hc
    have hlen : k + 1 + r.length ≤ 18 := by simp at hk; omega
    have hp : 10 ^ k ≤ 10 ^ 17 := Nat.pow_le_pow_right (by omega) (by simp at hk; omega)
    have h17 : (10 : Nat) ^ 17 = 100000000000000000 := by decide
    have hacc : acc * 10 + (c.toNat - 48) < 10 ^ (k + 1) := by rw [Nat.pow_succ]; omega
    obtain ⟨v, h1, h2, h3⟩ := pu_digits r (acc * 10 + (c.toNat - 48)) (k + 1) (fun x hx => hd x (by simp [hx])) hacc hlen
    refine ⟨v, ?_, ?_, ?_⟩
    · rw [Lib.parseUint10, if_pos hc, if_neg (by omega), if_neg (by omega), h1]
    · rw [List.foldl_cons, ← h2]
      congr 1
      unfold dig
      have h45 : ¬ c = 45 := by
        rintro rfl
        exact absurd hc.1 (by decide)
      rw [if_neg h45]
      omega
    · rw [show k + (c :: r).length = k + 1 + r.length by simp; omega]; exact h3

theorem numB_digits {l : List UInt8} (h : numB l = true) : l ≠ [] ∧ l.length ≤ 18 ∧ ∀ c ∈ l, isDigit c.toNat = true := by
  unfold numB at h
  simp only [Bool.and_eq_true, decide_eq_true_eq, Bool.not_eq_true', List.all_eq_true] at h
  exact ⟨by intro e; rw [e] at h; simp at h, h.1.1.2, h.2⟩
/-- An integer's text is read as its number, which is small. -/
theorem atoi_int {l : List UInt8} (h : intB l = true) : Lib.atoiAll l = .ok (num l) ∧ -1000000000000000000 < num l ∧ num l < 1000000000000000000 := by
  have hp : ∀ k : Nat, k ≤ 18 → 10 ^ k ≤ 1000000000000000000 := fun k hk => by
    have := Nat.pow_le_pow_right (n := 10) (by omega) hk
    rwa [show (10 : Nat) ^ 18 = 1000000000000000000 from by decide] at this
  unfold intB at h
  rw [Bool.or_eq_true] at h
  rcases h with h | h
  · obtain rfl : l = [48] := by simpa using h
    exact ⟨by decide, by decide, by decide⟩
  · by_cases h45 : bt l 0 = 45
    · rw [if_pos h45] at h
      cases l with
      | nil => simp [bt] at h45
      | cons c r =>
        have hc : c.toNat = 45 := h45
        have hc' : c = 45 := UInt8.toNat_inj.1 hc
        subst hc'
        obtain ⟨h1, h2, h3⟩ := numB_digits (show numB r = true from h)
        obtain ⟨v, e1, e2, e3⟩ := pu_digits r 0 0 h3 (by decide) (by omega)
        have hv := hp (0 + r.length) (by omega)
        have hn : num (45 :: r) = -(v : Int) := by
          unfold num
          rw [if_pos h45, List.foldl_cons]
          exact congrArg (fun x : Int => -x) e2
        refine ⟨?_, by rw [hn]; omega, by rw [hn]; omega⟩
        rw [hn]
        unfold Lib.atoiAll Lib.parseMag
        simp only [show (45 : UInt8).toNat = 45 from rfl, or_true, if_true, if_neg h1]
        rw [e1]
        simp only [not_true_eq_false, false_and, if_false, true_and]
        rw [if_neg (by omega)]
    · rw [if_neg h45] at h
      obtain ⟨h1, h2, h3⟩ := numB_digits h
      cases l with
      | nil => exact absurd rfl h1
      | cons c r =>
        obtain ⟨v, e1, e2, e3⟩ := pu_digits (c :: r) 0 0 h3 (by decide) (by omega)
        have hv := hp (0 + (c :: r).length) (by omega)
        have hn : num (c :: r) = (v : Int) := by
          unfold num
          rw [if_neg h45]
          exact e2
        have hcd := h3 c (by simp)
        unfold isDigit at hcd
        rw [decide_eq_true_iff] at hcd
        refine ⟨?_, by rw [hn]; omega, by rw [hn]; omega⟩
        rw [hn]
        unfold Lib.atoiAll Lib.parseMag
        simp only []
        rw [if_neg (show ¬ (c.toNat = 43 ∨ c.toNat = 45) by omega), if_neg h1, e1]
        have h45' : ¬ c.toNat = 45 := by omega
        simp only [h45', not_false_eq_true, true_and, false_and, if_false]
        rw [if_neg (by omega)]
end Go.Proofs.YtlgdmbdhffdenaaGreatDoor

/- A map from words to numbers, made by the call: what stands at a word. -/
namespace Go.Proofs.YtlgdmbdhffdenaaGreatDoor
set_option linter.unusedVariables false
set_option linter.unusedSimpArgs false
open Go.RowKit

theorem strKeyed : Maps.Keyed Tryz.prog 9 := Maps.string_keyed Tryz.underlying9
/-- Block b is a map that holds what ws says. -/
def MapIs (w : World) (b : Nat) (ws : List (List UInt8 × Int)) : Prop := ∃ (n : Nat) (D : DataW Unit), n ≤ ws.length ∧ w.ownsMap Tryz.prog 9 (plainElem Tryz.prog 3) b n D ∧ Maps.IsMap D ∧
  ∀ s : List UInt8, D.atKey (.string s) (.lit (.int .i64 0)) = .lit (.int .i64 ((lkup s ws).getD 0)) ∧ Maps.has D (.string s) = (lkup s ws).isSome
theorem MapIs.made (w : World) : MapIs (w.alloc (.map #[] 0)) w.heap.size [] := ⟨0, .map [], Nat.le_refl _, World.ownsMap_made _ _ _ _, Maps.isMap_empty, fun s => ⟨rfl, rfl⟩⟩
theorem MapIs.lt {w : World} {b : Nat} {ws : List (List UInt8 × Int)} (h : MapIs w b ws) : b < w.heap.size := by
  obtain ⟨n, D, _, h, _⟩ := h
  exact h.lt
theorem MapIs.only {S : Nat → Prop} {w w' : World} {b : Nat} {ws : List (List UInt8 × Int)} (h : MapIs w b ws) (ho : Only S w w') (hb : ¬ S b) : MapIs w' b ws := by
  obtain ⟨n, D, hn, ⟨es, clock, hh, r⟩, rest⟩ := h
  exact ⟨n, D, hn, ⟨es, clock, (ho.block b (Array.getElem?_eq_some_iff.1 hh).1 hb).trans hh, r⟩, rest⟩
theorem MapIs.below {w w' : World} {b : Nat} {ws : List (List UInt8 × Int)} (h : MapIs w b ws) (hb : Below w.heap.size w w') : MapIs w' b ws := h.only (S := fun _ => False) ⟨hb.os, hb.tape, hb.output, hb.size, fun k hk _ => hb.block k hk⟩ (fun h => h)

section
variable {P : Program} {ops : Array Oper} {rest : List Oper} {o : Oper} {a : Act} {Q : Exit → Act → World → Prop} {w : World}
/-- A word of a map literal. -/
theorem wpList_insert_is {b : Nat} {ws : List (List UInt8 × Int)} (hg : o.guard = none) (m x v : Operand) (hop : o.op = Op.insert 157 m x v) (hm : a.eval m = .map (some b)) (h : MapIs w b ws) (hl : ws.length ≤ 100)
    (s : List UInt8) (i : Int) (hx : a.eval x = .string (bs s)) (hv : a.eval v = .int .i64 i) (hs : s.length ≤ 100000) (hi : (Lit.int .i64 i).wf = true)
    (hK : ∀ w', MapIs w' b ((s, i) :: ws) → w.grownBy w' (some b) → wpList Tryz.prog ops Q rest (a.put o.dst undef) w') : wpList Tryz.prog ops Q (o :: rest) a w := by
  obtain ⟨n, D, hn, hown, hD, hlook⟩ := h
  have hkey : keyOf Tryz.prog 9 (.string (bs s)) = some (.string s) := WideMaps.keyOf_string_mk Tryz.underlying9 (by rw [bs_size]; unfold maxLen; omega)
  refine wpList_plain hg fun K' hK' => ?_
  obtain ⟨w', hrun, r1, r2⟩ := hown.update strKeyed Tryz.underlying157 (by unfold maxLen; omega) hkey (plainElem_int Tryz.underlying3 hi)
  unfold Oper.wp
  simp [execOp, hop, hm, hx, hv, hrun, Result.andThen]
  refine hK' _ _ (hK w' ⟨n + 1, _, by simpa using hn, r1, hD.put _ _, fun s' => ?_⟩ r2)
  unfold lkup
  by_cases e : s' = s
  · subst e
    rw [if_pos rfl]
    exact ⟨Maps.atKey_put_same hD (by trivial) _ _, Maps.has_put_same hD (by trivial) _⟩
  · rw [if_neg e, Maps.atKey_put_other (by simpa using e), Maps.has_put_other (by simpa using e)]
    exact hlook s'
/-- A word is looked up. -/
theorem wpList_lookup_is {b : Nat} {ws : List (List UInt8 × Int)} (hg : o.guard = none) (m x : Operand) (hop : o.op = Op.lookup 157 m x true) (hm : a.eval m = .map (some b)) (h : MapIs w b ws)
    (s : List UInt8) (hx : a.eval x = .string (bs s)) (hs : s.length ≤ 100000)
    (hK : wpList Tryz.prog ops Q rest (a.put o.dst (.tuple #[.int .i64 ((lkup s ws).getD 0), .bool (lkup s ws).isSome])) w) : wpList Tryz.prog ops Q (o :: rest) a w := by
  obtain ⟨n, D, hn, hown, hD, hlook⟩ := h
  have hkey : keyOf Tryz.prog 9 (.string (bs s)) = some (.string s) := WideMaps.keyOf_string_mk Tryz.underlying9 (by rw [bs_size]; unfold maxLen; omega)
  refine wpList_lookup_own_ok_int w hg m x 157 hop 9 3 .i64 strKeyed Tryz.underlying157 Tryz.underlying3 (by kernel_rfl) b n D hm hown _ _ hx hkey fun c hc hw => ?_
  obtain ⟨h1, h2⟩ := hlook s
  rw [h1] at hc
  injection hc with hc
  injection hc with _ hc
  rw [h2, ← hc]
  exact hK
/-- A map that is being made, in a world that has kept w. -/
def MSt (w w' : World) (b : Nat) (ws : List (List UInt8 × Int)) : Prop := Below w.heap.size w w' ∧ w.heap.size ≤ b ∧ MapIs w' b ws
theorem MSt.made {w w' : World} {b : Nat} (h : Below w.heap.size w w') (hb : b = w'.heap.size) : MSt w (w'.alloc (.map #[] 0)) b [] := by
  subst hb
  exact ⟨h.alloc h.size _, h.size, MapIs.made _⟩
theorem wpList_insert_st {w0 : World} {b : Nat} {ws : List (List UInt8 × Int)} (m : Operand) (h : MSt w0 w b ws) (s : List UInt8) (i : Int) (hl : ws.length ≤ 100) (hs : s.length ≤ 100000) (hi : (Lit.int .i64 i).wf = true)
    (hg : o.guard = none) (hop : o.op = Op.insert 157 m (.const (.string (bs s))) (.const (.int .i64 i))) (hm : a.eval m = .map (some b))
    (hK : ∀ w', MSt w0 w' b ((s, i) :: ws) → wpList Tryz.prog ops Q rest (a.put o.dst undef) w') : wpList Tryz.prog ops Q (o :: rest) a w :=
  wpList_insert_is hg m _ _ hop hm h.2.2 hl s i rfl rfl hs hi fun w' h1 h2 =>
    hK w' ⟨(Only.of_grown (S := (· = b)) h2 (fun k e => by injection e with e; exact e.symm)).below h.1 h.1.size (fun k e => by rw [e]; exact h.2.1), h.2.1, h1⟩
end
end Go.Proofs.YtlgdmbdhffdenaaGreatDoor

/- A struct in a box of its own; a row of conditions in a block of its own. -/
namespace Go.Proofs.YtlgdmbdhffdenaaGreatDoor
set_option linter.unusedVariables false
set_option linter.unusedSimpArgs false
open Go.RowKit

section
variable {w w' w'' : World} {b : Nat} {t : TypeId}
theorem Blk.four {x0 x1 x2 x3 : Value} (h : Blk w b t #[x0, x1, x2, x3]) : w.cell? ⟨b, 0, none⟩ = some x0 ∧ w.cell? ⟨b, 1, none⟩ = some x1 ∧ w.cell? ⟨b, 2, none⟩ = some x2 ∧ w.cell? ⟨b, 3, none⟩ = some x3 ∧
    w.frozen? ⟨b, 0, none⟩ = false ∧ w.frozen? ⟨b, 1, none⟩ = false ∧ w.frozen? ⟨b, 2, none⟩ = false ∧ w.frozen? ⟨b, 3, none⟩ = false :=
  ⟨by rw [h.cell]; rfl, by rw [h.cell]; rfl, by rw [h.cell]; rfl, by rw [h.cell]; rfl, h.frozen 0, h.frozen 1, h.frozen 2, h.frozen 3⟩
theorem Blk.set4 {x0 x1 x2 x3 y0 y1 y2 y3 : Value} (h : Blk w b t #[x0, x1, x2, x3]) :
    Blk ((((w.setCell ⟨b, 0, none⟩ y0).setCell ⟨b, 1, none⟩ y1).setCell ⟨b, 2, none⟩ y2).setCell ⟨b, 3, none⟩ y3) b t #[y0, y1, y2, y3] ∧
    Only (· = b) w ((((w.setCell ⟨b, 0, none⟩ y0).setCell ⟨b, 1, none⟩ y1).setCell ⟨b, 2, none⟩ y2).setCell ⟨b, 3, none⟩ y3) :=
  ⟨(((h.set 0 _).set 1 _).set 2 _).set 3 _,
   ((((Only.refl _ _).trans (Only.set (S := (· = b)) _ (p := ⟨b, 0, none⟩) rfl _)).trans (Only.set (S := (· = b)) _ (p := ⟨b, 1, none⟩) rfl _)).trans (Only.set (S := (· = b)) _ (p := ⟨b, 2, none⟩) rfl _)).trans (Only.set (S := (· = b)) _ (p := ⟨b, 3, none⟩) rfl _)⟩
/-- What is written into a new block does not count. -/
theorem Only.new {S S' : Nat → Prop} (h : Only S w w') (h' : Only S' w' w'') (hs : ∀ k, S' k → w.heap.size ≤ k) : Only S w w'' :=
  ⟨h'.os.trans h.os, h'.tape.trans h.tape, h'.output.trans h.output, Nat.le_trans h.size h'.size, fun i hi hn =>
    (h'.block i (Nat.lt_of_lt_of_le hi h.size) (fun hq => by have := hs i hq; omega)).trans (h.block i hi hn)⟩
/-- A row of conditions that is a block of its own. -/
theorem RepH.blk {S : Nat → Prop} {F : CF} {xs : List Value} (h : Blk w b t xs.toArray) (hF : RepF S w F xs) (hS : ¬ S b) (hm : F.len ≤ 1000000) : RepH S w F (some ⟨b, 0, none⟩) F.len F.len :=
  ⟨xs, ⟨hF.len, Nat.le_refl _, by omega, fun _ => ⟨b, 0, rfl, h.lt, fun j u hj => by rw [h.cell, Nat.zero_add]; simpa using hj⟩⟩, fun _ p hp => by cases hp; exact hS, hF⟩
theorem RepF.cons {S : Nat → Prop} {k v n : Int} {ps r : CF} {A : Option Addr} {m c : Nat} {zs : List Value} (h : RepH S w ps A m c) (hr : RepF S w r zs) : RepF S w (.cons k v n ps r) (vi k :: vi v :: vi n :: .slice A m c :: zs) := by
  obtain ⟨ys, h1, h2, h3⟩ := h
  exact ⟨A, m, c, ys, zs, rfl, ⟨h1, h2, h3⟩, hr⟩
end
end Go.Proofs.YtlgdmbdhffdenaaGreatDoor

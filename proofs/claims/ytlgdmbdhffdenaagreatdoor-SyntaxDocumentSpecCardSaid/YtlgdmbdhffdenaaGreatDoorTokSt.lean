/- What lexis.Tokens holds in memory between two rounds. -/
import Derived.Test.YtlgdmbdhffdenaaGreatDoorNext
import Derived.Test.YtlgdmbdhffdenaaGreatDoorOwn
import Derived.Test.YtlgdmbdhffdenaaGreatDoorLexLen
namespace Go.Proofs.YtlgdmbdhffdenaaGreatDoor
set_option linter.unusedVariables false
set_option linter.unusedSimpArgs false
open Go.RowKit

def tokCells (t : Tok) : List Value := [.int .i64 t.kind, .string (bs t.text), .int .i64 t.at_]
def probCells (p : Prob) : List Value := [.int .i64 p.at_, .int .i64 p.code]
theorem elemTok : Elem Tryz.prog 45 53 3 32 := Elem.mk' Tryz.underlying45 (z := .agg #[.int .i64 0, .string ⟨#[]⟩, .int .i64 0]) (by kernel_rfl) rfl (by omega)
theorem elemProb : Elem Tryz.prog 40 49 2 16 := Elem.mk' Tryz.underlying40 (z := .agg #[.int .i64 0, .int .i64 0]) (by kernel_rfl) rfl (by omega)

/-- Only the blocks of S, and what is new, have turned. -/
structure Only (S : Nat → Prop) (w w' : World) : Prop where
  os : w'.os = w.os
  tape : w'.tape = w.tape
  output : w'.output = w.output
  size : w.heap.size ≤ w'.heap.size
  block : ∀ k, k < w.heap.size → ¬ S k → w'.heap[k]? = w.heap[k]?
section
variable {S : Nat → Prop} {w w' w'' : World}
theorem Only.refl (S : Nat → Prop) (w : World) : Only S w w := ⟨rfl, rfl, rfl, Nat.le_refl _, fun _ _ _ => rfl⟩
theorem Only.trans (h : Only S w w') (k : Only S w' w'') : Only S w w'' :=
  ⟨k.os.trans h.os, k.tape.trans h.tape, k.output.trans h.output, Nat.le_trans h.size k.size, fun i hi hn => (k.block i (Nat.lt_of_lt_of_le hi h.size) hn).trans (h.block i hi hn)⟩
theorem Only.of_below (h : Below w.heap.size w w') : Only S w w' := ⟨h.os, h.tape, h.output, h.size, fun k hk _ => h.block k hk⟩
theorem Only.of_grown {row : Option Nat} (h : w.grownBy w' row) (hr : ∀ k, row = some k → S k) : Only S w w' :=
  ⟨h.os, h.tape, h.output, h.size, fun k hk hn => h.block k hk (fun e => hn (hr k e.symm))⟩
theorem Only.set (w : World) {p : Addr} (hp : S p.block) (u : Value) : Only S w (w.setCell p u) :=
  ⟨rfl, rfl, rfl, by simp [World.setCell], fun k _ hn => Below.heap_setCell _ _ _ _ (fun e => hn (e ▸ hp))⟩
theorem Only.below {B : Nat} {w0 : World} (h : Only S w w') (hb : Below B w0 w) (hB : B ≤ w.heap.size) (hS : ∀ k, S k → B ≤ k) : Below B w0 w' :=
  hb.trans ⟨h.os, h.tape, h.output, h.size, fun k hk => h.block k (by omega) (fun hs => by have := hS k hs; omega)⟩
theorem Blk.only {g : Nat} {t : TypeId} {cs : Array Value} (hb : Blk w g t cs) (h : Only S w w') (hn : ¬ S g) : Blk w' g t cs := (h.block g hb.lt hn).trans hb
theorem own_only {B : Nat} {e : TypeId} {size n : Nat} {v : Value} {xs : List Value} (ho : w.ownsRow B e size v n xs) (h : Only S w w') (hn : ∀ k, v.ownBlock = some k → ¬ S k) : w'.ownsRow B e size v n xs := by
  refine ⟨ho.1, ?_⟩
  rcases ho.2 with h1 | ⟨g, cap, cur, rfl, hg, hgg, rest⟩
  · exact .inl h1
  · exact .inr ⟨g, cap, cur, rfl, hg, (h.block g (Array.getElem?_eq_some_iff.1 hgg).1 (hn g rfl)).trans hgg, rest⟩
theorem Rd.only {B size n c : Nat} {A : Option Addr} {xs : List Value} (hr : Rd w B size A n c xs) (h : Only S w w') (hB : B ≤ w.heap.size) (hn : ∀ k, k < B → ¬ S k) : Rd w' B size A n c xs :=
  hr.keep fun p hp => World.cell?_of_block (h.block p.block (by omega) (hn p.block hp))
end

theorem scn_set (A : Option Addr) (n c a b : Nat) : (scnCells A n c a).setIfInBounds 1 (.int .i64 (b : Int)) = scnCells A n c b := by
  unfold scnCells
  rw [List.setIfInBounds_toArray]
  rfl
/-- The state of Tokens: the problems' variable and row, the scanner behind its variable, the end of the last invalid bytes. -/
structure TSt (B : Nat) (w : World) (Pb Ps g Pe : Nat) (A : Option Addr) (n c : Nat) (l : List UInt8) (a : Nat) (E : Int) (P : List Prob) (Ab : Option Addr) (cb : Nat) : Prop where
  bad : Blk w Pb 40 #[.slice Ab P.length cb]
  row : w.ownsRow B 49 2 (.slice Ab P.length cb) P.length (P.flatMap probCells)
  sv : Blk w Ps 80 #[.pointer (some ⟨g, 0, none⟩)]
  scn : Scn w g A n c l a
  src : Rd w B 1 A n c (l.map vb)
  endv : Blk w Pe 3 #[.int .i64 E]
  lb : B ≤ Pb
  ls : B ≤ Ps
  lg : B ≤ g
  le : B ≤ Pe
section
variable {B : Nat} {w w' : World} {Pb Ps g Pe n c a cb : Nat} {A Ab : Option Addr} {l : List UInt8} {E : Int} {P : List Prob}
theorem TSt.below (h : TSt B w Pb Ps g Pe A n c l a E P Ab cb) (hb : Below w.heap.size w w') : TSt B w' Pb Ps g Pe A n c l a E P Ab cb :=
  ⟨h.bad.below hb h.bad.lt, own_below_all h.row hb, h.sv.below hb h.sv.lt, h.scn.below hb h.scn.blk.lt, h.src.below (hb.mono (Nat.le_trans h.lb (Nat.le_of_lt h.bad.lt))), h.endv.below hb h.endv.lt, h.lb, h.ls, h.lg, h.le⟩
theorem TSt.drewN (h : TSt B w Pb Ps g Pe A n c l a E P Ab cb) (q : Nat) : TSt B (w.drewN q) Pb Ps g Pe A n c l a E P Ab cb := h.below (below_drewNg w q)
theorem TSt.hB (h : TSt B w Pb Ps g Pe A n c l a E P Ab cb) : B ≤ w.heap.size := Nat.le_trans h.lb (Nat.le_of_lt h.bad.lt)
/-- A step that writes elsewhere. -/
theorem TSt.only {S : Nat → Prop} (h : TSt B w Pb Ps g Pe A n c l a E P Ab cb) (ho : Only S w w') (h1 : ¬ S Pb) (h2 : ¬ S Ps) (h3 : ¬ S g) (h4 : ¬ S Pe) (h5 : ∀ k, (Value.slice Ab P.length cb).ownBlock = some k → ¬ S k) (h6 : ∀ k, S k → B ≤ k) : TSt B w' Pb Ps g Pe A n c l a E P Ab cb := by
  have hs := h.src.only ho h.hB (fun k hk hS => by have := h6 k hS; omega)
  exact ⟨h.bad.only ho h1, own_only h.row ho h5, h.sv.only ho h2, ⟨h.scn.blk.only ho h3, hs.more h.lg⟩, hs, h.endv.only ho h4, h.lb, h.ls, h.lg, h.le⟩
/-- The scanner moves. -/
theorem TSt.move (h : TSt B w Pb Ps g Pe A n c l a E P Ab cb) (b : Nat) : TSt B (w.setCell ⟨g, 1, none⟩ (.int .i64 (b : Int))) Pb Ps g Pe A n c l b E P Ab cb := by
  have ho : Only (· = g) w (w.setCell ⟨g, 1, none⟩ (.int .i64 (b : Int))) := Only.set (S := (· = g)) w (p := ⟨g, 1, none⟩) rfl _
  have hs := h.src.only ho h.hB (fun k hk hS => by have := h.lg; omega)
  refine ⟨h.bad.only ho (h.bad.ne h.scn.blk (by decide)), own_only h.row ho (fun k hk => own_ne h.row h.scn.blk (by decide) k hk), h.sv.only ho (h.sv.ne h.scn.blk (by decide)), ⟨?_, hs.more h.lg⟩, hs, h.endv.only ho (h.endv.ne h.scn.blk (by decide)), h.lb, h.ls, h.lg, h.le⟩
  have h1 := h.scn.blk.set 1 (.int .i64 (b : Int))
  rwa [scn_set] at h1
theorem TSt.blen (h : TSt B w Pb Ps g Pe A n c l a E P Ab cb) : l.length = n := h.src.blen
end
theorem flatMap_len {α : Type} (f : α → List Value) (m : Nat) (h : ∀ x, (f x).length = m) (l : List α) : (l.flatMap f).length = l.length * m := by
  induction l with
  | nil => simp
  | cons a l ih => simp [ih, h]; rw [Nat.add_mul]; omega
end Go.Proofs.YtlgdmbdhffdenaaGreatDoor

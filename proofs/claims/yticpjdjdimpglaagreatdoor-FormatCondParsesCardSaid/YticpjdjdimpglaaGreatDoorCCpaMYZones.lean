/- The parser's zones by their contract. -/
import Derived.Test.YticpjdjdimpglaaGreatDoorCCpaMYUnit
namespace Go.Proofs.YticpjdjdimpglaaGreatDoor
set_option linter.unusedVariables false
set_option linter.unusedSimpArgs false
open Go.RowKit
/-- The row of zones that is being made. -/
structure ZSt (w0 wr : World) (B g : Nat) (A : Option Addr) (n c : Nat) (T : List Tok) (b : Nat) (l : List ZT) (A' : Option Addr) (c' : Nat) : Prop where
  st : PSt wr B g A n c T b
  only : Only (· = g) w0 wr
  glt : g < w0.heap.size
  row : wr.ownsRow w0.heap.size 73 3 (.slice A' l.length c') l.length (l.flatMap zoneCells)
section
variable {w0 wr W w1 : World} {B g n c b b' c' : Nat} {A A' : Option Addr} {T : List Tok} {l : List ZT}
theorem ZSt.go (h : ZSt w0 wr B g A n c T b l A' c') (hp : PSt W B g A n c T b') (ho : Only (· = g) wr W) : ZSt w0 W B g A n c T b' l A' c' :=
  ⟨hp, h.only.trans ho, h.glt, own_only h.row ho (fun k hk => by have := (h.row.lt k hk).1; have := h.glt; omega)⟩
theorem ZSt.below (h : ZSt w0 wr B g A n c T b l A' c') (hb : Below wr.heap.size wr W) : ZSt w0 W B g A n c T b l A' c' := h.go (h.st.below hb) (Only.of_below hb)
theorem ZSt.push (h : ZSt w0 W B g A n c T b l A' c') {z : ZT} {A2 : Option Addr} {m cc : Nat} (hm : m = l.length + 1) (hg : W.grownBy w1 (Value.slice A' l.length c').ownBlock)
    (hown : w1.ownsRow w0.heap.size 73 3 (.slice A2 m cc) m (l.flatMap zoneCells ++ zoneCells z)) : ZSt w0 w1 B g A n c T b (l ++ [z]) A2 cc := by
  have ho : Only (fun k => (Value.slice A' l.length c').ownBlock = some k) W w1 := Only.of_grown hg (fun k hk => hk)
  have hl := fun k hk => (h.row.lt k hk).1
  subst hm
  refine ⟨h.st.only ho (fun e => by have := hl _ e; have := h.glt; omega) (fun k hk => by have := hl k hk; have := h.glt; have := h.st.lb; omega), h.only.new ho (fun k hk => hl k hk), h.glt, ?_⟩
  have e1 : (l ++ [z]).length = l.length + 1 := by simp
  have e2 : (l ++ [z]).flatMap zoneCells = l.flatMap zoneCells ++ zoneCells z := by simp
  rw [e1, e2]
  exact hown
/-- The zone's box is written. -/
theorem ZSt.box (h : ZSt w0 wr B g A n c T b l A' c') {zb : Nat} (ho : Only (· = zb) wr W) (hz : w0.heap.size ≤ zb) (hl : ∀ k, (Value.slice A' l.length c').ownBlock = some k → k < zb) : ZSt w0 W B g A n c T b l A' c' :=
  ⟨h.st.only ho (by have := h.glt; omega) (fun k hk => by have := h.glt; have := h.st.lb; omega), h.only.new ho (fun k hk => by omega), h.glt, own_only h.row ho (fun k hk e => by have := hl k hk; omega)⟩
end
end Go.Proofs.YticpjdjdimpglaaGreatDoor

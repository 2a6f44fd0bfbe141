/- The parser's rules by their contract (printed by wip/bin/genrules.py). -/
import Derived.Test.YticpjdjdimpglaaGreatDoorCCpaMYSteps
namespace Go.Proofs.YticpjdjdimpglaaGreatDoor
set_option linter.unusedVariables false
set_option linter.unusedSimpArgs false
open Go.RowKit
/-- What rules hand back: rows of their own. -/
def RV (w : World) (r : RT) (w' : World) (v : Value) : Prop := ∃ A m c A' m' c', v = .agg #[.string (bs r.name), .int .i64 r.win, .int .i64 r.draw, .int .i64 r.loss, .slice A m c, .slice A' m' c'] ∧
  RepT (fun k => k < w.heap.size) w' r.order A m c ∧ RepZ (fun k => k < w.heap.size) w' r.zones A' m' c'
/-- The result's box that is being filled. -/
structure LSt (w0 wr : World) (B g : Nat) (A : Option Addr) (n c : Nat) (T : List Tok) (b : Nat) (cs : Array Value) : Prop where
  st : PSt wr B g A n c T b
  only : Only (· = g) w0 wr
  glt : g < w0.heap.size
  box : Blk wr w0.heap.size 28 cs
section
variable {w0 wr W : World} {B g n c b b' : Nat} {A : Option Addr} {T : List Tok} {cs : Array Value}
theorem LSt.go (h : LSt w0 wr B g A n c T b cs) (hp : PSt W B g A n c T b') (ho : Only (· = g) wr W) : LSt w0 W B g A n c T b' cs :=
  ⟨hp, h.only.trans ho, h.glt, h.box.only ho (by have := h.glt; omega)⟩
theorem LSt.below (h : LSt w0 wr B g A n c T b cs) (hb : Below wr.heap.size wr W) : LSt w0 W B g A n c T b cs := h.go (h.st.below hb) (Only.of_below hb)
theorem LSt.boxed (w0 : World) (i : Nat) (v : Value) : Only (· = w0.heap.size) wr (wr.setCell ⟨w0.heap.size, i, none⟩ v) := Only.set (S := (· = w0.heap.size)) wr (p := ⟨w0.heap.size, i, none⟩) rfl _
theorem LSt.set (h : LSt w0 wr B g A n c T b cs) (i : Nat) (v : Value) : LSt w0 (wr.setCell ⟨w0.heap.size, i, none⟩ v) B g A n c T b (cs.setIfInBounds i v) :=
  ⟨h.st.only (LSt.boxed w0 i v) (by have := h.glt; omega) (fun k hk => by have := h.glt; have := h.st.lb; omega), h.only.new (LSt.boxed w0 i v) (fun k hk => by omega), h.glt, h.box.set i v⟩
end
end Go.Proofs.YticpjdjdimpglaaGreatDoor

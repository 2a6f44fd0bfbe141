/- typing's Direct, its closure, slices.Contains at ints, by their contracts. -/
import Derived.Test.YticpjdjdimpglaaGreatDoorCTisMHld
import Derived.Test.YticpjdjdimpglaaGreatDoorCTisMTRow
import Derived.Test.YticpjdjdimpglaaGreatDoorCTisMCmp2
import Derived.Test.YticpjdjdimpglaaGreatDoorCTisMSam
import Derived.Test.YticpjdjdimpglaaGreatDoorCTisMTidA
namespace Go.Proofs.YticpjdjdimpglaaGreatDoor
set_option linter.unusedVariables false
set_option linter.unusedSimpArgs false
open Go.RowKit
/-- The state of the closure of Direct: what lies in the boxes. -/
structure DST (w0 : World) (base q u v : Nat) (t r f c : Int) (w : World) (bs : List Int) : Prop where
  hb : Below w0.heap.size w0 w
  hq : Blk w q 49 #[.int .i64 t, .int .i64 r, .int .i64 f, .int .i64 c]
  hu : Blk w u 90 #[.func (.func 74) #[] #[.pointer (some ⟨q, 0, none⟩), .pointer (some ⟨u, 0, none⟩), .pointer (some ⟨v, 0, none⟩)]]
  hv : ∃ (B : Option Addr) (c' : Nat), Blk w v 57 #[.slice B bs.length c'] ∧ w.ownsRow base 3 1 (.slice B bs.length c') bs.length (bs.map vi)
  hs : base ≤ w.heap.size
  lo : w0.heap.size ≤ q ∧ w0.heap.size ≤ u ∧ w0.heap.size ≤ v
  hi : q < base ∧ u < base ∧ v < base
  ne : q ≠ v ∧ u ≠ v
section
variable {w0 : World} {base q u v : Nat} {t r f c : Int} {w w' : World} {bs : List Int}
theorem DST.below (h : DST w0 base q u v t r f c w bs) (hb : Below w.heap.size w w') : DST w0 base q u v t r f c w' bs := by
  obtain ⟨B, c', h1, h2⟩ := h.hv
  exact ⟨h.hb.trans (hb.mono h.hb.size), h.hq.below hb h.hq.lt, h.hu.below hb h.hu.lt, ⟨B, c', h1.below hb h1.lt, own_below_all h2 hb⟩, Nat.le_trans h.hs hb.size, h.lo, h.hi, h.ne⟩
end
end Go.Proofs.YticpjdjdimpglaaGreatDoor

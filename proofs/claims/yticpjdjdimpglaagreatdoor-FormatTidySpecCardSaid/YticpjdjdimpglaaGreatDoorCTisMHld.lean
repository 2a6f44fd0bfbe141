/- typing's value, has and Env by their contracts. -/
import Derived.Test.YticpjdjdimpglaaGreatDoorCTisMTRow
import Derived.Test.YticpjdjdimpglaaGreatDoorCTisMSam
import Derived.Test.YticpjdjdimpglaaGreatDoorCTisMWText3
import Derived.Test.YticpjdjdimpglaaGreatDoorCTisMYLaws
import Derived.Test.YticpjdjdimpglaaGreatDoorCTisMFRules
import Derived.Laws.EntriesVeiled
namespace Go.Proofs.YticpjdjdimpglaaGreatDoor
set_option linter.unusedVariables false
set_option linter.unusedSimpArgs false
open Go.RowKit
def spanL : List Int := [0, 0, 2, 24, 0, 46, 0, 1, 2, 24]
def SpanIs (w : World) : Prop := ∀ i v, spanL[i]? = some v → w.cell? ⟨1, i, none⟩ = some (.int .i64 v)
theorem SpanIs.below {w w' : World} (h : SpanIs w) (hb : Below w.heap.size w w') : SpanIs w' := fun i v hi => (hb.cell (p := ⟨_, i, none⟩) (World.block_lt_of_cell? w _ (h i v hi))).trans (h i v hi)
end Go.Proofs.YticpjdjdimpglaaGreatDoor
/- typing's holds, its closures and Holds by their contracts. (Printed by wip/bin/genhld.py.) -/
namespace Go.Proofs.YticpjdjdimpglaaGreatDoor
set_option linter.unusedVariables false
set_option linter.unusedSimpArgs false
open Go.RowKit
end Go.Proofs.YticpjdjdimpglaaGreatDoor

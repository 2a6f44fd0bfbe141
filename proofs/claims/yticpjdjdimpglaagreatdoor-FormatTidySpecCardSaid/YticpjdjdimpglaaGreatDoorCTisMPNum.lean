/- The reference's number by its contract. -/
import Derived.Test.YticpjdjdimpglaaGreatDoorCTisMPSm
import Derived.Test.YticpjdjdimpglaaGreatDoorCTisMWText3
namespace Go.Proofs.YticpjdjdimpglaaGreatDoor
set_option linter.unusedVariables false
set_option linter.unusedSimpArgs false
open Go.RowKit
theorem below_ad (w : World) (o : Obj) : Below w.heap.size w (w.alloc o).drew := ((Below.refl _ _).alloc (Nat.le_refl _) o).trans ⟨rfl, rfl, rfl, Nat.le_refl _, fun _ _ => rfl⟩
end Go.Proofs.YticpjdjdimpglaaGreatDoor

/- The reference's Name, points, place, variable, criterion, number by their contracts. -/
import Derived.Test.YticpjdjdimpglaaGreatDoorCTisMWText3
import Derived.Test.YticpjdjdimpglaaGreatDoorCTisMKeyword
namespace Go.Proofs.YticpjdjdimpglaaGreatDoor
set_option linter.unusedVariables false
set_option linter.unusedSimpArgs false
open Go.RowKit
section
variable {ops : Array Oper} {rest : List Oper} {o : Oper} {a : Act} {Q : Exit → Act → World → Prop} {w : World}
end
end Go.Proofs.YticpjdjdimpglaaGreatDoor

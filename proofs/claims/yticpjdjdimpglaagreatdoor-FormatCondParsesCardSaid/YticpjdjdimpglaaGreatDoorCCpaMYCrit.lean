/- The parser's criterion by its contract. -/
import Derived.Test.YticpjdjdimpglaaGreatDoorCCpaMYJoin
import Derived.Test.YticpjdjdimpglaaGreatDoorCCpaMCmp2
namespace Go.Proofs.YticpjdjdimpglaaGreatDoor
set_option linter.unusedVariables false
set_option linter.unusedSimpArgs false
open Go.RowKit
end Go.Proofs.YticpjdjdimpglaaGreatDoor

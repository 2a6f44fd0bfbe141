/- FormatDirect: the walk of the law. -/
import Derived.Test.YticpjdjdimpglaaGreatDoorCTisMSan
import Derived.Test.YticpjdjdimpglaaGreatDoorCTisMDir
import Derived.Test.YticpjdjdimpglaaGreatDoorCTisMCnS
namespace Go.Proofs.YticpjdjdimpglaaGreatDoor
set_option linter.unusedVariables false
set_option linter.unusedSimpArgs false
open Go.RowKit
theorem rsame_same (S : Nat → Prop) (F : SF) (A : Option Addr) (m d : Nat) (B : Option Addr) (n e : Nat) (w : World) (h1 : RepT S w F A m d) (h2 : RepT S w F B n e) : Calls Tryz.prog 25 #[.slice A m d, .slice B n e] w fun e w' => e = .returned (.bool true) ∧ Below w.heap.size w w' :=
  (rsame_all (F.sz + 1) S S F F A m d B n e w (Nat.lt_succ_self _) h1 h2).mono fun e w' ⟨h1, h2⟩ => ⟨h1.trans (congrArg (fun b => Ending.returned (.bool b)) (by simp)), h2⟩
end Go.Proofs.YticpjdjdimpglaaGreatDoor

/- FormatHolds: the walk of the law. -/
import Derived.Test.YticpjdjdimpglaaGreatDoorCTisMSan
import Derived.Test.YticpjdjdimpglaaGreatDoorCTisMHld
import Derived.Test.YticpjdjdimpglaaGreatDoorCTisMCnS
namespace Go.Proofs.YticpjdjdimpglaaGreatDoor
set_option linter.unusedVariables false
set_option linter.unusedSimpArgs false
open Go.RowKit
theorem rsc_same (S : Nat → Prop) (a : CT) (A : Option Addr) (m d : Nat) (B : Option Addr) (n e : Nat) (w : World) (h1 : RepH S w a.ps A m d) (h2 : RepH S w a.ps B n e) :
    Calls Tryz.prog 24 #[.agg #[.int .i64 a.k, .int .i64 a.v, .int .i64 a.n, .slice A m d], .agg #[.int .i64 a.k, .int .i64 a.v, .int .i64 a.n, .slice B n e]] w fun e w' => e = .returned (.bool true) ∧ Below w.heap.size w w' :=
  (rsc_any S S a a A m d B n e w h1 h2).mono fun e w' ⟨h1, h2⟩ => ⟨h1.trans (congrArg (fun b => Ending.returned (.bool b)) (by rw [CT.cmp_zero.2 rfl]; rfl)), h2⟩
end Go.Proofs.YticpjdjdimpglaaGreatDoor

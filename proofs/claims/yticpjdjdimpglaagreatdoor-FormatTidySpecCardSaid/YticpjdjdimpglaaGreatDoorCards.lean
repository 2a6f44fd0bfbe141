/-
  DERIVED. GIVEN WITH THE SEED: THE CARDS: each row of YticpjdjdimpglaaGreatDoorRows.lean that lists a variable, with what it lists TIED to the program's text (the seventh form; the later family's looks); each row that meets fmt, with fmt's text TOLD by the authors' own Lean function (tested against real Go, not proved from fmt's source: count such statements apart). THE CARD IS WHAT COUNTS. Prove the row's statement (the work); the ties are given (YticpjdjdimpglaaGreatDoorTie.lean); close each card by the builder's one call (the guide's Derived/Test/ToyasCard.lean, 'card_holds'). Laid BY PROGRAM, IN A SANDBOX (cutbox-door.mjs). By AI agents, Wed Nov 11 2026. No macro, syntax, notation, axiom, sorry.
-/
import Derived.Test.YticpjdjdimpglaaGreatDoorRows
import GoSem.ClaimSeven
namespace Go.Proofs.YticpjdjdimpglaaGreatDoor
namespace Rows

/-- THE TIED CARD OF 'assizelaw15.FormatTextSpec'. -/
def formatTextSpecCard : Claim7 := { stood := { row := formatTextSpecRow, standIns := [], harness := (true, "8188f0b9cc5a32ae17a17750424c2355b0e80e319883cd72eb923e00cd9c8043"), looks := true }, kinds := [], alts := [], laidByText := true, laidKinds := [.data, .data, .data, .sentinel, .data, .data], laidTests := true, laidLooks := .later }
def FormatTextSpecCardSaid : Prop := Claim7.holds Tryz.pinned (.plain (OpenSpec.ofChange formatTextSpecSpec)) formatTextSpecCard

/-- THE TIED CARD OF 'assizelaw15.FormatTidySpec'. -/
def formatTidySpecCard : Claim7 := { stood := { row := formatTidySpecRow, standIns := [], harness := (true, "8188f0b9cc5a32ae17a17750424c2355b0e80e319883cd72eb923e00cd9c8043"), looks := true }, kinds := [], alts := [], laidByText := true, laidKinds := [.data, .data, .data, .sentinel, .data, .data], laidTests := true, laidLooks := .later }
def FormatTidySpecCardSaid : Prop := Claim7.holds Tryz.pinned (.plain (OpenSpec.ofChange formatTidySpecSpec)) formatTidySpecCard

/-- THE TIED CARD OF 'assizelaw15.FormatHolds'. -/
def formatHoldsCard : Claim7 := { stood := { row := formatHoldsRow, standIns := [], harness := (true, "8188f0b9cc5a32ae17a17750424c2355b0e80e319883cd72eb923e00cd9c8043"), looks := true }, kinds := [], alts := [], laidByText := true, laidKinds := [.data, .data, .data, .widerDeep, .sentinel, .data, .data], laidTests := true, laidLooks := .later }
def FormatHoldsCardSaid : Prop := Claim7.holds Tryz.pinned (.plain (OpenSpec.ofChange formatHoldsSpec)) formatHoldsCard

/-- THE TIED CARD OF 'assizelaw15.FormatDirect'. -/
def formatDirectCard : Claim7 := { stood := { row := formatDirectRow, standIns := [], harness := (true, "8188f0b9cc5a32ae17a17750424c2355b0e80e319883cd72eb923e00cd9c8043"), looks := true }, kinds := [], alts := [], laidByText := true, laidKinds := [.data, .data, .data, .widerDeep, .sentinel, .data, .data], laidTests := true, laidLooks := .later }
def FormatDirectCardSaid : Prop := Claim7.holds Tryz.pinned (.plain (OpenSpec.ofChange formatDirectSpec)) formatDirectCard

/-- THE TIED CARD OF 'assizelaw15.FormatCondParses'. -/
def formatCondParsesCard : Claim7 := { stood := { row := formatCondParsesRow, standIns := [], harness := (true, "8188f0b9cc5a32ae17a17750424c2355b0e80e319883cd72eb923e00cd9c8043"), looks := true }, kinds := [], alts := [], laidByText := true, laidKinds := [.data, .data, .data, .data, .sentinel, .sentinel, .sentinel, .data, .data, .pinned], laidTests := true, laidLooks := .later }
def FormatCondParsesCardSaid : Prop := Claim7.holds Tryz.pinned (.plain (OpenSpec.ofChange formatCondParsesSpec)) formatCondParsesCard

/-- THE TIED CARD OF 'assizelaw15.FormatParses'. -/
def formatParsesCard : Claim7 := { stood := { row := formatParsesRow, standIns := [], harness := (true, "8188f0b9cc5a32ae17a17750424c2355b0e80e319883cd72eb923e00cd9c8043"), looks := true }, kinds := [], alts := [], laidByText := true, laidKinds := [.data, .data, .data, .data, .sentinel, .sentinel, .sentinel, .data, .data, .pinned], laidTests := true, laidLooks := .later }
def FormatParsesCardSaid : Prop := Claim7.holds Tryz.pinned (.plain (OpenSpec.ofChange formatParsesSpec)) formatParsesCard

/-- THE TIED CARD OF 'assizelaw15.FormatReads'. -/
def formatReadsCard : Claim7 := { stood := { row := formatReadsRow, standIns := [], harness := (true, "8188f0b9cc5a32ae17a17750424c2355b0e80e319883cd72eb923e00cd9c8043"), looks := true }, kinds := [], alts := [], laidByText := true, laidKinds := [.data, .data, .data, .data, .sentinel, .sentinel, .sentinel, .data, .data, .pinned], laidTests := true, laidLooks := .later }
def FormatReadsCardSaid : Prop := Claim7.holds Tryz.pinned (.plain (OpenSpec.ofChange formatReadsSpec)) formatReadsCard

/-- THE SECOND FORM's CARD OF 'assizelaw15.FormatTextSpec'. -/
def formatTextSpecUptoCard : Claim7 := { stood := { row := formatTextSpecUptoRow, standIns := [], harness := (true, "8188f0b9cc5a32ae17a17750424c2355b0e80e319883cd72eb923e00cd9c8043"), looks := true }, kinds := [], alts := [], laidByText := true, laidKinds := [.data, .data, .data, .sentinel, .data, .data], laidTests := true, laidLooks := .later }
def FormatTextSpecUptoCardSaid : Prop := Claim7.holds Tryz.pinned (.plain (OpenSpec.upto formatTextSpecSpec)) formatTextSpecUptoCard

/-- THE SECOND FORM's CARD OF 'assizelaw15.FormatTidySpec'. -/
def formatTidySpecUptoCard : Claim7 := { stood := { row := formatTidySpecUptoRow, standIns := [], harness := (true, "8188f0b9cc5a32ae17a17750424c2355b0e80e319883cd72eb923e00cd9c8043"), looks := true }, kinds := [], alts := [], laidByText := true, laidKinds := [.data, .data, .data, .sentinel, .data, .data], laidTests := true, laidLooks := .later }
def FormatTidySpecUptoCardSaid : Prop := Claim7.holds Tryz.pinned (.plain (OpenSpec.upto formatTidySpecSpec)) formatTidySpecUptoCard

/-- THE SECOND FORM's CARD OF 'assizelaw15.FormatHolds'. -/
def formatHoldsUptoCard : Claim7 := { stood := { row := formatHoldsUptoRow, standIns := [], harness := (true, "8188f0b9cc5a32ae17a17750424c2355b0e80e319883cd72eb923e00cd9c8043"), looks := true }, kinds := [], alts := [], laidByText := true, laidKinds := [.data, .data, .data, .widerDeep, .sentinel, .data, .data], laidTests := true, laidLooks := .later }
def FormatHoldsUptoCardSaid : Prop := Claim7.holds Tryz.pinned (.plain (OpenSpec.upto formatHoldsSpec)) formatHoldsUptoCard

/-- THE SECOND FORM's CARD OF 'assizelaw15.FormatDirect'. -/
def formatDirectUptoCard : Claim7 := { stood := { row := formatDirectUptoRow, standIns := [], harness := (true, "8188f0b9cc5a32ae17a17750424c2355b0e80e319883cd72eb923e00cd9c8043"), looks := true }, kinds := [], alts := [], laidByText := true, laidKinds := [.data, .data, .data, .widerDeep, .sentinel, .data, .data], laidTests := true, laidLooks := .later }
def FormatDirectUptoCardSaid : Prop := Claim7.holds Tryz.pinned (.plain (OpenSpec.upto formatDirectSpec)) formatDirectUptoCard

/-- THE SECOND FORM's CARD OF 'assizelaw15.FormatCondParses'. -/
def formatCondParsesUptoCard : Claim7 := { stood := { row := formatCondParsesUptoRow, standIns := [], harness := (true, "8188f0b9cc5a32ae17a17750424c2355b0e80e319883cd72eb923e00cd9c8043"), looks := true }, kinds := [], alts := [], laidByText := true, laidKinds := [.data, .data, .data, .data, .sentinel, .sentinel, .sentinel, .data, .data, .pinned], laidTests := true, laidLooks := .later }
def FormatCondParsesUptoCardSaid : Prop := Claim7.holds Tryz.pinned (.plain (OpenSpec.upto formatCondParsesSpec)) formatCondParsesUptoCard

/-- THE SECOND FORM's CARD OF 'assizelaw15.FormatParses'. -/
def formatParsesUptoCard : Claim7 := { stood := { row := formatParsesUptoRow, standIns := [], harness := (true, "8188f0b9cc5a32ae17a17750424c2355b0e80e319883cd72eb923e00cd9c8043"), looks := true }, kinds := [], alts := [], laidByText := true, laidKinds := [.data, .data, .data, .data, .sentinel, .sentinel, .sentinel, .data, .data, .pinned], laidTests := true, laidLooks := .later }
def FormatParsesUptoCardSaid : Prop := Claim7.holds Tryz.pinned (.plain (OpenSpec.upto formatParsesSpec)) formatParsesUptoCard

/-- THE SECOND FORM's CARD OF 'assizelaw15.FormatReads'. -/
def formatReadsUptoCard : Claim7 := { stood := { row := formatReadsUptoRow, standIns := [], harness := (true, "8188f0b9cc5a32ae17a17750424c2355b0e80e319883cd72eb923e00cd9c8043"), looks := true }, kinds := [], alts := [], laidByText := true, laidKinds := [.data, .data, .data, .data, .sentinel, .sentinel, .sentinel, .data, .data, .pinned], laidTests := true, laidLooks := .later }
def FormatReadsUptoCardSaid : Prop := Claim7.holds Tryz.pinned (.plain (OpenSpec.upto formatReadsSpec)) formatReadsUptoCard
end Rows
end Go.Proofs.YticpjdjdimpglaaGreatDoor

/-
  DERIVED. GIVEN WITH THE SEED: THE CARDS: each row of YtbfgmbijmdbcmaaGreatDoorRows.lean that lists a variable, with what it lists TIED to the program's text (the seventh form; the later family's looks); each row that meets fmt, with fmt's text TOLD by the authors' own Lean function (tested against real Go, not proved from fmt's source: count such statements apart). THE CARD IS WHAT COUNTS. Prove the row's statement (the work); the ties are given (YtbfgmbijmdbcmaaGreatDoorTie.lean); close each card by the builder's one call (the guide's Derived/Test/ToyasCard.lean, 'card_holds'). Laid BY PROGRAM, IN A SANDBOX (cutbox-door.mjs). By AI agents, Wed Nov 11 2026. No macro, syntax, notation, axiom, sorry.
-/
import Derived.Test.YtbfgmbijmdbcmaaGreatDoorRows
import GoSem.ClaimSeven
namespace Go.Proofs.YtbfgmbijmdbcmaaGreatDoor
namespace Rows

/-- THE TIED CARD OF 'assizelaw06.LexisTokensSpec'. -/
def lexisTokensSpecCard : Claim7 := { stood := { row := lexisTokensSpecRow, standIns := [], harness := (true, "549cfc65855efcabb8ed084768a9b3709319b1b446fc2b0f6fcf60095d330942"), looks := true }, kinds := [], alts := [], laidByText := true, laidKinds := [.data, .pinned], laidTests := true, laidLooks := .later }
def LexisTokensSpecCardSaid : Prop := Claim7.holds Tryz.pinned (.plain (OpenSpec.ofChange lexisTokensSpecSpec)) lexisTokensSpecCard

/-- THE TIED CARD OF 'assizelaw06.LexisJoinSpec'. -/
def lexisJoinSpecCard : Claim7 := { stood := { row := lexisJoinSpecRow, standIns := [], harness := (true, "549cfc65855efcabb8ed084768a9b3709319b1b446fc2b0f6fcf60095d330942"), looks := true }, kinds := [], alts := [], laidByText := true, laidKinds := [.data, .pinned], laidTests := true, laidLooks := .later }
def LexisJoinSpecCardSaid : Prop := Claim7.holds Tryz.pinned (.plain (OpenSpec.ofChange lexisJoinSpecSpec)) lexisJoinSpecCard

/-- THE TIED CARD OF 'assizelaw06.LexisPlaceSpec'. -/
def lexisPlaceSpecCard : Claim7 := { stood := { row := lexisPlaceSpecRow, standIns := [], harness := (true, "549cfc65855efcabb8ed084768a9b3709319b1b446fc2b0f6fcf60095d330942"), looks := true }, kinds := [], alts := [], laidByText := true, laidKinds := [.data, .pinned], laidTests := true, laidLooks := .later }
def LexisPlaceSpecCardSaid : Prop := Claim7.holds Tryz.pinned (.plain (OpenSpec.ofChange lexisPlaceSpecSpec)) lexisPlaceSpecCard

/-- THE TIED CARD OF 'assizelaw06.LexisBack'. -/
def lexisBackCard : Claim7 := { stood := { row := lexisBackRow, standIns := [], harness := (true, "549cfc65855efcabb8ed084768a9b3709319b1b446fc2b0f6fcf60095d330942"), looks := true }, kinds := [], alts := [], laidByText := true, laidKinds := [.data, .pinned], laidTests := true, laidLooks := .later }
def LexisBackCardSaid : Prop := Claim7.holds Tryz.pinned (.plain (OpenSpec.ofChange lexisBackSpec)) lexisBackCard

/-- THE TIED CARD OF 'assizelaw06.LexisAgain'. -/
def lexisAgainCard : Claim7 := { stood := { row := lexisAgainRow, standIns := [], harness := (true, "549cfc65855efcabb8ed084768a9b3709319b1b446fc2b0f6fcf60095d330942"), looks := true }, kinds := [], alts := [], laidByText := true, laidKinds := [.data, .pinned], laidTests := true, laidLooks := .later }
def LexisAgainCardSaid : Prop := Claim7.holds Tryz.pinned (.plain (OpenSpec.ofChange lexisAgainSpec)) lexisAgainCard

/-- THE TIED CARD OF 'assizelaw06.LexisOffsets'. -/
def lexisOffsetsCard : Claim7 := { stood := { row := lexisOffsetsRow, standIns := [], harness := (true, "549cfc65855efcabb8ed084768a9b3709319b1b446fc2b0f6fcf60095d330942"), looks := true }, kinds := [], alts := [], laidByText := true, laidKinds := [.data, .pinned], laidTests := true, laidLooks := .later }
def LexisOffsetsCardSaid : Prop := Claim7.holds Tryz.pinned (.plain (OpenSpec.ofChange lexisOffsetsSpec)) lexisOffsetsCard

/-- THE TIED CARD OF 'assizelaw06.LexisComments'. -/
def lexisCommentsCard : Claim7 := { stood := { row := lexisCommentsRow, standIns := [], harness := (true, "549cfc65855efcabb8ed084768a9b3709319b1b446fc2b0f6fcf60095d330942"), looks := true }, kinds := [], alts := [], laidByText := true, laidKinds := [.data, .pinned], laidTests := true, laidLooks := .later }
def LexisCommentsCardSaid : Prop := Claim7.holds Tryz.pinned (.plain (OpenSpec.ofChange lexisCommentsSpec)) lexisCommentsCard

/-- THE TIED CARD OF 'assizelaw06.LexisPlaces'. -/
def lexisPlacesCard : Claim7 := { stood := { row := lexisPlacesRow, standIns := [], harness := (true, "549cfc65855efcabb8ed084768a9b3709319b1b446fc2b0f6fcf60095d330942"), looks := true }, kinds := [], alts := [], laidByText := true, laidKinds := [.data, .pinned], laidTests := true, laidLooks := .later }
def LexisPlacesCardSaid : Prop := Claim7.holds Tryz.pinned (.plain (OpenSpec.ofChange lexisPlacesSpec)) lexisPlacesCard

/-- THE SECOND FORM's CARD OF 'assizelaw06.LexisTokensSpec'. -/
def lexisTokensSpecUptoCard : Claim7 := { stood := { row := lexisTokensSpecUptoRow, standIns := [], harness := (true, "549cfc65855efcabb8ed084768a9b3709319b1b446fc2b0f6fcf60095d330942"), looks := true }, kinds := [], alts := [], laidByText := true, laidKinds := [.data, .pinned], laidTests := true, laidLooks := .later }
def LexisTokensSpecUptoCardSaid : Prop := Claim7.holds Tryz.pinned (.plain (OpenSpec.upto lexisTokensSpecSpec)) lexisTokensSpecUptoCard

/-- THE SECOND FORM's CARD OF 'assizelaw06.LexisJoinSpec'. -/
def lexisJoinSpecUptoCard : Claim7 := { stood := { row := lexisJoinSpecUptoRow, standIns := [], harness := (true, "549cfc65855efcabb8ed084768a9b3709319b1b446fc2b0f6fcf60095d330942"), looks := true }, kinds := [], alts := [], laidByText := true, laidKinds := [.data, .pinned], laidTests := true, laidLooks := .later }
def LexisJoinSpecUptoCardSaid : Prop := Claim7.holds Tryz.pinned (.plain (OpenSpec.upto lexisJoinSpecSpec)) lexisJoinSpecUptoCard

/-- THE SECOND FORM's CARD OF 'assizelaw06.LexisPlaceSpec'. -/
def lexisPlaceSpecUptoCard : Claim7 := { stood := { row := lexisPlaceSpecUptoRow, standIns := [], harness := (true, "549cfc65855efcabb8ed084768a9b3709319b1b446fc2b0f6fcf60095d330942"), looks := true }, kinds := [], alts := [], laidByText := true, laidKinds := [.data, .pinned], laidTests := true, laidLooks := .later }
def LexisPlaceSpecUptoCardSaid : Prop := Claim7.holds Tryz.pinned (.plain (OpenSpec.upto lexisPlaceSpecSpec)) lexisPlaceSpecUptoCard

/-- THE SECOND FORM's CARD OF 'assizelaw06.LexisBack'. -/
def lexisBackUptoCard : Claim7 := { stood := { row := lexisBackUptoRow, standIns := [], harness := (true, "549cfc65855efcabb8ed084768a9b3709319b1b446fc2b0f6fcf60095d330942"), looks := true }, kinds := [], alts := [], laidByText := true, laidKinds := [.data, .pinned], laidTests := true, laidLooks := .later }
def LexisBackUptoCardSaid : Prop := Claim7.holds Tryz.pinned (.plain (OpenSpec.upto lexisBackSpec)) lexisBackUptoCard

/-- THE SECOND FORM's CARD OF 'assizelaw06.LexisAgain'. -/
def lexisAgainUptoCard : Claim7 := { stood := { row := lexisAgainUptoRow, standIns := [], harness := (true, "549cfc65855efcabb8ed084768a9b3709319b1b446fc2b0f6fcf60095d330942"), looks := true }, kinds := [], alts := [], laidByText := true, laidKinds := [.data, .pinned], laidTests := true, laidLooks := .later }
def LexisAgainUptoCardSaid : Prop := Claim7.holds Tryz.pinned (.plain (OpenSpec.upto lexisAgainSpec)) lexisAgainUptoCard

/-- THE SECOND FORM's CARD OF 'assizelaw06.LexisOffsets'. -/
def lexisOffsetsUptoCard : Claim7 := { stood := { row := lexisOffsetsUptoRow, standIns := [], harness := (true, "549cfc65855efcabb8ed084768a9b3709319b1b446fc2b0f6fcf60095d330942"), looks := true }, kinds := [], alts := [], laidByText := true, laidKinds := [.data, .pinned], laidTests := true, laidLooks := .later }
def LexisOffsetsUptoCardSaid : Prop := Claim7.holds Tryz.pinned (.plain (OpenSpec.upto lexisOffsetsSpec)) lexisOffsetsUptoCard

/-- THE SECOND FORM's CARD OF 'assizelaw06.LexisComments'. -/
def lexisCommentsUptoCard : Claim7 := { stood := { row := lexisCommentsUptoRow, standIns := [], harness := (true, "549cfc65855efcabb8ed084768a9b3709319b1b446fc2b0f6fcf60095d330942"), looks := true }, kinds := [], alts := [], laidByText := true, laidKinds := [.data, .pinned], laidTests := true, laidLooks := .later }
def LexisCommentsUptoCardSaid : Prop := Claim7.holds Tryz.pinned (.plain (OpenSpec.upto lexisCommentsSpec)) lexisCommentsUptoCard

/-- THE SECOND FORM's CARD OF 'assizelaw06.LexisPlaces'. -/
def lexisPlacesUptoCard : Claim7 := { stood := { row := lexisPlacesUptoRow, standIns := [], harness := (true, "549cfc65855efcabb8ed084768a9b3709319b1b446fc2b0f6fcf60095d330942"), looks := true }, kinds := [], alts := [], laidByText := true, laidKinds := [.data, .pinned], laidTests := true, laidLooks := .later }
def LexisPlacesUptoCardSaid : Prop := Claim7.holds Tryz.pinned (.plain (OpenSpec.upto lexisPlacesSpec)) lexisPlacesUptoCard
end Rows
end Go.Proofs.YtbfgmbijmdbcmaaGreatDoor

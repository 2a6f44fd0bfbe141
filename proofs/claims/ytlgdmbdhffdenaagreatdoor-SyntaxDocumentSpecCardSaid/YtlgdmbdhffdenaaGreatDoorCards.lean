/-
  DERIVED. GIVEN WITH THE SEED: THE CARDS: each row of YtlgdmbdhffdenaaGreatDoorRows.lean that lists a variable, with what it lists TIED to the program's text (the seventh form; the later family's looks); each row that meets fmt, with fmt's text TOLD by the authors' own Lean function (tested against real Go, not proved from fmt's source: count such statements apart). THE CARD IS WHAT COUNTS. Prove the row's statement (the work); the ties are given (YtlgdmbdhffdenaaGreatDoorTie.lean); close each card by the builder's one call (the guide's Derived/Test/ToyasCard.lean, 'card_holds'). Laid BY PROGRAM, IN A SANDBOX (cutbox-door.mjs). By AI agents, Wed Nov 11 2026. No macro, syntax, notation, axiom, sorry.
-/
import Derived.Test.YtlgdmbdhffdenaaGreatDoorRows
import GoSem.ClaimSeven
namespace Go.Proofs.YtlgdmbdhffdenaaGreatDoor
namespace Rows

/-- THE TIED CARD OF 'assizelaw13.SyntaxRulesSpec'. -/
def syntaxRulesSpecCard : Claim7 := { stood := { row := syntaxRulesSpecRow, standIns := [], harness := (true, "67cb3f1d67150d58c7e3181dd790c9588a23b7835514d37abed63bf4ebd444ea"), looks := true }, kinds := [], alts := [], laidByText := true, laidKinds := [.data, .data, .data, .data, .sentinel, .sentinel, .pinned], laidTests := true, laidLooks := .later }
def SyntaxRulesSpecCardSaid : Prop := Claim7.holds Tryz.pinned (.plain (OpenSpec.ofChange syntaxRulesSpecSpec)) syntaxRulesSpecCard

/-- THE TIED CARD OF 'assizelaw13.SyntaxConditionSpec'. -/
def syntaxConditionSpecCard : Claim7 := { stood := { row := syntaxConditionSpecRow, standIns := [], harness := (true, "67cb3f1d67150d58c7e3181dd790c9588a23b7835514d37abed63bf4ebd444ea"), looks := true }, kinds := [], alts := [], laidByText := true, laidKinds := [.data, .data, .data, .data, .sentinel, .sentinel, .pinned], laidTests := true, laidLooks := .later }
def SyntaxConditionSpecCardSaid : Prop := Claim7.holds Tryz.pinned (.plain (OpenSpec.ofChange syntaxConditionSpecSpec)) syntaxConditionSpecCard

/-- THE TIED CARD OF 'assizelaw13.SyntaxDocumentSpec'. -/
def syntaxDocumentSpecCard : Claim7 := { stood := { row := syntaxDocumentSpecRow, standIns := [], harness := (true, "67cb3f1d67150d58c7e3181dd790c9588a23b7835514d37abed63bf4ebd444ea"), looks := true }, kinds := [], alts := [], laidByText := true, laidKinds := [.data, .data, .data, .data, .sentinel, .sentinel, .pinned], laidTests := true, laidLooks := .later }
def SyntaxDocumentSpecCardSaid : Prop := Claim7.holds Tryz.pinned (.plain (OpenSpec.ofChange syntaxDocumentSpecSpec)) syntaxDocumentSpecCard

/-- THE TIED CARD OF 'assizelaw13.SyntaxOne'. -/
def syntaxOneCard : Claim7 := { stood := { row := syntaxOneRow, standIns := [], harness := (true, "67cb3f1d67150d58c7e3181dd790c9588a23b7835514d37abed63bf4ebd444ea"), looks := true }, kinds := [], alts := [], laidByText := true, laidKinds := [.data, .data, .data, .data, .sentinel, .sentinel, .pinned], laidTests := true, laidLooks := .later }
def SyntaxOneCardSaid : Prop := Claim7.holds Tryz.pinned (.plain (OpenSpec.ofChange syntaxOneSpec)) syntaxOneCard

/-- THE TIED CARD OF 'assizelaw13.SyntaxBehind'. -/
def syntaxBehindCard : Claim7 := { stood := { row := syntaxBehindRow, standIns := [], harness := (true, "67cb3f1d67150d58c7e3181dd790c9588a23b7835514d37abed63bf4ebd444ea"), looks := true }, kinds := [], alts := [], laidByText := true, laidKinds := [.data, .data, .data, .data, .sentinel, .sentinel, .pinned], laidTests := true, laidLooks := .later }
def SyntaxBehindCardSaid : Prop := Claim7.holds Tryz.pinned (.plain (OpenSpec.ofChange syntaxBehindSpec)) syntaxBehindCard

/-- THE TIED CARD OF 'assizelaw13.SyntaxParentheses'. -/
def syntaxParenthesesCard : Claim7 := { stood := { row := syntaxParenthesesRow, standIns := [], harness := (true, "67cb3f1d67150d58c7e3181dd790c9588a23b7835514d37abed63bf4ebd444ea"), looks := true }, kinds := [], alts := [], laidByText := true, laidKinds := [.data, .data, .data, .data, .sentinel, .sentinel, .pinned], laidTests := true, laidLooks := .later }
def SyntaxParenthesesCardSaid : Prop := Claim7.holds Tryz.pinned (.plain (OpenSpec.ofChange syntaxParenthesesSpec)) syntaxParenthesesCard

/-- THE TIED CARD OF 'assizelaw13.SyntaxProblems'. -/
def syntaxProblemsCard : Claim7 := { stood := { row := syntaxProblemsRow, standIns := [], harness := (true, "67cb3f1d67150d58c7e3181dd790c9588a23b7835514d37abed63bf4ebd444ea"), looks := true }, kinds := [], alts := [], laidByText := true, laidKinds := [.data, .data, .data, .data, .sentinel, .sentinel, .pinned], laidTests := true, laidLooks := .later }
def SyntaxProblemsCardSaid : Prop := Claim7.holds Tryz.pinned (.plain (OpenSpec.ofChange syntaxProblemsSpec)) syntaxProblemsCard

/-- THE TIED CARD OF 'assizelaw13.SyntaxSpacing'. -/
def syntaxSpacingCard : Claim7 := { stood := { row := syntaxSpacingRow, standIns := [], harness := (true, "67cb3f1d67150d58c7e3181dd790c9588a23b7835514d37abed63bf4ebd444ea"), looks := true }, kinds := [], alts := [], laidByText := true, laidKinds := [.data, .data, .data, .data, .sentinel, .sentinel, .pinned], laidTests := true, laidLooks := .later }
def SyntaxSpacingCardSaid : Prop := Claim7.holds Tryz.pinned (.plain (OpenSpec.ofChange syntaxSpacingSpec)) syntaxSpacingCard

/-- THE SECOND FORM's CARD OF 'assizelaw13.SyntaxRulesSpec'. -/
def syntaxRulesSpecUptoCard : Claim7 := { stood := { row := syntaxRulesSpecUptoRow, standIns := [], harness := (true, "67cb3f1d67150d58c7e3181dd790c9588a23b7835514d37abed63bf4ebd444ea"), looks := true }, kinds := [], alts := [], laidByText := true, laidKinds := [.data, .data, .data, .data, .sentinel, .sentinel, .pinned], laidTests := true, laidLooks := .later }
def SyntaxRulesSpecUptoCardSaid : Prop := Claim7.holds Tryz.pinned (.plain (OpenSpec.upto syntaxRulesSpecSpec)) syntaxRulesSpecUptoCard

/-- THE SECOND FORM's CARD OF 'assizelaw13.SyntaxConditionSpec'. -/
def syntaxConditionSpecUptoCard : Claim7 := { stood := { row := syntaxConditionSpecUptoRow, standIns := [], harness := (true, "67cb3f1d67150d58c7e3181dd790c9588a23b7835514d37abed63bf4ebd444ea"), looks := true }, kinds := [], alts := [], laidByText := true, laidKinds := [.data, .data, .data, .data, .sentinel, .sentinel, .pinned], laidTests := true, laidLooks := .later }
def SyntaxConditionSpecUptoCardSaid : Prop := Claim7.holds Tryz.pinned (.plain (OpenSpec.upto syntaxConditionSpecSpec)) syntaxConditionSpecUptoCard

/-- THE SECOND FORM's CARD OF 'assizelaw13.SyntaxDocumentSpec'. -/
def syntaxDocumentSpecUptoCard : Claim7 := { stood := { row := syntaxDocumentSpecUptoRow, standIns := [], harness := (true, "67cb3f1d67150d58c7e3181dd790c9588a23b7835514d37abed63bf4ebd444ea"), looks := true }, kinds := [], alts := [], laidByText := true, laidKinds := [.data, .data, .data, .data, .sentinel, .sentinel, .pinned], laidTests := true, laidLooks := .later }
def SyntaxDocumentSpecUptoCardSaid : Prop := Claim7.holds Tryz.pinned (.plain (OpenSpec.upto syntaxDocumentSpecSpec)) syntaxDocumentSpecUptoCard

/-- THE SECOND FORM's CARD OF 'assizelaw13.SyntaxOne'. -/
def syntaxOneUptoCard : Claim7 := { stood := { row := syntaxOneUptoRow, standIns := [], harness := (true, "67cb3f1d67150d58c7e3181dd790c9588a23b7835514d37abed63bf4ebd444ea"), looks := true }, kinds := [], alts := [], laidByText := true, laidKinds := [.data, .data, .data, .data, .sentinel, .sentinel, .pinned], laidTests := true, laidLooks := .later }
def SyntaxOneUptoCardSaid : Prop := Claim7.holds Tryz.pinned (.plain (OpenSpec.upto syntaxOneSpec)) syntaxOneUptoCard

/-- THE SECOND FORM's CARD OF 'assizelaw13.SyntaxBehind'. -/
def syntaxBehindUptoCard : Claim7 := { stood := { row := syntaxBehindUptoRow, standIns := [], harness := (true, "67cb3f1d67150d58c7e3181dd790c9588a23b7835514d37abed63bf4ebd444ea"), looks := true }, kinds := [], alts := [], laidByText := true, laidKinds := [.data, .data, .data, .data, .sentinel, .sentinel, .pinned], laidTests := true, laidLooks := .later }
def SyntaxBehindUptoCardSaid : Prop := Claim7.holds Tryz.pinned (.plain (OpenSpec.upto syntaxBehindSpec)) syntaxBehindUptoCard

/-- THE SECOND FORM's CARD OF 'assizelaw13.SyntaxParentheses'. -/
def syntaxParenthesesUptoCard : Claim7 := { stood := { row := syntaxParenthesesUptoRow, standIns := [], harness := (true, "67cb3f1d67150d58c7e3181dd790c9588a23b7835514d37abed63bf4ebd444ea"), looks := true }, kinds := [], alts := [], laidByText := true, laidKinds := [.data, .data, .data, .data, .sentinel, .sentinel, .pinned], laidTests := true, laidLooks := .later }
def SyntaxParenthesesUptoCardSaid : Prop := Claim7.holds Tryz.pinned (.plain (OpenSpec.upto syntaxParenthesesSpec)) syntaxParenthesesUptoCard

/-- THE SECOND FORM's CARD OF 'assizelaw13.SyntaxProblems'. -/
def syntaxProblemsUptoCard : Claim7 := { stood := { row := syntaxProblemsUptoRow, standIns := [], harness := (true, "67cb3f1d67150d58c7e3181dd790c9588a23b7835514d37abed63bf4ebd444ea"), looks := true }, kinds := [], alts := [], laidByText := true, laidKinds := [.data, .data, .data, .data, .sentinel, .sentinel, .pinned], laidTests := true, laidLooks := .later }
def SyntaxProblemsUptoCardSaid : Prop := Claim7.holds Tryz.pinned (.plain (OpenSpec.upto syntaxProblemsSpec)) syntaxProblemsUptoCard

/-- THE SECOND FORM's CARD OF 'assizelaw13.SyntaxSpacing'. -/
def syntaxSpacingUptoCard : Claim7 := { stood := { row := syntaxSpacingUptoRow, standIns := [], harness := (true, "67cb3f1d67150d58c7e3181dd790c9588a23b7835514d37abed63bf4ebd444ea"), looks := true }, kinds := [], alts := [], laidByText := true, laidKinds := [.data, .data, .data, .data, .sentinel, .sentinel, .pinned], laidTests := true, laidLooks := .later }
def SyntaxSpacingUptoCardSaid : Prop := Claim7.holds Tryz.pinned (.plain (OpenSpec.upto syntaxSpacingSpec)) syntaxSpacingUptoCard
end Rows
end Go.Proofs.YtlgdmbdhffdenaaGreatDoor

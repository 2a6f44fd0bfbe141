/-
  DERIVED. GIVEN WITH THE SEED: THE CARDS: each row of YtnigdcppdkcllaaDoorRows.lean that lists a variable, with what it lists TIED to the program's text (the seventh form; the later family's looks); each row that meets fmt, with fmt's text TOLD by the authors' own Lean function (tested against real Go, not proved from fmt's source: count such statements apart). THE CARD IS WHAT COUNTS. Prove the row's statement (the work); the ties are given (YtnigdcppdkcllaaDoorTie.lean); close each card by the builder's one call (the guide's Derived/Test/ToyasCard.lean, 'card_holds'). Laid BY PROGRAM, IN A SANDBOX (cutbox-door.mjs). By AI agents, Wed Nov 11 2026. No macro, syntax, notation, axiom, sorry.
-/
import Derived.Test.YtnigdcppdkcllaaDoorRows
import GoSem.ClaimSeven
namespace Go.Proofs.YtnigdcppdkcllaaDoor
namespace Rows

/-- THE TIED CARD OF 'assizelaw05.MoneySplitSpec'. -/
def moneySplitSpecCard : Claim7 := { stood := { row := moneySplitSpecRow, standIns := [], harness := (true, "d728a7523338d27d5edf2150cd4a55807810bff03560e73e4c3f2362087af68a"), looks := true }, kinds := [], alts := [], laidByText := true, laidKinds := [.data, .data, .data, .data, .sentinel, .sentinel, .pinned], laidTests := true, laidLooks := .later }
def MoneySplitSpecCardSaid : Prop := Claim7.holds Tryd.pinned (.plain (OpenSpec.ofChange moneySplitSpecSpec)) moneySplitSpecCard

/-- THE TIED CARD OF 'assizelaw05.MoneyTextSpec'. -/
def moneyTextSpecCard : Claim7 := { stood := { row := moneyTextSpecRow, standIns := [], harness := (true, "d728a7523338d27d5edf2150cd4a55807810bff03560e73e4c3f2362087af68a"), looks := true }, kinds := [], alts := [], laidByText := true, laidKinds := [.data, .data, .data, .data, .sentinel, .sentinel, .pinned], laidTests := true, laidLooks := .later }
def MoneyTextSpecCardSaid : Prop := Claim7.holds Tryd.pinned (.plain (OpenSpec.ofChange moneyTextSpecSpec)) moneyTextSpecCard

/-- THE TIED CARD OF 'assizelaw05.MoneyScales'. -/
def moneyScalesCard : Claim7 := { stood := { row := moneyScalesRow, standIns := [], harness := (true, "d728a7523338d27d5edf2150cd4a55807810bff03560e73e4c3f2362087af68a"), looks := true }, kinds := [], alts := [], laidByText := true, laidKinds := [.data, .data, .data, .data, .sentinel, .sentinel, .pinned], laidTests := true, laidLooks := .later }
def MoneyScalesCardSaid : Prop := Claim7.holds Tryd.pinned (.plain (OpenSpec.ofChange moneyScalesSpec)) moneyScalesCard

/-- THE TIED CARD OF 'assizelaw05.MoneyWritten'. -/
def moneyWrittenCard : Claim7 := { stood := { row := moneyWrittenRow, standIns := [], harness := (true, "d728a7523338d27d5edf2150cd4a55807810bff03560e73e4c3f2362087af68a"), looks := true }, kinds := [], alts := [], laidByText := true, laidKinds := [.data, .data, .data, .data, .sentinel, .sentinel, .pinned], laidTests := true, laidLooks := .later }
def MoneyWrittenCardSaid : Prop := Claim7.holds Tryd.pinned (.plain (OpenSpec.ofChange moneyWrittenSpec)) moneyWrittenCard

/-- THE TIED CARD OF 'assizelaw05.MoneySumSpec'. -/
def moneySumSpecCard : Claim7 := { stood := { row := moneySumSpecRow, standIns := [], harness := (true, "d728a7523338d27d5edf2150cd4a55807810bff03560e73e4c3f2362087af68a"), looks := true }, kinds := [], alts := [], laidByText := true, laidKinds := [.data, .data, .data, .data, .sentinel, .sentinel, .pinned], laidTests := true, laidLooks := .later }
def MoneySumSpecCardSaid : Prop := Claim7.holds Tryd.pinned (.plain (OpenSpec.ofChange moneySumSpecSpec)) moneySumSpecCard

/-- THE TIED CARD OF 'assizelaw05.MoneyExact'. -/
def moneyExactCard : Claim7 := { stood := { row := moneyExactRow, standIns := [], harness := (true, "d728a7523338d27d5edf2150cd4a55807810bff03560e73e4c3f2362087af68a"), looks := true }, kinds := [], alts := [], laidByText := true, laidKinds := [.data, .data, .data, .data, .sentinel, .sentinel, .pinned], laidTests := true, laidLooks := .later }
def MoneyExactCardSaid : Prop := Claim7.holds Tryd.pinned (.plain (OpenSpec.ofChange moneyExactSpec)) moneyExactCard

/-- THE TIED CARD OF 'assizelaw05.MoneyAdds'. -/
def moneyAddsCard : Claim7 := { stood := { row := moneyAddsRow, standIns := [], harness := (true, "d728a7523338d27d5edf2150cd4a55807810bff03560e73e4c3f2362087af68a"), looks := true }, kinds := [], alts := [], laidByText := true, laidKinds := [.data, .data, .data, .data, .sentinel, .sentinel, .pinned], laidTests := true, laidLooks := .later }
def MoneyAddsCardSaid : Prop := Claim7.holds Tryd.pinned (.plain (OpenSpec.ofChange moneyAddsSpec)) moneyAddsCard

/-- THE SECOND FORM's CARD OF 'assizelaw05.MoneySplitSpec'. -/
def moneySplitSpecUptoCard : Claim7 := { stood := { row := moneySplitSpecUptoRow, standIns := [], harness := (true, "d728a7523338d27d5edf2150cd4a55807810bff03560e73e4c3f2362087af68a"), looks := true }, kinds := [], alts := [], laidByText := true, laidKinds := [.data, .data, .data, .data, .sentinel, .sentinel, .pinned], laidTests := true, laidLooks := .later }
def MoneySplitSpecUptoCardSaid : Prop := Claim7.holds Tryd.pinned (.plain (OpenSpec.upto moneySplitSpecSpec)) moneySplitSpecUptoCard

/-- THE SECOND FORM's CARD OF 'assizelaw05.MoneyTextSpec'. -/
def moneyTextSpecUptoCard : Claim7 := { stood := { row := moneyTextSpecUptoRow, standIns := [], harness := (true, "d728a7523338d27d5edf2150cd4a55807810bff03560e73e4c3f2362087af68a"), looks := true }, kinds := [], alts := [], laidByText := true, laidKinds := [.data, .data, .data, .data, .sentinel, .sentinel, .pinned], laidTests := true, laidLooks := .later }
def MoneyTextSpecUptoCardSaid : Prop := Claim7.holds Tryd.pinned (.plain (OpenSpec.upto moneyTextSpecSpec)) moneyTextSpecUptoCard

/-- THE SECOND FORM's CARD OF 'assizelaw05.MoneyScales'. -/
def moneyScalesUptoCard : Claim7 := { stood := { row := moneyScalesUptoRow, standIns := [], harness := (true, "d728a7523338d27d5edf2150cd4a55807810bff03560e73e4c3f2362087af68a"), looks := true }, kinds := [], alts := [], laidByText := true, laidKinds := [.data, .data, .data, .data, .sentinel, .sentinel, .pinned], laidTests := true, laidLooks := .later }
def MoneyScalesUptoCardSaid : Prop := Claim7.holds Tryd.pinned (.plain (OpenSpec.upto moneyScalesSpec)) moneyScalesUptoCard

/-- THE SECOND FORM's CARD OF 'assizelaw05.MoneyWritten'. -/
def moneyWrittenUptoCard : Claim7 := { stood := { row := moneyWrittenUptoRow, standIns := [], harness := (true, "d728a7523338d27d5edf2150cd4a55807810bff03560e73e4c3f2362087af68a"), looks := true }, kinds := [], alts := [], laidByText := true, laidKinds := [.data, .data, .data, .data, .sentinel, .sentinel, .pinned], laidTests := true, laidLooks := .later }
def MoneyWrittenUptoCardSaid : Prop := Claim7.holds Tryd.pinned (.plain (OpenSpec.upto moneyWrittenSpec)) moneyWrittenUptoCard

/-- THE SECOND FORM's CARD OF 'assizelaw05.MoneySumSpec'. -/
def moneySumSpecUptoCard : Claim7 := { stood := { row := moneySumSpecUptoRow, standIns := [], harness := (true, "d728a7523338d27d5edf2150cd4a55807810bff03560e73e4c3f2362087af68a"), looks := true }, kinds := [], alts := [], laidByText := true, laidKinds := [.data, .data, .data, .data, .sentinel, .sentinel, .pinned], laidTests := true, laidLooks := .later }
def MoneySumSpecUptoCardSaid : Prop := Claim7.holds Tryd.pinned (.plain (OpenSpec.upto moneySumSpecSpec)) moneySumSpecUptoCard

/-- THE SECOND FORM's CARD OF 'assizelaw05.MoneyExact'. -/
def moneyExactUptoCard : Claim7 := { stood := { row := moneyExactUptoRow, standIns := [], harness := (true, "d728a7523338d27d5edf2150cd4a55807810bff03560e73e4c3f2362087af68a"), looks := true }, kinds := [], alts := [], laidByText := true, laidKinds := [.data, .data, .data, .data, .sentinel, .sentinel, .pinned], laidTests := true, laidLooks := .later }
def MoneyExactUptoCardSaid : Prop := Claim7.holds Tryd.pinned (.plain (OpenSpec.upto moneyExactSpec)) moneyExactUptoCard

/-- THE SECOND FORM's CARD OF 'assizelaw05.MoneyAdds'. -/
def moneyAddsUptoCard : Claim7 := { stood := { row := moneyAddsUptoRow, standIns := [], harness := (true, "d728a7523338d27d5edf2150cd4a55807810bff03560e73e4c3f2362087af68a"), looks := true }, kinds := [], alts := [], laidByText := true, laidKinds := [.data, .data, .data, .data, .sentinel, .sentinel, .pinned], laidTests := true, laidLooks := .later }
def MoneyAddsUptoCardSaid : Prop := Claim7.holds Tryd.pinned (.plain (OpenSpec.upto moneyAddsSpec)) moneyAddsUptoCard
end Rows
end Go.Proofs.YtnigdcppdkcllaaDoor

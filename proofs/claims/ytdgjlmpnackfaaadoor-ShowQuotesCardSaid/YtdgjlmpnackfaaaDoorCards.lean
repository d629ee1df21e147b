/-
  DERIVED. GIVEN WITH THE SEED: THE CARDS: each row of YtdgjlmpnackfaaaDoorRows.lean that lists a variable, with what it lists TIED to the program's text (the seventh form; the later family's looks); each row that meets fmt, with fmt's text TOLD by the authors' own Lean function (tested against real Go, not proved from fmt's source: count such statements apart). THE CARD IS WHAT COUNTS. Prove the row's statement (the work); the ties are given (YtdgjlmpnackfaaaDoorTie.lean); close each card by the builder's one call (the guide's Derived/Test/ToyasCard.lean, 'card_holds'). Laid BY PROGRAM, IN A SANDBOX (cutbox-door.mjs). By AI agents, Wed Nov 11 2026. No macro, syntax, notation, axiom, sorry.
-/
import Derived.Test.YtdgjlmpnackfaaaDoorRows
import GoSem.ClaimSeven
namespace Go.Proofs.YtdgjlmpnackfaaaDoor
namespace Rows

/-- THE TIED CARD OF 'dragomanlaw12.ShowTexts'. -/
def showTextsCard : Claim7 := { stood := { row := showTextsRow, standIns := [], harness := (true, "be1f48165c8918ebc0a2b69541356ecc2e9a419c4e9ba62e05544d829e5b2199"), looks := false }, kinds := [], alts := [], laidByText := true, laidKinds := [.data, .pinned], laidTests := true, laidLooks := .later }
def ShowTextsCardSaid : Prop := Claim7.holds Tryd.pinned (.plain (OpenSpec.ofChange showTextsSpec)) showTextsCard

/-- THE TIED CARD OF 'dragomanlaw12.ShowQuotes'. -/
def showQuotesCard : Claim7 := { stood := { row := showQuotesRow, standIns := [], harness := (true, "be1f48165c8918ebc0a2b69541356ecc2e9a419c4e9ba62e05544d829e5b2199"), looks := false }, kinds := [], alts := [], laidByText := true, laidKinds := [.data, .pinned], laidTests := true, laidLooks := .later }
def ShowQuotesCardSaid : Prop := Claim7.holds Tryd.pinned (.plain (OpenSpec.ofChange showQuotesSpec)) showQuotesCard

/-- THE TIED CARD OF 'dragomanlaw12.ShowWords'. -/
def showWordsCard : Claim7 := { stood := { row := showWordsRow, standIns := [], harness := (true, "be1f48165c8918ebc0a2b69541356ecc2e9a419c4e9ba62e05544d829e5b2199"), looks := false }, kinds := [], alts := [], laidByText := true, laidKinds := [.data, .pinned], laidTests := true, laidLooks := .later }
def ShowWordsCardSaid : Prop := Claim7.holds Tryd.pinned (.plain (OpenSpec.ofChange showWordsSpec)) showWordsCard

/-- THE TIED CARD OF 'dragomanlaw12.ShowLengths'. -/
def showLengthsCard : Claim7 := { stood := { row := showLengthsRow, standIns := [], harness := (true, "be1f48165c8918ebc0a2b69541356ecc2e9a419c4e9ba62e05544d829e5b2199"), looks := false }, kinds := [], alts := [], laidByText := true, laidKinds := [.data, .pinned], laidTests := true, laidLooks := .later }
def ShowLengthsCardSaid : Prop := Claim7.holds Tryd.pinned (.plain (OpenSpec.ofChange showLengthsSpec)) showLengthsCard

/-- THE TIED CARD OF 'dragomanlaw12.ShowJoins'. -/
def showJoinsCard : Claim7 := { stood := { row := showJoinsRow, standIns := [], harness := (true, "be1f48165c8918ebc0a2b69541356ecc2e9a419c4e9ba62e05544d829e5b2199"), looks := false }, kinds := [], alts := [], laidByText := true, laidKinds := [.data, .pinned], laidTests := true, laidLooks := .later }
def ShowJoinsCardSaid : Prop := Claim7.holds Tryd.pinned (.plain (OpenSpec.ofChange showJoinsSpec)) showJoinsCard

/-- THE SECOND FORM's CARD OF 'dragomanlaw12.ShowTexts'. -/
def showTextsUptoCard : Claim7 := { stood := { row := showTextsUptoRow, standIns := [], harness := (true, "be1f48165c8918ebc0a2b69541356ecc2e9a419c4e9ba62e05544d829e5b2199"), looks := false }, kinds := [], alts := [], laidByText := true, laidKinds := [.data, .pinned], laidTests := true, laidLooks := .later }
def ShowTextsUptoCardSaid : Prop := Claim7.holds Tryd.pinned (.plain (OpenSpec.upto showTextsSpec)) showTextsUptoCard

/-- THE SECOND FORM's CARD OF 'dragomanlaw12.ShowQuotes'. -/
def showQuotesUptoCard : Claim7 := { stood := { row := showQuotesUptoRow, standIns := [], harness := (true, "be1f48165c8918ebc0a2b69541356ecc2e9a419c4e9ba62e05544d829e5b2199"), looks := false }, kinds := [], alts := [], laidByText := true, laidKinds := [.data, .pinned], laidTests := true, laidLooks := .later }
def ShowQuotesUptoCardSaid : Prop := Claim7.holds Tryd.pinned (.plain (OpenSpec.upto showQuotesSpec)) showQuotesUptoCard

/-- THE SECOND FORM's CARD OF 'dragomanlaw12.ShowWords'. -/
def showWordsUptoCard : Claim7 := { stood := { row := showWordsUptoRow, standIns := [], harness := (true, "be1f48165c8918ebc0a2b69541356ecc2e9a419c4e9ba62e05544d829e5b2199"), looks := false }, kinds := [], alts := [], laidByText := true, laidKinds := [.data, .pinned], laidTests := true, laidLooks := .later }
def ShowWordsUptoCardSaid : Prop := Claim7.holds Tryd.pinned (.plain (OpenSpec.upto showWordsSpec)) showWordsUptoCard

/-- THE SECOND FORM's CARD OF 'dragomanlaw12.ShowLengths'. -/
def showLengthsUptoCard : Claim7 := { stood := { row := showLengthsUptoRow, standIns := [], harness := (true, "be1f48165c8918ebc0a2b69541356ecc2e9a419c4e9ba62e05544d829e5b2199"), looks := false }, kinds := [], alts := [], laidByText := true, laidKinds := [.data, .pinned], laidTests := true, laidLooks := .later }
def ShowLengthsUptoCardSaid : Prop := Claim7.holds Tryd.pinned (.plain (OpenSpec.upto showLengthsSpec)) showLengthsUptoCard

/-- THE SECOND FORM's CARD OF 'dragomanlaw12.ShowJoins'. -/
def showJoinsUptoCard : Claim7 := { stood := { row := showJoinsUptoRow, standIns := [], harness := (true, "be1f48165c8918ebc0a2b69541356ecc2e9a419c4e9ba62e05544d829e5b2199"), looks := false }, kinds := [], alts := [], laidByText := true, laidKinds := [.data, .pinned], laidTests := true, laidLooks := .later }
def ShowJoinsUptoCardSaid : Prop := Claim7.holds Tryd.pinned (.plain (OpenSpec.upto showJoinsSpec)) showJoinsUptoCard
end Rows
end Go.Proofs.YtdgjlmpnackfaaaDoor

/-
  DERIVED. GIVEN WITH THE SEED: THE CARDS: each row of YtmpdgijnoekfmaaDoorRows.lean that lists a variable, with what it lists TIED to the program's text (the seventh form; the later family's looks); each row that meets fmt, with fmt's text TOLD by the authors' own Lean function (tested against real Go, not proved from fmt's source: count such statements apart). THE CARD IS WHAT COUNTS. Prove the row's statement (the work); the ties are given (YtmpdgijnoekfmaaDoorTie.lean); close each card by the builder's one call (the guide's Derived/Test/ToyasCard.lean, 'card_holds'). Laid BY PROGRAM, IN A SANDBOX (cutbox-door.mjs). By AI agents, Wed Nov 11 2026. No macro, syntax, notation, axiom, sorry.
-/
import Derived.Test.YtmpdgijnoekfmaaDoorRows
import GoSem.ClaimSeven
namespace Go.Proofs.YtmpdgijnoekfmaaDoor
namespace Rows

/-- THE TIED CARD OF 'dragomanlaw15.ScanOperands'. -/
def scanOperandsCard : Claim7 := { stood := { row := scanOperandsRow, standIns := [], harness := (true, "21a6b9fde54d8570afeab015b3dced22cd43a12ba5eab137f19550e54ad31a59"), looks := true }, kinds := [], alts := [], laidByText := true, laidKinds := [.data, .pinned], laidTests := true, laidLooks := .later }
def ScanOperandsCardSaid : Prop := Claim7.holds Tryd.pinned (.plain (OpenSpec.ofChange scanOperandsSpec)) scanOperandsCard

/-- THE TIED CARD OF 'dragomanlaw15.ScanPlaces'. -/
def scanPlacesCard : Claim7 := { stood := { row := scanPlacesRow, standIns := [], harness := (true, "21a6b9fde54d8570afeab015b3dced22cd43a12ba5eab137f19550e54ad31a59"), looks := true }, kinds := [], alts := [], laidByText := true, laidKinds := [.data, .pinned], laidTests := true, laidLooks := .later }
def ScanPlacesCardSaid : Prop := Claim7.holds Tryd.pinned (.plain (OpenSpec.ofChange scanPlacesSpec)) scanPlacesCard

/-- THE TIED CARD OF 'dragomanlaw15.ScanJoins'. -/
def scanJoinsCard : Claim7 := { stood := { row := scanJoinsRow, standIns := [], harness := (true, "21a6b9fde54d8570afeab015b3dced22cd43a12ba5eab137f19550e54ad31a59"), looks := true }, kinds := [], alts := [], laidByText := true, laidKinds := [.data, .pinned], laidTests := true, laidLooks := .later }
def ScanJoinsCardSaid : Prop := Claim7.holds Tryd.pinned (.plain (OpenSpec.ofChange scanJoinsSpec)) scanJoinsCard

/-- THE TIED CARD OF 'dragomanlaw15.ScanTexts'. -/
def scanTextsCard : Claim7 := { stood := { row := scanTextsRow, standIns := [], harness := (true, "21a6b9fde54d8570afeab015b3dced22cd43a12ba5eab137f19550e54ad31a59"), looks := true }, kinds := [], alts := [], laidByText := true, laidKinds := [.data, .pinned], laidTests := true, laidLooks := .later }
def ScanTextsCardSaid : Prop := Claim7.holds Tryd.pinned (.plain (OpenSpec.ofChange scanTextsSpec)) scanTextsCard

/-- THE TIED CARD OF 'dragomanlaw15.ScanMarks'. -/
def scanMarksCard : Claim7 := { stood := { row := scanMarksRow, standIns := [], harness := (true, "21a6b9fde54d8570afeab015b3dced22cd43a12ba5eab137f19550e54ad31a59"), looks := true }, kinds := [], alts := [], laidByText := true, laidKinds := [.data, .pinned], laidTests := true, laidLooks := .later }
def ScanMarksCardSaid : Prop := Claim7.holds Tryd.pinned (.plain (OpenSpec.ofChange scanMarksSpec)) scanMarksCard

/-- THE TIED CARD OF 'dragomanlaw15.ScanSlashes'. -/
def scanSlashesCard : Claim7 := { stood := { row := scanSlashesRow, standIns := [], harness := (true, "21a6b9fde54d8570afeab015b3dced22cd43a12ba5eab137f19550e54ad31a59"), looks := true }, kinds := [], alts := [], laidByText := true, laidKinds := [.data, .pinned], laidTests := true, laidLooks := .later }
def ScanSlashesCardSaid : Prop := Claim7.holds Tryd.pinned (.plain (OpenSpec.ofChange scanSlashesSpec)) scanSlashesCard

/-- THE SECOND FORM's CARD OF 'dragomanlaw15.ScanOperands'. -/
def scanOperandsUptoCard : Claim7 := { stood := { row := scanOperandsUptoRow, standIns := [], harness := (true, "21a6b9fde54d8570afeab015b3dced22cd43a12ba5eab137f19550e54ad31a59"), looks := true }, kinds := [], alts := [], laidByText := true, laidKinds := [.data, .pinned], laidTests := true, laidLooks := .later }
def ScanOperandsUptoCardSaid : Prop := Claim7.holds Tryd.pinned (.plain (OpenSpec.upto scanOperandsSpec)) scanOperandsUptoCard

/-- THE SECOND FORM's CARD OF 'dragomanlaw15.ScanPlaces'. -/
def scanPlacesUptoCard : Claim7 := { stood := { row := scanPlacesUptoRow, standIns := [], harness := (true, "21a6b9fde54d8570afeab015b3dced22cd43a12ba5eab137f19550e54ad31a59"), looks := true }, kinds := [], alts := [], laidByText := true, laidKinds := [.data, .pinned], laidTests := true, laidLooks := .later }
def ScanPlacesUptoCardSaid : Prop := Claim7.holds Tryd.pinned (.plain (OpenSpec.upto scanPlacesSpec)) scanPlacesUptoCard

/-- THE SECOND FORM's CARD OF 'dragomanlaw15.ScanJoins'. -/
def scanJoinsUptoCard : Claim7 := { stood := { row := scanJoinsUptoRow, standIns := [], harness := (true, "21a6b9fde54d8570afeab015b3dced22cd43a12ba5eab137f19550e54ad31a59"), looks := true }, kinds := [], alts := [], laidByText := true, laidKinds := [.data, .pinned], laidTests := true, laidLooks := .later }
def ScanJoinsUptoCardSaid : Prop := Claim7.holds Tryd.pinned (.plain (OpenSpec.upto scanJoinsSpec)) scanJoinsUptoCard

/-- THE SECOND FORM's CARD OF 'dragomanlaw15.ScanTexts'. -/
def scanTextsUptoCard : Claim7 := { stood := { row := scanTextsUptoRow, standIns := [], harness := (true, "21a6b9fde54d8570afeab015b3dced22cd43a12ba5eab137f19550e54ad31a59"), looks := true }, kinds := [], alts := [], laidByText := true, laidKinds := [.data, .pinned], laidTests := true, laidLooks := .later }
def ScanTextsUptoCardSaid : Prop := Claim7.holds Tryd.pinned (.plain (OpenSpec.upto scanTextsSpec)) scanTextsUptoCard

/-- THE SECOND FORM's CARD OF 'dragomanlaw15.ScanMarks'. -/
def scanMarksUptoCard : Claim7 := { stood := { row := scanMarksUptoRow, standIns := [], harness := (true, "21a6b9fde54d8570afeab015b3dced22cd43a12ba5eab137f19550e54ad31a59"), looks := true }, kinds := [], alts := [], laidByText := true, laidKinds := [.data, .pinned], laidTests := true, laidLooks := .later }
def ScanMarksUptoCardSaid : Prop := Claim7.holds Tryd.pinned (.plain (OpenSpec.upto scanMarksSpec)) scanMarksUptoCard

/-- THE SECOND FORM's CARD OF 'dragomanlaw15.ScanSlashes'. -/
def scanSlashesUptoCard : Claim7 := { stood := { row := scanSlashesUptoRow, standIns := [], harness := (true, "21a6b9fde54d8570afeab015b3dced22cd43a12ba5eab137f19550e54ad31a59"), looks := true }, kinds := [], alts := [], laidByText := true, laidKinds := [.data, .pinned], laidTests := true, laidLooks := .later }
def ScanSlashesUptoCardSaid : Prop := Claim7.holds Tryd.pinned (.plain (OpenSpec.upto scanSlashesSpec)) scanSlashesUptoCard
end Rows
end Go.Proofs.YtmpdgijnoekfmaaDoor

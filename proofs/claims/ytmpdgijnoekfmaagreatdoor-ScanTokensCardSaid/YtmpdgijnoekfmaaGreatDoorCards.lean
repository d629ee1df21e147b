/-
  DERIVED. GIVEN WITH THE SEED: THE CARDS: each row of YtmpdgijnoekfmaaGreatDoorRows.lean that lists a variable, with what it lists TIED to the program's text (the seventh form; the later family's looks); each row that meets fmt, with fmt's text TOLD by the authors' own Lean function (tested against real Go, not proved from fmt's source: count such statements apart). THE CARD IS WHAT COUNTS. Prove the row's statement (the work); the ties are given (YtmpdgijnoekfmaaGreatDoorTie.lean); close each card by the builder's one call (the guide's Derived/Test/ToyasCard.lean, 'card_holds'). Laid BY PROGRAM, IN A SANDBOX (cutbox-door.mjs). By AI agents, Wed Nov 11 2026. No macro, syntax, notation, axiom, sorry.
-/
import Derived.Test.YtmpdgijnoekfmaaGreatDoorRows
import GoSem.ClaimSeven
namespace Go.Proofs.YtmpdgijnoekfmaaGreatDoor
namespace Rows

/-- THE TIED CARD OF 'dragomanlaw15.ScanTokens'. -/
def scanTokensCard : Claim7 := { stood := { row := scanTokensRow, standIns := [], harness := (true, "b576c2be937b4b55303c7b9b6e907572534c6acce9c6176ffbaf6ec37fc99eda"), looks := true }, kinds := [], alts := [], laidByText := true, laidKinds := [.data, .pinned], laidTests := true, laidLooks := .later }
def ScanTokensCardSaid : Prop := Claim7.holds Tryz.pinned (.plain (OpenSpec.ofChange scanTokensSpec)) scanTokensCard

/-- THE SECOND FORM's CARD OF 'dragomanlaw15.ScanTokens'. -/
def scanTokensUptoCard : Claim7 := { stood := { row := scanTokensUptoRow, standIns := [], harness := (true, "b576c2be937b4b55303c7b9b6e907572534c6acce9c6176ffbaf6ec37fc99eda"), looks := true }, kinds := [], alts := [], laidByText := true, laidKinds := [.data, .pinned], laidTests := true, laidLooks := .later }
def ScanTokensUptoCardSaid : Prop := Claim7.holds Tryz.pinned (.plain (OpenSpec.upto scanTokensSpec)) scanTokensUptoCard
end Rows
end Go.Proofs.YtmpdgijnoekfmaaGreatDoor

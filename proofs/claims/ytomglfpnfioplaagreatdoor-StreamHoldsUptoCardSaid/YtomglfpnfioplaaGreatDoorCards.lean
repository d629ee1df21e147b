/-
  DERIVED. GIVEN WITH THE SEED: THE CARDS: each row of YtomglfpnfioplaaGreatDoorRows.lean that lists a variable, with what it lists TIED to the program's text (the seventh form; the later family's looks); each row that meets fmt, with fmt's text TOLD by the authors' own Lean function (tested against real Go, not proved from fmt's source: count such statements apart). THE CARD IS WHAT COUNTS. Prove the row's statement (the work); the ties are given (YtomglfpnfioplaaGreatDoorTie.lean); close each card by the builder's one call (the guide's Derived/Test/ToyasCard.lean, 'card_holds'). Laid BY PROGRAM, IN A SANDBOX (cutbox-door.mjs). By AI agents, Wed Nov 11 2026. No macro, syntax, notation, axiom, sorry.
-/
import Derived.Test.YtomglfpnfioplaaGreatDoorRows
import GoSem.ClaimSeven
namespace Go.Proofs.YtomglfpnfioplaaGreatDoor
namespace Rows

/-- THE TIED CARD OF 'dragomanlaw09.StreamFuel'. -/
def streamFuelCard : Claim7 := { stood := { row := streamFuelRow, standIns := [], harness := (true, "050e1b0b98a3ce343209d6809a3c32457920657b9fb7a76418cf06e6053e1417"), looks := true }, kinds := [], alts := [], laidByText := true, laidKinds := [.data, .data, .data, .data, .sentinel, .sentinel, .pinned], laidTests := true, laidLooks := .later }
def StreamFuelCardSaid : Prop := Claim7.holds Tryz.pinned (.plain (OpenSpec.ofChange streamFuelSpec)) streamFuelCard

/-- THE TIED CARD OF 'dragomanlaw09.StreamPlain'. -/
def streamPlainCard : Claim7 := { stood := { row := streamPlainRow, standIns := [], harness := (true, "050e1b0b98a3ce343209d6809a3c32457920657b9fb7a76418cf06e6053e1417"), looks := true }, kinds := [], alts := [], laidByText := true, laidKinds := [.data, .data, .data, .data, .sentinel, .sentinel, .pinned], laidTests := true, laidLooks := .later }
def StreamPlainCardSaid : Prop := Claim7.holds Tryz.pinned (.plain (OpenSpec.ofChange streamPlainSpec)) streamPlainCard

/-- THE TIED CARD OF 'dragomanlaw09.StreamLines'. -/
def streamLinesCard : Claim7 := { stood := { row := streamLinesRow, standIns := [], harness := (true, "050e1b0b98a3ce343209d6809a3c32457920657b9fb7a76418cf06e6053e1417"), looks := true }, kinds := [], alts := [], laidByText := true, laidKinds := [.data, .data, .data, .data, .sentinel, .sentinel, .pinned], laidTests := true, laidLooks := .later }
def StreamLinesCardSaid : Prop := Claim7.holds Tryz.pinned (.plain (OpenSpec.ofChange streamLinesSpec)) streamLinesCard

/-- THE TIED CARD OF 'dragomanlaw09.StreamPrints'. -/
def streamPrintsCard : Claim7 := { stood := { row := streamPrintsRow, standIns := [], harness := (true, "050e1b0b98a3ce343209d6809a3c32457920657b9fb7a76418cf06e6053e1417"), looks := true }, kinds := [], alts := [], laidByText := true, laidKinds := [.data, .data, .data, .data, .sentinel, .sentinel, .pinned], laidTests := true, laidLooks := .later }
def StreamPrintsCardSaid : Prop := Claim7.holds Tryz.pinned (.plain (OpenSpec.ofChange streamPrintsSpec)) streamPrintsCard

/-- THE TIED CARD OF 'dragomanlaw09.StreamQuits'. -/
def streamQuitsCard : Claim7 := { stood := { row := streamQuitsRow, standIns := [], harness := (true, "050e1b0b98a3ce343209d6809a3c32457920657b9fb7a76418cf06e6053e1417"), looks := true }, kinds := [], alts := [], laidByText := true, laidKinds := [.data, .data, .data, .data, .sentinel, .sentinel, .pinned], laidTests := true, laidLooks := .later }
def StreamQuitsCardSaid : Prop := Claim7.holds Tryz.pinned (.plain (OpenSpec.ofChange streamQuitsSpec)) streamQuitsCard

/-- THE TIED CARD OF 'dragomanlaw09.StreamHolds'. -/
def streamHoldsCard : Claim7 := { stood := { row := streamHoldsRow, standIns := [], harness := (true, "050e1b0b98a3ce343209d6809a3c32457920657b9fb7a76418cf06e6053e1417"), looks := true }, kinds := [], alts := [], laidByText := true, laidKinds := [.data, .data, .data, .data, .sentinel, .sentinel, .pinned], laidTests := true, laidLooks := .later }
def StreamHoldsCardSaid : Prop := Claim7.holds Tryz.pinned (.plain (OpenSpec.ofChange streamHoldsSpec)) streamHoldsCard

/-- THE SECOND FORM's CARD OF 'dragomanlaw09.StreamFuel'. -/
def streamFuelUptoCard : Claim7 := { stood := { row := streamFuelUptoRow, standIns := [], harness := (true, "050e1b0b98a3ce343209d6809a3c32457920657b9fb7a76418cf06e6053e1417"), looks := true }, kinds := [], alts := [], laidByText := true, laidKinds := [.data, .data, .data, .data, .sentinel, .sentinel, .pinned], laidTests := true, laidLooks := .later }
def StreamFuelUptoCardSaid : Prop := Claim7.holds Tryz.pinned (.plain (OpenSpec.upto streamFuelSpec)) streamFuelUptoCard

/-- THE SECOND FORM's CARD OF 'dragomanlaw09.StreamPlain'. -/
def streamPlainUptoCard : Claim7 := { stood := { row := streamPlainUptoRow, standIns := [], harness := (true, "050e1b0b98a3ce343209d6809a3c32457920657b9fb7a76418cf06e6053e1417"), looks := true }, kinds := [], alts := [], laidByText := true, laidKinds := [.data, .data, .data, .data, .sentinel, .sentinel, .pinned], laidTests := true, laidLooks := .later }
def StreamPlainUptoCardSaid : Prop := Claim7.holds Tryz.pinned (.plain (OpenSpec.upto streamPlainSpec)) streamPlainUptoCard

/-- THE SECOND FORM's CARD OF 'dragomanlaw09.StreamLines'. -/
def streamLinesUptoCard : Claim7 := { stood := { row := streamLinesUptoRow, standIns := [], harness := (true, "050e1b0b98a3ce343209d6809a3c32457920657b9fb7a76418cf06e6053e1417"), looks := true }, kinds := [], alts := [], laidByText := true, laidKinds := [.data, .data, .data, .data, .sentinel, .sentinel, .pinned], laidTests := true, laidLooks := .later }
def StreamLinesUptoCardSaid : Prop := Claim7.holds Tryz.pinned (.plain (OpenSpec.upto streamLinesSpec)) streamLinesUptoCard

/-- THE SECOND FORM's CARD OF 'dragomanlaw09.StreamPrints'. -/
def streamPrintsUptoCard : Claim7 := { stood := { row := streamPrintsUptoRow, standIns := [], harness := (true, "050e1b0b98a3ce343209d6809a3c32457920657b9fb7a76418cf06e6053e1417"), looks := true }, kinds := [], alts := [], laidByText := true, laidKinds := [.data, .data, .data, .data, .sentinel, .sentinel, .pinned], laidTests := true, laidLooks := .later }
def StreamPrintsUptoCardSaid : Prop := Claim7.holds Tryz.pinned (.plain (OpenSpec.upto streamPrintsSpec)) streamPrintsUptoCard

/-- THE SECOND FORM's CARD OF 'dragomanlaw09.StreamQuits'. -/
def streamQuitsUptoCard : Claim7 := { stood := { row := streamQuitsUptoRow, standIns := [], harness := (true, "050e1b0b98a3ce343209d6809a3c32457920657b9fb7a76418cf06e6053e1417"), looks := true }, kinds := [], alts := [], laidByText := true, laidKinds := [.data, .data, .data, .data, .sentinel, .sentinel, .pinned], laidTests := true, laidLooks := .later }
def StreamQuitsUptoCardSaid : Prop := Claim7.holds Tryz.pinned (.plain (OpenSpec.upto streamQuitsSpec)) streamQuitsUptoCard

/-- THE SECOND FORM's CARD OF 'dragomanlaw09.StreamHolds'. -/
def streamHoldsUptoCard : Claim7 := { stood := { row := streamHoldsUptoRow, standIns := [], harness := (true, "050e1b0b98a3ce343209d6809a3c32457920657b9fb7a76418cf06e6053e1417"), looks := true }, kinds := [], alts := [], laidByText := true, laidKinds := [.data, .data, .data, .data, .sentinel, .sentinel, .pinned], laidTests := true, laidLooks := .later }
def StreamHoldsUptoCardSaid : Prop := Claim7.holds Tryz.pinned (.plain (OpenSpec.upto streamHoldsSpec)) streamHoldsUptoCard
end Rows
end Go.Proofs.YtomglfpnfioplaaGreatDoor

/-
  DERIVED. GIVEN WITH THE SEED: THE CARDS: each row of YtfnjoceolcdeoaaGreatDoorRows.lean that lists a variable, with what it lists TIED to the program's text (the seventh form; the later family's looks); each row that meets fmt, with fmt's text TOLD by the authors' own Lean function (tested against real Go, not proved from fmt's source: count such statements apart). THE CARD IS WHAT COUNTS. Prove the row's statement (the work); the ties are given (YtfnjoceolcdeoaaGreatDoorTie.lean); close each card by the builder's one call (the guide's Derived/Test/ToyasCard.lean, 'card_holds'). Laid BY PROGRAM, IN A SANDBOX (cutbox-door.mjs). By AI agents, Wed Nov 11 2026. No macro, syntax, notation, axiom, sorry.
-/
import Derived.Test.YtfnjoceolcdeoaaGreatDoorRows
import GoSem.ClaimSeven
namespace Go.Proofs.YtfnjoceolcdeoaaGreatDoor
namespace Rows

/-- THE TIED CARD OF 'signalboxlaw22.PoolWaits'. -/
def poolWaitsCard : Claim7 := { stood := { row := poolWaitsRow, standIns := [], harness := (true, "a61a8d4c5382ff45fc3efe62ffaa1afbdb1c4db6a4b6cde205d018ac5cabf559"), looks := false }, kinds := [], alts := [], laidByText := true, laidKinds := [.data, .data, .pinned], laidTests := true, laidLooks := .later }
def PoolWaitsCardSaid : Prop := Claim7.holds Tryz.pinned (.plain (OpenSpec.ofChange poolWaitsSpec)) poolWaitsCard

/-- THE TIED CARD OF 'signalboxlaw22.PoolLeast'. -/
def poolLeastCard : Claim7 := { stood := { row := poolLeastRow, standIns := [], harness := (true, "a61a8d4c5382ff45fc3efe62ffaa1afbdb1c4db6a4b6cde205d018ac5cabf559"), looks := false }, kinds := [], alts := [], laidByText := true, laidKinds := [.data, .data, .pinned], laidTests := true, laidLooks := .later }
def PoolLeastCardSaid : Prop := Claim7.holds Tryz.pinned (.plain (OpenSpec.ofChange poolLeastSpec)) poolLeastCard

/-- THE TIED CARD OF 'signalboxlaw22.PoolReadies'. -/
def poolReadiesCard : Claim7 := { stood := { row := poolReadiesRow, standIns := [], harness := (true, "a61a8d4c5382ff45fc3efe62ffaa1afbdb1c4db6a4b6cde205d018ac5cabf559"), looks := false }, kinds := [], alts := [], laidByText := true, laidKinds := [.data, .data, .pinned], laidTests := true, laidLooks := .later }
def PoolReadiesCardSaid : Prop := Claim7.holds Tryz.pinned (.plain (OpenSpec.ofChange poolReadiesSpec)) poolReadiesCard

/-- THE TIED CARD OF 'signalboxlaw22.PoolStops'. -/
def poolStopsCard : Claim7 := { stood := { row := poolStopsRow, standIns := [], harness := (true, "a61a8d4c5382ff45fc3efe62ffaa1afbdb1c4db6a4b6cde205d018ac5cabf559"), looks := false }, kinds := [], alts := [], laidByText := true, laidKinds := [.data, .data, .pinned], laidTests := true, laidLooks := .later }
def PoolStopsCardSaid : Prop := Claim7.holds Tryz.pinned (.plain (OpenSpec.ofChange poolStopsSpec)) poolStopsCard

/-- THE TIED CARD OF 'signalboxlaw22.PoolNone'. -/
def poolNoneCard : Claim7 := { stood := { row := poolNoneRow, standIns := [], harness := (true, "a61a8d4c5382ff45fc3efe62ffaa1afbdb1c4db6a4b6cde205d018ac5cabf559"), looks := false }, kinds := [], alts := [], laidByText := true, laidKinds := [.data, .data, .pinned], laidTests := true, laidLooks := .later }
def PoolNoneCardSaid : Prop := Claim7.holds Tryz.pinned (.plain (OpenSpec.ofChange poolNoneSpec)) poolNoneCard

/-- THE SECOND FORM's CARD OF 'signalboxlaw22.PoolWaits'. -/
def poolWaitsUptoCard : Claim7 := { stood := { row := poolWaitsUptoRow, standIns := [], harness := (true, "a61a8d4c5382ff45fc3efe62ffaa1afbdb1c4db6a4b6cde205d018ac5cabf559"), looks := false }, kinds := [], alts := [], laidByText := true, laidKinds := [.data, .data, .pinned], laidTests := true, laidLooks := .later }
def PoolWaitsUptoCardSaid : Prop := Claim7.holds Tryz.pinned (.plain (OpenSpec.upto poolWaitsSpec)) poolWaitsUptoCard

/-- THE SECOND FORM's CARD OF 'signalboxlaw22.PoolLeast'. -/
def poolLeastUptoCard : Claim7 := { stood := { row := poolLeastUptoRow, standIns := [], harness := (true, "a61a8d4c5382ff45fc3efe62ffaa1afbdb1c4db6a4b6cde205d018ac5cabf559"), looks := false }, kinds := [], alts := [], laidByText := true, laidKinds := [.data, .data, .pinned], laidTests := true, laidLooks := .later }
def PoolLeastUptoCardSaid : Prop := Claim7.holds Tryz.pinned (.plain (OpenSpec.upto poolLeastSpec)) poolLeastUptoCard

/-- THE SECOND FORM's CARD OF 'signalboxlaw22.PoolReadies'. -/
def poolReadiesUptoCard : Claim7 := { stood := { row := poolReadiesUptoRow, standIns := [], harness := (true, "a61a8d4c5382ff45fc3efe62ffaa1afbdb1c4db6a4b6cde205d018ac5cabf559"), looks := false }, kinds := [], alts := [], laidByText := true, laidKinds := [.data, .data, .pinned], laidTests := true, laidLooks := .later }
def PoolReadiesUptoCardSaid : Prop := Claim7.holds Tryz.pinned (.plain (OpenSpec.upto poolReadiesSpec)) poolReadiesUptoCard

/-- THE SECOND FORM's CARD OF 'signalboxlaw22.PoolStops'. -/
def poolStopsUptoCard : Claim7 := { stood := { row := poolStopsUptoRow, standIns := [], harness := (true, "a61a8d4c5382ff45fc3efe62ffaa1afbdb1c4db6a4b6cde205d018ac5cabf559"), looks := false }, kinds := [], alts := [], laidByText := true, laidKinds := [.data, .data, .pinned], laidTests := true, laidLooks := .later }
def PoolStopsUptoCardSaid : Prop := Claim7.holds Tryz.pinned (.plain (OpenSpec.upto poolStopsSpec)) poolStopsUptoCard

/-- THE SECOND FORM's CARD OF 'signalboxlaw22.PoolNone'. -/
def poolNoneUptoCard : Claim7 := { stood := { row := poolNoneUptoRow, standIns := [], harness := (true, "a61a8d4c5382ff45fc3efe62ffaa1afbdb1c4db6a4b6cde205d018ac5cabf559"), looks := false }, kinds := [], alts := [], laidByText := true, laidKinds := [.data, .data, .pinned], laidTests := true, laidLooks := .later }
def PoolNoneUptoCardSaid : Prop := Claim7.holds Tryz.pinned (.plain (OpenSpec.upto poolNoneSpec)) poolNoneUptoCard
end Rows
end Go.Proofs.YtfnjoceolcdeoaaGreatDoor

/-
  DERIVED. GIVEN WITH THE SEED: THE CARDS: each row of YtdcdefkloibfnaaGreatDoorRows.lean that lists a variable, with what it lists TIED to the program's text (the seventh form; the later family's looks); each row that meets fmt, with fmt's text TOLD by the authors' own Lean function (tested against real Go, not proved from fmt's source: count such statements apart). THE CARD IS WHAT COUNTS. Prove the row's statement (the work); the ties are given (YtdcdefkloibfnaaGreatDoorTie.lean); close each card by the builder's one call (the guide's Derived/Test/ToyasCard.lean, 'card_holds'). Laid BY PROGRAM, IN A SANDBOX (cutbox-door.mjs). By AI agents, Wed Nov 11 2026. No macro, syntax, notation, axiom, sorry.
-/
import Derived.Test.YtdcdefkloibfnaaGreatDoorRows
import GoSem.ClaimSeven
namespace Go.Proofs.YtdcdefkloibfnaaGreatDoor
namespace Rows

/-- THE TIED CARD OF 'signalboxlaw23.ControlHosts'. -/
def controlHostsCard : Claim7 := { stood := { row := controlHostsRow, standIns := [], harness := (true, "6e8f1ea111690ce3e95f5d5727e5d06b46528864ce0410d7d7e2ff888453f8c2"), looks := true }, kinds := [], alts := [], laidByText := true, laidKinds := [.data, .data, .data, .sentinel, .sentinel], laidTests := true, laidLooks := .later }
def ControlHostsCardSaid : Prop := Claim7.holds Tryz.pinned (.plain (OpenSpec.ofChange controlHostsSpec)) controlHostsCard

/-- THE TIED CARD OF 'signalboxlaw23.ControlNames'. -/
def controlNamesCard : Claim7 := { stood := { row := controlNamesRow, standIns := [], harness := (true, "6e8f1ea111690ce3e95f5d5727e5d06b46528864ce0410d7d7e2ff888453f8c2"), looks := true }, kinds := [], alts := [], laidByText := true, laidKinds := [.data, .data, .data, .sentinel, .sentinel], laidTests := true, laidLooks := .later }
def ControlNamesCardSaid : Prop := Claim7.holds Tryz.pinned (.plain (OpenSpec.ofChange controlNamesSpec)) controlNamesCard

/-- THE TIED CARD OF 'signalboxlaw23.ControlPlays'. -/
def controlPlaysCard : Claim7 := { stood := { row := controlPlaysRow, standIns := [], harness := (true, "6e8f1ea111690ce3e95f5d5727e5d06b46528864ce0410d7d7e2ff888453f8c2"), looks := true }, kinds := [], alts := [], laidByText := true, laidKinds := [.data, .data, .data, .sentinel, .sentinel], laidTests := true, laidLooks := .later }
def ControlPlaysCardSaid : Prop := Claim7.holds Tryz.pinned (.plain (OpenSpec.ofChange controlPlaysSpec)) controlPlaysCard

/-- THE TIED CARD OF 'signalboxlaw23.ControlAsks'. -/
def controlAsksCard : Claim7 := { stood := { row := controlAsksRow, standIns := [], harness := (true, "6e8f1ea111690ce3e95f5d5727e5d06b46528864ce0410d7d7e2ff888453f8c2"), looks := true }, kinds := [], alts := [], laidByText := true, laidKinds := [.data, .data, .data, .sentinel, .sentinel], laidTests := true, laidLooks := .later }
def ControlAsksCardSaid : Prop := Claim7.holds Tryz.pinned (.plain (OpenSpec.ofChange controlAsksSpec)) controlAsksCard

/-- THE TIED CARD OF 'signalboxlaw23.ControlUps'. -/
def controlUpsCard : Claim7 := { stood := { row := controlUpsRow, standIns := [], harness := (true, "6e8f1ea111690ce3e95f5d5727e5d06b46528864ce0410d7d7e2ff888453f8c2"), looks := true }, kinds := [], alts := [], laidByText := true, laidKinds := [.data, .data, .data, .sentinel, .sentinel], laidTests := true, laidLooks := .later }
def ControlUpsCardSaid : Prop := Claim7.holds Tryz.pinned (.plain (OpenSpec.ofChange controlUpsSpec)) controlUpsCard

/-- THE SECOND FORM's CARD OF 'signalboxlaw23.ControlHosts'. -/
def controlHostsUptoCard : Claim7 := { stood := { row := controlHostsUptoRow, standIns := [], harness := (true, "6e8f1ea111690ce3e95f5d5727e5d06b46528864ce0410d7d7e2ff888453f8c2"), looks := true }, kinds := [], alts := [], laidByText := true, laidKinds := [.data, .data, .data, .sentinel, .sentinel], laidTests := true, laidLooks := .later }
def ControlHostsUptoCardSaid : Prop := Claim7.holds Tryz.pinned (.plain (OpenSpec.upto controlHostsSpec)) controlHostsUptoCard

/-- THE SECOND FORM's CARD OF 'signalboxlaw23.ControlNames'. -/
def controlNamesUptoCard : Claim7 := { stood := { row := controlNamesUptoRow, standIns := [], harness := (true, "6e8f1ea111690ce3e95f5d5727e5d06b46528864ce0410d7d7e2ff888453f8c2"), looks := true }, kinds := [], alts := [], laidByText := true, laidKinds := [.data, .data, .data, .sentinel, .sentinel], laidTests := true, laidLooks := .later }
def ControlNamesUptoCardSaid : Prop := Claim7.holds Tryz.pinned (.plain (OpenSpec.upto controlNamesSpec)) controlNamesUptoCard

/-- THE SECOND FORM's CARD OF 'signalboxlaw23.ControlPlays'. -/
def controlPlaysUptoCard : Claim7 := { stood := { row := controlPlaysUptoRow, standIns := [], harness := (true, "6e8f1ea111690ce3e95f5d5727e5d06b46528864ce0410d7d7e2ff888453f8c2"), looks := true }, kinds := [], alts := [], laidByText := true, laidKinds := [.data, .data, .data, .sentinel, .sentinel], laidTests := true, laidLooks := .later }
def ControlPlaysUptoCardSaid : Prop := Claim7.holds Tryz.pinned (.plain (OpenSpec.upto controlPlaysSpec)) controlPlaysUptoCard

/-- THE SECOND FORM's CARD OF 'signalboxlaw23.ControlAsks'. -/
def controlAsksUptoCard : Claim7 := { stood := { row := controlAsksUptoRow, standIns := [], harness := (true, "6e8f1ea111690ce3e95f5d5727e5d06b46528864ce0410d7d7e2ff888453f8c2"), looks := true }, kinds := [], alts := [], laidByText := true, laidKinds := [.data, .data, .data, .sentinel, .sentinel], laidTests := true, laidLooks := .later }
def ControlAsksUptoCardSaid : Prop := Claim7.holds Tryz.pinned (.plain (OpenSpec.upto controlAsksSpec)) controlAsksUptoCard

/-- THE SECOND FORM's CARD OF 'signalboxlaw23.ControlUps'. -/
def controlUpsUptoCard : Claim7 := { stood := { row := controlUpsUptoRow, standIns := [], harness := (true, "6e8f1ea111690ce3e95f5d5727e5d06b46528864ce0410d7d7e2ff888453f8c2"), looks := true }, kinds := [], alts := [], laidByText := true, laidKinds := [.data, .data, .data, .sentinel, .sentinel], laidTests := true, laidLooks := .later }
def ControlUpsUptoCardSaid : Prop := Claim7.holds Tryz.pinned (.plain (OpenSpec.upto controlUpsSpec)) controlUpsUptoCard
end Rows
end Go.Proofs.YtdcdefkloibfnaaGreatDoor

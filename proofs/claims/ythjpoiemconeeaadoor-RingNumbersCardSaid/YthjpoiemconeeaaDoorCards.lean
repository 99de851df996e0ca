/-
  DERIVED. GIVEN WITH THE SEED: THE CARDS: each row of YthjpoiemconeeaaDoorRows.lean that lists a variable, with what it lists TIED to the program's text (the seventh form; the later family's looks); each row that meets fmt, with fmt's text TOLD by the authors' own Lean function (tested against real Go, not proved from fmt's source: count such statements apart). THE CARD IS WHAT COUNTS. Prove the row's statement (the work); the ties are given (YthjpoiemconeeaaDoorTie.lean); close each card by the builder's one call (the guide's Derived/Test/ToyasCard.lean, 'card_holds'). Laid BY PROGRAM, IN A SANDBOX (cutbox-door.mjs). By AI agents, Wed Nov 11 2026. No macro, syntax, notation, axiom, sorry.
-/
import Derived.Test.YthjpoiemconeeaaDoorRows
import GoSem.ClaimSeven
namespace Go.Proofs.YthjpoiemconeeaaDoor
namespace Rows

/-- THE TIED CARD OF 'signalboxlaw13.RingOwns'. -/
def ringOwnsCard : Claim7 := { stood := { row := ringOwnsRow, standIns := [], harness := (true, "969744cbe8ff424cc9f5d5a1710665f06b2dc7c438e81de210cb143649aab9e3"), looks := true }, kinds := [], alts := [], laidByText := true, laidKinds := [.data, .data, .data, .sentinel, .sentinel], laidTests := true, laidLooks := .later }
def RingOwnsCardSaid : Prop := Claim7.holds Tryd.pinned (.plain (OpenSpec.ofChange ringOwnsSpec)) ringOwnsCard

/-- THE TIED CARD OF 'signalboxlaw13.RingReads'. -/
def ringReadsCard : Claim7 := { stood := { row := ringReadsRow, standIns := [], harness := (true, "969744cbe8ff424cc9f5d5a1710665f06b2dc7c438e81de210cb143649aab9e3"), looks := true }, kinds := [], alts := [], laidByText := true, laidKinds := [.data, .data, .data, .sentinel, .sentinel], laidTests := true, laidLooks := .later }
def RingReadsCardSaid : Prop := Claim7.holds Tryd.pinned (.plain (OpenSpec.ofChange ringReadsSpec)) ringReadsCard

/-- THE TIED CARD OF 'signalboxlaw13.RingWalks'. -/
def ringWalksCard : Claim7 := { stood := { row := ringWalksRow, standIns := [], harness := (true, "969744cbe8ff424cc9f5d5a1710665f06b2dc7c438e81de210cb143649aab9e3"), looks := true }, kinds := [], alts := [], laidByText := true, laidKinds := [.data, .data, .data, .sentinel, .sentinel], laidTests := true, laidLooks := .later }
def RingWalksCardSaid : Prop := Claim7.holds Tryd.pinned (.plain (OpenSpec.ofChange ringWalksSpec)) ringWalksCard

/-- THE TIED CARD OF 'signalboxlaw13.RingArcs'. -/
def ringArcsCard : Claim7 := { stood := { row := ringArcsRow, standIns := [], harness := (true, "969744cbe8ff424cc9f5d5a1710665f06b2dc7c438e81de210cb143649aab9e3"), looks := true }, kinds := [], alts := [], laidByText := true, laidKinds := [.data, .data, .data, .sentinel, .sentinel], laidTests := true, laidLooks := .later }
def RingArcsCardSaid : Prop := Claim7.holds Tryd.pinned (.plain (OpenSpec.ofChange ringArcsSpec)) ringArcsCard

/-- THE TIED CARD OF 'signalboxlaw13.RingNumbers'. -/
def ringNumbersCard : Claim7 := { stood := { row := ringNumbersRow, standIns := [], harness := (true, "969744cbe8ff424cc9f5d5a1710665f06b2dc7c438e81de210cb143649aab9e3"), looks := true }, kinds := [], alts := [], laidByText := true, laidKinds := [.data, .data, .data, .sentinel, .sentinel], laidTests := true, laidLooks := .later }
def RingNumbersCardSaid : Prop := Claim7.holds Tryd.pinned (.plain (OpenSpec.ofChange ringNumbersSpec)) ringNumbersCard

/-- THE SECOND FORM's CARD OF 'signalboxlaw13.RingOwns'. -/
def ringOwnsUptoCard : Claim7 := { stood := { row := ringOwnsUptoRow, standIns := [], harness := (true, "969744cbe8ff424cc9f5d5a1710665f06b2dc7c438e81de210cb143649aab9e3"), looks := true }, kinds := [], alts := [], laidByText := true, laidKinds := [.data, .data, .data, .sentinel, .sentinel], laidTests := true, laidLooks := .later }
def RingOwnsUptoCardSaid : Prop := Claim7.holds Tryd.pinned (.plain (OpenSpec.upto ringOwnsSpec)) ringOwnsUptoCard

/-- THE SECOND FORM's CARD OF 'signalboxlaw13.RingReads'. -/
def ringReadsUptoCard : Claim7 := { stood := { row := ringReadsUptoRow, standIns := [], harness := (true, "969744cbe8ff424cc9f5d5a1710665f06b2dc7c438e81de210cb143649aab9e3"), looks := true }, kinds := [], alts := [], laidByText := true, laidKinds := [.data, .data, .data, .sentinel, .sentinel], laidTests := true, laidLooks := .later }
def RingReadsUptoCardSaid : Prop := Claim7.holds Tryd.pinned (.plain (OpenSpec.upto ringReadsSpec)) ringReadsUptoCard

/-- THE SECOND FORM's CARD OF 'signalboxlaw13.RingWalks'. -/
def ringWalksUptoCard : Claim7 := { stood := { row := ringWalksUptoRow, standIns := [], harness := (true, "969744cbe8ff424cc9f5d5a1710665f06b2dc7c438e81de210cb143649aab9e3"), looks := true }, kinds := [], alts := [], laidByText := true, laidKinds := [.data, .data, .data, .sentinel, .sentinel], laidTests := true, laidLooks := .later }
def RingWalksUptoCardSaid : Prop := Claim7.holds Tryd.pinned (.plain (OpenSpec.upto ringWalksSpec)) ringWalksUptoCard

/-- THE SECOND FORM's CARD OF 'signalboxlaw13.RingArcs'. -/
def ringArcsUptoCard : Claim7 := { stood := { row := ringArcsUptoRow, standIns := [], harness := (true, "969744cbe8ff424cc9f5d5a1710665f06b2dc7c438e81de210cb143649aab9e3"), looks := true }, kinds := [], alts := [], laidByText := true, laidKinds := [.data, .data, .data, .sentinel, .sentinel], laidTests := true, laidLooks := .later }
def RingArcsUptoCardSaid : Prop := Claim7.holds Tryd.pinned (.plain (OpenSpec.upto ringArcsSpec)) ringArcsUptoCard

/-- THE SECOND FORM's CARD OF 'signalboxlaw13.RingNumbers'. -/
def ringNumbersUptoCard : Claim7 := { stood := { row := ringNumbersUptoRow, standIns := [], harness := (true, "969744cbe8ff424cc9f5d5a1710665f06b2dc7c438e81de210cb143649aab9e3"), looks := true }, kinds := [], alts := [], laidByText := true, laidKinds := [.data, .data, .data, .sentinel, .sentinel], laidTests := true, laidLooks := .later }
def RingNumbersUptoCardSaid : Prop := Claim7.holds Tryd.pinned (.plain (OpenSpec.upto ringNumbersSpec)) ringNumbersUptoCard
end Rows
end Go.Proofs.YthjpoiemconeeaaDoor

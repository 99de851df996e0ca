/-
  DERIVED. GIVEN WITH THE SEED: THE CARDS: each row of YtelcielfhgijpaaDoorRows.lean that lists a variable, with what it lists TIED to the program's text (the seventh form; the later family's looks); each row that meets fmt, with fmt's text TOLD by the authors' own Lean function (tested against real Go, not proved from fmt's source: count such statements apart). THE CARD IS WHAT COUNTS. Prove the row's statement (the work); the ties are given (YtelcielfhgijpaaDoorTie.lean); close each card by the builder's one call (the guide's Derived/Test/ToyasCard.lean, 'card_holds'). Laid BY PROGRAM, IN A SANDBOX (cutbox-door.mjs). By AI agents, Wed Nov 11 2026. No macro, syntax, notation, axiom, sorry.
-/
import Derived.Test.YtelcielfhgijpaaDoorRows
import GoSem.ClaimSeven
namespace Go.Proofs.YtelcielfhgijpaaDoor
namespace Rows

/-- THE TIED CARD OF 'signalboxlaw15.StreamsDue'. -/
def streamsDueCard : Claim7 := { stood := { row := streamsDueRow, standIns := [], harness := (true, "ffa77bd8177af2b896ff309bd7558b703a873f54c327d125cfe19ed0cac1c277"), looks := false }, kinds := [], alts := [], laidByText := true, laidKinds := [.data], laidTests := true, laidLooks := .later }
def StreamsDueCardSaid : Prop := Claim7.holds Tryd.pinned (.plain (OpenSpec.ofChange streamsDueSpec)) streamsDueCard

/-- THE TIED CARD OF 'signalboxlaw15.StreamsAgain'. -/
def streamsAgainCard : Claim7 := { stood := { row := streamsAgainRow, standIns := [], harness := (true, "ffa77bd8177af2b896ff309bd7558b703a873f54c327d125cfe19ed0cac1c277"), looks := false }, kinds := [], alts := [], laidByText := true, laidKinds := [.data], laidTests := true, laidLooks := .later }
def StreamsAgainCardSaid : Prop := Claim7.holds Tryd.pinned (.plain (OpenSpec.ofChange streamsAgainSpec)) streamsAgainCard

/-- THE TIED CARD OF 'signalboxlaw15.StreamsPlays'. -/
def streamsPlaysCard : Claim7 := { stood := { row := streamsPlaysRow, standIns := [], harness := (true, "ffa77bd8177af2b896ff309bd7558b703a873f54c327d125cfe19ed0cac1c277"), looks := false }, kinds := [], alts := [], laidByText := true, laidKinds := [.data], laidTests := true, laidLooks := .later }
def StreamsPlaysCardSaid : Prop := Claim7.holds Tryd.pinned (.plain (OpenSpec.ofChange streamsPlaysSpec)) streamsPlaysCard

/-- THE TIED CARD OF 'signalboxlaw15.StreamsFull'. -/
def streamsFullCard : Claim7 := { stood := { row := streamsFullRow, standIns := [], harness := (true, "ffa77bd8177af2b896ff309bd7558b703a873f54c327d125cfe19ed0cac1c277"), looks := false }, kinds := [], alts := [], laidByText := true, laidKinds := [.data], laidTests := true, laidLooks := .later }
def StreamsFullCardSaid : Prop := Claim7.holds Tryd.pinned (.plain (OpenSpec.ofChange streamsFullSpec)) streamsFullCard

/-- THE TIED CARD OF 'signalboxlaw15.StreamsSums'. -/
def streamsSumsCard : Claim7 := { stood := { row := streamsSumsRow, standIns := [], harness := (true, "ffa77bd8177af2b896ff309bd7558b703a873f54c327d125cfe19ed0cac1c277"), looks := false }, kinds := [], alts := [], laidByText := true, laidKinds := [.data], laidTests := true, laidLooks := .later }
def StreamsSumsCardSaid : Prop := Claim7.holds Tryd.pinned (.plain (OpenSpec.ofChange streamsSumsSpec)) streamsSumsCard

/-- THE SECOND FORM's CARD OF 'signalboxlaw15.StreamsDue'. -/
def streamsDueUptoCard : Claim7 := { stood := { row := streamsDueUptoRow, standIns := [], harness := (true, "ffa77bd8177af2b896ff309bd7558b703a873f54c327d125cfe19ed0cac1c277"), looks := false }, kinds := [], alts := [], laidByText := true, laidKinds := [.data], laidTests := true, laidLooks := .later }
def StreamsDueUptoCardSaid : Prop := Claim7.holds Tryd.pinned (.plain (OpenSpec.upto streamsDueSpec)) streamsDueUptoCard

/-- THE SECOND FORM's CARD OF 'signalboxlaw15.StreamsAgain'. -/
def streamsAgainUptoCard : Claim7 := { stood := { row := streamsAgainUptoRow, standIns := [], harness := (true, "ffa77bd8177af2b896ff309bd7558b703a873f54c327d125cfe19ed0cac1c277"), looks := false }, kinds := [], alts := [], laidByText := true, laidKinds := [.data], laidTests := true, laidLooks := .later }
def StreamsAgainUptoCardSaid : Prop := Claim7.holds Tryd.pinned (.plain (OpenSpec.upto streamsAgainSpec)) streamsAgainUptoCard

/-- THE SECOND FORM's CARD OF 'signalboxlaw15.StreamsPlays'. -/
def streamsPlaysUptoCard : Claim7 := { stood := { row := streamsPlaysUptoRow, standIns := [], harness := (true, "ffa77bd8177af2b896ff309bd7558b703a873f54c327d125cfe19ed0cac1c277"), looks := false }, kinds := [], alts := [], laidByText := true, laidKinds := [.data], laidTests := true, laidLooks := .later }
def StreamsPlaysUptoCardSaid : Prop := Claim7.holds Tryd.pinned (.plain (OpenSpec.upto streamsPlaysSpec)) streamsPlaysUptoCard

/-- THE SECOND FORM's CARD OF 'signalboxlaw15.StreamsFull'. -/
def streamsFullUptoCard : Claim7 := { stood := { row := streamsFullUptoRow, standIns := [], harness := (true, "ffa77bd8177af2b896ff309bd7558b703a873f54c327d125cfe19ed0cac1c277"), looks := false }, kinds := [], alts := [], laidByText := true, laidKinds := [.data], laidTests := true, laidLooks := .later }
def StreamsFullUptoCardSaid : Prop := Claim7.holds Tryd.pinned (.plain (OpenSpec.upto streamsFullSpec)) streamsFullUptoCard

/-- THE SECOND FORM's CARD OF 'signalboxlaw15.StreamsSums'. -/
def streamsSumsUptoCard : Claim7 := { stood := { row := streamsSumsUptoRow, standIns := [], harness := (true, "ffa77bd8177af2b896ff309bd7558b703a873f54c327d125cfe19ed0cac1c277"), looks := false }, kinds := [], alts := [], laidByText := true, laidKinds := [.data], laidTests := true, laidLooks := .later }
def StreamsSumsUptoCardSaid : Prop := Claim7.holds Tryd.pinned (.plain (OpenSpec.upto streamsSumsSpec)) streamsSumsUptoCard
end Rows
end Go.Proofs.YtelcielfhgijpaaDoor

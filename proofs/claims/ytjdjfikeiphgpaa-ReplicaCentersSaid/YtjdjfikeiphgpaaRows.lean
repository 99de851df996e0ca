/-
  No cell of these rows narrows 'for every input' (looked for: loops, veiled, ifaces, maps, wideKeys, modest, calm, conditions, laid).
  DERIVED. THE GIVEN ROWS OF THIS SEAT. 5 by the template 'for every input the law returns true; each argument reads behind the call as it read before'; 0 by the template 'total and deterministic' (their statements: YtjdjfikeiphgpaaTotals.lean).
  GIVEN WITH THE SEED: the statements are not yours to turn. If you find one false, say at which input.
  Laid BY PROGRAM, IN A SANDBOX (cutbox-rows.mjs): the forced cells as the released guide's own fill.sh prints them over the translation 7bcd14c5f2608026… (all of the seat's roots in one cut). By AI agents, Wed Nov 11 2026. No macro, syntax, notation, axiom, sorry.
-/
import Derived.Test.YtjdjfikeiphgpaaChecked
import GoSem.Claim
import GoSem.ClaimJoined
import GoSem.ClaimMapViews
import Derived.JoinedTies
import Derived.KernelRfl
namespace Go.Proofs.Ytjdjfikeiphgpaa
/- THE CELL 'sum', in the pinned program and in every row, IS THE sha256 OF THE DUMP (.gsa) THAT YtjdjfikeiphgpaaProg.lean LOADS. Nothing in Lean hashes anything: it is a label: what it is worth is what the hold of that sum in a sandbox is worth. -/
noncomputable def Try.pinned : Pinned := { name := "ytjdjfikeiphgpaa", sum := "7bcd14c5f26080260949079a1bf34ae638aeb4740ec27a7399b446c4a78d0412", checked := Try.checked }
namespace Rows
def none {H : Type} : Left H := { results := [], args := [] }

/-- 'signalboxlaw14.ReplicaSimple': WHATEVER THE INPUT: true; the input reads as it did. -/
def replicaSimpleSpec : ChangeSpec := { name := "replicaSimple", fn := fun _ => fun
  | [d1, d2, d3] => { results := [.lit (.bool true)], args := [d1, d2, d3] }
  | _ => none }
def replicaSimpleRow : OpenClaim := { program := "ytjdjfikeiphgpaa", sum := "7bcd14c5f26080260949079a1bf34ae638aeb4740ec27a7399b446c4a78d0412", func := "signalbox/signalboxlaw14.ReplicaSimple", spec := "replicaSimple", unfollowed := true, recurses := true, apart := false }
def ReplicaSimpleSaid : Prop := replicaSimpleRow.holds Try.pinned (OpenSpec.ofChange replicaSimpleSpec)

/-- ITS FALSE NEIGHBOUR: 'it returns false'. Refute it at one input. -/
def replicaSimpleWrong : ChangeSpec := { name := "replicaSimple", fn := fun _ => fun
  | [d1, d2, d3] => { results := [.lit (.bool false)], args := [d1, d2, d3] }
  | _ => none }
def ReplicaSimpleWrongFalsely : Prop := replicaSimpleRow.holds Try.pinned (OpenSpec.ofChange replicaSimpleWrong)

/-- 'signalboxlaw14.ReplicaNetworks': WHATEVER THE INPUT: true; the input reads as it did. -/
def replicaNetworksSpec : ChangeSpec := { name := "replicaNetworks", fn := fun _ => fun
  | [d1, d2, d3, d4] => { results := [.lit (.bool true)], args := [d1, d2, d3, d4] }
  | _ => none }
def replicaNetworksRow : OpenClaim := { program := "ytjdjfikeiphgpaa", sum := "7bcd14c5f26080260949079a1bf34ae638aeb4740ec27a7399b446c4a78d0412", func := "signalbox/signalboxlaw14.ReplicaNetworks", spec := "replicaNetworks", unfollowed := true, recurses := true, apart := false }
def ReplicaNetworksSaid : Prop := replicaNetworksRow.holds Try.pinned (OpenSpec.ofChange replicaNetworksSpec)

/-- ITS FALSE NEIGHBOUR: 'it returns false'. Refute it at one input. -/
def replicaNetworksWrong : ChangeSpec := { name := "replicaNetworks", fn := fun _ => fun
  | [d1, d2, d3, d4] => { results := [.lit (.bool false)], args := [d1, d2, d3, d4] }
  | _ => none }
def ReplicaNetworksWrongFalsely : Prop := replicaNetworksRow.holds Try.pinned (OpenSpec.ofChange replicaNetworksWrong)

/-- 'signalboxlaw14.ReplicaRacks': WHATEVER THE INPUT: true; the input reads as it did. -/
def replicaRacksSpec : ChangeSpec := { name := "replicaRacks", fn := fun _ => fun
  | [d1, d2, d3, d4] => { results := [.lit (.bool true)], args := [d1, d2, d3, d4] }
  | _ => none }
def replicaRacksRow : OpenClaim := { program := "ytjdjfikeiphgpaa", sum := "7bcd14c5f26080260949079a1bf34ae638aeb4740ec27a7399b446c4a78d0412", func := "signalbox/signalboxlaw14.ReplicaRacks", spec := "replicaRacks", unfollowed := true, recurses := true, apart := false }
def ReplicaRacksSaid : Prop := replicaRacksRow.holds Try.pinned (OpenSpec.ofChange replicaRacksSpec)

/-- ITS FALSE NEIGHBOUR: 'it returns false'. Refute it at one input. -/
def replicaRacksWrong : ChangeSpec := { name := "replicaRacks", fn := fun _ => fun
  | [d1, d2, d3, d4] => { results := [.lit (.bool false)], args := [d1, d2, d3, d4] }
  | _ => none }
def ReplicaRacksWrongFalsely : Prop := replicaRacksRow.holds Try.pinned (OpenSpec.ofChange replicaRacksWrong)

/-- 'signalboxlaw14.ReplicaMany': WHATEVER THE INPUT: true; the input reads as it did. -/
def replicaManySpec : ChangeSpec := { name := "replicaMany", fn := fun _ => fun
  | [d1, d2, d3, d4] => { results := [.lit (.bool true)], args := [d1, d2, d3, d4] }
  | _ => none }
def replicaManyRow : OpenClaim := { program := "ytjdjfikeiphgpaa", sum := "7bcd14c5f26080260949079a1bf34ae638aeb4740ec27a7399b446c4a78d0412", func := "signalbox/signalboxlaw14.ReplicaMany", spec := "replicaMany", unfollowed := true, recurses := true, apart := false }
def ReplicaManySaid : Prop := replicaManyRow.holds Try.pinned (OpenSpec.ofChange replicaManySpec)

/-- ITS FALSE NEIGHBOUR: 'it returns false'. Refute it at one input. -/
def replicaManyWrong : ChangeSpec := { name := "replicaMany", fn := fun _ => fun
  | [d1, d2, d3, d4] => { results := [.lit (.bool false)], args := [d1, d2, d3, d4] }
  | _ => none }
def ReplicaManyWrongFalsely : Prop := replicaManyRow.holds Try.pinned (OpenSpec.ofChange replicaManyWrong)

/-- 'signalboxlaw14.ReplicaCenters': WHATEVER THE INPUT: true; the input reads as it did. -/
def replicaCentersSpec : ChangeSpec := { name := "replicaCenters", fn := fun _ => fun
  | [d1, d2, d3, d4, d5] => { results := [.lit (.bool true)], args := [d1, d2, d3, d4, d5] }
  | _ => none }
def replicaCentersRow : OpenClaim := { program := "ytjdjfikeiphgpaa", sum := "7bcd14c5f26080260949079a1bf34ae638aeb4740ec27a7399b446c4a78d0412", func := "signalbox/signalboxlaw14.ReplicaCenters", spec := "replicaCenters", unfollowed := true, recurses := true, apart := false }
def ReplicaCentersSaid : Prop := replicaCentersRow.holds Try.pinned (OpenSpec.ofChange replicaCentersSpec)

/-- ITS FALSE NEIGHBOUR: 'it returns false'. Refute it at one input. -/
def replicaCentersWrong : ChangeSpec := { name := "replicaCenters", fn := fun _ => fun
  | [d1, d2, d3, d4, d5] => { results := [.lit (.bool false)], args := [d1, d2, d3, d4, d5] }
  | _ => none }
def ReplicaCentersWrongFalsely : Prop := replicaCentersRow.holds Try.pinned (OpenSpec.ofChange replicaCentersWrong)

/- THE SECOND FORM. 'bulk': how many values and letters a reading holds, each counted each time it is reached (what is shared counts as often as it is met; a slice's spare places count too). A statement '..UptoSaid' is the law's where the arguments, and the package variables that the reading takes, are together of bulk at most 1048576: NARROWER than '..Said'. Prove '..Said' where nothing that the law and all that it calls make is longer than what came in: it says more and counts as full. Else prove '..UptoSaid'. A law counts once. -/
mutual
def uptoBulk {H : Type} : DataW H → Nat
  | .lit (.string bytes) => bytes.length + 1
  | .lit _ => 1
  | .nil => 1
  | .ptr d => uptoBulk d + 1
  | .slice elems spare => uptoBulkAll elems + uptoBulkAll spare + 1
  | .agg parts => uptoBulkAll parts + 1
  | .iface _ d => uptoBulk d + 1
  | .map entries => uptoBulkEntries entries + 1
  | .held _ => 1
def uptoBulkAll {H : Type} : List (DataW H) → Nat
  | [] => 0
  | d :: r => uptoBulk d + uptoBulkAll r
def uptoBulkEntries {H : Type} : List (Lit × DataW H) → Nat
  | [] => 0
  | x :: r => uptoBulkEntry x + uptoBulkEntries r
def uptoBulkEntry {H : Type} : Lit × DataW H → Nat
  | (.string bytes, d) => bytes.length + uptoBulk d + 1
  | (_, d) => uptoBulk d + 1
 end
def uptoSmall : (H : Type) → List (DataW H) → Bool := fun _ ds => decide (uptoBulkAll ds ≤ 1048576)
def OpenSpec.upto (s : _root_.Go.ChangeSpec) : _root_.Go.OpenSpec := { _root_.Go.OpenSpec.ofChange s with cond := some uptoSmall }

/-- 'signalboxlaw14.ReplicaSimple', WHERE WHAT IT READS IS OF BULK AT MOST 1048576: true; the input reads as it did. -/
def replicaSimpleUptoRow : OpenClaim := { program := "ytjdjfikeiphgpaa", sum := "7bcd14c5f26080260949079a1bf34ae638aeb4740ec27a7399b446c4a78d0412", func := "signalbox/signalboxlaw14.ReplicaSimple", spec := "replicaSimple", unfollowed := true, recurses := true, apart := false, narrowed := true }
def ReplicaSimpleUptoSaid : Prop := replicaSimpleUptoRow.holds Try.pinned (OpenSpec.upto replicaSimpleSpec)

/-- 'signalboxlaw14.ReplicaNetworks', WHERE WHAT IT READS IS OF BULK AT MOST 1048576: true; the input reads as it did. -/
def replicaNetworksUptoRow : OpenClaim := { program := "ytjdjfikeiphgpaa", sum := "7bcd14c5f26080260949079a1bf34ae638aeb4740ec27a7399b446c4a78d0412", func := "signalbox/signalboxlaw14.ReplicaNetworks", spec := "replicaNetworks", unfollowed := true, recurses := true, apart := false, narrowed := true }
def ReplicaNetworksUptoSaid : Prop := replicaNetworksUptoRow.holds Try.pinned (OpenSpec.upto replicaNetworksSpec)

/-- 'signalboxlaw14.ReplicaRacks', WHERE WHAT IT READS IS OF BULK AT MOST 1048576: true; the input reads as it did. -/
def replicaRacksUptoRow : OpenClaim := { program := "ytjdjfikeiphgpaa", sum := "7bcd14c5f26080260949079a1bf34ae638aeb4740ec27a7399b446c4a78d0412", func := "signalbox/signalboxlaw14.ReplicaRacks", spec := "replicaRacks", unfollowed := true, recurses := true, apart := false, narrowed := true }
def ReplicaRacksUptoSaid : Prop := replicaRacksUptoRow.holds Try.pinned (OpenSpec.upto replicaRacksSpec)

/-- 'signalboxlaw14.ReplicaMany', WHERE WHAT IT READS IS OF BULK AT MOST 1048576: true; the input reads as it did. -/
def replicaManyUptoRow : OpenClaim := { program := "ytjdjfikeiphgpaa", sum := "7bcd14c5f26080260949079a1bf34ae638aeb4740ec27a7399b446c4a78d0412", func := "signalbox/signalboxlaw14.ReplicaMany", spec := "replicaMany", unfollowed := true, recurses := true, apart := false, narrowed := true }
def ReplicaManyUptoSaid : Prop := replicaManyUptoRow.holds Try.pinned (OpenSpec.upto replicaManySpec)

/-- 'signalboxlaw14.ReplicaCenters', WHERE WHAT IT READS IS OF BULK AT MOST 1048576: true; the input reads as it did. -/
def replicaCentersUptoRow : OpenClaim := { program := "ytjdjfikeiphgpaa", sum := "7bcd14c5f26080260949079a1bf34ae638aeb4740ec27a7399b446c4a78d0412", func := "signalbox/signalboxlaw14.ReplicaCenters", spec := "replicaCenters", unfollowed := true, recurses := true, apart := false, narrowed := true }
def ReplicaCentersUptoSaid : Prop := replicaCentersUptoRow.holds Try.pinned (OpenSpec.upto replicaCentersSpec)

end Rows
end Go.Proofs.Ytjdjfikeiphgpaa

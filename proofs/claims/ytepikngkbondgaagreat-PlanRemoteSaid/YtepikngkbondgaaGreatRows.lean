/-
  No cell of these rows narrows 'for every input' (looked for: loops, veiled, ifaces, maps, wideKeys, modest, calm, conditions, laid).
  DERIVED. THE GIVEN ROWS OF THIS SEAT. 5 by the template 'for every input the law returns true; each argument reads behind the call as it read before'; 0 by the template 'total and deterministic' (their statements: YtepikngkbondgaaGreatTotals.lean).
  GIVEN WITH THE SEED: the statements are not yours to turn. If you find one false, say at which input.
  Laid BY PROGRAM, IN A SANDBOX (cutbox-rows.mjs): the forced cells as the released guide's own fill.sh prints them over the translation 6973f5d88dec2c77… (all of the seat's roots in one cut). By AI agents, Wed Nov 11 2026. No macro, syntax, notation, axiom, sorry.
-/
import Derived.Test.YtepikngkbondgaaGreatChecked
import GoSem.Claim
import GoSem.ClaimJoined
import GoSem.ClaimMapViews
import Derived.JoinedTies
import Derived.KernelRfl
namespace Go.Proofs.YtepikngkbondgaaGreat
/- THE CELL 'sum', in the pinned program and in every row, IS THE sha256 OF THE DUMP (.gsa) THAT YtepikngkbondgaaGreatProg.lean LOADS. Nothing in Lean hashes anything: it is a label: what it is worth is what the hold of that sum in a sandbox is worth. -/
noncomputable def Tryz.pinned : Pinned := { name := "ytepikngkbondgaagreat", sum := "6973f5d88dec2c776430519baf50504990321fb962739333462cdc379206c1de", checked := Tryz.checked }
namespace Rows
def none {H : Type} : Left H := { results := [], args := [] }

/-- 'signalboxlaw19.PlanHosts': WHATEVER THE INPUT: true; the input reads as it did. -/
def planHostsSpec : ChangeSpec := { name := "planHosts", fn := fun _ => fun
  | [d1, d2, d3, d4, d5, d6] => { results := [.lit (.bool true)], args := [d1, d2, d3, d4, d5, d6] }
  | _ => none }
def planHostsRow : OpenClaim := { program := "ytepikngkbondgaagreat", sum := "6973f5d88dec2c776430519baf50504990321fb962739333462cdc379206c1de", func := "signalbox/signalboxlaw19.PlanHosts", spec := "planHosts", unfollowed := true, recurses := true, apart := false }
def PlanHostsSaid : Prop := planHostsRow.holds Tryz.pinned (OpenSpec.ofChange planHostsSpec)

/-- ITS FALSE NEIGHBOUR: 'it returns false'. Refute it at one input. -/
def planHostsWrong : ChangeSpec := { name := "planHosts", fn := fun _ => fun
  | [d1, d2, d3, d4, d5, d6] => { results := [.lit (.bool false)], args := [d1, d2, d3, d4, d5, d6] }
  | _ => none }
def PlanHostsWrongFalsely : Prop := planHostsRow.holds Tryz.pinned (OpenSpec.ofChange planHostsWrong)

/-- 'signalboxlaw19.PlanAll': WHATEVER THE INPUT: true; the input reads as it did. -/
def planAllSpec : ChangeSpec := { name := "planAll", fn := fun _ => fun
  | [d1, d2, d3, d4, d5] => { results := [.lit (.bool true)], args := [d1, d2, d3, d4, d5] }
  | _ => none }
def planAllRow : OpenClaim := { program := "ytepikngkbondgaagreat", sum := "6973f5d88dec2c776430519baf50504990321fb962739333462cdc379206c1de", func := "signalbox/signalboxlaw19.PlanAll", spec := "planAll", unfollowed := true, recurses := true, apart := false }
def PlanAllSaid : Prop := planAllRow.holds Tryz.pinned (OpenSpec.ofChange planAllSpec)

/-- ITS FALSE NEIGHBOUR: 'it returns false'. Refute it at one input. -/
def planAllWrong : ChangeSpec := { name := "planAll", fn := fun _ => fun
  | [d1, d2, d3, d4, d5] => { results := [.lit (.bool false)], args := [d1, d2, d3, d4, d5] }
  | _ => none }
def PlanAllWrongFalsely : Prop := planAllRow.holds Tryz.pinned (OpenSpec.ofChange planAllWrong)

/-- 'signalboxlaw19.PlanTurns': WHATEVER THE INPUT: true; the input reads as it did. -/
def planTurnsSpec : ChangeSpec := { name := "planTurns", fn := fun _ => fun
  | [d1, d2] => { results := [.lit (.bool true)], args := [d1, d2] }
  | _ => none }
def planTurnsRow : OpenClaim := { program := "ytepikngkbondgaagreat", sum := "6973f5d88dec2c776430519baf50504990321fb962739333462cdc379206c1de", func := "signalbox/signalboxlaw19.PlanTurns", spec := "planTurns", unfollowed := true, recurses := true, apart := false }
def PlanTurnsSaid : Prop := planTurnsRow.holds Tryz.pinned (OpenSpec.ofChange planTurnsSpec)

/-- ITS FALSE NEIGHBOUR: 'it returns false'. Refute it at one input. -/
def planTurnsWrong : ChangeSpec := { name := "planTurns", fn := fun _ => fun
  | [d1, d2] => { results := [.lit (.bool false)], args := [d1, d2] }
  | _ => none }
def PlanTurnsWrongFalsely : Prop := planTurnsRow.holds Tryz.pinned (OpenSpec.ofChange planTurnsWrong)

/-- 'signalboxlaw19.PlanRemote': WHATEVER THE INPUT: true; the input reads as it did. -/
def planRemoteSpec : ChangeSpec := { name := "planRemote", fn := fun _ => fun
  | [d1, d2, d3, d4] => { results := [.lit (.bool true)], args := [d1, d2, d3, d4] }
  | _ => none }
def planRemoteRow : OpenClaim := { program := "ytepikngkbondgaagreat", sum := "6973f5d88dec2c776430519baf50504990321fb962739333462cdc379206c1de", func := "signalbox/signalboxlaw19.PlanRemote", spec := "planRemote", unfollowed := true, recurses := true, apart := false }
def PlanRemoteSaid : Prop := planRemoteRow.holds Tryz.pinned (OpenSpec.ofChange planRemoteSpec)

/-- ITS FALSE NEIGHBOUR: 'it returns false'. Refute it at one input. -/
def planRemoteWrong : ChangeSpec := { name := "planRemote", fn := fun _ => fun
  | [d1, d2, d3, d4] => { results := [.lit (.bool false)], args := [d1, d2, d3, d4] }
  | _ => none }
def PlanRemoteWrongFalsely : Prop := planRemoteRow.holds Tryz.pinned (OpenSpec.ofChange planRemoteWrong)

/-- 'signalboxlaw19.PlanDown': WHATEVER THE INPUT: true; the input reads as it did. -/
def planDownSpec : ChangeSpec := { name := "planDown", fn := fun _ => fun
  | [d1, d2, d3, d4, d5, d6] => { results := [.lit (.bool true)], args := [d1, d2, d3, d4, d5, d6] }
  | _ => none }
def planDownRow : OpenClaim := { program := "ytepikngkbondgaagreat", sum := "6973f5d88dec2c776430519baf50504990321fb962739333462cdc379206c1de", func := "signalbox/signalboxlaw19.PlanDown", spec := "planDown", unfollowed := true, recurses := true, apart := false }
def PlanDownSaid : Prop := planDownRow.holds Tryz.pinned (OpenSpec.ofChange planDownSpec)

/-- ITS FALSE NEIGHBOUR: 'it returns false'. Refute it at one input. -/
def planDownWrong : ChangeSpec := { name := "planDown", fn := fun _ => fun
  | [d1, d2, d3, d4, d5, d6] => { results := [.lit (.bool false)], args := [d1, d2, d3, d4, d5, d6] }
  | _ => none }
def PlanDownWrongFalsely : Prop := planDownRow.holds Tryz.pinned (OpenSpec.ofChange planDownWrong)

/- THE SECOND FORM. 'bulk': how many values and letters a reading holds, each counted each time it is reached (what is shared counts as often as it is met; a slice's spare places count too). A statement '..UptoSaid' is the law's where the arguments, and the package variables that the reading takes, are together of bulk at most 1048576: NARROWER than '..Said'. Prove '..Said' where nothing that the law and all that it calls make is longer than what came in: it says more and counts as full. Else prove '..UptoSaid'. A law counts once. -/
mutual
def uptoBulk {H : Type} : DataW H → Nat
  | .lit (.string bytes) => bytes.length + 1
  | .lit _ => 1
  | .nil => 1
  | .ptr d => uptoBulk d + 1
  | .slice elems spare => uptoBulkAll elems + uptoBulkAll spare + 1
  | .agg parts => uptoBulkAll parts + 1
  | .iface _ d => uptoBulk d + 1
  | .map entries => uptoBulkEntries entries + 1
  | .held _ => 1
def uptoBulkAll {H : Type} : List (DataW H) → Nat
  | [] => 0
  | d :: r => uptoBulk d + uptoBulkAll r
def uptoBulkEntries {H : Type} : List (Lit × DataW H) → Nat
  | [] => 0
  | x :: r => uptoBulkEntry x + uptoBulkEntries r
def uptoBulkEntry {H : Type} : Lit × DataW H → Nat
  | (.string bytes, d) => bytes.length + uptoBulk d + 1
  | (_, d) => uptoBulk d + 1
 end
def uptoSmall : (H : Type) → List (DataW H) → Bool := fun _ ds => decide (uptoBulkAll ds ≤ 1048576)
def OpenSpec.upto (s : _root_.Go.ChangeSpec) : _root_.Go.OpenSpec := { _root_.Go.OpenSpec.ofChange s with cond := some uptoSmall }

/-- 'signalboxlaw19.PlanHosts', WHERE WHAT IT READS IS OF BULK AT MOST 1048576: true; the input reads as it did. -/
def planHostsUptoRow : OpenClaim := { program := "ytepikngkbondgaagreat", sum := "6973f5d88dec2c776430519baf50504990321fb962739333462cdc379206c1de", func := "signalbox/signalboxlaw19.PlanHosts", spec := "planHosts", unfollowed := true, recurses := true, apart := false, narrowed := true }
def PlanHostsUptoSaid : Prop := planHostsUptoRow.holds Tryz.pinned (OpenSpec.upto planHostsSpec)

/-- 'signalboxlaw19.PlanAll', WHERE WHAT IT READS IS OF BULK AT MOST 1048576: true; the input reads as it did. -/
def planAllUptoRow : OpenClaim := { program := "ytepikngkbondgaagreat", sum := "6973f5d88dec2c776430519baf50504990321fb962739333462cdc379206c1de", func := "signalbox/signalboxlaw19.PlanAll", spec := "planAll", unfollowed := true, recurses := true, apart := false, narrowed := true }
def PlanAllUptoSaid : Prop := planAllUptoRow.holds Tryz.pinned (OpenSpec.upto planAllSpec)

/-- 'signalboxlaw19.PlanTurns', WHERE WHAT IT READS IS OF BULK AT MOST 1048576: true; the input reads as it did. -/
def planTurnsUptoRow : OpenClaim := { program := "ytepikngkbondgaagreat", sum := "6973f5d88dec2c776430519baf50504990321fb962739333462cdc379206c1de", func := "signalbox/signalboxlaw19.PlanTurns", spec := "planTurns", unfollowed := true, recurses := true, apart := false, narrowed := true }
def PlanTurnsUptoSaid : Prop := planTurnsUptoRow.holds Tryz.pinned (OpenSpec.upto planTurnsSpec)

/-- 'signalboxlaw19.PlanRemote', WHERE WHAT IT READS IS OF BULK AT MOST 1048576: true; the input reads as it did. -/
def planRemoteUptoRow : OpenClaim := { program := "ytepikngkbondgaagreat", sum := "6973f5d88dec2c776430519baf50504990321fb962739333462cdc379206c1de", func := "signalbox/signalboxlaw19.PlanRemote", spec := "planRemote", unfollowed := true, recurses := true, apart := false, narrowed := true }
def PlanRemoteUptoSaid : Prop := planRemoteUptoRow.holds Tryz.pinned (OpenSpec.upto planRemoteSpec)

/-- 'signalboxlaw19.PlanDown', WHERE WHAT IT READS IS OF BULK AT MOST 1048576: true; the input reads as it did. -/
def planDownUptoRow : OpenClaim := { program := "ytepikngkbondgaagreat", sum := "6973f5d88dec2c776430519baf50504990321fb962739333462cdc379206c1de", func := "signalbox/signalboxlaw19.PlanDown", spec := "planDown", unfollowed := true, recurses := true, apart := false, narrowed := true }
def PlanDownUptoSaid : Prop := planDownUptoRow.holds Tryz.pinned (OpenSpec.upto planDownSpec)

end Rows
end Go.Proofs.YtepikngkbondgaaGreat

/-
  No cell of these rows narrows 'for every input' (looked for: loops, veiled, ifaces, maps, wideKeys, modest, calm, conditions, laid).
  DERIVED. THE GIVEN ROWS OF THIS SEAT. 4 by the template 'for every input the law returns true; each argument reads behind the call as it read before'; 0 by the template 'total and deterministic' (their statements: YtjkmgpmknadhjaaTotals.lean).
  GIVEN WITH THE SEED: the statements are not yours to turn. If you find one false, say at which input.
  Laid BY PROGRAM, IN A SANDBOX (cutbox-rows.mjs): the forced cells as the released guide's own fill.sh prints them over the translation 995f8c7b87990cf2… (all of the seat's roots in one cut). By AI agents, Wed Nov 11 2026. No macro, syntax, notation, axiom, sorry.
-/
import Derived.Test.YtjkmgpmknadhjaaChecked
import GoSem.Claim
import GoSem.ClaimJoined
import GoSem.ClaimMapViews
import Derived.JoinedTies
import Derived.KernelRfl
namespace Go.Proofs.Ytjkmgpmknadhjaa
/- THE CELL 'sum', in the pinned program and in every row, IS THE sha256 OF THE DUMP (.gsa) THAT YtjkmgpmknadhjaaProg.lean LOADS. Nothing in Lean hashes anything: it is a label: what it is worth is what the hold of that sum in a sandbox is worth. -/
noncomputable def Try.pinned : Pinned := { name := "ytjkmgpmknadhjaa", sum := "995f8c7b87990cf2e8eae7fc4e6f863f16e50e66ee3bbc491da6552076180cfe", checked := Try.checked }
namespace Rows
def none {H : Type} : Left H := { results := [], args := [] }

/-- 'signalboxlaw18.HostsFar': WHATEVER THE INPUT: true; the input reads as it did. -/
def hostsFarSpec : ChangeSpec := { name := "hostsFar", fn := fun _ => fun
  | [d1, d2, d3] => { results := [.lit (.bool true)], args := [d1, d2, d3] }
  | _ => none }
def hostsFarRow : OpenClaim := { program := "ytjkmgpmknadhjaa", sum := "995f8c7b87990cf2e8eae7fc4e6f863f16e50e66ee3bbc491da6552076180cfe", func := "signalbox/signalboxlaw18.HostsFar", spec := "hostsFar", unfollowed := true, recurses := true, apart := false }
def HostsFarSaid : Prop := hostsFarRow.holds Try.pinned (OpenSpec.ofChange hostsFarSpec)

/-- ITS FALSE NEIGHBOUR: 'it returns false'. Refute it at one input. -/
def hostsFarWrong : ChangeSpec := { name := "hostsFar", fn := fun _ => fun
  | [d1, d2, d3] => { results := [.lit (.bool false)], args := [d1, d2, d3] }
  | _ => none }
def HostsFarWrongFalsely : Prop := hostsFarRow.holds Try.pinned (OpenSpec.ofChange hostsFarWrong)

/-- 'signalboxlaw18.HostsMarks': WHATEVER THE INPUT: true; the input reads as it did. -/
def hostsMarksSpec : ChangeSpec := { name := "hostsMarks", fn := fun _ => fun
  | [d1, d2, d3, d4] => { results := [.lit (.bool true)], args := [d1, d2, d3, d4] }
  | _ => none }
def hostsMarksRow : OpenClaim := { program := "ytjkmgpmknadhjaa", sum := "995f8c7b87990cf2e8eae7fc4e6f863f16e50e66ee3bbc491da6552076180cfe", func := "signalbox/signalboxlaw18.HostsMarks", spec := "hostsMarks", unfollowed := true, recurses := true, apart := false }
def HostsMarksSaid : Prop := hostsMarksRow.holds Try.pinned (OpenSpec.ofChange hostsMarksSpec)

/-- ITS FALSE NEIGHBOUR: 'it returns false'. Refute it at one input. -/
def hostsMarksWrong : ChangeSpec := { name := "hostsMarks", fn := fun _ => fun
  | [d1, d2, d3, d4] => { results := [.lit (.bool false)], args := [d1, d2, d3, d4] }
  | _ => none }
def HostsMarksWrongFalsely : Prop := hostsMarksRow.holds Try.pinned (OpenSpec.ofChange hostsMarksWrong)

/-- 'signalboxlaw18.HostsAgain': WHATEVER THE INPUT: true; the input reads as it did. -/
def hostsAgainSpec : ChangeSpec := { name := "hostsAgain", fn := fun _ => fun
  | [d1, d2] => { results := [.lit (.bool true)], args := [d1, d2] }
  | _ => none }
def hostsAgainRow : OpenClaim := { program := "ytjkmgpmknadhjaa", sum := "995f8c7b87990cf2e8eae7fc4e6f863f16e50e66ee3bbc491da6552076180cfe", func := "signalbox/signalboxlaw18.HostsAgain", spec := "hostsAgain", unfollowed := true, recurses := true, apart := false }
def HostsAgainSaid : Prop := hostsAgainRow.holds Try.pinned (OpenSpec.ofChange hostsAgainSpec)

/-- ITS FALSE NEIGHBOUR: 'it returns false'. Refute it at one input. -/
def hostsAgainWrong : ChangeSpec := { name := "hostsAgain", fn := fun _ => fun
  | [d1, d2] => { results := [.lit (.bool false)], args := [d1, d2] }
  | _ => none }
def HostsAgainWrongFalsely : Prop := hostsAgainRow.holds Try.pinned (OpenSpec.ofChange hostsAgainWrong)

/-- 'signalboxlaw18.HostsRings': WHATEVER THE INPUT: true; the input reads as it did. -/
def hostsRingsSpec : ChangeSpec := { name := "hostsRings", fn := fun _ => fun
  | [d] => { results := [.lit (.bool true)], args := [d] }
  | _ => none }
def hostsRingsRow : OpenClaim := { program := "ytjkmgpmknadhjaa", sum := "995f8c7b87990cf2e8eae7fc4e6f863f16e50e66ee3bbc491da6552076180cfe", func := "signalbox/signalboxlaw18.HostsRings", spec := "hostsRings", unfollowed := true, recurses := true, apart := false }
def HostsRingsSaid : Prop := hostsRingsRow.holds Try.pinned (OpenSpec.ofChange hostsRingsSpec)

/-- ITS FALSE NEIGHBOUR: 'it returns false'. Refute it at one input. -/
def hostsRingsWrong : ChangeSpec := { name := "hostsRings", fn := fun _ => fun
  | [d] => { results := [.lit (.bool false)], args := [d] }
  | _ => none }
def HostsRingsWrongFalsely : Prop := hostsRingsRow.holds Try.pinned (OpenSpec.ofChange hostsRingsWrong)

/- THE SECOND FORM. 'bulk': how many values and letters a reading holds, each counted each time it is reached (what is shared counts as often as it is met; a slice's spare places count too). A statement '..UptoSaid' is the law's where the arguments, and the package variables that the reading takes, are together of bulk at most 1048576: NARROWER than '..Said'. Prove '..Said' where nothing that the law and all that it calls make is longer than what came in: it says more and counts as full. Else prove '..UptoSaid'. A law counts once. -/
mutual
def uptoBulk {H : Type} : DataW H → Nat
  | .lit (.string bytes) => bytes.length + 1
  | .lit _ => 1
  | .nil => 1
  | .ptr d => uptoBulk d + 1
  | .slice elems spare => uptoBulkAll elems + uptoBulkAll spare + 1
  | .agg parts => uptoBulkAll parts + 1
  | .iface _ d => uptoBulk d + 1
  | .map entries => uptoBulkEntries entries + 1
  | .held _ => 1
def uptoBulkAll {H : Type} : List (DataW H) → Nat
  | [] => 0
  | d :: r => uptoBulk d + uptoBulkAll r
def uptoBulkEntries {H : Type} : List (Lit × DataW H) → Nat
  | [] => 0
  | x :: r => uptoBulkEntry x + uptoBulkEntries r
def uptoBulkEntry {H : Type} : Lit × DataW H → Nat
  | (.string bytes, d) => bytes.length + uptoBulk d + 1
  | (_, d) => uptoBulk d + 1
 end
def uptoSmall : (H : Type) → List (DataW H) → Bool := fun _ ds => decide (uptoBulkAll ds ≤ 1048576)
def OpenSpec.upto (s : _root_.Go.ChangeSpec) : _root_.Go.OpenSpec := { _root_.Go.OpenSpec.ofChange s with cond := some uptoSmall }

/-- 'signalboxlaw18.HostsFar', WHERE WHAT IT READS IS OF BULK AT MOST 1048576: true; the input reads as it did. -/
def hostsFarUptoRow : OpenClaim := { program := "ytjkmgpmknadhjaa", sum := "995f8c7b87990cf2e8eae7fc4e6f863f16e50e66ee3bbc491da6552076180cfe", func := "signalbox/signalboxlaw18.HostsFar", spec := "hostsFar", unfollowed := true, recurses := true, apart := false, narrowed := true }
def HostsFarUptoSaid : Prop := hostsFarUptoRow.holds Try.pinned (OpenSpec.upto hostsFarSpec)

/-- 'signalboxlaw18.HostsMarks', WHERE WHAT IT READS IS OF BULK AT MOST 1048576: true; the input reads as it did. -/
def hostsMarksUptoRow : OpenClaim := { program := "ytjkmgpmknadhjaa", sum := "995f8c7b87990cf2e8eae7fc4e6f863f16e50e66ee3bbc491da6552076180cfe", func := "signalbox/signalboxlaw18.HostsMarks", spec := "hostsMarks", unfollowed := true, recurses := true, apart := false, narrowed := true }
def HostsMarksUptoSaid : Prop := hostsMarksUptoRow.holds Try.pinned (OpenSpec.upto hostsMarksSpec)

/-- 'signalboxlaw18.HostsAgain', WHERE WHAT IT READS IS OF BULK AT MOST 1048576: true; the input reads as it did. -/
def hostsAgainUptoRow : OpenClaim := { program := "ytjkmgpmknadhjaa", sum := "995f8c7b87990cf2e8eae7fc4e6f863f16e50e66ee3bbc491da6552076180cfe", func := "signalbox/signalboxlaw18.HostsAgain", spec := "hostsAgain", unfollowed := true, recurses := true, apart := false, narrowed := true }
def HostsAgainUptoSaid : Prop := hostsAgainUptoRow.holds Try.pinned (OpenSpec.upto hostsAgainSpec)

/-- 'signalboxlaw18.HostsRings', WHERE WHAT IT READS IS OF BULK AT MOST 1048576: true; the input reads as it did. -/
def hostsRingsUptoRow : OpenClaim := { program := "ytjkmgpmknadhjaa", sum := "995f8c7b87990cf2e8eae7fc4e6f863f16e50e66ee3bbc491da6552076180cfe", func := "signalbox/signalboxlaw18.HostsRings", spec := "hostsRings", unfollowed := true, recurses := true, apart := false, narrowed := true }
def HostsRingsUptoSaid : Prop := hostsRingsUptoRow.holds Try.pinned (OpenSpec.upto hostsRingsSpec)

end Rows
end Go.Proofs.Ytjkmgpmknadhjaa

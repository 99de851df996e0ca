/-
  No cell of these rows narrows 'for every input' (looked for: loops, veiled, ifaces, maps, wideKeys, modest, calm, conditions, laid).
  DERIVED. THE GIVEN ROWS OF THIS SEAT. 5 by the template 'for every input the law returns true; each argument reads behind the call as it read before'; 0 by the template 'total and deterministic' (their statements: YtooedjedncokpaaTotals.lean).
  GIVEN WITH THE SEED: the statements are not yours to turn. If you find one false, say at which input.
  Laid BY PROGRAM, IN A SANDBOX (cutbox-rows.mjs): the forced cells as the released guide's own fill.sh prints them over the translation fb4885ab41e76bd1… (all of the seat's roots in one cut). By AI agents, Wed Nov 11 2026. No macro, syntax, notation, axiom, sorry.
-/
import Derived.Test.YtooedjedncokpaaChecked
import GoSem.Claim
import GoSem.ClaimJoined
import GoSem.ClaimMapViews
import Derived.JoinedTies
import Derived.KernelRfl
namespace Go.Proofs.Ytooedjedncokpaa
/- THE CELL 'sum', in the pinned program and in every row, IS THE sha256 OF THE DUMP (.gsa) THAT YtooedjedncokpaaProg.lean LOADS. Nothing in Lean hashes anything: it is a label: what it is worth is what the hold of that sum in a sandbox is worth. -/
noncomputable def Try.pinned : Pinned := { name := "ytooedjedncokpaa", sum := "fb4885ab41e76bd13cc269fb54ae40ffa354d2e6efb2fa1b4f9545e89d501fdd", checked := Try.checked }
namespace Rows
def none {H : Type} : Left H := { results := [], args := [] }

/-- 'signalboxlaw24.ExecutorOrder': WHATEVER THE INPUT: true; the input reads as it did. -/
def executorOrderSpec : ChangeSpec := { name := "executorOrder", fn := fun _ => fun
  | [d1, d2, d3, d4] => { results := [.lit (.bool true)], args := [d1, d2, d3, d4] }
  | _ => none }
def executorOrderRow : OpenClaim := { program := "ytooedjedncokpaa", sum := "fb4885ab41e76bd13cc269fb54ae40ffa354d2e6efb2fa1b4f9545e89d501fdd", func := "signalbox/signalboxlaw24.ExecutorOrder", spec := "executorOrder", apart := false }
def ExecutorOrderSaid : Prop := executorOrderRow.holds Try.pinned (OpenSpec.ofChange executorOrderSpec)

/-- ITS FALSE NEIGHBOUR: 'it returns false'. Refute it at one input. -/
def executorOrderWrong : ChangeSpec := { name := "executorOrder", fn := fun _ => fun
  | [d1, d2, d3, d4] => { results := [.lit (.bool false)], args := [d1, d2, d3, d4] }
  | _ => none }
def ExecutorOrderWrongFalsely : Prop := executorOrderRow.holds Try.pinned (OpenSpec.ofChange executorOrderWrong)

/-- 'signalboxlaw24.ExecutorFails': WHATEVER THE INPUT: true; the input reads as it did. -/
def executorFailsSpec : ChangeSpec := { name := "executorFails", fn := fun _ => fun
  | [d1, d2] => { results := [.lit (.bool true)], args := [d1, d2] }
  | _ => none }
def executorFailsRow : OpenClaim := { program := "ytooedjedncokpaa", sum := "fb4885ab41e76bd13cc269fb54ae40ffa354d2e6efb2fa1b4f9545e89d501fdd", func := "signalbox/signalboxlaw24.ExecutorFails", spec := "executorFails", apart := false }
def ExecutorFailsSaid : Prop := executorFailsRow.holds Try.pinned (OpenSpec.ofChange executorFailsSpec)

/-- ITS FALSE NEIGHBOUR: 'it returns false'. Refute it at one input. -/
def executorFailsWrong : ChangeSpec := { name := "executorFails", fn := fun _ => fun
  | [d1, d2] => { results := [.lit (.bool false)], args := [d1, d2] }
  | _ => none }
def ExecutorFailsWrongFalsely : Prop := executorFailsRow.holds Try.pinned (OpenSpec.ofChange executorFailsWrong)

/-- 'signalboxlaw24.ExecutorExtra': WHATEVER THE INPUT: true; the input reads as it did. -/
def executorExtraSpec : ChangeSpec := { name := "executorExtra", fn := fun _ => fun
  | [d1, d2, d3, d4] => { results := [.lit (.bool true)], args := [d1, d2, d3, d4] }
  | _ => none }
def executorExtraRow : OpenClaim := { program := "ytooedjedncokpaa", sum := "fb4885ab41e76bd13cc269fb54ae40ffa354d2e6efb2fa1b4f9545e89d501fdd", func := "signalbox/signalboxlaw24.ExecutorExtra", spec := "executorExtra", unfollowed := true, recurses := true, apart := false }
def ExecutorExtraSaid : Prop := executorExtraRow.holds Try.pinned (OpenSpec.ofChange executorExtraSpec)

/-- ITS FALSE NEIGHBOUR: 'it returns false'. Refute it at one input. -/
def executorExtraWrong : ChangeSpec := { name := "executorExtra", fn := fun _ => fun
  | [d1, d2, d3, d4] => { results := [.lit (.bool false)], args := [d1, d2, d3, d4] }
  | _ => none }
def ExecutorExtraWrongFalsely : Prop := executorExtraRow.holds Try.pinned (OpenSpec.ofChange executorExtraWrong)

/-- 'signalboxlaw24.ExecutorPlays': WHATEVER THE INPUT: true; the input reads as it did. -/
def executorPlaysSpec : ChangeSpec := { name := "executorPlays", fn := fun _ => fun
  | [d1, d2, d3, d4, d5, d6] => { results := [.lit (.bool true)], args := [d1, d2, d3, d4, d5, d6] }
  | _ => none }
def executorPlaysRow : OpenClaim := { program := "ytooedjedncokpaa", sum := "fb4885ab41e76bd13cc269fb54ae40ffa354d2e6efb2fa1b4f9545e89d501fdd", func := "signalbox/signalboxlaw24.ExecutorPlays", spec := "executorPlays", unfollowed := true, recurses := true, apart := false }
def ExecutorPlaysSaid : Prop := executorPlaysRow.holds Try.pinned (OpenSpec.ofChange executorPlaysSpec)

/-- ITS FALSE NEIGHBOUR: 'it returns false'. Refute it at one input. -/
def executorPlaysWrong : ChangeSpec := { name := "executorPlays", fn := fun _ => fun
  | [d1, d2, d3, d4, d5, d6] => { results := [.lit (.bool false)], args := [d1, d2, d3, d4, d5, d6] }
  | _ => none }
def ExecutorPlaysWrongFalsely : Prop := executorPlaysRow.holds Try.pinned (OpenSpec.ofChange executorPlaysWrong)

/-- 'signalboxlaw24.ExecutorNone': WHATEVER THE INPUT: true; the input reads as it did. -/
def executorNoneSpec : ChangeSpec := { name := "executorNone", fn := fun _ => fun
  | [d1, d2, d3] => { results := [.lit (.bool true)], args := [d1, d2, d3] }
  | _ => none }
def executorNoneRow : OpenClaim := { program := "ytooedjedncokpaa", sum := "fb4885ab41e76bd13cc269fb54ae40ffa354d2e6efb2fa1b4f9545e89d501fdd", func := "signalbox/signalboxlaw24.ExecutorNone", spec := "executorNone", unfollowed := true, recurses := true, apart := false }
def ExecutorNoneSaid : Prop := executorNoneRow.holds Try.pinned (OpenSpec.ofChange executorNoneSpec)

/-- ITS FALSE NEIGHBOUR: 'it returns false'. Refute it at one input. -/
def executorNoneWrong : ChangeSpec := { name := "executorNone", fn := fun _ => fun
  | [d1, d2, d3] => { results := [.lit (.bool false)], args := [d1, d2, d3] }
  | _ => none }
def ExecutorNoneWrongFalsely : Prop := executorNoneRow.holds Try.pinned (OpenSpec.ofChange executorNoneWrong)

/- THE SECOND FORM. 'bulk': how many values and letters a reading holds, each counted each time it is reached (what is shared counts as often as it is met; a slice's spare places count too). A statement '..UptoSaid' is the law's where the arguments, and the package variables that the reading takes, are together of bulk at most 1048576: NARROWER than '..Said'. Prove '..Said' where nothing that the law and all that it calls make is longer than what came in: it says more and counts as full. Else prove '..UptoSaid'. A law counts once. -/
mutual
def uptoBulk {H : Type} : DataW H → Nat
  | .lit (.string bytes) => bytes.length + 1
  | .lit _ => 1
  | .nil => 1
  | .ptr d => uptoBulk d + 1
  | .slice elems spare => uptoBulkAll elems + uptoBulkAll spare + 1
  | .agg parts => uptoBulkAll parts + 1
  | .iface _ d => uptoBulk d + 1
  | .map entries => uptoBulkEntries entries + 1
  | .held _ => 1
def uptoBulkAll {H : Type} : List (DataW H) → Nat
  | [] => 0
  | d :: r => uptoBulk d + uptoBulkAll r
def uptoBulkEntries {H : Type} : List (Lit × DataW H) → Nat
  | [] => 0
  | x :: r => uptoBulkEntry x + uptoBulkEntries r
def uptoBulkEntry {H : Type} : Lit × DataW H → Nat
  | (.string bytes, d) => bytes.length + uptoBulk d + 1
  | (_, d) => uptoBulk d + 1
 end
def uptoSmall : (H : Type) → List (DataW H) → Bool := fun _ ds => decide (uptoBulkAll ds ≤ 1048576)
def OpenSpec.upto (s : _root_.Go.ChangeSpec) : _root_.Go.OpenSpec := { _root_.Go.OpenSpec.ofChange s with cond := some uptoSmall }

/-- 'signalboxlaw24.ExecutorOrder', WHERE WHAT IT READS IS OF BULK AT MOST 1048576: true; the input reads as it did. -/
def executorOrderUptoRow : OpenClaim := { program := "ytooedjedncokpaa", sum := "fb4885ab41e76bd13cc269fb54ae40ffa354d2e6efb2fa1b4f9545e89d501fdd", func := "signalbox/signalboxlaw24.ExecutorOrder", spec := "executorOrder", apart := false, narrowed := true }
def ExecutorOrderUptoSaid : Prop := executorOrderUptoRow.holds Try.pinned (OpenSpec.upto executorOrderSpec)

/-- 'signalboxlaw24.ExecutorFails', WHERE WHAT IT READS IS OF BULK AT MOST 1048576: true; the input reads as it did. -/
def executorFailsUptoRow : OpenClaim := { program := "ytooedjedncokpaa", sum := "fb4885ab41e76bd13cc269fb54ae40ffa354d2e6efb2fa1b4f9545e89d501fdd", func := "signalbox/signalboxlaw24.ExecutorFails", spec := "executorFails", apart := false, narrowed := true }
def ExecutorFailsUptoSaid : Prop := executorFailsUptoRow.holds Try.pinned (OpenSpec.upto executorFailsSpec)

/-- 'signalboxlaw24.ExecutorExtra', WHERE WHAT IT READS IS OF BULK AT MOST 1048576: true; the input reads as it did. -/
def executorExtraUptoRow : OpenClaim := { program := "ytooedjedncokpaa", sum := "fb4885ab41e76bd13cc269fb54ae40ffa354d2e6efb2fa1b4f9545e89d501fdd", func := "signalbox/signalboxlaw24.ExecutorExtra", spec := "executorExtra", unfollowed := true, recurses := true, apart := false, narrowed := true }
def ExecutorExtraUptoSaid : Prop := executorExtraUptoRow.holds Try.pinned (OpenSpec.upto executorExtraSpec)

/-- 'signalboxlaw24.ExecutorPlays', WHERE WHAT IT READS IS OF BULK AT MOST 1048576: true; the input reads as it did. -/
def executorPlaysUptoRow : OpenClaim := { program := "ytooedjedncokpaa", sum := "fb4885ab41e76bd13cc269fb54ae40ffa354d2e6efb2fa1b4f9545e89d501fdd", func := "signalbox/signalboxlaw24.ExecutorPlays", spec := "executorPlays", unfollowed := true, recurses := true, apart := false, narrowed := true }
def ExecutorPlaysUptoSaid : Prop := executorPlaysUptoRow.holds Try.pinned (OpenSpec.upto executorPlaysSpec)

/-- 'signalboxlaw24.ExecutorNone', WHERE WHAT IT READS IS OF BULK AT MOST 1048576: true; the input reads as it did. -/
def executorNoneUptoRow : OpenClaim := { program := "ytooedjedncokpaa", sum := "fb4885ab41e76bd13cc269fb54ae40ffa354d2e6efb2fa1b4f9545e89d501fdd", func := "signalbox/signalboxlaw24.ExecutorNone", spec := "executorNone", unfollowed := true, recurses := true, apart := false, narrowed := true }
def ExecutorNoneUptoSaid : Prop := executorNoneUptoRow.holds Try.pinned (OpenSpec.upto executorNoneSpec)

end Rows
end Go.Proofs.Ytooedjedncokpaa

/- Bytes of a number, plainly. No program is named. -/
import Derived.WalkKit
namespace Go.Proofs.YtfnjoceolcdeoaaGreatDoor
set_option linter.unusedVariables false

def putB (x n : Nat) : List UInt8 := (List.range n).map fun j => UInt8.ofNat (x / 256 ^ (n - 1 - j))
theorem putB_snoc (x n d : Nat) (h : d < n) : (putB x n).take (d + 1) = (putB x n).take d ++ [UInt8.ofNat (x / 256 ^ (n - 1 - d))] := by
  have : (putB x n)[d]? = some (UInt8.ofNat (x / 256 ^ (n - 1 - d))) := by
    unfold putB
    rw [List.getElem?_map, List.getElem?_range h]; rfl
  rw [List.take_add_one, this]; rfl
theorem putB_len (x n : Nat) : (putB x n).length = n := by unfold putB; simp
theorem putB_at (x n i : Nat) (h : i < n) : (putB x n)[n - 1 - i]? = some (UInt8.ofNat (x / 256 ^ i)) := by
  unfold putB
  rw [List.getElem?_map, List.getElem?_range (by omega)]
  show some (UInt8.ofNat (x / 256 ^ (n - 1 - (n - 1 - i)))) = _
  rw [show n - 1 - (n - 1 - i) = i by omega]
end Go.Proofs.YtfnjoceolcdeoaaGreatDoor

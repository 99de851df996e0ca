/- A pool's events of what comes of nothing. -/
import Derived.Test.YtfnjoceolcdeoaaGreatDoorMg30
import Derived.Deep.LoopGhost
namespace Go.Proofs.YtfnjoceolcdeoaaGreatDoor
set_option linter.unusedVariables false
open Go.RowKit

set_option maxHeartbeats 2000000 in
set_option maxRecDepth 100000 in
theorem poEvents_none (p : Nat) (id : Int) (now draw : Int) (w : World) :
    Calls Tryz.prog 22 #[.pointer (some ⟨p, 0, none⟩), .int .i64 id, outV none 0 0 (.slice none 0 0) (.slice none 0 0) false 0 (.slice none 0 0), .int .u64 now, .int .u64 draw] w fun e w' => e = .returned (.slice none 0 0) ∧ Kept noBlock w w' := by
  unfold outV
  have HB0 := Lib.hid (Blk.new w 84 #[.slice none 0 0, .slice none 0 0, .slice none 0 0, .bool false, .int .i64 0, .slice none 0 0])
  have HK0 := Lib.hid ((Kept.refl noBlock w).alloc (.cells #[.slice none 0 0, .slice none 0 0, .slice none 0 0, .bool false, .int .i64 0, .slice none 0 0] 84))
  go_enter Tryz.func22, Tryz.ntmps22
  go_wp2_with fail
  generalize hw1 : w.alloc (.cells #[.slice none 0 0, .slice none 0 0, .slice none 0 0, .bool false, .int .i64 0, .slice none 0 0] 84) = w1 at *
  clear hw1
  obtain ⟨z0, z1, z2, z3, z4, z5⟩ := cells6o HB0.out
  go_loopg [11, 30] 0 (fun j v11 v30 wr => v11 = .slice none 0 0 ∧ v30 = .int .i64 0 ∧ wr = w1)
  case atStart => exact ⟨rfl, rfl, rfl⟩
  case round =>
    obtain ⟨rfl, rfl, hwr⟩ := hrel
    rw [hwr]
    clear hwr
    go_wp2_with fail
    go_loopg [11, 44] 0 (fun j v11 v44 wx => v11 = .slice none 0 0 ∧ v44 = .int .i64 0 ∧ wx = w1)
    case atStart => exact ⟨rfl, rfl, rfl⟩
    case round =>
      obtain ⟨rfl, rfl, hwx⟩ := hrel
      rw [hwx]
      clear hwx
      go_wp2
      go_ret
      exact ⟨rfl, HK0.out⟩
end Go.Proofs.YtfnjoceolcdeoaaGreatDoor

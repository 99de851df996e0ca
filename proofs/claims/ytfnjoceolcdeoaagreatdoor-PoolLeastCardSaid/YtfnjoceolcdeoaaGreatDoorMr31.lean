/- reply: what reads a number of four bytes. -/
import Derived.Test.YtfnjoceolcdeoaaGreatDoorMr26
import Derived.Test.YtfnjoceolcdeoaaGreatDoorMr29
namespace Go.Proofs.YtfnjoceolcdeoaaGreatDoor
set_option linter.unusedVariables false
open Go.RowKit

def cdR32 (_ : World) (_ : Nat) (a : Nat) (x : Value) : Prop := x = .int .u32 (a : Int)
set_option maxHeartbeats 1000000 in
set_option maxRecDepth 100000 in
theorem sCode1_at {w : World} {v : Value} {n : Nat} {l : List UInt8} (h : Sl w 5 1 v n (bsC l)) (hn : n ≤ 1000000) :
    Calls Tryz.prog 203 #[v] w (GetPost w (fun _ e => e = 5) (.int .u32 0) (fun _ _ a x => x = .int .u32 ((a : Nat) : Int)) (getCodeP 4 l)) := by
  have hln : l.length = n := by have := h.len; rw [bsC_len] at this; omega
  have HLN := Lib.hid hln
  clear hln
  by_cases hs : n < 4
  · have HR : Hid (getCodeP 4 l = none) := Lib.hid (by unfold getCodeP; rw [if_pos (by have := HLN.out; omega)])
    have HG := Lib.hid (oGet_short h 4 (by omega) (by omega) hs)
    clear h
    go_enter Tryz.func203, Tryz.ntmps203
    go_wp2_with fail
    go_at_call 89
    refine HG.out.mono ?_
    rintro e w2 ⟨rfl, rfl⟩
    go_wp2
    go_ret3
    exact GetPost.bad (Kept.refl _ _) HR.out (by decide) rfl
  · have HR : Hid (getCodeP 4 l = some (beN (l.take 4), l.drop 4)) := Lib.hid (by unfold getCodeP; rw [if_neg (by have := HLN.out; omega)])
    have HG := Lib.hid (oGet_at h 4 (by omega) (by omega) (by omega))
    have HL4 : Hid ((l.drop 4).length = n - 4) := Lib.hid (by rw [List.length_drop, HLN.out])
    have hb4 : beN (l.take 4) < 4294967296 := Nat.lt_of_lt_of_le (beN_lt _) (Nat.le_trans (Nat.pow_le_pow_right (by decide) (show (l.take 4).length ≤ 4 by rw [List.length_take]; omega)) (by decide))
    have hwr : IntKind.u32.wrap ((beN (l.take 4) : Nat) : Int) = ((beN (l.take 4) : Nat) : Int) := by rw [IntKind.wrap_u32]; omega
    clear h
    generalize beN (l.take 4) = m at *
    go_enter Tryz.func203, Tryz.ntmps203
    go_wp2_with fail
    go_at_call 89
    refine HG.out.mono ?_
    rintro e w2 ⟨A, c, rfl, hs1, hg1⟩
    have HS1 := Lib.hid (SlK.keptNone hs1 hg1.kept)
    have HK1 := Lib.hid hg1.kept
    clear hs1 hg1
    go_wp2
    go_ret3
    exact GetPost.good HK1.out HR.out HL4.out rfl rfl HS1.out
end Go.Proofs.YtfnjoceolcdeoaaGreatDoor

/- ring.Read: where a text spells a number. -/
import Derived.Test.YthjpoiemconeeaaDoorRgBase
import Derived.Test.YthjpoiemconeeaaDoorPiShelf
namespace Go.Proofs.YthjpoiemconeeaaDoor
set_option linter.unusedVariables false
open Go.RowKit

theorem bytesWorld_kept (w : World) (e : TypeId) (s : ByteArray) : Kept noBlock w (Lib.bytesWorld w e s) := by
  have h1 := ((Kept.refl noBlock w).drew).alloc (.cells (Lib.bytesCells w e s) e)
  unfold Lib.bytesWorld World.freeze
  rw [if_neg (by decide)]
  refine ⟨rfl, rfl, rfl, by simp [Array.size_modify], fun k hk _ => ?_⟩
  have h2 := h1.block k hk (fun h => h)
  rw [← h2]
  show (Array.modify _ w.heap.size _)[k]? = _
  rw [Array.getElem?_modify, if_neg (by omega)]

/-- Does a text begin with '+'? -/
def plus (s : ByteArray) : Bool := decide (1 ≤ s.size) && ((s.extract 0 1).toList == [43])
set_option maxHeartbeats 1000000 in
set_option maxRecDepth 100000 in
theorem HasPre_at (s : ByteArray) (hs : s.size ≤ 1000) (w : World) : Calls Tryd.prog 34 #[.string s, .string ⟨#[43]⟩] w fun e w' => e = .returned (.bool (plus s)) ∧ w' = w := by
  by_cases h0 : 1 ≤ s.size
  · have hp := Lib.hid (show plus s = ((s.extract 0 1).toList == [43]) by unfold plus; rw [decide_eq_true h0, Bool.true_and])
    go_enter Tryd.func34, Tryd.ntmps34
    go_wp2
    go_ret
    exact ⟨by rw [hp.out]; rfl, rfl⟩
  · have hp := Lib.hid (show plus s = false by unfold plus; rw [decide_eq_false h0, Bool.false_and])
    go_enter Tryd.func34, Tryd.ntmps34
    go_wp2
    go_ret
    exact ⟨by rw [hp.out]; rfl, rfl⟩

set_option maxHeartbeats 1000000 in
set_option maxRecDepth 100000 in
theorem Rread_ok {s : ByteArray} {v : Int} (hs : s.size ≤ 1000) (h : Lib.parseIntB 64 s.data.toList = .ok v) (hp : plus s = false) (w : World) :
    Calls Tryd.prog 18 #[.string s] w fun e w' => e = .returned (.tuple #[.int .i64 v, .int .i64 0]) ∧ Kept noBlock w w' := by
  have HC := Lib.hid (Any.strconv_ParseInt_10_at64_ok Tryd.pint s (by omega) v h w)
  have HP := Lib.hid (fun W => hp ▸ HasPre_at s hs W)
  clear h hp
  go_enter Tryd.func18, Tryd.ntmps18
  go_wp2_with fail
  go_at_call 33
  refine HC.out.mono ?_
  rintro e w1 ⟨rfl, hw⟩
  have hk : Kept noBlock w w1 := by
    rcases hw with rfl | ⟨t, rfl⟩
    · exact Kept.refl _ _
    · exact bytesWorld_kept _ _ _
  clear hw
  go_wp2_with fail
  go_at_call 34
  refine (HP.out _).mono ?_
  rintro e w2 ⟨rfl, rfl⟩
  go_wp2
  go_ret2
  exact ⟨rfl, hk⟩
end Go.Proofs.YthjpoiemconeeaaDoor

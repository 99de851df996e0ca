/- RingReads: the token of any text is the reference's, or refused. -/
import Derived.Test.YthjpoiemconeeaaDoorRgReads2
import Derived.Test.YthjpoiemconeeaaDoorRgErrs
import Derived.Test.YthjpoiemconeeaaDoorRgAwake
namespace Go.Proofs.YthjpoiemconeeaaDoor
set_option linter.unusedVariables false
open Go.RowKit

set_option maxHeartbeats 1000000 in
set_option maxRecDepth 100000 in
theorem Reads_walk (s : ByteArray) (w : World) (he : Errs w) : Calls Tryd.prog 4 #[.string s] w fun e w' => e = .returned (.bool true) ∧ Kept noBlock w w' := by
  have HE := Lib.hid he
  clear he
  go_enter Tryd.func4, Tryd.ntmps4
  go_wp2_with fail
  go_at_call 8
  refine (aw13_at w).mono ?_
  rintro e w1 ⟨rfl, hk1⟩
  have HK1 := Lib.hid hk1
  clear hk1
  by_cases h300 : 300 < s.size
  · go_wp2
    go_ret
    exact ⟨rfl, HK1.out⟩
  go_wp2_with fail
  go_at_call 18
  refine (Rread_at (s := s) (by omega) w1 (HE.out.kept HK1.out)).mono ?_
  rintro e w2 ⟨rfl, hk2⟩
  have HK2 := Lib.hid (HK1.out.trans hk2 (fun _ _ h => h))
  clear hk2
  obtain ⟨a, ha⟩ : ∃ a, (ringRead s.data.toList).1 = a := ⟨_, rfl⟩
  obtain ⟨b, hb⟩ : ∃ b, (ringRead s.data.toList).2 = b := ⟨_, rfl⟩
  have HR := Lib.hid (r3Read_at (s := s) (by omega) w2)
  rw [read_same, ha, hb] at HR
  rw [ha, hb]
  clear ha hb
  go_wp2_with fail
  go_at_call 19
  refine HR.out.mono ?_
  rintro e w3 ⟨rfl, rfl⟩
  go_wp2
  go_ret
  exact ⟨rfl, HK2.out⟩
end Go.Proofs.YthjpoiemconeeaaDoor

/- ReplicaSimple: the first hosts from any token on, of any ring, are the document's: it answers true. -/
import Derived.Test.YtjdjfikeiphgpaaRpAwake
import Derived.Test.YtjdjfikeiphgpaaRgSame
namespace Go.Proofs.Ytjdjfikeiphgpaa
set_option linter.unusedVariables false
open Go.RowKit

set_option maxHeartbeats 4000000 in
set_option maxRecDepth 100000 in
theorem Simple_walk (vv : Value) (l : List Pl) (t n : Int) (w : World) (hv : Lo w w.heap.size 2 vv l.length (l.flatMap pC)) :
    Calls Try.prog 3 #[vv, .int .i64 t, .int .i64 n] w fun e w' => e = .returned (.bool true) ∧ Kept noBlock w w' := by
  obtain ⟨A, cap, rfl, -, hcap⟩ := hv.shape
  have hlen := hv.run_len psT
  have HV := Lib.hid hv
  have hbl : l.length ≤ 9223372036854775807 := by
    obtain ⟨_, A', c', e, h1, h2, _⟩ := hv
    unfold maxLen at h2; omega
  clear hv
  go_enter Try.func3, Try.ntmps3
  go_wp2_with fail
  go_at_call 8
  refine (aw14_at w).mono ?_
  rintro e w1 ⟨rfl, hk1⟩
  have HV1 := Lib.hid (SlK.keptNone HV.out hk1)
  have HK1 := Lib.hid hk1
  clear hk1 HV
  by_cases h40 : 40 < l.length
  · go_wp2
    go_ret
    exact ⟨rfl, HK1.out⟩
  go_wp2_with fail
  go_at_call 9
  refine (Rnew_view HV1.out (by omega)).mono ?_
  rintro e w2 ⟨p, code, S, rfl, hrs, hrv, -, hk2⟩
  have HV2 := Lib.hid (SlK.keptNone HV1.out hk2)
  have HK2 := Lib.hid (HK1.out.trans hk2 (fun _ _ h => h))
  have HRS := Lib.hid hrs
  have HRV := Lib.hid hrv
  have hsl := hrs.len
  clear hk2 hrs hrv HV1 HK1
  go_wp2_with fail
  go_at_call 11
  refine (model_at HV2.out (by omega)).mono ?_
  rintro e w3 ⟨v3, rfl, hs3, hk3⟩
  obtain ⟨A3, c3, rfl, -, -⟩ := hs3.shape
  have HS3 := Lib.hid hs3
  have HRV3 := Lib.hid (HRV.out.kept hk3)
  have HK3 := Lib.hid (HK2.out.trans hk3 (fun _ _ h => h))
  clear hs3 hk3 HRV HV2 HK2
  go_wp2_with fail
  go_at_call 10
  refine (R3New_view HS3.out (by omega)).mono ?_
  rintro e w4 ⟨v4, code', S', rfl, hrs', hs4, hk4⟩
  obtain ⟨rfl, rfl⟩ := RS.uniq HRS.out hrs'
  obtain ⟨A4, c4, rfl, -, -⟩ := hs4.shape
  have HS4 := Lib.hid hs4
  have HRV4 := Lib.hid (HRV3.out.kept hk4)
  have HK4 := Lib.hid (HK3.out.trans hk4 (fun _ _ h => h))
  have HRI := Lib.hid HRS.out.rising
  have hrl := rwalk_len S t
  have HSI := Lib.hid (rSimple_in (w := w4) (n := n) (t := t) (l := rwalk S t) (by omega) rfl ((Rwalk_view (t := t) HRV4.out HRI.out (by omega)).mono fun e w' ⟨A, c, h1, h2, h3⟩ => ⟨_, h1, h2, h3⟩))
  have hkl : (max (min n ((rwalk S t).length : Int)) 0).toNat ≤ (rwalk S t).length := by omega
  clear hs4 hk4 hrs' HRV3 HK3 HS3
  go_wp2_with fail
  go_at_call 13
  refine HSI.out.mono ?_
  rintro e w5 ⟨v5, rfl, hs5, hk5⟩
  have HS5 := Lib.hid hs5
  have HK5 := Lib.hid (HK4.out.trans hk5 (fun _ _ h => h))
  have HS4b := Lib.hid (SlK.keptNone HS4.out hk5)
  have HSJ := Lib.hid (r4Simple_in (w := w5) (n := n) (t := t) (l := rwalk S t) (by omega) rfl (R3Walk_at HS4b.out HRI.out (by omega)))
  clear hs5 hk5 HSI
  go_wp2_with fail
  go_at_call 14
  refine HSJ.out.mono ?_
  rintro e w6 ⟨v6, rfl, hs6, hk6⟩
  have HS6 := Lib.hid hs6
  have HS5b := Lib.hid (SlK.keptNone HS5.out hk6)
  have HK6 := Lib.hid (HK5.out.trans hk6 (fun _ _ h => h))
  clear hs6 hk6 HSJ
  have htl : ((rwalk S t).take (max (min n ((rwalk S t).length : Int)) 0).toNat).length = (max (min n ((rwalk S t).length : Int)) 0).toNat := by rw [List.length_take]; omega
  have HSM := Lib.hid (same_at (l := (rwalk S t).take (max (min n ((rwalk S t).length : Int)) 0).toNat) (by rw [htl]; exact HS5b.out) (by rw [htl]; exact HS6.out) (by omega))
  clear htl hkl
  go_wp2_with fail
  go_at_call 12
  refine HSM.out.mono ?_
  rintro e w7 ⟨rfl, nq, rfl⟩
  go_wp2
  go_ret
  exact ⟨rfl, HK6.out.trans ((Kept.refl noBlock w6).drewN nq) (fun _ _ h => h)⟩
end Go.Proofs.Ytjdjfikeiphgpaa

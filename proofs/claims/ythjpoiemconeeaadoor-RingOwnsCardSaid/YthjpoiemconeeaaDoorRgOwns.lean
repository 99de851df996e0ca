/- RingOwns: the ring of any places, who owns any token, and the walk from it, are the document's, or it is refused: it answers true. -/
import Derived.Test.YthjpoiemconeeaaDoorRgView
import Derived.Test.YthjpoiemconeeaaDoorRgAwake
namespace Go.Proofs.YthjpoiemconeeaaDoor
set_option linter.unusedVariables false
open Go.RowKit

set_option maxHeartbeats 8000000 in
set_option maxRecDepth 100000 in
theorem Owns_walk (vv : Value) (l : List Pl) (t : Int) (w : World) (hv : Lo w w.heap.size 2 vv l.length (l.flatMap pC)) :
    Calls Tryd.prog 3 #[vv, .int .i64 t] w fun e w' => e = .returned (.bool true) ∧ Kept noBlock w w' := by
  obtain ⟨A, cap, rfl, -, hcap⟩ := hv.shape
  have hlen := hv.run_len psT
  have HV := Lib.hid hv
  have hbl : l.length ≤ 9223372036854775807 := by
    obtain ⟨_, A', c', e, h1, h2, _⟩ := hv
    unfold maxLen at h2; omega
  clear hv
  go_enter Tryd.func3, Tryd.ntmps3
  go_wp2_with fail
  go_at_call 8
  refine (aw13_at w).mono ?_
  rintro e w1 ⟨rfl, hk1⟩
  have HV1 := Lib.hid (SlK.keptNone HV.out hk1)
  have HK1 := Lib.hid hk1
  clear hk1 HV
  by_cases h60 : 60 < l.length
  · go_wp2
    go_ret
    exact ⟨rfl, HK1.out⟩
  go_wp2_with fail
  go_at_call 9
  refine (Rnew_view HV1.out (by omega)).mono ?_
  rintro e w2 ⟨p, code, S, rfl, hrs, hrv, hpc, hk2⟩
  have HV2 := Lib.hid (SlK.keptNone HV1.out hk2)
  have HK2 := Lib.hid (HK1.out.trans hk2 (fun _ _ h => h))
  have HRS := Lib.hid hrs
  have HRV := Lib.hid hrv
  have hsl := hrs.len
  clear hk2 hrs hrv HV1 HK1
  go_wp2_with fail
  go_at_call 11
  refine (model_at HV2.out (by omega)).mono ?_
  rintro e w3 ⟨v3, rfl, hs3, hk3⟩
  obtain ⟨A3, c3, rfl, -, -⟩ := hs3.shape
  have HS3 := Lib.hid hs3
  have HRV3 := Lib.hid (HRV.out.kept hk3)
  have HK3 := Lib.hid (HK2.out.trans hk3 (fun _ _ h => h))
  clear hs3 hk3 HRV HV2 HK2
  go_wp2_with fail
  go_at_call 10
  refine (R3New_view HS3.out (by omega)).mono ?_
  rintro e w4 ⟨v4, code', S', rfl, hrs', hs4, hk4⟩
  obtain ⟨rfl, rfl⟩ := RS.uniq HRS.out hrs'
  obtain ⟨A4, c4, rfl, -, -⟩ := hs4.shape
  have HS4 := Lib.hid hs4
  have HRV4 := Lib.hid (HRV3.out.kept hk4)
  have HK4 := Lib.hid (HK3.out.trans hk4 (fun _ _ h => h))
  have HRI := Lib.hid HRS.out.rising
  clear hs4 hk4 hrs' HRV3 HK3 HS3
  have hcc : ∀ z : Int, (z != z) = false := fun z => by simp
  obtain ⟨b, hb1, hb2⟩ : ∃ b, p.isNone = b ∧ (code != 0) = b := by
    refine ⟨p.isNone, rfl, ?_⟩
    by_cases h : p = none
    · have := hpc.1 h
      rw [h]; simp [this]
    · have h2 : code = 0 := Classical.byContradiction fun e => h (hpc.2 e)
      cases p with
      | none => exact absurd rfl h
      | some a => rw [h2]; rfl
  have hbb : (b == b) = true := by simp
  clear hpc
  go_wp2_with fail
  go_at_call 12
  refine (Rplaces_view HRV4.out (by omega)).mono ?_
  rintro e w5 ⟨A5, c5, rfl, hs5, hk5⟩
  have HS4b := Lib.hid (SlK.keptNone HS4.out hk5)
  have HRV5 := Lib.hid (HRV4.out.kept hk5)
  have HK5 := Lib.hid (HK4.out.trans hk5 (fun _ _ h => h))
  have HS5 := Lib.hid hs5
  clear hs5 hk5 HS4 HRV4 HK4 hb1 hb2 hbb
  go_wp2_with fail
  go_at_call 11
  refine (model_at HS5.out (by omega)).mono ?_
  rintro e w6 ⟨v6, rfl, hs6, hk6⟩
  obtain ⟨A6, c6, rfl, -, -⟩ := hs6.shape
  have HS4c := Lib.hid (SlK.keptNone HS4b.out hk6)
  have HRV6 := Lib.hid (HRV5.out.kept hk6)
  have HK6 := Lib.hid (HK5.out.trans hk6 (fun _ _ h => h))
  have HS6 := Lib.hid hs6
  have hlen4 := HS4c.out.run_len p3sT
  have hlen6 := hs6.run_len p3sT
  clear hs6 hk6 HS4b HRV5 HK5 HS5
  go_wp2_with fail
  go_loopg [11] S.length (fun j vi wr => ∃ i n : Nat, i + j = S.length ∧ vi = .int .i64 i ∧ wr = w6.drewN n)
  case atStart => exact ⟨0, 0, by omega, rfl, rfl⟩
  case round =>
    obtain ⟨i, n, hij, rfl, rfl⟩ := hrel
    have HIJ := Lib.hid hij
    clear hij
    by_cases hlt : i < S.length
    · obtain ⟨x, hx⟩ : ∃ x, S[i]? = some x := ⟨_, List.getElem?_eq_getElem hlt⟩
      obtain ⟨ga, oa, hia, -, hca, hca1⟩ := p_at (SlK.drewN HS6.out n) p3sT hx
      obtain ⟨gb, ob, hib, -, hcb, hcb1⟩ := p_at (SlK.drewN HS4c.out n) p3sT hx
      obtain ⟨x1, x2⟩ := x
      simp only at hca hca1 hcb hcb1
      have hbe := strEq_self x2
      have hca4 : w6.cell? ⟨ga, oa, none⟩ = some (.int .i64 x1) := hca
      have hcb4 : w6.cell? ⟨gb, ob, none⟩ = some (.int .i64 x1) := hcb
      have hca5 : w6.cell? ⟨ga, oa + 1, none⟩ = some (.string x2) := hca1
      have hcb5 : w6.cell? ⟨gb, ob + 1, none⟩ = some (.string x2) := hcb1
      clear hx
      go_wp2
      go_quiet (fail)
      go_wp2
      go_roundg (S.length - (i + 1))
      case measure => have := HIJ.out; omega
      case rel => exact ⟨i + 1, n + nq, by have := HIJ.out; omega, by go_num, rfl⟩
    · have hkq := (Kept.refl noBlock w6).drewN n
      have HS7 := Lib.hid (SlK.keptNone HS4c.out hkq)
      have HRV7 := Lib.hid (HRV6.out.kept hkq)
      have HK7 := Lib.hid (HK6.out.trans hkq (fun _ _ h => h))
      clear hkq HS4c HRV6 HK6 HS6
      generalize w6.drewN n = w7 at *
      go_wp2_with fail
      go_at_call 13
      refine (Rowner_view HRV7.out HRI.out (by omega)).mono ?_
      rintro e w8 ⟨rfl, hk8⟩
      have HS8 := Lib.hid (SlK.keptNone HS7.out hk8)
      have HRV8 := Lib.hid (HRV7.out.kept hk8)
      have HK8 := Lib.hid (HK7.out.trans hk8 (fun _ _ h => h))
      clear hk8 HS7 HRV7 HK7
      have hso := strEq_self (owner S t)
      obtain ⟨d, hd1, hd2⟩ : ∃ d, decide (0 < S.length) = d ∧ decide ((0 : Int) < (S.length : Int)) = d := ⟨_, rfl, by apply decide_eq_decide.2; omega⟩
      rw [hd1]
      have hdd : (d == d) = true := by simp
      have HO := Lib.hid (R3Owner_at (t := t) HS8.out HRI.out (by omega))
      generalize owner S t = ow at *
      go_wp2_with fail
      go_at_call 14
      refine HO.out.mono ?_
      rintro e w9 ⟨rfl, rfl⟩
      go_wp2_with fail
      go_at_call 16
      refine (Rwalk_view (t := t) HRV8.out HRI.out (by omega)).mono ?_
      rintro e w10 ⟨A10, c10, rfl, hs10, hk10⟩
      have hrl : (rwalk S t).length ≤ 1000 := by
        have := uniq_len ((turned S t).map (·.2)) []
        rw [List.length_map, turned_length] at this
        unfold rwalk
        simp only [List.length_nil] at this
        omega
      have HW := Lib.hid (fun W (hW : Sl W 34 2 (.slice A4 S.length c4) S.length (S.flatMap pC)) => R3Walk_at (t := t) hW HRI.out (by omega))
      have HS10 := Lib.hid (SlK.keptNone HS8.out hk10)
      have HSW := Lib.hid hs10
      have HK10 := Lib.hid (HK8.out.trans hk10 (fun _ _ h => h))
      clear hs10 hk10 HS8 HRV8 HK8 HO
      generalize rwalk S t = R at *
      go_wp2_with fail
      go_at_call 17
      refine (HW.out _ HS10.out).mono ?_
      rintro e w11 ⟨v11, rfl, hs11, hk11⟩
      obtain ⟨A11, c11, rfl, -, -⟩ := hs11.shape
      have HSW2 := Lib.hid (SlK.keptNone HSW.out hk11)
      have HS11 := Lib.hid hs11
      have HK11 := Lib.hid (HK10.out.trans hk11 (fun _ _ h => h))
      clear hs11 hk11 HSW HK10 HS10 HW
      go_wp2_with fail
      go_at_call 15
      refine (same_at HSW2.out HS11.out (by omega)).mono ?_
      rintro e w12 ⟨rfl, n12, rfl⟩
      go_wp2
      go_ret
      exact ⟨rfl, HK11.out.drewN n12⟩
end Go.Proofs.YthjpoiemconeeaaDoor

/- RingWalks: the owner is the first one of the walk; a walk has each host once, from wherever it begins; who has a token owns it: it answers true. -/
import Derived.Test.YthjpoiemconeeaaDoorRgWalksPure
import Derived.Test.YthjpoiemconeeaaDoorRgAwake
namespace Go.Proofs.YthjpoiemconeeaaDoor
set_option linter.unusedVariables false
open Go.RowKit

set_option maxHeartbeats 8000000 in
set_option maxRecDepth 100000 in
theorem Walks_walk (vv : Value) (l : List Pl) (ta tb : Int) (w : World) (hv : Lo w w.heap.size 2 vv l.length (l.flatMap pC)) :
    Calls Tryd.prog 5 #[vv, .int .i64 ta, .int .i64 tb] w fun e w' => e = .returned (.bool true) ∧ Kept noBlock w w' := by
  obtain ⟨A, cap, rfl, -, hcap⟩ := hv.shape
  have hlen := hv.run_len psT
  have HV := Lib.hid hv
  have hbl : l.length ≤ 9223372036854775807 := by
    obtain ⟨_, A', c', e, h1, h2, _⟩ := hv
    unfold maxLen at h2; omega
  clear hv
  go_enter Tryd.func5, Tryd.ntmps5
  go_wp2_with fail
  go_at_call 8
  refine (aw13_at w).mono ?_
  rintro e w1 ⟨rfl, hk1⟩
  have HK1 := Lib.hid hk1
  clear hk1
  by_cases h60 : 60 < l.length
  · go_wp2
    go_ret
    exact ⟨rfl, HK1.out⟩
  go_wp2_with fail
  go_at_call 9
  refine (Rnew_view (SlK.keptNone HV.out HK1.out) (by omega)).mono ?_
  rintro e w2 ⟨p, code, S, rfl, hrs, hrv, hpc, hk2⟩
  have HK2 := Lib.hid (HK1.out.trans hk2 (fun _ _ h => h))
  have HRV := Lib.hid hrv
  have hsl := hrs.len
  have HRI := Lib.hid hrs.rising
  clear hk2 hrv hpc HK1
  have hcase : (code ≠ 0 ∧ S = []) ∨ (code = 0 ∧ RingOf l S) := by
    rcases hrs with ⟨-, rfl, rfl⟩ | ⟨-, -, rfl, rfl⟩ | ⟨h, rfl⟩
    · exact .inl ⟨by decide, rfl⟩
    · exact .inl ⟨by decide, rfl⟩
    · exact .inr ⟨rfl, h⟩
  clear hrs
  rcases hcase with ⟨hc, rfl⟩ | ⟨rfl, hro⟩
  · have hcn : (code != 0) = true := by simp [hc]
    have hr0 : (rwalk [] ta).length = 0 := rfl
    go_wp2_with fail
    go_at_call 16
    refine (Rwalk_view (t := ta) HRV.out HRI.out (by decide)).mono ?_
    rintro e w3 ⟨A3, c3, rfl, hs3, hk3⟩
    rw [hr0] at hs3 ⊢
    have hl3 := hs3.run_len strsT
    have HRV3 := Lib.hid (HRV.out.kept hk3)
    have HK3 := Lib.hid (HK2.out.trans hk3 (fun _ _ h => h))
    clear hs3 hk3 HRV HK2
    go_wp2_with fail
    go_at_call 12
    refine (Rplaces_view HRV3.out (by decide)).mono ?_
    rintro e w4 ⟨A4, c4, rfl, hs4, hk4⟩
    have hl4 := hs4.run_len psT
    have HK4 := Lib.hid (HK3.out.trans hk4 (fun _ _ h => h))
    clear hs4 hk4
    go_wp2
    go_ret
    exact ⟨rfl, HK4.out⟩
  · have hll : S.length = l.length := hro.1.length_eq
    have HRO := Lib.hid hro
    have HLL := Lib.hid hll
    clear hro
    go_wp2_with fail
    go_at_call 16
    refine (Rwalk_view (t := ta) HRV.out HRI.out (by omega)).mono ?_
    rintro e w3 ⟨A3, c3, rfl, hs3, hk3⟩
    have HS3 := Lib.hid hs3
    have HRV3 := Lib.hid (HRV.out.kept hk3)
    have HK3 := Lib.hid (HK2.out.trans hk3 (fun _ _ h => h))
    clear hs3 hk3 HRV HK2
    go_wp2_with fail
    go_at_call 16
    refine (Rwalk_view (t := tb) HRV3.out HRI.out (by omega)).mono ?_
    rintro e w4 ⟨A4, c4, rfl, hs4, hk4⟩
    have HS4 := Lib.hid hs4
    have HS3b := Lib.hid (SlK.keptNone HS3.out hk4)
    have HRV4 := Lib.hid (HRV3.out.kept hk4)
    have HK4 := Lib.hid (HK3.out.trans hk4 (fun _ _ h => h))
    have hxy := (rwalk_perm S ta tb).length_eq
    have HND := Lib.hid (rwalk_nodup S tb)
    have HMEM := Lib.hid (fun x (hx : x ∈ rwalk S ta) => (rwalk_perm S ta tb).mem_iff.1 hx)
    have hxl := rwalk_len (S := S) (t := ta) (by omega)
    have HHD := Lib.hid (fun h => rwalk_head (S := S) (t := ta) h)
    clear hs4 hk4 HS3 HRV3 HK3
    generalize rwalk S ta = X at *
    generalize rwalk S tb = Y at *
    rw [← hxy] at HS4 ⊢
    have HXY := Lib.hid hxy
    have hl3 := HS3b.out.run_len strsT
    have hl4 := HS4.out.run_len strsT
    clear hxy
    go_wp2_with fail
    go_at_call 13
    refine (Rowner_view (t := ta) HRV4.out HRI.out (by omega)).mono ?_
    rintro e w5 ⟨rfl, hk5⟩
    have HS5 := Lib.hid (SlK.keptNone HS4.out hk5)
    have HS5x := Lib.hid (SlK.keptNone HS3b.out hk5)
    have HRV5 := Lib.hid (HRV4.out.kept hk5)
    have HK5 := Lib.hid (HK4.out.trans hk5 (fun _ _ h => h))
    clear hk5 HS4 HS3b HRV4 HK4
    obtain ⟨d, hd1, hd2, hd3⟩ : ∃ d, decide (0 < S.length) = d ∧ decide ((0 : Int) < (l.length : Int)) = d ∧ d = decide (0 < l.length) := ⟨_, rfl, by apply decide_eq_decide.2; omega, by apply decide_eq_decide.2; omega⟩
    rw [hd1]
    have hdd : (d != d) = false := by simp
    have HPOS := Lib.hid (fun (h : 0 < l.length) => HHD.out (by rw [HLL.out]; exact h))
    clear hd1 HHD
    have hgo : ∃ x0 : ByteArray, (d = true → X[0]? = some x0 ∧ x0 = owner S ta ∧ 0 < X.length) := ⟨owner S ta, fun e => by
      have hl : 0 < l.length := by rw [hd3] at e; simpa using e
      have h1 := HPOS.out hl
      exact ⟨h1, rfl, (List.getElem?_eq_some_iff.1 h1).1⟩⟩
    obtain ⟨x0, hx0⟩ := hgo
    have hse := strEq_self x0
    have hsx : d = true → (x0.toList == (owner S ta).toList) = true := fun e => by rw [← (hx0 e).2.1]; exact hse
    cases hdv : d with
    | false =>
      rw [hdv] at hdd hd2
      have hl0 : ¬ 0 < l.length := by rw [hdv] at hd3; simpa using hd3.symm
      clear hx0 hsx hd3 hd2 hdd hdv HPOS
      go_wp2_with fail
      go_loopg [14] X.length (fun j vi wr => ∃ i n : Nat, i + j = X.length ∧ vi = .int .i64 i ∧ wr = w5.drewN n)
      case atStart => exact ⟨0, 0, by omega, rfl, rfl⟩
      case round =>
        obtain ⟨i, n, hij, rfl, rfl⟩ := hrel
        have HIJ := Lib.hid hij
        clear hij
        by_cases hlt : i < X.length
        · obtain ⟨x, hx⟩ : ∃ x, X[i]? = some x := ⟨_, List.getElem?_eq_getElem hlt⟩
          obtain ⟨ga, oa, hia, -, hca⟩ := str_at (SlK.drewN HS5x.out n) hx
          have hca4 : w5.cell? ⟨ga, oa, none⟩ = some (.string x) := hca
          have HONE := Lib.hid (count_one HND.out (HMEM.out x (List.mem_of_getElem? hx)))
          have HSTEP := Lib.hid (fun (k : Nat) y (hy : Y[k]? = some y) => (by rw [List.take_add_one, hy, List.countP_append]; simp [List.countP_cons] : (Y.take (k + 1)).countP (fun y => decide (y = x)) = (Y.take k).countP (fun y => decide (y = x)) + if y = x then 1 else 0))
          have HCL := Lib.hid (fun k => (List.countP_le_length (p := fun y : ByteArray => decide (y = x)) (l := Y.take k)))
          clear hx hca
          go_wp2_with fail
          go_loopg [15, 16] X.length (fun j vc vk wr => ∃ k m : Nat, k + j = X.length ∧ vk = .int .i64 k ∧ vc = .int .i64 ((Y.take k).countP (fun y => decide (y = x)) : Nat) ∧ wr = w5.drewN m)
          case atStart => exact ⟨0, n, by omega, rfl, rfl, rfl⟩
          case round =>
            obtain ⟨k, m, hkj, rfl, rfl, rfl⟩ := hrel
            have HKJ := Lib.hid hkj
            have hcl := HCL.out k
            rw [List.length_take] at hcl
            clear hkj
            by_cases hlt2 : k < X.length
            · obtain ⟨y, hy⟩ : ∃ y, Y[k]? = some y := ⟨_, List.getElem?_eq_getElem (by rw [← HXY.out]; exact hlt2)⟩
              obtain ⟨gb, ob, hib, -, hcb⟩ := str_at (SlK.drewN HS5.out m) hy
              have hcb4 : w5.cell? ⟨gb, ob, none⟩ = some (.string y) := hcb
              have hst := HSTEP.out k y hy
              have HST := Lib.hid hst
              clear hy hst hcb
              generalize (Y.take k).countP (fun y => decide (y = x)) = q at *
              by_cases hyx : y = x
              · have hbe : (y.toList == x.toList) = true := by rw [hyx]; exact strEq_self x
                go_wp2
                go_quiet (fail)
                go_wp2
                go_roundg (X.length - (k + 1))
                case measure => have := HKJ.out; omega
                case rel => exact ⟨k + 1, m + nq, by have := HKJ.out; omega, by go_num, by rw [HST.out, if_pos hyx]; go_num, rfl⟩
              · have hbe : (y.toList == x.toList) = false := strEq_ne hyx
                go_wp2
                go_quiet (fail)
                go_wp2
                go_roundg (X.length - (k + 1))
                case measure => have := HKJ.out; omega
                case rel => exact ⟨k + 1, m + nq, by have := HKJ.out; omega, by go_num, by rw [HST.out, if_neg hyx]; rfl, rfl⟩
            · obtain rfl : k = X.length := by have := HKJ.out; omega
              have e1 : (Y.take X.length).countP (fun y => decide (y = x)) = 1 := by rw [HXY.out, List.take_length]; exact HONE.out
              rw [e1]
              clear e1 hcl
              go_wp2
              go_roundg (X.length - (i + 1))
              case measure => have := HIJ.out; omega
              case rel => exact ⟨i + 1, m, by have := HIJ.out; omega, by go_num, rfl⟩
        · have hkq := (Kept.refl noBlock w5).drewN n
          have HRV6 := Lib.hid (HRV5.out.kept hkq)
          have HK6 := Lib.hid (HK5.out.trans hkq (fun _ _ h => h))
          clear hkq HRV5 HK5 HS5 HS5x
          generalize w5.drewN n = w6 at *
          have START := Lib.hid (show ∃ i : Nat, i + l.length = l.length ∧ (Value.int .i64 0) = .int .i64 i ∧ RV w6 p S ∧ Kept noBlock w w6 from ⟨0, by omega, rfl, HRV6.out, HK6.out⟩)
          clear HRV6 HK6
          go_wp2_with fail
          go_loopg [17] l.length (fun j vi wr => ∃ i : Nat, i + j = l.length ∧ vi = .int .i64 i ∧ RV wr p S ∧ Kept noBlock w wr)
          case atStart => exact START.out
          case round =>
            obtain ⟨i2, hij2, rfl, hrv, hk⟩ := hrel
            clear START
            have HIJ2 := Lib.hid hij2
            have HK7 := Lib.hid hk
            have HRV7 := Lib.hid hrv
            by_cases hlt3 : i2 < l.length
            · exact absurd hlt3 (by omega)
            · clear hij2 hrv hk
              go_wp2
              go_ret
              exact ⟨rfl, HK7.out⟩
    | true =>
      rw [hdv] at hdd hd2
      obtain ⟨g1, g2, g3⟩ := hx0 hdv
      rw [← g2]
      obtain ⟨gx, ox, hix, -, hcx⟩ := str_at HS5x.out g1
      have hix0 : ∀ kd w', (Instr.indexAt 39 (.slice A3 X.length c3) (.int kd 0)).run Tryd.prog w' = .ok (.pointer (some ⟨gx, ox, none⟩)) w' := hix
      have hxz : ((X.length : Int) == 0) = false := by rw [beq_eq_false_iff_ne]; omega
      have hl0 : 0 < l.length := by rw [hdv] at hd3; simpa using hd3.symm
      clear hx0 hsx hd3 hd2 hdd hdv g1 g2 hix HPOS
      go_wp2_with fail
      go_loopg [14] X.length (fun j vi wr => ∃ i n : Nat, i + j = X.length ∧ vi = .int .i64 i ∧ wr = w5.drewN n)
      case atStart => exact ⟨0, 0, by omega, rfl, rfl⟩
      case round =>
        obtain ⟨i, n, hij, rfl, rfl⟩ := hrel
        have HIJ := Lib.hid hij
        clear hij
        by_cases hlt : i < X.length
        · obtain ⟨x, hx⟩ : ∃ x, X[i]? = some x := ⟨_, List.getElem?_eq_getElem hlt⟩
          obtain ⟨ga, oa, hia, -, hca⟩ := str_at (SlK.drewN HS5x.out n) hx
          have hca4 : w5.cell? ⟨ga, oa, none⟩ = some (.string x) := hca
          have HONE := Lib.hid (count_one HND.out (HMEM.out x (List.mem_of_getElem? hx)))
          have HSTEP := Lib.hid (fun (k : Nat) y (hy : Y[k]? = some y) => (by rw [List.take_add_one, hy, List.countP_append]; simp [List.countP_cons] : (Y.take (k + 1)).countP (fun y => decide (y = x)) = (Y.take k).countP (fun y => decide (y = x)) + if y = x then 1 else 0))
          have HCL := Lib.hid (fun k => (List.countP_le_length (p := fun y : ByteArray => decide (y = x)) (l := Y.take k)))
          clear hx hca
          go_wp2_with fail
          go_loopg [15, 16] X.length (fun j vc vk wr => ∃ k m : Nat, k + j = X.length ∧ vk = .int .i64 k ∧ vc = .int .i64 ((Y.take k).countP (fun y => decide (y = x)) : Nat) ∧ wr = w5.drewN m)
          case atStart => exact ⟨0, n, by omega, rfl, rfl, rfl⟩
          case round =>
            obtain ⟨k, m, hkj, rfl, rfl, rfl⟩ := hrel
            have HKJ := Lib.hid hkj
            have hcl := HCL.out k
            rw [List.length_take] at hcl
            clear hkj
            by_cases hlt2 : k < X.length
            · obtain ⟨y, hy⟩ : ∃ y, Y[k]? = some y := ⟨_, List.getElem?_eq_getElem (by rw [← HXY.out]; exact hlt2)⟩
              obtain ⟨gb, ob, hib, -, hcb⟩ := str_at (SlK.drewN HS5.out m) hy
              have hcb4 : w5.cell? ⟨gb, ob, none⟩ = some (.string y) := hcb
              have hst := HSTEP.out k y hy
              have HST := Lib.hid hst
              clear hy hst hcb
              generalize (Y.take k).countP (fun y => decide (y = x)) = q at *
              by_cases hyx : y = x
              · have hbe : (y.toList == x.toList) = true := by rw [hyx]; exact strEq_self x
                go_wp2
                go_quiet (fail)
                go_wp2
                go_roundg (X.length - (k + 1))
                case measure => have := HKJ.out; omega
                case rel => exact ⟨k + 1, m + nq, by have := HKJ.out; omega, by go_num, by rw [HST.out, if_pos hyx]; go_num, rfl⟩
              · have hbe : (y.toList == x.toList) = false := strEq_ne hyx
                go_wp2
                go_quiet (fail)
                go_wp2
                go_roundg (X.length - (k + 1))
                case measure => have := HKJ.out; omega
                case rel => exact ⟨k + 1, m + nq, by have := HKJ.out; omega, by go_num, by rw [HST.out, if_neg hyx]; rfl, rfl⟩
            · obtain rfl : k = X.length := by have := HKJ.out; omega
              have e1 : (Y.take X.length).countP (fun y => decide (y = x)) = 1 := by rw [HXY.out, List.take_length]; exact HONE.out
              rw [e1]
              clear e1 hcl
              go_wp2
              go_roundg (X.length - (i + 1))
              case measure => have := HIJ.out; omega
              case rel => exact ⟨i + 1, m, by have := HIJ.out; omega, by go_num, rfl⟩
        · have hkq := (Kept.refl noBlock w5).drewN n
          have HRV6 := Lib.hid (HRV5.out.kept hkq)
          have HK6 := Lib.hid (HK5.out.trans hkq (fun _ _ h => h))
          clear hkq HRV5 HK5 HS5 HS5x
          generalize w5.drewN n = w6 at *
          have START := Lib.hid (show ∃ i : Nat, i + l.length = l.length ∧ (Value.int .i64 0) = .int .i64 i ∧ RV w6 p S ∧ Kept noBlock w w6 from ⟨0, by omega, rfl, HRV6.out, HK6.out⟩)
          clear HRV6 HK6
          go_wp2_with fail
          go_loopg [17] l.length (fun j vi wr => ∃ i : Nat, i + j = l.length ∧ vi = .int .i64 i ∧ RV wr p S ∧ Kept noBlock w wr)
          case atStart => exact START.out
          case round =>
            obtain ⟨i2, hij2, rfl, hrv, hk⟩ := hrel
            clear START
            have HIJ2 := Lib.hid hij2
            have HK7 := Lib.hid hk
            have HRV7 := Lib.hid hrv
            by_cases hlt3 : i2 < l.length
            · obtain ⟨q, hq⟩ : ∃ q, l[i2]? = some q := ⟨_, List.getElem?_eq_getElem hlt3⟩
              obtain ⟨ga, oa, hia, hgl, hca, hcb⟩ := p_at HV.out psT hq
              have q0 := (hk.cell (p := ⟨ga, oa, none⟩) hgl (fun h => h)).trans hca
              have HC1 := Lib.hid (fun (w1 : World) (hk1 : Kept noBlock w w1) => ((hk1.cell (p := ⟨ga, oa + 1, none⟩) hgl (fun h => h)).trans hcb))
              have hoq := owner_of HRI.out (HRO.out.1.mem_iff.2 (List.mem_of_getElem? hq))
              obtain ⟨q1, q2⟩ := q
              simp only at q0 HC1 hoq
              have HOW := Lib.hid (fun W (hW : RV W p S) => Rowner_view (t := q1) hW HRI.out (by omega))
              rw [hoq] at HOW
              have hpS : decide (0 < S.length) = true := by rw [HLL.out]; simp; omega
              rw [hpS] at HOW
              have hsq := strEq_self q2
              clear hq hca hcb hoq hpS hij2 hrv hk
              go_wp2_with fail
              go_at_call 13
              refine (HOW.out _ HRV7.out).mono ?_
              rintro e w8 ⟨rfl, hk8⟩
              have HK8 := Lib.hid (HK7.out.trans hk8 (fun _ _ h => h))
              have HRV8 := Lib.hid (HRV7.out.kept hk8)
              have q1c := HC1.out _ HK8.out
              clear hk8 q0
              go_wp2
              go_roundg (l.length - (i2 + 1))
              case measure => have := HIJ2.out; omega
              case rel => exact ⟨i2 + 1, by have := HIJ2.out; omega, by go_num, HRV8.out, HK8.out⟩
            · clear hij2 hrv hk
              go_wp2
              go_ret
              exact ⟨rfl, HK7.out⟩
end Go.Proofs.YthjpoiemconeeaaDoor

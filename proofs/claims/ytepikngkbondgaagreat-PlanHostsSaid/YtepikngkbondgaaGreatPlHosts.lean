/- PlanHosts: the walk. -/
import Derived.Test.YtepikngkbondgaaGreatMg11
namespace Go.Proofs.YtepikngkbondgaaGreat
set_option linter.unusedVariables false
open Go.RowKit
open Go.ChangeMaps (setBlock)

set_option maxHeartbeats 16000000 in
set_option maxRecDepth 100000 in
theorem PlanHosts_walk (A : Option Addr) (n c : Nat) (rem k : Int) (Af : Option Addr) (nf cf : Nat) (routed : Bool) (t : Int) (tn : Nat) (l : List HV) (fs : List Fa) (w : World) (hl : l.length = n) (hs : Lo w w.heap.size 5 (.slice A n c) n (l.flatMap hvC)) (hin : ∀ x ∈ l, HoIn w x ∧ x.name.size ≤ 9223372036854775807)
    (hfl : fs.length = nf) (hf : Lo w w.heap.size 2 (.slice Af nf cf) nf (fs.flatMap fC)) (hfn : ∀ f ∈ fs, -9223372036854775808 ≤ f.2 ∧ f.2 < 9223372036854775808) (htn : tn < 18446744073709551616) :
    Calls Tryz.prog 3 #[.slice A n c, .int .i64 rem, .agg #[.int .i64 k, .slice Af nf cf], .bool routed, .int .i64 t, .int .u64 (tn : Int)] w fun e w' => e = .returned (.bool true) ∧ Kept noBlock w w' := by
  have HL := Lib.hid hl
  have HS := Lib.hid hs
  have HIN := Lib.hid hin
  have HFL := Lib.hid hfl
  have HF := Lib.hid hf
  have HFN := Lib.hid hfn
  have hnm : nf ≤ 9223372036854775807 := by obtain ⟨_, _, hv, h1, h2⟩ := hf.shape; cases hv; unfold maxLen at h2; omega
  have hbz : Blk (w.alloc (.cells #[.int .i64 k, .slice Af nf cf] 25)) w.heap.size 25 #[.int .i64 k, .slice Af nf cf] := Blk.new _ _ _
  have HBZ := Lib.hid hbz
  have HKZ : Hid (Kept noBlock w (w.alloc (.cells #[.int .i64 k, .slice Af nf cf] 25))) := Lib.hid ((Kept.refl _ _).alloc _)
  clear hl hs hin hfl hf hfn hbz
  go_enter Tryz.func3, Tryz.ntmps3
  go_wp2_with fail
  go_at_call 8
  refine (aw19_at _).mono ?_
  rintro e w1 ⟨rfl, hk1⟩
  have HK1 := Lib.hid (HKZ.out.trans hk1 fun _ _ e => e)
  have HB1 := Lib.hid (HBZ.out.kept hk1 fun e => e)
  clear hk1 HKZ HBZ
  go_wp2_with fail
  go_at_call 9
  refine (hcrowd_at (SlK.keptNone HS.out HK1.out) HL.out fun x hx => ⟨(HIN.out x hx).1.1, by
    obtain ⟨_, _, hv, h1, h2⟩ := (HIN.out x hx).1.2.shape
    cases hv; unfold maxLen at h2; omega⟩).mono ?_
  rintro e w2 ⟨rfl, rfl⟩
  generalize w.heap.size = bz at *
  cases hcr : crowdB l with
  | false =>
    clear hcr
    go_wp2_with fail
    go_ret
    exact ⟨rfl, HK1.out⟩
  | true =>
    obtain ⟨hc1, hc2⟩ := crowdB_true hcr
    have hn20 : n ≤ 20 := by have := HL.out; omega
    have HC2 := Lib.hid hc2
    clear hcr hc1 hc2
    have b0 := HB1.out.cell 0
    have b1 := HB1.out.cell 1
    simp only [List.getElem?_toArray, List.getElem?_cons_succ, List.getElem?_cons_zero] at b0 b1
    have hlf := (SlK.keptNone HF.out HK1.out).run_len facsT
    by_cases h5 : 5 < nf
    · go_wp2_with fail
      go_ret
      exact ⟨rfl, HK1.out⟩
    · go_wp2_with fail
      go_at_call 10
      refine (tab19_at HL.out hn20 (SlK.keptNone HS.out HK1.out).lo (fun x hx => ⟨⟨(HIN.out x hx).1.1, (SlK.keptNone (HIN.out x hx).1.2 HK1.out).lo⟩, (HIN.out x hx).2⟩) HC2.out).mono ?_
      rintro e w3 ⟨g, own, A3, n3, c3, l3, ok3, rfl, hT3, hr3, ho3, -, hk3⟩
      have HOK : Hid (HoOk (tabOf l) 20 20) := Lib.hid (refNow_ok (by rw [List.length_map]; have := HL.out; omega) fun o ho => by
        obtain ⟨x, hx, rfl⟩ := List.mem_map.1 ho
        exact HC2.out x hx)
      generalize tabOf l = S at *
      have hba : Blk (w3.alloc (.cells #[.string plD, .int .i64 rem, .slice A3 n3 c3] 32)) w3.heap.size 32 #[.string plD, .int .i64 rem, .slice A3 n3 c3] := Blk.new _ _ _
      have hka : Kept noBlock w3 (w3.alloc (.cells #[.string plD, .int .i64 rem, .slice A3 n3 c3] 32)) := (Kept.refl _ _).alloc _
      have hk1a := hk3.trans hka fun _ _ e => e
      have HB4 := Lib.hid (HB1.out.kept hk1a fun e => e)
      have HBA := Lib.hid hba
      have HK4 := Lib.hid (HK1.out.trans hk1a fun _ _ e => e)
      have HT4 := Lib.hid (hT3.kept hka fun _ _ e => e)
      have HOL : Hid (∀ k, own k → k < (w3.alloc (.cells #[.string plD, .int .i64 rem, .slice A3 n3 c3] 32)).heap.size) := Lib.hid fun k h => Nat.lt_of_lt_of_le (ho3 k h).2 hka.size
      have HR4 := Lib.hid (hr3.keptN hka)
      have HF4 := Lib.hid (SlK.keptNone HF.out HK4.out)
      clear hT3 hr3 ho3 hk3 hba hka hk1a b0 b1 HB1 HK1
      go_wp2_with fail
      generalize w3.heap.size = ba at *
      generalize w3.alloc (.cells #[.string plD, .int .i64 rem, .slice A3 n3 c3] 32) = w4 at *
      have b0 := HB4.out.cell 0
      have b1 := HB4.out.cell 1
      have a0 := HBA.out.cell 0
      have a1 := HBA.out.cell 1
      have a2 := HBA.out.cell 2
      simp only [List.getElem?_toArray, List.getElem?_cons_succ, List.getElem?_cons_zero] at b0 b1 a0 a1 a2
      refine wp_region_sch (fun w' => Kept noBlock w4 w') (.take 0 (.take 1 (.take 2 (.take 4 (.take 5 (.take 6 (.take 7 (.take 8 (.take 10 (.one 3 (.one 9 (.one 11 (.one 12 (.take 13 (.take 14 (.take 15 (.take 16 (.take 17 (.take 18 (.take 20 (.take 21 (.take 22 (.take 23 (.take 24 (.take 26 (.take 27 (.take 28 (.one 19 (.one 25 (.one 29 (.one 30 (.take 31 (.take 32 .nil))))))))))))))))))))))))))))))))) (by kernel_rfl) (by kernel_rfl) (by kernel_rfl) (Kept.refl _ _).drew ?_
      repeat (first
        | (refine sch_takeE rfl rfl ?_
           apply Exists.intro
           refine ⟨fun w' hS => ?_, fun K hK => ?_⟩
           · (have q0 := hS.cellOf b0
              have q1 := hS.cellOf b1
              have r0 := hS.cellOf a0
              have r1 := hS.cellOf a1
              have r2 := hS.cellOf a2
              clear hS
              unfold takesAt; go_simp; rfl)
           go_simp
           refine hK _ ?_
           clear hK K))
      refine sch_doK rfl rfl (fun K hK => ?_)
      go_simp
      go_at_call 12
      refine (plRepl_at (t := t) (.inr ⟨g, rfl, HT4.out.kept (Kept.refl noBlock w4).drew fun _ _ e => e⟩) HOK.out HF4.out HFL.out (by omega) HFN.out).mono ?_
      rintro e w5 ⟨A5, n5, c5, rfl, hn5, hb5, hs5, hk5⟩
      have hk5' := ((Kept.refl noBlock w4).drew).trans hk5 fun _ _ e => e
      refine hK _ _ hk5' ?_
      clear hK K
      have HS5 := Lib.hid hs5
      have HN5 := Lib.hid hn5
      have HK5 := Lib.hid hk5'
      have HRB : Hid ((replP S k fs t).length ≤ 40200) := Lib.hid (by omega)
      clear hs5 hn5 hk5 hk5'
      refine sch_doK rfl rfl (fun K hK => ?_)
      go_simp
      go_at_call 14
      refine (fac19_at (HF4.out.keptNone HK5.out) HFL.out (by omega)).mono ?_
      rintro e w6 ⟨A6, c6, rfl, hs6, hk6⟩
      have hk6' := HK5.out.trans hk6 fun _ _ e => e
      refine hK _ _ hk6' ?_
      clear hK K
      have HS6 := Lib.hid hs6
      have HS56 := Lib.hid (HS5.out.keptNone hk6)
      have HK6 := Lib.hid hk6'
      clear hs6 hk6 hk6' HS5 HK5
      refine sch_doK rfl rfl (fun K hK => ?_)
      go_simp
      go_at_call 13
      refine (R19Repl_at (t := t) (HR4.out.keptN HK6.out) HOK.out HS6.out HFL.out (by omega)).mono ?_
      rintro e w7 ⟨A7, n7, c7, rfl, hn7, hs7, hk7⟩
      have hk7' := HK6.out.trans hk7 fun _ _ e => e
      refine hK _ _ hk7' ?_
      clear hK K
      obtain rfl : n7 = n5 := hn7.trans HN5.out.symm
      have HS7 := Lib.hid hs7
      have HS57 := Lib.hid (HS56.out.keptNone hk7)
      have HK7 := Lib.hid hk7'
      clear hs7 hk7 hk7' hn7 HS56 HS6 HK6
      refine sch_doK rfl rfl (fun K hK => ?_)
      go_simp
      go_at_call 11
      refine (texts_at HS57.out HS7.out).mono ?_
      rintro e w8 ⟨rfl, hk8⟩
      have hk8' := HK7.out.trans hk8 fun _ _ e => e
      refine hK _ _ hk8' ?_
      clear hK K
      have HK8 := Lib.hid hk8'
      clear hk8 hk8' HS57 HS7 HK7
      repeat (first
        | (refine sch_takeE rfl rfl ?_
           apply Exists.intro
           refine ⟨fun w' hS => ?_, fun K hK => ?_⟩
           · (have q0 := hS.cellOf b0
              have q1 := hS.cellOf b1
              have r0 := hS.cellOf a0
              have r1 := hS.cellOf a1
              have r2 := hS.cellOf a2
              clear hS
              unfold takesAt; go_simp; rfl)
           go_simp
           refine hK _ ?_
           clear hK K))
      refine sch_doK rfl rfl (fun K hK => ?_)
      go_simp
      go_at_call 15
      refine (plPlan_at (t := t) (.inr ⟨g, rfl, HT4.out.kept HK8.out fun _ _ e => e⟩) (fun k h => Nat.lt_of_lt_of_le (HOL.out k h) HK8.out.size) HOK.out (HF4.out.keptNone HK8.out) HFL.out (by omega) HFN.out htn).mono ?_
      rintro e w9 ⟨A9, n9, c9, rfl, hn9, hs9, hk9⟩
      have hk9' := HK8.out.trans hk9 fun _ _ e => e
      refine hK _ _ hk9' ?_
      clear hK K
      have HS9 := Lib.hid (Sl.of_own hs9)
      have HN9 := Lib.hid hn9
      have HK9 := Lib.hid hk9'
      clear hs9 hn9 hk9 hk9' HK8
      refine sch_doK rfl rfl (fun K hK => ?_)
      go_simp
      go_at_call 14
      refine (fac19_at (HF4.out.keptNone HK9.out) HFL.out (by omega)).mono ?_
      rintro e w10 ⟨A10, c10, rfl, hs10, hk10⟩
      have hk10' := HK9.out.trans hk10 fun _ _ e => e
      refine hK _ _ hk10' ?_
      clear hK K
      have HS10 := Lib.hid hs10
      have HS910 := Lib.hid (HS9.out.keptNone hk10)
      have HK10 := Lib.hid hk10'
      clear hs10 hk10 hk10' HS9 HK9
      refine sch_doK rfl rfl (fun K hK => ?_)
      go_simp
      go_at_call 16
      refine (R19Plan_at (t := t) (HR4.out.keptN HK10.out) HOK.out HS10.out HFL.out (by omega) htn HRB.out).mono ?_
      rintro e w11 ⟨A11, n11, c11, rfl, hn11, hs11, hk11⟩
      have hk11' := HK10.out.trans hk11 fun _ _ e => e
      refine hK _ _ hk11' ?_
      clear hK K
      obtain rfl : n11 = n9 := hn11.trans HN9.out.symm
      have HS11 := Lib.hid hs11
      have HS911 := Lib.hid (HS910.out.keptNone hk11)
      have HK11 := Lib.hid hk11'
      clear hs11 hk11 hk11' hn11 HS910 HS10 HK10
      refine sch_doK rfl rfl (fun K hK => ?_)
      go_simp
      go_at_call 11
      refine (texts_at HS911.out HS11.out).mono ?_
      rintro e w12 ⟨rfl, hk12⟩
      have hk12' := HK11.out.trans hk12 fun _ _ e => e
      refine hK _ _ hk12' ?_
      clear hK K
      have HK12 := Lib.hid (HK4.out.trans hk12' fun _ _ e => e)
      clear hk12 hk12' HS911 HS11 HK11
      repeat (first
        | (refine sch_takeE rfl rfl ?_
           apply Exists.intro
           refine ⟨fun w' hS => ?_, fun K hK => ?_⟩
           · (have q0 := hS.cellOf b0
              have q1 := hS.cellOf b1
              have r0 := hS.cellOf a0
              have r1 := hS.cellOf a1
              have r2 := hS.cellOf a2
              clear hS
              unfold takesAt; go_simp; rfl)
           go_simp
           refine hK _ ?_
           clear hK K))
      refine sch_nil (NoPanic.normal ?_)
      go_wp2_with fail
      go_ret
      exact ⟨rfl, HK12.out⟩
end Go.Proofs.YtepikngkbondgaaGreat

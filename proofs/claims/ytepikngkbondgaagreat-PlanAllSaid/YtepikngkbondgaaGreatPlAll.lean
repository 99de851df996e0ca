/- PlanAll: the walk. -/
import Derived.Test.YtepikngkbondgaaGreatPlDown
import Derived.Test.YtepikngkbondgaaGreatPlAllP
namespace Go.Proofs.YtepikngkbondgaaGreat
set_option linter.unusedVariables false
open Go.RowKit
open Go.ChangeMaps (setBlock)

set_option maxHeartbeats 16000000 in
set_option maxRecDepth 100000 in
theorem PlanAll_walk (A : Option Addr) (n c : Nat) (rem k : Int) (Af : Option Addr) (nf cf : Nat) (t : Int) (tn : Nat) (l : List HV) (fs : List Fa) (w : World) (hl : l.length = n) (hs : Lo w w.heap.size 5 (.slice A n c) n (l.flatMap hvC)) (hin : ∀ x ∈ l, HoIn w x ∧ x.name.size ≤ 9223372036854775807)
    (hfl : fs.length = nf) (hf : Lo w w.heap.size 2 (.slice Af nf cf) nf (fs.flatMap fC)) (hfn : ∀ f ∈ fs, -9223372036854775808 ≤ f.2 ∧ f.2 < 9223372036854775808) (htn : tn < 18446744073709551616) :
    Calls Tryz.prog 4 #[.slice A n c, .int .i64 rem, .agg #[.int .i64 k, .slice Af nf cf], .int .i64 t, .int .u64 (tn : Int)] w fun e w' => e = .returned (.bool true) ∧ Kept noBlock w w' := by
  have HL := Lib.hid hl
  have HS := Lib.hid hs
  have HIN := Lib.hid hin
  have HFL := Lib.hid hfl
  have HF := Lib.hid hf
  have HFN := Lib.hid hfn
  have hnm : nf ≤ 9223372036854775807 := by obtain ⟨_, _, hv, h1, h2⟩ := hf.shape; cases hv; unfold maxLen at h2; omega
  have hbz : Blk (w.alloc (.cells #[.int .i64 k, .slice Af nf cf] 25)) w.heap.size 25 #[.int .i64 k, .slice Af nf cf] := Blk.new _ _ _
  have HBZ := Lib.hid hbz
  have HKZ : Hid (Kept noBlock w (w.alloc (.cells #[.int .i64 k, .slice Af nf cf] 25))) := Lib.hid ((Kept.refl _ _).alloc _)
  clear hl hs hin hfl hf hfn hbz
  go_enter Tryz.func4, Tryz.ntmps4
  go_wp2_with fail
  go_at_call 8
  refine (aw19_at _).mono ?_
  rintro e w1 ⟨rfl, hk1⟩
  have HK1 := Lib.hid (HKZ.out.trans hk1 fun _ _ e => e)
  have HB1 := Lib.hid (HBZ.out.kept hk1 fun e => e)
  clear hk1 HKZ HBZ
  go_wp2_with fail
  go_at_call 9
  refine (hcrowd_at (SlK.keptNone HS.out HK1.out) HL.out fun x hx => ⟨(HIN.out x hx).1.1, by
    obtain ⟨_, _, hv, h1, h2⟩ := (HIN.out x hx).1.2.shape
    cases hv; unfold maxLen at h2; omega⟩).mono ?_
  rintro e w2 ⟨rfl, rfl⟩
  generalize hBZ : w.heap.size = bz at *
  have HBE := Lib.hid hBZ
  clear hBZ
  cases hcr : crowdB l with
  | false =>
    clear hcr
    go_wp2_with fail
    go_ret
    exact ⟨rfl, HK1.out⟩
  | true =>
    obtain ⟨hc1, hc2⟩ := crowdB_true hcr
    have hn20 : n ≤ 20 := by have := HL.out; omega
    have HC2 := Lib.hid hc2
    clear hcr hc1 hc2
    have b0 := HB1.out.cell 0
    have b1 := HB1.out.cell 1
    simp only [List.getElem?_toArray, List.getElem?_cons_succ, List.getElem?_cons_zero] at b0 b1
    have hlf := (SlK.keptNone HF.out HK1.out).run_len facsT
    by_cases h5 : 5 < nf
    · go_wp2_with fail
      go_ret
      exact ⟨rfl, HK1.out⟩
    · go_wp2_with fail
      go_at_call 10
      refine (tab19_at HL.out hn20 (SlK.keptNone HS.out HK1.out).lo (fun x hx => ⟨⟨(HIN.out x hx).1.1, (SlK.keptNone (HIN.out x hx).1.2 HK1.out).lo⟩, (HIN.out x hx).2⟩) HC2.out).mono ?_
      rintro e w3 ⟨g, own, A3, n3, c3, l3, ok3, rfl, hT3, hr3, ho3, -, hk3⟩
      have HOK : Hid (HoOk (tabOf l) 20 20) := Lib.hid (refNow_ok (by rw [List.length_map]; have := HL.out; omega) fun o ho => by
        obtain ⟨x, hx, rfl⟩ := List.mem_map.1 ho
        exact HC2.out x hx)
      generalize tabOf l = S at *
      have hba : Blk (w3.alloc (.cells #[.string plD, .int .i64 rem, .slice A3 n3 c3] 32)) w3.heap.size 32 #[.string plD, .int .i64 rem, .slice A3 n3 c3] := Blk.new _ _ _
      have hka : Kept noBlock w3 (w3.alloc (.cells #[.string plD, .int .i64 rem, .slice A3 n3 c3] 32)) := (Kept.refl _ _).alloc _
      have hk1a := hk3.trans hka fun _ _ e => e
      have HB4 := Lib.hid (HB1.out.kept hk1a fun e => e)
      have HK4 := Lib.hid (HK1.out.trans hk1a fun _ _ e => e)
      have HT4 := Lib.hid (hT3.kept hka fun _ _ e => e)
      have HOL : Hid (∀ k, own k → k < (w3.alloc (.cells #[.string plD, .int .i64 rem, .slice A3 n3 c3] 32)).heap.size) := Lib.hid fun k h => Nat.lt_of_lt_of_le (ho3 k h).2 hka.size
      have HOG : Hid (∀ k, own k → w2.heap.size ≤ k) := Lib.hid fun k h => (ho3 k h).1
      have HF4 := Lib.hid (SlK.keptNone HF.out HK4.out)
      have HBO : Hid (¬ own bz) := Lib.hid fun h => by have h1 := (ho3 _ h).1; have := HB1.out.lt; omega
      have HK14 := Lib.hid hk1a
      clear hT3 hr3 ho3 hk3 hba hka hk1a b0 b1 HB1
      have b0 := HB4.out.cell 0
      have b1 := HB4.out.cell 1
      simp only [List.getElem?_toArray, List.getElem?_cons_succ, List.getElem?_cons_zero] at b0 b1
      go_wp2_with fail
      generalize w3.heap.size = ba at *
      generalize w3.alloc (.cells #[.string plD, .int .i64 rem, .slice A3 n3 c3] 32) = w4 at *
      have ST : Hid (DownSt w w4 bz g own rem k Af nf cf fs S w4.heap.size) := Lib.hid ⟨HK4.out, HB4.out, HT4.out, fun k h => Nat.le_trans HK1.out.size (HOG.out k h), HOL.out, Nat.le_refl _, HBO.out, HF4.out.any fun _ _ _ h => by rw [HBE.out]; exact h, HOK.out⟩
      have HOG4 : Hid (∀ k, own k → k < w4.heap.size) := Lib.hid HOL.out
      clear HB4 HK4 HT4 HOL HOG HF4 HBO HK14 HOK HK1 HF HS
      clear b0 b1
      go_at_call 15
      refine (plPlan_at (routed := true) (t := t) (.inr ⟨g, rfl, ST.out.tab⟩) (fun k h => Nat.lt_of_lt_of_le (ST.out.high k h) ST.out.bB) ST.out.ok ST.out.fa HFL.out (by omega) HFN.out htn).mono ?_
      rintro e w5 ⟨A5, n5, c5, rfl, hn5, hr5, hk5⟩
      have ST5 := Lib.hid (ST.out.keptN hk5)
      have HS5 := Lib.hid (Sl.of_own hr5)
      have HN5 := Lib.hid hn5
      have b0 := ST5.out.ks.cell 0
      have b1 := ST5.out.ks.cell 1
      simp only [List.getElem?_toArray, List.getElem?_cons_succ, List.getElem?_cons_zero] at b0 b1
      clear hr5 hn5 hk5 ST
      go_wp2_with fail
      go_at_call 12
      refine (plRepl_at (t := t) (.inr ⟨g, rfl, ST5.out.tab⟩) ST5.out.ok ST5.out.fa HFL.out (by omega) HFN.out).mono ?_
      rintro e w6 ⟨A6, n6, c6, rfl, hn6, hn6b, hs6, hk6⟩
      have ST6 := Lib.hid (ST5.out.keptN hk6)
      have HS56 := Lib.hid (HS5.out.keptNone hk6)
      have HS6 := Lib.hid hs6
      have HN6 := Lib.hid hn6
      clear hs6 hn6 hk6 ST5 HS5 b0 b1
      go_wp2_with fail
      go_at_call 17
      refine (hAll_told ST6.out.tab (Nat.le_trans ST6.out.ok.len (by decide)) fun o ho => Nat.le_trans (ST6.out.ok.tk o ho) (by decide)).mono ?_
      rintro e w7 ⟨A7, n7, c7, T, rfl, hto, hk7⟩
      have hl7 := (Sl.of_own hto.row).run_len hostsT
      have HSN : Hid (S.length = n7) := Lib.hid hto.slen
      have hn7 : n7 ≤ 20 := by have := ST6.out.ok.len; have := hto.slen; omega
      have ST7 := Lib.hid (ST6.out.keptN hk7)
      have HTO := Lib.hid hto
      have HP7 := Lib.hid (HS56.out.keptNone hk7)
      have HR7 := Lib.hid (HS6.out.keptNone hk7)
      have hlp := HP7.out.run_len strsT
      have HRIS := Lib.hid ST7.out.ok.ris
      have hn5b : n5 ≤ 20 := by rw [HN5.out]; exact Nat.le_trans (plan_len HRIS.out) ST7.out.ok.len
      have HPH : Hid (∀ (i : Nat) (o : Ho), S[i]? = some o → has (planP plD rem S k fs true t tn) o.name = (o.up && !decide (distP plD rem S o.name = 0))) := Lib.hid fun i o h => plan_has HRIS.out true h
      have HCT : Hid ((planP plD rem S k fs true t tn).length = (S.filter fun o => has (planP plD rem S k fs true t tn) o.name).length) := Lib.hid (plan_count HRIS.out true)
      have HOD : Hid (∀ (i : Nat) (a b : ByteArray), (planP plD rem S k fs true t tn)[i]? = some a → (planP plD rem S k fs true t tn)[i + 1]? = some b → (distP plD rem S a = 2 → distP plD rem S b ≠ 1) ∧ (distP plD rem S b = 1 → has (replP S k fs t) b = true → has (replP S k fs t) a = true)) := Lib.hid fun i a b ha hb => plan_order HRIS.out ha hb
      generalize planP plD rem S k fs true t tn = P at *
      generalize replP S k fs t = R at *
      clear hto hk7 ST6 HS56 HS6
      go_wp2_with fail
      go_loopg [18, 19] n7 (fun j vn vi wr => ∃ i : Nat, i + j = n7 ∧ vi = .int .i64 i ∧ vn = .int .i64 (cntP P S i : Nat) ∧ Kept noBlock w7 wr)
      case atStart => exact ⟨0, by omega, rfl, rfl, Kept.refl _ _⟩
      case round =>
        obtain ⟨i, hij, rfl, rfl, hk⟩ := hrel
        have HIJ := Lib.hid hij
        have HK := Lib.hid hk
        by_cases hi : i < n7
        · obtain ⟨o, ho⟩ : ∃ o, S[i]? = some o := ⟨_, List.getElem?_eq_getElem (by have := HSN.out; omega)⟩
          obtain ⟨xx, gx, ox, -, -, hidx, y0, y1, y2, y3, y4⟩ := (HTO.out.keptN hk).at ho
          have HCS := Lib.hid (cnt_step (P := P) ho)
          have HH := Lib.hid (HPH.out i o ho)
          have hcl := cnt_le P S i
          obtain ⟨on, od, orr, ot, ou⟩ := o
          simp only [] at y0 y4 HH HCS
          generalize cntP P S i = M at *
          clear hij hk ho y1 y2 y3
          go_wp2_with fail
          go_at_call 18
          refine (R3Has_at (l := P) (s := on) (by rw [← HN5.out]; exact HP7.out.keptNone HK.out) (by have := HN5.out; omega)).mono ?_
          rintro e w8 ⟨rfl, rfl⟩
          cases ou with
          | false =>
            have hh : has P on = false := HH.out
            have HC1 : Hid (cntP P S (i + 1) = M) := Lib.hid (by rw [HCS.out, hh]; rfl)
            rw [hh]
            clear hh
            go_wp2_with fail
            go_roundg (n7 - (i + 1))
            case measure => have := HIJ.out; omega
            case rel => exact ⟨i + 1, by have := HIJ.out; omega, by go_num, by rw [HC1.out], HK.out⟩
          | true =>
            have hhe : has P on = !decide (distP plD rem S on = 0) := HH.out
            cases hh : has P on with
            | false =>
              have hd0 : distP plD rem S on = 0 := by rw [hh] at hhe; simpa using hhe.symm
              have HC1 : Hid (cntP P S (i + 1) = M) := Lib.hid (by rw [HCS.out, hh]; rfl)
              clear hh hhe
              go_wp2_with fail
              go_at_call 19
              refine (hDist_at (ST7.out.tab.kept HK.out fun _ _ e => e) on (Nat.le_trans ST7.out.ok.len (by decide))).mono ?_
              rw [hd0]
              rintro e w9 ⟨rfl, hk9⟩
              have HK9 := Lib.hid (HK.out.trans hk9 fun _ _ e => e)
              clear hk9 hd0 hidx y0 y4
              go_wp2_with fail
              go_roundg (n7 - (i + 1))
              case measure => have := HIJ.out; omega
              case rel => exact ⟨i + 1, by have := HIJ.out; omega, by go_num, by rw [HC1.out], HK9.out⟩
            | true =>
              have hd0 : distP plD rem S on ≠ 0 := by rw [hh] at hhe; simpa using hhe.symm
              have HC1 : Hid (cntP P S (i + 1) = M + 1) := Lib.hid (by rw [HCS.out, hh]; rfl)
              have hde : (distP plD rem S on != 0) = true := by simpa using hd0
              clear hh hhe
              go_wp2_with fail
              go_at_call 19
              refine (hDist_at (ST7.out.tab.kept HK.out fun _ _ e => e) on (Nat.le_trans ST7.out.ok.len (by decide))).mono ?_
              generalize distP plD rem S on = dx at *
              rintro e w9 ⟨rfl, hk9⟩
              have HK9 := Lib.hid (HK.out.trans hk9 fun _ _ e => e)
              clear hk9 hd0 hidx y0 y4
              go_wp2_with fail
              go_roundg (n7 - (i + 1))
              case measure => have := HIJ.out; omega
              case rel => exact ⟨i + 1, by have := HIJ.out; omega, by go_num, by rw [HC1.out]; go_num, HK9.out⟩
        · obtain rfl : i = n7 := by omega
          have hM : cntP P S i = n5 := by
            rw [HN5.out, HCT.out]
            unfold cntP
            rw [List.take_of_length_le (Nat.le_of_eq HSN.out)]
          rw [hM]
          have hne : ((n5 : Int) != (n5 : Int)) = false := by simp
          have ST8 := Lib.hid (ST7.out.keptN hk)
          have HP8 := Lib.hid (HP7.out.keptNone hk)
          have HR8 := Lib.hid (HR7.out.keptNone hk)
          clear hij hk hM HK HTO ST7 HP7 HR7
          go_wp2_with fail
          clear hne
          obtain ⟨wq, rfl⟩ : ∃ wq : World, wq = wr := ⟨_, rfl⟩
          go_loopg [21] n5 (fun j vi wr => ∃ m : Nat, m + j = n5 + 1 ∧ 1 ≤ m ∧ vi = .int .i64 m ∧ Kept noBlock wq wr)
          case atStart => exact ⟨1, by omega, Nat.le_refl _, rfl, Kept.refl _ _⟩
          case round =>
            obtain ⟨m, hmj, hm1, rfl, hk⟩ := hrel
            have HMJ := Lib.hid hmj
            have HK := Lib.hid hk
            by_cases hm : m < n5
            · obtain ⟨a, ha⟩ : ∃ a, P[m - 1]? = some a := ⟨_, List.getElem?_eq_getElem (by have := HN5.out; omega)⟩
              obtain ⟨b, hb⟩ : ∃ b, P[m]? = some b := ⟨_, List.getElem?_eq_getElem (by have := HN5.out; omega)⟩
              obtain ⟨ga, oa, hia, -, ca⟩ := str_at (HP8.out.keptNone hk) ha
              obtain ⟨gb, ob, hib, -, cb⟩ := str_at (HP8.out.keptNone hk) hb
              rw [show ((m - 1 : Nat) : Int) = (m : Int) - 1 by omega] at hia
              have hod := HOD.out (m - 1) a b ha (by rw [show m - 1 + 1 = m by omega]; exact hb)
              have HODD := Lib.hid hod
              have hw1 : IntKind.i64.wrap ((m : Int) - 1) = (m : Int) - 1 := by rw [IntKind.wrap_i64]; omega
              clear hmj hk ha hb hod
              go_wp2_with fail
              go_at_call 19
              refine (hDist_at (ST8.out.tab.kept HK.out fun _ _ e => e) a (Nat.le_trans ST8.out.ok.len (by decide))).mono ?_
              rintro e w9 ⟨rfl, hk9⟩
              have HK9 := Lib.hid (HK.out.trans hk9 fun _ _ e => e)
              have cb9 := hk9.cellOf cb
              have ca9 := hk9.cellOf ca
              clear hk9 cb
              go_wp2_with fail
              go_at_call 19
              refine (hDist_at (ST8.out.tab.kept HK9.out fun _ _ e => e) b (Nat.le_trans ST8.out.ok.len (by decide))).mono ?_
              rintro e w10 ⟨rfl, hk10⟩
              have HK10 := Lib.hid (HK9.out.trans hk10 fun _ _ e => e)
              have cb10 := hk10.cellOf cb9
              have ca10 := hk10.cellOf ca9
              clear hk10 cb9 ca9 ca
              by_cases h2 : distP plD rem S a = 2
              · have hb1 : (distP plD rem S b == 1) = false := by simpa using HODD.out.1 h2
                rw [h2]
                generalize distP plD rem S b = db at hb1 ⊢
                clear h2
                go_wp2_with fail
                go_roundg (n5 - m)
                case measure => have := HMJ.out; omega
                case rel => exact ⟨m + 1, by have := HMJ.out; omega, by omega, by go_num, HK10.out⟩
              · have ha2 : (distP plD rem S a == 2) = false := by simpa using h2
                by_cases h1 : distP plD rem S b = 1
                · have hr := HODD.out.2 h1
                  have HRR := Lib.hid hr
                  rw [h1]
                  generalize distP plD rem S a = da at ha2 ⊢
                  clear h2 h1 hr
                  go_wp2_with fail
                  go_at_call 18
                  refine (R3Has_at (l := R) (s := b) (by rw [← HN6.out]; exact HR8.out.keptNone HK10.out) (by have := HN6.out; omega)).mono ?_
                  rintro e w11 ⟨rfl, rfl⟩
                  cases hrb : has R b with
                  | false =>
                    clear hrb
                    go_wp2_with fail
                    go_roundg (n5 - m)
                    case measure => have := HMJ.out; omega
                    case rel => exact ⟨m + 1, by have := HMJ.out; omega, by omega, by go_num, HK10.out⟩
                  | true =>
                    have hra := HRR.out hrb
                    clear hrb
                    go_wp2_with fail
                    go_at_call 18
                    refine (R3Has_at (l := R) (s := a) (by rw [← HN6.out]; exact HR8.out.keptNone HK10.out) (by have := HN6.out; omega)).mono ?_
                    rintro e w12 ⟨rfl, rfl⟩
                    rw [hra]
                    clear hra
                    go_wp2_with fail
                    go_roundg (n5 - m)
                    case measure => have := HMJ.out; omega
                    case rel => exact ⟨m + 1, by have := HMJ.out; omega, by omega, by go_num, HK10.out⟩
                · have hb1 : (distP plD rem S b == 1) = false := by simpa using h1
                  generalize distP plD rem S a = da at ha2 ⊢
                  generalize distP plD rem S b = db at hb1 ⊢
                  clear h2 h1
                  go_wp2_with fail
                  go_roundg (n5 - m)
                  case measure => have := HMJ.out; omega
                  case rel => exact ⟨m + 1, by have := HMJ.out; omega, by omega, by go_num, HK10.out⟩
            · have ST9 := Lib.hid (ST8.out.keptN hk)
              have b0 := ST9.out.ks.cell 0
              have b1 := ST9.out.ks.cell 1
              simp only [List.getElem?_toArray, List.getElem?_cons_succ, List.getElem?_cons_zero] at b0 b1
              clear hmj hk HK
              go_wp2_with fail
              go_at_call 15
              refine (plPlan_at (own := fun _ => False) (dc := plD) (rem := rem) (S := []) (routed := true) (t := t) (.inl ⟨rfl, rfl⟩) (fun k h => h.elim) ⟨.nil, by decide, by simp, by simp, by simp⟩ ST9.out.fa HFL.out (by omega) HFN.out htn).mono ?_
              rw [plan_nil]
              rintro e w10 ⟨A10, n10, c10, rfl, hn10, hr10, hk10⟩
              have hn10' : n10 = 0 := hn10
              clear hn10; subst hn10'
              have HK10 := Lib.hid (ST9.out.kept.trans hk10 fun _ _ e => e)
              have hl10 := (Sl.of_own hr10).run_len strsT
              clear hr10 hk10
              go_wp2_with fail
              go_ret
              exact ⟨rfl, HK10.out⟩
end Go.Proofs.YtepikngkbondgaaGreat

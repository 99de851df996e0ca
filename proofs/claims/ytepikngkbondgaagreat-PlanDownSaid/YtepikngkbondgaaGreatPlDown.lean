/- PlanDown: the walk. -/
import Derived.Test.YtepikngkbondgaaGreatMg11
import Derived.Test.YtepikngkbondgaaGreatPlDownP
namespace Go.Proofs.YtepikngkbondgaaGreat
set_option linter.unusedVariables false
open Go.RowKit
open Go.ChangeMaps (setBlock)

/-- A table that is marked, and asked for plans. -/
structure DownSt (w W : World) (bz g : Nat) (own : Nat → Prop) (rem k : Int) (Af : Option Addr) (nf cf : Nat) (fs : List Fa) (S : List Ho) (B : Nat) : Prop where
  kept : Kept noBlock w W
  ks : Blk W bz 25 #[.int .i64 k, .slice Af nf cf]
  tab : TabS W own g plD rem S
  low : ∀ k, own k → w.heap.size ≤ k
  high : ∀ k, own k → k < B
  bB : B ≤ W.heap.size
  bo : ¬ own bz
  fa : SlK W (fun k _ => k < w.heap.size) 2 (.slice Af nf cf) nf (fs.flatMap fC)
  ok : HoOk S 20 20
section
variable {w W W' : World} {bz g : Nat} {own : Nat → Prop} {rem k : Int} {Af : Option Addr} {nf cf : Nat} {fs : List Fa} {S S' : List Ho} {B : Nat}
theorem DownSt.keptN (h : DownSt w W bz g own rem k Af nf cf fs S B) (hk : Kept noBlock W W') : DownSt w W' bz g own rem k Af nf cf fs S B :=
  ⟨h.kept.trans hk fun _ _ e => e, h.ks.kept hk (fun e => e), h.tab.kept hk (fun _ _ e => e), h.low, h.high, Nat.le_trans h.bB hk.size, h.bo, h.fa.keptNone hk, h.ok⟩
theorem DownSt.mark (h : DownSt w W bz g own rem k Af nf cf fs S B) (hk : Kept own W W') (hT : TabS W' own g plD rem S') (ho : HoOk S' 20 20) : DownSt w W' bz g own rem k Af nf cf fs S' B :=
  ⟨h.kept.grew hk h.low, h.ks.kept hk h.bo, hT, h.low, h.high, Nat.le_trans h.bB hk.size, h.bo, h.fa.keptAll hk (fun k _ hl e => by have := h.low k e; omega), ho⟩
/-- A plan that was made stays, whatever is marked. -/
theorem row_mark {w0 : World} {A : Option Addr} {n c : Nat} {xs : List Value} (h : W.ownsRow w0.heap.size 9 1 (.slice A n c) n xs) (hk : Kept own W W') (ho : ∀ k, own k → k < w0.heap.size) : W'.ownsRow w0.heap.size 9 1 (.slice A n c) n xs :=
  own_keptB h hk fun k e e2 => by have := (own_type h e).1; have := ho k e2; omega
end
set_option maxHeartbeats 16000000 in
set_option maxRecDepth 100000 in
theorem PlanDown_walk (A : Option Addr) (n c : Nat) (rem k : Int) (Af : Option Addr) (nf cf : Nat) (t : Int) (tn : Nat) (x : ByteArray) (l : List HV) (fs : List Fa) (w : World) (hl : l.length = n) (hs : Lo w w.heap.size 5 (.slice A n c) n (l.flatMap hvC)) (hin : ∀ x ∈ l, HoIn w x ∧ x.name.size ≤ 9223372036854775807)
    (hfl : fs.length = nf) (hf : Lo w w.heap.size 2 (.slice Af nf cf) nf (fs.flatMap fC)) (hfn : ∀ f ∈ fs, -9223372036854775808 ≤ f.2 ∧ f.2 < 9223372036854775808) (htn : tn < 18446744073709551616) :
    Calls Tryz.prog 7 #[.slice A n c, .int .i64 rem, .agg #[.int .i64 k, .slice Af nf cf], .int .i64 t, .int .u64 (tn : Int), .string x] w fun e w' => e = .returned (.bool true) ∧ Kept noBlock w w' := by
  have HL := Lib.hid hl
  have HS := Lib.hid hs
  have HIN := Lib.hid hin
  have HFL := Lib.hid hfl
  have HF := Lib.hid hf
  have HFN := Lib.hid hfn
  have hnm : nf ≤ 9223372036854775807 := by obtain ⟨_, _, hv, h1, h2⟩ := hf.shape; cases hv; unfold maxLen at h2; omega
  have hbz : Blk (w.alloc (.cells #[.int .i64 k, .slice Af nf cf] 25)) w.heap.size 25 #[.int .i64 k, .slice Af nf cf] := Blk.new _ _ _
  have HBZ := Lib.hid hbz
  have HKZ : Hid (Kept noBlock w (w.alloc (.cells #[.int .i64 k, .slice Af nf cf] 25))) := Lib.hid ((Kept.refl _ _).alloc _)
  clear hl hs hin hfl hf hfn hbz
  go_enter Tryz.func7, Tryz.ntmps7
  go_wp2_with fail
  go_at_call 8
  refine (aw19_at _).mono ?_
  rintro e w1 ⟨rfl, hk1⟩
  have HK1 := Lib.hid (HKZ.out.trans hk1 fun _ _ e => e)
  have HB1 := Lib.hid (HBZ.out.kept hk1 fun e => e)
  clear hk1 HKZ HBZ
  go_wp2_with fail
  go_at_call 9
  refine (hcrowd_at (SlK.keptNone HS.out HK1.out) HL.out fun x hx => ⟨(HIN.out x hx).1.1, by
    obtain ⟨_, _, hv, h1, h2⟩ := (HIN.out x hx).1.2.shape
    cases hv; unfold maxLen at h2; omega⟩).mono ?_
  rintro e w2 ⟨rfl, rfl⟩
  generalize hBZ : w.heap.size = bz at *
  have HBE := Lib.hid hBZ
  clear hBZ
  cases hcr : crowdB l with
  | false =>
    clear hcr
    go_wp2_with fail
    go_ret
    exact ⟨rfl, HK1.out⟩
  | true =>
    obtain ⟨hc1, hc2⟩ := crowdB_true hcr
    have hn20 : n ≤ 20 := by have := HL.out; omega
    have HC2 := Lib.hid hc2
    clear hcr hc1 hc2
    have b0 := HB1.out.cell 0
    have b1 := HB1.out.cell 1
    simp only [List.getElem?_toArray, List.getElem?_cons_succ, List.getElem?_cons_zero] at b0 b1
    have hlf := (SlK.keptNone HF.out HK1.out).run_len facsT
    by_cases h5 : 5 < nf
    · go_wp2_with fail
      go_ret
      exact ⟨rfl, HK1.out⟩
    · go_wp2_with fail
      go_at_call 10
      refine (tab19_at HL.out hn20 (SlK.keptNone HS.out HK1.out).lo (fun x hx => ⟨⟨(HIN.out x hx).1.1, (SlK.keptNone (HIN.out x hx).1.2 HK1.out).lo⟩, (HIN.out x hx).2⟩) HC2.out).mono ?_
      rintro e w3 ⟨g, own, A3, n3, c3, l3, ok3, rfl, hT3, hr3, ho3, -, hk3⟩
      have HOK : Hid (HoOk (tabOf l) 20 20) := Lib.hid (refNow_ok (by rw [List.length_map]; have := HL.out; omega) fun o ho => by
        obtain ⟨x, hx, rfl⟩ := List.mem_map.1 ho
        exact HC2.out x hx)
      generalize tabOf l = S at *
      have hba : Blk (w3.alloc (.cells #[.string plD, .int .i64 rem, .slice A3 n3 c3] 32)) w3.heap.size 32 #[.string plD, .int .i64 rem, .slice A3 n3 c3] := Blk.new _ _ _
      have hka : Kept noBlock w3 (w3.alloc (.cells #[.string plD, .int .i64 rem, .slice A3 n3 c3] 32)) := (Kept.refl _ _).alloc _
      have hk1a := hk3.trans hka fun _ _ e => e
      have HB4 := Lib.hid (HB1.out.kept hk1a fun e => e)
      have HK4 := Lib.hid (HK1.out.trans hk1a fun _ _ e => e)
      have HT4 := Lib.hid (hT3.kept hka fun _ _ e => e)
      have HOL : Hid (∀ k, own k → k < (w3.alloc (.cells #[.string plD, .int .i64 rem, .slice A3 n3 c3] 32)).heap.size) := Lib.hid fun k h => Nat.lt_of_lt_of_le (ho3 k h).2 hka.size
      have HOG : Hid (∀ k, own k → w2.heap.size ≤ k) := Lib.hid fun k h => (ho3 k h).1
      have HF4 := Lib.hid (SlK.keptNone HF.out HK4.out)
      have HBO : Hid (¬ own bz) := Lib.hid fun h => by have h1 := (ho3 _ h).1; have := HB1.out.lt; omega
      have HK14 := Lib.hid hk1a
      clear hT3 hr3 ho3 hk3 hba hka hk1a b0 b1 HB1
      go_wp2_with fail
      generalize w3.heap.size = ba at *
      generalize w3.alloc (.cells #[.string plD, .int .i64 rem, .slice A3 n3 c3] 32) = w4 at *
      have ST : Hid (DownSt w w4 bz g own rem k Af nf cf fs S w4.heap.size) := Lib.hid ⟨HK4.out, HB4.out, HT4.out, fun k h => Nat.le_trans HK1.out.size (HOG.out k h), HOL.out, Nat.le_refl _, HBO.out, HF4.out.any fun _ _ _ h => by rw [HBE.out]; exact h, HOK.out⟩
      have HOG4 : Hid (∀ k, own k → k < w4.heap.size) := Lib.hid HOL.out
      clear HB4 HK4 HT4 HOL HOG HF4 HBO HK14 HOK HK1 HF HS
      go_at_call 20
      refine (hMark_at ST.out.tab x true).mono ?_
      rintro e w5 ⟨rfl, hT5, hk5⟩
      have ST5 := Lib.hid (ST.out.mark hk5 hT5 (ST.out.ok.mark x true))
      rw [mark_map S ST.out.ok.ris] at ST5
      generalize hS1 : S.map (setUp x true) = S1 at *
      have HS1 := Lib.hid hS1
      have b0 := ST5.out.ks.cell 0
      have b1 := ST5.out.ks.cell 1
      simp only [List.getElem?_toArray, List.getElem?_cons_succ, List.getElem?_cons_zero] at b0 b1
      have HK45 := Lib.hid hk5.size
      clear hT5 hk5 hS1 ST
      generalize (markP S x true).2 = bv at *
      go_wp2_with fail
      go_at_call 15
      refine (plPlan_at (routed := true) (t := t) (.inr ⟨g, rfl, ST5.out.tab⟩) (fun k h => Nat.lt_of_lt_of_le (ST5.out.high k h) ST5.out.bB) ST5.out.ok ST5.out.fa HFL.out (by omega) HFN.out htn).mono ?_
      rintro e w6 ⟨A6, n6, c6, rfl, hn6, hr6, hk6⟩
      have ST6 := Lib.hid (ST5.out.keptN hk6)
      have HR6 := Lib.hid hr6
      have HN6 := Lib.hid hn6
      have HOW5 : Hid (∀ k, own k → k < w5.heap.size) := Lib.hid fun k h => Nat.lt_of_lt_of_le (HOG4.out k h) HK45.out
      have HKX6 := Lib.hid hk6.size
      clear hr6 hn6 hk6 b0 b1 ST5 HK45
      go_wp2_with fail
      go_at_call 20
      refine (hMark_at ST6.out.tab x false).mono ?_
      rintro e w7 ⟨rfl, hT7, hk7⟩
      have ST7 := Lib.hid (ST6.out.mark hk7 hT7 (ST6.out.ok.mark x false))
      rw [mark_map S1 ST6.out.ok.ris] at ST7
      have HR7 := Lib.hid (row_mark HR6.out hk7 HOW5.out)
      have b0 := ST7.out.ks.cell 0
      have b1 := ST7.out.ks.cell 1
      simp only [List.getElem?_toArray, List.getElem?_cons_succ, List.getElem?_cons_zero] at b0 b1
      have HOW7 : Hid (∀ k, own k → k < w7.heap.size) := Lib.hid fun k h => Nat.lt_of_lt_of_le (HOW5.out k h) (Nat.le_trans HKX6.out hk7.size)
      clear hT7 hk7 ST6 HR6
      generalize (markP S1 x false).2 = bv7 at *
      go_wp2_with fail
      go_at_call 15
      refine (plPlan_at (routed := true) (t := t) (.inr ⟨g, rfl, ST7.out.tab⟩) (fun k h => Nat.lt_of_lt_of_le (ST7.out.high k h) ST7.out.bB) ST7.out.ok ST7.out.fa HFL.out (by omega) HFN.out htn).mono ?_
      rw [plan_down]
      rintro e w8 ⟨A8, n8, c8, rfl, hn8, hr8, hk8⟩
      have ST8 := Lib.hid (ST7.out.keptN hk8)
      have HR8 := Lib.hid hr8
      have HR68 := Lib.hid (own_keptB HR7.out hk8 fun _ _ e => e)
      have HKX8 := Lib.hid hk8.size
      clear hr8 hn8 hk8 b0 b1 ST7 HR7
      go_wp2_with fail
      go_at_call 20
      refine (hMark_at ST8.out.tab x true).mono ?_
      rintro e w9 ⟨rfl, hT9, hk9⟩
      have ST9 := Lib.hid (ST8.out.mark hk9 hT9 (ST8.out.ok.mark x true))
      rw [mark_map _ ST8.out.ok.ris, ← HS1.out, mark_again, HS1.out] at ST9
      have HR69 := Lib.hid (row_mark HR68.out hk9 HOW5.out)
      have HR9 := Lib.hid (row_mark HR8.out hk9 HOW7.out)
      have b0 := ST9.out.ks.cell 0
      have b1 := ST9.out.ks.cell 1
      simp only [List.getElem?_toArray, List.getElem?_cons_succ, List.getElem?_cons_zero] at b0 b1
      clear hT9 hk9 ST8 HR68 HR8
      generalize (markP (S1.map (setUp x false)) x true).2 = bv9 at *
      go_wp2_with fail
      go_at_call 15
      refine (plPlan_at (routed := true) (t := t) (.inr ⟨g, rfl, ST9.out.tab⟩) (fun k h => Nat.lt_of_lt_of_le (ST9.out.high k h) ST9.out.bB) ST9.out.ok ST9.out.fa HFL.out (by omega) HFN.out htn).mono ?_
      rintro e w10 ⟨A10, n10, c10, rfl, hn10, hr10, hk10⟩
      have HSR := Lib.hid (Sl.of_own hr10)
      have HSP := Lib.hid (Sl.of_own (own_keptB HR69.out hk10 fun _ _ e => e)).lo
      have HSQ := Lib.hid (Sl.of_own (own_keptB HR9.out hk10 fun _ _ e => e))
      have HK10 := Lib.hid (ST9.out.kept.trans hk10 fun _ _ e => e)
      have hlp := HSP.out.run_len strsT
      have hn6b : n6 ≤ 1000000 := by rw [HN6.out]; exact Nat.le_trans (plan_len ST9.out.ok.ris) (Nat.le_trans ST9.out.ok.len (by decide))
      clear hr10 hn10 hk10 b0 b1 ST9 HR69 HR9 HOW5 HOW7 HOG4 HKX6 HKX8
      generalize planP plD rem S1 k fs true t tn = P at *
      go_wp2_with fail
      go_loopg [20, 21] n6 (fun j vs vi wr => ∃ (i : Nat) (A7 : Option Addr) (k7 c7 : Nat), i + j = n6 ∧ vi = .int .i64 i ∧ vs = .slice A7 k7 c7 ∧ wr.ownsRow w10.heap.size 9 1 (.slice A7 k7 c7) k7 ((butN x (P.take i)).map Value.string) ∧ Kept noBlock w10 wr ∧ k7 ≤ i)
      case atStart => exact ⟨0, none, 0, 0, by omega, rfl, rfl, World.ownsRow_nil _ _ _ _, Kept.refl _ _, Nat.le_refl _⟩
      case round =>
        obtain ⟨i, A7, k7, c7, hij, rfl, rfl, hown, hk, hk7⟩ := hrel
        have HIJ := Lib.hid hij
        have HO := Lib.hid hown
        have HK := Lib.hid hk
        have hzs := hk.size
        by_cases hi : i < n6
        · obtain ⟨y, hy⟩ : ∃ y, P[i]? = some y := ⟨_, List.getElem?_eq_getElem (by have := HN6.out; omega)⟩
          have HNX := Lib.hid (but_step (x := x) hy)
          obtain ⟨gy, oy, hidx, -, cy⟩ := str_at (Lo.kept HSP.out hk fun _ _ e => e) hy
          clear hij hown hk hy
          by_cases e : y = x
          · rw [if_pos e, List.append_nil] at HNX
            have hb : (y.toList == x.toList) = true := by rw [e]; exact strEq_self _
            clear e
            go_wp2_with fail
            go_roundg (n6 - (i + 1))
            case measure => have := HIJ.out; omega
            case rel => exact ⟨i + 1, A7, k7, c7, by have := HIJ.out; omega, by go_num, rfl, by rw [HNX.out]; exact HO.out, HK.out, by omega⟩
          · rw [if_neg e] at HNX
            have hb : (y.toList == x.toList) = false := strEq_ne e
            clear e
            go_wp2_with (at_builtin; go_must (refine wpList_append_sl _ strsT rfl (.tmp 77) (.tmp 82) rfl w10.heap.size _ k7 ((butN x (P.take i)).map Value.string) rfl (HO.out.alloc _) _ 1 [.string y] rfl (Sl.made_at (Blk.new _ 9 #[.string y]) _ rfl rfl one_max) (by simp [Value.oneCell']) ?c1 ?c2 ?_))
            case c1 => omega
            case c2 => simp; omega
            intro v' w11 hap
            obtain ⟨A5, c5, rfl, -, -⟩ := (Sl.of_own hap.own).shape
            have HK11 := Lib.hid (hap.below (HO.out.alloc _) (HK.out.alloc _) (Nat.le_refl _))
            have HO11 : Hid (w11.ownsRow w10.heap.size 9 1 (.slice A5 (k7 + 1) c5) (k7 + 1) ((butN x (P.take (i + 1))).map Value.string)) := Lib.hid (by rw [HNX.out, List.map_append]; exact hap.own)
            clear hap cy hidx
            go_wp2_with fail
            go_roundg (n6 - (i + 1))
            case measure => have := HIJ.out; omega
            case rel => exact ⟨i + 1, A5, k7 + 1, c5, by have := HIJ.out; omega, by go_num, rfl, HO11.out, HK11.out, by omega⟩
        · obtain rfl : i = n6 := by omega
          rw [List.take_of_length_le (Nat.le_of_eq HN6.out.symm)] at hown
          have HSW := Lib.hid (Sl.of_own hown)
          have HSQ' := Lib.hid (HSQ.out.keptNone hk)
          clear hij hown hk HO
          go_wp2_with fail
          go_at_call 11
          refine (texts_at HSQ'.out HSW.out).mono ?_
          rintro e w12 ⟨rfl, hk12⟩
          have hkf := HK.out.trans hk12 fun _ _ e => e
          have HSR' := Lib.hid (HSR.out.keptNone hkf)
          have HSP' := Lib.hid (HSP.out.keptNone hkf)
          have HKF := Lib.hid (HK10.out.trans hkf fun _ _ e => e)
          clear hk12 hkf HSQ' HSW HK
          go_wp2_with fail
          go_at_call 11
          refine (texts_at HSR'.out HSP'.out).mono ?_
          rintro e w13 ⟨rfl, hk13⟩
          have HKZ := Lib.hid (HKF.out.trans hk13 fun _ _ e => e)
          clear hk13
          go_wp2_with fail
          go_ret
          exact ⟨rfl, HKZ.out⟩
end Go.Proofs.YtepikngkbondgaaGreat

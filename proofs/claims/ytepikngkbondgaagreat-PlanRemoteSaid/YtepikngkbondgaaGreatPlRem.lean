/- PlanRemote: the walk. -/
import Derived.Test.YtepikngkbondgaaGreatMg11
import Derived.Test.YtepikngkbondgaaGreatPlRemP
import Derived.Deep.DeepCutAuto
namespace Go.Proofs.YtepikngkbondgaaGreat
set_option linter.unusedVariables false
open Go.RowKit
open Go.ChangeMaps (setBlock)

def dgI (i : Nat) : ByteArray := ⟨#[48 + i.toUInt8]⟩
abbrev sixS : ByteArray := ⟨#[48, 49, 50, 51, 52, 53]⟩
theorem slice_dig {i : Nat} (hi : i < 6) : ∀ kd kd' w, (Instr.sliceAt 9 (.string sixS) (some (.int kd (i : Int))) (some (.int kd' ((i : Int) + 1))) none).run Tryz.prog w = .ok (.string (dgI i)) w := by
  intro kd kd' w
  rcases six (show i < 7 by omega) with rfl | rfl | rfl | rfl | rfl | rfl | rfl <;> first | omega | kernel_rfl
theorem cat_a {i : Nat} (hi : i < 6) : (⟨#[97]⟩ : ByteArray) ++ dgI i = aN i := by
  rcases six (show i < 7 by omega) with rfl | rfl | rfl | rfl | rfl | rfl | rfl <;> first | omega | rfl
theorem cat_b {i : Nat} (hi : i < 6) : (⟨#[98]⟩ : ByteArray) ++ dgI i = bN i := by
  rcases six (show i < 7 by omega) with rfl | rfl | rfl | rfl | rfl | rfl | rfl <;> first | omega | rfl
/-- Hosts laid so far, with their tokens. -/
structure RmAt (w1 wr : World) (nn : Nat) (A : Option Addr) (c : Nat) (T : List HV) : Prop where
  row : wr.ownsRow w1.heap.size 48 5 (.slice A nn c) nn (T.flatMap hvC)
  tk : ∀ x ∈ T, x.toks.length = x.tn ∧ Sl wr 2 1 x.tv x.tn (x.toks.map (Value.int .i64))
  kept : Kept noBlock w1 wr
theorem RmAt.more {w1 wr w5 : World} {nn : Nat} {A A' : Option Addr} {c c' : Nat} {T : List HV} {nm dc : ByteArray} {tk : Int} {cs : Array Value} (h : RmAt w1 wr nn A c T)
    (hap : Appended ((wr.alloc (.cells #[.int .i64 tk] 2)).alloc (.cells cs 48)) w5 w1.heap.size 48 5 (.slice A nn c) (.slice A' (nn + 1) c') (nn + 1) (T.flatMap hvC ++ [.string nm, .string dc, .string noStr, .slice (some ⟨wr.heap.size, 0, none⟩) 1 1, .bool true])) :
    RmAt w1 w5 (nn + 1) A' c' (T ++ [⟨nm, dc, noStr, some ⟨wr.heap.size, 0, none⟩, 1, 1, [tk], true⟩]) := by
  have ho := (h.row.alloc (.cells #[.int .i64 tk] 2)).alloc (.cells cs 48)
  have hk := (h.kept.alloc (.cells #[.int .i64 tk] 2)).alloc (.cells cs 48)
  refine ⟨by rw [List.flatMap_append]; exact hap.own, fun x hx => ?_, hap.below ho hk (Nat.le_refl _)⟩
  rcases List.mem_append.1 hx with hx | hx
  · exact ⟨(h.tk x hx).1, Sl.appended (((h.tk x hx).2.alloc _).alloc _) hap ho (by decide)⟩
  · have : x = ⟨nm, dc, noStr, some ⟨wr.heap.size, 0, none⟩, 1, 1, [tk], true⟩ := by simpa using hx
    subst this
    refine ⟨rfl, Sl.appended (SlK.alloc (Sl.made_at (n := 1) (Blk.new wr 2 #[.int .i64 tk]) _ rfl rfl (by decide)) _) hap ho (by decide)⟩
def RmRow (w1 wr : World) (i : Nat) (vs : Value) : Prop :=
  ∃ (T : List HV) (A : Option Addr) (nn c : Nat), vs = .slice A nn c ∧ Hid (nn = 2 * i) ∧ Hid (T.map HV.abs = rmL i) ∧ RmAt w1 wr nn A c T
theorem two_bytes {x : ByteArray} (h : x.size = 2) : ∃ b0 b1, x = ⟨#[b0, b1]⟩ := by
  obtain ⟨⟨l⟩⟩ := x
  match l, h with
  | [a, b], _ => exact ⟨a, b, rfl⟩
theorem isA_beq {x : ByteArray} (h0 : 0 < x.size) : ((x[0].toNat : Int) == 97) = isA x := by
  have e : x.data[0]? = some x[0] := by rw [Array.getElem?_eq_getElem (show 0 < x.data.size from h0)]; rfl
  unfold isA
  rw [e]
  by_cases h : x[0] = 97
  · rw [h]; rfl
  · have h2 : ¬ x[0].toNat = 97 := fun e => h (UInt8.toNat_inj.1 e)
    have : ((x[0].toNat : Int) == 97) = false := by simp; omega
    rw [this]
    simp [h]
set_option maxHeartbeats 16000000 in
set_option maxRecDepth 100000 in
theorem PlanRemote_walk (n rm sm tn : Nat) (hn : n < 256) (hr : rm < 256) (hs : sm < 256) (ht : tn < 18446744073709551616) (w : World) :
    Calls Tryz.prog 6 #[.int .u8 (n : Int), .int .u8 (rm : Int), .int .u8 (sm : Int), .int .u64 (tn : Int)] w fun e w' => e = .returned (.bool true) ∧ Kept noBlock w w' := by
  obtain ⟨r, hr1, hr2⟩ : ∃ r : Nat, (n : Int) % 6 = (r : Int) ∧ r < 6 := ⟨n % 6, by omega, by omega⟩
  obtain ⟨m, hm1, hm2⟩ : ∃ m : Nat, (rm : Int) % 4 = (m : Int) ∧ m < 4 := ⟨rm % 4, by omega, by omega⟩
  go_enter Tryz.func6, Tryz.ntmps6
  go_wp2_with fail
  go_at_call 8
  refine (aw19_at _).mono ?_
  rintro e w1 ⟨rfl, hk1⟩
  have HK1 := Lib.hid hk1
  clear hk1
  go_wp2_with fail
  obtain ⟨k, hk, hk1, hk6⟩ : ∃ k : Nat, (r : Int) + 1 = (k : Int) ∧ 1 ≤ k ∧ k ≤ 6 := ⟨r + 1, by omega, by omega, by omega⟩
  rw [hk]
  clear hk hr2 hr1 hm1
  go_loopg [12, 13] k (fun j vs vi wr => ∃ i : Nat, i + j = k ∧ vi = .int .i64 i ∧ RmRow w1 wr i vs)
  case atStart => exact ⟨0, by omega, rfl, [], none, 0, 0, rfl, Lib.hid rfl, Lib.hid rfl, World.ownsRow_nil _ _ _ _, fun x hx => absurd hx List.not_mem_nil, Kept.refl _ _⟩
  case round =>
    obtain ⟨i, hij, rfl, T, A, nn, c, rfl, HNN, HTA, hR⟩ := hrel
    have HIJ := Lib.hid hij
    have HR := Lib.hid hR
    by_cases hi : i < k
    · have hsl := slice_dig (show i < 6 by omega)
      have hca := cat_a (show i < 6 by omega)
      have hcb := cat_b (show i < 6 by omega)
      have hw10 : IntKind.i64.wrap (10 * (i : Int)) = 10 * (i : Int) := by rw [IntKind.wrap_i64]; omega
      have hw15 : IntKind.i64.wrap (10 * (i : Int) + 5) = 10 * (i : Int) + 5 := by rw [IntKind.wrap_i64]; omega
      have hz := hR.kept.size
      have hnn : nn ≤ 12 := by have := HNN.out; omega
      have hszt : (wr.alloc (.cells #[.int .i64 (10 * (i : Int))] 2)).heap.size = wr.heap.size + 1 := sz_alloc _ _
      clear hij hR
      go_wp2_with (at_builtin; go_must (refine wpList_append_sl _ hostsT rfl (.tmp 37) (.tmp 47) rfl w1.heap.size _ nn (T.flatMap hvC) rfl ((HR.out.row.alloc _).alloc _) _ 1 [.string (aN i), .string plD, .string noStr, .slice (some ⟨wr.heap.size, 0, none⟩) 1 1, .bool true] rfl (Sl.made_at (Blk.new_at _ 48 #[.string (aN i), .string plD, .string noStr, .slice (some ⟨wr.heap.size, 0, none⟩) 1 1, .bool true] hszt.symm) _ rfl rfl one_max) (by simp [Value.oneCell']) ?c1 ?c2 ?_))
      case c1 => omega
      case c2 => simp only [sz_alloc]; omega
      intro v' w5 hap
      obtain ⟨A5, c5, rfl, -, -⟩ := (Sl.of_own hap.own).shape
      have HR5 := Lib.hid (HR.out.more hap)
      have hz5 := HR5.out.kept.size
      have hszt5 : (w5.alloc (.cells #[.int .i64 (10 * (i : Int) + 5)] 2)).heap.size = w5.heap.size + 1 := sz_alloc _ _
      clear hap hszt hz
      generalize wr.heap.size = br at *
      generalize hn1 : nn + 1 = n1 at *
      have HN1 := Lib.hid hn1
      have hn1b : n1 ≤ 13 := by omega
      clear hn1
      generalize hT1 : T ++ [(⟨aN i, plD, noStr, some ⟨br, 0, none⟩, 1, 1, [10 * (i : Int)], true⟩ : HV)] = T1 at *
      have HT1 := Lib.hid hT1
      clear hT1
      go_wp2_with (at_builtin; go_must (refine wpList_append_sl _ hostsT rfl (.tmp 49) (.tmp 60) rfl w1.heap.size _ n1 (T1.flatMap hvC) rfl ((HR5.out.row.alloc _).alloc _) _ 1 [.string (bN i), .string rmX, .string noStr, .slice (some ⟨w5.heap.size, 0, none⟩) 1 1, .bool true] rfl (Sl.made_at (Blk.new_at _ 48 #[.string (bN i), .string rmX, .string noStr, .slice (some ⟨w5.heap.size, 0, none⟩) 1 1, .bool true] hszt5.symm) _ rfl rfl one_max) (by simp [Value.oneCell']) ?d1 ?d2 ?_))
      case d1 => omega
      case d2 => simp only [sz_alloc]; omega
      intro v' w6 hap
      obtain ⟨A6, c6, rfl, -, -⟩ := (Sl.of_own hap.own).shape
      have HR6 := Lib.hid (HR5.out.more hap)
      have HNX : Hid ((T1 ++ [(⟨bN i, rmX, noStr, some ⟨w5.heap.size, 0, none⟩, 1, 1, [10 * (i : Int) + 5], true⟩ : HV)]).map HV.abs = rmL (i + 1)) := Lib.hid (by
        rw [rm_step, ← HT1.out, List.append_assoc, List.map_append, HTA.out]; rfl)
      clear hap hszt5 hz5 hsl hca hcb hw10 hw15
      generalize hn2 : n1 + 1 = n2 at *
      have HN2 := Lib.hid hn2
      clear hn2
      go_wp2_with fail
      go_roundg (k - (i + 1))
      case measure => have := HIJ.out; omega
      case rel => exact ⟨i + 1, by have := HIJ.out; omega, by go_num, _, A6, n2, c6, rfl, Lib.hid (by have := HNN.out; have := HN1.out; have := HN2.out; omega), HNX, HR6.out⟩
    · obtain rfl : i = k := by omega
      have hsl := Sl.of_own hR.row
      have HSL := Lib.hid hsl
      have HTK := Lib.hid hR.tk
      have HKr := Lib.hid (HK1.out.trans hR.kept fun _ _ e => e)
      have hTl : T.length = nn := by have := hR.row.1; rw [flat_len (k := 5) (fun _ => rfl) T] at this; omega
      have HTL := Lib.hid hTl
      have hnn : nn ≤ 12 := by have := HNN.out; omega
      have hS : tabOf T = rmS i := by unfold tabOf; rw [HTA.out, rm_ref (by omega)]
      have HS := Lib.hid hS
      have HTX : Hid (∀ x ∈ T, x.name.size ≤ 9223372036854775807 ∧ x.toks.length ≤ 20) := Lib.hid fun x hx => by
        have h1 : x.abs ∈ rmL i := by rw [← HTA.out]; exact List.mem_map.2 ⟨x, hx, rfl⟩
        unfold rmL at h1
        obtain ⟨j, hj, h2⟩ := List.mem_flatMap.1 h1
        have hj' := List.mem_range.1 hj
        have h3 : x.abs = rmA j ∨ x.abs = rmB j := by simpa using h2
        have h4 : x.name = x.abs.name := rfl
        have h5 : x.toks = x.abs.toks := rfl
        rw [h4, h5]
        rcases h3 with h3 | h3 <;> rw [h3] <;> exact ⟨(show 2 ≤ 9223372036854775807 by decide), (show 1 ≤ 20 by decide)⟩
      clear hij hR hsl hTl hS HR HTA
      go_wp2_with fail
      go_at_call 10
      refine (tab19_at HTL.out (by omega) HSL.out.lo (fun x hx => ⟨⟨(HTK.out x hx).1, (HTK.out x hx).2.lo⟩, (HTX.out x hx).1⟩) fun x hx => (HTX.out x hx).2).mono ?_
      rintro e w3 ⟨g, own, A3, n3, c3, l3, ok3, rfl, hT3, -, ho3, -, hk3⟩
      rw [HS.out] at hT3
      have hka : Kept noBlock w3 (w3.alloc (.cells #[.string plD, .int .i64 m, .slice A3 n3 c3] 32)) := (Kept.refl _ _).alloc _
      have HT4 := Lib.hid (hT3.kept hka fun _ _ e => e)
      have HOL : Hid (∀ k, own k → k < (w3.alloc (.cells #[.string plD, .int .i64 m, .slice A3 n3 c3] 32)).heap.size) := Lib.hid fun k h => Nat.lt_of_lt_of_le (ho3 k h).2 hka.size
      have HK4 := Lib.hid ((HKr.out.trans hk3 fun _ _ e => e).trans hka fun _ _ e => e)
      have HOK : Hid (HoOk (rmS i) 20 20) := Lib.hid (by
        rw [← HS.out]
        exact refNow_ok (by rw [List.length_map, HTL.out]; omega) fun o ho => by
          obtain ⟨x, hx, rfl⟩ := List.mem_map.1 ho
          exact (HTX.out x hx).2)
      obtain ⟨s, hs1, hs2⟩ : ∃ s : Nat, (sm : Int) % 8 = (s : Int) ∧ s < 8 := ⟨sm % 8, by omega, by omega⟩
      obtain ⟨far, hf1, hf2⟩ : ∃ far : Nat, (far : Int) = (if (i : Int) < (m : Int) then (i : Int) else (m : Int)) ∧ far ≤ 6 := by
        by_cases h : (i : Int) < (m : Int)
        · exact ⟨i, by rw [if_pos h], hk6⟩
        · exact ⟨m, by rw [if_neg h], by omega⟩
      have HLAW := Lib.hid (rm_law (m := (m : Int)) HOK.out.ris (by omega) (s : Int) tn far hf1 (by omega))
      clear hT3 ho3 hk3 hka HS HSL HTK HKr HTX HTL HNN
      go_wp2_with fail
      go_at_call 15
      refine (plPlan_at (ok := fun _ _ => True) (S := rmS i) (fs := []) (tn := tn) (routed := true) (t := 0) (k := (s : Int)) (.inr ⟨g, rfl, HT4.out⟩) HOL.out HOK.out (SlK.nil _ _ _) rfl (by decide) (fun f hf => absurd hf List.not_mem_nil) ht).mono ?_
      rintro e w5 ⟨A5, n5, c5, rfl, hn5, hr5, hk5⟩
      have HS5 := Lib.hid (Sl.of_own hr5)
      have HT5 := Lib.hid (HT4.out.kept hk5 fun _ _ e => e)
      have HK5 := Lib.hid (HK4.out.trans hk5 fun _ _ e => e)
      have HN5 := Lib.hid hn5
      clear hr5 hk5 hn5 HT4 HK4 HOL
      go_wp2_with fail
      go_at_call 12
      refine (plRepl_at (ok := fun _ _ => True) (S := rmS i) (fs := []) (t := 0) (k := (s : Int)) (.inr ⟨g, rfl, HT5.out⟩) HOK.out (SlK.nil _ _ _) rfl (by decide) (fun f hf => absurd hf List.not_mem_nil)).mono ?_
      rintro e w6 ⟨A6, n6, c6, rfl, hn6, hn6b, hs6, hk6⟩
      have HS6 := Lib.hid hs6
      have HS56 := Lib.hid (HS5.out.keptNone hk6)
      have HK6 := Lib.hid (HK5.out.trans hk6 fun _ _ e => e)
      have HN6 := Lib.hid hn6
      have hl5 := HS56.out.run_len strsT
      have hl6 := hs6.run_len strsT
      generalize planP rmD (m : Int) (rmS i) (s : Int) [] true 0 tn = P at *
      generalize replP (rmS i) (s : Int) [] 0 = R at *
      have HN5F : Hid (n5 = i + far) := Lib.hid (HN5.out.trans HLAW.out.len)
      have hne : ((n5 : Int) != (i : Int) + (far : Int)) = false := by simp [HN5F.out]
      have hn5b : n5 ≤ 12 := by have := HN5F.out; omega
      have HFAR : Hid (((i : Int) < (m : Int) → far = i) ∧ (¬ (i : Int) < (m : Int) → far = m)) := Lib.hid ⟨fun h => by rw [if_pos h] at hf1; omega, fun h => by rw [if_neg h] at hf1; omega⟩
      clear hs6 hk6 hn6 HT5 HK5 HS5 hf1 hs1
      go_upto_if 84 with (fail)
      go_cut [18] (fun s18 wx => s18 = .int .i64 (far : Nat) ∧ wx = w6)
      case first =>
        by_cases h : (i : Int) < (m : Int)
        · have HFI := Lib.hid (HFAR.out.1 h)
          go_wp2_with fail
          go_meet
          exact ⟨by rw [HFI.out], rfl⟩
        · have HFI := Lib.hid (HFAR.out.2 (by omega))
          go_wp2_with fail
          go_meet
          exact ⟨by rw [HFI.out], rfl⟩
      case rest =>
        obtain ⟨rfl, rfl⟩ := hcut
        clear HFAR
        go_wp2_with fail
        clear hne
        go_loopg [19, 20] n6 (fun jj vo vi wr => ∃ j ow : Nat, j + jj = n6 ∧ vi = .int .i64 j ∧ vo = .int .i64 ow ∧ Hid (ow = ((R.take j).filter isA).length) ∧ ow ≤ j ∧ Kept noBlock wc wr)
        case atStart => exact ⟨0, 0, by omega, rfl, rfl, Lib.hid rfl, Nat.le_refl _, Kept.refl _ _⟩
        case round =>
          obtain ⟨j, ow, hij, rfl, rfl, HOW, howj, hk⟩ := hrel
          have HIJ := Lib.hid hij
          have HK := Lib.hid hk
          by_cases hj : j < n6
          · obtain ⟨x, hx⟩ : ∃ x, R[j]? = some x := ⟨_, List.getElem?_eq_getElem (by have := HN6.out; omega)⟩
            have hsz := HLAW.out.rone j x hx
            have hown := HLAW.out.own j x hx
            obtain ⟨gx, ox, hidx, -, cx⟩ := str_at (HS6.out.keptNone hk) hx
            have HST : Hid (((R.take (j + 1)).filter isA).length = ow + if isA x = true then 1 else 0) := Lib.hid (by
              rw [List.take_add_one, hx, List.filter_append, List.length_append, HOW.out]
              cases e : isA x <;> simp [e])
            have hx0 : 0 < x.size := by omega
            have hbe := isA_beq hx0
            clear hij hk hx hsz
            cases ha : isA x with
            | false =>
              rw [ha] at hbe HST
              clear hown ha
              go_wp2_with fail
              go_roundg (n6 - (j + 1))
              case measure => have := HIJ.out; omega
              case rel => exact ⟨j + 1, ow, by have := HIJ.out; omega, by go_num, rfl, Lib.hid (by rw [HST.out]; rfl), by omega, HK.out⟩
            | true =>
              rw [ha] at hbe HST
              have hp := hown ha
              rw [← HOW.out] at hp
              obtain ⟨gp, op, hidp, -, cp⟩ := str_at (HS56.out.keptNone HK.out) hp
              have hse := strEq_self x
              have HOL5 : Hid (ow < n5) := Lib.hid (by have := (List.getElem?_eq_some_iff.1 hp).1; have := HN5.out; omega)
              clear hown ha hp
              go_wp2_with fail
              go_region
              go_wp2_with fail
              go_roundg (n6 - (j + 1))
              case measure => have := HIJ.out; omega
              case rel => exact ⟨j + 1, ow + 1, by have := HIJ.out; omega, by go_num, by go_num, Lib.hid (by rw [HST.out]; rfl), by omega, HK.out.drew⟩
          · have HKr := Lib.hid hk
            clear hij hk HOW
            go_wp2_with fail
            obtain ⟨wq, rfl⟩ : ∃ wq : World, wq = wr := ⟨_, rfl⟩
            go_loopg [21] n5 (fun jj vi wr => ∃ j : Nat, j + jj = n5 ∧ vi = .int .i64 j ∧ wr = wq)
            case atStart => exact ⟨0, by omega, rfl, rfl⟩
            case round =>
              obtain ⟨q, hij, rfl, rfl⟩ := hrel
              have HIJ := Lib.hid hij
              by_cases hj : q < n5
              · obtain ⟨x, hx⟩ : ∃ x, P[q]? = some x := ⟨_, List.getElem?_eq_getElem (by have := HN5.out; omega)⟩
                obtain ⟨hone, hsz⟩ := HLAW.out.one q x hx
                obtain ⟨gx, ox, hidx, -, cx⟩ := str_at (HS56.out.keptNone HKr.out) hx
                have hx0 : 0 < x.size := by omega
                have hbe := isA_beq hx0
                rw [hone] at hbe
                by_cases hqi : q < i
                · rw [decide_eq_true hqi] at hbe
                  clear hij hx hone hsz
                  go_wp2_with fail
                  go_roundg (n5 - (q + 1))
                  case measure => have := HIJ.out; omega
                  case rel => exact ⟨q + 1, by have := HIJ.out; omega, by go_num, rfl⟩
                · rw [decide_eq_false hqi] at hbe
                  clear hij hx hone hsz
                  go_wp2_with fail
                  go_roundg (n5 - (q + 1))
                  case measure => have := HIJ.out; omega
                  case rel => exact ⟨q + 1, by have := HIJ.out; omega, by go_num, rfl⟩
              · have HKF := Lib.hid (HK6.out.trans HKr.out fun _ _ e => e)
                clear hij
                go_wp2_with fail
                go_ret
                exact ⟨rfl, HKF.out⟩
end Go.Proofs.YtepikngkbondgaaGreat

/- PlanTurns: by turns each local host comes first once: the walk. -/
import Derived.Test.YtepikngkbondgaaGreatMg11
import Derived.Test.YtepikngkbondgaaGreatPlTurnsP
namespace Go.Proofs.YtepikngkbondgaaGreat
set_option linter.unusedVariables false
open Go.RowKit
open Go.ChangeMaps (setBlock)

def tuV (k : Nat) : List HV := (List.range k).map fun i => ⟨nmI i, plD, noStr, none, 0, 0, [], true⟩
theorem tuV_abs (k : Nat) : (tuV k).map HV.abs = tuH k := by unfold tuV tuH; rw [List.map_map]; rfl
theorem tuV_step (i : Nat) : (tuV (i + 1)).flatMap hvC = (tuV i).flatMap hvC ++ [.string (nmI i), .string plD, .string noStr, .slice none 0 0, .bool true] := by
  unfold tuV
  rw [List.range_succ, List.map_append, List.flatMap_append]; rfl
theorem tuV_len (k : Nat) : (tuV k).length = k := by unfold tuV; simp
abbrev nineS : ByteArray := ⟨#[97, 98, 99, 100, 101, 102, 103, 104, 105]⟩
theorem slice_name {i : Nat} (hi : i < 9) : ∀ kd kd' w, (Instr.sliceAt 9 (.string nineS) (some (.int kd (i : Int))) (some (.int kd' ((i : Int) + 1))) none).run Tryz.prog w = .ok (.string (nmI i)) w := by
  intro kd kd' w
  rcases nine (show i < 10 by omega) with rfl | rfl | rfl | rfl | rfl | rfl | rfl | rfl | rfl | rfl <;> first | omega | kernel_rfl
set_option maxHeartbeats 8000000 in
set_option maxRecDepth 100000 in
theorem PlanTurns_walk (n from_ : Nat) (hn : n < 256) (hf : from_ < 18446744073709551616) (w : World) :
    Calls Tryz.prog 5 #[.int .u8 (n : Int), .int .u64 (from_ : Int)] w fun e w' => e = .returned (.bool true) ∧ Kept noBlock w w' := by
  obtain ⟨r, hr, hr9⟩ : ∃ r : Nat, (n : Int) % 9 = (r : Int) ∧ r < 9 := ⟨n % 9, by omega, by omega⟩
  go_enter Tryz.func5, Tryz.ntmps5
  go_wp2_with fail
  go_at_call 8
  refine (aw19_at _).mono ?_
  rintro e w1 ⟨rfl, hk1⟩
  have HK1 := Lib.hid hk1
  clear hk1
  go_wp2_with fail
  obtain ⟨k, hk, hk1, hk9⟩ : ∃ k : Nat, (r : Int) + 1 = (k : Int) ∧ 1 ≤ k ∧ k ≤ 9 := ⟨r + 1, by omega, by omega, by omega⟩
  rw [hk]
  clear hk hr9 hr
  go_loopg [7, 8] k (fun j vs vi wr => ∃ i : Nat, i + j = k ∧ vi = .int .i64 i ∧ wr.ownsRow w1.heap.size 48 5 vs i ((tuV i).flatMap hvC) ∧ Kept noBlock w1 wr)
  case atStart => exact ⟨0, by omega, rfl, World.ownsRow_nil _ _ _ _, Kept.refl _ _⟩
  case round =>
    obtain ⟨i, hij, rfl, hown, hk⟩ := hrel
    have HIJ := Lib.hid hij
    have HO := Lib.hid hown
    have HK := Lib.hid hk
    have hz := hk.size
    by_cases hi : i < k
    · have hsl := slice_name (show i < 9 by omega)
      have HNX := Lib.hid (tuV_step i)
      clear hij hown hk
      go_wp2_with (at_builtin; go_must (refine wpList_append_sl _ hostsT rfl (.tmp 26) (.tmp 32) rfl w1.heap.size _ i ((tuV i).flatMap hvC) rfl (HO.out.alloc _) _ 1 [.string (nmI i), .string plD, .string noStr, .slice none 0 0, .bool true] rfl (Sl.made_at (Blk.new _ 48 #[.string (nmI i), .string plD, .string noStr, .slice none 0 0, .bool true]) _ rfl rfl one_max) (by simp [Value.oneCell']) ?c1 ?c2 ?_))
      case c1 => omega
      case c2 => simp; omega
      intro v' w5 hap
      have HK5 := Lib.hid (hap.below (HO.out.alloc _) (HK.out.alloc _) (Nat.le_refl _))
      have HO5 : Hid (w5.ownsRow w1.heap.size 48 5 v' (i + 1) ((tuV (i + 1)).flatMap hvC)) := Lib.hid (by rw [HNX.out]; exact hap.own)
      clear hap hsl
      go_wp2_with fail
      go_roundg (k - (i + 1))
      case measure => have := HIJ.out; omega
      case rel => exact ⟨i + 1, by have := HIJ.out; omega, by go_num, HO5.out, HK5.out⟩
    · obtain rfl : i = k := by omega
      have hs7 := Sl.of_own hown
      obtain ⟨A7, c7, rfl, -, -⟩ := hs7.shape
      have HS7 := Lib.hid hs7
      have HKr := Lib.hid (HK1.out.trans hk fun _ _ e => e)
      clear hij hown hk hs7 HO HK
      go_wp2_with fail
      go_at_call 10
      refine (tab19_at (tuV_len i) (by omega) HS7.out.lo (fun x hx => by
        obtain ⟨j, hj, rfl⟩ := List.mem_map.1 hx
        exact ⟨⟨rfl, SlK.nil _ _ _⟩, by
          have hj' := List.mem_range.1 hj
          rcases nine (show j < 10 by omega) with rfl | rfl | rfl | rfl | rfl | rfl | rfl | rfl | rfl | rfl <;> decide⟩) (fun x hx => by
        obtain ⟨j, hj, rfl⟩ := List.mem_map.1 hx
        exact Nat.zero_le _)).mono ?_
      rintro e w3 ⟨g, own, A3, n3, c3, l3, ok3, rfl, hT3, -, ho3, -, hk3⟩
      have hS : tabOf (tuV i) = tuH i := by unfold tabOf; rw [tuV_abs, tuH_ref (by omega)]
      rw [hS] at hT3
      have hka : Kept noBlock w3 (w3.alloc (.cells #[.string plD, .int .i64 0, .slice A3 n3 c3] 32)) := (Kept.refl _ _).alloc _
      have HT4 := Lib.hid (hT3.kept hka fun _ _ e => e)
      have HOL : Hid (∀ k, own k → k < (w3.alloc (.cells #[.string plD, .int .i64 0, .slice A3 n3 c3] 32)).heap.size) := Lib.hid fun k h => Nat.lt_of_lt_of_le (ho3 k h).2 hka.size
      have HK4 := Lib.hid ((HKr.out.trans hk3 fun _ _ e => e).trans hka fun _ _ e => e)
      have HOK : Hid (HoOk (tuH i) 20 20) := Lib.hid (by
        have h := refNow_ok (V := viewS []) (l := tuH i) (a := 20) (b := 20) (by rw [tuH_len]; omega) fun o ho => by
          obtain ⟨j, hj, rfl⟩ := List.mem_map.1 ho
          exact Nat.zero_le _
        rwa [tuH_ref (by omega)] at h)
      have HPT : Hid (∀ tn, planP plD 0 (tuH i) 0 [] false 0 tn = turnL ((List.range i).map nmI) tn) := Lib.hid fun tn => by
        rw [plan_turns HOK.out.ris (fun o ho => by
          obtain ⟨j, hj, rfl⟩ := List.mem_map.1 ho
          rfl) (fun o ho => by
          obtain ⟨j, hj, rfl⟩ := List.mem_map.1 ho
          rfl), tuH_names]
      clear hT3 ho3 hk3 hka hS HS7 HKr
      go_wp2_with fail
      generalize w3.heap.size = ba at *
      generalize w3.alloc (.cells #[.string plD, .int .i64 0, .slice A3 n3 c3] 32) = w4 at *
      obtain ⟨q, hq, hqb⟩ : ∃ q : Nat, (from_ : Int) / 16 = (q : Int) ∧ q ≤ 1152921504606846975 := ⟨from_ / 16, by omega, by omega⟩
      obtain ⟨m, hm⟩ : ∃ m : Nat, (q : Int) * (i : Int) = (m : Int) := ⟨q * i, by simp⟩
      have hmq : m = q * i := by have : ((q * i : Nat) : Int) = (m : Int) := by rw [← hm]; simp
                                 omega
      have hmb : m ≤ 10376293541461622775 := by rw [hmq]; exact Nat.le_trans (Nat.mul_le_mul hqb hk9) (by decide)
      have HMM : Hid (m % i = 0) := Lib.hid (by rw [hmq]; exact Nat.mul_mod_left q i)
      have hwi : IntKind.u64.wrap (i : Int) = (i : Int) := by rw [IntKind.wrap_u64]; omega
      have hwm : IntKind.u64.wrap (m : Int) = (m : Int) := by rw [IntKind.wrap_u64]; omega
      clear hmq
      go_loopg [11, 12] i (fun j vs vi wr => ∃ (m' : Nat) (A7 : Option Addr) (c7 : Nat), m' + j = i ∧ vi = .int .i64 m' ∧ vs = .slice A7 m' c7 ∧ wr.ownsRow w4.heap.size 9 1 (.slice A7 m' c7) m' (((List.range m').map nmI).map Value.string) ∧ Kept noBlock w4 wr)
      case atStart => exact ⟨0, none, 0, by omega, rfl, rfl, World.ownsRow_nil _ _ _ _, Kept.refl _ _⟩
      case round =>
        obtain ⟨j, A7, c7, hij, rfl, rfl, hown, hk⟩ := hrel
        have HIJ := Lib.hid hij
        have HO := Lib.hid hown
        have HK := Lib.hid hk
        have hz := hk.size
        by_cases hj : j < i
        · have hwj : IntKind.u64.wrap (j : Int) = (j : Int) := by rw [IntKind.wrap_u64]; omega
          have hws : IntKind.u64.wrap ((m : Int) + (j : Int)) = ((m + j : Nat) : Int) := by rw [IntKind.wrap_u64]; omega
          clear hij hown hk
          go_wp2_with fail
          go_at_call 15
          refine (plPlan_at (ok := fun _ _ => True) (S := tuH i) (fs := []) (tn := m + j) (routed := false) (t := 0) (.inr ⟨g, rfl, HT4.out.kept HK.out fun _ _ e => e⟩) (fun k h => Nat.lt_of_lt_of_le (HOL.out k h) HK.out.size) HOK.out (SlK.nil _ _ _) rfl (by decide) (fun f hf => absurd hf List.not_mem_nil) (by omega)).mono ?_
          rw [HPT.out]
          rintro e w5 ⟨A5, n5, c5, rfl, hn5, hr5, hk5⟩
          have hfirst := turns_first (m := m) (by omega) hj HMM.out
          have hn5' : n5 = i := by rw [hn5, turnL_len]; simp
          clear hn5; subst hn5'
          obtain ⟨g0, o0, h0, -, c0⟩ := str_at (Sl.of_own hr5) (i := 0) hfirst
          have hi0 : ∀ kd w', (Instr.indexAt 36 (.slice A5 n5 c5) (.int kd 0)).run Tryz.prog w' = .ok (.pointer (some ⟨g0, o0, none⟩)) w' := h0
          have hl5 := (Sl.of_own hr5).run_len strsT
          have HO5 := Lib.hid (own_keptB HO.out hk5 fun _ _ e => e)
          have HK5 := Lib.hid (HK.out.trans hk5 fun _ _ e => e)
          have hz5 := HK5.out.size
          have hne : ((n5 : Int) != (n5 : Int)) = false := by simp
          have HNF : Hid (has ((List.range j).map nmI) (nmI j) = false) := Lib.hid (not_first (k := n5) (by omega) hj)
          clear hr5 hk5 hfirst h0
          go_wp2_with fail
          go_at_call 18
          refine (R3Has_at (l := (List.range j).map nmI) (s := nmI j) (by rw [List.length_map, List.length_range]; exact Sl.of_own HO5.out) (by rw [List.length_map, List.length_range]; omega)).mono ?_
          rw [HNF.out]
          rintro e w6 ⟨rfl, rfl⟩
          go_wp2_with (at_builtin; go_must (refine wpList_append_sl _ strsT rfl (.tmp 66) (.tmp 70) rfl w4.heap.size _ j (((List.range j).map nmI).map Value.string) rfl (HO5.out.alloc _) _ 1 [.string (nmI j)] rfl (Sl.made_at (Blk.new _ 9 #[.string (nmI j)]) _ rfl rfl one_max) (by simp [Value.oneCell']) ?c1 ?c2 ?_))
          case c1 => omega
          case c2 => simp; omega
          intro v' w7 hap
          obtain ⟨A8, c8, rfl, -, -⟩ := (Sl.of_own hap.own).shape
          have HK7 := Lib.hid (hap.below (HO5.out.alloc _) (HK5.out.alloc _) (Nat.le_refl _))
          have HO7 : Hid (w7.ownsRow w4.heap.size 9 1 (.slice A8 (j + 1) c8) (j + 1) (((List.range (j + 1)).map nmI).map Value.string)) := Lib.hid (by
            rw [List.range_succ, List.map_append, List.map_append, List.map_map]; exact hap.own)
          clear hap hi0 c0 hne hwj hws
          go_wp2_with fail
          go_roundg (n5 - (j + 1))
          case measure => have := HIJ.out; omega
          case rel => exact ⟨j + 1, A8, c8, by have := HIJ.out; omega, by go_num, rfl, HO7.out, HK7.out⟩
        · obtain rfl : j = i := by omega
          have HKF := Lib.hid (HK4.out.trans hk fun _ _ e => e)
          clear hij hown hk HO HK
          go_wp2_with fail
          go_ret
          exact ⟨rfl, HKF.out⟩
end Go.Proofs.YtepikngkbondgaaGreat

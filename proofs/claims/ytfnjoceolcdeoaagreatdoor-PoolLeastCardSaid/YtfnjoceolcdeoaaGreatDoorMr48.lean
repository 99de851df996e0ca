/- PoolLeast: the law's walk. -/
import Derived.Test.YtfnjoceolcdeoaaGreatDoorMr47
import Derived.Test.YtfnjoceolcdeoaaGreatDoorMr24
import Derived.Test.YtfnjoceolcdeoaaGreatDoorMr23
namespace Go.Proofs.YtfnjoceolcdeoaaGreatDoor
set_option linter.unusedVariables false
open Go.RowKit

theorem turns {k s a b j : Nat} (hb : b < k) (h : k * a + b + j = k * s) : (0 < j → a < s) ∧ (j = 0 → a = s ∧ b = 0) := by
  have h0 : 0 < k := by omega
  constructor
  · intro hj
    rcases Nat.lt_or_ge a s with h1 | h1
    · exact h1
    · have := Nat.mul_le_mul_left k h1
      omega
  · intro hj
    rcases Nat.lt_trichotomy a s with h1 | h1 | h1
    · have h2 := Nat.mul_le_mul_left k (show a + 1 ≤ s from h1)
      rw [Nat.mul_add, Nat.mul_one] at h2
      omega
    · subst h1; exact ⟨rfl, by omega⟩
    · have h2 := Nat.mul_le_mul_left k (show s + 1 ≤ a from h1)
      rw [Nat.mul_add, Nat.mul_one] at h2
      omega
theorem count6 {s a : Nat} {L N : List (Int × CN)} (hL : ∀ r ∈ L, OpenQ s a r.2.x) (hN : ∀ r ∈ N, r.2.x = xbL s) : ((L ++ N).filter op6).length = L.length := by
  rw [List.filter_append, List.filter_eq_self.2 (fun r hr => by unfold op6; rw [(hL r hr).1]; rfl), List.filter_eq_nil_iff.2 (fun r hr => by unfold op6; rw [hN r hr]; show ¬ (((1 : Int) == 6) = true); decide), List.append_nil]
set_option maxHeartbeats 8000000 in
set_option maxRecDepth 100000 in
theorem PoLeast_walk {w : World} (hm : MaxL w) (hT : Tab w) (cb sb mb : Nat) (hcb : cb < 256) (hsb : sb < 256) (hmb : mb < 256) :
    Calls Tryz.prog 4 #[.int .u8 cb, .int .u8 sb, .int .u8 mb] w fun e w' => e = .returned (.bool true) ∧ Kept noBlock w w' := by
  have HAW := Lib.hid (aw22_at hm hT)
  have HM := Lib.hid hm
  have HT := Lib.hid hT
  obtain ⟨k1, hk1b, hk1e⟩ : ∃ k1 : Nat, k1 < 4 ∧ k1 = cb % 4 := ⟨_, Nat.mod_lt _ (by decide), rfl⟩
  obtain ⟨s1, hs1b, hs1e⟩ : ∃ s1 : Nat, s1 < 5 ∧ s1 = sb % 5 := ⟨_, Nat.mod_lt _ (by decide), rfl⟩
  obtain ⟨m1, hm1b, hm1e⟩ : ∃ m1 : Nat, m1 < 3 ∧ m1 = mb % 3 := ⟨_, Nat.mod_lt _ (by decide), rfl⟩
  have q1 : Int.tmod (cb : Int) 4 = (k1 : Int) := by rw [Int.tmod_eq_emod_of_nonneg (by omega)]; omega
  have q2 : Int.tmod (sb : Int) 5 = (s1 : Int) := by rw [Int.tmod_eq_emod_of_nonneg (by omega)]; omega
  have q3 : Int.tmod (mb : Int) 3 = (m1 : Int) := by rw [Int.tmod_eq_emod_of_nonneg (by omega)]; omega
  have w1_ : IntKind.i64.wrap (k1 : Int) = (k1 : Int) := by rw [IntKind.wrap_i64]; omega
  have w2_ : IntKind.i64.wrap (s1 : Int) = (s1 : Int) := by rw [IntKind.wrap_i64]; omega
  have w3_ : IntKind.i64.wrap (m1 : Int) = (m1 : Int) := by rw [IntKind.wrap_i64]; omega
  obtain ⟨k, hk⟩ : ∃ k, k = k1 + 1 := ⟨_, rfl⟩
  obtain ⟨s, hs⟩ : ∃ s, s = s1 + 1 := ⟨_, rfl⟩
  obtain ⟨mo, hmo⟩ : ∃ mo, mo = k + m1 := ⟨_, rfl⟩
  have r1 : (k1 : Int) + 1 = (k : Int) := by omega
  have r2 : (s1 : Int) + 1 = (s : Int) := by omega
  have r3 : (k : Int) + (m1 : Int) = (mo : Int) := by omega
  have hkb : 1 ≤ k ∧ k ≤ 4 := by omega
  have hsb2 : 1 ≤ s ∧ s ≤ 5 := by omega
  have HMO := Lib.hid hmo
  clear hm hT hk1e hs1e hm1e hk hs hmo
  go_enter Tryz.func4, Tryz.ntmps4
  go_wp2_with fail
  go_at_call 8
  refine HAW.out.mono ?_
  rintro e w1 ⟨rfl, hk1⟩
  have HNP := Lib.hid (poNew_at (w := w1) (k : Int) (mo : Int) (by omega) (by have := HMO.out; omega) (by have := HMO.out; omega) 1 1 0 (s : Int) (by omega) (by omega) noStr (show noStr.size ≤ 300000 by decide) 1099511627776 1099511627776 1 (by decide) 99 (by decide) (HM.out.keptN hk1) (HT.out.kept hk1 (fun e => e)))
  unfold poCfgC at HNP
  have HK1 := Lib.hid hk1
  clear hk1
  go_wp2_with fail
  go_at_call 9
  refine HNP.out.mono ?_
  rintro e w2 ⟨p, m, rfl, hp2, hk2, hpp, hmm⟩
  have HP2 : Hid (PoolAt w2 p m (xl k mo s 0 k) []) := Lib.hid hp2
  have HK2 := Lib.hid (HK1.out.trans hk2 fun _ _ e => e)
  have HPP := Lib.hid (⟨Nat.le_trans HK1.out.size hpp, Nat.le_trans HK1.out.size hmm⟩ : w.heap.size ≤ p ∧ w.heap.size ≤ m)
  have HTK := Lib.hid (tickL (J := k) HP2.out (fun q hq => absurd hq List.not_mem_nil) (by decide) (by omega) (by omega) (by decide) rfl)
  clear hp2 hk2 hpp hmm
  go_wp2_with fail
  go_at_call 10
  refine HTK.out.mono ?_
  rintro e w3 ⟨A3, c3, N, rfl, hN, hNr, hp3, ⟨ok3, E3, hs3⟩, hk3⟩
  rw [List.nil_append] at hp3
  have HP3 := Lib.hid hp3
  have HK3 := Lib.hid (keep_poolL HK2.out hk3 HPP.out (fun q hq => absurd hq List.not_mem_nil))
  have HI3 : Hid (Ids k N) := Lib.hid ⟨hN, fun j r hr => by rw [(hNr j r hr).1]; show ((0 : Nat) : Int) + (j : Int) = _; omega⟩
  have HO3 : Hid (Opens s 0 N) := Lib.hid fun j r hr => ⟨fun h => absurd h (Nat.not_lt_zero j), fun _ => (hNr j r hr).2⟩
  have hlen := hs3.run_len evT
  clear hN hNr hp3 hs3 hk3
  go_wp2_with fail
  go_loopg [14] k (fun j v14 wr => ∃ (i : Nat) (L : List (Int × CN)), i + j = k ∧ v14 = .int .i64 i ∧ PoolAt wr p m (xl k mo s (0 + k) k) L ∧ Ids k L ∧ Opens s i L ∧ Kept noBlock w wr)
  case atStart => exact ⟨0, N, by omega, rfl, HP3.out, HI3.out, HO3.out, HK3.out⟩
  case round =>
    obtain ⟨i, L, hij, rfl, hpo, hid, hop, hk⟩ := hrel
    have HIJ := Lib.hid hij
    have HPO := Lib.hid hpo
    have HID := Lib.hid hid
    have HOP := Lib.hid hop
    have HK := Lib.hid hk
    by_cases hi : i < k
    · clear hij hpo hid hop hk
      have HB3 := Lib.hid (Blk.new wr 5 #[.int .u8 132, .int .u8 0, .int .u8 0, .int .u8 0, .int .u8 6, .int .u8 0, .int .u8 0, .int .u8 0, .int .u8 2, .int .u8 0, .int .u8 0])
      have HA3 := Lib.hid ((Kept.refl noBlock wr).alloc (.cells #[.int .u8 132, .int .u8 0, .int .u8 0, .int .u8 0, .int .u8 6, .int .u8 0, .int .u8 0, .int .u8 0, .int .u8 2, .int .u8 0, .int .u8 0] 5))
      have HD3 := Lib.hid (dataA (HPO.out.keptN HA3.out) HID.out HOP.out hi hsb2.1 (Sl.made_at (sz := 1) (n := 11) HB3.out (bsC bySup) rfl rfl (by decide)))
      have HL3 : Hid (∀ r ∈ L, p < r.2.lo) := Lib.hid fun r hr => (HPO.out.low r hr).1
      go_wp2_with fail
      go_at_call 14
      refine HD3.out.mono ?_
      rintro e w4 ⟨A4, c4, L4, rfl, hp4, hi4, ho4, hk4⟩
      have HK4 := Lib.hid (keep_poolL (HK.out.trans HA3.out fun _ _ e => e) hk4 HPP.out HL3.out)
      have HB4 := Lib.hid (Blk.new w4 5 #[.int .u8 132, .int .u8 0, .int .u8 0, .int .u8 0, .int .u8 2, .int .u8 0, .int .u8 0, .int .u8 0, .int .u8 0])
      have HA4 := Lib.hid ((Kept.refl noBlock w4).alloc (.cells #[.int .u8 132, .int .u8 0, .int .u8 0, .int .u8 0, .int .u8 2, .int .u8 0, .int .u8 0, .int .u8 0, .int .u8 0] 5))
      have HD4 := Lib.hid (dataB (hp4.keptN HA4.out) rfl hi4 ho4 hi (Sl.made_at (sz := 1) (n := 9) HB4.out (bsC byRdy) rfl rfl (by decide)))
      have HL4 : Hid (∀ r ∈ L4, p < r.2.lo) := Lib.hid fun r hr => (hp4.low r hr).1
      clear hp4 hi4 ho4 hk4
      go_wp2_with fail
      go_at_call 14
      refine HD4.out.mono ?_
      rintro e w5 ⟨A5, c5, L5, rfl, hp5, hi5, ho5, hk5⟩
      have HF5 : Hid (PoolAt w5 p m (xl k mo s (0 + k) k) L5 ∧ Ids k L5 ∧ Opens s (i + 1) L5 ∧ Kept noBlock w w5) := Lib.hid ⟨hp5, hi5, ho5, keep_poolL (HK4.out.trans HA4.out fun _ _ e => e) hk5 HPP.out HL4.out⟩
      clear hp5 hi5 ho5 hk5
      go_wp2_with fail
      go_roundg (k - (i + 1))
      case measure => have := HIJ.out; omega
      case rel => exact ⟨i + 1, L5, by have := HIJ.out; omega, by go_num, HF5.out⟩
    · obtain rfl : i = k := by omega
      obtain ⟨n, hn⟩ : ∃ n, n = i * s := ⟨_, rfl⟩
      have hks : (i : Int) * (s : Int) = (n : Int) := by rw [hn]; push_cast; rfl
      have hnb : n ≤ 20 := by rw [hn]; exact Nat.le_trans (Nat.mul_le_mul hkb.2 hsb2.2) (by decide)
      have HNE := Lib.hid hn
      have HH0 : Hid (Heads s 0 0 L) := Lib.hid fun j r hr => by
        rw [if_neg (Nat.not_lt_zero j)]
        exact (HOP.out j r hr).1 (by rw [← HID.out.1]; exact (List.getElem?_eq_some_iff.1 hr).1)
      have hkz : ((i : Int) == 0) = false := by rw [beq_eq_false_iff_ne]; omega
      clear hij hpo hid hop hk hn
      go_wp2_with fail
      go_loopg [15] n (fun j v15 wr => ∃ (a b z : Nat) (L : List (Int × CN)), z = i * a + b ∧ z + j = n ∧ v15 = .int .i64 z ∧ b < i ∧ PoolAt wr p m (xl i mo s (0 + i) i) L ∧ Ids i L ∧ Heads s a b L ∧ Kept noBlock w wr)
      case atStart => exact ⟨0, 0, 0, L, by omega, by omega, rfl, by omega, HPO.out, HID.out, HH0.out, HK.out⟩
      case round =>
        obtain ⟨a, b, z, L2, hz, hzj, rfl, hb, hpo, hid, hhd, hk⟩ := hrel
        have htn := turns hb (show i * a + b + (n - z) = i * s by rw [← HNE.out]; omega)
        have HZ := Lib.hid hz
        have HZJ := Lib.hid hzj
        have HPO2 := Lib.hid hpo
        have HID2 := Lib.hid hid
        have HHD2 := Lib.hid hhd
        have HK2b := Lib.hid hk
        have HTN := Lib.hid htn
        by_cases hzn : z < n
        · have has : a < s := htn.1 (by omega)
          have HSD := Lib.hid (send_step hpo (by omega) hid hhd hb has)
          have HLW : Hid (∀ r ∈ L2, p < r.2.lo) := Lib.hid fun r hr => (hpo.low r hr).1
          have t1 : Int.tmod (z : Int) (i : Int) = (b : Int) := by
            rw [hz, Int.tmod_eq_emod_of_nonneg (by omega)]
            rw [← Int.natCast_emod, Nat.mul_add_mod, Nat.mod_eq_of_lt hb]
          have t2 : Int.tdiv (z : Int) (i : Int) = (a : Int) := by
            rw [hz, Int.tdiv_eq_ediv_of_nonneg (by omega)]
            rw [← Int.natCast_ediv, Nat.mul_add_div (by omega), Nat.div_eq_of_lt hb, Nat.add_zero]
          clear hz hzj hpo hid hhd hk htn
          go_wp2_with fail
          go_at_call 15
          refine HSD.out.mono ?_
          rintro e w4 ⟨A4, k4, L4, rfl, hp4, hi4, hh4, hk4⟩
          have HF4 : Hid (PoolAt w4 p m (xl i mo s (0 + i) i) L4 ∧ Ids i L4 ∧ Heads s a (b + 1) L4 ∧ Kept noBlock w w4) := Lib.hid ⟨hp4, hi4, hh4, keep_poolL HK2b.out hk4 HPP.out HLW.out⟩
          clear hp4 hi4 hh4 hk4
          go_wp2_with fail
          go_roundg (n - (z + 1))
          case measure => have := HZJ.out; omega
          case rel =>
            by_cases hbe : b + 1 = i
            · refine ⟨a + 1, 0, z + 1, L4, ?_, ?_, by go_num, by omega, HF4.out.1, HF4.out.2.1, ?_, HF4.out.2.2.2⟩
              · have := HZ.out; rw [Nat.mul_add]; omega
              · have := HZJ.out; omega
              · have h1 := HF4.out.2.2.1
                rw [hbe] at h1
                exact h1.next HF4.out.2.1
            · exact ⟨a, b + 1, z + 1, L4, by have := HZ.out; omega, by have := HZJ.out; omega, by go_num, by omega, HF4.out.1, HF4.out.2.1, HF4.out.2.2.1, HF4.out.2.2.2⟩
        · have hzz : n - z = 0 := by omega
          obtain ⟨has, hb0⟩ := htn.2 hzz
          have HHS : Hid (Heads s s 0 L2) := Lib.hid (by have h1 := HHD2.out; rw [has, hb0] at h1; exact h1)
          have HLW : Hid (∀ r ∈ L2, p < r.2.lo) := Lib.hid fun r hr => (hpo.low r hr).1
          obtain ⟨wa, want, hw1e, hw2e, hw3e, hw4e, hw5e⟩ : ∃ wa want : Nat, (if i < mo ∧ i ≤ i then i + 1 else i) = wa ∧ (if wa < mo ∧ wa ≤ i then wa + 1 else wa) = wa ∧ want = wa - i ∧ (0 < m1 ∧ want = 1 ∨ m1 = 0 ∧ want = 0) ∧ wa ≤ 1000 := by
            have := HMO.out
            by_cases hm0 : 0 < m1
            · exact ⟨i + 1, 1, if_pos ⟨by omega, Nat.le_refl _⟩, if_neg (by omega), by omega, .inl ⟨hm0, rfl⟩, by omega⟩
            · exact ⟨i, 0, if_neg (by omega), if_neg (by omega), by omega, .inr ⟨by omega, rfl⟩, by omega⟩
          have W1 := Lib.hid hw1e
          have W2 := Lib.hid hw2e
          have W3 := Lib.hid hw3e
          have W4 := Lib.hid hw4e
          have HB1 := Lib.hid (busy_step hpo (by omega) (by omega) hid HHS.out (show (0 : Int) ≤ (i : Int) by omega) (show (i : Int) ≤ 1000 by omega))
          clear hz hzj hpo hid hhd hk htn hw1e hw2e hw3e hw4e has hb0
          go_wp2_with fail
          go_at_call 15
          refine HB1.out.mono ?_
          rintro e w4 ⟨rfl, hp4, hk4⟩
          rw [HID2.out.1, xl_more, W1.out] at hp4
          have HK4 := Lib.hid (keep_poolL HK2b.out hk4 HPP.out HLW.out)
          have HLW4 : Hid (∀ r ∈ L2, p < r.2.lo) := Lib.hid fun r hr => (hp4.low r hr).1
          have HB2 := Lib.hid (busy_step hp4 (by omega) (by omega) HID2.out HHS.out (show (0 : Int) ≤ (wa : Int) by omega) (show (wa : Int) ≤ 1000 by omega))
          clear hp4 hk4
          go_wp2_with fail
          go_at_call 15
          refine HB2.out.mono ?_
          rintro e w5 ⟨rfl, hp5, hk5⟩
          rw [HID2.out.1, xl_more, W2.out] at hp5
          have HK5 := Lib.hid (keep_poolL HK4.out hk5 HPP.out HLW4.out)
          have HLW5 : Hid (∀ r ∈ L2, p < r.2.lo) := Lib.hid fun r hr => (hp5.low r hr).1
          have hall : ∀ r ∈ L2, OpenQ s s r.2.x := fun r hr => by
            obtain ⟨j, hj⟩ := List.getElem?_of_mem hr
            have h1 := HHS.out j r hj
            rw [if_neg (Nat.not_lt_zero j)] at h1
            exact h1
          have HAL := Lib.hid hall
          have HT2 := Lib.hid (tickL (J := want) hp5 (fun q hq => (hall q hq).idle) (by omega) (by omega) (by omega) (by rw [HID2.out.1]; omega) (by rw [HID2.out.1]; exact W3.out))
          clear hp5 hk5 hall
          go_wp2_with fail
          go_at_call 10
          refine HT2.out.mono ?_
          rintro e w6 ⟨A6, c6, N6, rfl, hN6, hNr6, hp6, ⟨ok6, E6, hs6⟩, hk6⟩
          have HK6 := Lib.hid (keep_poolL HK5.out hk6 HPP.out HLW5.out)
          have hlen6 := hs6.run_len evT
          have hcnt : ((L2 ++ N6).filter op6).length = i := by
            rw [count6 HAL.out (fun r hr => by obtain ⟨j, hj⟩ := List.getElem?_of_mem hr; exact (hNr6 j r hj).2)]
            exact HID2.out.1
          have hll : (L2 ++ N6).length = i + want := by rw [List.length_append, HID2.out.1, hN6]
          have hwb : want ≤ 1 := by rcases W4.out with h | h <;> omega
          have HLV := Lib.hid (poLive_at hp6 (by rw [hll]; omega))
          rw [hcnt, hll] at HLV
          clear hN6 hNr6 hp6 hs6 hk6 hcnt hll
          go_wp2_with fail
          go_at_call 16
          refine HLV.out.mono ?_
          rintro e w7 ⟨A7, n7, c7, rfl, hn7, hs7, hk7⟩
          have HK7 := Lib.hid (HK6.out.trans hk7 fun _ _ e => e)
          have hlen7 := hs7.run_len intsTP
          have HN7 := Lib.hid hn7
          clear hn7 hs7 hk7
          rcases W4.out with ⟨h1, h2⟩ | ⟨h1, h2⟩
          · subst h2
            have e7 : ((n7 : Int) == (i : Int) + 1) = true := by
              have : (n7 : Int) = (i : Int) + 1 := by have := HN7.out; omega
              rw [this]; simp
            have hm0 : decide ((0 : Int) < (m1 : Int)) = true := decide_eq_true (by omega)
            go_wp2
            go_ret
            exact ⟨rfl, HK7.out⟩
          · subst h2
            have e7 : ((n7 : Int) == (i : Int)) = true := by
              have : (n7 : Int) = (i : Int) := by have := HN7.out; omega
              rw [this]; simp
            have hm0 : decide ((0 : Int) < (m1 : Int)) = false := decide_eq_false (by omega)
            go_wp2
            go_ret
            exact ⟨rfl, HK7.out⟩
end Go.Proofs.YtfnjoceolcdeoaaGreatDoor

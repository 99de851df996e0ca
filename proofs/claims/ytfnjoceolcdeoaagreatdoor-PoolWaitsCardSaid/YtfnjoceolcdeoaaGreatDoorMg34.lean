/- math/bits.Div64 by 100, of a number of 64 bits. -/
import Derived.Test.YtfnjoceolcdeoaaGreatDoorMg33
import Derived.Test.YtfnjoceolcdeoaaGreatDoorMg11
namespace Go.Proofs.YtfnjoceolcdeoaaGreatDoor
set_option linter.unusedVariables false
open Go.RowKit

set_option maxHeartbeats 2000000 in
set_option maxRecDepth 100000 in
theorem div64_at (x : Nat) (hx : x < 18446744073709551616) (w : World) : Calls Tryz.prog 63 #[.int .u64 0, .int .u64 x, .int .u64 100] w fun e w' => e = .returned (.tuple #[.int .u64 ((x / 100 : Nat) : Int), .int .u64 ((x % 100 : Nat) : Int)]) ∧ Kept noBlock w w' := by
  have e1 : (x : Int) / 100 = ((x / 100 : Nat) : Int) := by omega
  have e2 : (x : Int).tmod 100 = ((x % 100 : Nat) : Int) := by rw [Int.tmod_eq_emod_of_nonneg (by omega)]; omega
  have e3 : IntKind.u64.wrap ((x / 100 : Nat) : Int) = ((x / 100 : Nat) : Int) := by rw [IntKind.wrap_u64]; omega
  generalize ((x / 100 : Nat) : Int) = q at *
  generalize ((x % 100 : Nat) : Int) = r at *
  go_enter Tryz.func63, Tryz.ntmps63
  go_wp2_with fail
  refine wp_region_sch (fun w' => Kept noBlock w w') (.take 0 (.take 1 (.take 2 (.take 3 (.take 4 (.take 5 (.take 6 (.take 7 .nil)))))))) (by kernel_rfl) (by kernel_rfl) (by kernel_rfl) ((Kept.refl noBlock w).drew) ?_
  repeat (first
    | (refine sch_takeE rfl rfl ?_
       apply Exists.intro
       refine ⟨fun w' hS => ?_, fun K hK => ?_⟩
       · (clear hS
          unfold takesAt; go_simp; rfl)
       go_simp
       refine hK _ ?_
       clear hK K))
  refine sch_nil (NoPanic.normal ?_)
  go_wp2
  go_ret2
  exact ⟨rfl, (Kept.refl noBlock w).drew⟩
set_option maxHeartbeats 2000000 in
set_option maxRecDepth 100000 in
/-- Of a wait that is no more than 2^56. -/
theorem boDelay_at (base most n percent draw : Nat) (hb : base < 18446744073709551616) (hm : most ≤ 72057594037927936) (hn : n < 18446744073709551616) (hp : percent < 18446744073709551616) (hdr : draw < 18446744073709551616) (w : World) :
    Calls Tryz.prog 43 #[.int .u64 base, .int .u64 most, .int .u64 n, .int .u64 percent, .int .u64 draw] w fun e w' => e = .returned (.int .u64 ((delayP base most n percent draw : Nat) : Int)) ∧ Kept noBlock w w' := by
  obtain ⟨p, hpp⟩ : ∃ p, p = min percent 100 := ⟨_, rfl⟩
  obtain ⟨d, hd⟩ : ∃ d, d = plainP base most n := ⟨_, rfl⟩
  have hdm : d ≤ 72057594037927936 := by rw [hd]; unfold plainP; omega
  obtain ⟨m, hmm⟩ : ∃ m, m = d * p := ⟨_, rfl⟩
  have hm1 : m ≤ 7205759403792793600 := by
    rw [hmm]
    exact Nat.le_trans (Nat.mul_le_mul hdm (show p ≤ 100 by omega)) (by decide)
  obtain ⟨s, hs⟩ : ∃ s, s = m / 100 := ⟨_, rfl⟩
  have hsd : s ≤ d := by
    have : m ≤ d * 100 := by rw [hmm]; exact Nat.mul_le_mul_left d (show p ≤ 100 by omega)
    omega
  obtain ⟨x, hx⟩ : ∃ x, x = draw % (2 * s + 1) := ⟨_, rfl⟩
  have hxs : x ≤ 2 * s := by rw [hx]; have := Nat.mod_lt draw (show 0 < 2 * s + 1 by omega); omega
  have HR : Hid (delayP base most n percent draw = d - s + x) := Lib.hid (by
    unfold delayP
    simp only [← hd, ← hpp, ← hmm, ← hs]
    rw [if_pos (show s < 9223372036854775808 by omega), ← hx, if_pos (by omega)])
  have HP := Lib.hid (boPlain_at base most n hb (by omega) hn w)
  rw [← hd] at HP
  have HM := Lib.hid (Mul64_at d p (by omega) (by omega) w)
  rw [← hmm] at HM
  have em : m / 18446744073709551616 = 0 := Nat.div_eq_of_lt (by omega)
  have em2 : m % 18446744073709551616 = m := Nat.mod_eq_of_lt (by omega)
  rw [em, em2] at HM
  have HDV := Lib.hid (div64_at m (by omega) w)
  rw [← hs] at HDV
  generalize ((m % 100 : Nat) : Int) = rr at *
  have ed : (d : Int) - (s : Int) = ((d - s : Nat) : Int) := by omega
  have HA : Hid (∀ W, (callFunc 64 #[.int .u64 ((d : Int) - (s : Int)), .int .u64 x, .int .u64 0]).run Tryz.prog W = .ok (.value (.tuple #[.int .u64 ((d - s + x : Nat) : Int), .int .u64 0])) W) := Lib.hid fun W => by
    rw [ed, add64_run (d - s) x (by omega) (by omega) W]
    have h1 : (((d - s : Nat) : Int) + (x : Int) + 0) % 18446744073709551616 = ((d - s + x : Nat) : Int) := by omega
    have h2 : (((d - s : Nat) : Int) + (x : Int) + 0) / 18446744073709551616 = 0 := by omega
    rw [h1, h2]
  have HX : Hid ((draw : Int).tmod (2 * (s : Int) + 1) = (x : Int)) := Lib.hid (by
    rw [Int.tmod_eq_emod_of_nonneg (by omega), hx]
    have : (2 * (s : Int) + 1) = ((2 * s + 1 : Nat) : Int) := by omega
    rw [this, ← Int.natCast_emod])
  have hs62 : (s : Int) ≤ 9223372036854775807 := by omega
  clear hd hmm hs hx em em2 ed
  have htm := HX.out
  by_cases h100 : percent ≤ 100
  · obtain rfl : p = percent := by omega
    clear hpp
    go_enter Tryz.func43, Tryz.ntmps43
    go_wp2_with fail
    go_at_call 61
    refine HP.out.mono ?_
    rintro e w1 ⟨rfl, hw1⟩
    subst hw1
    go_wp2_with fail
    go_at_call 62
    refine HM.out.mono ?_
    rintro e w2 ⟨rfl, hw2⟩
    subst hw2
    go_wp2_with fail
    go_at_call 63
    refine HDV.out.mono ?_
    rintro e w3 ⟨rfl, hk3⟩
    have HK3 := Lib.hid hk3
    have ha := HA.out w3
    clear hk3
    go_wp2
    go_ret
    rw [HR.out]
    exact ⟨rfl, HK3.out⟩
  · obtain rfl : p = 100 := by omega
    clear hpp
    go_enter Tryz.func43, Tryz.ntmps43
    go_wp2_with fail
    go_at_call 61
    refine HP.out.mono ?_
    rintro e w1 ⟨rfl, hw1⟩
    subst hw1
    go_wp2_with fail
    go_at_call 62
    refine HM.out.mono ?_
    rintro e w2 ⟨rfl, hw2⟩
    subst hw2
    go_wp2_with fail
    go_at_call 63
    refine HDV.out.mono ?_
    rintro e w3 ⟨rfl, hk3⟩
    have HK3 := Lib.hid hk3
    have ha := HA.out w3
    clear hk3
    go_wp2
    go_ret
    rw [HR.out]
    exact ⟨rfl, HK3.out⟩
set_option maxHeartbeats 2000000 in
set_option maxRecDepth 100000 in
/-- The reference's, of the same. -/
theorem r16Delay_at (base most n percent draw : Nat) (hb : base < 18446744073709551616) (hm : most ≤ 72057594037927936) (hn : n < 18446744073709551616) (hp : percent < 18446744073709551616) (hdr : draw < 18446744073709551616) (w : World) :
    Calls Tryz.prog 12 #[.int .u64 base, .int .u64 most, .int .u64 n, .int .u64 percent, .int .u64 draw] w fun e w' => e = .returned (.int .u64 ((delayP base most n percent draw : Nat) : Int)) ∧ Kept noBlock w w' := by
  obtain ⟨p, hpp⟩ : ∃ p, p = min percent 100 := ⟨_, rfl⟩
  obtain ⟨d, hd⟩ : ∃ d, d = plainP base most n := ⟨_, rfl⟩
  have hdm : d ≤ 72057594037927936 := by rw [hd]; unfold plainP; omega
  obtain ⟨m, hmm⟩ : ∃ m, m = d * p := ⟨_, rfl⟩
  have hm1 : m ≤ 7205759403792793600 := by
    rw [hmm]
    exact Nat.le_trans (Nat.mul_le_mul hdm (show p ≤ 100 by omega)) (by decide)
  obtain ⟨s, hs⟩ : ∃ s, s = m / 100 := ⟨_, rfl⟩
  have hsd : s ≤ d := by
    have : m ≤ d * 100 := by rw [hmm]; exact Nat.mul_le_mul_left d (show p ≤ 100 by omega)
    omega
  obtain ⟨x, hx⟩ : ∃ x, x = draw % (2 * s + 1) := ⟨_, rfl⟩
  have hxs : x ≤ 2 * s := by rw [hx]; have := Nat.mod_lt draw (show 0 < 2 * s + 1 by omega); omega
  have HR : Hid (delayP base most n percent draw = d - s + x) := Lib.hid (by
    unfold delayP
    simp only [← hd, ← hpp, ← hmm, ← hs]
    rw [if_pos (show s < 9223372036854775808 by omega), ← hx, if_pos (by omega)])
  have HP := Lib.hid (fun w => r16Plain_at base most n hb (by omega) hn w)
  rw [← hd] at HP
  have HM := Lib.hid (fun w => r16Part_at d p (by omega) (by omega) w)
  rw [← hmm, ← hs] at HM
  have HX : Hid ((draw : Int).tmod ((s : Int) + (s : Int) + 1) = (x : Int)) := Lib.hid (by
    rw [Int.tmod_eq_emod_of_nonneg (by omega), hx]
    have : ((s : Int) + (s : Int) + 1) = ((2 * s + 1 : Nat) : Int) := by omega
    rw [this, ← Int.natCast_emod])
  have hs62 : (s : Int) < 9223372036854775808 := by omega
  have ed : (d : Int) - (s : Int) = ((d - s : Nat) : Int) := by omega
  obtain ⟨f, hf⟩ : ∃ f, f = d - s := ⟨_, rfl⟩
  rw [← hf] at ed HR
  have hfb : f ≤ 72057594037927936 := by omega
  have hxb : x ≤ 144115188075855872 := by omega
  clear hd hmm hs hx hf hxs
  have htm := HX.out
  have hz0 : (0 : Int) ≤ (s : Int) := by omega
  have hz1 : (s : Int) ≤ (d : Int) := by omega
  clear hsd
  generalize (s : Int) = z at *
  by_cases h100 : percent ≤ 100
  · obtain rfl : p = percent := by omega
    clear hpp
    go_enter Tryz.func12, Tryz.ntmps12
    go_wp2_with fail
    go_at_call 25
    refine (HP.out w).mono ?_
    rintro e w1 ⟨rfl, hw1⟩
    subst hw1
    go_wp2_with fail
    go_at_call 26
    refine (HM.out w).mono ?_
    rintro e w2 ⟨rfl, hw2⟩
    subst hw2
    go_wp2
    go_ret
    rw [HR.out]
    rw [Int.natCast_add]
    exact ⟨rfl, Kept.refl _ _⟩
  · obtain rfl : p = 100 := by omega
    clear hpp
    go_enter Tryz.func12, Tryz.ntmps12
    go_wp2_with fail
    go_at_call 25
    refine (HP.out w).mono ?_
    rintro e w1 ⟨rfl, hw1⟩
    subst hw1
    go_wp2_with fail
    go_at_call 26
    refine (HM.out w).mono ?_
    rintro e w2 ⟨rfl, hw2⟩
    subst hw2
    go_wp2
    go_ret
    rw [HR.out]
    rw [Int.natCast_add]
    exact ⟨rfl, Kept.refl _ _⟩
end Go.Proofs.YtfnjoceolcdeoaaGreatDoor

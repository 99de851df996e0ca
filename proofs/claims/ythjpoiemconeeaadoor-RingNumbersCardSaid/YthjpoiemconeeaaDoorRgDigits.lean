/- digits: a number as digits. -/
import Derived.Test.YthjpoiemconeeaaDoorRgNumPure
namespace Go.Proofs.YthjpoiemconeeaaDoor
set_option linter.unusedVariables false
open Go.RowKit

theorem dig_slice {d : Nat} (h : d < 10) (w : World) : (Instr.slice 9 (.string ⟨#[48, 49, 50, 51, 52, 53, 54, 55, 56, 57]⟩) (some (.int .u64 d)) (some (.int .u64 ((d : Int) + 1))) none).run Tryd.prog w = .ok (.string ⟨#[UInt8.ofNat (48 + d)]⟩) w := by
  have hs : (ByteArray.mk #[48, 49, 50, 51, 52, 53, 54, 55, 56, 57]).size = 10 := rfl
  rw [run_slice_string w 9 _ .u64 .u64 _ _ Tryd.underlying9 (by omega) (by omega) (by rw [hs]; omega)]
  have : d = 0 ∨ d = 1 ∨ d = 2 ∨ d = 3 ∨ d = 4 ∨ d = 5 ∨ d = 6 ∨ d = 7 ∨ d = 8 ∨ d = 9 := by omega
  rcases this with rfl | rfl | rfl | rfl | rfl | rfl | rfl | rfl | rfl | rfl <;> rfl
theorem ba_cons (c : UInt8) (t : ByteArray) : (ByteArray.mk #[c] ++ t).data.toList = c :: t.data.toList := by
  rw [ByteArray.data_append]; simp
theorem ba_cons_size (c : UInt8) (t : ByteArray) : (ByteArray.mk #[c] ++ t).size = t.size + 1 := by
  rw [ByteArray.size_append]; show 1 + t.size = _; omega

set_option maxHeartbeats 2000000 in
set_option maxRecDepth 100000 in
theorem digits_pos {n : Int} (h0 : ¬ n < 0) (h1 : n < 9223372036854775808) (w : World) : Calls Tryd.prog 20 #[.int .i64 n] w fun e w' => ∃ t : ByteArray, e = .returned (.string t) ∧ t.data.toList = digs n.natAbs ∧ w' = w := by
  obtain ⟨M, hM⟩ : ∃ M : Nat, n.natAbs = M := ⟨_, rfl⟩
  have hw : IntKind.u64.wrap n = M := by rw [IntKind.wrap_u64]; omega
  have START := Lib.hid (show M < 10 ^ 20 by omega)
  rw [hM]
  clear hM h1
  go_enter Tryd.func20, Tryd.ntmps20
  go_wp2_with fail
  go_loopg [3, 4, 5] 20 (fun j vs vm vi wr => ∃ (i m : Nat) (t : ByteArray), i + j = 20 ∧ vi = .int .i64 (i : Nat) ∧ vm = .int .u64 (m : Nat) ∧ vs = .string t ∧ t.size = i ∧ m < 10 ^ j ∧ (i = 0 ∨ m ≠ 0) ∧ digs M = digs m ++ t.data.toList ∧ wr = w)
  case atStart =>
    exact ⟨0, M, ⟨#[]⟩, by omega, rfl, rfl, rfl, rfl, START.out, .inl rfl, by simp, rfl⟩
  case round =>
    obtain ⟨i, m, t, hij, rfl, rfl, rfl, hsz, hm, him, hd, rfl⟩ := hrel
    clear START
    have HD := Lib.hid (⟨hij, hsz, hm, hd⟩ : i + gk = 20 ∧ t.size = i ∧ m < 10 ^ gk ∧ digs M = digs m ++ t.data.toList)
    have h20 : i ≤ 20 := by omega
    have hi : i ≠ 20 := by
      rintro rfl
      obtain rfl : gk = 0 := by omega
      rw [Nat.pow_zero] at hm
      omega
    clear hd hm him hij
    have hw1 : IntKind.i64.wrap ((i : Int) + 1) = (i : Int) + 1 := by rw [IntKind.wrap_i64]; omega
    obtain ⟨d, hd⟩ : ∃ d : Nat, m % 10 = d := ⟨_, rfl⟩
    have hd10 : d < 10 := by omega
    have hrem : ∀ b : Int, b = 10 → (m : Int) % b = d := by intro b hb; subst hb; omega
    have hw2 : IntKind.u64.wrap ((d : Int) + 1) = (d : Int) + 1 := by rw [IntKind.wrap_u64]; omega
    have hsl := dig_slice hd10
    obtain ⟨c, hc⟩ : ∃ c, UInt8.ofNat (48 + d) = c := ⟨_, rfl⟩
    rw [hc] at hsl
    obtain ⟨q, hq⟩ : ∃ q : Nat, m / 10 = q := ⟨_, rfl⟩
    have hquo : ∀ b : Int, b = 10 → (m : Int) / b = q := by intro b hb; subst hb; omega
    have hwq : IntKind.u64.wrap q = q := by
      have : m < 10 ^ 20 := Nat.lt_of_lt_of_le HD.out.2.2.1 (Nat.pow_le_pow_right (by decide) (by have := HD.out.1; omega))
      rw [IntKind.wrap_u64]; omega
    have HQ := Lib.hid (⟨hd, hq, hc⟩ : m % 10 = d ∧ m / 10 = q ∧ UInt8.ofNat (48 + d) = c)
    have h20t : t.size ≤ 20 := by omega
    clear hd hq hc hsz hw
    by_cases hq0 : q = 0
    · subst hq0
      go_wp2
      go_ret
      obtain ⟨hij, hsz, hm, hd⟩ := HD.out
      obtain ⟨e1, e2, e3⟩ := HQ.out
      refine ⟨_, rfl, ?_, rfl⟩
      rw [ba_cons]
      rw [hd, digs_last _ (by omega), e1, e3]
      rfl
    · have hz : ((q : Int) == 0) = false := by rw [beq_eq_false_iff_ne]; omega
      go_wp2
      go_roundg (gk - 1)
      case measure => have := HD.out.1; omega
      case rel =>
        obtain ⟨hij, hsz, hm, hd⟩ := HD.out
        obtain ⟨e1, e2, e3⟩ := HQ.out
        refine ⟨i + 1, q, _, by omega, by go_num, rfl, rfl, by rw [ba_cons_size, hsz], ?_, .inr hq0, ?_, rfl⟩
        · obtain ⟨g, rfl⟩ : ∃ g, gk = g + 1 := ⟨gk - 1, by omega⟩
          rw [Nat.pow_succ] at hm
          rw [← e2]
          show m / 10 < 10 ^ g
          omega
        · rw [hd, digs_step _ (by omega), e1, e2, e3, ba_cons]
          rfl

set_option maxHeartbeats 2000000 in
set_option maxRecDepth 100000 in
theorem digits_neg {n : Int} (h0 : n < 0) (h1 : -9223372036854775808 ≤ n) (w : World) : Calls Tryd.prog 20 #[.int .i64 n] w fun e w' => ∃ t : ByteArray, e = .returned (.string t) ∧ t.data.toList = 45 :: digs n.natAbs ∧ w' = w := by
  have hw : IntKind.u64.wrap n = n + 18446744073709551616 := by rw [IntKind.wrap_u64]; omega
  obtain ⟨M, hM⟩ : ∃ M : Nat, n.natAbs = M := ⟨_, rfl⟩
  have hw2 : IntKind.u64.wrap (-(n + 18446744073709551616)) = M := by rw [IntKind.wrap_u64]; omega
  have hw3 : IntKind.u64.wrap (-18446744073709551616 + -n) = M := by rw [IntKind.wrap_u64]; omega
  have START := Lib.hid (show M < 10 ^ 20 by omega)
  rw [hM]
  clear hM h1
  go_enter Tryd.func20, Tryd.ntmps20
  go_wp2_with fail
  go_loopg [3, 4, 5] 20 (fun j vs vm vi wr => ∃ (i m : Nat) (t : ByteArray), i + j = 20 ∧ vi = .int .i64 (i : Nat) ∧ vm = .int .u64 (m : Nat) ∧ vs = .string t ∧ t.size = i ∧ m < 10 ^ j ∧ (i = 0 ∨ m ≠ 0) ∧ digs M = digs m ++ t.data.toList ∧ wr = w)
  case atStart =>
    exact ⟨0, M, ⟨#[]⟩, by omega, rfl, rfl, rfl, rfl, START.out, .inl rfl, by simp, rfl⟩
  case round =>
    obtain ⟨i, m, t, hij, rfl, rfl, rfl, hsz, hm, him, hd, rfl⟩ := hrel
    clear START
    have HD := Lib.hid (⟨hij, hsz, hm, hd⟩ : i + gk = 20 ∧ t.size = i ∧ m < 10 ^ gk ∧ digs M = digs m ++ t.data.toList)
    have h20 : i ≤ 20 := by omega
    have hi : i ≠ 20 := by
      rintro rfl
      obtain rfl : gk = 0 := by omega
      rw [Nat.pow_zero] at hm
      omega
    clear hd hm him hij
    have hw1 : IntKind.i64.wrap ((i : Int) + 1) = (i : Int) + 1 := by rw [IntKind.wrap_i64]; omega
    obtain ⟨d, hd⟩ : ∃ d : Nat, m % 10 = d := ⟨_, rfl⟩
    have hd10 : d < 10 := by omega
    have hrem : ∀ b : Int, b = 10 → (m : Int) % b = d := by intro b hb; subst hb; omega
    have hw2 : IntKind.u64.wrap ((d : Int) + 1) = (d : Int) + 1 := by rw [IntKind.wrap_u64]; omega
    have hsl := dig_slice hd10
    obtain ⟨c, hc⟩ : ∃ c, UInt8.ofNat (48 + d) = c := ⟨_, rfl⟩
    rw [hc] at hsl
    obtain ⟨q, hq⟩ : ∃ q : Nat, m / 10 = q := ⟨_, rfl⟩
    have hquo : ∀ b : Int, b = 10 → (m : Int) / b = q := by intro b hb; subst hb; omega
    have hwq : IntKind.u64.wrap q = q := by
      have : m < 10 ^ 20 := Nat.lt_of_lt_of_le HD.out.2.2.1 (Nat.pow_le_pow_right (by decide) (by have := HD.out.1; omega))
      rw [IntKind.wrap_u64]; omega
    have HQ := Lib.hid (⟨hd, hq, hc⟩ : m % 10 = d ∧ m / 10 = q ∧ UInt8.ofNat (48 + d) = c)
    have h20t : t.size ≤ 20 := by omega
    clear hd hq hc hsz hw
    by_cases hq0 : q = 0
    · subst hq0
      go_wp2
      go_ret
      obtain ⟨hij, hsz, hm, hd⟩ := HD.out
      obtain ⟨e1, e2, e3⟩ := HQ.out
      refine ⟨_, rfl, ?_, rfl⟩
      rw [ba_cons, ba_cons]
      rw [hd, digs_last _ (by omega), e1, e3]
      rfl
    · have hz : ((q : Int) == 0) = false := by rw [beq_eq_false_iff_ne]; omega
      go_wp2
      go_roundg (gk - 1)
      case measure => have := HD.out.1; omega
      case rel =>
        obtain ⟨hij, hsz, hm, hd⟩ := HD.out
        obtain ⟨e1, e2, e3⟩ := HQ.out
        refine ⟨i + 1, q, _, by omega, by go_num, rfl, rfl, by rw [ba_cons_size, hsz], ?_, .inr hq0, ?_, rfl⟩
        · obtain ⟨g, rfl⟩ : ∃ g, gk = g + 1 := ⟨gk - 1, by omega⟩
          rw [Nat.pow_succ] at hm
          rw [← e2]
          show m / 10 < 10 ^ g
          omega
        · rw [hd, digs_step _ (by omega), e1, e2, e3, ba_cons]
          rfl

/-- digits: what stands there is the number as it is written. -/
theorem digits_at {n : Int} (h1 : -9223372036854775808 ≤ n) (h2 : n < 9223372036854775808) (w : World) : Calls Tryd.prog 20 #[.int .i64 n] w fun e w' => ∃ t : ByteArray, e = .returned (.string t) ∧ t.data.toList = spell n ∧ w' = w := by
  unfold spell
  by_cases h : n < 0
  · rw [if_pos h]; exact digits_neg h h1 w
  · rw [if_neg h]; exact digits_pos h h2 w
end Go.Proofs.YthjpoiemconeeaaDoor

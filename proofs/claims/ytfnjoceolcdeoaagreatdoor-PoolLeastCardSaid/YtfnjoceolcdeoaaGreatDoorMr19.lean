/- backoff, plainly: how long one waits. No program is named · math/bits.Mul64: the product of two numbers of 64 bits, whole · backoff: Plain, Delay (of waits that are no more than 2^56), and the reference's. -/
import Derived.WalkKit
import Derived.Test.YtfnjoceolcdeoaaGreatDoorProg
import Derived.Test.YtfnjoceolcdeoaaGreatDoorMr03
import Derived.Shelf.Bits.Mul64
import Derived.Laws.Externs
import Derived.Deep.LoopGhost
namespace Go.Proofs.YtfnjoceolcdeoaaGreatDoor
set_option linter.unusedVariables false

/-- The wait ahead of the n-th try. -/
def plainP (base most n : Nat) : Nat := min (base * 2 ^ n) most
/-- That, a bit more or less. -/
def delayP (base most n percent draw : Nat) : Nat :=
  let d := plainP base most n
  let s := d * min percent 100 / 100
  let x := if s < 9223372036854775808 then draw % (2 * s + 1) else draw
  if d - s + x < 18446744073709551616 then d - s + x else 18446744073709551615
theorem part_eq (d p : Nat) : d / 100 * p + d % 100 * p / 100 = d * p / 100 := by
  have h : d * p = 100 * (d / 100 * p) + d % 100 * p := by
    have := Nat.div_add_mod d 100
    calc d * p = (100 * (d / 100) + d % 100) * p := by rw [this]
      _ = _ := by rw [Nat.add_mul, Nat.mul_assoc]
  rw [h, Nat.mul_add_div (by decide)]
/-- A round of the program's loop that goes on. -/
theorem plain_step {base k : Nat} (h : base * 2 ^ k ≤ 9223372036854775807) : base * 2 ^ k * 2 = base * 2 ^ (k + 1) ∧ base * 2 ^ (k + 1) < 18446744073709551616 := by
  have : base * 2 ^ k * 2 = base * 2 ^ (k + 1) := by rw [Nat.pow_succ, Nat.mul_assoc]
  exact ⟨this, by omega⟩
theorem plain_great {base most n k : Nat} (hm : most < 18446744073709551616) (hk : k < n) (h : 9223372036854775807 < base * 2 ^ k) : plainP base most n = most := by
  unfold plainP
  have h1 : base * 2 ^ (k + 1) ≤ base * 2 ^ n := Nat.mul_le_mul_left _ (Nat.pow_le_pow_right (by decide) hk)
  have h2 : base * 2 ^ (k + 1) = base * 2 ^ k * 2 := by rw [Nat.pow_succ, Nat.mul_assoc]
  omega
/-- Behind 64 rounds nothing is left but nought. -/
theorem plain_64 {base most n : Nat} (h : base * 2 ^ 64 < 18446744073709551616) : plainP base most n = min (base * 2 ^ 64) most := by
  have hb : base = 0 := by omega
  subst hb
  unfold plainP
  simp
theorem delay_lt {base most n percent draw : Nat} : delayP base most n percent draw < 18446744073709551616 := by
  unfold delayP
  simp only []
  repeat' split
  all_goals omega
end Go.Proofs.YtfnjoceolcdeoaaGreatDoor
namespace Go.Proofs.YtfnjoceolcdeoaaGreatDoor
set_option linter.unusedVariables false
open Go.RowKit
set_option maxHeartbeats 1000000 in
theorem Mul64_at (x y : Nat) (hx : x < 18446744073709551616) (hy : y < 18446744073709551616) (w : World) :
    Calls Tryz.prog 62 #[.int .u64 x, .int .u64 y] w fun e w' => e = .returned (.tuple #[.int .u64 ((x * y / 18446744073709551616 : Nat) : Int), .int .u64 ((x * y % 18446744073709551616 : Nat) : Int)]) ∧ w = w' := by
  obtain ⟨bd, bt, bw, hhi⟩ := Lib.mul64_hi x y hx hy
  have ba := Lib.half_mul_le (a := x / 4294967296) (b := y / 4294967296) (by omega) (by omega)
  have bb := Lib.half_mul_le (a := x / 4294967296) (b := y % 4294967296) (by omega) (by omega)
  have bc := Lib.half_mul_le (a := x % 4294967296) (b := y / 4294967296) (by omega) (by omega)
  have ba' : x / 4294967296 * (y / 4294967296) < 18446744073709551616 := by omega
  have bb' : x / 4294967296 * (y % 4294967296) < 18446744073709551616 := by omega
  have bc' : x % 4294967296 * (y / 4294967296) < 18446744073709551616 := by omega
  have bh1 : x / 4294967296 * (y / 4294967296) + (x / 4294967296 * (y % 4294967296) + x % 4294967296 * (y % 4294967296) / 4294967296) / 4294967296 < 18446744073709551616 := by omega
  have bh : x / 4294967296 * (y / 4294967296) + (x / 4294967296 * (y % 4294967296) + x % 4294967296 * (y % 4294967296) / 4294967296) / 4294967296 + ((x / 4294967296 * (y % 4294967296) + x % 4294967296 * (y % 4294967296) / 4294967296) % 4294967296 + x % 4294967296 * (y / 4294967296)) / 4294967296 < 18446744073709551616 := by omega
  go_enter Tryz.func62, Tryz.ntmps62
  go_wp2
  simp only [Mul64.maskN x hx, Mul64.maskN y hy, Mul64.divN, Mul64.mulN, Mul64.addN, Mul64.wrapN _ bd, Mul64.wrapN _ bb', Mul64.wrapN _ bt, Mul64.maskN _ bt, Mul64.wrapN _ bc', Mul64.wrapN _ bw, Mul64.wrapN _ ba', Mul64.wrapN _ bh1, Mul64.wrapN _ bh, Mul64.wrapM (x * y)]
  rw [hhi]
  go_ret2
  exact ⟨rfl, rfl⟩

theorem Mul64_int (x y : Int) (hx0 : 0 ≤ x) (hx : x < 18446744073709551616) (hy0 : 0 ≤ y) (hy : y < 18446744073709551616) (w : World) :
    Calls Tryz.prog 62 #[.int .u64 x, .int .u64 y] w fun e w' => e = .returned (.tuple #[.int .u64 (x * y / 18446744073709551616), .int .u64 (x * y % 18446744073709551616)]) ∧ w = w' := by
  obtain ⟨n, rfl⟩ := Int.eq_ofNat_of_zero_le hx0
  obtain ⟨k, rfl⟩ := Int.eq_ofNat_of_zero_le hy0
  have := Mul64_at n k (by omega) (by omega) w
  rw [Int.natCast_ediv, Int.natCast_emod, Int.natCast_mul] at this
  exact this
end Go.Proofs.YtfnjoceolcdeoaaGreatDoor
namespace Go.Proofs.YtfnjoceolcdeoaaGreatDoor
set_option linter.unusedVariables false
open Go.RowKit

theorem natMin {a b : Nat} : min a b = if a ≤ b then a else b := Nat.min_def
set_option maxHeartbeats 1000000 in
set_option maxRecDepth 100000 in
theorem r16Part_at (d p : Nat) (hd : d < 18446744073709551616) (hp : p ≤ 100) (w : World) : Calls Tryz.prog 26 #[.int .u64 d, .int .u64 p] w fun e w' => e = .returned (.int .u64 ((d * p / 100 : Nat) : Int)) ∧ w = w' := by
  obtain ⟨q, hq⟩ : ∃ q, q = d / 100 := ⟨_, rfl⟩
  obtain ⟨r, hr⟩ : ∃ r, r = d % 100 := ⟨_, rfl⟩
  obtain ⟨m1, h1⟩ : ∃ m1, m1 = q * p := ⟨_, rfl⟩
  obtain ⟨m2, h2⟩ : ∃ m2, m2 = r * p := ⟨_, rfl⟩
  obtain ⟨m3, h3⟩ : ∃ m3, m3 = m2 / 100 := ⟨_, rfl⟩
  have hs : m1 + m3 = d * p / 100 := by rw [h3, h2, h1, hq, hr]; exact part_eq d p
  have b5 : d * p / 100 ≤ d := by
    have : d * p ≤ d * 100 := Nat.mul_le_mul_left d hp
    omega
  have b2 : m2 ≤ 9900 := by
    rw [h2]
    exact Nat.le_trans (Nat.mul_le_mul (show r ≤ 99 by omega) hp) (by decide)
  have e1 : (d : Int) / 100 = (q : Int) := by omega
  have e2 : (d : Int) % 100 = (r : Int) := by omega
  have e3 : (q : Int) * (p : Int) = (m1 : Int) := by rw [h1]; exact (Int.natCast_mul q p).symm
  have e4 : (r : Int) * (p : Int) = (m2 : Int) := by rw [h2]; exact (Int.natCast_mul r p).symm
  have e5 : (m2 : Int) / 100 = (m3 : Int) := by omega
  have e6 : IntKind.u64.wrap ((q : Int) * (p : Int)) = (m1 : Int) := by rw [e3, IntKind.wrap_u64]; omega
  have e7 : IntKind.u64.wrap ((r : Int) * (p : Int)) = (m2 : Int) := by rw [e4, IntKind.wrap_u64]; omega
  have HS := Lib.hid hs
  have hb : m1 + m3 < 18446744073709551616 := by omega
  clear hq hr h1 h2 h3 hs b5 e3 e4
  go_enter Tryz.func26, Tryz.ntmps26
  go_wp2
  go_ret
  rw [← HS.out]
  exact ⟨rfl, rfl⟩
set_option maxHeartbeats 2000000 in
set_option maxRecDepth 100000 in
theorem boPlain_at (base most n : Nat) (hb : base < 18446744073709551616) (hm : most < 18446744073709551616) (hn : n < 18446744073709551616) (w : World) :
    Calls Tryz.prog 61 #[.int .u64 base, .int .u64 most, .int .u64 n] w fun e w' => e = .returned (.int .u64 ((plainP base most n : Nat) : Int)) ∧ w = w' := by
  have HG := Lib.hid (fun k (hk : k < n) h => plain_great (base := base) (n := n) (k := k) hm hk h)
  have H64 := Lib.hid (plain_64 (base := base) (most := most) (n := n))
  by_cases h64 : n ≤ 64
  · go_enter Tryz.func61, Tryz.ntmps61
    go_wp2_with fail
    go_loopg [7, 12] n (fun j vo vi wr => ∃ (i q : Nat), i + j = n ∧ vi = .int .i64 i ∧ vo = .int .u64 (q : Int) ∧ Hid (q = base * 2 ^ i) ∧ q < 18446744073709551616 ∧ wr = w)
    case atStart => exact ⟨0, base, by omega, rfl, rfl, Lib.hid (by simp), hb, rfl⟩
    case round =>
      obtain ⟨i, q, hij, rfl, rfl, HQ, hq, rfl⟩ := hrel
      have HIJ := Lib.hid hij
      by_cases hi : i < n
      · by_cases hg : 9223372036854775807 < q
        · have HR : Hid (plainP base most n = most) := Lib.hid (HG.out i (by omega) (by rw [← HQ.out]; exact hg))
          clear hij
          go_wp2
          go_ret
          rw [HR.out]
          exact ⟨rfl, rfl⟩
        · have HN : Hid (q * 2 = base * 2 ^ (i + 1)) := Lib.hid (by rw [HQ.out, Nat.pow_succ, Nat.mul_assoc])
          clear hij
          go_wp2_with fail
          go_roundg (n - (i + 1))
          case measure => have := HIJ.out; omega
          case rel => exact ⟨i + 1, q * 2, by have := HIJ.out; omega, by go_num, by congr 1 <;> omega, HN, by omega, rfl⟩
      · obtain rfl : n = i := by omega
        have HR : Hid (plainP base most n = if q ≤ most then q else most) := Lib.hid (by rw [HQ.out]; unfold plainP; exact Nat.min_def)
        clear hij
        by_cases hle : q ≤ most
        · go_wp2
          go_ret
          rw [HR.out, if_pos hle]
          first
          | exact ⟨rfl, rfl⟩
          | exact ⟨by show Ending.returned (.int .u64 (min (q : Int) (most : Int))) = _; rw [Int.min_eq_left (by omega)], rfl⟩
        · go_wp2
          go_ret
          rw [HR.out, if_neg hle]
          first
          | exact ⟨rfl, rfl⟩
          | exact ⟨by show Ending.returned (.int .u64 (min (q : Int) (most : Int))) = _; rw [Int.min_eq_right (by omega)], rfl⟩
  · go_enter Tryz.func61, Tryz.ntmps61
    go_wp2_with fail
    go_loopg [7, 12] 64 (fun j vo vi wr => ∃ (i q : Nat), i + j = 64 ∧ vi = .int .i64 i ∧ vo = .int .u64 (q : Int) ∧ Hid (q = base * 2 ^ i) ∧ q < 18446744073709551616 ∧ wr = w)
    case atStart => exact ⟨0, base, by omega, rfl, rfl, Lib.hid (by simp), hb, rfl⟩
    case round =>
      obtain ⟨i, q, hij, rfl, rfl, HQ, hq, rfl⟩ := hrel
      have HIJ := Lib.hid hij
      by_cases hi : i < 64
      · by_cases hg : 9223372036854775807 < q
        · have HR : Hid (plainP base most n = most) := Lib.hid (HG.out i (by omega) (by rw [← HQ.out]; exact hg))
          clear hij
          go_wp2
          go_ret
          rw [HR.out]
          exact ⟨rfl, rfl⟩
        · have HN : Hid (q * 2 = base * 2 ^ (i + 1)) := Lib.hid (by rw [HQ.out, Nat.pow_succ, Nat.mul_assoc])
          clear hij
          go_wp2_with fail
          go_roundg (64 - (i + 1))
          case measure => have := HIJ.out; omega
          case rel => exact ⟨i + 1, q * 2, by have := HIJ.out; omega, by go_num, by congr 1 <;> omega, HN, by omega, rfl⟩
      · have hi64 : i = 64 := by omega
        subst hi64
        have HR : Hid (plainP base most n = if q ≤ most then q else most) := Lib.hid (by rw [H64.out (by rw [← HQ.out]; exact hq), ← HQ.out]; exact Nat.min_def)
        clear hij
        by_cases hle : q ≤ most
        · go_wp2
          go_ret
          rw [HR.out, if_pos hle]
          first
          | exact ⟨rfl, rfl⟩
          | exact ⟨by show Ending.returned (.int .u64 (min (q : Int) (most : Int))) = _; rw [Int.min_eq_left (by omega)], rfl⟩
        · go_wp2
          go_ret
          rw [HR.out, if_neg hle]
          first
          | exact ⟨rfl, rfl⟩
          | exact ⟨by show Ending.returned (.int .u64 (min (q : Int) (most : Int))) = _; rw [Int.min_eq_right (by omega)], rfl⟩
set_option maxHeartbeats 2000000 in
set_option maxRecDepth 100000 in
theorem r16Plain_at (base most n : Nat) (hb : base < 18446744073709551616) (hm : most < 18446744073709551616) (hn : n < 18446744073709551616) (w : World) :
    Calls Tryz.prog 25 #[.int .u64 base, .int .u64 most, .int .u64 n] w fun e w' => e = .returned (.int .u64 ((plainP base most n : Nat) : Int)) ∧ w = w' := by
  have HG := Lib.hid (fun k (hk : k < n) h => plain_great (base := base) (n := n) (k := k) hm hk h)
  by_cases h0 : base = 0
  · have HR : Hid (plainP base most n = 0) := Lib.hid (by rw [h0]; unfold plainP; simp)
    subst h0
    go_enter Tryz.func25, Tryz.ntmps25
    go_wp2
    go_ret
    rw [HR.out]
    exact ⟨rfl, rfl⟩
  have hbz : ((base : Int) == 0) = false := by rw [beq_eq_false_iff_ne]; omega
  go_enter Tryz.func25, Tryz.ntmps25
  go_wp2_with fail
  go_loopg [7, 8] n (fun j vo vi wr => ∃ (i : Nat) (q : Int), i + j = n ∧ vi = .int .u64 i ∧ vo = .int .u64 q ∧ Hid (q = ((base * 2 ^ i : Nat) : Int)) ∧ 0 ≤ q ∧ q < 18446744073709551616 ∧ wr = w)
  case atStart => exact ⟨0, base, by omega, rfl, rfl, Lib.hid (by simp), by omega, by omega, rfl⟩
  case round =>
    obtain ⟨i, q, hij, rfl, rfl, HQ, hq0, hq, rfl⟩ := hrel
    have HIJ := Lib.hid hij
    by_cases hi : i < n
    · by_cases hqm : q < (most : Int)
      · by_cases hg : 9223372036854775808 ≤ q
        · have HR : Hid (plainP base most n = most) := Lib.hid (HG.out i hi (by have := HQ.out; omega))
          clear hij
          go_wp2
          go_ret
          rw [HR.out]
          exact ⟨rfl, rfl⟩
        · have HN : Hid (q + q = ((base * 2 ^ (i + 1) : Nat) : Int)) := Lib.hid (by rw [Nat.pow_succ, ← Nat.mul_assoc]; have := HQ.out; omega)
          clear hij
          go_wp2_with fail
          go_roundg (n - (i + 1))
          case measure => have := HIJ.out; omega
          case rel => exact ⟨i + 1, q + q, by have := HIJ.out; omega, by congr 1 <;> omega, by congr 1 <;> omega, HN, by omega, by omega, rfl⟩
      · have HR : Hid (plainP base most n = most) := Lib.hid (by
          have h1 : base * 2 ^ i ≤ base * 2 ^ n := Nat.mul_le_mul_left _ (Nat.pow_le_pow_right (by decide) (Nat.le_of_lt hi))
          have h2 := HQ.out
          unfold plainP
          omega)
        clear hij
        by_cases hlt : (most : Int) < q
        · go_wp2
          go_ret
          rw [HR.out]
          exact ⟨rfl, rfl⟩
        · have HQE : Hid ((most : Int) = q) := Lib.hid (by omega)
          go_wp2
          go_ret
          rw [HR.out, HQE.out]
          exact ⟨rfl, rfl⟩
    · have hin : i = n := by
        have h1 := HIJ.out
        have h2 := Nat.le_of_not_lt hi
        omega
      have HR : Hid (((plainP base most n : Nat) : Int) = if (most : Int) < q then (most : Int) else q) := Lib.hid (by
        have h2 := HQ.out
        rw [hin] at h2
        unfold plainP
        split <;> omega)
      clear hij hin
      by_cases hlt : (most : Int) < q
      · go_wp2
        go_ret
        rw [HR.out, if_pos hlt]
        exact ⟨rfl, rfl⟩
      · go_wp2
        go_ret
        rw [HR.out, if_neg (by omega)]
        exact ⟨rfl, rfl⟩
theorem add64_run (x y : Nat) (hx : x < 18446744073709551616) (hy : y < 18446744073709551616) (w : World) :
    (callFunc 64 #[.int .u64 x, .int .u64 y, .int .u64 0]).run Tryz.prog w = .ok (.value (.tuple #[.int .u64 (((x : Int) + y + 0) % 18446744073709551616), .int .u64 (((x : Int) + y + 0) / 18446744073709551616)])) w := by
  rw [run_callFunc_extern Tryz.func64 (by kernel_rfl) (by kernel_rfl) (by kernel_rfl) (e := add64Entry) (by kernel_rfl), run_add64 x y 0 (by omega) (by omega) (by omega) (by omega)]
  rfl
end Go.Proofs.YtfnjoceolcdeoaaGreatDoor

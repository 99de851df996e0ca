/- backoff, plainly: how long one waits. No program is named · math/bits.Mul64: the product of two numbers of 64 bits, whole. -/
import Derived.WalkKit
import Derived.Test.YtfnjoceolcdeoaaGreatDoorProg
import Derived.Test.YtfnjoceolcdeoaaGreatDoorMg03
import Derived.Shelf.Bits.Mul64
namespace Go.Proofs.YtfnjoceolcdeoaaGreatDoor
set_option linter.unusedVariables false

/-- The wait ahead of the n-th try. -/
def plainP (base most n : Nat) : Nat := min (base * 2 ^ n) most
/-- That, a bit more or less. -/
def delayP (base most n percent draw : Nat) : Nat :=
  let d := plainP base most n
  let s := d * min percent 100 / 100
  let x := if s < 9223372036854775808 then draw % (2 * s + 1) else draw
  if d - s + x < 18446744073709551616 then d - s + x else 18446744073709551615
theorem part_eq (d p : Nat) : d / 100 * p + d % 100 * p / 100 = d * p / 100 := by
  have h : d * p = 100 * (d / 100 * p) + d % 100 * p := by
    have := Nat.div_add_mod d 100
    calc d * p = (100 * (d / 100) + d % 100) * p := by rw [this]
      _ = _ := by rw [Nat.add_mul, Nat.mul_assoc]
  rw [h, Nat.mul_add_div (by decide)]
/-- A round of the program's loop that goes on. -/
theorem plain_step {base k : Nat} (h : base * 2 ^ k ≤ 9223372036854775807) : base * 2 ^ k * 2 = base * 2 ^ (k + 1) ∧ base * 2 ^ (k + 1) < 18446744073709551616 := by
  have : base * 2 ^ k * 2 = base * 2 ^ (k + 1) := by rw [Nat.pow_succ, Nat.mul_assoc]
  exact ⟨this, by omega⟩
theorem plain_great {base most n k : Nat} (hm : most < 18446744073709551616) (hk : k < n) (h : 9223372036854775807 < base * 2 ^ k) : plainP base most n = most := by
  unfold plainP
  have h1 : base * 2 ^ (k + 1) ≤ base * 2 ^ n := Nat.mul_le_mul_left _ (Nat.pow_le_pow_right (by decide) hk)
  have h2 : base * 2 ^ (k + 1) = base * 2 ^ k * 2 := by rw [Nat.pow_succ, Nat.mul_assoc]
  omega
/-- Behind 64 rounds nothing is left but nought. -/
theorem plain_64 {base most n : Nat} (h : base * 2 ^ 64 < 18446744073709551616) : plainP base most n = min (base * 2 ^ 64) most := by
  have hb : base = 0 := by omega
  subst hb
  unfold plainP
  simp
theorem delay_lt {base most n percent draw : Nat} : delayP base most n percent draw < 18446744073709551616 := by
  unfold delayP
  simp only []
  repeat' split
  all_goals omega
end Go.Proofs.YtfnjoceolcdeoaaGreatDoor
namespace Go.Proofs.YtfnjoceolcdeoaaGreatDoor
set_option linter.unusedVariables false
open Go.RowKit
set_option maxHeartbeats 1000000 in
theorem Mul64_at (x y : Nat) (hx : x < 18446744073709551616) (hy : y < 18446744073709551616) (w : World) :
    Calls Tryz.prog 62 #[.int .u64 x, .int .u64 y] w fun e w' => e = .returned (.tuple #[.int .u64 ((x * y / 18446744073709551616 : Nat) : Int), .int .u64 ((x * y % 18446744073709551616 : Nat) : Int)]) ∧ w = w' := by
  obtain ⟨bd, bt, bw, hhi⟩ := Lib.mul64_hi x y hx hy
  have ba := Lib.half_mul_le (a := x / 4294967296) (b := y / 4294967296) (by omega) (by omega)
  have bb := Lib.half_mul_le (a := x / 4294967296) (b := y % 4294967296) (by omega) (by omega)
  have bc := Lib.half_mul_le (a := x % 4294967296) (b := y / 4294967296) (by omega) (by omega)
  have ba' : x / 4294967296 * (y / 4294967296) < 18446744073709551616 := by omega
  have bb' : x / 4294967296 * (y % 4294967296) < 18446744073709551616 := by omega
  have bc' : x % 4294967296 * (y / 4294967296) < 18446744073709551616 := by omega
  have bh1 : x / 4294967296 * (y / 4294967296) + (x / 4294967296 * (y % 4294967296) + x % 4294967296 * (y % 4294967296) / 4294967296) / 4294967296 < 18446744073709551616 := by omega
  have bh : x / 4294967296 * (y / 4294967296) + (x / 4294967296 * (y % 4294967296) + x % 4294967296 * (y % 4294967296) / 4294967296) / 4294967296 + ((x / 4294967296 * (y % 4294967296) + x % 4294967296 * (y % 4294967296) / 4294967296) % 4294967296 + x % 4294967296 * (y / 4294967296)) / 4294967296 < 18446744073709551616 := by omega
  go_enter Tryz.func62, Tryz.ntmps62
  go_wp2
  simp only [Mul64.maskN x hx, Mul64.maskN y hy, Mul64.divN, Mul64.mulN, Mul64.addN, Mul64.wrapN _ bd, Mul64.wrapN _ bb', Mul64.wrapN _ bt, Mul64.maskN _ bt, Mul64.wrapN _ bc', Mul64.wrapN _ bw, Mul64.wrapN _ ba', Mul64.wrapN _ bh1, Mul64.wrapN _ bh, Mul64.wrapM (x * y)]
  rw [hhi]
  go_ret2
  exact ⟨rfl, rfl⟩

theorem Mul64_int (x y : Int) (hx0 : 0 ≤ x) (hx : x < 18446744073709551616) (hy0 : 0 ≤ y) (hy : y < 18446744073709551616) (w : World) :
    Calls Tryz.prog 62 #[.int .u64 x, .int .u64 y] w fun e w' => e = .returned (.tuple #[.int .u64 (x * y / 18446744073709551616), .int .u64 (x * y % 18446744073709551616)]) ∧ w = w' := by
  obtain ⟨n, rfl⟩ := Int.eq_ofNat_of_zero_le hx0
  obtain ⟨k, rfl⟩ := Int.eq_ofNat_of_zero_le hy0
  have := Mul64_at n k (by omega) (by omega) w
  rw [Int.natCast_ediv, Int.natCast_emod, Int.natCast_mul] at this
  exact this
end Go.Proofs.YtfnjoceolcdeoaaGreatDoor

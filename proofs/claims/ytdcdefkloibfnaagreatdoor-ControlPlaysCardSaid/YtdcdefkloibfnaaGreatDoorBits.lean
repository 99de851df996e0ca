/- Masks on an int: n & (2^j - 1) is what is left of n by 2^j. No program is named. -/
import Derived.WalkKit
import Derived.Laws.BitsLemmas
namespace Go.Proofs.YtdcdefkloibfnaaGreatDoor
set_option linter.unusedVariables false
theorem i64_mask (j : Nat) (hj : j ≤ 62) (mask : Int) (hm : mask = ((2 ^ j - 1 : Nat) : Int)) (n : Int) : bits .and .i64 n mask = n % ((2 ^ j : Nat) : Int) := by
  have hpow : 2 ^ j ≤ 2 ^ 62 := Nat.pow_le_pow_right (by decide) hj
  have hpos : 0 < 2 ^ j := Nat.pow_pos (by decide)
  have h127 : (BitVec.ofInt 64 mask).toNat = 2 ^ j - 1 := by
    subst hm
    rw [BitVec.toNat_ofInt]
    omega
  have hdvd : (2 ^ j) ∣ (2 ^ 64) := Nat.pow_dvd_pow 2 (by omega)
  have key : (BitVec.ofInt 64 n &&& BitVec.ofInt 64 mask).toNat = (n % ((2 ^ 64 : Nat) : Int)).toNat % 2 ^ j := by
    rw [BitVec.toNat_and, BitVec.toNat_ofInt, h127, Nat.and_two_pow_sub_one_eq_mod]
  show IntKind.i64.wrap ((BitVec.ofInt 64 n &&& BitVec.ofInt 64 mask).toNat : Nat) = n % ((2 ^ j : Nat) : Int)
  rw [key, IntKind.wrap_i64]
  have h1 : ((((n % ((2 ^ 64 : Nat) : Int)).toNat % 2 ^ j : Nat)) : Int) = n % ((2 ^ j : Nat) : Int) := by
    rw [Int.natCast_emod, Int.toNat_of_nonneg (Int.emod_nonneg _ (by decide)), Int.emod_emod_of_dvd _ (Int.natCast_dvd_natCast.2 hdvd)]
  rw [h1]
  have h2 := Int.emod_nonneg n (b := ((2 ^ j : Nat) : Int)) (by omega)
  have h3 := Int.emod_lt_of_pos n (b := ((2 ^ j : Nat) : Int)) (by omega)
  omega
theorem i64_and63 (n : Int) : bits .and .i64 n 63 = n % 64 := i64_mask 6 (by decide) 63 (by decide) n
theorem i64_and31 (n : Int) : bits .and .i64 n 31 = n % 32 := i64_mask 5 (by decide) 31 (by decide) n
theorem i64_and15 (n : Int) : bits .and .i64 n 15 = n % 16 := i64_mask 4 (by decide) 15 (by decide) n
theorem i64_and7 (n : Int) : bits .and .i64 n 7 = n % 8 := i64_mask 3 (by decide) 7 (by decide) n
theorem i64_and3 (n : Int) : bits .and .i64 n 3 = n % 4 := i64_mask 2 (by decide) 3 (by decide) n
theorem i64_and1 (n : Int) : bits .and .i64 n 1 = n % 2 := i64_mask 1 (by decide) 1 (by decide) n
end Go.Proofs.YtdcdefkloibfnaaGreatDoor

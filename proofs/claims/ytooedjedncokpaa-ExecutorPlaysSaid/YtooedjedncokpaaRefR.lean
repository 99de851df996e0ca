/- The reference's Decide and Lost. -/
import Derived.Test.YtooedjedncokpaaExRetry
namespace Go.Proofs.Ytooedjedncokpaa
set_option linter.unusedVariables false
open Go.RowKit
set_option maxHeartbeats 4000000 in
set_option maxRecDepth 100000 in
theorem rDecide_at (code recv need data again most : Int) (s : ByteArray) (idem : Bool) (w : World) :
    Calls Try.prog 52 #[.agg #[.int .u32 code, .int .i32 recv, .int .i32 need, .int .u8 data, .string s], .int .i64 again, .int .i64 most, .bool idem] w
      fun e w' => e = .returned (.int .i64 (decide17 code recv need data s again most idem)) ∧ Kept noBlock w w' := by
  go_enter Try.func52, Try.ntmps52
  go_wp2
  all_goals
    go_ret
    refine ⟨ret_int ?_, (Kept.refl _ _).alloc _⟩
    try simp only [beq_iff_eq, beq_eq_false_iff_ne, ne_eq] at *
    first
      | (have h7 : ¬ (again < 0 ∨ most ≤ again) := by omega
         have h8 : ¬ again < 0 := by omega
         have h9 : ¬ most ≤ again := by omega
         unfold decide17 isBatch
         first | (simp_all; done) | (simp_all; omega))
      | (have h7 : again < 0 ∨ most ≤ again := by omega
         unfold decide17 isBatch
         first | (simp_all; done) | (simp_all; omega))
      | (unfold decide17 isBatch
         first | (simp_all; done) | (simp_all; omega))
set_option maxHeartbeats 400000 in
theorem rrLost_at (again most : Int) (idem : Bool) (w : World) :
    Calls Try.prog 54 #[.int .i64 again, .int .i64 most, .bool idem] w fun e w' => e = .returned (.int .i64 (lost17 again most idem)) ∧ w = w' := by
  go_enter Try.func54, Try.ntmps54
  go_wp2
  all_goals
    go_ret
    refine ⟨ret_int ?_, rfl⟩
    try simp only [beq_iff_eq, beq_eq_false_iff_ne, ne_eq] at *
    unfold lost17
    first | (simp_all; done) | (rw [if_neg]; omega) | (simp_all; omega)
end Go.Proofs.Ytooedjedncokpaa

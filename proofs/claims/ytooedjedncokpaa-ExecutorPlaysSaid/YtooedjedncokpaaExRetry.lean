/- retry.Decide and retry.Lost. -/
import Derived.Test.YtooedjedncokpaaExWalk1
import Derived.Deep.QuietTactic
import Derived.BigQuiet
namespace Go.Proofs.Ytooedjedncokpaa
set_option linter.unusedVariables false
open Go.RowKit
open Go.ChangeMaps (setBlock)
theorem ret_int {k : IntKind} {a b : Int} (h : a = b) : Ending.returned (.int k a) = .returned (.int k b) := by rw [h]
set_option maxHeartbeats 1000000 in
theorem Decide_at (code level recv need fail data again most : Int) (text s sp nm : ByteArray) (ar id : Value) (idem : Bool) (w : World) :
    Calls Try.prog 27 #[.agg #[.int .u32 code, .string text, .int .u16 level, .int .i32 recv, .int .i32 need, .int .i32 fail, .int .u8 data, .string s, .string sp, .string nm, ar, id], .int .i64 again, .int .i64 most, .bool idem] w
      fun e w' => e = .returned (.int .i64 (decide17 code recv need data s again most idem)) ∧ w.alloc (.cells #[.int .u32 code, .string text, .int .u16 level, .int .i32 recv, .int .i32 need, .int .i32 fail, .int .u8 data, .string s, .string sp, .string nm, ar, id] 43) = w' := by
  go_enter Try.func27, Try.ntmps27
  go_wp2
  all_goals
    go_ret
    refine ⟨ret_int ?_, rfl⟩
    simp only [beq_iff_eq, beq_eq_false_iff_ne, ne_eq] at *
    unfold decide17 isBatch
    simp only [*]
    first | done | (simp; done) | (simp; omega) | (have : ¬ (again < 0 ∨ most ≤ again) := by omega
                                                   simp_all)

set_option maxHeartbeats 400000 in
theorem rLost_at (again most : Int) (idem : Bool) (w : World) :
    Calls Try.prog 48 #[.int .i64 again, .int .i64 most, .bool idem] w fun e w' => e = .returned (.int .i64 (lost17 again most idem)) ∧ w = w' := by
  go_enter Try.func48, Try.ntmps48
  go_wp2
  all_goals
    go_ret
    refine ⟨ret_int ?_, rfl⟩
    try simp only [beq_iff_eq, beq_eq_false_iff_ne, ne_eq] at *
    unfold lost17
    first | (simp_all; done) | (rw [if_neg]; omega) | (simp_all; omega)
theorem rLost_is {x : Int} (again most : Int) (idem : Bool) (w : World) (hx : Hid (lost17 again most idem = x)) :
    Calls Try.prog 48 #[.int .i64 again, .int .i64 most, .bool idem] w fun e w' => e = .returned (.int .i64 x) ∧ w = w' := by
  have := rLost_at again most idem w; rw [hx.out] at this; exact this
end Go.Proofs.Ytooedjedncokpaa

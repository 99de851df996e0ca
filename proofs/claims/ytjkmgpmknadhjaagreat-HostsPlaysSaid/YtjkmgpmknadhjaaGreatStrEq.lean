/- Texts: the comparison by bytes. -/
import Derived.Test.YtjkmgpmknadhjaaGreatOwn
import Derived.Laws.StructEq
namespace Go.Proofs.YtjkmgpmknadhjaaGreat
set_option linter.unusedVariables false
open Go.RowKit

theorem strEq (a b : ByteArray) : (a.toList == b.toList) = decide (a = b) := by
  rw [← beq_toListBytes]
  cases a with
  | mk x =>
    cases b with
    | mk y =>
      show (x == y) = _
      by_cases h : x = y
      · subst h; simp
      · have h2 : ¬ (ByteArray.mk x = ByteArray.mk y) := fun e => h (by injection e)
        rw [decide_eq_false h2]
        simp [h]
theorem strEq_self (a : ByteArray) : (a.toList == a.toList) = true := by rw [strEq]; simp
theorem strEq_ne {a b : ByteArray} (h : a ≠ b) : (a.toList == b.toList) = false := by rw [strEq]; simp [h]
end Go.Proofs.YtjkmgpmknadhjaaGreat

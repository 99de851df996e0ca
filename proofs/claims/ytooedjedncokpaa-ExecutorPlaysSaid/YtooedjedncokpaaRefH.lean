/- The law's faultOf, configOf, model; the reference's Later and New. -/
import Derived.Test.YtooedjedncokpaaRefF
import Derived.Test.YtooedjedncokpaaRefG
import Derived.Test.YtooedjedncokpaaExAct
import Derived.Test.YtooedjedncokpaaSched
namespace Go.Proofs.Ytooedjedncokpaa
set_option linter.unusedVariables false
open Go.RowKit

set_option maxHeartbeats 400000 in
set_option maxRecDepth 100000 in
theorem faultOf_at (f : XFault) (w : World) : Calls Try.prog 37 #[.agg #[.int .u32 f.code, .string f.text, .int .u16 f.level, .int .i32 f.recv, .int .i32 f.need, .int .i32 f.fail, .int .u8 f.data, .string f.write, .string f.space, .string f.name, f.args, f.id]] w fun e w' => e = .returned (.agg #[.int .u32 f.code, .int .i32 f.recv, .int .i32 f.need, .int .u8 f.data, .string f.write]) ∧ Kept noBlock w w' := by
  go_enter Try.func37, Try.ntmps37
  go_wp2
  refine bodyPost_ret (v := .agg #[.int .u32 f.code, .int .i32 f.recv, .int .i32 f.need, .int .u8 f.data, .string f.write]) (by simp [results, Try.results37, go_sem]) rfl ?_
  exact ⟨rfl, ((Kept.refl _ _).alloc _).alloc _⟩

set_option maxHeartbeats 400000 in
theorem configOf_at (c0 c1 c2 c3 : Int) (w : World) : Calls Try.prog 17 #[.agg #[.int .i64 c0, .int .i64 c1, .int .u64 c2, .int .i64 c3]] w fun e w' => e = .returned (.agg #[.int .i64 c0, .int .i64 c1, .int .u64 c2, .int .i64 c3]) ∧ Kept noBlock w w' := by
  go_enter Try.func17, Try.ntmps17
  go_wp2
  refine bodyPost_ret (v := .agg #[.int .i64 c0, .int .i64 c1, .int .u64 c2, .int .i64 c3]) (by simp [results, Try.results17, go_sem]) rfl ?_
  exact ⟨rfl, ((Kept.refl _ _).alloc _).alloc _⟩

/-- A moment and a span. -/
def later (now span : Int) : Int := if now + span < 18446744073709551616 then now + span else 18446744073709551615
set_option maxHeartbeats 400000 in
theorem Later_at (now span : Int) (w : World) (h0 : 0 ≤ now) (h1 : now < 18446744073709551616) (h2 : 0 ≤ span) (h3 : span < 18446744073709551616) :
    Calls Try.prog 20 #[.int .u64 now, .int .u64 span] w fun e w' => e = .returned (.int .u64 (later now span)) ∧ w = w' := by
  by_cases h : now + span < 18446744073709551616
  · have e : later now span = now + span := if_pos h
    rw [e]
    go_enter Try.func20, Try.ntmps20
    go_wp2
    go_ret
    exact ⟨rfl, rfl⟩
  · have e : later now span = 18446744073709551615 := if_neg h
    rw [e]
    have hw : IntKind.u64.wrap (now + span) = now + span - 18446744073709551616 := by rw [IntKind.wrap_u64]; omega
    have hlt : now + span - 18446744073709551616 < now := by omega
    clear e
    go_enter Try.func20, Try.ntmps20
    go_wp2
    go_ret
    exact ⟨rfl, rfl⟩
theorem later_ge {now span : Int} (h0 : 0 ≤ now) (h1 : now < 18446744073709551616) (h2 : 0 ≤ span) : now ≤ later now span ∧ 0 ≤ later now span ∧ later now span < 18446744073709551616 := by
  unfold later; split <;> omega
end Go.Proofs.Ytooedjedncokpaa

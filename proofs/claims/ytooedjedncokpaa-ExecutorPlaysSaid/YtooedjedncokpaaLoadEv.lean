/- A script's element, loaded whole: in every world in which it reads so. -/
import Derived.Test.YtooedjedncokpaaExEv
import Derived.Test.YtooedjedncokpaaSched
namespace Go.Proofs.Ytooedjedncokpaa
set_option linter.unusedVariables false
open Go.RowKit
set_option maxHeartbeats 1000000 in
theorem load_ev {ge oe : Nat} {ev : XEv} {w' : World} {a : Act} {o : Oper} {x : Operand} (ho : o.op = .load 62 x) (ha : a.eval x = .pointer (some ⟨ge, oe, none⟩)) (h : ∀ j u, (evCells ev)[j]? = some u → w'.cell? ⟨ge, oe + j, none⟩ = some u) :
    takesAt Try.prog o a w' ev.val := by
  obtain ⟨T0, T1, T2, T3, T4, T5, T6, T7, T8, T9, T10, T11, T12, T13, T14, T15, T16⟩ := ev17 h
  unfold takesAt XEv.val
  generalize hv0 : Value.int .i64 ev.kind = v0 at *
  generalize hv1 : Value.int .i64 ev.try_ = v1 at *
  generalize hv2 : Value.int .u32 ev.f.code = v2 at *
  generalize hv3 : Value.string ev.f.text = v3 at *
  simp only [execOp, ho, ha]
  go_simp
end Go.Proofs.Ytooedjedncokpaa

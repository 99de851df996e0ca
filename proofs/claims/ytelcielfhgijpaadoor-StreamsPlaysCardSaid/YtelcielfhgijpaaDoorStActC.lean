/- The statements' operations (signalboxlaw15.Act): one of a slice of them. -/
import Derived.Test.YtelcielfhgijpaaDoorFlat
import Derived.Test.YtelcielfhgijpaaDoorProg
namespace Go.Proofs.YtelcielfhgijpaaDoor
set_option linter.unusedVariables false
open Go.RowKit

def sactC (a : Int × Int × Int) : List Value := [.int .i64 a.1, .int .i64 a.2.1, .int .u64 a.2.2]
theorem sactsT : SlT Tryd.prog 40 45 (.agg #[.int .i64 0, .int .i64 0, .int .u64 0]) 3 24 := ⟨Tryd.underlying40, by kernel_rfl, rfl, by decide, by decide⟩
theorem sact_at {w : World} {ok : Nat → TypeId → Prop} {v : Value} {L : List (Int × Int × Int)} (h : SlK w ok 3 v L.length (L.flatMap sactC)) {i : Nat} {a : Int × Int × Int} (hi : L[i]? = some a) :
    ∃ g off, (∀ kd w', (Instr.indexAt 40 v (.int kd (i : Int))).run Tryd.prog w' = .ok (.pointer (some ⟨g, off, none⟩)) w') ∧ w.cell? ⟨g, off, none⟩ = some (.int .i64 a.1) ∧ w.cell? ⟨g, off + 1, none⟩ = some (.int .i64 a.2.1) ∧ w.cell? ⟨g, off + 2, none⟩ = some (.int .u64 a.2.2) := by
  have hlt : i < L.length := (List.getElem?_eq_some_iff.1 hi).1
  obtain ⟨g, off, h1, _, _, h3⟩ := h.run_index sactsT (i := (i : Int)) (k := i) rfl hlt
  have hf := fun j hj => flat_get (k := 3) (f := sactC) (fun _ => rfl) L i j a hi hj
  exact ⟨g, off, h1, h3 0 _ (hf 0 (by decide)), h3 1 _ (hf 1 (by decide)), h3 2 _ (hf 2 (by decide))⟩
end Go.Proofs.YtelcielfhgijpaaDoor

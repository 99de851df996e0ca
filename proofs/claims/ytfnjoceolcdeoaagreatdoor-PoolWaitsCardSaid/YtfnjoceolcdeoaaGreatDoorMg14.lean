/- conn.use: the text by which a keyspace is used · A great struct in the walk: loads, stores, builds of it by the kit's laws on rows. -/
import Derived.Test.YtfnjoceolcdeoaaGreatDoorRpShelf
import Derived.Test.YtfnjoceolcdeoaaGreatDoorMg12
import Derived.Test.YtfnjoceolcdeoaaGreatDoorMg03
import Derived.Laws.Rows
import Derived.Laws.Tables
namespace Go.Proofs.YtfnjoceolcdeoaaGreatDoor
set_option linter.unusedVariables false
open Go.RowKit

/-- The library's variable holds some number. -/
def MaxL (w : World) : Prop := ∃ m : Int, w.cell? ⟨3, 0, none⟩ = some (.int .i64 m)
theorem MaxL.keptN {w w' : World} (h : MaxL w) (hk : Kept noBlock w w') : MaxL w' := by
  obtain ⟨m, hm⟩ := h
  exact ⟨m, hk.cellN hm⟩
theorem MaxL.kept {S : Nat → Prop} {w w' : World} (h : MaxL w) (hk : Kept S w w') (hS : ¬ S 3) : MaxL w' := by
  obtain ⟨m, hm⟩ := h
  refine ⟨m, (hk.cell (p := ⟨3, 0, none⟩) ?_ hS).trans hm⟩
  unfold World.cell? at hm
  rcases Nat.lt_or_ge 3 w.heap.size with hlt | hge
  · exact hlt
  · rw [Array.getElem?_eq_none hge] at hm; cases hm

def q1 : ByteArray := ⟨#[34]⟩
def q2 : ByteArray := ⟨#[34, 34]⟩
def useB (s : ByteArray) : ByteArray := ⟨#[85, 83, 69, 32, 34]⟩ ++ ⟨(Lib.replaceAll s.data.toList q1.data.toList q2.data.toList).toArray⟩ ++ ⟨#[34]⟩
theorem replK_len (old new : List UInt8) : ∀ (k : Nat) (s : List UInt8), (Lib.replaceK old new k s).length ≤ s.length + k * new.length
  | 0, s => by unfold Lib.replaceK; omega
  | k + 1, s => by
    unfold Lib.replaceK
    split
    · omega
    · have h1 := replK_len old new k (s.drop ((Lib.index s old).toNat + old.length))
      rw [List.length_append, List.length_append, List.length_take]
      rw [List.length_drop] at h1
      rw [Nat.add_mul]
      omega
theorem repl_len (s : ByteArray) : (Lib.replaceAll s.data.toList q1.data.toList q2.data.toList).length ≤ 3 * s.size := by
  have hcnt : Lib.countB s q1 * q1.size ≤ s.size := Lib.countB_mul_le q1 (by decide) s.size s (Nat.le_refl _)
  have h1 : q1.size = 1 := rfl
  rw [h1, Nat.mul_one] at hcnt
  have hl : s.data.toList.length = s.size := (Lib.size_eq s).symm
  unfold Lib.replaceAll Lib.replace
  split
  · omega
  · refine Nat.le_trans (replK_len _ _ _ _) ?_
    have h2 : q2.data.toList.length = 2 := rfl
    have h3 : Lib.replaceNum s.data.toList q1.data.toList (-1) = Lib.countB s q1 := by
      unfold Lib.replaceNum
      rw [if_pos (.inl (by decide))]
    rw [h2, h3]
    omega
theorem useB_len (s : ByteArray) : (useB s).size ≤ 6 + 3 * s.size := by
  have h := repl_len s
  unfold useB
  rw [ByteArray.size_append, ByteArray.size_append]
  show 5 + (Lib.replaceAll s.data.toList q1.data.toList q2.data.toList).toArray.size + 1 ≤ _
  rw [List.size_toArray]
  omega
set_option maxHeartbeats 1000000 in
set_option maxRecDepth 100000 in
theorem cnUse_at (s : ByteArray) (hs : s.size ≤ 1000000000) (w : World) (hm : MaxL w) : Calls Tryz.prog 56 #[.string s] w fun e w' => e = .returned (.string (useB s)) ∧ Kept noBlock w w' := by
  obtain ⟨m, hm⟩ := hm
  have hcnt : Lib.countB s q1 * q1.size ≤ s.size := Lib.countB_mul_le q1 (by decide) s.size s (Nat.le_refl _)
  have hR := Any.strings_ReplaceAll Tryz.srepl Tryz.srepl_extra s q1 q2 m w (by omega) hm (by decide) (by
    have h1 : q1.size = 1 := rfl
    have h2 : q2.size = 2 := rfl
    rw [h1] at hcnt
    rw [h2]
    omega)
  have HR := Lib.hid hR
  have hlen := repl_len s
  clear hR hcnt
  go_enter Tryz.func56, Tryz.ntmps56
  go_wp2_with fail
  go_at_call 75
  refine HR.out.mono ?_
  rintro e w1 ⟨rfl, hb⟩
  have HK := Lib.hid (Kept.of_below (S := noBlock) hb)
  clear hb
  go_wp2
  go_ret
  exact ⟨rfl, HK.out⟩
end Go.Proofs.YtfnjoceolcdeoaaGreatDoor
namespace Go.Proofs.YtfnjoceolcdeoaaGreatDoor
set_option linter.unusedVariables false
open Go.RowKit

theorem Kept.setRow {S : Nat → Prop} {a w : World} (h : Kept S a w) {g : Nat} (hp : g < a.heap.size → S g) (cs : Array Value) : Kept S a (w.setRow g cs) :=
  ⟨h.os, h.tape, h.output, by simp [World.setRow]; exact h.size, fun k hk hn => (setRow_other w g k cs (fun e => hn (e ▸ hp (e ▸ hk)))).trans (h.block k hk hn)⟩
/-- An operation whose value and world are said ahead. -/
theorem wpList_to {P : Program} {ops : Array Oper} {rest : List Oper} {o : Oper} {a : Act} {w : World} {Q : Exit → Act → World → Prop} (hg : o.guard = none) {d : Tmp} (hd : o.dst = some d) (v : Value) (w' : World) (hr : (execOp a.eval o).run P w = .ok (.value v) w')
    (h : wpList P ops Q rest (a.put (some d) v) w') : wpList P ops Q (o :: rest) a w := by
  rw [← hd] at h
  refine wpList_plain hg fun K hK => ?_
  unfold Oper.wp
  rw [hr, Oper.upon_value]
  exact hK _ _ h
theorem wpList_rd {P : Program} {ops : Array Oper} {rest : List Oper} {o : Oper} {a : Act} {w : World} {Q : Exit → Act → World → Prop} (hg : o.guard = none) {d : Tmp} (hd : o.dst = some d) (v : Value) (hr : (execOp a.eval o).run P w = .ok (.value v) w)
    (h : wpList P ops Q rest (a.put (some d) v) w) : wpList P ops Q (o :: rest) a w := wpList_to hg hd v w hr h
theorem size_setRow (w : World) (g : Nat) (cs : Array Value) : (w.setRow g cs).heap.size = w.heap.size := by simp [World.setRow]
theorem wpList_load_at {P : Program} {ops : Array Oper} {rest : List Oper} {o : Oper} {a : Act} {w : World} {Q : Exit → Act → World → Prop} (hgd : o.guard = none) (ty : TypeId) (x : Operand) (ho : o.op = .load ty x)
    (g off : Nat) (hx : a.eval x = .pointer (some ⟨g, off, none⟩)) (cs : Array Value) (d : TypeDesc) (hc : ∀ j v, cs.toList[j]? = some v → w.cell? ⟨g, off + j, none⟩ = some v)
    (hu : P.underlying ty = some d) (hd : (match d with | .struct _ | .array _ _ => true | _ => false) = true) (hi : (P.info? ty).map (·.size) = some cs.size)
    (h : wpList P ops Q rest (a.put o.dst (.agg cs)) w) : wpList P ops Q (o :: rest) a w := by
  refine wpList_plain hgd fun K hK => ?_
  have hl : (loadCells ⟨g, off, none⟩ cs.toList.length).run P w = .ok cs.toList.toArray w := run_loadCells_list (P := P) w ⟨g, off, none⟩ cs.toList (fun j v hv => by rw [Addr.add_lit]; exact hc j v hv)
  have hv : (loadVar ty ⟨g, off, none⟩).run P w = .ok (.agg cs) w := by
    cases hq : P.info? ty with
    | none => simp [hq] at hi
    | some i =>
      have hs : i.size = cs.size := by simpa [hq] using hi
      have hagg : (isAgg ty).run P w = .ok true w := by
        unfold isAgg
        rw [Sem.run_bind, run_underlying hu w]
        cases d <;> simp_all
      simp only [Array.length_toList, Array.toArray_toList] at hl
      simp [loadVar, Sem.run_bind, hagg, sizeOf, typeInfo, hq, hs, hl]
  unfold Oper.wp execOp
  simp only [ho, hx, Instr.loadAt, Instr.sureAddr, Sem.run_bind, Sem.run_pure, Result.andThen_ok, hv]
  exact hK _ _ h
theorem Sl.setRow {w : World} {e : TypeId} {sz n : Nat} {v : Value} {xs : List Value} {g : Nat} {t : TypeId} {cs : Array Value} (h : Sl w e sz v n xs) (hb : Blk w g t cs) (ht : t ≠ e) (cs' : Array Value) : Sl (w.setRow g cs') e sz v n xs :=
  SlK.kept h ((Kept.refl (fun k => k = g) w).setRow (fun _ => rfl) cs') (by
    rintro k cs2 fz rfl h2
    unfold Blk at hb
    rw [hb] at h2
    injection h2 with h2
    injection h2 with _ h3 _
    exact ht h3)
end Go.Proofs.YtfnjoceolcdeoaaGreatDoor

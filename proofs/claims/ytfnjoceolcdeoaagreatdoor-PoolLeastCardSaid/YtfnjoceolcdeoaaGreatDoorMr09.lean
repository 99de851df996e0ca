/- conn.use: the text by which a keyspace is used · A great struct in the walk: loads, stores, builds of it by the kit's laws on rows · conn.Config.body, of the states 1. -/
import Derived.Test.YtfnjoceolcdeoaaGreatDoorRpShelf
import Derived.Test.YtfnjoceolcdeoaaGreatDoorMr08
import Derived.Test.YtfnjoceolcdeoaaGreatDoorMr03
import Derived.Laws.Rows
import Derived.Laws.Tables
namespace Go.Proofs.YtfnjoceolcdeoaaGreatDoor
set_option linter.unusedVariables false
open Go.RowKit

/-- The library's variable holds some number. -/
def MaxL (w : World) : Prop := ∃ m : Int, w.cell? ⟨3, 0, none⟩ = some (.int .i64 m)
theorem MaxL.keptN {w w' : World} (h : MaxL w) (hk : Kept noBlock w w') : MaxL w' := by
  obtain ⟨m, hm⟩ := h
  exact ⟨m, hk.cellN hm⟩
theorem MaxL.kept {S : Nat → Prop} {w w' : World} (h : MaxL w) (hk : Kept S w w') (hS : ¬ S 3) : MaxL w' := by
  obtain ⟨m, hm⟩ := h
  refine ⟨m, (hk.cell (p := ⟨3, 0, none⟩) ?_ hS).trans hm⟩
  unfold World.cell? at hm
  rcases Nat.lt_or_ge 3 w.heap.size with hlt | hge
  · exact hlt
  · rw [Array.getElem?_eq_none hge] at hm; cases hm

def q1 : ByteArray := ⟨#[34]⟩
def q2 : ByteArray := ⟨#[34, 34]⟩
def useB (s : ByteArray) : ByteArray := ⟨#[85, 83, 69, 32, 34]⟩ ++ ⟨(Lib.replaceAll s.data.toList q1.data.toList q2.data.toList).toArray⟩ ++ ⟨#[34]⟩
theorem replK_len (old new : List UInt8) : ∀ (k : Nat) (s : List UInt8), (Lib.replaceK old new k s).length ≤ s.length + k * new.length
  | 0, s => by unfold Lib.replaceK; omega
  | k + 1, s => by
    unfold Lib.replaceK
    split
    · omega
    · have h1 := replK_len old new k (s.drop ((Lib.index s old).toNat + old.length))
      rw [List.length_append, List.length_append, List.length_take]
      rw [List.length_drop] at h1
      rw [Nat.add_mul]
      omega
theorem repl_len (s : ByteArray) : (Lib.replaceAll s.data.toList q1.data.toList q2.data.toList).length ≤ 3 * s.size := by
  have hcnt : Lib.countB s q1 * q1.size ≤ s.size := Lib.countB_mul_le q1 (by decide) s.size s (Nat.le_refl _)
  have h1 : q1.size = 1 := rfl
  rw [h1, Nat.mul_one] at hcnt
  have hl : s.data.toList.length = s.size := (Lib.size_eq s).symm
  unfold Lib.replaceAll Lib.replace
  split
  · omega
  · refine Nat.le_trans (replK_len _ _ _ _) ?_
    have h2 : q2.data.toList.length = 2 := rfl
    have h3 : Lib.replaceNum s.data.toList q1.data.toList (-1) = Lib.countB s q1 := by
      unfold Lib.replaceNum
      rw [if_pos (.inl (by decide))]
    rw [h2, h3]
    omega
theorem useB_len (s : ByteArray) : (useB s).size ≤ 6 + 3 * s.size := by
  have h := repl_len s
  unfold useB
  rw [ByteArray.size_append, ByteArray.size_append]
  show 5 + (Lib.replaceAll s.data.toList q1.data.toList q2.data.toList).toArray.size + 1 ≤ _
  rw [List.size_toArray]
  omega
set_option maxHeartbeats 1000000 in
set_option maxRecDepth 100000 in
theorem cnUse_at (s : ByteArray) (hs : s.size ≤ 1000000000) (w : World) (hm : MaxL w) : Calls Tryz.prog 56 #[.string s] w fun e w' => e = .returned (.string (useB s)) ∧ Kept noBlock w w' := by
  obtain ⟨m, hm⟩ := hm
  have hcnt : Lib.countB s q1 * q1.size ≤ s.size := Lib.countB_mul_le q1 (by decide) s.size s (Nat.le_refl _)
  have hR := Any.strings_ReplaceAll Tryz.srepl Tryz.srepl_extra s q1 q2 m w (by omega) hm (by decide) (by
    have h1 : q1.size = 1 := rfl
    have h2 : q2.size = 2 := rfl
    rw [h1] at hcnt
    rw [h2]
    omega)
  have HR := Lib.hid hR
  have hlen := repl_len s
  clear hR hcnt
  go_enter Tryz.func56, Tryz.ntmps56
  go_wp2_with fail
  go_at_call 75
  refine HR.out.mono ?_
  rintro e w1 ⟨rfl, hb⟩
  have HK := Lib.hid (Kept.of_below (S := noBlock) hb)
  clear hb
  go_wp2
  go_ret
  exact ⟨rfl, HK.out⟩
end Go.Proofs.YtfnjoceolcdeoaaGreatDoor
namespace Go.Proofs.YtfnjoceolcdeoaaGreatDoor
set_option linter.unusedVariables false
open Go.RowKit

theorem Kept.setRow {S : Nat → Prop} {a w : World} (h : Kept S a w) {g : Nat} (hp : g < a.heap.size → S g) (cs : Array Value) : Kept S a (w.setRow g cs) :=
  ⟨h.os, h.tape, h.output, by simp [World.setRow]; exact h.size, fun k hk hn => (setRow_other w g k cs (fun e => hn (e ▸ hp (e ▸ hk)))).trans (h.block k hk hn)⟩
/-- An operation whose value and world are said ahead. -/
theorem wpList_to {P : Program} {ops : Array Oper} {rest : List Oper} {o : Oper} {a : Act} {w : World} {Q : Exit → Act → World → Prop} (hg : o.guard = none) {d : Tmp} (hd : o.dst = some d) (v : Value) (w' : World) (hr : (execOp a.eval o).run P w = .ok (.value v) w')
    (h : wpList P ops Q rest (a.put (some d) v) w') : wpList P ops Q (o :: rest) a w := by
  rw [← hd] at h
  refine wpList_plain hg fun K hK => ?_
  unfold Oper.wp
  rw [hr, Oper.upon_value]
  exact hK _ _ h
theorem wpList_rd {P : Program} {ops : Array Oper} {rest : List Oper} {o : Oper} {a : Act} {w : World} {Q : Exit → Act → World → Prop} (hg : o.guard = none) {d : Tmp} (hd : o.dst = some d) (v : Value) (hr : (execOp a.eval o).run P w = .ok (.value v) w)
    (h : wpList P ops Q rest (a.put (some d) v) w) : wpList P ops Q (o :: rest) a w := wpList_to hg hd v w hr h
theorem size_setRow (w : World) (g : Nat) (cs : Array Value) : (w.setRow g cs).heap.size = w.heap.size := by simp [World.setRow]
theorem wpList_load_at {P : Program} {ops : Array Oper} {rest : List Oper} {o : Oper} {a : Act} {w : World} {Q : Exit → Act → World → Prop} (hgd : o.guard = none) (ty : TypeId) (x : Operand) (ho : o.op = .load ty x)
    (g off : Nat) (hx : a.eval x = .pointer (some ⟨g, off, none⟩)) (cs : Array Value) (d : TypeDesc) (hc : ∀ j v, cs.toList[j]? = some v → w.cell? ⟨g, off + j, none⟩ = some v)
    (hu : P.underlying ty = some d) (hd : (match d with | .struct _ | .array _ _ => true | _ => false) = true) (hi : (P.info? ty).map (·.size) = some cs.size)
    (h : wpList P ops Q rest (a.put o.dst (.agg cs)) w) : wpList P ops Q (o :: rest) a w := by
  refine wpList_plain hgd fun K hK => ?_
  have hl : (loadCells ⟨g, off, none⟩ cs.toList.length).run P w = .ok cs.toList.toArray w := run_loadCells_list (P := P) w ⟨g, off, none⟩ cs.toList (fun j v hv => by rw [Addr.add_lit]; exact hc j v hv)
  have hv : (loadVar ty ⟨g, off, none⟩).run P w = .ok (.agg cs) w := by
    cases hq : P.info? ty with
    | none => simp [hq] at hi
    | some i =>
      have hs : i.size = cs.size := by simpa [hq] using hi
      have hagg : (isAgg ty).run P w = .ok true w := by
        unfold isAgg
        rw [Sem.run_bind, run_underlying hu w]
        cases d <;> simp_all
      simp only [Array.length_toList, Array.toArray_toList] at hl
      simp [loadVar, Sem.run_bind, hagg, sizeOf, typeInfo, hq, hs, hl]
  unfold Oper.wp execOp
  simp only [ho, hx, Instr.loadAt, Instr.sureAddr, Sem.run_bind, Sem.run_pure, Result.andThen_ok, hv]
  exact hK _ _ h
theorem Sl.setRow {w : World} {e : TypeId} {sz n : Nat} {v : Value} {xs : List Value} {g : Nat} {t : TypeId} {cs : Array Value} (h : Sl w e sz v n xs) (hb : Blk w g t cs) (ht : t ≠ e) (cs' : Array Value) : Sl (w.setRow g cs') e sz v n xs :=
  SlK.kept h ((Kept.refl (fun k => k = g) w).setRow (fun _ => rfl) cs') (by
    rintro k cs2 fz rfl h2
    unfold Blk at hb
    rw [hb] at h2
    injection h2 with h2
    injection h2 with _ h3 _
    exact ht h3)
end Go.Proofs.YtfnjoceolcdeoaaGreatDoor
namespace Go.Proofs.YtfnjoceolcdeoaaGreatDoor
set_option linter.unusedVariables false
open Go.RowKit

/-- A config's cells. -/
def cfgC (st : Int) (ks : ByteArray) (tok ev : Value) (hs idle beat : Int) (orph : Int) : Array Value := #[.int .i64 st, .string ks, tok, ev, .int .u64 hs, .int .u64 idle, .int .u64 beat, .int .i64 orph]
/-- What a body's step hands back: bytes, and the error. -/
def bodyFin (s : List UInt8 × Int) : List UInt8 × Int := if s.2 = 0 ∧ 1048576 < s.1.length then (s.1, 12) else s
def BodyPost (w : World) (op : Int) (s : List UInt8 × Int) (e : Ending) (w' : World) : Prop := ∃ A n c, e = .returned (.tuple #[.int .u8 op, .slice A n c, .int .i64 s.2]) ∧ n = s.1.length ∧ Sl w' 5 1 (.slice A n c) n (Lib.byteCells s.1) ∧ Kept noBlock w w'
theorem bodyFin_long {s : List UInt8 × Int} (h : s.2 = 0) (h2 : 1048576 < s.1.length) : bodyFin s = (s.1, 12) := by unfold bodyFin; rw [if_pos ⟨h, h2⟩]
theorem bodyFin_ok {s : List UInt8 × Int} (h : ¬ (s.2 = 0 ∧ 1048576 < s.1.length)) : bodyFin s = s := by unfold bodyFin; rw [if_neg h]
theorem req_info0 : (Tryz.prog.info? 144).map (·.size) = some 22 := by kernel_rfl
theorem req_info (op : Int) (o : Value) (t : ByteArray) (cons : Int) (ev : Value) (tk : Int) (tb : Value) : (Tryz.prog.info? 144).map (·.size) = some (reqC op o t cons ev tk tb).size := req_info0
theorem req_one (op : Int) (A1 : Option Addr) (n1 c1 : Nat) (t : ByteArray) (cons : Int) (A2 : Option Addr) (n2 c2 : Nat) (tk : Int) (A3 : Option Addr) (n3 c3 : Nat) : (reqC op (.slice A1 n1 c1) t cons (.slice A2 n2 c2) tk (.slice A3 n3 c3)).all (·.oneCell') = true := by simp [reqC, Value.oneCell']

set_option maxHeartbeats 4000000 in
set_option maxRecDepth 100000 in
theorem cnBody_1 (st : Int) (ks : ByteArray) (hs idle beat : Int) (orph : Int) (tok ev : Value) (w : World) :
    Calls Tryz.prog 34 #[.agg (cfgC st ks (tok) (ev) hs idle beat orph), .int .i64 1] w (BodyPost w 5 (bodyFin ([], 0))) := by
  have HQ : Hid (∀ W, Kept noBlock w W → Calls Tryz.prog 57 #[.agg (reqC 5 (.slice none 0 0) noStr 0 (.slice none 0 0) 0 (.slice none 0 0))] W (PutPost W ([], 0))) := Lib.hid fun W _ => rqPut_opt W
  obtain ⟨s, hs⟩ : ∃ s : List UInt8 × Int, s = ([], 0) := ⟨_, rfl⟩
  rw [← hs] at HQ ⊢
  clear hs
  unfold cfgC
  go_enter Tryz.func34, Tryz.ntmps34
  go_wp2_with (refine wpList_load_row rfl 144 (.tmp 7) rfl (w.heap.size + 1) rfl 144 (reqC 5 (.slice none 0 0) noStr 0 (.slice none 0 0) 0 (.slice none 0 0)) (0, 0) _ (Blk.new_at _ _ _ (by rw [sz_alloc])) Tryz.underlying144 rfl (req_info _ _ _ _ _ _ _) ?_)
  go_at_call 57
  refine (HQ.out _ (((Kept.refl noBlock w).alloc _).alloc _)).mono ?_
  rintro e w3 ⟨A3, n3, c3, rfl, hn3, hs3, hk3⟩
  have hb3 := Blk.kept (show Blk _ (w.heap.size + 1) 144 (reqC 5 (.slice none 0 0) noStr 0 (.slice none 0 0) 0 (.slice none 0 0)) from (Blk.new_at _ _ _ (by rw [sz_alloc]))) hk3 (fun e => e)
  have y0 : w3.cell? ⟨w.heap.size + 1, 0, none⟩ = some (.int .u8 5) := hb3.cell 0
  have HK3 := Lib.hid (Kept.trans (((Kept.refl noBlock w).alloc _).alloc _) hk3 fun _ _ e => e)
  have HN3 := Lib.hid hn3
  have HS3 := Lib.hid hs3
  have hn0 : n3 ≤ 9223372036854775807 := by obtain ⟨_, _, hv, h1, h2⟩ := hs3.shape; cases hv; unfold maxLen at h2; omega
  have hl3 := hs3.run_len bytesQT
  clear hb3 hk3 hs3 hn3
  generalize w.heap.size + 1 = gb at *
  by_cases h0 : s.2 = 0
  · rw [h0]
    by_cases hl : 1048576 < n3
    · have HF : Hid (bodyFin s = (s.1, 12)) := Lib.hid (bodyFin_long h0 (by rw [← HN3.out]; exact hl))
      clear h0
      go_wp2
      go_ret3
      rw [HF.out]
      exact ⟨A3, n3, c3, rfl, HN3.out, HS3.out, HK3.out⟩
    · have HF : Hid (bodyFin s = s) := Lib.hid (bodyFin_ok fun h => hl (by rw [HN3.out]; exact h.2))
      have HZ := Lib.hid h0
      clear h0
      go_wp2
      go_ret3
      rw [HF.out]
      exact ⟨A3, n3, c3, by rw [HZ.out]; rfl, HN3.out, HS3.out, HK3.out⟩
  · have HF : Hid (bodyFin s = s) := Lib.hid (bodyFin_ok fun h => h0 h.1)
    have h0' : (s.2 == 0) = false := by rw [beq_eq_false_iff_ne]; exact h0
    obtain ⟨e5, he5⟩ : ∃ e5, e5 = s.2 := ⟨_, rfl⟩
    rw [← he5] at h0' ⊢
    have HE := Lib.hid he5
    clear h0 he5
    go_wp2
    go_ret3
    rw [HF.out]
    exact ⟨A3, n3, c3, by rw [← HE.out]; rfl, HN3.out, HS3.out, HK3.out⟩

set_option maxHeartbeats 4000000 in
set_option maxRecDepth 100000 in
theorem cnBody_2 (st : Int) (ks : ByteArray) (hs idle beat : Int) (orph : Int) (tok ev : Value) (w : World) :
    Calls Tryz.prog 34 #[.agg (cfgC st ks (tok) (ev) hs idle beat orph), .int .i64 2] w (BodyPost w 1 (bodyFin (wrFin (pairB ⟨#[67, 81, 76, 95, 86, 69, 82, 83, 73, 79, 78]⟩ ⟨#[51, 46, 48, 46, 48]⟩, 0)))) := by
  have HQ : Hid (∀ W : World, Lo W W.heap.size 2 (.slice (some ⟨w.heap.size + 1 + 1, 0, none⟩) 1 1) 1 [.string ⟨#[67, 81, 76, 95, 86, 69, 82, 83, 73, 79, 78]⟩, .string ⟨#[51, 46, 48, 46, 48]⟩] → Calls Tryz.prog 57 #[.agg (reqC 1 (.slice (some ⟨w.heap.size + 1 + 1, 0, none⟩) 1 1) noStr 0 (.slice none 0 0) 0 (.slice none 0 0))] W (PutPost W (wrFin (pairB ⟨#[67, 81, 76, 95, 86, 69, 82, 83, 73, 79, 78]⟩ ⟨#[51, 46, 48, 46, 48]⟩, 0)))) := Lib.hid fun W hW => rqPut_pairs _ _ (by decide) (by decide) hW
  obtain ⟨s, hs⟩ : ∃ s : List UInt8 × Int, s = wrFin (pairB ⟨#[67, 81, 76, 95, 86, 69, 82, 83, 73, 79, 78]⟩ ⟨#[51, 46, 48, 46, 48]⟩, 0) := ⟨_, rfl⟩
  rw [← hs] at HQ ⊢
  clear hs
  unfold cfgC
  go_enter Tryz.func34, Tryz.ntmps34
  go_wp2_with (first
    | (refine wpList_rd rfl (d := 18) rfl (.agg (reqC 1 (.slice (some ⟨w.heap.size + 1 + 1, 0, none⟩) 1 1) noStr 0 (.slice none 0 0) 0 (.slice none 0 0))) (by kernel_rfl) ?_)
    | (refine wpList_store_row rfl 144 (.tmp 7) (.tmp 18) rfl (w.heap.size + 1) (reqC 1 (.slice (some ⟨w.heap.size + 1 + 1, 0, none⟩) 1 1) noStr 0 (.slice none 0 0) 0 (.slice none 0 0)) rfl rfl 144 (reqC 0 (.slice none 0 0) noStr 0 (.slice none 0 0) 0 (.slice none 0 0)) (Blk.alloc (Blk.new_at _ _ _ (by rw [sz_alloc])) _) (req_info _ _ _ _ _ _ _) rfl (req_one _ _ _ _ _ _ _ _ _ _ _ _ _) ?_)
    | (refine wpList_load_row rfl 144 (.tmp 7) rfl (w.heap.size + 1) rfl 144 (reqC 1 (.slice (some ⟨w.heap.size + 1 + 1, 0, none⟩) 1 1) noStr 0 (.slice none 0 0) 0 (.slice none 0 0)) (0, 0) _ (setRow_heap _ _ _ _ _ _ (Blk.alloc (Blk.new_at _ _ _ (by rw [sz_alloc])) _)) Tryz.underlying144 rfl (req_info _ _ _ _ _ _ _) ?_)
)
  go_at_call 57
  refine (HQ.out _ (SlK.lo (Sl.setRow (Sl.made_at (sz := 2) (n := 1) (Blk.new_at _ 146 #[.string ⟨#[67, 81, 76, 95, 86, 69, 82, 83, 73, 79, 78]⟩, .string ⟨#[51, 46, 48, 46, 48]⟩] (by rw [sz_alloc, sz_alloc])) _ rfl rfl (by decide)) (Blk.alloc (Blk.new_at _ _ _ (by rw [sz_alloc])) _) (by decide) _))).mono ?_
  rintro e w3 ⟨A3, n3, c3, rfl, hn3, hs3, hk3⟩
  have hb3 := Blk.kept (show Blk _ (w.heap.size + 1) 144 (reqC 1 (.slice (some ⟨w.heap.size + 1 + 1, 0, none⟩) 1 1) noStr 0 (.slice none 0 0) 0 (.slice none 0 0)) from (setRow_heap _ _ _ _ _ _ (Blk.alloc (Blk.new_at _ _ _ (by rw [sz_alloc])) _))) hk3 (fun e => e)
  have y0 : w3.cell? ⟨w.heap.size + 1, 0, none⟩ = some (.int .u8 1) := hb3.cell 0
  have HK3 := Lib.hid (Kept.trans (Kept.setRow (S := noBlock) (g := w.heap.size + 1) ((((Kept.refl noBlock w).alloc _).alloc _).alloc _) (fun h => absurd h (by omega)) _) hk3 fun _ _ e => e)
  have HN3 := Lib.hid hn3
  have HS3 := Lib.hid hs3
  have hn0 : n3 ≤ 9223372036854775807 := by obtain ⟨_, _, hv, h1, h2⟩ := hs3.shape; cases hv; unfold maxLen at h2; omega
  have hl3 := hs3.run_len bytesQT
  clear hb3 hk3 hs3 hn3
  generalize w.heap.size + 1 = gb at *
  by_cases h0 : s.2 = 0
  · rw [h0]
    by_cases hl : 1048576 < n3
    · have HF : Hid (bodyFin s = (s.1, 12)) := Lib.hid (bodyFin_long h0 (by rw [← HN3.out]; exact hl))
      clear h0
      go_wp2
      go_ret3
      rw [HF.out]
      exact ⟨A3, n3, c3, rfl, HN3.out, HS3.out, HK3.out⟩
    · have HF : Hid (bodyFin s = s) := Lib.hid (bodyFin_ok fun h => hl (by rw [HN3.out]; exact h.2))
      have HZ := Lib.hid h0
      clear h0
      go_wp2
      go_ret3
      rw [HF.out]
      exact ⟨A3, n3, c3, by rw [HZ.out]; rfl, HN3.out, HS3.out, HK3.out⟩
  · have HF : Hid (bodyFin s = s) := Lib.hid (bodyFin_ok fun h => h0 h.1)
    have h0' : (s.2 == 0) = false := by rw [beq_eq_false_iff_ne]; exact h0
    obtain ⟨e5, he5⟩ : ∃ e5, e5 = s.2 := ⟨_, rfl⟩
    rw [← he5] at h0' ⊢
    have HE := Lib.hid he5
    clear h0 he5
    go_wp2
    go_ret3
    rw [HF.out]
    exact ⟨A3, n3, c3, by rw [← HE.out]; rfl, HN3.out, HS3.out, HK3.out⟩

end Go.Proofs.YtfnjoceolcdeoaaGreatDoor

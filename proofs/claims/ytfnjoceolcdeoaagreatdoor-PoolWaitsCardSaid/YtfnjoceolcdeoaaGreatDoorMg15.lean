/- conn.Config.body, of the states 1. -/
import Derived.Test.YtfnjoceolcdeoaaGreatDoorMg13
import Derived.Test.YtfnjoceolcdeoaaGreatDoorMg14
namespace Go.Proofs.YtfnjoceolcdeoaaGreatDoor
set_option linter.unusedVariables false
open Go.RowKit

/-- A config's cells. -/
def cfgC (st : Int) (ks : ByteArray) (tok ev : Value) (hs idle beat : Int) (orph : Int) : Array Value := #[.int .i64 st, .string ks, tok, ev, .int .u64 hs, .int .u64 idle, .int .u64 beat, .int .i64 orph]
/-- What a body's step hands back: bytes, and the error. -/
def bodyFin (s : List UInt8 × Int) : List UInt8 × Int := if s.2 = 0 ∧ 1048576 < s.1.length then (s.1, 12) else s
def BodyPost (w : World) (op : Int) (s : List UInt8 × Int) (e : Ending) (w' : World) : Prop := ∃ A n c, e = .returned (.tuple #[.int .u8 op, .slice A n c, .int .i64 s.2]) ∧ n = s.1.length ∧ Sl w' 5 1 (.slice A n c) n (Lib.byteCells s.1) ∧ Kept noBlock w w'
theorem bodyFin_long {s : List UInt8 × Int} (h : s.2 = 0) (h2 : 1048576 < s.1.length) : bodyFin s = (s.1, 12) := by unfold bodyFin; rw [if_pos ⟨h, h2⟩]
theorem bodyFin_ok {s : List UInt8 × Int} (h : ¬ (s.2 = 0 ∧ 1048576 < s.1.length)) : bodyFin s = s := by unfold bodyFin; rw [if_neg h]
theorem req_info0 : (Tryz.prog.info? 144).map (·.size) = some 22 := by kernel_rfl
theorem req_info (op : Int) (o : Value) (t : ByteArray) (cons : Int) (ev : Value) (tk : Int) (tb : Value) : (Tryz.prog.info? 144).map (·.size) = some (reqC op o t cons ev tk tb).size := req_info0
theorem req_one (op : Int) (A1 : Option Addr) (n1 c1 : Nat) (t : ByteArray) (cons : Int) (A2 : Option Addr) (n2 c2 : Nat) (tk : Int) (A3 : Option Addr) (n3 c3 : Nat) : (reqC op (.slice A1 n1 c1) t cons (.slice A2 n2 c2) tk (.slice A3 n3 c3)).all (·.oneCell') = true := by simp [reqC, Value.oneCell']

set_option maxHeartbeats 4000000 in
set_option maxRecDepth 100000 in
theorem cnBody_1 (st : Int) (ks : ByteArray) (hs idle beat : Int) (orph : Int) (tok ev : Value) (w : World) :
    Calls Tryz.prog 34 #[.agg (cfgC st ks (tok) (ev) hs idle beat orph), .int .i64 1] w (BodyPost w 5 (bodyFin ([], 0))) := by
  have HQ : Hid (∀ W, Kept noBlock w W → Calls Tryz.prog 57 #[.agg (reqC 5 (.slice none 0 0) noStr 0 (.slice none 0 0) 0 (.slice none 0 0))] W (PutPost W ([], 0))) := Lib.hid fun W _ => rqPut_opt W
  obtain ⟨s, hs⟩ : ∃ s : List UInt8 × Int, s = ([], 0) := ⟨_, rfl⟩
  rw [← hs] at HQ ⊢
  clear hs
  unfold cfgC
  go_enter Tryz.func34, Tryz.ntmps34
  go_wp2_with (refine wpList_load_row rfl 144 (.tmp 7) rfl (w.heap.size + 1) rfl 144 (reqC 5 (.slice none 0 0) noStr 0 (.slice none 0 0) 0 (.slice none 0 0)) (0, 0) _ (Blk.new_at _ _ _ (by rw [sz_alloc])) Tryz.underlying144 rfl (req_info _ _ _ _ _ _ _) ?_)
  go_at_call 57
  refine (HQ.out _ (((Kept.refl noBlock w).alloc _).alloc _)).mono ?_
  rintro e w3 ⟨A3, n3, c3, rfl, hn3, hs3, hk3⟩
  have hb3 := Blk.kept (show Blk _ (w.heap.size + 1) 144 (reqC 5 (.slice none 0 0) noStr 0 (.slice none 0 0) 0 (.slice none 0 0)) from (Blk.new_at _ _ _ (by rw [sz_alloc]))) hk3 (fun e => e)
  have y0 : w3.cell? ⟨w.heap.size + 1, 0, none⟩ = some (.int .u8 5) := hb3.cell 0
  have HK3 := Lib.hid (Kept.trans (((Kept.refl noBlock w).alloc _).alloc _) hk3 fun _ _ e => e)
  have HN3 := Lib.hid hn3
  have HS3 := Lib.hid hs3
  have hn0 : n3 ≤ 9223372036854775807 := by obtain ⟨_, _, hv, h1, h2⟩ := hs3.shape; cases hv; unfold maxLen at h2; omega
  have hl3 := hs3.run_len bytesQT
  clear hb3 hk3 hs3 hn3
  generalize w.heap.size + 1 = gb at *
  by_cases h0 : s.2 = 0
  · rw [h0]
    by_cases hl : 1048576 < n3
    · have HF : Hid (bodyFin s = (s.1, 12)) := Lib.hid (bodyFin_long h0 (by rw [← HN3.out]; exact hl))
      clear h0
      go_wp2
      go_ret3
      rw [HF.out]
      exact ⟨A3, n3, c3, rfl, HN3.out, HS3.out, HK3.out⟩
    · have HF : Hid (bodyFin s = s) := Lib.hid (bodyFin_ok fun h => hl (by rw [HN3.out]; exact h.2))
      have HZ := Lib.hid h0
      clear h0
      go_wp2
      go_ret3
      rw [HF.out]
      exact ⟨A3, n3, c3, by rw [HZ.out]; rfl, HN3.out, HS3.out, HK3.out⟩
  · have HF : Hid (bodyFin s = s) := Lib.hid (bodyFin_ok fun h => h0 h.1)
    have h0' : (s.2 == 0) = false := by rw [beq_eq_false_iff_ne]; exact h0
    obtain ⟨e5, he5⟩ : ∃ e5, e5 = s.2 := ⟨_, rfl⟩
    rw [← he5] at h0' ⊢
    have HE := Lib.hid he5
    clear h0 he5
    go_wp2
    go_ret3
    rw [HF.out]
    exact ⟨A3, n3, c3, by rw [← HE.out]; rfl, HN3.out, HS3.out, HK3.out⟩

set_option maxHeartbeats 4000000 in
set_option maxRecDepth 100000 in
theorem cnBody_2 (st : Int) (ks : ByteArray) (hs idle beat : Int) (orph : Int) (tok ev : Value) (w : World) :
    Calls Tryz.prog 34 #[.agg (cfgC st ks (tok) (ev) hs idle beat orph), .int .i64 2] w (BodyPost w 1 (bodyFin (wrFin (pairB ⟨#[67, 81, 76, 95, 86, 69, 82, 83, 73, 79, 78]⟩ ⟨#[51, 46, 48, 46, 48]⟩, 0)))) := by
  have HQ : Hid (∀ W : World, Lo W W.heap.size 2 (.slice (some ⟨w.heap.size + 1 + 1, 0, none⟩) 1 1) 1 [.string ⟨#[67, 81, 76, 95, 86, 69, 82, 83, 73, 79, 78]⟩, .string ⟨#[51, 46, 48, 46, 48]⟩] → Calls Tryz.prog 57 #[.agg (reqC 1 (.slice (some ⟨w.heap.size + 1 + 1, 0, none⟩) 1 1) noStr 0 (.slice none 0 0) 0 (.slice none 0 0))] W (PutPost W (wrFin (pairB ⟨#[67, 81, 76, 95, 86, 69, 82, 83, 73, 79, 78]⟩ ⟨#[51, 46, 48, 46, 48]⟩, 0)))) := Lib.hid fun W hW => rqPut_pairs _ _ (by decide) (by decide) hW
  obtain ⟨s, hs⟩ : ∃ s : List UInt8 × Int, s = wrFin (pairB ⟨#[67, 81, 76, 95, 86, 69, 82, 83, 73, 79, 78]⟩ ⟨#[51, 46, 48, 46, 48]⟩, 0) := ⟨_, rfl⟩
  rw [← hs] at HQ ⊢
  clear hs
  unfold cfgC
  go_enter Tryz.func34, Tryz.ntmps34
  go_wp2_with (first
    | (refine wpList_rd rfl (d := 18) rfl (.agg (reqC 1 (.slice (some ⟨w.heap.size + 1 + 1, 0, none⟩) 1 1) noStr 0 (.slice none 0 0) 0 (.slice none 0 0))) (by kernel_rfl) ?_)
    | (refine wpList_store_row rfl 144 (.tmp 7) (.tmp 18) rfl (w.heap.size + 1) (reqC 1 (.slice (some ⟨w.heap.size + 1 + 1, 0, none⟩) 1 1) noStr 0 (.slice none 0 0) 0 (.slice none 0 0)) rfl rfl 144 (reqC 0 (.slice none 0 0) noStr 0 (.slice none 0 0) 0 (.slice none 0 0)) (Blk.alloc (Blk.new_at _ _ _ (by rw [sz_alloc])) _) (req_info _ _ _ _ _ _ _) rfl (req_one _ _ _ _ _ _ _ _ _ _ _ _ _) ?_)
    | (refine wpList_load_row rfl 144 (.tmp 7) rfl (w.heap.size + 1) rfl 144 (reqC 1 (.slice (some ⟨w.heap.size + 1 + 1, 0, none⟩) 1 1) noStr 0 (.slice none 0 0) 0 (.slice none 0 0)) (0, 0) _ (setRow_heap _ _ _ _ _ _ (Blk.alloc (Blk.new_at _ _ _ (by rw [sz_alloc])) _)) Tryz.underlying144 rfl (req_info _ _ _ _ _ _ _) ?_)
)
  go_at_call 57
  refine (HQ.out _ (SlK.lo (Sl.setRow (Sl.made_at (sz := 2) (n := 1) (Blk.new_at _ 146 #[.string ⟨#[67, 81, 76, 95, 86, 69, 82, 83, 73, 79, 78]⟩, .string ⟨#[51, 46, 48, 46, 48]⟩] (by rw [sz_alloc, sz_alloc])) _ rfl rfl (by decide)) (Blk.alloc (Blk.new_at _ _ _ (by rw [sz_alloc])) _) (by decide) _))).mono ?_
  rintro e w3 ⟨A3, n3, c3, rfl, hn3, hs3, hk3⟩
  have hb3 := Blk.kept (show Blk _ (w.heap.size + 1) 144 (reqC 1 (.slice (some ⟨w.heap.size + 1 + 1, 0, none⟩) 1 1) noStr 0 (.slice none 0 0) 0 (.slice none 0 0)) from (setRow_heap _ _ _ _ _ _ (Blk.alloc (Blk.new_at _ _ _ (by rw [sz_alloc])) _))) hk3 (fun e => e)
  have y0 : w3.cell? ⟨w.heap.size + 1, 0, none⟩ = some (.int .u8 1) := hb3.cell 0
  have HK3 := Lib.hid (Kept.trans (Kept.setRow (S := noBlock) (g := w.heap.size + 1) ((((Kept.refl noBlock w).alloc _).alloc _).alloc _) (fun h => absurd h (by omega)) _) hk3 fun _ _ e => e)
  have HN3 := Lib.hid hn3
  have HS3 := Lib.hid hs3
  have hn0 : n3 ≤ 9223372036854775807 := by obtain ⟨_, _, hv, h1, h2⟩ := hs3.shape; cases hv; unfold maxLen at h2; omega
  have hl3 := hs3.run_len bytesQT
  clear hb3 hk3 hs3 hn3
  generalize w.heap.size + 1 = gb at *
  by_cases h0 : s.2 = 0
  · rw [h0]
    by_cases hl : 1048576 < n3
    · have HF : Hid (bodyFin s = (s.1, 12)) := Lib.hid (bodyFin_long h0 (by rw [← HN3.out]; exact hl))
      clear h0
      go_wp2
      go_ret3
      rw [HF.out]
      exact ⟨A3, n3, c3, rfl, HN3.out, HS3.out, HK3.out⟩
    · have HF : Hid (bodyFin s = s) := Lib.hid (bodyFin_ok fun h => hl (by rw [HN3.out]; exact h.2))
      have HZ := Lib.hid h0
      clear h0
      go_wp2
      go_ret3
      rw [HF.out]
      exact ⟨A3, n3, c3, by rw [HZ.out]; rfl, HN3.out, HS3.out, HK3.out⟩
  · have HF : Hid (bodyFin s = s) := Lib.hid (bodyFin_ok fun h => h0 h.1)
    have h0' : (s.2 == 0) = false := by rw [beq_eq_false_iff_ne]; exact h0
    obtain ⟨e5, he5⟩ : ∃ e5, e5 = s.2 := ⟨_, rfl⟩
    rw [← he5] at h0' ⊢
    have HE := Lib.hid he5
    clear h0 he5
    go_wp2
    go_ret3
    rw [HF.out]
    exact ⟨A3, n3, c3, by rw [← HE.out]; rfl, HN3.out, HS3.out, HK3.out⟩

end Go.Proofs.YtfnjoceolcdeoaaGreatDoor

/- conn.Config.body, of the states 4 · conn.Config.body of a config without token and events: no error, whatever the state. -/
import Derived.Test.YtfnjoceolcdeoaaGreatDoorMr09
import Derived.Test.YtfnjoceolcdeoaaGreatDoorMr15
namespace Go.Proofs.YtfnjoceolcdeoaaGreatDoor
set_option linter.unusedVariables false
open Go.RowKit

set_option maxHeartbeats 4000000 in
set_option maxRecDepth 100000 in
theorem cnBody_4 (st : Int) (ks : ByteArray) (hks : ks.size ≤ 1000000000) (hs idle beat : Int) (orph : Int) (tok ev : Value) {w : World} (hm : MaxL w) :
    Calls Tryz.prog 34 #[.agg (cfgC st ks tok ev hs idle beat orph), .int .i64 4] w (BodyPost w 7 (bodyFin (wrFin (runP (lngB (useB ks), 0) 1)))) := by
  have HQ : Hid (∀ W : World, Calls Tryz.prog 57 #[.agg (reqC 7 (.slice none 0 0) (useB ks) 1 (.slice none 0 0) 0 (.slice none 0 0))] W (PutPost W (wrFin (runP (lngB (useB ks), 0) 1)))) := Lib.hid fun W => rqPut_query (useB ks) (by have := useB_len ks; omega)
  have HU := Lib.hid (fun W (hW : Kept noBlock w W) => cnUse_at ks hks W (hm.keptN hW))
  obtain ⟨s, hs⟩ : ∃ s : List UInt8 × Int, s = wrFin (runP (lngB (useB ks), 0) 1) := ⟨_, rfl⟩
  rw [← hs] at HQ ⊢
  clear hs hm
  generalize useB ks = t at *
  unfold cfgC
  go_enter Tryz.func34, Tryz.ntmps34
  go_wp2_with fail
  go_at_call 56
  refine (HU.out _ (((Kept.refl noBlock w).alloc _).alloc _)).mono ?_
  rintro e w2 ⟨rfl, hk2⟩
  have HB2 := Lib.hid (Blk.kept (show Blk _ (w.heap.size + 1) 144 (reqC 0 (.slice none 0 0) noStr 0 (.slice none 0 0) 0 (.slice none 0 0)) from Blk.new_at _ _ _ (by rw [sz_alloc])) hk2 (fun e => e))
  have HK2 := Lib.hid (Kept.trans (((Kept.refl noBlock w).alloc _).alloc _) hk2 fun _ _ e => e)
  clear hk2
  go_wp2_with (first
    | (refine wpList_rd rfl (d := 31) rfl (.agg (reqC 7 (.slice none 0 0) t 1 (.slice none 0 0) 0 (.slice none 0 0))) (by kernel_rfl) ?_)
    | (refine wpList_store_row rfl 144 (.tmp 7) (.tmp 31) rfl (w.heap.size + 1) (reqC 7 (.slice none 0 0) t 1 (.slice none 0 0) 0 (.slice none 0 0)) rfl rfl 144 (reqC 0 (.slice none 0 0) noStr 0 (.slice none 0 0) 0 (.slice none 0 0)) HB2.out (req_info _ _ _ _ _ _ _) rfl (req_one _ _ _ _ _ _ _ _ _ _ _ _ _) ?_)
    | (refine wpList_load_row rfl 144 (.tmp 7) rfl (w.heap.size + 1) rfl 144 (reqC 7 (.slice none 0 0) t 1 (.slice none 0 0) 0 (.slice none 0 0)) (0, 0) _ (setRow_heap _ _ _ _ _ _ HB2.out) Tryz.underlying144 rfl (req_info _ _ _ _ _ _ _) ?_))
  go_at_call 57
  refine (HQ.out _).mono ?_
  rintro e w3 ⟨A3, n3, c3, rfl, hn3, hs3, hk3⟩
  have hb3 := Blk.kept (show Blk _ (w.heap.size + 1) 144 (reqC 7 (.slice none 0 0) t 1 (.slice none 0 0) 0 (.slice none 0 0)) from setRow_heap _ _ _ _ _ _ HB2.out) hk3 (fun e => e)
  have y0 : w3.cell? ⟨w.heap.size + 1, 0, none⟩ = some (.int .u8 7) := hb3.cell 0
  have HK3 := Lib.hid (Kept.trans (Kept.setRow (S := noBlock) (g := w.heap.size + 1) HK2.out (fun h => absurd h (by omega)) _) hk3 fun _ _ e => e)
  have HN3 := Lib.hid hn3
  have HS3 := Lib.hid hs3
  have hn0 : n3 ≤ 9223372036854775807 := by obtain ⟨_, _, hv, h1, h2⟩ := hs3.shape; cases hv; unfold maxLen at h2; omega
  have hl3 := hs3.run_len bytesQT
  clear hb3 hk3 hs3 hn3
  generalize w.heap.size + 1 = gb at *
  by_cases h0 : s.2 = 0
  · rw [h0]
    by_cases hl : 1048576 < n3
    · have HF : Hid (bodyFin s = (s.1, 12)) := Lib.hid (bodyFin_long h0 (by rw [← HN3.out]; exact hl))
      clear h0
      go_wp2
      go_ret3
      rw [HF.out]
      exact ⟨A3, n3, c3, rfl, HN3.out, HS3.out, HK3.out⟩
    · have HF : Hid (bodyFin s = s) := Lib.hid (bodyFin_ok fun h => hl (by rw [HN3.out]; exact h.2))
      have HZ := Lib.hid h0
      clear h0
      go_wp2
      go_ret3
      rw [HF.out]
      exact ⟨A3, n3, c3, by rw [HZ.out]; rfl, HN3.out, HS3.out, HK3.out⟩
  · have HF : Hid (bodyFin s = s) := Lib.hid (bodyFin_ok fun h => h0 h.1)
    have h0' : (s.2 == 0) = false := by rw [beq_eq_false_iff_ne]; exact h0
    obtain ⟨e5, he5⟩ : ∃ e5, e5 = s.2 := ⟨_, rfl⟩
    rw [← he5] at h0' ⊢
    have HE := Lib.hid he5
    clear h0 he5
    go_wp2
    go_ret3
    rw [HF.out]
    exact ⟨A3, n3, c3, by rw [← HE.out]; rfl, HN3.out, HS3.out, HK3.out⟩

end Go.Proofs.YtfnjoceolcdeoaaGreatDoor
namespace Go.Proofs.YtfnjoceolcdeoaaGreatDoor
set_option linter.unusedVariables false
open Go.RowKit

theorem bodyFin_fine {s : List UInt8 × Int} (h : s.2 = 0) (h2 : s.1.length ≤ 1048576) : (bodyFin s).2 = 0 := by rw [bodyFin_ok (fun e => by omega)]; exact h
/-- Is the text of a keyspace's use short enough? -/
def ksOk (ks : ByteArray) : Prop := ks.size ≤ 300000
theorem runP_fine (X : List UInt8) (c : Nat) : runP (X, 0) c = (X ++ putB c 2 ++ putB 0 1, 0) := rfl
theorem cnBody_nil (st : Int) (ks : ByteArray) (hk : ksOk ks) (hs idle beat : Int) (orph : Int) (k : Nat) (h2 : 2 ≤ k) (h5 : k ≤ 5) {W : World} (hm : MaxL W) :
    ∃ (op : Int) (s : List UInt8 × Int), Calls Tryz.prog 34 #[.agg (cfgC st ks (.slice none 0 0) (.slice none 0 0) hs idle beat orph), .int .i64 k] W (BodyPost W op s) ∧ s.2 = 0 := by
  unfold ksOk at hk
  have h : k = 2 ∨ k = 3 ∨ k = 4 ∨ k = 5 := by omega
  rcases h with rfl | rfl | rfl | rfl
  · refine ⟨_, _, cnBody_2 st ks hs idle beat orph _ _ W, bodyFin_fine rfl ?_⟩
    rw [wrFin_ok rfl]
    show (pairB _ _).length ≤ _
    rw [pairB_len]; decide
  · refine ⟨_, _, cnBody_3 (l := []) st ks hs idle beat orph (Sl.nil W 5 1) (by decide) _, bodyFin_fine rfl ?_⟩
    rw [wrFin_ok rfl]
    show (valB []).length ≤ _
    unfold valB
    rw [List.length_append, putB_len]; decide
  · refine ⟨_, _, cnBody_4 st ks (by omega) hs idle beat orph _ _ hm, bodyFin_fine rfl ?_⟩
    rw [wrFin_ok rfl, runP_fine]
    have := useB_len ks
    simp only [List.length_append, lngB_len, putB_len]
    omega
  · have e : textsP [] = (putB 0 2, 0) := rfl
    refine ⟨_, _, cnBody_5 (L := []) st ks hs idle beat orph _ (SlK.nil W _ 1) (by simp) (by rw [e]; show (putB 0 2).length ≤ _; rw [putB_len]; decide), bodyFin_fine ?_ ?_⟩
    · rw [e]; rfl
    · rw [e]; show (putB 0 2).length ≤ _; rw [putB_len]; decide
end Go.Proofs.YtfnjoceolcdeoaaGreatDoor

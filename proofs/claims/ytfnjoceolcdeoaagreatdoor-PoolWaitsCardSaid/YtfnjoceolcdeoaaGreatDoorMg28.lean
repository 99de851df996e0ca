/- conn.Config.body of a config without token and events: no error, whatever the state. -/
import Derived.Test.YtfnjoceolcdeoaaGreatDoorMg27
namespace Go.Proofs.YtfnjoceolcdeoaaGreatDoor
set_option linter.unusedVariables false
open Go.RowKit

theorem bodyFin_fine {s : List UInt8 × Int} (h : s.2 = 0) (h2 : s.1.length ≤ 1048576) : (bodyFin s).2 = 0 := by rw [bodyFin_ok (fun e => by omega)]; exact h
/-- Is the text of a keyspace's use short enough? -/
def ksOk (ks : ByteArray) : Prop := ks.size ≤ 300000
theorem runP_fine (X : List UInt8) (c : Nat) : runP (X, 0) c = (X ++ putB c 2 ++ putB 0 1, 0) := rfl
theorem cnBody_nil (st : Int) (ks : ByteArray) (hk : ksOk ks) (hs idle beat : Int) (orph : Int) (k : Nat) (h2 : 2 ≤ k) (h5 : k ≤ 5) {W : World} (hm : MaxL W) :
    ∃ (op : Int) (s : List UInt8 × Int), Calls Tryz.prog 34 #[.agg (cfgC st ks (.slice none 0 0) (.slice none 0 0) hs idle beat orph), .int .i64 k] W (BodyPost W op s) ∧ s.2 = 0 := by
  unfold ksOk at hk
  have h : k = 2 ∨ k = 3 ∨ k = 4 ∨ k = 5 := by omega
  rcases h with rfl | rfl | rfl | rfl
  · refine ⟨_, _, cnBody_2 st ks hs idle beat orph _ _ W, bodyFin_fine rfl ?_⟩
    rw [wrFin_ok rfl]
    show (pairB _ _).length ≤ _
    rw [pairB_len]; decide
  · refine ⟨_, _, cnBody_3 (l := []) st ks hs idle beat orph (Sl.nil W 5 1) (by decide) _, bodyFin_fine rfl ?_⟩
    rw [wrFin_ok rfl]
    show (valB []).length ≤ _
    unfold valB
    rw [List.length_append, putB_len]; decide
  · refine ⟨_, _, cnBody_4 st ks (by omega) hs idle beat orph _ _ hm, bodyFin_fine rfl ?_⟩
    rw [wrFin_ok rfl, runP_fine]
    have := useB_len ks
    simp only [List.length_append, lngB_len, putB_len]
    omega
  · have e : textsP [] = (putB 0 2, 0) := rfl
    refine ⟨_, _, cnBody_5 (L := []) st ks hs idle beat orph _ (SlK.nil W _ 1) (by simp) (by rw [e]; show (putB 0 2).length ≤ _; rw [putB_len]; decide), bodyFin_fine ?_ ?_⟩
    · rw [e]; rfl
    · rw [e]; show (putB 0 2).length ≤ _; rw [putB_len]; decide
end Go.Proofs.YtfnjoceolcdeoaaGreatDoor

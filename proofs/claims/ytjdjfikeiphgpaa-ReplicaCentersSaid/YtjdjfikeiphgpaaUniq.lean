/- A row without what stands twice. -/
import Derived.Test.YtjdjfikeiphgpaaRgWalkPure
namespace Go.Proofs.Ytjdjfikeiphgpaa
set_option linter.unusedVariables false
open Go.RowKit

theorem has_false {l : List ByteArray} {h : ByteArray} : has l h = false ↔ h ∉ l := by
  rw [← Bool.not_eq_true, has_iff]
theorem uniq_nodup : ∀ (l out : List ByteArray), out.Nodup → (uniq out l).Nodup
  | [], out, h => h
  | a :: t, out, h => by
    rw [uniq]
    by_cases e : has out a = true
    · rw [if_pos e]; exact uniq_nodup t out h
    · rw [if_neg e]
      refine uniq_nodup t _ ?_
      rw [List.nodup_append]
      have h2 : a ∉ out := has_false.1 (Bool.not_eq_true _ ▸ e)
      exact ⟨h, by simp, fun x hx y hy hxy => by simp only [List.mem_singleton] at hy; subst hy; subst hxy; exact h2 hx⟩
theorem uniq_mem : ∀ (l out : List ByteArray) (h : ByteArray), h ∈ uniq out l ↔ h ∈ out ∨ h ∈ l
  | [], out, h => by simp [uniq]
  | a :: t, out, h => by
    rw [uniq]
    by_cases e : has out a = true
    · rw [if_pos e, uniq_mem t out h]
      have := has_iff.1 e
      constructor
      · rintro (h1 | h1)
        · exact .inl h1
        · exact .inr (List.mem_cons_of_mem _ h1)
      · rintro (h1 | h1)
        · exact .inl h1
        · rcases List.mem_cons.1 h1 with rfl | h1
          · exact .inl this
          · exact .inr h1
    · rw [if_neg e, uniq_mem t _ h, List.mem_append, List.mem_singleton, List.mem_cons]
      constructor
      · rintro ((h1 | h1) | h1)
        · exact .inl h1
        · exact .inr (.inl h1)
        · exact .inr (.inr h1)
      · rintro (h1 | h1 | h1)
        · exact .inl (.inl h1)
        · exact .inl (.inr h1)
        · exact .inr h1
theorem rwalk_nodup (S : List Pl) (t : Int) : (rwalk S t).Nodup := uniq_nodup _ [] .nil
theorem turned_perm (S : List Pl) (t : Int) : (turned S t).Perm S := by
  unfold turned
  exact List.perm_append_comm.trans (by rw [List.take_append_drop])
theorem rwalk_mem (S : List Pl) (t : Int) (h : ByteArray) : h ∈ rwalk S t ↔ h ∈ S.map (·.2) := by
  unfold rwalk
  rw [uniq_mem, ((turned_perm S t).map (·.2)).mem_iff]
  simp
end Go.Proofs.Ytjdjfikeiphgpaa

/- A ring's walks: each host once, from wherever they begin; who has a token owns it. No program is named. -/
import Derived.Test.YthjpoiemconeeaaDoorRgView
namespace Go.Proofs.YthjpoiemconeeaaDoor
set_option linter.unusedVariables false
open Go.RowKit

theorem has_false {l : List ByteArray} {h : ByteArray} : has l h = false ↔ h ∉ l := by
  rw [← Bool.not_eq_true, has_iff]
theorem uniq_nodup : ∀ (l out : List ByteArray), out.Nodup → (uniq out l).Nodup
  | [], out, h => h
  | a :: t, out, h => by
    rw [uniq]
    by_cases e : has out a = true
    · rw [if_pos e]; exact uniq_nodup t out h
    · rw [if_neg e]
      refine uniq_nodup t _ ?_
      rw [List.nodup_append]
      have h2 : a ∉ out := has_false.1 (Bool.not_eq_true _ ▸ e)
      exact ⟨h, by simp, fun x hx y hy hxy => by simp only [List.mem_singleton] at hy; subst hy; subst hxy; exact h2 hx⟩
theorem uniq_mem : ∀ (l out : List ByteArray) (h : ByteArray), h ∈ uniq out l ↔ h ∈ out ∨ h ∈ l
  | [], out, h => by simp [uniq]
  | a :: t, out, h => by
    rw [uniq]
    by_cases e : has out a = true
    · rw [if_pos e, uniq_mem t out h]
      have := has_iff.1 e
      constructor
      · rintro (h1 | h1)
        · exact .inl h1
        · exact .inr (List.mem_cons_of_mem _ h1)
      · rintro (h1 | h1)
        · exact .inl h1
        · rcases List.mem_cons.1 h1 with rfl | h1
          · exact .inl this
          · exact .inr h1
    · rw [if_neg e, uniq_mem t _ h, List.mem_append, List.mem_singleton, List.mem_cons]
      constructor
      · rintro ((h1 | h1) | h1)
        · exact .inl h1
        · exact .inr (.inl h1)
        · exact .inr (.inr h1)
      · rintro (h1 | h1 | h1)
        · exact .inl (.inl h1)
        · exact .inl (.inr h1)
        · exact .inr h1
theorem rwalk_nodup (S : List Pl) (t : Int) : (rwalk S t).Nodup := uniq_nodup _ [] .nil
theorem turned_perm (S : List Pl) (t : Int) : (turned S t).Perm S := by
  unfold turned
  exact List.perm_append_comm.trans (by rw [List.take_append_drop])
theorem rwalk_mem (S : List Pl) (t : Int) (h : ByteArray) : h ∈ rwalk S t ↔ h ∈ S.map (·.2) := by
  unfold rwalk
  rw [uniq_mem, ((turned_perm S t).map (·.2)).mem_iff]
  simp
theorem rwalk_perm (S : List Pl) (a b : Int) : (rwalk S a).Perm (rwalk S b) :=
  (List.perm_ext_iff_of_nodup (rwalk_nodup S a) (rwalk_nodup S b)).2 fun h => by rw [rwalk_mem, rwalk_mem]
theorem uniq_head : ∀ (l : List ByteArray) (x : ByteArray) (out : List ByteArray), (uniq (x :: out) l)[0]? = some x
  | [], x, out => rfl
  | a :: t, x, out => by
    rw [uniq]
    split
    · exact uniq_head t x out
    · exact uniq_head t x (out ++ [a])
theorem rwalk_head {S : List Pl} {t : Int} (h : 0 < S.length) : (rwalk S t)[0]? = some (owner S t) := by
  have h1 := turned_get (S := S) (t := t) (i := 0) h
  rw [Nat.add_zero, Nat.mod_eq_of_lt (rat_lt h)] at h1
  obtain ⟨p, hp⟩ : ∃ p, S[rat S t]? = some p := ⟨_, List.getElem?_eq_getElem (rat_lt h)⟩
  rw [hp] at h1
  have ho : owner S t = p.2 := by unfold owner; rw [hp]; rfl
  rw [ho]
  unfold rwalk
  cases hT : turned S t with
  | nil => rw [hT] at h1; cases h1
  | cons a r =>
    rw [hT] at h1
    simp only [List.getElem?_cons_zero, Option.some.injEq] at h1
    subst h1
    rw [List.map_cons, uniq, if_neg (by simp [has])]
    exact uniq_head _ _ []
theorem owner_of {S : List Pl} {p : Pl} (hr : rising S) (hp : p ∈ S) : owner S p.1 = p.2 := by
  obtain ⟨j, hj, e⟩ := List.getElem_of_mem hp
  have hb : below S p.1 = j := by
    have h1 := below_spec hr p.1 j p (by rw [List.getElem?_eq_getElem hj, e])
    have h2 : ¬ j < below S p.1 := fun hx => by have := h1.2 hx; omega
    rcases Nat.lt_or_ge (below S p.1) j with hlt | hge
    · obtain ⟨q, hq⟩ : ∃ q, S[below S p.1]? = some q := ⟨_, List.getElem?_eq_getElem (by omega)⟩
      have h3 := below_spec hr p.1 _ q hq
      have h4 : q.1 < p.1 := by
        have := List.pairwise_iff_getElem.1 hr (below S p.1) j (by omega) hj hlt
        rw [List.getElem?_eq_getElem (by omega), Option.some.injEq] at hq
        rw [hq, e] at this
        exact this
      have := h3.1 h4
      omega
    · omega
  have hrat : rat S p.1 = j := by unfold rat; rw [hb, if_pos hj]
  unfold owner
  rw [hrat, List.getElem?_eq_getElem hj, e]
  rfl
theorem count_one {l : List ByteArray} (h : l.Nodup) {x : ByteArray} (hx : x ∈ l) : l.countP (fun y => decide (y = x)) = 1 := by
  induction l with
  | nil => cases hx
  | cons a t ih =>
    rw [List.nodup_cons] at h
    rw [List.countP_cons]
    rcases List.mem_cons.1 hx with rfl | hx
    · have hz : t.countP (fun y => decide (y = x)) = 0 := by
        rw [List.countP_eq_zero]
        intro y hy e
        rw [decide_eq_true_eq] at e
        subst e; exact h.1 hy
      simp [hz]
    · have hne : ¬ a = x := fun e => h.1 (e ▸ hx)
      rw [ih h.2 hx]
      simp [hne]
theorem rwalk_len {S : List Pl} {t : Int} (h : S.length ≤ 1000) : (rwalk S t).length ≤ 1000 := by
  have := uniq_len ((turned S t).map (·.2)) []
  rw [List.length_map, turned_length] at this
  unfold rwalk
  simp only [List.length_nil] at this
  omega
end Go.Proofs.YthjpoiemconeeaaDoor

/- A map as a list of pairs: reading and writing. No program is named. -/
import Derived.Test.YtjkmgpmknadhjaaGreatOwn
namespace Go.Proofs.YtjkmgpmknadhjaaGreat
set_option linter.unusedVariables false
open Go.RowKit

section
variable {α β : Type} [DecidableEq α]
theorem aget_aput (k k' : α) (v : β) : ∀ (l : List (α × β)), aget k (aput k' v l) = if k' = k then some v else aget k l
  | [] => by
    by_cases h : k' = k
    · subst h; simp [aput, aget]
    · simp [aput, aget, h]
  | (a, b) :: l => by
    by_cases h1 : a = k'
    · subst h1
      by_cases h : a = k
      · subst h; simp [aput, aget]
      · simp [aput, aget, h]
    · by_cases h2 : a = k
      · subst h2
        have h3 : ¬ k' = a := fun e => h1 e.symm
        simp [aput, aget, h1, h3]
      · simp only [aput, aget, h1, h2, if_false, aget_aput k k' v l]
theorem mem_aput {k : α} {v : β} {p : α × β} : ∀ {l : List (α × β)}, (l.map (·.1)).Nodup → p ∈ aput k v l → p = (k, v) ∨ (p ∈ l ∧ p.1 ≠ k)
  | [], _, h => by simp [aput] at h; exact .inl h
  | (a, b) :: l, hn, h => by
    have hn' : a ∉ l.map (·.1) ∧ (l.map (·.1)).Nodup := List.nodup_cons.1 hn
    by_cases h1 : a = k
    · subst h1
      simp only [aput, if_true] at h
      rcases List.mem_cons.1 h with h | h
      · exact .inl h
      · exact .inr ⟨List.mem_cons_of_mem _ h, fun e => hn'.1 (List.mem_map.2 ⟨p, h, e⟩)⟩
    · simp only [aput, h1, if_false] at h
      rcases List.mem_cons.1 h with h | h
      · subst h; exact .inr ⟨List.mem_cons_self .., h1⟩
      · rcases mem_aput hn'.2 h with h | ⟨h, h2⟩
        · exact .inl h
        · exact .inr ⟨List.mem_cons_of_mem _ h, h2⟩
theorem aput_keys {k : α} {v : β} : ∀ {l : List (α × β)}, k ∈ l.map (·.1) → (aput k v l).map (·.1) = l.map (·.1)
  | [], h => by simp at h
  | (a, b) :: l, h => by
    by_cases h1 : a = k
    · subst h1; simp [aput]
    · have : k ∈ l.map (·.1) := by
        rcases List.mem_cons.1 h with h | h
        · exact absurd h.symm h1
        · exact h
      simp [aput, h1, aput_keys this]
theorem aget_mem {k : α} {v : β} {l : List (α × β)} (h : aget k l = some v) : (k, v) ∈ l := by
  obtain ⟨A, B, rfl, _⟩ := aget_some_split h
  simp
theorem aget_of_mem {k : α} {v : β} : ∀ {l : List (α × β)}, (l.map (·.1)).Nodup → (k, v) ∈ l → aget k l = some v
  | [], _, h => by cases h
  | (a, b) :: l, hn, h => by
    have hn' : a ∉ l.map (·.1) ∧ (l.map (·.1)).Nodup := List.nodup_cons.1 hn
    rcases List.mem_cons.1 h with h | h
    · cases h; simp [aget]
    · have : ¬ a = k := fun e => hn'.1 (e ▸ List.mem_map.2 ⟨(k, v), h, rfl⟩)
      simp [aget, this, aget_of_mem hn'.2 h]
theorem aput_map {γ : Type} (f : β → γ) (k : α) (v : β) : ∀ (l : List (α × β)), (aput k v l).map (fun p => (p.1, f p.2)) = aput k (f v) (l.map fun p => (p.1, f p.2))
  | [] => by simp [aput]
  | (a, b) :: l => by
    by_cases h1 : a = k
    · subst h1; simp [aput]
    · simp [aput, h1, aput_map f k v l]
theorem aput_same {k : α} {v : β} : ∀ {l : List (α × β)}, aget k l = some v → aput k v l = l
  | [], h => by simp [aget] at h
  | (a, b) :: l, h => by
    by_cases h1 : a = k
    · subst h1; simp [aget] at h; subst h; simp [aput]
    · simp only [aget, h1, if_false] at h
      simp [aput, h1, aput_same h]
end
end Go.Proofs.YtjkmgpmknadhjaaGreat

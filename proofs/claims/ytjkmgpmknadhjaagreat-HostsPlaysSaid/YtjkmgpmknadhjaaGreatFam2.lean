/- Several rows of one's own: two of them; those that a call has made beside those that were there. -/
import Derived.Test.YtjkmgpmknadhjaaGreatFam
namespace Go.Proofs.YtjkmgpmknadhjaaGreat
set_option linter.unusedVariables false
open Go.RowKit

section
variable {w w' W : World} {base : Nat} {S : Nat → Prop}
theorem own_base {B : Nat} {e : TypeId} {sz n : Nat} {v : Value} {xs : List Value} (h : w.ownsRow base e sz v n xs) (hB : B ≤ base) : w.ownsRow B e sz v n xs := by
  obtain ⟨hl, h⟩ := h
  refine ⟨hl, ?_⟩
  rcases h with h | ⟨g, cap, cur, rfl, hb, r⟩
  · exact .inl h
  · exact .inr ⟨g, cap, cur, rfl, Nat.le_trans hB hb, r⟩
theorem Fam.two {L : List Rw} {a b : Rw} (h : Fam w base L) (i j : Nat) (hij : i ≠ j) (hi : L[i]? = some a) (hj : L[j]? = some b) : Fam w base [a, b] := by
  refine ⟨fun m r hm => ?_, fun m n x y hmn hm hn k hk => ?_⟩
  · rcases m with _ | _ | m
    · cases hm; exact h.1 i a hi
    · cases hm; exact h.1 j b hj
    · simp at hm
  · rcases m with _ | _ | m <;> rcases n with _ | _ | n
    · exact absurd rfl hmn
    · cases hm; cases hn; exact h.2 i j a b hij hi hj k hk
    · simp at hn
    · cases hm; cases hn; exact h.2 j i b a (fun e => hij e.symm) hj hi k hk
    · exact absurd rfl hmn
    · simp at hn
    · simp at hm
    · simp at hm
    · simp at hm
/-- What a call has made stands beside what was there. -/
theorem Fam.join {L M : List Rw} {B : Nat} (h : Fam w B L) (hk : Kept noBlock w w') (hb : w.heap.size ≤ base) (hB : B ≤ base) (h2 : Fam w' base M) : Fam w' B (L ++ M) := by
  have h1 := h.keptN hk
  have key : ∀ (i : Nat) (r : Rw), (L ++ M)[i]? = some r → (i < L.length ∧ L[i]? = some r) ∨ (L.length ≤ i ∧ M[i - L.length]? = some r) := by
    intro i r hr
    by_cases hl : i < L.length
    · rw [List.getElem?_append_left hl] at hr; exact .inl ⟨hl, hr⟩
    · rw [List.getElem?_append_right (by omega)] at hr; exact .inr ⟨by omega, hr⟩
  have cross : ∀ (i j : Nat) (a b : Rw), L[i]? = some a → M[j]? = some b → ∀ k, a.v.ownBlock = some k → b.v.ownBlock ≠ some k := by
    intro i j a b ha hb' k e e2
    have h3 := own_lt (h.1 i a ha) e
    have h4 := (own_type (h2.1 j b hb') e2).1
    omega
  refine ⟨fun i r hr => ?_, fun i j a b hij ha hb' k hk' => ?_⟩
  · rcases key i r hr with ⟨_, e⟩ | ⟨_, e⟩
    · exact h1.1 i r e
    · exact own_base (h2.1 _ r e) hB
  · rcases key i a ha with ⟨l1, e1⟩ | ⟨l1, e1⟩ <;> rcases key j b hb' with ⟨l2, e2⟩ | ⟨l2, e2⟩
    · exact h1.2 i j a b hij e1 e2 k hk'
    · exact cross i _ a b e1 e2 k hk'
    · exact fun e => cross j _ b a e2 e1 k e hk'
    · exact h2.2 _ _ a b (by omega) e1 e2 k hk'
end
end Go.Proofs.YtjkmgpmknadhjaaGreat

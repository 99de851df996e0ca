/- Several rows of one's own: an append to one leaves the others as they are. -/
import Derived.Test.YtjkmgpmknadhjaaGreatOwn
namespace Go.Proofs.YtjkmgpmknadhjaaGreat
set_option linter.unusedVariables false
open Go.RowKit

section
variable {w w' W : World} {base : Nat} {S : Nat → Prop}
theorem own_keptB {e : TypeId} {sz n : Nat} {v : Value} {xs : List Value} (h : w.ownsRow base e sz v n xs) (hk : Kept S w w') (hS : ∀ k, v.ownBlock = some k → ¬ S k) : w'.ownsRow base e sz v n xs := by
  obtain ⟨hl, h⟩ := h
  refine ⟨hl, ?_⟩
  rcases h with h | ⟨g, cap, cur, rfl, hb, hh, r⟩
  · exact .inl h
  · exact .inr ⟨g, cap, cur, rfl, hb, (hk.block g (lt_of_heap hh) (hS g rfl)).trans hh, r⟩
theorem own_lt {e : TypeId} {sz n : Nat} {v : Value} {xs : List Value} (h : w.ownsRow base e sz v n xs) {k : Nat} (hk : v.ownBlock = some k) : k < w.heap.size := by
  obtain ⟨_, cs, hh⟩ := own_type h hk
  exact lt_of_heap hh
structure Rw where
  e : TypeId
  sz : Nat
  v : Value
  n : Nat
  xs : List Value
/-- Rows of one's own that share no block. -/
def Fam (w : World) (base : Nat) (L : List Rw) : Prop :=
  (∀ (i : Nat) (r : Rw), L[i]? = some r → w.ownsRow base r.e r.sz r.v r.n r.xs) ∧ ∀ (i j : Nat) (a b : Rw), i ≠ j → L[i]? = some a → L[j]? = some b → ∀ k, a.v.ownBlock = some k → b.v.ownBlock ≠ some k
theorem Fam.nil : Fam w base [] := ⟨fun i r h => by simp at h, fun i j a b _ h => by simp at h⟩
/-- One more row, empty. -/
theorem Fam.more {L : List Rw} (h : Fam w base L) (e : TypeId) (sz : Nat) : Fam w base (L ++ [⟨e, sz, .slice none 0 0, 0, []⟩]) := by
  have key : ∀ i r, (L ++ [(⟨e, sz, .slice none 0 0, 0, []⟩ : Rw)])[i]? = some r → (i < L.length ∧ L[i]? = some r) ∨ (i = L.length ∧ r = ⟨e, sz, .slice none 0 0, 0, []⟩) := by
    intro i r hr
    by_cases hl : i < L.length
    · rw [List.getElem?_append_left hl] at hr; exact .inl ⟨hl, hr⟩
    · rw [List.getElem?_append_right (by omega)] at hr
      have h0 : i - L.length = 0 := by
        have := (List.getElem?_eq_some_iff.1 hr).1
        simp at this; omega
      rw [h0] at hr
      exact .inr ⟨by omega, (Option.some.inj hr).symm⟩
  refine ⟨fun i r hr => ?_, fun i j a b hij ha hb k hk => ?_⟩
  · rcases key i r hr with ⟨_, h1⟩ | ⟨_, rfl⟩
    · exact h.1 i r h1
    · exact World.ownsRow_nil _ _ _ _
  · rcases key i a ha with ⟨_, h1⟩ | ⟨_, rfl⟩
    · rcases key j b hb with ⟨_, h2⟩ | ⟨_, rfl⟩
      · exact h.2 i j a b hij h1 h2 k hk
      · simp [Value.ownBlock]
    · simp [Value.ownBlock] at hk
theorem Fam.get {L : List Rw} (h : Fam w base L) (i : Nat) {r : Rw} (hi : L[i]? = some r) : w.ownsRow base r.e r.sz r.v r.n r.xs := h.1 i r hi
theorem Fam.sl {L : List Rw} (h : Fam w base L) (i : Nat) {r : Rw} (hi : L[i]? = some r) : Sl w r.e r.sz r.v r.n r.xs := Sl.of_own (h.1 i r hi)
theorem Fam.kept {L : List Rw} (h : Fam w base L) (hk : Kept S w w') (hS : ∀ k, S k → k < base) : Fam w' base L :=
  ⟨fun i r hr => own_keptB (h.1 i r hr) hk fun k e hs => by have := (own_type (h.1 i r hr) e).1; have := hS k hs; omega, h.2⟩
theorem Fam.keptN {L : List Rw} (h : Fam w base L) (hk : Kept noBlock w w') : Fam w' base L := h.kept hk fun _ e => False.elim e
theorem Fam.app {L : List Rw} {r : Rw} {v' : Value} {n' : Nat} {xs' : List Value} (h : Fam w base L) (i : Nat) (hi : L[i]? = some r) (hk : Kept noBlock w W) (ha : Appended W w' base r.e r.sz r.v v' n' xs') : Fam w' base (L.set i { r with v := v', n := n', xs := xs' }) := by
  have hil := (List.getElem?_eq_some_iff.1 hi).1
  have hnew : ∀ k, v'.ownBlock = some k → r.v.ownBlock = some k ∨ k = W.heap.size := by
    intro k hk
    rcases ha.at_ with h1 | h1
    · rw [h1] at hk; exact .inl hk
    · rw [h1] at hk; exact .inr (Option.some.inj hk).symm
  have hap : ∀ j b, i ≠ j → L[j]? = some b → ∀ k, v'.ownBlock = some k → b.v.ownBlock ≠ some k := by
    intro j b hij hb k e e2
    rcases hnew k e with h1 | h1
    · exact h.2 i j r b hij hi hb k h1 e2
    · have := own_lt (h.1 j b hb) e2
      have := hk.size
      omega
  refine ⟨fun j b hj => ?_, fun j m a b hjm hj hm k e => ?_⟩
  · rw [List.getElem?_set] at hj
    by_cases e : i = j
    · rw [if_pos e, if_pos hil] at hj
      cases hj
      exact ha.own
    · rw [if_neg e] at hj
      exact own_keptB (own_keptB (h.1 j b hj) hk fun k _ e => e) ha.kept fun k e1 e2 => h.2 i j r b e hi hj k e2 e1
  · rw [List.getElem?_set] at hj hm
    by_cases e1 : i = j
    · rw [if_pos e1, if_pos hil] at hj
      cases hj
      rw [if_neg (fun e2 => hjm (e1.symm.trans e2))] at hm
      exact hap m b (fun e2 => hjm (e1.symm.trans e2)) hm k e
    · rw [if_neg e1] at hj
      by_cases e2 : i = m
      · rw [if_pos e2, if_pos hil] at hm
        cases hm
        intro e3
        exact hap j a e1 hj k e3 e
      · rw [if_neg e2] at hm
        exact h.2 j m a b hjm hj hm k e
end
end Go.Proofs.YtjkmgpmknadhjaaGreat

/- Streams taken one behind the other; what is due of them. -/
import Derived.Test.YtelcielfhgijpaaDoorStAwake
namespace Go.Proofs.YtelcielfhgijpaaDoor
set_option linter.unusedVariables false
open Go.RowKit

def idxs (k : Nat) : List Int → List (Int × Int)
  | [] => []
  | u :: t => ((k : Int), u) :: idxs (k + 1) t
theorem idxs_snoc (u : Int) : ∀ (l : List Int) (k : Nat), idxs k (l ++ [u]) = idxs k l ++ [(((k + l.length : Nat) : Int), u)]
  | [], k => by simp [idxs]
  | a :: t, k => by
    simp only [List.cons_append, idxs, idxs_snoc u t (k + 1), List.length_cons]
    rw [show k + 1 + t.length = k + (t.length + 1) by omega]
theorem idxs_keys : ∀ (l : List Int) (k : Nat), (idxs k l).map (·.1) = (List.range' k l.length).map fun i : Nat => (i : Int)
  | [], k => rfl
  | a :: t, k => by
    simp only [idxs, List.map_cons, List.length_cons, List.range'_succ, idxs_keys t (k + 1)]
theorem aget_idxs : ∀ (l : List Int) (k j : Nat), aget (j : Int) (idxs k l) = if k ≤ j then l[j - k]? else none
  | [], k, j => by simp [idxs, aget]
  | a :: t, k, j => by
    simp only [idxs, aget, aget_idxs t (k + 1) j]
    by_cases h1 : (k : Int) = j
    · have h2 : k = j := by omega
      subst h2
      simp
    · rw [if_neg h1]
      by_cases h2 : k ≤ j
      · rw [if_pos (by omega : k + 1 ≤ j), if_pos h2]
        have : j - k = (j - (k + 1)) + 1 := by omega
        rw [this, List.getElem?_cons_succ]
      · rw [if_neg (by omega : ¬ k + 1 ≤ j), if_neg h2]
theorem idxs_mem : ∀ {l : List Int} {k : Nat} {p : Int × Int}, p ∈ idxs k l → ∃ j : Nat, p.1 = (j : Int) ∧ k ≤ j ∧ j < k + l.length ∧ l[j - k]? = some p.2
  | [], k, p, h => by cases h
  | a :: t, k, p, h => by
    rcases List.mem_cons.1 h with rfl | h
    · exact ⟨k, rfl, Nat.le_refl _, by simp, by simp⟩
    · obtain ⟨j, h1, h2, h3, h4⟩ := idxs_mem h
      refine ⟨j, h1, by omega, by simp only [List.length_cons]; omega, ?_⟩
      have : j - k = (j - (k + 1)) + 1 := by omega
      rw [this, List.getElem?_cons_succ]
      exact h4

/-- The streams when so many have been taken. -/
def XS.row (n : Int) (l : List Int) : XS := ⟨n, idxs 0 l, []⟩
theorem row_owed {n : Int} {l : List Int} (j : Nat) : (XS.row n l).owed (j : Int) = decide (j < l.length) := by
  simp only [XS.owed, XS.row, aget_idxs, aget, Nat.zero_le, if_true, Nat.sub_zero, Option.isSome_none, Bool.or_false]
  by_cases h : j < l.length
  · rw [List.getElem?_eq_getElem h]; simp [h]
  · rw [List.getElem?_eq_none (by omega)]; simp [h]
theorem row_take {n : Int} {l : List Int} (u : Int) : (XS.row n l).take (l.length : Int) u = XS.row n (l ++ [u]) := by
  simp only [XS.take, XS.row, idxs_snoc, Nat.zero_add]
theorem row_till {n : Int} {l : List Int} {j : Nat} {u : Int} (h : l[j]? = some u) : (XS.row n l).till (j : Int) = u := by
  simp only [XS.till, XS.row, aget_idxs, Nat.zero_le, if_true, Nat.sub_zero, h, Option.getD_some]

section
variable {n : Int} {l : List Int} {now : Int}
theorem due_perm (s : XS) (now : Int) : (s.due now).Perm (s.ripe now (s.asked.map (·.1))) := List.mergeSort_perm _ _
theorem due_mem {s : XS} {x : Int} : x ∈ s.due now ↔ (∃ u, (x, u) ∈ s.asked) ∧ s.till x ≤ now := by
  rw [(due_perm s now).mem_iff, XS.ripe, List.mem_filter]
  simp [List.mem_map]
theorem due_row_mem {x : Int} (h : x ∈ (XS.row n l).due now) : ∃ (j : Nat) (u : Int), x = (j : Int) ∧ l[j]? = some u ∧ u ≤ now := by
  obtain ⟨⟨u, hu⟩, ht⟩ := due_mem.1 h
  obtain ⟨j, h1, -, h3, h4⟩ := idxs_mem hu
  simp only at h1
  subst h1
  rw [Nat.sub_zero] at h4
  rw [row_till h4] at ht
  exact ⟨j, u, rfl, h4, ht⟩
theorem due_nodup {s : XS} (h : s.Ok) : (s.due now).Nodup := (due_perm s now).symm.nodup (h.na.filter _)
theorem due_sorted (s : XS) : (s.due now).Pairwise fun a b => s.le a b = true := by
  refine List.pairwise_mergeSort (fun a b c h1 h2 => ?_) (fun a b => ?_) _
  · rw [s.le_eq] at *; simp only [decide_eq_true_eq] at *; omega
  · rw [s.le_eq, s.le_eq, Bool.or_eq_true]; simp only [decide_eq_true_eq]; omega
/-- Two that come one behind the other. -/
theorem due_next {s : XS} (h : s.Ok) {i : Nat} {x y : Int} (h1 : (s.due now)[i]? = some x) (h2 : (s.due now)[i + 1]? = some y) : s.till x < s.till y ∨ s.till x = s.till y ∧ x < y := by
  obtain ⟨hi1, rfl⟩ := List.getElem?_eq_some_iff.1 h1
  obtain ⟨hi2, rfl⟩ := List.getElem?_eq_some_iff.1 h2
  have hp := List.pairwise_iff_getElem.1 (due_sorted (now := now) s) i (i + 1) hi1 hi2 (by omega)
  have hn := List.pairwise_iff_getElem.1 (due_nodup (now := now) h) i (i + 1) hi1 hi2 (by omega)
  rw [s.le_eq, decide_eq_true_eq] at hp
  rcases hp with hp | ⟨h3, h4⟩
  · exact .inl hp
  · exact .inr ⟨h3, by omega⟩
theorem row_count (now : Int) : ∀ (l p : List Int) (n : Int), ((idxs p.length l).map (·.1)).countP (fun x => decide ((XS.row n (p ++ l)).till x ≤ now)) = l.countP fun u => decide (u ≤ now)
  | [], p, n => rfl
  | a :: t, p, n => by
    have ih := row_count now t (p ++ [a]) n
    simp only [List.length_append, List.length_cons, List.length_nil, Nat.zero_add, List.append_assoc, List.cons_append, List.nil_append] at ih
    simp only [idxs, List.map_cons, List.countP_cons, ih]
    congr 2
    rw [row_till (u := a) (by simp)]
theorem due_length : ((XS.row n l).due now).length = l.countP fun u => decide (u ≤ now) := by
  rw [(due_perm _ _).length_eq, XS.ripe, ← List.countP_eq_length_filter]
  exact row_count now l [] n
end
end Go.Proofs.YtelcielfhgijpaaDoor

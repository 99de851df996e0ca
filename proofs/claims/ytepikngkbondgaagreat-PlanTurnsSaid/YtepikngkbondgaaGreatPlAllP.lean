/- plan, plainly: a plan has just the hosts that are up and near enough, each one once, in order. No program is named. -/
import Derived.Test.YtepikngkbondgaaGreatPlDownP
namespace Go.Proofs.YtepikngkbondgaaGreat
set_option linter.unusedVariables false
open Go.RowKit
theorem dist_three (dc : ByteArray) (rem : Int) (S : List Ho) (x : ByteArray) : ∃ e : Nat, e < 3 ∧ distP dc rem S x = (e : Int) := by
  unfold distP
  split
  · exact ⟨0, by decide, rfl⟩
  · split
    · exact ⟨1, by decide, rfl⟩
    · split
      · exact ⟨2, by decide, rfl⟩
      · exact ⟨0, by decide, rfl⟩
section
variable {dc : ByteArray} {rem : Int} {S : List Ho} {n : Int} {fs : List Fa} {t : Int} {k : Nat}
theorem plan_has (hS : risingH S) (routed : Bool) {i : Nat} {o : Ho} (ho : S[i]? = some o) : has (planP dc rem S n fs routed t k) o.name = (o.up && !decide (distP dc rem S o.name = 0)) := by
  obtain ⟨A, B, C, h1, -, h2, h3, h4⟩ := plan_spec (dc := dc) (rem := rem) hS n fs routed t k
  have hg := getS_of_mem (rising_ne hS) (List.mem_of_getElem? ho)
  have hu : upS S o.name = o.up := by unfold upS; rw [hg]
  obtain ⟨d, hd, hde⟩ := dist_three dc rem S o.name
  have hm : has (planP dc rem S n fs routed t k) o.name = true ↔ o.up = true ∧ (distP dc rem S o.name = 1 ∨ distP dc rem S o.name = 2) := by
    rw [has_iff, h1, List.mem_append, List.mem_append, h3, h4, hu]
    constructor
    · rintro ((h | h) | h)
      · have := (h2 _).1 h
        rw [hu] at this
        exact ⟨this.2.1, .inl this.2.2⟩
      · exact ⟨h.1, .inl h.2.1⟩
      · exact ⟨h.1, .inr h.2⟩
    · rintro ⟨h, h' | h'⟩
      · by_cases hA : o.name ∈ A
        · exact .inl (.inl hA)
        · exact .inl (.inr ⟨h, h', hA⟩)
      · exact .inr ⟨h, h'⟩
  rw [Bool.eq_iff_iff, hm, hde]
  cases o.up
  · simp
  · simp
    omega
theorem plan_count (hS : risingH S) (routed : Bool) : (planP dc rem S n fs routed t k).length = (S.filter fun o => has (planP dc rem S n fs routed t k) o.name).length := by
  obtain ⟨A, B, C, h1, h0, -⟩ := plan_spec (dc := dc) (rem := rem) hS n fs routed t k
  have hnd : (planP dc rem S n fs routed t k).Nodup := by rw [h1]; exact h0
  have hn2 : ((S.filter fun o => has (planP dc rem S n fs routed t k) o.name).map (·.name)).Nodup := List.pairwise_map.2 ((rising_ne hS).sublist List.filter_sublist)
  have := nodup_len hnd hn2 fun x => by
    constructor
    · intro h
      obtain ⟨o, ho, e⟩ := plan_names hS h
      exact List.mem_map.2 ⟨o, List.mem_filter.2 ⟨ho, by rw [e]; exact has_iff.2 h⟩, e⟩
    · intro h
      obtain ⟨o, ho, e⟩ := List.mem_map.1 h
      have := (List.mem_filter.1 ho).2
      rw [e] at this
      exact has_iff.1 this
  rw [this, List.length_map]
theorem plan_order (hS : risingH S) {i : Nat} {a b : ByteArray} (ha : (planP dc rem S n fs true t k)[i]? = some a) (hb : (planP dc rem S n fs true t k)[i + 1]? = some b) :
    (distP dc rem S a = 2 → distP dc rem S b ≠ 1) ∧ (distP dc rem S b = 1 → has (replP S n fs t) b = true → has (replP S n fs t) a = true) := by
  obtain ⟨A, B, C, h1, -, h2, h3, h4⟩ := plan_spec (dc := dc) (rem := rem) hS n fs true t k
  rw [h1] at ha hb
  constructor
  · intro h e
    by_cases hi : i < (A ++ B).length
    · rw [List.getElem?_append_left hi] at ha
      rcases List.mem_append.1 (List.mem_of_getElem? ha) with h5 | h5
      · have := ((h2 a).1 h5).2.2; omega
      · have := ((h3 a).1 h5).2.1; omega
    · rw [List.getElem?_append_right (by omega)] at hb
      have := ((h4 b).1 (List.mem_of_getElem? hb)).2
      omega
  · intro h hr
    by_cases hi : i + 1 < A.length
    · have hm : a ∈ A := by
        rw [List.getElem?_append_left (by rw [List.length_append]; omega), List.getElem?_append_left (by omega)] at ha
        exact List.mem_of_getElem? ha
      exact has_iff.2 ((h2 a).1 hm).1.2
    · exfalso
      by_cases hj : i + 1 < (A ++ B).length
      · rw [List.getElem?_append_left hj, List.getElem?_append_right (by omega)] at hb
        have h5 := (h3 b).1 (List.mem_of_getElem? hb)
        exact h5.2.2 ((h2 b).2 ⟨⟨rfl, has_iff.1 hr⟩, h5.1, h5.2.1⟩)
      · rw [List.getElem?_append_right (by omega)] at hb
        have := ((h4 b).1 (List.mem_of_getElem? hb)).2
        omega
theorem plan_nil (routed : Bool) : planP dc rem [] n fs routed t k = [] := List.eq_nil_of_length_eq_zero (Nat.le_zero.1 (plan_len (S := []) .nil))
def cntP (P : List ByteArray) (S : List Ho) (i : Nat) : Nat := ((S.take i).filter fun o => has P o.name).length
theorem cnt_step {P : List ByteArray} {i : Nat} {o : Ho} (h : S[i]? = some o) : cntP P S (i + 1) = cntP P S i + if has P o.name = true then 1 else 0 := by
  unfold cntP
  rw [List.take_add_one, h, List.filter_append, List.length_append]
  cases e : has P o.name <;> simp [e]
theorem cnt_le (P : List ByteArray) (S : List Ho) (i : Nat) : cntP P S i ≤ i := by
  unfold cntP
  exact Nat.le_trans (List.length_filter_le _ _) (by rw [List.length_take]; omega)
end
end Go.Proofs.YtepikngkbondgaaGreat

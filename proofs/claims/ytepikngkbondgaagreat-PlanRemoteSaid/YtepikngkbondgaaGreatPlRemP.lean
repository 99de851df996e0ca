/- plan, plainly: hosts of two centers. No program is named. -/
import Derived.Test.YtepikngkbondgaaGreatPlTurnsP
namespace Go.Proofs.YtepikngkbondgaaGreat
set_option linter.unusedVariables false
open Go.RowKit

def aN (i : Nat) : ByteArray := ⟨#[97, 48 + i.toUInt8]⟩
def bN (i : Nat) : ByteArray := ⟨#[98, 48 + i.toUInt8]⟩
abbrev rmD : ByteArray := ⟨#[100]⟩
abbrev rmX : ByteArray := ⟨#[120]⟩
def rmA (i : Nat) : Ho := ⟨aN i, rmD, noStr, [10 * (i : Int)], true⟩
def rmB (i : Nat) : Ho := ⟨bN i, rmX, noStr, [10 * (i : Int) + 5], true⟩
/-- The hosts as the law names them; as the table has them. -/
def rmL (k : Nat) : List Ho := (List.range k).flatMap fun i => [rmA i, rmB i]
def rmS (k : Nat) : List Ho := (List.range k).map rmA ++ (List.range k).map rmB
theorem six {k : Nat} (h : k < 7) : k = 0 ∨ k = 1 ∨ k = 2 ∨ k = 3 ∨ k = 4 ∨ k = 5 ∨ k = 6 := by omega
theorem rm_ref {k : Nat} (h : k < 7) : refNow (viewS []) (rmL k) = rmS k := by
  rcases six h with rfl | rfl | rfl | rfl | rfl | rfl | rfl <;> kernel_rfl
theorem rm_step (k : Nat) : rmL (k + 1) = rmL k ++ [rmA k, rmB k] := by
  unfold rmL
  rw [List.range_succ, List.flatMap_append]; rfl
theorem rm_ahead {k j : Nat} (h : k < 7) (hj : j < k) : aheadN (rmS k) rmX (bN j) = j := by
  rcases six h with rfl | rfl | rfl | rfl | rfl | rfl | rfl <;> rcases six (show j < 7 by omega) with rfl | rfl | rfl | rfl | rfl | rfl | rfl <;> first | omega | decide +kernel
theorem rm_mem {k : Nat} {o : Ho} (h : o ∈ rmS k) : (∃ i, i < k ∧ o = rmA i) ∨ ∃ i, i < k ∧ o = rmB i := by
  rcases List.mem_append.1 h with h | h
  · obtain ⟨i, hi, rfl⟩ := List.mem_map.1 h
    exact .inl ⟨i, List.mem_range.1 hi, rfl⟩
  · obtain ⟨i, hi, rfl⟩ := List.mem_map.1 h
    exact .inr ⟨i, List.mem_range.1 hi, rfl⟩
theorem rm_a {k i : Nat} (h : i < k) : rmA i ∈ rmS k := List.mem_append.2 (.inl (List.mem_map.2 ⟨i, List.mem_range.2 h, rfl⟩))
theorem rm_b {k i : Nat} (h : i < k) : rmB i ∈ rmS k := List.mem_append.2 (.inr (List.mem_map.2 ⟨i, List.mem_range.2 h, rfl⟩))
/-- Which byte is first. -/
def isA (x : ByteArray) : Bool := decide (x.data[0]? = some 97)
theorem isA_a (i : Nat) : isA (aN i) = true := rfl
theorem isA_b (i : Nat) : isA (bN i) = false := rfl
section
variable {k : Nat} {m : Int}
theorem rm_dist_a (hS : risingH (rmS k)) {i : Nat} (h : i < k) : distP rmD m (rmS k) (aN i) = 1 := own_dist hS (rm_a h) rfl
theorem rm_dist_b (hS : risingH (rmS k)) (hk : k < 7) {j : Nat} (h : j < k) : distP rmD m (rmS k) (bN j) = if (j : Int) < m then 2 else 0 := by
  have hg : getS (bN j) (rmS k) = some (rmB j) := getS_of_mem (rising_ne hS) (rm_b h)
  unfold distP
  rw [hg]
  simp only []
  rw [show (rmB j).dc = rmX from rfl, if_neg (by decide), rm_ahead hk h]
theorem rm_up (hS : risingH (rmS k)) {x : ByteArray} (h : ∃ o ∈ rmS k, o.name = x) : upS (rmS k) x = true := by
  obtain ⟨o, ho, rfl⟩ := h
  rw [own_up hS ho]
  rcases rm_mem ho with ⟨i, -, rfl⟩ | ⟨i, -, rfl⟩ <;> rfl
theorem rm_isA (hS : risingH (rmS k)) (hk : k < 7) {x : ByteArray} (h : ∃ o ∈ rmS k, o.name = x) : isA x = decide (distP rmD m (rmS k) x = 1) := by
  obtain ⟨o, ho, rfl⟩ := h
  rcases rm_mem ho with ⟨i, hi, rfl⟩ | ⟨i, hi, rfl⟩
  · show isA (aN i) = decide (distP rmD m (rmS k) (aN i) = 1)
    rw [rm_dist_a hS hi]; rfl
  · show isA (bN i) = decide (distP rmD m (rmS k) (bN i) = 1)
    rw [rm_dist_b hS hk hi]
    split <;> rfl
theorem range_nodup {f : Nat → ByteArray} {N : Nat} (h : ∀ i j, i < N → j < N → f i = f j → i = j) : ((List.range N).map f).Nodup := by
  rw [List.nodup_iff_pairwise_ne, List.pairwise_map]
  exact List.Pairwise.imp_of_mem (fun {a b} ha hb hne e => hne (h a b (List.mem_range.1 ha) (List.mem_range.1 hb) e)) List.nodup_range
theorem aN_inj {i j : Nat} (hi : i < 6) (hj : j < 6) (h : aN i = aN j) : i = j := by
  rcases six (show i < 7 by omega) with rfl | rfl | rfl | rfl | rfl | rfl | rfl <;> rcases six (show j < 7 by omega) with rfl | rfl | rfl | rfl | rfl | rfl | rfl <;> first | rfl | omega | (exact absurd h (by decide))
theorem bN_inj {i j : Nat} (hi : i < 6) (hj : j < 6) (h : bN i = bN j) : i = j := by
  rcases six (show i < 7 by omega) with rfl | rfl | rfl | rfl | rfl | rfl | rfl <;> rcases six (show j < 7 by omega) with rfl | rfl | rfl | rfl | rfl | rfl | rfl <;> first | rfl | omega | (exact absurd h (by decide))
/-- What the law asks of the plan p, and of the token's own hosts r. -/
structure RmLaw (k far : Nat) (p r : List ByteArray) : Prop where
  len : p.length = k + far
  one : ∀ (i : Nat) (x : ByteArray), p[i]? = some x → isA x = decide (i < k) ∧ x.size = 2
  rone : ∀ (i : Nat) (x : ByteArray), r[i]? = some x → x.size = 2
  own : ∀ (i : Nat) (x : ByteArray), r[i]? = some x → isA x = true → p[((r.take i).filter isA).length]? = some x
theorem filter_at {P : ByteArray → Bool} : ∀ (r : List ByteArray) (i : Nat) (x : ByteArray), r[i]? = some x → P x = true → (r.filter P)[((r.take i).filter P).length]? = some x
  | [], _, _, h, _ => by simp at h
  | y :: r, 0, x, h, hp => by
    simp at h; subst h
    simp [hp]
  | y :: r, i + 1, x, h, hp => by
    have h' : r[i]? = some x := by simpa using h
    have ih := filter_at r i x h' hp
    rw [List.take_succ_cons, List.filter_cons, List.filter_cons]
    cases hy : P y
    · simpa using ih
    · simpa using ih
theorem rm_law (hS : risingH (rmS k)) (hk : k < 7) (n : Int) (tn : Nat) (far : Nat) (hf : (far : Int) = if (k : Int) < m then (k : Int) else m) (hm : 0 ≤ m) : RmLaw k far (planP rmD m (rmS k) n [] true 0 tn) (replP (rmS k) n [] 0) := by
  have hrw : ∀ x ∈ replP (rmS k) n [] 0, ∃ o ∈ rmS k, o.name = x := fun x hx => by
    rw [show replP (rmS k) n [] 0 = _ from if_pos rfl] at hx
    exact ringW_mem (List.mem_of_mem_take hx)
  have hrn : (replP (rmS k) n [] 0).Nodup := by
    rw [show replP (rmS k) n [] 0 = _ from if_pos rfl]
    exact (ringW_nodup _ _).sublist (List.take_sublist _ _)
  have hsz : ∀ x, (∃ o ∈ rmS k, o.name = x) → x.size = 2 := fun x ⟨o, ho, e⟩ => by
    rcases rm_mem ho with ⟨i, hi, rfl⟩ | ⟨i, hi, rfl⟩ <;> (subst e; rfl)
  have hpn : ∀ x ∈ planP rmD m (rmS k) n [] true 0 tn, ∃ o ∈ rmS k, o.name = x := fun x hx => plan_names hS hx
  obtain ⟨A, B, C, h1, h0, h2, h3, h4⟩ := plan_spec (dc := rmD) (rem := m) hS n [] true 0 tn
  have hA : putP rmD m (rmS k) 1 [] (replP (rmS k) n [] 0) = (replP (rmS k) n [] 0).filter isA := by
    unfold putP
    rw [put_filter]
    have e : (replP (rmS k) n [] 0).filter isA = (replP (rmS k) n [] 0).filter fun x => decide (distP rmD m (rmS k) x = 1) := List.filter_congr fun x hx => rm_isA hS hk (hrw x hx)
    rw [e]
    have e2 := put_all (dc := rmD) (rem := m) (S := rmS k) (d := 1) ((replP (rmS k) n [] 0).filter fun x => decide (distP rmD m (rmS k) x = 1)) [] (hrn.sublist List.filter_sublist) fun x hx => ⟨rm_up hS (hrw x (List.mem_filter.1 hx).1), of_decide_eq_true (List.mem_filter.1 hx).2, List.not_mem_nil⟩
    rw [put_filter] at e2
    rw [List.filter_filter] at e2
    simpa using e2
  obtain ⟨new1, e1, -, -⟩ := put_spec (dc := rmD) (rem := m) (S := rmS k) 1 (turnL (farL rmD m (rmS k) 1) tn) (putP rmD m (rmS k) 1 [] (replP (rmS k) n [] 0))
  obtain ⟨new2, e2, -, -⟩ := put_spec (dc := rmD) (rem := m) (S := rmS k) 2 (turnL (farL rmD m (rmS k) 2) tn) (putP rmD m (rmS k) 1 [] (replP (rmS k) n [] 0) ++ new1)
  have hP : planP rmD m (rmS k) n [] true 0 tn = (replP (rmS k) n [] 0).filter isA ++ (new1 ++ new2) := by
    have : planP rmD m (rmS k) n [] true 0 tn = putP rmD m (rmS k) 1 [] (replP (rmS k) n [] 0) ++ new1 ++ new2 := by
      unfold planP
      rw [if_pos rfl]
      rw [show putP rmD m (rmS k) 1 (putP rmD m (rmS k) 1 [] (replP (rmS k) n [] 0)) (turnL (farL rmD m (rmS k) 1) tn) = putP rmD m (rmS k) 1 [] (replP (rmS k) n [] 0) ++ new1 from e1]
      exact e2
    rw [this, hA, List.append_assoc]
  have hmAB : ∀ x, x ∈ A ++ B ↔ ∃ i, i < k ∧ x = aN i := fun x => by
    constructor
    · intro hx
      have hd : upS (rmS k) x = true ∧ distP rmD m (rmS k) x = 1 := by
        rcases List.mem_append.1 hx with hx | hx
        · exact ((h2 x).1 hx).2
        · exact ⟨((h3 x).1 hx).1, ((h3 x).1 hx).2.1⟩
      have hm' := hpn x (by rw [h1]; exact List.mem_append.2 (.inl hx))
      have hi := rm_isA (m := m) hS hk hm'
      rw [hd.2] at hi
      obtain ⟨o, ho, rfl⟩ := hm'
      rcases rm_mem ho with ⟨i, hi', rfl⟩ | ⟨i, hi', rfl⟩
      · exact ⟨i, hi', rfl⟩
      · cases hi
    · rintro ⟨i, hi, rfl⟩
      by_cases hA' : aN i ∈ A
      · exact List.mem_append.2 (.inl hA')
      · exact List.mem_append.2 (.inr ((h3 _).2 ⟨rm_up hS ⟨_, rm_a hi, rfl⟩, rm_dist_a hS hi, hA'⟩))
  have hfl : far ≤ k ∧ (far : Int) ≤ m := by split at hf <;> omega
  have hmC : ∀ x, x ∈ C ↔ ∃ i, i < far ∧ x = bN i := fun x => by
    constructor
    · intro hx
      have hd := (h4 x).1 hx
      obtain ⟨o, ho, rfl⟩ := hpn x (by rw [h1]; exact List.mem_append.2 (.inr hx))
      rcases rm_mem ho with ⟨i, hi', rfl⟩ | ⟨i, hi', rfl⟩
      · have := rm_dist_a (m := m) hS hi'
        have h5 : distP rmD m (rmS k) (aN i) = 2 := hd.2
        omega
      · have h6 := rm_dist_b (m := m) hS hk hi'
        have h5 : distP rmD m (rmS k) (bN i) = 2 := hd.2
        rw [h6] at h5
        refine ⟨i, ?_, rfl⟩
        split at h5
        · split at hf <;> omega
        · omega
    · rintro ⟨i, hi, rfl⟩
      refine (h4 _).2 ⟨rm_up hS ⟨_, rm_b (show i < k by omega), rfl⟩, ?_⟩
      rw [rm_dist_b hS hk (by omega), if_pos (by omega)]
  have hnAB : (A ++ B).Nodup := (List.nodup_append.1 h0).1
  have hnC : C.Nodup := (List.nodup_append.1 h0).2.1
  have hlAB : (A ++ B).length = k := by
    have := nodup_len hnAB (range_nodup (f := aN) (N := k) fun i j hi hj e => aN_inj (by omega) (by omega) e) fun x => by
      rw [hmAB, List.mem_map]
      exact ⟨fun ⟨i, hi, e⟩ => ⟨i, List.mem_range.2 hi, e.symm⟩, fun ⟨i, hi, e⟩ => ⟨i, List.mem_range.1 hi, e.symm⟩⟩
    simpa using this
  have hlC : C.length = far := by
    have := nodup_len hnC (range_nodup (f := bN) (N := far) fun i j hi hj e => bN_inj (by omega) (by omega) e) fun x => by
      rw [hmC, List.mem_map]
      exact ⟨fun ⟨i, hi, e⟩ => ⟨i, List.mem_range.2 hi, e.symm⟩, fun ⟨i, hi, e⟩ => ⟨i, List.mem_range.1 hi, e.symm⟩⟩
    simpa using this
  refine ⟨by rw [h1, List.length_append, hlAB, hlC], fun i x hx => ⟨?_, hsz x (hpn x (List.mem_of_getElem? hx))⟩, fun i x hx => hsz x (hrw x (List.mem_of_getElem? hx)), fun i x hx ha => ?_⟩
  · rw [h1] at hx
    by_cases hi : i < k
    · rw [List.getElem?_append_left (by omega)] at hx
      obtain ⟨j, -, rfl⟩ := (hmAB x).1 (List.mem_of_getElem? hx)
      rw [isA_a, decide_eq_true hi]
    · rw [List.getElem?_append_right (by omega)] at hx
      obtain ⟨j, -, rfl⟩ := (hmC x).1 (List.mem_of_getElem? hx)
      rw [isA_b, decide_eq_false hi]
  · have h5 := filter_at (P := isA) _ i x hx ha
    rw [hP, List.getElem?_append_left (List.getElem?_eq_some_iff.1 h5).1]
    exact h5
end
end Go.Proofs.YtepikngkbondgaaGreat

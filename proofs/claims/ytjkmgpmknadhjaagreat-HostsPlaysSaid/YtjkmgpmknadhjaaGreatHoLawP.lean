/- hosts, plainly: what the laws say of hosts by rising names. No program is named. -/
import Derived.Test.YtjkmgpmknadhjaaGreatHoPure2
namespace Go.Proofs.YtjkmgpmknadhjaaGreat
set_option linter.unusedVariables false
open Go.RowKit

/-- How many of the first k are of the center d. -/
def sameN (S : List Ho) (d : ByteArray) (k : Nat) : Nat := ((S.take k).filter fun o => decide (o.dc = d)).length
theorem sameN_zero (S : List Ho) (d : ByteArray) : sameN S d 0 = 0 := rfl
theorem sameN_succ {S : List Ho} {k : Nat} {h : Ho} (hk : S[k]? = some h) (d : ByteArray) : sameN S d (k + 1) = sameN S d k + if h.dc = d then 1 else 0 := by
  unfold sameN
  rw [List.take_add_one, hk, List.filter_append, List.length_append]
  by_cases e : h.dc = d <;> simp [e]
theorem sameN_le (S : List Ho) (d : ByteArray) (k : Nat) : sameN S d k ≤ k := by
  unfold sameN
  exact Nat.le_trans (List.length_filter_le _ _) (by rw [List.length_take]; omega)
theorem getS_at {S : List Ho} (hS : risingH S) {k : Nat} {h : Ho} (hk : S[k]? = some h) : getS h.name S = some h := getS_of_mem (rising_ne hS) (List.mem_of_getElem? hk)
theorem dist_at {S : List Ho} (hS : risingH S) {k : Nat} {h : Ho} (hk : S[k]? = some h) (dc : ByteArray) (rem : Int) : distP dc rem S h.name = if h.dc = dc then 1 else if (sameN S h.dc k : Int) < rem then 2 else 0 := by
  unfold distP
  rw [getS_at hS hk]
  simp only []
  rw [ahead_take hS hk]; rfl
/-- How many hosts of the center d among the first k count as remote. -/
def farN (rem : Int) (n : Nat) : Nat := min n rem.toNat
theorem farN_succ {rem : Int} {n : Nat} : farN rem (n + 1) = farN rem n + if (n : Int) < rem then 1 else 0 := by
  unfold farN
  split <;> omega
/-! The pairs of a token and its host. -/
theorem toks_mem {S : List Ho} {p : Pl} : p ∈ pairsH S ↔ ∃ h ∈ S, p.1 ∈ h.toks ∧ p.2 = h.name := by
  unfold pairsH
  rw [List.mem_flatMap]
  constructor
  · rintro ⟨h, hh, hp⟩
    obtain ⟨k, hk, rfl⟩ := List.mem_map.1 hp
    exact ⟨h, hh, hk, rfl⟩
  · rintro ⟨h, hh, h1, h2⟩
    exact ⟨h, hh, List.mem_map.2 ⟨p.1, h1, by rw [← h2]⟩⟩
theorem places_mem {S : List Ho} {p : Pl} (h : p ∈ placesP S) : p ∈ pairsH S ∧ getP p.1 (pairsH S) = some p := by
  have h2 := places_spec S
  have := getP_of_mem h2.1 h
  rw [h2.2] at this
  exact ⟨(getP_mem this).1, this⟩
theorem places_has {S : List Ho} {p : Pl} (h : p ∈ pairsH S) : ∃ q ∈ placesP S, q.1 = p.1 := by
  have h2 := places_spec S
  cases hg : getP p.1 (placesP S) with
  | none =>
    rw [h2.2] at hg
    exact absurd rfl (getP_none.1 hg p h)
  | some q => exact ⟨q, (getP_mem hg).1, (getP_mem hg).2⟩
theorem pairs_nodup {S : List Ho} (hS : risingH S) (ht : ∀ h ∈ S, h.toks.Pairwise (· < ·)) : (pairsH S).Nodup := by
  unfold pairsH
  induction S with
  | nil => exact List.nodup_nil
  | cons a S ih =>
    obtain ⟨h1, h2⟩ := List.pairwise_cons.1 hS
    rw [List.flatMap_cons, List.nodup_append]
    refine ⟨?_, ih h2 fun h hh => ht h (List.mem_cons_of_mem _ hh), fun p hp q hq e => ?_⟩
    · exact List.pairwise_map.2 ((ht a (List.mem_cons_self ..)).imp fun {x y} hlt e => by
        have : x = y := congrArg Prod.fst e
        omega)
    · subst e
      obtain ⟨k, _, rfl⟩ := List.mem_map.1 hp
      obtain ⟨o, ho, hq2⟩ := List.mem_flatMap.1 hq
      obtain ⟨k2, _, e2⟩ := List.mem_map.1 hq2
      have : o.name = a.name := congrArg Prod.snd e2
      have h3 := h1 o ho
      rw [this] at h3
      exact nlt_irrefl _ h3
/-- The first host that has a token, as a search from the last one down finds it: among those from k on. -/
def firstT (S : List Ho) (t : Int) : ByteArray := match getP t (pairsH S) with
  | some p => p.2
  | none => noStr
theorem firstT_nil (t : Int) : firstT [] t = noStr := rfl
theorem firstT_cons (a : Ho) (S : List Ho) (t : Int) : firstT (a :: S) t = if t ∈ a.toks then a.name else firstT S t := by
  unfold firstT getP pairsH
  rw [List.flatMap_cons, List.find?_append]
  by_cases h : t ∈ a.toks
  · rw [if_pos h]
    have : (a.toks.map fun k => (k, a.name)).find? (fun p : Pl => decide (p.1 = t)) = some (t, a.name) := by
      revert h
      generalize a.toks = ts
      intro h
      induction ts with
      | nil => cases h
      | cons y l ih =>
        rw [List.map_cons, List.find?_cons]
        by_cases e : y = t
        · subst e; simp
        · rw [decide_eq_false (show ¬ (y, a.name).1 = t from e)]
          exact ih ((List.mem_cons.1 h).resolve_left fun e2 => e e2.symm)
    rw [this]; rfl
  · rw [if_neg h]
    have : (a.toks.map fun k => (k, a.name)).find? (fun p : Pl => decide (p.1 = t)) = none := by
      refine List.find?_eq_none.2 fun p hp => ?_
      obtain ⟨k, hk, rfl⟩ := List.mem_map.1 hp
      have : ¬ k = t := fun e => h (e ▸ hk)
      simpa using this
    rw [this]; rfl
theorem place_first {S : List Ho} {p : Pl} (h : p ∈ placesP S) : firstT S p.1 = p.2 := by
  unfold firstT
  rw [(places_mem h).2]
/-- Who owns a token has no greater name than who has it. -/
theorem first_le {S : List Ho} (hS : risingH S) {h : Ho} (hh : h ∈ S) {t : Int} (ht : t ∈ h.toks) : ¬ nlt h.name (firstT S t) := by
  induction S with
  | nil => cases hh
  | cons a S ih =>
    obtain ⟨h1, h2⟩ := List.pairwise_cons.1 hS
    rw [firstT_cons]
    by_cases e : t ∈ a.toks
    · rw [if_pos e]
      rcases List.mem_cons.1 hh with rfl | hh
      · exact nlt_irrefl _
      · exact nlt_asymm (h1 h hh)
    · rw [if_neg e]
      rcases List.mem_cons.1 hh with rfl | hh
      · exact absurd ht e
      · exact ih h2 hh
/-- How many of some pairs stand among others. -/
def hitsN (P l : List Pl) : Nat := (l.map fun q => (P.filter fun p => decide (p = q)).length).sum
def inP (P : List Pl) (q : Pl) : Bool := P.any fun p => decide (p = q)
theorem inP_iff {P : List Pl} {q : Pl} : inP P q = true ↔ q ∈ P := by
  unfold inP
  rw [List.any_eq_true]
  exact ⟨fun ⟨x, h1, h2⟩ => by have := of_decide_eq_true h2; exact this ▸ h1, fun h => ⟨q, h, decide_eq_true rfl⟩⟩
theorem count_one {P : List Pl} (hP : P.Nodup) (q : Pl) : (P.filter fun p => decide (p = q)).length = if inP P q = true then 1 else 0 := by
  induction P with
  | nil => rfl
  | cons a P ih =>
    obtain ⟨h1, h2⟩ := List.nodup_cons.1 hP
    rw [List.filter_cons]
    have hc : inP (a :: P) q = (decide (a = q) || inP P q) := by unfold inP; rw [List.any_cons]
    rw [hc]
    by_cases e : a = q
    · subst e
      have h3 : ¬ inP P a = true := fun h => h1 (inP_iff.1 h)
      rw [decide_eq_true rfl]
      simp only [if_true, List.length_cons, ih h2, if_neg h3, Bool.true_or]
    · rw [decide_eq_false e]
      simp only [Bool.false_eq_true, if_false, ih h2, Bool.false_or]
theorem hits_all {P l : List Pl} (hP : P.Nodup) (hl : l.Nodup) (hs : ∀ p ∈ P, p ∈ l) : hitsN P l = P.length := by
  have h1 : hitsN P l = (l.filter fun q => inP P q).length := by
    unfold hitsN
    clear hl hs
    induction l with
    | nil => rfl
    | cons a l ih =>
      rw [List.map_cons, List.sum_cons, ih, count_one hP, List.filter_cons]
      by_cases e : inP P a = true
      · rw [if_pos e, if_pos e, List.length_cons]; omega
      · rw [if_neg e, if_neg e]; omega
  rw [h1]
  have h2 : (l.filter fun q => inP P q).Perm P := (List.perm_ext_iff_of_nodup (hl.filter _) hP).2 fun a => by
    rw [List.mem_filter, inP_iff]
    exact ⟨fun h => h.2, fun h => ⟨hs a h, h⟩⟩
  exact h2.length_eq
theorem hits_snoc (P l : List Pl) (q : Pl) : hitsN P (l ++ [q]) = hitsN P l + (P.filter fun p => decide (p = q)).length := by
  unfold hitsN
  rw [List.map_append, List.sum_append]; simp
end Go.Proofs.YtjkmgpmknadhjaaGreat

/- plan, plainly: by turns each host comes first once. No program is named. -/
import Derived.Test.YtepikngkbondgaaGreatPlAllP
import Derived.Test.YtepikngkbondgaaGreatMg05
import Derived.OpenShut
namespace Go.Proofs.YtepikngkbondgaaGreat
set_option linter.unusedVariables false
open Go.RowKit
section
variable {dc : ByteArray} {rem : Int} {S : List Ho} {n : Int} {fs : List Fa} {t : Int} {k : Nat} {d : Int}
theorem put_all : ∀ (l out : List ByteArray), l.Nodup → (∀ x ∈ l, upS S x = true ∧ distP dc rem S x = d ∧ x ∉ out) → l.foldl (putN dc rem S d) out = out ++ l
  | [], out, _, _ => by simp
  | x :: l, out, hn, h => by
    rw [List.foldl_cons]
    obtain ⟨h1, h2, h3⟩ := h x (.head _)
    have e : putN dc rem S d out x = out ++ [x] := by
      unfold putN
      rw [if_pos ⟨h1, by rw [Bool.eq_false_iff]; exact fun h => h3 (has_iff.1 h), h2⟩]
    obtain ⟨hx, hn'⟩ := List.nodup_cons.1 hn
    rw [e, put_all l _ hn' fun y hy => by
      obtain ⟨a, b, c⟩ := h y (.tail _ hy)
      exact ⟨a, b, fun hm => by
        rcases List.mem_append.1 hm with hm | hm
        · exact c hm
        · have : y = x := by simpa using hm
          subst this; exact hx hy⟩]
    simp
theorem own_dist (hS : risingH S) {o : Ho} (ho : o ∈ S) (hd : o.dc = dc) : distP dc rem S o.name = 1 := by
  unfold distP
  rw [getS_of_mem (rising_ne hS) ho]
  simp [hd]
theorem own_up (hS : risingH S) {o : Ho} (ho : o ∈ S) : upS S o.name = o.up := by unfold upS; rw [getS_of_mem (rising_ne hS) ho]
theorem plan_turns (hS : risingH S) (hd : ∀ o ∈ S, o.dc = dc) (hu : ∀ o ∈ S, o.up = true) : planP dc rem S n fs false t k = turnL (S.map (·.name)) k := by
  have e1 : farL dc rem S 1 = S.map (·.name) := by
    unfold farL
    rw [List.filter_eq_self.2 fun o ho => decide_eq_true (own_dist hS ho (hd o ho))]
  have e2 : farL dc rem S 2 = [] := by
    unfold farL
    rw [List.filter_eq_nil_iff.2 fun o ho h => by
      have h1 := own_dist (rem := rem) hS ho (hd o ho)
      have := of_decide_eq_true h
      omega]
    rfl
  unfold planP
  rw [e1, e2]
  have hn : (S.map (·.name)).Nodup := List.pairwise_map.2 (rising_ne hS)
  have h1 : putP dc rem S 1 [] (turnL (S.map (·.name)) k) = turnL (S.map (·.name)) k := by
    unfold putP
    rw [put_all _ _ ((turnL_perm _ _).nodup_iff.2 hn) fun x hx => by
      obtain ⟨o, ho, rfl⟩ := List.mem_map.1 ((turnL_perm _ _).mem_iff.1 hx)
      exact ⟨(own_up hS ho).trans (hu o ho), own_dist hS ho (hd o ho), List.not_mem_nil⟩]
    rfl
  show putP dc rem S 2 (putP dc rem S 1 [] (turnL (S.map (·.name)) k)) (turnL [] k) = _
  rw [h1]
  simp [turnL, putP]
end
theorem nat_u8 {a : Int} (h : (Lit.int .u8 a).wf = true) : ∃ tn : Nat, a = (tn : Int) ∧ tn < 256 := ⟨a.toNat, by have := (bounds_u8 h).1; omega, by have := (bounds_u8 h).1; have := (bounds_u8 h).2; omega⟩
/-! The law's hosts. -/
def nmI (i : Nat) : ByteArray := ⟨#[97 + i.toUInt8]⟩
def tuH (k : Nat) : List Ho := (List.range k).map fun i => ⟨nmI i, ⟨#[100]⟩, noStr, [], true⟩
theorem nine {k : Nat} (h : k < 10) : k = 0 ∨ k = 1 ∨ k = 2 ∨ k = 3 ∨ k = 4 ∨ k = 5 ∨ k = 6 ∨ k = 7 ∨ k = 8 ∨ k = 9 := by omega
theorem tuH_ref {k : Nat} (h : k < 10) : refNow (viewS []) (tuH k) = tuH k := by
  rcases nine h with rfl | rfl | rfl | rfl | rfl | rfl | rfl | rfl | rfl | rfl <;> rfl
theorem tuH_names (k : Nat) : (tuH k).map (·.name) = (List.range k).map nmI := by unfold tuH; rw [List.map_map]; rfl
theorem tuH_len (k : Nat) : (tuH k).length = k := by unfold tuH; simp
theorem nmI_inj {i j : Nat} (hi : i < 9) (hj : j < 9) (h : nmI i = nmI j) : i = j := by
  rcases nine (show i < 10 by omega) with rfl | rfl | rfl | rfl | rfl | rfl | rfl | rfl | rfl | rfl <;>
  rcases nine (show j < 10 by omega) with rfl | rfl | rfl | rfl | rfl | rfl | rfl | rfl | rfl | rfl <;>
  first | rfl | omega | (exact absurd h (by decide))
theorem turns_first {k i m : Nat} (hk : 0 < k) (hi : i < k) (hm : m % k = 0) : (turnL ((List.range k).map nmI) (m + i))[0]? = some (nmI i) := by
  have hl : ((List.range k).map nmI).length = k := by simp
  rw [turnL_get (by rw [hl]; exact hk), hl]
  have : ((m + i) % k + 0) % k = i := by
    rw [Nat.add_zero, Nat.mod_mod, Nat.add_mod, hm, Nat.zero_add, Nat.mod_mod, Nat.mod_eq_of_lt hi]
  rw [this, List.getElem?_map, List.getElem?_range hi]
  rfl
theorem names_take {k i : Nat} (hi : i ≤ k) : ((List.range k).map nmI).take i = (List.range i).map nmI := by
  rw [← List.map_take, List.take_range, Nat.min_eq_left hi]
theorem not_first {k i : Nat} (hk : k < 10) (hi : i < k) : has ((List.range i).map nmI) (nmI i) = false := by
  rw [Bool.eq_false_iff]
  intro h
  obtain ⟨j, hj, e⟩ := List.mem_map.1 (has_iff.1 h)
  have hj' := List.mem_range.1 hj
  have := nmI_inj (by omega) (by omega) e
  omega
end Go.Proofs.YtepikngkbondgaaGreat

/- Numbers as digits: what the reference reads of them. -/
import Derived.Test.YthjpoiemconeeaaDoorRgReadsPure
namespace Go.Proofs.YthjpoiemconeeaaDoor
set_option linter.unusedVariables false

/-- Is it a digit? -/
def isDig (c : UInt8) : Prop := 48 ≤ c.toNat ∧ c.toNat ≤ 57
instance (c : UInt8) : Decidable (isDig c) := inferInstanceAs (Decidable (_ ∧ _))
/-- What a row of digits says, behind acc. -/
def val (acc : Nat) : List UInt8 → Nat
  | [] => acc
  | c :: r => val (acc * 10 + (c.toNat - 48)) r
theorem val_le (l : List UInt8) (acc : Nat) : acc ≤ val acc l := by
  induction l generalizing acc with
  | nil => exact Nat.le_refl _
  | cons c r ih => exact Nat.le_trans (by omega) (ih _)
theorem val_append (l r : List UInt8) (acc : Nat) : val acc (l ++ r) = val (val acc l) r := by
  induction l generalizing acc with
  | nil => rfl
  | cons c t ih => exact ih _
theorem rgo_val (l : List UInt8) (acc : Nat) (hd : ∀ c ∈ l, isDig c) (hv : val acc l ≤ 9223372036854775808) : rgo (-(acc : Int)) l = some (-(val acc l : Int)) := by
  induction l generalizing acc with
  | nil => rfl
  | cons c r ih =>
    have h1 := val_le r (acc * 10 + (c.toNat - 48))
    have h2 : val (acc * 10 + (c.toNat - 48)) r ≤ 9223372036854775808 := hv
    have h3 : 48 ≤ c.toNat ∧ c.toNat ≤ 57 := hd c (List.mem_cons_self ..)
    unfold rgo val
    rw [if_neg (by omega), if_neg (by omega), ← ih _ (fun d h => hd d (List.mem_cons_of_mem _ h)) h2]
    congr 1; omega
theorem rgo_bad (l : List UInt8) (n : Int) {c : UInt8} (hc : c ∈ l) (hb : ¬ isDig c) : rgo n l = none := by
  induction l generalizing n with
  | nil => cases hc
  | cons d r ih =>
    unfold rgo
    by_cases hd : d.toNat < 48 ∨ 57 < d.toNat
    · rw [if_pos hd]
    · rw [if_neg hd]
      split
      · rfl
      · refine ih _ ?_
        rcases List.mem_cons.1 hc with rfl | h
        · exact absurd (show 48 ≤ c.toNat ∧ c.toNat ≤ 57 by omega) hb
        · exact h
/-- The digits of a number. -/
def digs (m : Nat) : List UInt8 := if h : m < 10 then [UInt8.ofNat (48 + m)] else digs (m / 10) ++ [UInt8.ofNat (48 + m % 10)]
theorem dig_toNat {d : Nat} (h : d < 10) : (UInt8.ofNat (48 + d)).toNat = 48 + d := by
  simp [UInt8.toNat_ofNat']; omega
theorem digs_isDig (m : Nat) : ∀ c ∈ digs m, isDig c := by
  induction m using Nat.strongRecOn with
  | ind m ih =>
    intro c hc
    unfold digs at hc
    split at hc
    · rename_i h
      obtain rfl := List.mem_singleton.1 hc
      unfold isDig; rw [dig_toNat h]; omega
    · rcases List.mem_append.1 hc with h | h
      · exact ih _ (by omega) c h
      · obtain rfl := List.mem_singleton.1 h
        unfold isDig; rw [dig_toNat (Nat.mod_lt _ (by decide))]; omega
theorem digs_small {m : Nat} (h : m < 10) : digs m = [UInt8.ofNat (48 + m)] := by unfold digs; exact dif_pos h
theorem digs_great {m : Nat} (h : ¬ m < 10) : digs m = digs (m / 10) ++ [UInt8.ofNat (48 + m % 10)] := by
  conv => lhs; unfold digs
  exact dif_neg h
theorem val_one (a d : Nat) (h : d < 10) : val a [UInt8.ofNat (48 + d)] = a * 10 + d := by
  show a * 10 + ((UInt8.ofNat (48 + d)).toNat - 48) = _
  rw [dig_toNat h]; omega
theorem digs_val (m : Nat) : val 0 (digs m) = m := by
  induction m using Nat.strongRecOn with
  | ind m ih =>
    by_cases h : m < 10
    · rw [digs_small h, val_one _ _ h]; omega
    · rw [digs_great h, val_append, ih _ (by omega), val_one _ _ (Nat.mod_lt _ (by decide))]; omega
theorem digs_ne (m : Nat) : digs m ≠ [] := by
  unfold digs; split <;> simp
theorem digs_len (m k : Nat) (h : m < 10 ^ (k + 1)) : (digs m).length ≤ k + 1 := by
  induction k generalizing m with
  | zero => unfold digs; rw [dif_pos (by simpa using h)]; exact Nat.le_refl _
  | succ k ih =>
    unfold digs
    split
    · simp
    · rw [List.length_append]
      have := ih (m / 10) (by rw [Nat.div_lt_iff_lt_mul (by decide)]; rw [← Nat.pow_succ]; exact h)
      exact Nat.succ_le_succ this
/-- How a number is written. -/
def spell (n : Int) : List UInt8 := if n < 0 then 45 :: digs n.natAbs else digs n.natAbs
theorem head_dig {l : List UInt8} (hd : ∀ c ∈ l, isDig c) : l.head? = some 45 → False := by
  intro h
  have := hd 45 (List.mem_of_mem_head? h)
  exact absurd this (by decide)
theorem refRead_pos {l : List UInt8} (hne : l ≠ []) (hd : ∀ c ∈ l, isDig c) (hv : val 0 l < 9223372036854775808) : refRead l = (((val 0 l : Nat) : Int), 0) := by
  have hn : ¬ (l.head? = some 45) := head_dig hd
  have hr : rgo 0 l = some (-(val 0 l : Int)) := rgo_val l 0 hd (by omega)
  unfold refRead
  simp only [hn, if_false]
  rw [if_neg hne, hr]
  simp only []
  rw [if_neg (by omega), Int.neg_neg]
theorem refRead_neg {l : List UInt8} (hne : l ≠ []) (hd : ∀ c ∈ l, isDig c) (hv : val 0 l ≤ 9223372036854775808) : refRead (45 :: l) = (-(val 0 l : Int), 0) := by
  have hr : rgo 0 l = some (-(val 0 l : Int)) := rgo_val l 0 hd hv
  unfold refRead
  simp only [List.head?_cons, if_true, List.drop_succ_cons, List.drop_zero]
  rw [if_neg hne, hr]
theorem refRead_bad {l : List UInt8} {c : UInt8} (hc : c ∈ l) (hb : ¬ isDig c) (h45 : l.head? = some 45 → c ∈ l.drop 1) : refRead l = (0, 11) := by
  unfold refRead
  by_cases hn : l.head? = some 45
  · simp only [hn, if_true]
    have := h45 hn
    rw [if_neg (List.ne_nil_of_mem this), rgo_bad _ _ this hb]
  · simp only [hn, if_false]
    rw [if_neg (List.ne_nil_of_mem hc), rgo_bad _ _ hc hb]
theorem val_zeros (k : Nat) (l : List UInt8) : val 0 (List.replicate k 48 ++ l) = val 0 l := by
  induction k with
  | zero => rfl
  | succ k ih => rw [List.replicate_succ, List.cons_append]; exact ih
/-- With noughts ahead. -/
def wrz (n : Int) (k : Nat) : List UInt8 := if n < 0 then 45 :: (List.replicate k 48 ++ digs n.natAbs) else List.replicate k 48 ++ digs n.natAbs
theorem wrz_zero (n : Int) : wrz n 0 = spell n := by unfold wrz spell; rfl
theorem zeros_dig (k m : Nat) : ∀ c ∈ List.replicate k (48 : UInt8) ++ digs m, isDig c := by
  intro c hc
  rcases List.mem_append.1 hc with h | h
  · rw [(List.mem_replicate.1 h).2]; decide
  · exact digs_isDig m c h
/-- LAW: a number that is written, noughts ahead or not, is read. -/
theorem read_wrz {n : Int} (h1 : -9223372036854775808 ≤ n) (h2 : n < 9223372036854775808) (k : Nat) : refRead (wrz n k) = (n, 0) := by
  have hne : List.replicate k (48 : UInt8) ++ digs n.natAbs ≠ [] := by simp [digs_ne]
  unfold wrz
  split
  · rw [refRead_neg hne (zeros_dig _ _) (by rw [val_zeros, digs_val]; omega), val_zeros, digs_val]
    congr 1; omega
  · rw [refRead_pos hne (zeros_dig _ _) (by rw [val_zeros, digs_val]; omega), val_zeros, digs_val]
    congr 1; omega
/-- LAW: with another byte put in it is refused. -/
theorem read_put (n : Int) (k : Nat) (c : UInt8) (hk : k ≤ (spell n).length) (hc : ¬ isDig c) (hm : ¬ (c = 45 ∧ k = 0 ∧ 0 ≤ n)) : refRead ((spell n).take k ++ [c] ++ (spell n).drop k) = (0, 11) := by
  cases k with
  | zero =>
    rw [List.take_zero, List.nil_append, List.drop_zero]
    by_cases h45 : c = 45
    · subst h45
      have hn : n < 0 := by
        rcases Int.lt_or_le n 0 with h | h
        · exact h
        · exact absurd ⟨rfl, rfl, h⟩ hm
      refine refRead_bad (c := 45) (List.mem_append_left _ (List.mem_singleton.2 rfl)) (by decide) (fun _ => ?_)
      unfold spell; rw [if_pos hn]
      exact List.mem_cons_self ..
    · exact refRead_bad (c := c) (List.mem_append_left _ (List.mem_singleton.2 rfl)) hc (fun h => absurd (Option.some.inj h) h45)
  | succ k =>
    refine refRead_bad (c := c) (List.mem_append_left _ (List.mem_append_right _ (List.mem_singleton.2 rfl))) hc (fun _ => ?_)
    cases hw : spell n with
    | nil => rw [hw] at hk; simp at hk
    | cons d r =>
      rw [List.take_succ_cons, List.drop_succ_cons, List.cons_append, List.cons_append, List.drop_succ_cons, List.drop_zero]
      exact List.mem_append_left _ (List.mem_append_right _ (List.mem_singleton.2 rfl))
/-- Digits one by one, from the last one on: what stands ahead. -/
theorem digs_step {m : Nat} (r : List UInt8) (h : ¬ m < 10) : digs m ++ r = digs (m / 10) ++ ([UInt8.ofNat (48 + m % 10)] ++ r) := by
  rw [digs_great h, List.append_assoc]
theorem digs_last {m : Nat} (r : List UInt8) (h : m < 10) : digs m ++ r = [UInt8.ofNat (48 + m % 10)] ++ r := by
  rw [digs_small h, Nat.mod_eq_of_lt h]
end Go.Proofs.YthjpoiemconeeaaDoor

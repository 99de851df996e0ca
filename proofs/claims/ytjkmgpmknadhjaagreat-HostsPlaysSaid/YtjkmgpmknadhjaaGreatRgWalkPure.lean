/- Where a token stands in a ring; the walk from there. No program is named. -/
import Derived.Test.YtjkmgpmknadhjaaGreatRgMake
namespace Go.Proofs.YtjkmgpmknadhjaaGreat
set_option linter.unusedVariables false
open Go.RowKit

def below (S : List Pl) (t : Int) : Nat := S.countP fun p => decide (p.1 < t)
def rat (S : List Pl) (t : Int) : Nat := if below S t < S.length then below S t else 0
def has (l : List ByteArray) (h : ByteArray) : Bool := l.any fun x => decide (x = h)
theorem has_iff {l : List ByteArray} {h : ByteArray} : has l h = true ↔ h ∈ l := by
  unfold has
  rw [List.any_eq_true]
  constructor
  · rintro ⟨x, hx, e⟩
    rw [decide_eq_true_eq] at e
    subst e; exact hx
  · intro hx
    exact ⟨h, hx, by simp⟩
theorem has_append (a b : List ByteArray) (h : ByteArray) : has (a ++ b) h = (has a h || has b h) := by unfold has; rw [List.any_append]
/-- A row's hosts, each one once, as they come. -/
def uniq (out : List ByteArray) : List ByteArray → List ByteArray
  | [] => out
  | h :: t => if has out h then uniq out t else uniq (out ++ [h]) t
def turned (S : List Pl) (t : Int) : List Pl := S.drop (rat S t) ++ S.take (rat S t)
def rwalk (S : List Pl) (t : Int) : List ByteArray := uniq [] ((turned S t).map (·.2))
theorem uniq_append : ∀ (a b out : List ByteArray), uniq out (a ++ b) = uniq (uniq out a) b
  | [], b, out => rfl
  | h :: t, b, out => by
    rw [List.cons_append, uniq, uniq]
    split <;> exact uniq_append t b _
theorem below_le (S : List Pl) (t : Int) : below S t ≤ S.length := List.countP_le_length
theorem below_spec {S : List Pl} (h : rising S) (t : Int) : ∀ (i : Nat) p, S[i]? = some p → (p.1 < t ↔ i < below S t) := by
  induction S with
  | nil => intro i p hp; simp at hp
  | cons a l ih =>
    intro i p hp
    have hr : rising l := h.of_cons
    have ha : ∀ x ∈ l, a.1 < x.1 := fun x hx => List.rel_of_pairwise_cons h hx
    unfold below at *
    rw [List.countP_cons]
    cases i with
    | zero =>
      simp only [List.getElem?_cons_zero, Option.some.injEq] at hp
      subst hp
      by_cases e : a.1 < t
      · simp [e]
      · have hz : l.countP (fun p => decide (p.1 < t)) = 0 := by
          rw [List.countP_eq_zero]
          intro x hx
          have := ha x hx
          simp only [decide_eq_true_eq]; omega
        simp [e, hz]
    | succ i =>
      rw [List.getElem?_cons_succ] at hp
      have h1 := ih hr i p hp
      have h2 := ha p (List.mem_of_getElem? hp)
      by_cases e : a.1 < t
      · simp only [e, decide_true, if_true]
        omega
      · have hz : l.countP (fun p => decide (p.1 < t)) = 0 := by
          rw [List.countP_eq_zero]
          intro x hx
          have := ha x hx
          simp only [decide_eq_true_eq]; omega
        simp only [hz, e, decide_false]
        constructor
        · intro; omega
        · intro hx; simp at hx
theorem turned_length (S : List Pl) (t : Int) : (turned S t).length = S.length := by
  have : rat S t ≤ S.length := by unfold rat; have := below_le S t; split <;> omega
  simp [turned]; omega
theorem turned_get {S : List Pl} {t : Int} {i : Nat} (hi : i < S.length) : (turned S t)[i]? = S[(rat S t + i) % S.length]? := by
  have hr : rat S t ≤ S.length := by unfold rat; have := below_le S t; split <;> omega
  unfold turned
  generalize rat S t = k at *
  by_cases h : i < S.length - k
  · rw [List.getElem?_append_left (by rw [List.length_drop]; exact h), List.getElem?_drop, Nat.mod_eq_of_lt (by omega)]
  · rw [List.getElem?_append_right (by rw [List.length_drop]; omega), List.length_drop, List.getElem?_take_of_lt (by omega)]
    congr 1
    rw [show k + i = (k + i - S.length) + S.length by omega, Nat.add_mod_right, Nat.mod_eq_of_lt (by omega)]
    omega
end Go.Proofs.YtjkmgpmknadhjaaGreat

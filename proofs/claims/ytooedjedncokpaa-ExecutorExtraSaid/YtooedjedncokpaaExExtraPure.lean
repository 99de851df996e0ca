/- What a request is while extra tries are made, one wait after the other. No program is named. -/
import Derived.Test.YtooedjedncokpaaExPure
namespace Go.Proofs.Ytooedjedncokpaa
set_option linter.unusedVariables false
def exWant (idem : Bool) (m k i : Nat) : Nat := if idem = true then 1 + min i (min m (k - 1)) else 1
def exLive (l : List ByteArray) (n : Nat) : List (Int × ByteArray) := (List.range n).map fun (j : Nat) => ((j : Int), l.getD j noStr)
def exR (m : Nat) (w : Int) (l : List ByteArray) (idem : Bool) (n : Nat) : XReq := ⟨0, m, w, 0, l.drop n, idem, 100, 1099511627776, exLive l n, n, 0, (n : Int) - 1, 0, false⟩

theorem exLive_put (l : List ByteArray) (n : Nat) : aput (n : Int) (l.getD n noStr) (exLive l n) = exLive l (n + 1) := by
  rw [aput_none]
  · unfold exLive; rw [List.range_succ, List.map_append]; rfl
  · intro p hp
    obtain ⟨j, hj, rfl⟩ := List.mem_map.1 hp
    have := List.mem_range.1 hj
    show (j : Int) ≠ (n : Int)
    omega

theorem ex_start (m : Nat) (w : Int) (l : List ByteArray) (idem : Bool) (hl : l ≠ []) : (XReq.fresh 0 m w 0 l idem 100 1099511627776).begin 40 (-1) = (exR m w l idem 1, [⟨1, 0, l.getD 0 noStr, 0⟩]) := by
  cases l with
  | nil => exact absurd rfl hl
  | cons s t => rfl

theorem soon_iff (m : Nat) (w : Int) (l : List ByteArray) (idem : Bool) (n : Nat) (now : Int) : (exR m w l idem n).soon now = true ↔ idem = true ∧ n < m + 1 ∧ n < l.length ∧ 100 ≤ now ∧ w * n ≤ now - 100 := by
  unfold XReq.soon exR
  simp only [Bool.and_eq_true, decide_eq_true_eq, Bool.not_eq_true', List.isEmpty_eq_false_iff, ne_eq, List.drop_eq_nil_iff, Nat.not_le]
  rw [show (n : Int) - 1 + 1 = n by omega]
  constructor
  · rintro ⟨⟨⟨⟨h1, h2⟩, h3⟩, h4⟩, h5⟩; exact ⟨h1, by omega, h3, h4, h5⟩
  · rintro ⟨h1, h2, h3, h4, h5⟩; exact ⟨⟨⟨⟨h1, by omega⟩, h3⟩, h4⟩, h5⟩

theorem ex_begin (m : Nat) (w : Int) (l : List ByteArray) (idem : Bool) (n : Nat) (hn : n < l.length) :
    XReq.begin { exR m w l idem n with extra := (exR m w l idem n).extra + 1 } 40 (-1) = (exR m w l idem (n + 1), [⟨1, n, l.getD n noStr, 0⟩]) := by
  have hd : l.drop n = l.getD n noStr :: l.drop (n + 1) := by
    rw [List.drop_eq_getElem_cons hn]; simp [List.getD, List.getElem?_eq_getElem hn]
  have e1 : (exR m w l idem n).hosts = l.getD n noStr :: l.drop (n + 1) := hd
  unfold XReq.begin
  simp only [e1]
  unfold XReq.start
  simp only [exR, exLive_put]
  rw [show (n : Int) - 1 + 1 = ((n + 1 : Nat) : Int) - 1 by omega, show (n : Int) + 1 = ((n + 1 : Nat) : Int) by omega]

theorem go_stop (r : XReq) (now : Int) (k : Nat) (h : ¬ r.soon now = true) : r.tickGo k now = (r, []) := by
  cases k with
  | zero => rfl
  | succ k => rw [XReq.tickGo, if_neg h]

/-- A tick at a moment at which the n-th wait has not passed makes nothing. -/
theorem tick_no (m : Nat) (w : Int) (l : List ByteArray) (idem : Bool) (n : Nat) (now : Int) (h : now < 1099511627776) (hs : ¬ (idem = true ∧ n < m + 1 ∧ n < l.length ∧ 100 ≤ now ∧ w * n ≤ now - 100)) :
    (exR m w l idem n).tick now = (exR m w l idem n, []) := by
  unfold XReq.tick
  rw [if_neg (by simp [exR]), if_neg (by show ¬ (1099511627776 : Int) ≤ now; omega)]
  exact go_stop _ _ _ fun hh => hs ((soon_iff ..).1 hh)

/-- A tick at which it has, and the next one has not, makes one. -/
theorem tick_one (m : Nat) (w : Int) (l : List ByteArray) (n : Nat) (now : Int) (h : now < 1099511627776) (h0 : 100 ≤ now) (h1 : n < m + 1) (h2 : n < l.length) (h3 : w * n ≤ now - 100) (h4 : ¬ w * (n + 1 : Nat) ≤ now - 100) :
    (exR m w l true n).tick now = (exR m w l true (n + 1), [⟨1, n, l.getD n noStr, 0⟩]) := by
  unfold XReq.tick
  rw [if_neg (by simp [exR]), if_neg (by show ¬ (1099511627776 : Int) ≤ now; omega)]
  have hlen : (exR m w l true n).hosts.length = (l.length - n - 1) + 1 := by show (l.drop n).length = _; rw [List.length_drop]; omega
  rw [hlen, XReq.tickGo, if_pos ((soon_iff ..).2 ⟨rfl, h1, h2, h0, h3⟩)]
  simp only [ex_begin m w l true n h2]
  rw [go_stop _ _ _ fun hh => h4 ((soon_iff ..).1 hh).2.2.2.2]
  rfl

theorem mul_pred {w : Int} (hw : 1 ≤ w) {n i : Nat} (hn : n = i) : ¬ w * (n : Int) ≤ 100 + w * (i : Int) - 1 - 100 := by subst hn; omega
theorem ex_before (m : Nat) (w : Int) (l : List ByteArray) (idem : Bool) (i : Nat) (hl : 0 < l.length) (hw : 1 ≤ w) (hi : 1 ≤ i) (hb : 100 + w * i - 1 < 1099511627776) :
    (exR m w l idem (exWant idem m l.length (i - 1))).tick (100 + w * i - 1) = (exR m w l idem (exWant idem m l.length (i - 1)), []) := by
  apply tick_no _ _ _ _ _ _ hb
  rintro ⟨rfl, h1, h2, _, h5⟩
  unfold exWant at h1 h2 h5
  rw [if_pos rfl] at h1 h2 h5
  have e : 1 + min (i - 1) (min m (l.length - 1)) = i := by omega
  rw [e] at h5
  omega
theorem ex_after (m : Nat) (w : Int) (l : List ByteArray) (idem : Bool) (i : Nat) (hl : 0 < l.length) (hw : 1 ≤ w) (hi : 1 ≤ i) (hb : 100 + w * i < 1099511627776) :
    (exR m w l idem (exWant idem m l.length (i - 1))).tick (100 + w * i) = (exR m w l idem (exWant idem m l.length i), if idem = true ∧ i ≤ m ∧ i < l.length then [⟨1, i, l.getD i noStr, 0⟩] else []) := by
  have hwi : 0 ≤ w * (i : Int) := Int.mul_nonneg (by omega) (by omega)
  by_cases h : idem = true ∧ i ≤ m ∧ i < l.length
  · obtain ⟨rfl, h1, h2⟩ := h
    have e : exWant true m l.length (i - 1) = i := by unfold exWant; rw [if_pos rfl]; omega
    have e' : exWant true m l.length i = i + 1 := by unfold exWant; rw [if_pos rfl]; omega
    rw [e, e', if_pos ⟨rfl, h1, h2⟩]
    refine tick_one m w l i _ hb (by omega) (by omega) h2 (by omega) ?_
    rw [Int.natCast_add, Int.mul_add]
    omega
  · rw [if_neg h]
    have e : exWant idem m l.length i = exWant idem m l.length (i - 1) := by
      unfold exWant
      by_cases hd : idem = true
      · rw [if_pos hd, if_pos hd]
        have : ¬ (i ≤ m ∧ i < l.length) := fun hh => h ⟨hd, hh⟩
        omega
      · rw [if_neg hd, if_neg hd]
    rw [e]
    apply tick_no _ _ _ _ _ _ hb
    rintro ⟨rfl, h1, h2, _, _⟩
    unfold exWant at h1 h2
    rw [if_pos rfl] at h1 h2
    exact h ⟨rfl, by omega, by omega⟩
end Go.Proofs.Ytooedjedncokpaa

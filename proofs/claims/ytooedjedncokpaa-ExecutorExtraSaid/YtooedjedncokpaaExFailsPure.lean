/- What a request is while errors are told that are tried at the next host. No program is named. -/
import Derived.Test.YtooedjedncokpaaExOrdPure
namespace Go.Proofs.Ytooedjedncokpaa
set_option linter.unusedVariables false
def failR (m : Int) (l : List ByteArray) (i : Nat) : XReq := ⟨m, 0, 0, 0, l.drop (i + 1), false, 0, 9, [((i : Int), l.getD i noStr)], (i : Int) + 1, i, 0, 0, false⟩
def failW (m : Int) (r : XReq) : Int := decide17 4096 0 0 0 noStr r.again m false
def failSt (m : Int) (l : List ByteArray) : Nat → XReq × List XAct
  | 0 => (XReq.fresh m 0 0 0 l false 0 9).begin 40 (-1)
  | i + 1 => (failSt m l i).1.failed i (failW m (failSt m l i).1)

theorem un17 (again most : Int) (s : ByteArray) : decide17 4096 0 0 0 s again most false = if again < 0 ∨ most ≤ again then 1 else 3 := by simp [decide17]
theorem fail3 (r : XReq) (n : Int) (s : ByteArray) (h : r.live = [(n, s)]) : r.failed n 3 = XReq.begin { r with live := [], again := r.again + 1 } 42 n := by
  unfold XReq.failed
  rw [h]
  simp [aget, adel]
theorem fail1 (r : XReq) (n : Int) (s : ByteArray) (h : r.live = [(n, s)]) : r.failed n 1 = r.finish 42 n := by
  unfold XReq.failed
  rw [h]
  simp [aget]

theorem failSt_lt (m : Nat) (l : List ByteArray) : ∀ i, i < l.length → i < m + 1 → failSt m l i = (failR m l i, [⟨1, i, l.getD i noStr, 0⟩]) := by
  intro i
  induction i with
  | zero =>
    intro hl _
    cases l with
    | nil => simp at hl
    | cons s t => rfl
  | succ i ih =>
    intro hl hm
    rw [failSt, ih (by omega) (by omega)]
    have hw : failW m (failR m l i) = 3 := by
      unfold failW
      rw [un17, if_neg]
      unfold failR; dsimp only; omega
    rw [hw, fail3 _ _ _ rfl]
    have hd : l.drop (i + 1) = l[i + 1] :: l.drop (i + 1 + 1) := List.drop_eq_getElem_cons hl
    have hg : l.getD (i + 1) noStr = l[i + 1] := by simp [List.getD, List.getElem?_eq_getElem hl]
    unfold XReq.begin failR
    dsimp only
    rw [hd, hg]
    rfl

theorem failSt_end (m : Nat) (l : List ByteArray) (i : Nat) (hi : i + 1 = min l.length (m + 1)) : (failSt m l (i + 1)).1.done = true ∧ (failSt m l (i + 1)).2 = [⟨3, i, noStr, 42⟩] := by
  rw [failSt, failSt_lt m l i (by omega) (by omega)]
  by_cases hm : i < m
  · have hw : failW m (failR m l i) = 3 := by
      unfold failW
      rw [un17, if_neg]
      unfold failR; dsimp only; omega
    rw [hw]
    dsimp only
    rw [fail3 _ _ _ rfl]
    have hd : l.drop (i + 1) = [] := List.drop_eq_nil_iff.2 (by omega)
    unfold XReq.begin failR
    dsimp only
    rw [hd]
    exact ⟨rfl, rfl⟩
  · have hw : failW m (failR m l i) = 1 := by
      unfold failW
      rw [un17, if_pos]
      unfold failR; dsimp only; omega
    rw [hw]
    dsimp only
    rw [fail1 _ _ _ rfl]
    exact ⟨rfl, rfl⟩
end Go.Proofs.Ytooedjedncokpaa

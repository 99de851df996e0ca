/- What a request is while its hosts refuse one behind the other, and while errors are told that are tried at the next host. No program is named. -/
import Derived.Test.YtooedjedncokpaaExPure
namespace Go.Proofs.Ytooedjedncokpaa
set_option linter.unusedVariables false
def ordR (c0 c1 c2 c3 : Int) (idem : Bool) (l : List ByteArray) (i : Nat) : XReq :=
  match l.drop i with
  | [] => ⟨c0, c1, c2, c3, [], idem, 0, 9, [], l.length, 0, 0, 0, true⟩
  | s :: t => ⟨c0, c1, c2, c3, t, idem, 0, 9, [((i : Int), s)], (i : Int) + 1, 0, 0, 0, false⟩
def ordA (l : List ByteArray) (why : Int) (i : Nat) : List XAct :=
  match l.drop i with
  | [] => [⟨3, (l.length : Int) - 1, noStr, why⟩]
  | s :: _ => [⟨1, i, s, 0⟩]

theorem ordA_one (l : List ByteArray) (why : Int) (i : Nat) : ∃ a, ordA l why i = [a] := by
  unfold ordA; split <;> exact ⟨_, rfl⟩

theorem ord_start (c0 c1 c2 c3 : Int) (idem : Bool) (l : List ByteArray) (why : Int) (hl : l ≠ []) : (XReq.fresh c0 c1 c2 c3 l idem 0 9).begin 40 (-1) = (ordR c0 c1 c2 c3 idem l 0, ordA l why 0) := by
  cases l with
  | nil => exact absurd rfl hl
  | cons s t => rfl

theorem ord_step (c0 c1 c2 c3 : Int) (idem : Bool) (l : List ByteArray) (why : Int) (i : Nat) (hi : i < l.length) :
    (ordR c0 c1 c2 c3 idem l i).refused i why = (ordR c0 c1 c2 c3 idem l (i + 1), ordA l why (i + 1)) := by
  have hd : l.drop i = l[i] :: l.drop (i + 1) := List.drop_eq_getElem_cons hi
  unfold ordR ordA
  rw [hd]
  cases ht : l.drop (i + 1) with
  | nil =>
    have hle : l.length ≤ i + 1 := List.drop_eq_nil_iff.1 ht
    have hlen : l.length = i + 1 := by omega
    simp [XReq.refused, aget, adel, XReq.begin, XReq.over, XReq.finish, hlen]
  | cons s' t' => simp [XReq.refused, aget, adel, XReq.begin, XReq.start, aput]

theorem ordR_at (c0 c1 c2 c3 : Int) (idem : Bool) (l : List ByteArray) (i : Nat) (hi : i < l.length) : ordR c0 c1 c2 c3 idem l i = ⟨c0, c1, c2, c3, l.drop (i + 1), idem, 0, 9, [((i : Int), l[i])], (i : Int) + 1, 0, 0, 0, false⟩ := by
  unfold ordR; rw [List.drop_eq_getElem_cons hi]
theorem ordA_at (l : List ByteArray) (why : Int) (i : Nat) (hi : i < l.length) : ordA l why i = [⟨1, i, l[i], 0⟩] := by
  unfold ordA; rw [List.drop_eq_getElem_cons hi]
theorem ordR_end (c0 c1 c2 c3 : Int) (idem : Bool) (l : List ByteArray) : ordR c0 c1 c2 c3 idem l l.length = ⟨c0, c1, c2, c3, [], idem, 0, 9, [], l.length, 0, 0, 0, true⟩ := by
  unfold ordR; rw [List.drop_length]
theorem ordA_end (l : List ByteArray) (why : Int) : ordA l why l.length = [⟨3, (l.length : Int) - 1, noStr, why⟩] := by
  unfold ordA; rw [List.drop_length]
end Go.Proofs.Ytooedjedncokpaa

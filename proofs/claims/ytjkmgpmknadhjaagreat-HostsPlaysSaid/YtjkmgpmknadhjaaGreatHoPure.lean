/- hosts, plainly: hosts by rising names; what a refresh makes of them; how far one is; their ring's places. No program is named. -/
import Derived.Test.YtjkmgpmknadhjaaGreatRgMake
import Derived.Test.YtjkmgpmknadhjaaGreatStrEq
namespace Go.Proofs.YtjkmgpmknadhjaaGreat
set_option linter.unusedVariables false
open Go.RowKit

structure Ho where
  name : ByteArray
  dc : ByteArray
  rack : ByteArray
  toks : List Int
  up : Bool
/-- A text is ahead of another one. -/
def nlt (a b : ByteArray) : Prop := a.toList < b.toList
theorem nlt_iff (a b : ByteArray) : a.data.toList < b.data.toList ↔ nlt a b := by unfold nlt; rw [ByteArray.toList_eq, ByteArray.toList_eq]
instance decNlt (a b : ByteArray) : Decidable (nlt a b) := decidable_of_iff (a.data.toList < b.data.toList) (nlt_iff a b)
theorem toList_inj {a b : ByteArray} (h : a.toList = b.toList) : a = b := by
  have := strEq a b
  rw [h] at this
  simpa using this
theorem nlt_irrefl (a : ByteArray) : ¬ nlt a a := List.lt_irrefl _
theorem nlt_trans {a b c : ByteArray} (h : nlt a b) (k : nlt b c) : nlt a c := List.lt_trans h k
theorem nlt_tri {a b : ByteArray} (h : ¬ nlt a b) (k : ¬ nlt b a) : a = b := toList_inj (List.le_antisymm (List.not_lt.1 k) (List.not_lt.1 h))
theorem nlt_asymm {a b : ByteArray} (h : nlt a b) : ¬ nlt b a := fun k => nlt_irrefl a (nlt_trans h k)
def risingH (S : List Ho) : Prop := S.Pairwise fun a b => nlt a.name b.name
def getS (x : ByteArray) (S : List Ho) : Option Ho := S.find? fun h => decide (h.name = x)
theorem getS_name {x : ByteArray} {S : List Ho} {h : Ho} (e : getS x S = some h) : h.name = x := by simpa using List.find?_some e
theorem getS_mem {x : ByteArray} {S : List Ho} {h : Ho} (e : getS x S = some h) : h ∈ S := List.mem_of_find?_eq_some e
theorem getS_none {x : ByteArray} {S : List Ho} : getS x S = none ↔ ∀ h ∈ S, h.name ≠ x := by
  unfold getS; rw [List.find?_eq_none]; simp
theorem rising_ne {S : List Ho} (hS : risingH S) : S.Pairwise fun a b => a.name ≠ b.name := List.Pairwise.imp (R := fun a b : Ho => nlt a.name b.name) (S := fun a b : Ho => a.name ≠ b.name) (fun {a b} h e => nlt_irrefl b.name (by rw [e] at h; exact h)) hS
theorem getS_of_mem : ∀ {S : List Ho} {h : Ho}, S.Pairwise (fun a b => a.name ≠ b.name) → h ∈ S → getS h.name S = some h
  | [], _, _, hh => by cases hh
  | a :: S, h, hS, hh => by
    obtain ⟨h1, h2⟩ := List.pairwise_cons.1 hS
    unfold getS
    rw [List.find?_cons]
    rcases List.mem_cons.1 hh with rfl | hh
    · simp
    · rw [decide_eq_false (h1 h hh)]
      exact getS_of_mem h2 hh
theorem ne_nodup {S : List Ho} (h : S.Pairwise fun a b => a.name ≠ b.name) : S.Nodup := h.imp fun h e => h (by rw [e])
/-- Two rows of the same hosts are a permutation of each other. -/
theorem perm_of_get {S S' : List Ho} (h : S.Pairwise fun a b => a.name ≠ b.name) (h' : S'.Pairwise fun a b => a.name ≠ b.name) (e : ∀ x, getS x S = getS x S') : S.Perm S' :=
  (List.perm_ext_iff_of_nodup (ne_nodup h) (ne_nodup h')).2 fun a => ⟨fun ha => getS_mem ((e a.name) ▸ getS_of_mem h ha), fun ha => getS_mem ((e a.name).symm ▸ getS_of_mem h' ha)⟩
theorem rising_ext {S S' : List Ho} (h : risingH S) (h' : risingH S') (e : ∀ x, getS x S = getS x S') : S = S' :=
  List.Perm.eq_of_pairwise (fun a b _ _ h1 h2 => absurd h2 (nlt_asymm h1)) h h' (perm_of_get (rising_ne h) (rising_ne h') e)
theorem nlt_nodup {A : List ByteArray} (h : A.Pairwise nlt) : A.Nodup := List.Pairwise.imp (R := nlt) (S := fun a b => a ≠ b) (fun {a b} h e => nlt_irrefl b (by rw [e] at h; exact h)) h
theorem names_ext {A B : List ByteArray} (h : A.Pairwise nlt) (h' : B.Pairwise nlt) (e : ∀ x, x ∈ A ↔ x ∈ B) : A = B :=
  List.Perm.eq_of_pairwise (fun a b _ _ h1 h2 => absurd h2 (nlt_asymm h1)) h h' ((List.perm_ext_iff_of_nodup (nlt_nodup h) (nlt_nodup h')).2 e)
theorem ints_ext {A B : List Int} (h : A.Pairwise (· < ·)) (h' : B.Pairwise (· < ·)) (e : ∀ x, x ∈ A ↔ x ∈ B) : A = B :=
  List.Perm.eq_of_pairwise (fun a b _ _ h1 h2 => by omega) h h' ((List.perm_ext_iff_of_nodup (h.imp fun h e => by omega) (h'.imp fun h e => by omega)).2 e)

/-! Tokens, rising, each one once. -/
def tokAt (l : List Int) (x : Int) : Nat := l.findIdx fun y => !decide (y < x)
def insTok (l : List Int) (x : Int) : List Int := if l[tokAt l x]? = some x then l else l.take (tokAt l x) ++ x :: l.drop (tokAt l x)
def tidyP (l : List Int) : List Int := l.foldl insTok []
theorem tokAt_le (l : List Int) (x : Int) : tokAt l x ≤ l.length := List.findIdx_le_length
theorem tokAt_lt {l : List Int} {x y : Int} {k : Nat} (h : k < tokAt l x) (hy : l[k]? = some y) : y < x := by
  have h1 := List.not_of_lt_findIdx h
  have h2 : l[k]'(Nat.lt_of_lt_of_le h (tokAt_le l x)) = y := (List.getElem?_eq_some_iff.1 hy).2
  rw [h2] at h1
  simpa using h1
theorem tokAt_ge {l : List Int} {x y : Int} (hy : l[tokAt l x]? = some y) : ¬ y < x := by
  obtain ⟨h1, h2⟩ := List.getElem?_eq_some_iff.1 hy
  have h3 := List.findIdx_getElem (w := h1)
  have h4 : (!decide (l[tokAt l x] < x)) = true := h3
  rw [h2] at h4
  simpa using h4
theorem insTok_spec {l : List Int} (h : l.Pairwise (· < ·)) (x : Int) : (insTok l x).Pairwise (· < ·) ∧ ∀ y, y ∈ insTok l x ↔ y = x ∨ y ∈ l := by
  unfold insTok
  by_cases e : l[tokAt l x]? = some x
  · rw [if_pos e]
    exact ⟨h, fun y => ⟨.inr, fun hy => hy.elim (fun e2 => e2 ▸ List.mem_of_getElem? e) id⟩⟩
  · rw [if_neg e]
    have hs := List.take_append_drop (tokAt l x) l
    have hm : ∀ y, y ∈ l ↔ y ∈ l.take (tokAt l x) ∨ y ∈ l.drop (tokAt l x) := fun y => by rw [← List.mem_append, hs]
    have h1 : ∀ y ∈ l.take (tokAt l x), y < x := by
      intro y hy
      obtain ⟨k, hk⟩ := List.getElem?_of_mem hy
      have hkl : k < tokAt l x := by
        have := (List.getElem?_eq_some_iff.1 hk).1
        rw [List.length_take] at this; omega
      rw [List.getElem?_take_of_lt hkl] at hk
      exact tokAt_lt hkl hk
    have h2 : ∀ y ∈ l.drop (tokAt l x), x < y := by
      rw [← hs] at h
      have hd := (List.pairwise_append.1 h).2.1
      cases hq : l.drop (tokAt l x) with
      | nil => intro y hy; cases hy
      | cons z r =>
        have hz : l[tokAt l x]? = some z := by
          have := congrArg (fun t => t[0]?) hq
          simpa using this
        have h3 := tokAt_ge hz
        have h4 : z ≠ x := fun e2 => e (by rw [hz, e2])
        rw [hq] at hd
        intro y hy
        rcases List.mem_cons.1 hy with rfl | hy
        · omega
        · have := (List.pairwise_cons.1 hd).1 y hy; omega
    rw [← hs] at h
    obtain ⟨p1, p2, p3⟩ := List.pairwise_append.1 h
    refine ⟨List.pairwise_append.2 ⟨p1, List.pairwise_cons.2 ⟨h2, p2⟩, fun a ha b hb => ?_⟩, fun y => ?_⟩
    · rcases List.mem_cons.1 hb with rfl | hb
      · exact h1 a ha
      · have := h1 a ha; have := h2 b hb; omega
    · rw [List.mem_append, List.mem_cons, hm]
      constructor
      · rintro (h | h | h)
        · exact .inr (.inl h)
        · exact .inl h
        · exact .inr (.inr h)
      · rintro (h | h | h)
        · exact .inr (.inl h)
        · exact .inl h
        · exact .inr (.inr h)
theorem tidy_fold : ∀ (l out : List Int), out.Pairwise (· < ·) → (l.foldl insTok out).Pairwise (· < ·) ∧ ∀ y, y ∈ l.foldl insTok out ↔ y ∈ out ∨ y ∈ l
  | [], out, h => ⟨h, by simp⟩
  | a :: l, out, h => by
    obtain ⟨h1, h2⟩ := insTok_spec h a
    obtain ⟨h3, h4⟩ := tidy_fold l (insTok out a) h1
    refine ⟨h3, fun y => ?_⟩
    rw [List.foldl_cons, h4, h2, List.mem_cons]
    constructor
    · rintro ((h | h) | h)
      · exact .inr (.inl h)
      · exact .inl h
      · exact .inr (.inr h)
    · rintro (h | h | h)
      · exact .inl (.inr h)
      · exact .inl (.inl h)
      · exact .inr h
theorem tidy_spec (l : List Int) : (tidyP l).Pairwise (· < ·) ∧ ∀ y, y ∈ tidyP l ↔ y ∈ l := by
  have := tidy_fold l [] .nil
  exact ⟨this.1, fun y => (this.2 y).trans (by simp)⟩
theorem tidy_uniq {l out : List Int} (h : out.Pairwise (· < ·)) (hm : ∀ y, y ∈ out ↔ y ∈ l) : out = tidyP l :=
  ints_ext h (tidy_spec l).1 fun x => (hm x).trans ((tidy_spec l).2 x).symm

/-! A refresh. -/
abbrev View := ByteArray → Option Ho
def updH (V : View) (h : Ho) : Ho := { h with toks := tidyP h.toks, up := match V h.name with | some o => o.up | none => h.up }
/-- Who is there behind a refresh. -/
def refr (V : View) (l : List Ho) (x : ByteArray) : Option Ho := if x = noStr then none else (getS x l).map (updH V)
theorem refr_nil (V : View) (x : ByteArray) : refr V [] x = none := by unfold refr getS; split <;> rfl
theorem refr_snoc (V : View) (l : List Ho) (h : Ho) (x : ByteArray) : refr V (l ++ [h]) x = match refr V l x with
    | some o => some o
    | none => if h.name = x ∧ x ≠ noStr then some (updH V h) else none := by
  unfold refr getS
  by_cases e : x = noStr
  · rw [if_pos e, if_pos e]; simp [e]
  · rw [if_neg e, if_neg e, List.find?_append]
    cases hf : l.find? fun h => decide (h.name = x) with
    | some o => rfl
    | none =>
      by_cases e2 : h.name = x
      · simp [e, e2]
      · simp [e2]
theorem refr_name {V : View} {l : List Ho} {x : ByteArray} {h : Ho} (e : refr V l x = some h) : h.name = x ∧ x ≠ noStr := by
  unfold refr at e
  by_cases h1 : x = noStr
  · rw [if_pos h1] at e; cases e
  · rw [if_neg h1] at e
    obtain ⟨o, ho, rfl⟩ := Option.map_eq_some_iff.1 e
    exact ⟨show o.name = x from getS_name ho, h1⟩

/-! The reference's way: one behind the other, each at its place. -/
def hoAt (S : List Ho) (x : ByteArray) : Nat := S.findIdx fun o => !decide (nlt o.name x)
def insH (S : List Ho) (h : Ho) : List Ho := S.take (hoAt S h.name) ++ h :: S.drop (hoAt S h.name)
theorem insH_spec {S : List Ho} (hS : risingH S) {h : Ho} (hn : getS h.name S = none) : risingH (insH S h) ∧ ∀ x, getS x (insH S h) = if h.name = x then some h else getS x S := by
  have hne := getS_none.1 hn
  have hs := List.take_append_drop (hoAt S h.name) S
  have h1 : ∀ o ∈ S.take (hoAt S h.name), nlt o.name h.name := by
    intro o ho
    obtain ⟨k, hk⟩ := List.getElem?_of_mem ho
    have hkl : k < hoAt S h.name := by
      have := (List.getElem?_eq_some_iff.1 hk).1
      rw [List.length_take] at this; omega
    rw [List.getElem?_take_of_lt hkl] at hk
    have h3 := List.not_of_lt_findIdx hkl
    have h4 := (List.getElem?_eq_some_iff.1 hk).2
    rw [h4] at h3
    simpa using h3
  have h2 : ∀ o ∈ S.drop (hoAt S h.name), nlt h.name o.name := by
    have hS2 := hS
    unfold risingH at hS2
    rw [← hs] at hS2
    have hd := (List.pairwise_append.1 hS2).2.1
    cases hq : S.drop (hoAt S h.name) with
    | nil => intro o ho; cases ho
    | cons z r =>
      have hz : S[hoAt S h.name]? = some z := by
        have := congrArg (fun t => t[0]?) hq
        simpa using this
      obtain ⟨h5, h6⟩ := List.getElem?_eq_some_iff.1 hz
      have h7 := List.findIdx_getElem (w := h5)
      have h7' : (!decide (nlt (S[hoAt S h.name]).name h.name)) = true := h7
      rw [h6] at h7'
      have h8 : ¬ nlt z.name h.name := by simpa using h7'
      have h9 : nlt h.name z.name := Classical.byContradiction fun e => hne z (List.mem_of_getElem? hz) (nlt_tri h8 e)
      rw [hq] at hd
      intro o ho
      rcases List.mem_cons.1 ho with rfl | ho
      · exact h9
      · exact nlt_trans h9 ((List.pairwise_cons.1 hd).1 o ho)
  have hS2 := hS
  unfold risingH at hS2
  rw [← hs] at hS2
  obtain ⟨p1, p2, p3⟩ := List.pairwise_append.1 hS2
  constructor
  · exact List.pairwise_append.2 ⟨p1, List.pairwise_cons.2 ⟨h2, p2⟩, fun a ha b hb => by
      rcases List.mem_cons.1 hb with rfl | hb
      · exact h1 a ha
      · exact p3 a ha b hb⟩
  · intro x
    unfold insH getS
    conv => rhs; rw [← hs]
    rw [List.find?_append, List.find?_append, List.find?_cons]
    by_cases e : h.name = x
    · have hnt : (S.take (hoAt S h.name)).find? (fun o => decide (o.name = x)) = none := List.find?_eq_none.2 fun o ho => by
        have := hne o (List.mem_of_mem_take ho)
        rw [e] at this
        simpa using this
      rw [hnt, decide_eq_true e, if_pos e]; rfl
    · rw [decide_eq_false e, if_neg e]
def refStep (V : View) (now : List Ho) (h : Ho) : List Ho := if h.name = noStr ∨ (getS h.name now).isSome = true then now else insH now (updH V h)
def refNow (V : View) (l : List Ho) : List Ho := l.foldl (refStep V) []
theorem refNow_fold (V : View) : ∀ (l l0 now : List Ho), risingH now → (∀ x, getS x now = refr V l0 x) → risingH (l.foldl (refStep V) now) ∧ ∀ x, getS x (l.foldl (refStep V) now) = refr V (l0 ++ l) x
  | [], l0, now, h1, h2 => ⟨h1, by simpa using h2⟩
  | h :: l, l0, now, h1, h2 => by
    have key : risingH (refStep V now h) ∧ ∀ x, getS x (refStep V now h) = refr V (l0 ++ [h]) x := by
      unfold refStep
      by_cases e : h.name = noStr ∨ (getS h.name now).isSome = true
      · rw [if_pos e]
        refine ⟨h1, fun x => ?_⟩
        rw [refr_snoc, h2]
        cases hr : refr V l0 x with
        | some o => rfl
        | none =>
          have : ¬ (h.name = x ∧ x ≠ noStr) := by
            rintro ⟨e1, e2⟩
            rcases e with e | e
            · exact e2 (e1 ▸ e)
            · rw [e1, h2, hr] at e; cases e
          simp only [if_neg this]
      · rw [if_neg e]
        have en : getS (updH V h).name now = none := by
          cases hg : getS (updH V h).name now with
          | none => rfl
          | some o => exact absurd (.inr (by rw [show h.name = (updH V h).name from rfl, hg]; rfl)) e
        obtain ⟨g1, g2⟩ := insH_spec h1 en
        refine ⟨g1, fun x => ?_⟩
        rw [g2, refr_snoc, h2]
        by_cases e1 : h.name = x
        · have e2 : refr V l0 x = none := by rw [← h2, ← e1]; exact en
          have e3 : x ≠ noStr := fun e4 => e (.inl (e1.trans e4))
          rw [if_pos (show (updH V h).name = x from e1), e2]
          simp only [if_pos (And.intro e1 e3)]
        · rw [if_neg (show ¬ (updH V h).name = x from e1)]
          cases hr : refr V l0 x with
          | some o => rfl
          | none => simp only [if_neg (fun e4 : h.name = x ∧ x ≠ noStr => e1 e4.1)]
    have := refNow_fold V l (l0 ++ [h]) (refStep V now h) key.1 key.2
    rw [List.append_assoc] at this
    exact this
theorem refNow_spec (V : View) (l : List Ho) : risingH (refNow V l) ∧ ∀ x, getS x (refNow V l) = refr V l x := by
  have := refNow_fold V l [] [] .nil fun x => by rw [refr_nil]; rfl
  exact ⟨this.1, fun x => by have h := this.2 x; rw [List.nil_append] at h; exact h⟩
end Go.Proofs.YtjkmgpmknadhjaaGreat

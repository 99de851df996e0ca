/- hosts: Refresh's first loop: what stands behind i of its rounds (plain law). -/
import Derived.Test.YtjkmgpmknadhjaaGreatHoPure2
namespace Go.Proofs.YtjkmgpmknadhjaaGreat
set_option linter.unusedVariables false

theorem refr_has {V : View} {l : List Ho} {x : ByteArray} (hx : x ≠ noStr) : (refr V l x).isSome = true ↔ ∃ h ∈ l, h.name = x := by
  unfold refr getS
  rw [if_neg hx, Option.isSome_map, List.find?_isSome]
  constructor
  · rintro ⟨h, h1, h2⟩
    exact ⟨h, h1, by simpa using h2⟩
  · rintro ⟨h, h1, h2⟩
    exact ⟨h, h1, by simpa using h2⟩
theorem refr_empty (V : View) (l : List Ho) : refr V l noStr = none := by unfold refr; rw [if_pos rfl]
/-- A host that has been seen adds nothing. -/
theorem refr_seen {V : View} {l : List Ho} {h : Ho} (hs : h.name = noStr ∨ ∃ o ∈ l, o.name = h.name) (x : ByteArray) : refr V (l ++ [h]) x = refr V l x := by
  rw [refr_snoc]
  cases e : refr V l x with
  | some o => rfl
  | none =>
    show (if h.name = x ∧ x ≠ noStr then some (updH V h) else none) = none
    rw [if_neg]
    rintro ⟨rfl, hne⟩
    rcases hs with hs | hs
    · exact hne hs
    · have := (refr_has (V := V) hne).2 hs
      rw [e] at this
      cases this
/-- A new host is entered. -/
theorem refr_new {V : View} {l : List Ho} {h : Ho} (hn : h.name ≠ noStr) (hs : ¬ ∃ o ∈ l, o.name = h.name) (x : ByteArray) : refr V (l ++ [h]) x = if h.name = x then some (updH V h) else refr V l x := by
  rw [refr_snoc]
  by_cases e : h.name = x
  · subst e
    have h1 : refr V l h.name = none := by
      cases e : refr V l h.name with
      | none => rfl
      | some o => exact absurd ((refr_has hn).1 (by rw [e]; rfl)) hs
    rw [h1, if_pos rfl]
    show (if h.name = h.name ∧ h.name ≠ noStr then some (updH V h) else none) = _
    rw [if_pos ⟨rfl, hn⟩]
  · rw [if_neg e]
    cases refr V l x with
    | some o => rfl
    | none =>
      show (if h.name = x ∧ x ≠ noStr then some (updH V h) else none) = none
      rw [if_neg fun k => e k.1]
/-- The map's view behind the hosts l. -/
def viewR (V : View) (l : List Ho) : View := fun x => match refr V l x with
  | some h => some h
  | none => V x
theorem viewR_nil (V : View) (x : ByteArray) : viewR V [] x = V x := by unfold viewR; rw [refr_nil]
theorem viewR_seen {V : View} {l : List Ho} {h : Ho} (hs : h.name = noStr ∨ ∃ o ∈ l, o.name = h.name) (x : ByteArray) : viewR V (l ++ [h]) x = viewR V l x := by unfold viewR; rw [refr_seen hs]
theorem viewR_new {V : View} {l : List Ho} {h : Ho} (hn : h.name ≠ noStr) (hs : ¬ ∃ o ∈ l, o.name = h.name) (x : ByteArray) : viewR V (l ++ [h]) x = if h.name = x then some (updH V h) else viewR V l x := by
  unfold viewR
  rw [refr_new hn hs]
  by_cases e : h.name = x
  · rw [if_pos e, if_pos e]
  · rw [if_neg e, if_neg e]
theorem viewR_old {V : View} {l : List Ho} {x : ByteArray} (hs : ¬ ∃ o ∈ l, o.name = x) : viewR V l x = V x := by
  unfold viewR
  cases e : refr V l x with
  | none => rfl
  | some o =>
    by_cases hx : x = noStr
    · subst hx; rw [refr_empty] at e; cases e
    · exact absurd ((refr_has hx).1 (by rw [e]; rfl)) hs
/-- The names added by the hosts l, as they come. -/
def addsR (V : View) (l : List Ho) (A : List ByteArray) : Prop := A.Nodup ∧ ∀ x, x ∈ A ↔ (refr V l x).isSome = true ∧ V x = none
theorem addsR_nil (V : View) : addsR V [] [] := ⟨.nil, fun x => by rw [refr_nil]; simp⟩
theorem addsR_seen {V : View} {l : List Ho} {h : Ho} {A : List ByteArray} (hs : h.name = noStr ∨ ∃ o ∈ l, o.name = h.name) (hA : addsR V l A) : addsR V (l ++ [h]) A :=
  ⟨hA.1, fun x => by rw [refr_seen hs]; exact hA.2 x⟩
theorem addsR_old {V : View} {l : List Ho} {h : Ho} {A : List ByteArray} (hn : h.name ≠ noStr) (hs : ¬ ∃ o ∈ l, o.name = h.name) (hV : V h.name ≠ none) (hA : addsR V l A) : addsR V (l ++ [h]) A :=
  ⟨hA.1, fun x => by
    rw [refr_new hn hs]
    by_cases e : h.name = x
    · subst e
      rw [if_pos rfl, hA.2]
      simp [hV]
    · rw [if_neg e]; exact hA.2 x⟩
theorem addsR_new {V : View} {l : List Ho} {h : Ho} {A : List ByteArray} (hn : h.name ≠ noStr) (hs : ¬ ∃ o ∈ l, o.name = h.name) (hV : V h.name = none) (hA : addsR V l A) : addsR V (l ++ [h]) (A ++ [h.name]) := by
  have hni : h.name ∉ A := fun hm => hs ((refr_has hn).1 ((hA.2 _).1 hm).1)
  refine ⟨List.nodup_append.2 ⟨hA.1, by simp, fun a ha b hb => by simp only [List.mem_singleton] at hb; subst hb; exact fun e => hni (e ▸ ha)⟩, fun x => ?_⟩
  rw [refr_new hn hs, List.mem_append, hA.2]
  by_cases e : h.name = x
  · subst e
    rw [if_pos rfl]
    simp [hV]
  · rw [if_neg e]
    simp [Ne.symm e]
end Go.Proofs.YtjkmgpmknadhjaaGreat

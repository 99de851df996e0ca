/- hosts, plainly: how far one is; the places of the ring; what is new, what is gone. No program is named. -/
import Derived.Test.YtjkmgpmknadhjaaGreatHoPure
namespace Go.Proofs.YtjkmgpmknadhjaaGreat
set_option linter.unusedVariables false
open Go.RowKit

/-! How far a host is. -/
def aheadN (S : List Ho) (d x : ByteArray) : Nat := (S.filter fun o => decide (o.dc = d) && decide (nlt o.name x)).length
def distP (dc : ByteArray) (rem : Int) (S : List Ho) (x : ByteArray) : Int :=
  match getS x S with
  | none => 0
  | some h => if h.dc = dc then 1 else if (aheadN S h.dc x : Int) < rem then 2 else 0
theorem ahead_perm {S S' : List Ho} (h : S.Perm S') (d x : ByteArray) : aheadN S d x = aheadN S' d x := (h.filter _).length_eq
theorem ahead_take {S : List Ho} (hS : risingH S) {at_ : Nat} {h : Ho} (ha : S[at_]? = some h) : aheadN S h.dc h.name = ((S.take at_).filter fun o => decide (o.dc = h.dc)).length := by
  have e : S = S.take at_ ++ h :: S.drop (at_ + 1) := by
    conv => lhs; rw [← List.take_append_drop at_ S]
    rw [List.drop_eq_getElem_cons (List.getElem?_eq_some_iff.1 ha).1, (List.getElem?_eq_some_iff.1 ha).2]
  have hS2 := hS
  unfold risingH at hS2
  rw [e] at hS2
  obtain ⟨-, p2, p3⟩ := List.pairwise_append.1 hS2
  obtain ⟨p4, -⟩ := List.pairwise_cons.1 p2
  unfold aheadN
  conv => lhs; rw [e]
  rw [List.filter_append, List.length_append]
  have h1 : (h :: S.drop (at_ + 1)).filter (fun o => decide (o.dc = h.dc) && decide (nlt o.name h.name)) = [] := by
    refine List.filter_eq_nil_iff.2 fun o ho e2 => ?_
    have e3 : nlt o.name h.name := by
      have := (Bool.and_eq_true_iff.1 e2).2
      simpa using this
    rcases List.mem_cons.1 ho with rfl | ho
    · exact nlt_irrefl _ e3
    · exact nlt_asymm (p4 o ho) e3
  have h2 : (S.take at_).filter (fun o => decide (o.dc = h.dc) && decide (nlt o.name h.name)) = (S.take at_).filter fun o => decide (o.dc = h.dc) := by
    refine List.filter_congr fun o ho => ?_
    have := p3 o ho h (List.mem_cons_self ..)
    rw [decide_eq_true this, Bool.and_true]
  rw [h1, h2]; rfl

/-! The places of the ring. -/
def pairsH (S : List Ho) : List Pl := S.flatMap fun h => h.toks.map fun k => (k, h.name)
def getP (k : Int) (l : List Pl) : Option Pl := l.find? fun p => decide (p.1 = k)
/-- The program's way: whose token was not taken yet. -/
def takeP (out : List Pl) (p : Pl) : List Pl := if (getP p.1 out).isSome = true then out else out ++ [p]
def placesP (S : List Ho) : List Pl := (pairsH S).foldl takeP []
theorem getP_snoc (k : Int) (l : List Pl) (p : Pl) : getP k (l ++ [p]) = match getP k l with
    | some o => some o
    | none => if p.1 = k then some p else none := by
  unfold getP
  rw [List.find?_append]
  cases l.find? fun p => decide (p.1 = k) with
  | some o => rfl
  | none => by_cases e : p.1 = k <;> simp [e]
theorem getP_none {k : Int} {l : List Pl} : getP k l = none ↔ ∀ p ∈ l, p.1 ≠ k := by
  unfold getP; rw [List.find?_eq_none]; simp
theorem getP_mem {k : Int} {l : List Pl} {p : Pl} (h : getP k l = some p) : p ∈ l ∧ p.1 = k := ⟨List.mem_of_find?_eq_some h, by simpa using List.find?_some h⟩
theorem takeP_fold : ∀ (l l0 out : List Pl), (out.map (·.1)).Nodup → (∀ k, getP k out = getP k l0) → ((l.foldl takeP out).map (·.1)).Nodup ∧ ∀ k, getP k (l.foldl takeP out) = getP k (l0 ++ l)
  | [], l0, out, h1, h2 => ⟨h1, by simpa using h2⟩
  | p :: l, l0, out, h1, h2 => by
    have key : ((takeP out p).map (·.1)).Nodup ∧ ∀ k, getP k (takeP out p) = getP k (l0 ++ [p]) := by
      unfold takeP
      by_cases e : (getP p.1 out).isSome = true
      · rw [if_pos e]
        refine ⟨h1, fun k => ?_⟩
        rw [getP_snoc, h2]
        cases hk : getP k l0 with
        | some o => rfl
        | none =>
          by_cases e2 : p.1 = k
          · rw [e2, h2, hk] at e; cases e
          · simp only [if_neg e2]
      · rw [if_neg e]
        have en : getP p.1 out = none := by simpa using e
        refine ⟨?_, fun k => by rw [getP_snoc, getP_snoc, h2]⟩
        rw [List.map_append, List.nodup_append]
        refine ⟨h1, by simp, ?_⟩
        rintro a ha b hb rfl
        obtain ⟨q, hq, rfl⟩ := List.mem_map.1 ha
        have : q.1 = p.1 := by simpa using hb
        exact getP_none.1 en q hq this
    have := takeP_fold l (l0 ++ [p]) (takeP out p) key.1 key.2
    rw [List.append_assoc] at this
    exact this
theorem places_spec (S : List Ho) : ((placesP S).map (·.1)).Nodup ∧ ∀ k, getP k (placesP S) = getP k (pairsH S) := by
  have := takeP_fold (pairsH S) [] [] .nil fun _ => rfl
  exact ⟨this.1, fun k => by have h := this.2 k; rw [List.nil_append] at h; exact h⟩
/-- The reference's way: each at its place. -/
def plAt (l : List Pl) (k : Int) : Nat := l.findIdx fun p => !decide (p.1 < k)
def insP (l : List Pl) (p : Pl) : List Pl := if (l[plAt l p.1]?).map (·.1) = some p.1 then l else l.take (plAt l p.1) ++ p :: l.drop (plAt l p.1)
def refRing (S : List Ho) : List Pl := (pairsH S).foldl insP []
theorem insP_spec {l : List Pl} (h : rising l) (p : Pl) : rising (insP l p) ∧ ∀ k, getP k (insP l p) = match getP k l with
    | some o => some o
    | none => if p.1 = k then some p else none := by
  have hs := List.take_append_drop (plAt l p.1) l
  have h1 : ∀ q ∈ l.take (plAt l p.1), q.1 < p.1 := by
    intro o ho
    obtain ⟨k, hk⟩ := List.getElem?_of_mem ho
    have hkl : k < plAt l p.1 := by
      have := (List.getElem?_eq_some_iff.1 hk).1
      rw [List.length_take] at this; omega
    rw [List.getElem?_take_of_lt hkl] at hk
    have h3 := List.not_of_lt_findIdx hkl
    have h4 := (List.getElem?_eq_some_iff.1 hk).2
    rw [h4] at h3
    simpa using h3
  unfold insP
  by_cases e : (l[plAt l p.1]?).map (·.1) = some p.1
  · rw [if_pos e]
    refine ⟨h, fun k => ?_⟩
    obtain ⟨o, ho, e2⟩ := Option.map_eq_some_iff.1 e
    cases hk : getP k l with
    | some o => rfl
    | none =>
      have : ¬ p.1 = k := fun e3 => getP_none.1 hk o (List.mem_of_getElem? ho) (e2.trans e3)
      simp only [if_neg this]
  · rw [if_neg e]
    have h2 : ∀ q ∈ l.drop (plAt l p.1), p.1 < q.1 := by
      have hS2 := h
      unfold rising at hS2
      rw [← hs] at hS2
      have hd := (List.pairwise_append.1 hS2).2.1
      cases hq : l.drop (plAt l p.1) with
      | nil => intro o ho; cases ho
      | cons z r =>
        have hz : l[plAt l p.1]? = some z := by
          have := congrArg (fun t => t[0]?) hq
          simpa using this
        obtain ⟨h5, h6⟩ := List.getElem?_eq_some_iff.1 hz
        have h7 := List.findIdx_getElem (w := h5)
        have h7' : (!decide ((l[plAt l p.1]).1 < p.1)) = true := h7
        rw [h6] at h7'
        have h8 : ¬ z.1 < p.1 := by simpa using h7'
        have h9 : z.1 ≠ p.1 := fun e2 => e (by rw [hz]; simp [e2])
        rw [hq] at hd
        intro o ho
        rcases List.mem_cons.1 ho with rfl | ho
        · omega
        · have := (List.pairwise_cons.1 hd).1 o ho; omega
    have hS2 := h
    unfold rising at hS2
    rw [← hs] at hS2
    obtain ⟨p1, p2, p3⟩ := List.pairwise_append.1 hS2
    constructor
    · exact List.pairwise_append.2 ⟨p1, List.pairwise_cons.2 ⟨h2, p2⟩, fun a ha b hb => by
        rcases List.mem_cons.1 hb with rfl | hb
        · exact h1 a ha
        · exact p3 a ha b hb⟩
    · intro k
      unfold getP
      conv => rhs; rw [← hs]
      rw [List.find?_append, List.find?_append, List.find?_cons]
      by_cases e1 : p.1 = k
      · have hnt : (l.take (plAt l p.1)).find? (fun o => decide (o.1 = k)) = none := List.find?_eq_none.2 fun o ho => by
          have := h1 o ho
          simp; omega
        have hnd : (l.drop (plAt l p.1)).find? (fun o => decide (o.1 = k)) = none := List.find?_eq_none.2 fun o ho => by
          have := h2 o ho
          simp; omega
        rw [hnt, hnd, decide_eq_true e1]
        simp [e1]
      · rw [decide_eq_false e1]
        cases hk : (l.take (plAt l p.1)).find? (fun o => decide (o.1 = k)) with
        | some o => rfl
        | none =>
          cases hk2 : (l.drop (plAt l p.1)).find? (fun o => decide (o.1 = k)) with
          | some o => rfl
          | none => simp [e1]
theorem insP_fold : ∀ (l l0 out : List Pl), rising out → (∀ k, getP k out = getP k l0) → rising (l.foldl insP out) ∧ ∀ k, getP k (l.foldl insP out) = getP k (l0 ++ l)
  | [], l0, out, h1, h2 => ⟨h1, by simpa using h2⟩
  | p :: l, l0, out, h1, h2 => by
    obtain ⟨g1, g2⟩ := insP_spec h1 p
    have := insP_fold l (l0 ++ [p]) (insP out p) g1 (fun k => by rw [g2, getP_snoc, h2])
    rw [List.append_assoc] at this
    exact this
theorem refRing_spec (S : List Ho) : rising (refRing S) ∧ ∀ k, getP k (refRing S) = getP k (pairsH S) := by
  have := insP_fold (pairsH S) [] [] .nil fun _ => rfl
  exact ⟨this.1, fun k => by have h := this.2 k; rw [List.nil_append] at h; exact h⟩
theorem getP_of_mem : ∀ {l : List Pl} {p : Pl}, (l.map (·.1)).Nodup → p ∈ l → getP p.1 l = some p
  | [], _, _, h => by cases h
  | a :: l, p, hn, h => by
    have hn' : a.1 ∉ l.map (·.1) ∧ (l.map (·.1)).Nodup := List.nodup_cons.1 hn
    unfold getP
    rw [List.find?_cons]
    rcases List.mem_cons.1 h with rfl | h
    · simp
    · rw [decide_eq_false (show ¬ a.1 = p.1 from fun e => hn'.1 (e ▸ List.mem_map.2 ⟨p, h, rfl⟩))]
      exact getP_of_mem hn'.2 h
theorem pl_nodup {l : List Pl} (h : (l.map (·.1)).Nodup) : l.Nodup := List.Pairwise.imp (R := fun a b : Pl => a.1 ≠ b.1) (S := fun a b : Pl => a ≠ b) (fun {a b} h e => h (by rw [e])) (List.pairwise_map.1 h)
/-- Both rings are of the same places. -/
theorem ring_perm (S : List Ho) : (refRing S).Perm (placesP S) := by
  have h1 := refRing_spec S
  have h2 := places_spec S
  have n1 := rising_nodup h1.1
  refine (List.perm_ext_iff_of_nodup (pl_nodup n1) (pl_nodup h2.1)).2 fun p => ⟨fun h => ?_, fun h => ?_⟩
  · have := getP_of_mem n1 h
    rw [h1.2, ← h2.2] at this
    exact (getP_mem this).1
  · have := getP_of_mem h2.1 h
    rw [h2.2, ← h1.2] at this
    exact (getP_mem this).1
theorem places_named {S : List Ho} (h : ∀ o ∈ S, o.name ≠ noStr) : ∀ p ∈ placesP S, p.2 ≠ noStr := by
  intro p hp
  have h2 := places_spec S
  have := getP_of_mem h2.1 hp
  rw [h2.2] at this
  obtain ⟨o, ho, hq⟩ := List.mem_flatMap.1 (getP_mem this).1
  obtain ⟨k, _, rfl⟩ := List.mem_map.1 hq
  exact h o ho

/-! What is new, what is gone. -/
def addedP (V : View) (S : List Ho) : List ByteArray := (S.filter fun h => (V h.name).isNone).map (·.name)
def goneP (S0 S : List Ho) : List ByteArray := (S0.filter fun h => (getS h.name S).isNone).map (·.name)
theorem rising_names {S : List Ho} (h : risingH S) (P : Ho → Bool) : ((S.filter P).map (·.name)).Pairwise nlt := List.pairwise_map.2 (List.Pairwise.filter P h)
theorem added_mem {V : View} {l : List Ho} {x : ByteArray} : x ∈ addedP V (refNow V l) ↔ (refr V l x).isSome = true ∧ V x = none := by
  have h := refNow_spec V l
  unfold addedP
  constructor
  · intro hx
    obtain ⟨o, ho, rfl⟩ := List.mem_map.1 hx
    obtain ⟨h1, h2⟩ := List.mem_filter.1 ho
    have := getS_of_mem (rising_ne h.1) h1
    rw [h.2] at this
    exact ⟨by rw [this]; rfl, by simpa using h2⟩
  · rintro ⟨h1, h2⟩
    obtain ⟨o, ho⟩ := Option.isSome_iff_exists.1 h1
    have h3 := ho
    rw [← h.2] at h3
    have h4 := getS_name h3
    exact List.mem_map.2 ⟨o, List.mem_filter.2 ⟨getS_mem h3, by rw [h4, h2]; rfl⟩, h4⟩
theorem gone_mem {S0 : List Ho} {V : View} {l : List Ho} {x : ByteArray} (h0 : risingH S0) : x ∈ goneP S0 (refNow V l) ↔ (getS x S0).isSome = true ∧ refr V l x = none := by
  have h := refNow_spec V l
  unfold goneP
  constructor
  · intro hx
    obtain ⟨o, ho, rfl⟩ := List.mem_map.1 hx
    obtain ⟨h1, h2⟩ := List.mem_filter.1 ho
    have := getS_of_mem (rising_ne h0) h1
    exact ⟨by rw [this]; rfl, by rw [← h.2]; simpa using h2⟩
  · rintro ⟨h1, h2⟩
    obtain ⟨o, ho⟩ := Option.isSome_iff_exists.1 h1
    have h4 := getS_name ho
    exact List.mem_map.2 ⟨o, List.mem_filter.2 ⟨getS_mem ho, by rw [h4, h.2, h2]; rfl⟩, h4⟩
end Go.Proofs.YtjkmgpmknadhjaaGreat

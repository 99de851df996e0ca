/- Streams and the reference's list of what is owed: they tell the same. No program is named. -/
import Derived.Test.YtelcielfhgijpaaDoorStRef4
import Derived.Test.YtelcielfhgijpaaDoorStIdx
namespace Go.Proofs.YtelcielfhgijpaaDoor
set_option linter.unusedVariables false
open Go.RowKit

structure RL (s : XS) (L : List XO) : Prop where
  srt : L.Pairwise fun a b => a.id < b.id
  pa : s.asked.Perm ((L.filter fun o => !o.orph).map fun o => (o.id, o.until_))
  po : (s.orph.map (·.1)).Perm ((L.filter (·.orph)).map (·.id))

section
variable {α β : Type} [DecidableEq α]
theorem aget_isSome {k : α} {l : List (α × β)} : (aget k l).isSome = true ↔ k ∈ l.map (·.1) := by
  constructor
  · intro h
    obtain ⟨v, hv⟩ := Option.isSome_iff_exists.1 h
    exact List.mem_map.2 ⟨_, aget_mem hv, rfl⟩
  · intro h
    cases hg : aget k l with
    | some v => rfl
    | none =>
      obtain ⟨p, hp, e⟩ := List.mem_map.1 h
      exact absurd e (aget_eq_none.1 hg p hp)
theorem adel_perm {k : α} {v : β} {l A B : List (α × β)} (hn : (l.map (·.1)).Nodup) (h : l.Perm (A ++ (k, v) :: B)) : (adel k l).Perm (A ++ B) := by
  have hm : (k, v) ∈ l := h.mem_iff.2 (by simp)
  obtain ⟨X, Y, rfl, hX⟩ := aget_some_split (aget_of_mem hn hm)
  rw [adel_mid hX]
  have h1 : ((k, v) :: (X ++ Y)).Perm (X ++ (k, v) :: Y) := List.perm_middle.symm
  have h2 : (A ++ (k, v) :: B).Perm ((k, v) :: (A ++ B)) := List.perm_middle
  exact ((h1.trans h).trans h2).cons_inv
theorem adel_keys {k : α} {l : List (α × β)} {A B : List α} (hn : (l.map (·.1)).Nodup) (h : (l.map (·.1)).Perm (A ++ k :: B)) : ((adel k l).map (·.1)).Perm (A ++ B) := by
  have hm : k ∈ l.map (·.1) := h.mem_iff.2 (by simp)
  obtain ⟨v, hv⟩ := Option.isSome_iff_exists.1 (aget_isSome.2 hm)
  obtain ⟨X, Y, rfl, hX⟩ := aget_some_split hv
  rw [adel_mid hX]
  simp only [List.map_append, List.map_cons] at h ⊢
  have h1 : (k :: (X.map (·.1) ++ Y.map (·.1))).Perm (X.map (·.1) ++ k :: Y.map (·.1)) := List.perm_middle.symm
  have h2 : (A ++ k :: B).Perm (k :: (A ++ B)) := List.perm_middle
  exact ((h1.trans h).trans h2).cons_inv
end

section
variable {s : XS} {L C D : List XO} {o : XO} {now u : Int}
theorem RL.fresh (n : Int) : RL (XS.fresh n) [] := ⟨.nil, .nil, .nil⟩
theorem RL.asked_mem (h : RL s L) {p : Int × Int} : p ∈ s.asked ↔ ∃ o ∈ L, o.orph = false ∧ p = (o.id, o.until_) := by
  rw [h.pa.mem_iff, List.mem_map]
  constructor
  · rintro ⟨o, ho, rfl⟩
    rw [List.mem_filter] at ho
    exact ⟨o, ho.1, by simpa using ho.2, rfl⟩
  · rintro ⟨o, ho, h1, rfl⟩
    exact ⟨o, List.mem_filter.2 ⟨ho, by simp [h1]⟩, rfl⟩
theorem RL.asked (h : RL s L) {id : Int} : (aget id s.asked).isSome = true ↔ ∃ o ∈ L, o.orph = false ∧ o.id = id := by
  rw [aget_isSome, List.mem_map]
  constructor
  · rintro ⟨p, hp, rfl⟩
    obtain ⟨o, ho, h1, rfl⟩ := h.asked_mem.1 hp
    exact ⟨o, ho, h1, rfl⟩
  · rintro ⟨o, ho, h1, rfl⟩
    exact ⟨_, h.asked_mem.2 ⟨o, ho, h1, rfl⟩, rfl⟩
theorem RL.orphs (h : RL s L) {id : Int} : (aget id s.orph).isSome = true ↔ ∃ o ∈ L, o.orph = true ∧ o.id = id := by
  rw [aget_isSome, h.po.mem_iff, List.mem_map]
  constructor
  · rintro ⟨o, ho, rfl⟩
    rw [List.mem_filter] at ho
    exact ⟨o, ho.1, ho.2, rfl⟩
  · rintro ⟨o, ho, h1, rfl⟩
    exact ⟨o, List.mem_filter.2 ⟨ho, h1⟩, rfl⟩
theorem RL.owed (h : RL s L) {id : Int} : s.owed id = true ↔ ∃ o ∈ L, o.id = id := by
  rw [XS.owed, Bool.or_eq_true, h.asked, h.orphs]
  constructor
  · rintro (⟨o, ho, -, e⟩ | ⟨o, ho, -, e⟩) <;> exact ⟨o, ho, e⟩
  · rintro ⟨o, ho, e⟩
    cases hp : o.orph
    · exact .inl ⟨o, ho, hp, e⟩
    · exact .inr ⟨o, ho, hp, e⟩
theorem RL.free (h : RL s L) {id : Int} (hn : ∀ o ∈ L, o.id ≠ id) : s.owed id = false := by
  cases ho : s.owed id with
  | false => rfl
  | true => obtain ⟨o, h1, h2⟩ := h.owed.1 ho; exact absurd h2 (hn o h1)
theorem RL.range (h : RL s L) (hs : s.Ok) (ho : o ∈ L) : 0 ≤ o.id ∧ o.id < s.n := hs.range (h.owed.2 ⟨o, ho, rfl⟩)
theorem RL.nodup (h : RL s L) : (L.map (·.id)).Nodup := List.pairwise_map.2 (h.srt.imp fun e => by omega)
theorem RL.counts (h : RL s L) : s.asked.length = L.length - L.countP (·.orph) ∧ s.orph.length = L.countP (·.orph) := by
  have h1 := h.pa.length_eq
  have h2 := h.po.length_eq
  simp only [List.length_map] at h1 h2
  have h3 := List.length_eq_countP_add_countP (l := L) (fun o : XO => o.orph)
  rw [← List.countP_eq_length_filter] at h1 h2
  have h4 : L.countP (fun a => decide ¬(fun o : XO => o.orph) a = true) = L.countP (fun o => !o.orph) := by
    congr 1; funext a; cases h : a.orph <;> simp [h]
  rw [h4] at h3
  omega
/-- The lowest one that is free. -/
theorem low_split : ∀ (L : List XO) (k : Int), ∃ C D, L = C ++ D ∧ (∀ (i : Nat) p, C[i]? = some p → p.id = k + i) ∧ ∀ p, D[0]? = some p → p.id ≠ k + C.length
  | [], k => ⟨[], [], rfl, by simp, by simp⟩
  | a :: t, k => by
    by_cases h : a.id = k
    · obtain ⟨C, D, rfl, h1, h2⟩ := low_split t (k + 1)
      refine ⟨a :: C, D, rfl, fun i p hp => ?_, fun p hp => ?_⟩
      · cases i with
        | zero => simp only [List.getElem?_cons_zero, Option.some.injEq] at hp; subst hp; simp [h]
        | succ i => rw [List.getElem?_cons_succ] at hp; have := h1 i p hp; omega
      · have := h2 p hp; simp only [List.length_cons]; omega
    · exact ⟨[], a :: t, rfl, by simp, fun p hp => by simp only [List.getElem?_cons_zero, Option.some.injEq] at hp; subst hp; simpa using h⟩
theorem RL.above (h : RL s (C ++ D)) (hs : s.Ok) (hC : ∀ (i : Nat) p, C[i]? = some p → p.id = (i : Int)) (hD : ∀ p, D[0]? = some p → p.id ≠ (C.length : Int)) : (∀ p ∈ C, p.id < (C.length : Int)) ∧ ∀ p ∈ D, (C.length : Int) < p.id := by
  constructor
  · intro p hp
    obtain ⟨i, hi, e⟩ := List.getElem_of_mem hp
    have := hC i p (by rw [List.getElem?_eq_getElem hi, e])
    omega
  · intro p hp
    have hsrt := List.pairwise_append.1 h.srt
    cases D with
    | nil => cases hp
    | cons d t =>
      have hd : (C.length : Int) < d.id := by
        have hne := hD d rfl
        rcases C.eq_nil_or_concat with rfl | ⟨C', c, rfl⟩
        · have := (h.range hs (o := d) (by simp)).1
          have hne2 : d.id ≠ 0 := by simpa using hne
          show ((0 : Nat) : Int) < d.id
          omega
        · have h1 := hC C'.length c (by simp)
          have h2 := hsrt.2.2 c (by simp) d (by simp)
          simp only [List.length_append, List.length_cons, List.length_nil, List.concat_eq_append] at hne ⊢
          omega
      rcases List.mem_cons.1 hp with rfl | hp
      · exact hd
      · have := List.rel_of_pairwise_cons hsrt.2.1 hp
        omega
theorem RL.take (h : RL s (C ++ D)) (hs : s.Ok) (hC : ∀ (i : Nat) p, C[i]? = some p → p.id = (i : Int)) (hD : ∀ p, D[0]? = some p → p.id ≠ (C.length : Int)) : RL (s.take (C.length : Int) u) (C ++ ⟨C.length, u, false⟩ :: D) := by
  obtain ⟨a1, a2⟩ := h.above hs hC hD
  have hsrt := List.pairwise_append.1 h.srt
  refine ⟨List.pairwise_append.2 ⟨hsrt.1, List.pairwise_cons.2 ⟨a2, hsrt.2.1⟩, fun a ha b hb => ?_⟩, ?_, ?_⟩
  · rcases List.mem_cons.1 hb with rfl | hb
    · exact a1 a ha
    · exact hsrt.2.2 a ha b hb
  · have h1 := h.pa
    simp only [XS.take, List.filter_append, List.map_append, List.filter_cons, Bool.not_false, if_true, List.map_cons] at h1 ⊢
    refine (List.Perm.append_right _ h1).trans ?_
    rw [List.append_assoc]
    exact List.Perm.append_left _ (List.perm_append_singleton _ _)
  · have h1 := h.po
    simpa [XS.take, List.filter_append, List.filter_cons] using h1
theorem RL.full (h : RL s L) (hs : s.Ok) (hl : s.n ≤ L.length) (j : Nat) (hj : (j : Int) < s.n) : s.owed (j : Int) = true := by
  cases ho : s.owed (j : Int) with
  | true => rfl
  | false =>
    exfalso
    have hnot : ∀ o ∈ L, o.id ≠ (j : Int) := fun o h1 h2 => by rw [h.owed.2 ⟨o, h1, h2⟩] at ho; cases ho
    have hnd : ((j : Int) :: L.map (·.id)).Nodup := by
      rw [List.nodup_cons]
      exact ⟨fun e => by obtain ⟨o, h1, h2⟩ := List.mem_map.1 e; exact hnot o h1 h2, h.nodup⟩
    have hsub : ((j : Int) :: L.map (·.id)) ⊆ (List.range s.n.toNat).map (fun i : Nat => (i : Int)) := by
      intro a ha
      have hr : 0 ≤ a ∧ a < s.n := by
        rcases List.mem_cons.1 ha with rfl | ha
        · omega
        · obtain ⟨o, h1, rfl⟩ := List.mem_map.1 ha; exact h.range hs h1
      exact List.mem_map.2 ⟨a.toNat, List.mem_range.2 (by omega), by omega⟩
    have := hnd.length_le_of_subset hsub
    simp only [List.length_cons, List.length_map, List.length_range] at this
    omega
theorem RL.apart (h : RL s (C ++ o :: D)) : (∀ p ∈ C, p.id ≠ o.id) ∧ ∀ p ∈ D, p.id ≠ o.id := by
  have hsrt := List.pairwise_append.1 h.srt
  refine ⟨fun p hp => ?_, fun p hp => ?_⟩
  · have := hsrt.2.2 p hp o (by simp); omega
  · have := List.rel_of_pairwise_cons hsrt.2.1 hp; omega
theorem RL.answer (h : RL s (C ++ o :: D)) (hs : s.Ok) : RL (s.answer o.id) (C ++ D) := by
  have hsub : (C ++ D).Sublist (C ++ o :: D) := (List.Sublist.refl C).append (List.sublist_cons_self o D)
  have h1 := h.pa
  have h2 := h.po
  obtain ⟨b1, b2⟩ := h.apart
  cases ho : o.orph with
  | false =>
    refine ⟨h.srt.sublist hsub, ?_, ?_⟩
    · simp only [List.filter_append, List.filter_cons, ho, Bool.not_false, if_true, List.map_append, List.map_cons] at h1 ⊢
      exact adel_perm hs.na h1
    · have hno : aget o.id s.orph = none := hs.dis _ (h.asked.2 ⟨o, by simp, ho, rfl⟩)
      rw [XS.answer, adel_none (aget_eq_none.1 hno)]
      simpa [List.filter_append, List.filter_cons, ho] using h2
  | true =>
    refine ⟨h.srt.sublist hsub, ?_, ?_⟩
    · have hna : aget o.id s.asked = none := by
        cases hg : aget o.id s.asked with
        | none => rfl
        | some v =>
          have := hs.dis o.id (by rw [hg]; rfl)
          have h3 := h.orphs.2 ⟨o, by simp, ho, rfl⟩
          rw [this] at h3; cases h3
      rw [XS.answer, adel_none (aget_eq_none.1 hna)]
      simpa [List.filter_append, List.filter_cons, ho] using h1
    · simp only [List.filter_append, List.filter_cons, ho, if_true, List.map_append, List.map_cons] at h2 ⊢
      exact adel_keys hs.no h2
theorem RL.orphan (h : RL s (C ++ o :: D)) (hs : s.Ok) (ho : o.orph = false) : RL (s.orphan o.id) (C ++ { o with orph := true } :: D) := by
  have hsrt := List.pairwise_append.1 h.srt
  have h1 := h.pa
  have h2 := h.po
  refine ⟨List.pairwise_append.2 ⟨hsrt.1, List.pairwise_cons.2 ⟨fun a ha => List.rel_of_pairwise_cons hsrt.2.1 ha, hsrt.2.1.of_cons⟩, fun a ha b hb => ?_⟩, ?_, ?_⟩
  · rcases List.mem_cons.1 hb with rfl | hb
    · exact hsrt.2.2 a ha o (by simp)
    · exact hsrt.2.2 a ha b (by simp [hb])
  · simp only [List.filter_append, List.filter_cons, ho, Bool.not_false, if_true, List.map_append, List.map_cons] at h1
    simp only [XS.orphan, List.filter_append, List.filter_cons, Bool.not_true, List.map_append]
    simpa using adel_perm hs.na h1
  · simp only [List.filter_append, List.filter_cons, ho, List.map_append] at h2
    simp only [XS.orphan, List.map_append, List.map_cons, List.map_nil, List.filter_append, List.filter_cons, if_true]
    refine (List.Perm.append_right _ (by simpa using h2)).trans ?_
    rw [List.append_assoc]
    exact List.Perm.append_left _ (List.perm_append_singleton _ _)

/-! ## What is due -/
theorem RL.till (h : RL s L) (hs : s.Ok) (ho : o ∈ L) (hp : o.orph = false) : s.till o.id = o.until_ := by
  rw [XS.till, aget_of_mem hs.na (h.asked_mem.2 ⟨o, ho, hp, rfl⟩)]; rfl
theorem ins_perm (out : List XO) (x : XO) : (ins out x).Perm (x :: out) := by
  unfold ins
  refine List.perm_middle.trans ?_
  rw [List.take_append_drop]
theorem fold_perm : ∀ (l out : List XO), (l.foldl ins out).Perm (out ++ l)
  | [], out => by simp
  | a :: t, out => by
    refine (fold_perm t (ins out a)).trans ?_
    refine (List.Perm.append_right _ (ins_perm out a)).trans ?_
    exact (List.perm_middle (l₁ := out) (a := a) (l₂ := t)).symm
def XO.lex (a b : XO) : Prop := a.until_ < b.until_ ∨ a.until_ = b.until_ ∧ a.id < b.id
theorem ins_sorted {out : List XO} {x : XO} (h : out.Pairwise XO.lex) (hx : ∀ a ∈ out, a.id < x.id) : (ins out x).Pairwise XO.lex := by
  have hlow : ∀ a ∈ out.take (out.findIdx fun o => !decide (o.until_ ≤ x.until_)), a.until_ ≤ x.until_ := by
    intro a ha
    obtain ⟨i, hi, e⟩ := List.getElem_of_mem ha
    rw [List.length_take] at hi
    rw [List.getElem_take] at e
    have := List.not_of_lt_findIdx (p := fun o : XO => !decide (o.until_ ≤ x.until_)) (xs := out) (i := i) (by omega)
    rw [e] at this
    simpa using this
  have hhigh : ∀ a ∈ out.drop (out.findIdx fun o => !decide (o.until_ ≤ x.until_)), x.until_ < a.until_ := by
    intro a ha
    obtain ⟨i, hi, e⟩ := List.getElem_of_mem ha
    rw [List.length_drop] at hi
    rw [List.getElem_drop] at e
    have hlt : out.findIdx (fun o => !decide (o.until_ ≤ x.until_)) < out.length := by omega
    have h0 := List.findIdx_getElem (w := hlt)
    simp only [Bool.not_eq_true', decide_eq_false_iff_not] at h0
    cases i with
    | zero => simp only [Nat.add_zero] at e; rw [e] at h0; omega
    | succ i =>
      have h1 := List.pairwise_iff_getElem.1 h _ _ hlt (by omega) (by omega : out.findIdx (fun o => !decide (o.until_ ≤ x.until_)) < out.findIdx (fun o => !decide (o.until_ ≤ x.until_)) + (i + 1))
      rw [e] at h1
      unfold XO.lex at h1
      omega
  unfold ins
  generalize out.findIdx (fun o => !decide (o.until_ ≤ x.until_)) = t at *
  have h2 := h
  rw [← List.take_append_drop t out] at h2
  have h3 := List.pairwise_append.1 h2
  refine List.pairwise_append.2 ⟨h3.1, List.pairwise_cons.2 ⟨fun b hb => .inl (hhigh b hb), h3.2.1⟩, fun a ha b hb => ?_⟩
  rcases List.mem_cons.1 hb with rfl | hb
  · have h4 := hlow a ha
    have h5 := hx a (List.mem_of_mem_take ha)
    unfold XO.lex; omega
  · exact h3.2.2 a ha b hb
theorem fold_sorted : ∀ (l out : List XO), out.Pairwise XO.lex → l.Pairwise (fun a b => a.id < b.id) → (∀ a ∈ out, ∀ b ∈ l, a.id < b.id) → (l.foldl ins out).Pairwise XO.lex
  | [], out, h, _, _ => h
  | a :: t, out, h, hl, hx => by
    refine fold_sorted t (ins out a) (ins_sorted h fun b hb => hx b hb a (by simp)) hl.of_cons fun b hb c hc => ?_
    rcases List.mem_cons.1 ((ins_perm out a).mem_iff.1 hb) with rfl | hb
    · exact List.rel_of_pairwise_cons hl hc
    · exact hx b hb c (by simp [hc])
theorem RL.due (h : RL s L) (hs : s.Ok) : s.due now = (dueL now L).map (·.id) := by
  have hp : (dueL now L).Perm (L.filter fun o => !o.orph && decide (o.until_ ≤ now)) := by
    have := fold_perm (L.filter fun o => !o.orph && decide (o.until_ ≤ now)) []
    simpa [dueL] using this
  have hmem : ∀ o ∈ dueL now L, o ∈ L ∧ o.orph = false := fun o ho => by
    have := List.mem_filter.1 (hp.mem_iff.1 ho)
    simp only [Bool.and_eq_true, Bool.not_eq_true'] at this
    exact ⟨this.1, this.2.1⟩
  have hst : ((dueL now L).map (·.id)).Pairwise fun a b => s.le a b = true := by
    rw [List.pairwise_map]
    have h1 : (dueL now L).Pairwise XO.lex := fold_sorted _ [] .nil (h.srt.sublist List.filter_sublist) (by simp)
    refine h1.imp_of_mem ?_
    intro a b ha hb hab
    rw [s.le_eq, decide_eq_true_eq, h.till hs (hmem a ha).1 (hmem a ha).2, h.till hs (hmem b hb).1 (hmem b hb).2]
    unfold XO.lex at hab
    omega
  have hperm : (s.ripe now (s.asked.map (·.1))).Perm ((dueL now L).map (·.id)) := by
    have h1 : (s.asked.map (·.1)).Perm ((L.filter fun o => !o.orph).map (·.id)) := by
      have := h.pa.map (·.1)
      simpa [List.map_map, Function.comp_def] using this
    unfold XS.ripe
    refine (h1.filter _).trans ?_
    rw [List.filter_map]
    refine (List.Perm.map _ ?_).trans (List.Perm.map _ hp.symm)
    rw [List.filter_filter]
    refine List.Perm.of_eq (List.filter_congr fun o ho => ?_)
    cases hpo : o.orph with
    | true => simp
    | false =>
      have := h.till hs ho hpo
      simp [this]
  rw [XS.due, XS.sort_perm s hperm]
  exact List.mergeSort_of_pairwise hst
end
end Go.Proofs.YtelcielfhgijpaaDoor

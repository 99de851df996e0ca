/- hosts: Refresh's second loop: what stands in the heap behind so many of its rounds. -/
import Derived.Test.YtjkmgpmknadhjaaGreatHoRefA
import Derived.Test.YtjkmgpmknadhjaaGreatHoSort
import Derived.Test.YtjkmgpmknadhjaaGreatFam2
import Derived.Maps.RangeRun
namespace Go.Proofs.YtjkmgpmknadhjaaGreat
set_option linter.unusedVariables false
open Go.RowKit Go.MapKept
open Go.ChangeMaps (setBlock)

section
variable {α β : Type} [DecidableEq α]
theorem adel_sub {k : α} : ∀ (l : List (α × β)), (adel k l).Sublist l
  | [] => .slnil
  | (a, b) :: t => by
    by_cases h : a = k
    · rw [adel, if_pos h]; exact List.sublist_cons_self _ _
    · rw [adel, if_neg h]; exact (adel_sub t).cons_cons _
theorem aget_adel {k y : α} : ∀ {l : List (α × β)}, (l.map (·.1)).Nodup → aget y (adel k l) = if k = y then none else aget y l
  | [], _ => by simp [adel, aget]
  | (a, b) :: t, hn => by
    have hn' : a ∉ t.map (·.1) ∧ (t.map (·.1)).Nodup := List.nodup_cons.1 hn
    by_cases h : a = k
    · subst h
      rw [adel, if_pos rfl]
      by_cases e : a = y
      · subst e
        rw [if_pos rfl]
        exact aget_none fun p hp e => hn'.1 (List.mem_map.2 ⟨p, hp, e⟩)
      · rw [if_neg e, aget, if_neg e]
    · rw [adel, if_neg h, aget, aget_adel hn'.2, aget]
      by_cases e : a = y
      · subst e
        rw [if_pos rfl, if_neg (Ne.symm h), if_pos rfl]
      · rw [if_neg e, if_neg e]
variable {d : TypeDesc} {key : α → Value} {val : β → Value} {w : World} {m ck : Nat} {es : Array MapEntry} {L : List (α × β)} {P : Program} {mt kt et : TypeId}
/-- A deletion, its entries known. -/
theorem run_delete_at (hh : w.heap[m]? = some (.map es ck)) (hst : Stamped es ck) (hL : es.toList.map (fun e => (e.key, e.val)) = L.map (fun p => (key p.1, val p.2))) (K : KeyEmb d key) (hm : P.underlying mt = some (.map kt et)) (hk : P.underlying kt = some d) (k : α) :
    ∃ es' : Array MapEntry, (∀ ty kt', (Builtin.delete_ #[mt, kt'] ty #[.map (some m), key k]).run P w = .ok (.tuple #[]) (setBlock w m (.map es' ck))) ∧ Stamped es' ck ∧ es'.toList.map (fun e => (e.key, e.val)) = (adel k L).map (fun p => (key p.1, val p.2)) ∧ es'.toList.Sublist es.toList := by
  rcases KMap.find es K hL k with ⟨h1, h2, h3⟩ | ⟨A, B, v', E, F, x, rfl, hA, he, hE, hx, hv, hEA, hFB, hf⟩
  · refine ⟨es, ?_, hst, ?_, List.Sublist.refl _⟩
    · intro ty kt'; simp [Builtin.delete_, run_underlying hm, MapKept.run_getObj_map hh, MapKept.run_checkKey hk (K.is k), MapKept.run_findKey hk h1, MapKept.run_setObj_map _ hh, Result.andThen, Go.ChangeMaps.setBlock]
    · rw [adel_none h3]; exact hL
  · have hlt : A.length < es.size := by
      have := congrArg List.length he
      simp at this; omega
    have e1 : (es.eraseIdxIfInBounds A.length).toList = E ++ F := by
      unfold Array.eraseIdxIfInBounds
      rw [dif_pos hlt, Array.toList_eraseIdx, he, ← hE]
      simp [List.eraseIdx_append_of_length_le]
    refine ⟨es.eraseIdxIfInBounds A.length, ?_, stamped_erase hst _, ?_, ?_⟩
    · intro ty kt'; simp [Builtin.delete_, run_underlying hm, MapKept.run_getObj_map hh, MapKept.run_checkKey hk (K.is k), MapKept.run_findKey hk hf, MapKept.run_setObj_map _ hh, Result.andThen, Go.ChangeMaps.setBlock]
    · rw [adel_mid hA, e1]
      simp [hEA, hFB]
    · rw [e1, he]
      exact (List.Sublist.refl E).append (List.sublist_cons_self x F)
end
theorem Fam.one {w : World} {base : Nat} {e : TypeId} {sz n : Nat} {v : Value} {xs : List Value} (h : w.ownsRow base e sz v n xs) : Fam w base [⟨e, sz, v, n, xs⟩] := by
  refine ⟨fun i r hr => ?_, fun i j a b hij ha hb k hk => ?_⟩
  · rcases i with _ | i
    · cases hr; exact h
    · simp at hr
  · rcases i with _ | i <;> rcases j with _ | j
    · exact absurd rfl hij
    · simp at hb
    · simp at ha
    · simp at ha
theorem left_sub {es es' : Array MapEntry} (h : es'.toList.Sublist es.toList) (seen : Array Nat) : (leftOf es' seen).size ≤ (leftOf es seen).size := by
  unfold leftOf
  have := (h.filter fun e => !seen.contains e.born).length_le
  have e1 : ∀ a : Array MapEntry, (Array.filter (fun e => !seen.contains e.born) a).size = (a.toList.filter fun e => !seen.contains e.born).length := fun a => by
    have h2 := congrArg List.length (Array.toList_filter (p := fun e : MapEntry => !seen.contains e.born) (xs := a))
    rwa [Array.length_toList] at h2
  rw [e1, e1]
  exact this
def gin (G : List ByteArray) (x : ByteArray) : Bool := G.any fun y => decide (y = x)
theorem gin_iff {G : List ByteArray} {x : ByteArray} : gin G x = true ↔ x ∈ G := by
  unfold gin
  rw [List.any_eq_true]
  exact ⟨fun ⟨y, h1, h2⟩ => by have := of_decide_eq_true h2; exact this ▸ h1, fun h => ⟨x, h, decide_eq_true rfl⟩⟩

/-- Behind so many rounds of the second loop: G are gone. -/
structure DelAt (w wr : World) (own : Nat → Prop) (g m sm Rr ck : Nat) (dc : ByteArray) (rem : Int) (V : View) (K : List (ByteArray × Bool)) (A : List ByteArray) (va vg : Value) (es : Array MapEntry) (L : List (ByteArray × HV)) (seen : Array Nat) (c0 : Nat) (G : List ByteArray) : Prop where
  hh : wr.heap[m]? = some (.map es ck)
  st : Stamped es ck
  hL : es.toList.map (fun e => (e.key, e.val)) = L.map (fun p => (Value.string p.1, hvV p.2))
  tab : TabAt wr (ownI wr w.heap.size own) g m dc rem L
  it : wr.heap[Rr]? = some (.mapIter (some m) ck seen c0)
  le : ck ≤ c0
  view : ∀ x, (aget x L).map HV.abs = if gin G x = true then none else V x
  nd : G.Nodup
  gone : ∀ x ∈ G, (aget x K).getD false = false ∧ (V x).isSome = true
  seen : ∀ e ∈ es.toList, seen.contains e.born = true → ∃ x, e.key = .string x ∧ (aget x K).getD false = true
  names : KMap .string (fun s : ByteArray => Value.string s) Value.bool wr sm K
  fam : Fam wr w.heap.size [⟨9, 1, va, A.length, A.map Value.string⟩, ⟨9, 1, vg, G.length, G.map Value.string⟩]
  kept : Kept (fun k => k = m) w wr
  new : w.heap.size ≤ sm ∧ w.heap.size ≤ Rr
section
variable {w wr w' : World} {own : Nat → Prop} {g m sm Rr ck : Nat} {dc : ByteArray} {rem : Int} {V : View} {K : List (ByteArray × Bool)} {A : List ByteArray} {va vg : Value} {es : Array MapEntry} {L : List (ByteArray × HV)} {seen : Array Nat} {c0 : Nat} {G : List ByteArray}
theorem DelAt.map (h : DelAt w wr own g m sm Rr ck dc rem V K A va vg es L seen c0 G) : HoMap wr m L := ⟨es, ck, h.hh, h.st, h.hL⟩
theorem ownI_lt (hown : ∀ k, own k → k < w.heap.size) (hs : w.heap.size ≤ wr.heap.size) {k : Nat} (h : ownI wr w.heap.size own k) : k < wr.heap.size := by
  rcases h with h | ⟨_, cs, fz, h⟩
  · exact Nat.lt_of_lt_of_le (hown k h) hs
  · exact lt_of_heap h
/-- At the start. -/
theorem DelAt.start (hown : ∀ k, own k → k < w.heap.size) {W : World} {V0 : View} {l : List Ho} (hR : RefAt w W own g m sm dc rem V0 l va) (hK : KMap .string (fun s : ByteArray => Value.string s) Value.bool W sm K) (hA : W.ownsRow w.heap.size 9 1 va A.length (A.map Value.string))
    (hT : TabAt W (ownI W w.heap.size own) g m dc rem L) (hV : ∀ x, (aget x L).map HV.abs = V x) (hh : W.heap[m]? = some (.map es ck)) (hst : Stamped es ck) (hL : es.toList.map (fun e => (e.key, e.val)) = L.map (fun p => (Value.string p.1, hvV p.2)))
    (hk : Kept noBlock W wr) (hi : wr.heap[W.heap.size]? = some (.mapIter (some m) ck #[] ck)) : DelAt w wr own g m sm W.heap.size ck dc rem V K A va (.slice none 0 0) es L #[] ck [] := by
  refine ⟨(hk.block m (lt_of_heap hh) (fun e => e)).trans hh, hst, hL, (hT.keptN hk).wide (fun k e => ownI_kept e hk fun _ _ _ _ e => e) (fun k e => ownI_lt hown (Nat.le_trans hR.kept.size hk.size) e), hi, Nat.le_refl _, fun x => by rw [hV]; rfl, List.nodup_nil, fun x hx => absurd hx List.not_mem_nil, fun e _ h => by simp at h, hK.kept hk (fun e => e), ?_, hR.kept.trans hk fun _ _ e => e.elim, hR.new, hR.kept.size⟩
  exact ((Fam.one hA).more 9 1).keptN hk
/-- The iterator has gone on: e's name is one that was seen. -/
theorem DelAt.pass (h : DelAt w wr own g m sm Rr ck dc rem V K A va vg es L seen c0 G) {e : MapEntry} {x : ByteArray} (he : e ∈ es.toList) (hx : e.key = .string x) (hs : (aget x K).getD false = true) (hk : Kept (fun k => k = Rr) wr w') (hi : w'.heap[Rr]? = some (.mapIter (some m) ck (seen.push e.born) ck)) (hown : ∀ k, own k → k < w.heap.size) :
    DelAt w w' own g m sm Rr ck dc rem V K A va vg es L (seen.push e.born) ck G := by
  have hRr : ∀ o, o.isCells = true → wr.heap[Rr]? ≠ some o := fun o ho e => by rw [h.it] at e; cases e; cases ho
  have hRm : m ≠ Rr := fun e => by have := h.hh; rw [e, h.it] at this; cases this
  have hRs : sm ≠ Rr := fun e => by obtain ⟨es', ck', hh'⟩ := h.names.heap; rw [e, h.it] at hh'; cases hh'
  have hno : ∀ k, ownI wr w.heap.size own k → k ≠ Rr := by
    rintro k (h1 | ⟨_, cs, fz, h1⟩) e
    · have := hown k h1; have := h.new.2; omega
    · subst e; exact hRr _ rfl h1
  refine ⟨(hk.block m (lt_of_heap h.hh) hRm).trans h.hh, h.st, h.hL, (h.tab.kept hk hno).wide (fun k e => ownI_kept e hk fun k cs fz h2 e => by subst e; exact hRr _ rfl h2) (fun k e => ownI_lt hown (Nat.le_trans h.kept.size hk.size) e), hi, Nat.le_refl _, h.view, h.nd, h.gone, fun e' he' hs' => ?_, h.names.kept hk hRs, ?_, h.kept.trans hk fun k hlt e => ?_, h.new⟩
  · by_cases hb : e'.born = e.born
    · have : e' = e := by
        have hp := List.pairwise_map.1 h.st.2.1
        exact Classical.byContradiction fun hne => by
          obtain ⟨i, hi', rfl⟩ := List.getElem_of_mem he'
          obtain ⟨j, hj', rfl⟩ := List.getElem_of_mem he
          have hij : i ≠ j := fun e => hne (by subst e; rfl)
          rcases Nat.lt_or_ge i j with hl | hl
          · exact (List.pairwise_iff_getElem.1 hp i j hi' hj' hl) hb
          · exact (List.pairwise_iff_getElem.1 hp j i hj' hi' (by omega)) hb.symm
      subst this
      exact ⟨x, hx, hs⟩
    · refine h.seen e' he' ?_
      simp only [Array.contains_eq_mem, Array.mem_push, decide_eq_true_eq] at hs' ⊢
      rcases hs' with h1 | h1
      · exact h1
      · exact absurd h1 hb
  · refine ⟨fun i r hr => own_keptB (h.fam.1 i r hr) hk fun k e1 e2 => ?_, h.fam.2⟩
    subst e2
    obtain ⟨_, cs, hc⟩ := own_type (h.fam.1 i r hr) e1
    exact hRr _ rfl hc
  · have := h.new.2; omega
/-- .. one that was not: it is told, and goes. -/
theorem DelAt.drop (h : DelAt w wr own g m sm Rr ck dc rem V K A va vg es L seen c0 G) {e : MapEntry} {x : ByteArray} {v : HV} {W : World} {vg' : Value} {es' : Array MapEntry} (he : e ∈ es.toList) (hx : e.key = .string x) (hs : (aget x K).getD false = false) (hk : Kept (fun k => k = Rr ∨ vg.ownBlock = some k) wr W)
    (hi : W.heap[Rr]? = some (.mapIter (some m) ck (seen.push e.born) ck)) (hf : Fam W w.heap.size [⟨9, 1, va, A.length, A.map Value.string⟩, ⟨9, 1, vg', G.length + 1, (G ++ [x]).map Value.string⟩])
    (hst : Stamped es' ck) (hL : es'.toList.map (fun e => (e.key, e.val)) = (adel x L).map (fun p => (Value.string p.1, hvV p.2))) (hsub : es'.toList.Sublist es.toList) (hown : ∀ k, own k → k < w.heap.size) :
    DelAt w (setBlock W m (.map es' ck)) own g m sm Rr ck dc rem V K A va vg' es' (adel x L) (seen.push e.born) ck (G ++ [x]) := by
  have hRr : ∀ o, o.isCells = true → wr.heap[Rr]? ≠ some o := fun o ho e => by rw [h.it] at e; cases e; cases ho
  have hRm : m ≠ Rr := fun e => by have := h.hh; rw [e, h.it] at this; cases this
  have hRs : sm ≠ Rr := fun e => by obtain ⟨es', ck', hh'⟩ := h.names.heap; rw [e, h.it] at hh'; cases hh'
  have hvg : ∀ k, vg.ownBlock = some k → w.heap.size ≤ k ∧ ∃ cs, wr.heap[k]? = some (.cells cs 9 (0, 0)) := fun k e => own_type (h.fam.get 1 rfl) e
  have hmb : ∀ k, vg.ownBlock = some k → m ≠ k := fun k e e2 => by obtain ⟨_, cs, hc⟩ := hvg k e; rw [← e2, h.hh] at hc; cases hc
  have hsb : ∀ k, vg.ownBlock = some k → sm ≠ k := fun k e e2 => by
    obtain ⟨_, cs, hc⟩ := hvg k e
    obtain ⟨es', ck', hh'⟩ := h.names.heap
    rw [← e2, hh'] at hc; cases hc
  have hno : ∀ k, ownI wr w.heap.size own k → ¬ (k = Rr ∨ vg.ownBlock = some k) := by
    rintro k hk' (rfl | e)
    · rcases hk' with h1 | ⟨_, cs, fz, h1⟩
      · have := hown k h1; have := h.new.2; omega
      · exact hRr _ rfl h1
    · obtain ⟨e1, cs', e2⟩ := hvg k e
      rcases hk' with h1 | ⟨_, cs, fz, h1⟩
      · have := hown k h1; omega
      · rw [e2] at h1; injection h1 with h1; injection h1 with _ h1; exact absurd h1 (by decide)
  have hmW : W.heap[m]? = some (.map es ck) := (hk.block m (lt_of_heap h.hh) (fun e => e.elim hRm fun e => hmb m e rfl)).trans h.hh
  have hk2 : Kept (fun k => k = m) W (setBlock W m (.map es' ck)) := (Kept.refl (fun k => k = m) W).setBlock (m := m) (fun _ => rfl) _
  have hTW : TabAt W (ownI wr w.heap.size own) g m dc rem L := h.tab.kept hk hno
  have hsm : sm ≠ m := fun e => by
    rcases h.tab.om with h1 | ⟨_, cs, fz, h1⟩
    · have := hown m h1; have := h.new.1; omega
    · rw [h.hh] at h1; cases h1
  have hgm : g ≠ m := fun e => h.tab.map.ne_blk h.tab.blk e
  have hxL : (aget x L).isSome = true := by
    obtain ⟨i, hi'⟩ := List.getElem?_of_mem he
    have h1 := congrArg (fun l => l[i]?) h.hL
    simp only [List.getElem?_map, hi', Option.map_some] at h1
    cases hp : L[i]? with
    | none => rw [hp] at h1; simp at h1
    | some p =>
      rw [hp, hx] at h1
      simp only [Option.map_some, Option.some.injEq, Prod.mk.injEq, Value.string.injEq] at h1
      have := aget_of_mem h.tab.nd (show (x, p.2) ∈ L by rw [h1.1]; exact List.mem_of_getElem? hp)
      rw [this]; rfl
  have hxG : x ∉ G := fun e => by
    have := h.view x
    rw [if_pos (gin_iff.2 e)] at this
    cases hg : aget x L with
    | none => rw [hg] at hxL; cases hxL
    | some v => rw [hg] at this; cases this
  have hVx : (V x).isSome = true := by
    have := h.view x
    rw [if_neg (fun e => hxG (gin_iff.1 e))] at this
    rw [← this, Option.isSome_map]
    exact hxL
  refine ⟨heap_setBlock_me (lt_of_heap hmW) _, hst, hL, ?_, (heap_setBlock _ _ _ _ (Ne.symm hRm)).trans hi, Nat.le_refl _, fun y => ?_, ?_, fun y hy => ?_, fun e' he' hs' => ?_, (h.names.kept hk (fun e => e.elim hRs fun e => hsb sm e rfl)).setBlock hsm _, ?_, (h.kept.trans hk fun i hi' e => ?_).trans hk2 fun i _ e => e, h.new⟩
  · have h1 : TabAt (setBlock W m (.map es' ck)) (ownI wr w.heap.size own) g m dc rem (adel x L) := by
      refine ⟨hTW.blk.kept hk2 hgm, ⟨es', ck, heap_setBlock_me (lt_of_heap hmW) _, hst, hL⟩, ?_, h.tab.og, h.tab.om, fun p hp => ?_, fun p hp => h.tab.nm p ((adel_sub L).subset hp), fun k e => Nat.lt_of_lt_of_le (hTW.lt k e) (by rw [size_setBlock]; exact Nat.le_refl _)⟩
      · exact ((adel_sub L).map _).nodup h.tab.nd
      · exact (hTW.ot p ((adel_sub L).subset hp)).keptAll hk2 fun k _ e e2 => e.2.2 e2
    refine h1.wide (fun k e => ?_) fun k e => ownI_lt hown (Nat.le_trans h.kept.size (Nat.le_trans hk.size hk2.size)) e
    refine ownI_kept (w := W) ?_ hk2 fun k cs fz h2 e => by subst e; rw [hmW] at h2; cases h2
    rcases e with e | ⟨h2, cs, fz, h3⟩
    · exact .inl e
    · exact .inr ⟨h2, cs, fz, (hk.block k (lt_of_heap h3) (hno k (.inr ⟨h2, cs, fz, h3⟩))).trans h3⟩
  · rw [aget_adel h.tab.nd]
    by_cases e : x = y
    · subst e
      rw [if_pos rfl, if_pos (gin_iff.2 (List.mem_append.2 (.inr (List.mem_singleton.2 rfl))))]; rfl
    · rw [if_neg e, h.view]
      have : gin (G ++ [x]) y = gin G y := by
        rw [Bool.eq_iff_iff, gin_iff, gin_iff, List.mem_append, List.mem_singleton]
        exact ⟨fun h => h.resolve_right (Ne.symm e), .inl⟩
      rw [this]
  · exact List.nodup_append.2 ⟨h.nd, by simp, fun a ha b hb => by simp only [List.mem_singleton] at hb; subst hb; exact fun e => hxG (e ▸ ha)⟩
  · rcases List.mem_append.1 hy with hy | hy
    · exact h.gone y hy
    · simp only [List.mem_singleton] at hy
      subst hy
      exact ⟨hs, hVx⟩
  · have he2 := hsub.subset he'
    by_cases hb : e'.born = e.born
    · exfalso
      have hin : e' = e := by
        have hp := List.pairwise_map.1 h.st.2.1
        exact Classical.byContradiction fun hne => by
          obtain ⟨i, hi', rfl⟩ := List.getElem_of_mem he2
          obtain ⟨j, hj', rfl⟩ := List.getElem_of_mem he
          have hij : i ≠ j := fun e => hne (by subst e; rfl)
          rcases Nat.lt_or_ge i j with hl | hl
          · exact (List.pairwise_iff_getElem.1 hp i j hi' hj' hl) hb
          · exact (List.pairwise_iff_getElem.1 hp j i hj' hi' (by omega)) hb.symm
      subst hin
      obtain ⟨i, hi'⟩ := List.getElem?_of_mem he'
      have h1 := congrArg (fun l => l[i]?) hL
      simp only [List.getElem?_map, hi', Option.map_some] at h1
      cases hp : (adel x L)[i]? with
      | none => rw [hp] at h1; simp at h1
      | some p =>
        rw [hp, hx] at h1
        simp only [Option.map_some, Option.some.injEq, Prod.mk.injEq, Value.string.injEq] at h1
        have hpm := List.mem_of_getElem? hp
        have hpe : p = (x, p.2) := by rw [h1.1]
        rw [hpe] at hpm
        have h4 := aget_of_mem (((adel_sub L).map (·.1)).nodup h.tab.nd) hpm
        rw [aget_adel h.tab.nd, if_pos rfl] at h4
        cases h4
    · refine h.seen e' he2 ?_
      simp only [Array.contains_eq_mem, Array.mem_push, decide_eq_true_eq] at hs' ⊢
      rcases hs' with h1 | h1
      · exact h1
      · exact absurd h1 hb
  · refine ⟨fun i r hr => ?_, fun i j a b hij ha hb k hk' => ?_⟩
    · have h5 : ∀ (i : Nat) (r : Rw), [(⟨9, 1, va, A.length, A.map Value.string⟩ : Rw), ⟨9, 1, vg', (G ++ [x]).length, (G ++ [x]).map Value.string⟩][i]? = some r → [(⟨9, 1, va, A.length, A.map Value.string⟩ : Rw), ⟨9, 1, vg', G.length + 1, (G ++ [x]).map Value.string⟩][i]? = some r := by
        intro i r h; rw [List.length_append] at h; exact h
      exact own_setBlock (hf.1 i r (h5 i r hr)) hmW _
    · rw [List.length_append] at ha hb
      exact hf.2 i j a b hij ha hb k hk'
  · rcases e with rfl | e
    · have := h.new.2; omega
    · have := (hvg i e).1; omega
/-- At the end. -/
theorem DelAt.done (h : DelAt w wr own g m sm Rr ck dc rem V K A va vg es L seen c0 G) (h0 : (leftOf es seen).size = 0) {V0 : View} {l : List Ho} (hV : ∀ x, V x = viewR V0 l x) (hV0 : V0 noStr = none) (hK : ∀ x, (aget x K).getD false = true ↔ (x = noStr ∨ ∃ o ∈ l, o.name = x)) :
    (∀ x, (aget x L).map HV.abs = refr V0 l x) ∧ ∀ x, x ∈ G ↔ (V0 x).isSome = true ∧ refr V0 l x = none := by
  have hall := all_seen es seen h0
  have hG : ∀ x, x ∈ G ↔ (aget x K).getD false = false ∧ (V x).isSome = true := by
    intro x
    refine ⟨h.gone x, fun ⟨h1, h2⟩ => Classical.byContradiction fun hn => ?_⟩
    have h3 := h.view x
    rw [if_neg (fun e => hn (gin_iff.1 e))] at h3
    cases hg : aget x L with
    | none => rw [hg] at h3; rw [← h3] at h2; cases h2
    | some v =>
      obtain ⟨i, hi'⟩ := List.getElem?_of_mem (aget_mem hg)
      have h4 := congrArg (fun l => l[i]?) h.hL
      simp only [List.getElem?_map, hi', Option.map_some] at h4
      cases hp : es.toList[i]? with
      | none => rw [hp] at h4; simp at h4
      | some e =>
        rw [hp] at h4
        simp only [Option.map_some, Option.some.injEq, Prod.mk.injEq] at h4
        have hm := List.mem_of_getElem? hp
        obtain ⟨y, hy, hy2⟩ := h.seen e hm (hall e hm)
        rw [h4.1] at hy
        injection hy with hy
        subst hy
        rw [h1] at hy2; cases hy2
  have hKf : ∀ x, (aget x K).getD false = false ↔ ¬ (x = noStr ∨ ∃ o ∈ l, o.name = x) := by
    intro x; rw [← hK]; cases (aget x K).getD false <;> simp
  have hre : ∀ x, ¬ (x = noStr ∨ ∃ o ∈ l, o.name = x) → refr V0 l x = none := by
    intro x hx
    cases hr : refr V0 l x with
    | none => rfl
    | some o => exact absurd ((refr_has (fun e => hx (.inl e))).1 (by rw [hr]; rfl)) fun e => hx (.inr e)
  have hvr : ∀ x, (x = noStr ∨ ∃ o ∈ l, o.name = x) → viewR V0 l x = refr V0 l x := by
    intro x hx
    by_cases e : x = noStr
    · subst e
      unfold viewR
      rw [refr_empty]
      exact hV0
    · have h2 := (refr_has (V := V0) e).2 (hx.resolve_left e)
      unfold viewR
      cases hr : refr V0 l x with
      | none => rw [hr] at h2; cases h2
      | some o => rfl
  refine ⟨fun x => ?_, fun x => ?_⟩
  · rw [h.view]
    by_cases hx : x = noStr ∨ ∃ o ∈ l, o.name = x
    · have : x ∉ G := fun e => ((hKf x).1 ((hG x).1 e).1) hx
      rw [if_neg (fun e => this (gin_iff.1 e)), hV, hvr x hx]
    · rw [hre x hx]
      by_cases e : x ∈ G
      · rw [if_pos (gin_iff.2 e)]
      · rw [if_neg (fun e2 => e (gin_iff.1 e2))]
        cases hv : V x with
        | none => rfl
        | some o => exact absurd ((hG x).2 ⟨(hKf x).2 hx, by rw [hv]; rfl⟩) e
  · rw [hG, hKf]
    constructor
    · rintro ⟨h1, h2⟩
      refine ⟨?_, hre x h1⟩
      rw [hV, viewR_old fun e => h1 (.inr e)] at h2
      exact h2
    · rintro ⟨h1, h2⟩
      have h3 : ¬ (x = noStr ∨ ∃ o ∈ l, o.name = x) := by
        rintro (e | e)
        · subst e; rw [hV0] at h1; cases h1
        · by_cases e2 : x = noStr
          · subst e2; rw [hV0] at h1; cases h1
          · have := (refr_has (V := V0) e2).2 e
            rw [h2] at this; cases this
      exact ⟨h3, by rw [hV, viewR_old fun e => h3 (.inr e)]; exact h1⟩
end
end Go.Proofs.YtjkmgpmknadhjaaGreat

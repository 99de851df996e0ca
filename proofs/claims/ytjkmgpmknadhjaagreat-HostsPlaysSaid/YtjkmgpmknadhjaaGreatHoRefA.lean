/- hosts: Refresh: what stands in the heap behind i rounds of its first loop. -/
import Derived.Test.YtjkmgpmknadhjaaGreatHoRefP
import Derived.Test.YtjkmgpmknadhjaaGreatHoAll
namespace Go.Proofs.YtjkmgpmknadhjaaGreat
set_option linter.unusedVariables false
open Go.RowKit
open Go.ChangeMaps (setBlock)

/-- The table's own blocks in a call that began at world's end N: those it had, and the rows of tokens made since. -/
def ownI (w : World) (N : Nat) (own : Nat → Prop) (k : Nat) : Prop := own k ∨ (N ≤ k ∧ ∃ cs fz, w.heap[k]? = some (.cells cs 2 fz))
theorem ownI_kept {w w' : World} {N : Nat} {own : Nat → Prop} {S : Nat → Prop} {k : Nat} (h : ownI w N own k) (hk : Kept S w w') (hS : ∀ k cs fz, w.heap[k]? = some (.cells cs 2 fz) → ¬ S k) : ownI w' N own k := by
  rcases h with h | ⟨h1, cs, fz, h2⟩
  · exact .inl h
  · exact .inr ⟨h1, cs, fz, (hk.block k (lt_of_heap h2) (hS k cs fz h2)).trans h2⟩
/-- Behind the hosts l (of those that the call was handed): sm is the map of the names that were seen, va the row of the names added. -/
structure RefAt (w wr : World) (own : Nat → Prop) (g m sm : Nat) (dc : ByteArray) (rem : Int) (V : View) (l : List Ho) (va : Value) : Prop where
  tab : ∃ L, TabAt wr (ownI wr w.heap.size own) g m dc rem L ∧ ∀ x, (aget x L).map HV.abs = viewR V l x
  seen : ∃ K : List (ByteArray × Bool), KMap .string (fun s : ByteArray => Value.string s) Value.bool wr sm K ∧ ∀ x, (aget x K).getD false = true ↔ (x = noStr ∨ ∃ o ∈ l, o.name = x)
  adds : ∃ A : List ByteArray, addsR V l A ∧ wr.ownsRow w.heap.size 9 1 va A.length (A.map Value.string)
  new : w.heap.size ≤ sm
  kept : Kept (fun k => k = m) w wr
section
variable {w wr w' : World} {own : Nat → Prop} {g m sm : Nat} {dc : ByteArray} {rem : Int} {V : View} {l : List Ho} {va : Value}
theorem RefAt.keptN (h : RefAt w wr own g m sm dc rem V l va) (hk : Kept noBlock wr w') : RefAt w w' own g m sm dc rem V l va := by
  obtain ⟨⟨L, h1, h2⟩, ⟨K, h3, h4⟩, ⟨A, h5, h6⟩, h7, h8⟩ := h
  have hlt : ∀ k, ownI w' w.heap.size own k → k < w'.heap.size := fun k hk' => by
    rcases hk' with h | ⟨_, cs, fz, h⟩
    · exact Nat.lt_of_lt_of_le (h1.lt k (.inl h)) hk.size
    · exact lt_of_heap h
  exact ⟨⟨L, (h1.keptN hk).wide (fun k e => ownI_kept e hk fun _ _ _ _ e => e) hlt, h2⟩, ⟨K, h3.kept hk (fun e => e), h4⟩, ⟨A, h5, own_keptB h6 hk (fun _ _ e => e)⟩, h7, h8.trans hk fun _ _ e => e.elim⟩
/-- A host that was seen. -/
theorem RefAt.skip (h : RefAt w wr own g m sm dc rem V l va) {o : Ho} (hs : o.name = noStr ∨ ∃ p ∈ l, p.name = o.name) : RefAt w wr own g m sm dc rem V (l ++ [o]) va := by
  obtain ⟨⟨L, h1, h2⟩, ⟨K, h3, h4⟩, ⟨A, h5, h6⟩, h7, h8⟩ := h
  refine ⟨⟨L, h1, fun x => by rw [viewR_seen hs]; exact h2 x⟩, ⟨K, h3, fun x => ?_⟩, ⟨A, addsR_seen hs h5, h6⟩, h7, h8⟩
  rw [h4]
  simp only [List.mem_append, List.mem_singleton]
  constructor
  · rintro (h | ⟨p, hp, e⟩)
    · exact .inl h
    · exact .inr ⟨p, .inl hp, e⟩
  · rintro (h | ⟨p, hp | rfl, rfl⟩)
    · exact .inl h
    · exact .inr ⟨p, hp, rfl⟩
    · exact hs
theorem SlK.anyH {W : World} {ok ok' : Nat → TypeId → Prop} {sz n : Nat} {v : Value} {xs : List Value} (h : SlK W ok sz v n xs) (hk : ∀ g cs e fz, W.heap[g]? = some (.cells cs e fz) → ok g e → ok' g e) : SlK W ok' sz v n xs := by
  obtain ⟨hl, A, cap, hv, h1, h2, h3⟩ := h
  refine ⟨hl, A, cap, hv, h1, h2, ?_⟩
  rcases h3 with h3 | ⟨g, off, cs, e, fz, hA, hh, ho, hc⟩
  · exact .inl h3
  · exact .inr ⟨g, off, cs, e, fz, hA, hh, hk g cs e fz hh ho, hc⟩
/-- A new host is entered: from the world wr (behind l) to W the map of names has taken its name, the row of the added may have grown; then the table's map takes the host. -/
theorem ref_enter {W : World} {L : List (ByteArray × HV)} {K : List (ByteArray × Bool)} {A A' : List ByteArray} {va' : Value} {o : Ho} {v : HV} {es : Array MapEntry} {ck : Nat} (hown : ∀ k, own k → k < w.heap.size)
    (h1 : TabAt wr (ownI wr w.heap.size own) g m dc rem L) (h2 : ∀ x, (aget x L).map HV.abs = viewR V l x)
    (h3 : KMap .string (fun s : ByteArray => Value.string s) Value.bool wr sm K) (h4 : ∀ x, (aget x K).getD false = true ↔ (x = noStr ∨ ∃ o ∈ l, o.name = x))
    (h6 : wr.ownsRow w.heap.size 9 1 va A.length (A.map Value.string)) (h7 : w.heap.size ≤ sm) (h8 : Kept (fun k => k = m) w wr)
    (hk : Kept (fun k => k = sm ∨ va.ownBlock = some k) wr W) (hK : KMap .string (fun s : ByteArray => Value.string s) Value.bool W sm (aput o.name true K))
    (hA : addsR V (l ++ [o]) A') (hA' : W.ownsRow w.heap.size 9 1 va' A'.length (A'.map Value.string))
    (hn : o.name ≠ noStr) (hs : ¬ ∃ p ∈ l, p.name = o.name) (hv : v.abs = updH V o)
    (ht : SlK W (fun b e => w.heap.size ≤ b ∧ e = 2) 1 v.tv v.tn (v.toks.map (Value.int .i64)))
    (hm : HoMap (setBlock W m (.map es ck)) m (aput o.name v L)) : RefAt w (setBlock W m (.map es ck)) own g m sm dc rem V (l ++ [o]) va' := by
  have hsm : ∀ cs fz, wr.heap[sm]? ≠ some (.cells cs 2 fz) := fun cs fz e => by
    obtain ⟨es', ck', hh, _⟩ := h3
    rw [hh] at e; cases e
  have hnot : ∀ k, ownI wr w.heap.size own k → ¬ (k = sm ∨ va.ownBlock = some k) := by
    rintro k hk' (rfl | e)
    · rcases hk' with h | ⟨_, cs, fz, h⟩
      · have := hown _ h; omega
      · exact hsm _ _ h
    · obtain ⟨e1, cs', e2⟩ := own_type h6 e
      rcases hk' with h | ⟨_, cs, fz, h⟩
      · have := hown _ h; omega
      · rw [e2] at h; injection h with h; injection h with _ h; exact absurd h (by decide)
  have hgm : g ≠ m := fun e => h1.map.ne_blk h1.blk e
  have hTW : TabAt W (ownI wr w.heap.size own) g m dc rem L := h1.kept hk hnot
  have hmW : ∃ es0 ck0, W.heap[m]? = some (.map es0 ck0) := by
    obtain ⟨es0, ck0, hh, _⟩ := hTW.map
    exact ⟨es0, ck0, hh⟩
  obtain ⟨es0, ck0, hmW⟩ := hmW
  have hTW2 : TabAt W (ownI W w.heap.size own) g m dc rem L := by
    refine hTW.wide (fun k e => ?_) (fun k e => ?_)
    · rcases e with h | ⟨h, cs, fz, h'⟩
      · exact .inl h
      · exact .inr ⟨h, cs, fz, (hk.block k (lt_of_heap h') (hnot k (.inr ⟨h, cs, fz, h'⟩))).trans h'⟩
    · rcases e with h | ⟨_, cs, fz, h'⟩
      · have := hown _ h
        have := h8.size
        have := hk.size
        omega
      · exact lt_of_heap h'
  have hput := hTW2.put (v := v) (Kept.refl _ _) hm ⟨by have := congrArg Ho.name hv; exact this, hn⟩ (ht.anyH fun b cs e fz hh ho => by
    obtain ⟨h1', rfl⟩ := ho
    refine ⟨.inr ⟨h1', cs, fz, hh⟩, fun e => ?_, fun e => ?_⟩
    · subst e
      have hb := hTW.blk
      unfold Blk at hb
      rw [hb] at hh; injection hh with hh; injection hh with _ hh; exact absurd hh (by decide)
    · subst e
      rw [hmW] at hh; cases hh)
  have hk2 : Kept (fun k => k = m) W (setBlock W m (.map es ck)) := (Kept.refl (fun k => k = m) W).setBlock (m := m) (fun _ => rfl) _
  have hnm : ∀ k cs t fz, W.heap[k]? = some (.cells cs t fz) → k ≠ m := fun k cs t fz h e => by subst e; rw [hmW] at h; cases h
  have hsm2 : sm ≠ m := fun e => by
    have h9 := hnot m (.inl ?_)
    · exact h9 (.inl e.symm)
    · rcases h1.om with h | ⟨_, cs, fz, h⟩
      · exact h
      · obtain ⟨es', ck', hh⟩ := h1.map.heap
        rw [hh] at h; cases h
  refine ⟨⟨_, hput.wide (fun k e => ownI_kept e hk2 fun k cs fz h => hnm k cs _ fz h) (fun k e => ?_), fun x => ?_⟩, ⟨_, hK.setBlock hsm2 _, fun x => ?_⟩, ⟨A', hA, own_setBlock hA' hmW _⟩, h7, (h8.trans hk fun i hi e => ?_).trans hk2 fun i _ e => e⟩
  · rcases e with h | ⟨_, cs, fz, h'⟩
    · have := hown _ h
      have := h8.size
      have := hk.size
      have := hk2.size
      omega
    · exact lt_of_heap h'
  · rw [aget_aput, viewR_new hn hs]
    by_cases e : o.name = x
    · rw [if_pos e, if_pos e, Option.map_some, hv]
    · rw [if_neg e, if_neg e]; exact h2 x
  · rw [aget_aput]
    by_cases e : o.name = x
    · rw [if_pos e]
      simp only [Option.getD_some, true_iff]
      exact .inr ⟨o, by simp, e⟩
    · rw [if_neg e, h4]
      simp only [List.mem_append, List.mem_singleton]
      constructor
      · rintro (h | ⟨p, hp, e⟩)
        · exact .inl h
        · exact .inr ⟨p, .inl hp, e⟩
      · rintro (h | ⟨p, hp | rfl, rfl⟩)
        · exact .inl h
        · exact .inr ⟨p, hp, rfl⟩
        · exact absurd rfl e
  · exfalso
    rcases e with rfl | e
    · omega
    · have := (own_type h6 e).1; omega
end
end Go.Proofs.YtjkmgpmknadhjaaGreat

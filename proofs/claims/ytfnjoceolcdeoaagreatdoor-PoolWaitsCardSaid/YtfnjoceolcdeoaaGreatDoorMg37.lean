/- A pool's connection breaks. -/
import Derived.Test.YtfnjoceolcdeoaaGreatDoorMg36
namespace Go.Proofs.YtfnjoceolcdeoaaGreatDoor
set_option linter.unusedVariables false
open Go.RowKit

/-- The connections, one of them dead. -/
def deadAt (id : Int) (r : Int × CN) : Int × CN := if r.1 = id then (r.1, { r.2 with x := r.2.x.dead }) else r
theorem deadAt_same (id : Int) (r : Int × CN) : (deadAt id r).1 = r.1 ∧ (deadAt id r).2.lo = r.2.lo ∧ (deadAt id r).2.hi = r.2.hi ∧ (deadAt id r).2.c = r.2.c := by
  unfold deadAt
  split <;> exact ⟨rfl, rfl, rfl, rfl⟩
theorem adel_dead (id : Int) : ∀ L : List (Int × CN), (L.map (·.1)).Nodup → adel id (L.map (deadAt id)) = adel id L
  | [], _ => rfl
  | r :: t, hn => by
    obtain ⟨a, b⟩ := r
    simp only [List.map_cons, List.nodup_cons] at hn
    by_cases e : a = id
    · subst e
      have h1 : deadAt a (a, b) = (a, { b with x := b.x.dead }) := by unfold deadAt; rw [if_pos rfl]
      rw [List.map_cons, h1]
      simp only [adel, if_true]
      have : t.map (deadAt a) = t := by
        conv => rhs; rw [← List.map_id t]
        apply List.map_congr_left
        intro r hr
        unfold deadAt
        rw [if_neg]
        · rfl
        · intro e2
          exact hn.1 (List.mem_map.2 ⟨r, hr, e2⟩)
      exact this
    · have h1 : deadAt id (a, b) = (a, b) := by unfold deadAt; rw [if_neg e]
      rw [List.map_cons, h1]
      simp only [adel, if_neg e]
      rw [adel_dead id t hn.2]
theorem pair_or {α : Type} {R : α → α → Prop} : ∀ {l : List α}, l.Pairwise R → ∀ {a b : α}, a ∈ l → b ∈ l → a = b ∨ R a b ∨ R b a
  | _ :: _, h, a, b, ha, hb => by
    cases h with
    | cons h1 h2 =>
      cases ha with
      | head => cases hb with
        | head => exact .inl rfl
        | tail _ hb => exact .inr (.inl (h1 b hb))
      | tail _ ha => cases hb with
        | head => exact .inr (.inr (h1 a ha))
        | tail _ hb => exact pair_or h2 ha hb
theorem PoolAt.nodup {w : World} {p m : Nat} {x : XP} {L : List (Int × CN)} (h : PoolAt w p m x L) : (L.map (·.1)).Nodup := h.asc.imp fun h => by omega
theorem PoolAt.dead {w w' : World} {p m : Nat} {x : XP} {L : List (Int × CN)} (h : PoolAt w p m x L) {id : Int} {q : CN} (hq : (id, q) ∈ L) (hk : Kept (fun k => q.lo ≤ k ∧ k < q.hi) w w') (hc : ConnAt w' q.lo q.hi q.c q.x.dead) : PoolAt w' p m x (L.map (deadAt id)) := by
  have hlow : p < q.lo ∧ m < q.lo := h.low _ hq
  refine ⟨h.blk.kept hk fun e => by omega, ?_, fun r hr => ?_, fun r hr => ?_, ?_, ?_, fun r hr => ?_, ⟨h.few.1, by rw [List.length_map]; exact h.few.2⟩, h.glp, h.glm, h.mxl.kept hk (by have := h.glp.1; omega), h.tab.kept hk (by have := h.glp.2; omega)⟩
  · obtain ⟨es, ck, hh, hst, hL⟩ := h.map.kept hk fun e => by omega
    refine ⟨es, ck, hh, hst, hL.trans ?_⟩
    rw [List.map_map]
    apply List.map_congr_left
    intro r _
    have := deadAt_same id r
    simp only [Function.comp, cnV, this.1, this.2.2.2]
  · obtain ⟨r0, hr0, rfl⟩ := List.mem_map.1 hr
    by_cases e : r0.1 = id
    · have hu : r0 = (id, q) := by
        rcases pair_or (List.pairwise_map.1 h.asc) hr0 hq with h1 | h1 | h1
        · exact h1
        · exact absurd e (by have : r0.1 < id := h1; omega)
        · exact absurd e (by have : id < r0.1 := h1; omega)
      subst hu
      have : deadAt id (id, q) = (id, { q with x := q.x.dead }) := by unfold deadAt; rw [if_pos rfl]
      rw [this]
      exact hc
    · have : deadAt id r0 = r0 := by unfold deadAt; rw [if_neg e]
      rw [this]
      refine (h.con r0 hr0).kept hk fun k ek e2 => ?_
      rcases pair_or h.dis hr0 hq with h1 | h1 | h1
      · rw [h1] at e; exact e rfl
      · have h1 : r0.2.hi ≤ q.lo := h1; omega
      · have h1 : q.hi ≤ r0.2.lo := h1; omega
  · obtain ⟨r0, hr0, rfl⟩ := List.mem_map.1 hr
    rw [(deadAt_same id r0).2.1]
    exact h.low r0 hr0
  · rw [List.pairwise_map]
    exact h.dis.imp fun hab => by rw [(deadAt_same id _).2.2.1, (deadAt_same id _).2.1]; exact hab
  · rw [List.map_map]
    have : (L.map ((fun r => r.1) ∘ deadAt id)) = L.map (·.1) := List.map_congr_left fun r _ => (deadAt_same id r).1
    rw [this]
    exact h.asc
  · obtain ⟨r0, hr0, rfl⟩ := List.mem_map.1 hr
    rw [(deadAt_same id r0).1]
    exact h.rng r0 hr0

set_option maxHeartbeats 4000000 in
set_option maxRecDepth 100000 in
theorem poBreak_at {w : World} {p m : Nat} {x : XP} {L : List (Int × CN)} (h : PoolAt w p m x L) {id : Int} {q : CN} (hq : aget id L = some q) (hs : q.x.state ≠ 7) (ho : q.x.oth = some []) (now draw : Nat) (hb : x.base < 18446744073709551616) (hlg : x.longest ≤ 72057594037927936) (hp : x.percent < 18446744073709551616) (hf : x.failed < 18446744073709551616) (hnx : x.next < 18446744073709551616) (hnow : now < 18446744073709551616) (hdr : draw < 18446744073709551616) :
    Calls Tryz.prog 11 #[.pointer (some ⟨p, 0, none⟩), .int .i64 id, .int .u64 now, .int .u64 draw] w fun e w' => ∃ A' c', e = .returned (.slice A' 1 c') ∧ PoolAt w' p m (x.broke now draw) (adel id L) ∧ SlK w' (fun g _ => w.heap.size ≤ g) 21 (.slice A' 1 c') 1 (evC id 6 (.slice none 0 0) 33 (.slice none 0 0)) ∧ Kept (poolS p m L) w w' := by
  have hmem : (id, q) ∈ L := aget_mem hq
  have c13 : w.cell? ⟨p, 13, none⟩ = some (.map (some m)) := h.blk.cell 13
  have hl := h.map.run_lookup i64K imcM intU (zero_ptr w) id false
  rw [hq] at hl
  simp only [Bool.false_eq_true, if_false, Option.map_some, Option.getD_some] at hl
  unfold cnV at hl
  have HC := Lib.hid (cnClose_none (h.con _ hmem) hs ho 33 (by decide))
  have H := Lib.hid h
  have HME := Lib.hid hmem
  clear h hmem
  go_enter Tryz.func11, Tryz.ntmps11
  go_wp2_with fail
  go_at_call 24
  refine HC.out.mono ?_
  rintro e w2 ⟨A, k, rfl, hc2, hk2⟩
  have HP2 := H.out.dead HME.out hk2 hc2
  have HE := Lib.hid (poEvents_died HP2 id A k 33 (by decide) now draw hb hlg hp hf hnx hnow hdr)
  rw [adel_dead id L H.out.nodup] at HE
  unfold outV at HE ⊢
  have HK2 := Lib.hid hk2
  clear hc2 hk2 HP2
  go_wp2_with fail
  go_at_call 22
  refine HE.out.mono ?_
  rintro e w3 ⟨A', c', rfl, hp3, hs3, hk3⟩
  have HF : Hid (PoolAt w3 p m (x.broke now draw) (adel id L) ∧ SlK w3 (fun g _ => w.heap.size ≤ g) 21 (.slice A' 1 c') 1 (evC id 6 (.slice none 0 0) 33 (.slice none 0 0)) ∧ Kept (poolS p m L) w w3) := Lib.hid ⟨hp3, hs3.any fun g _ _ e => Nat.le_trans HK2.out.size e, (HK2.out.mono (T := poolS p m L) fun k _ e => .inr (.inr ⟨_, HME.out, e⟩)).trans hk3 fun k _ e => by
    rcases e with e | e
    · exact .inl e
    · exact .inr (.inl e)⟩
  clear hp3 hs3 hk3
  go_wp2
  go_ret
  exact ⟨A', c', rfl, HF.out⟩
end Go.Proofs.YtfnjoceolcdeoaaGreatDoor

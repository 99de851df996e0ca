/- Streams: Due. -/
import Derived.Test.YtelcielfhgijpaaDoorStSort
import Derived.Test.YtelcielfhgijpaaDoorKeys
import Derived.RangeFuncBox
import Derived.RangeFuncLeaves
import Derived.RangeFuncWrites
import Derived.RangeFuncCalls
import Derived.Shelf.Abstract
import Derived.OwnWalkIn
import Derived.TacticsInMore
import Derived.LoopNIn
import Derived.LoopIn
import Derived.Maps.AppendAt
namespace Go.Proofs.YtelcielfhgijpaaDoor
set_option linter.unusedVariables false
open Go.RowKit Go.Maps Go.Sort Go.Shelf
open Go.ChangeMaps (setBlock)
attribute [local go_sem] Oper.semAt_some

theorem infoI : (Tryd.prog.info? 3).map (fun i => (i.zero, i.size, i.bytes)) = some (some (.int .i64 0), 1, 8) := by kernel_rfl
theorem intsU : Tryd.prog.underlying 31 = some (.slice 3) := by kernel_rfl

def XS.ripe (s : XS) (now : Int) (l : List Int) : List Int := l.filter fun x => decide (s.till x ≤ now)
theorem XS.ripe_hit (s : XS) (now : Int) (pre : List Int) {x : Int} (h : s.till x ≤ now) : s.ripe now (pre ++ [x]) = s.ripe now pre ++ [x] := by simp [XS.ripe, h]
theorem XS.ripe_miss (s : XS) (now : Int) (pre : List Int) {x : Int} (h : ¬ s.till x ≤ now) : s.ripe now (pre ++ [x]) = s.ripe now pre := by simp [XS.ripe, h]
def XS.due (s : XS) (now : Int) : List Int := (s.ripe now (s.asked.map (·.1))).mergeSort s.le

theorem once {G : Prop} (h : ∃ T : Prop, (T → G) ∧ T) : G := by
  obtain ⟨T, h1, h2⟩ := h
  exact h1 h2

set_option maxRecDepth 100000 in
set_option maxHeartbeats 2000000 in
theorem Due_in {w : World} {g m1 m2 : Nat} {s : XS} (h : SAt w g m1 m2 s) (now : Int) :
    CallsIn Fence.wide 6 Tryd.prog 11 #[.pointer (some ⟨g, 0, none⟩), .int .u64 now] w fun e w' => ∃ v, e = .returned v ∧ Sl w' 3 1 v (s.due now).length ((s.due now).map encI) ∧ Kept noBlock w w' := by
  obtain ⟨cs, k, hb, hc, ha, ho, hne, hok⟩ := h
  obtain ⟨i0, hi, hz0, hz1, hz2⟩ := info_parts infoI
  have f4 := (hb.cell 514).trans hc.ca
  have hgl := hb.lt
  have hml := ha.lt
  have cK : ∀ (mb : Option Nat) (W : World), CallsIn Fence.wide (6 - 1) Tryd.prog 21 #[.map mb] W fun e w' => e = .returned (.func (.func 30) #[] #[.pointer (some ⟨W.heap.size, 0, none⟩)]) ∧ w' = W.alloc (.cells #[.map mb] 62) := fun mb W => AnyZI.keys_in Tryd.keysU Fence.wide _ trivial rfl mb W
  have hF : Fence.wide.fn 21 := trivial
  have hk3 := (((Kept.refl noBlock w).alloc (.cells #[.pointer (some ⟨g, 0, none⟩)] 25)).alloc (.cells #[.int .u64 now] 23)).alloc (.cells #[.slice none 0 0] 31)
  have f43 := (hk3.cell (p := ⟨g, 514, none⟩) hgl id).trans f4
  refine callsIn_of_wp_marks Tryd.func11 rfl trivial ?_ rfl
  simp only [Tryd.ntmps11, List.size_toArray, List.length_cons, List.length_nil, Nat.reduceAdd, Nat.reduceSub, Array.replicate_succ, Array.replicate_zero, List.push_toArray, List.append_toArray, List.nil_append, List.cons_append]
  gi_wp2_with (gi_at_call 21; refine (cK _ _).mono ?_; rintro e w' ⟨rfl, rfl⟩)
  have bB := Boxed.new w 25 (.pointer (some ⟨g, 0, none⟩))
  have bT := Boxed.new (w.alloc (.cells #[.pointer (some ⟨g, 0, none⟩)] 25)) 23 (.int .u64 now)
  have bO := Boxed.new ((w.alloc (.cells #[.pointer (some ⟨g, 0, none⟩)] 25)).alloc (.cells #[.int .u64 now] 23)) 31 (.slice none 0 0)
  have bM := Boxed.new (((w.alloc (.cells #[.pointer (some ⟨g, 0, none⟩)] 25)).alloc (.cells #[.int .u64 now] 23)).alloc (.cells #[.slice none 0 0] 31)) 62 (.map (some m1))
  have hA4 : AMap ((((w.alloc (.cells #[.pointer (some ⟨g, 0, none⟩)] 25)).alloc (.cells #[.int .u64 now] 23)).alloc (.cells #[.slice none 0 0] 31)).alloc (.cells #[.map (some m1)] 62)) m1 s.asked := (((ha.alloc _).alloc _).alloc _).alloc _
  have hA2 : AMap ((w.alloc (.cells #[.pointer (some ⟨g, 0, none⟩)] 25)).alloc (.cells #[.int .u64 now] 23)) m1 s.asked := (ha.alloc _).alloc _
  have f42 := ((((Kept.refl noBlock w).alloc (.cells #[.pointer (some ⟨g, 0, none⟩)] 25)).alloc (.cells #[.int .u64 now] 23)).cell (p := ⟨g, 514, none⟩) hgl id).trans f4
  have bB2 := bB.alloc (.cells #[.int .u64 now] 23)
  have hlenA : s.asked.length ≤ 32768 := by have := hok.count; have := hok.n2; omega
  obtain ⟨D0, hown, hperm, hsz⟩ := hA4.owns (H := Unit) (P := Tryd.prog) (k := 3) intU (fun p hp => by have := hok.ra p hp; have := hok.n2; exact WalkArith.wf_i64 (by omega)) (by unfold maxLen; omega)
  have hwbN : ((w.alloc (.cells #[.pointer (some ⟨g, 0, none⟩)] 25)).alloc (.cells #[.int .u64 now] 23)).heap.size = w.heap.size + 2 := by simp only [sz_alloc]
  have HWB := Lib.hid hwbN
  have hkb : Kept noBlock w ((w.alloc (.cells #[.pointer (some ⟨g, 0, none⟩)] 25)).alloc (.cells #[.int .u64 now] 23)) := ((Kept.refl noBlock w).alloc _).alloc _
  clear f43 hk3 bB f4
  have HB := Lib.hid hb
  have HC := Lib.hid hc
  have HO := Lib.hid ho
  clear hb hc ho ha hwbN
  simp only [sz_alloc] at bT bO bM
  generalize hN : w.heap.size = N at *
  generalize hwb : (w.alloc (.cells #[.pointer (some ⟨g, 0, none⟩)] 25)).alloc (.cells #[.int .u64 now] 23) = wb at *
  clear hwb
  have hwbN := HWB.out
  have hB0 : Below (N + 2) wb ((wb.alloc (.cells #[.slice none 0 0] 31)).alloc (.cells #[.map (some m1)] 62)) := ((Below.refl _ wb).alloc (by omega) _).alloc (by simp; omega) _
  have hS : ∀ W, Below (N + 2) wb W → W.cell? ⟨N, 0, none⟩ = some (.pointer (some ⟨g, 0, none⟩)) ∧ W.cell? ⟨N + 1, 0, none⟩ = some (.int .u64 now) ∧ W.cell? ⟨g, 514, none⟩ = some (.map (some m1)) ∧ ∀ x, (Instr.lookup 62 (.map (some m1)) (.int .i64 x) false).run Tryd.prog W = .ok (.int .u64 (s.till x)) W := by
    intro W hW
    refine ⟨(hW.cell (p := ⟨N, 0, none⟩) (by show N < N + 2; omega)).trans bB2.cell, (hW.cell (p := ⟨N + 1, 0, none⟩) (by show N + 1 < N + 2; omega)).trans bT.cell, (hW.cell (p := ⟨g, 514, none⟩) (by show g < N + 2; omega)).trans f42, fun x => ?_⟩
    have hA : AMap W m1 s.asked := hA2.keep (hW.block m1 (by omega))
    rw [hA.run_lookup i64K iuM intU (zero_u64 W) x false]
    unfold XS.till
    cases aget x s.asked <;> rfl
  have hCM : ∀ W, Below (N + 2) wb W → CmpAt W N g m1 s := fun W hW =>
    ⟨(hW.block N (by omega)).trans bB2, (hW.cell (p := ⟨g, 514, none⟩) (by show g < N + 2; omega)).trans f42, hA2.keep (hW.block m1 (by omega))⟩
  have HCM := Lib.hid hCM
  clear hCM
  have HS := Lib.hid hS
  clear hS bB2 bT f42 hA2 hA4
  refine wpIn_rangeFunc_ownG (α := Int) rfl (by decide) (gf := 30) (lb := #[.pointer (some ⟨N + 1 + 1 + 1, 0, none⟩)]) rfl trivial (enters_of Tryd.func30 (by kernel_rfl) rfl)
    (AnyZI.keys_stops (ρ := Tryd.keysU_ren) { Tryd.keysU with } Fence.wide (6 - 1) trivial rfl (by decide) (N + 1 + 1 + 1) m1 _ D0 _ (by simp; omega) bM.cell hown) walksK_t walksK_b (Below.refl _ _) (fun _ => rfl)
    (fun pre W => (∃ v, Boxed W (N + 2) 31 v ∧ W.ownsRow (N + 2) 3 1 v (s.ripe now pre).length ((s.ripe now pre).map encI) ∧ (v = .slice none 0 0 ↔ s.ripe now pre = [])) ∧ Below (N + 2) wb W)
    (fun _ _ _ => False)
    (OwnFrom.and (Own.from (holdsRow_own (N + 2) (N + 2) 31 3 1 (fun pre => (s.ripe now pre).length) (fun pre => (s.ripe now pre).map encI) (fun pre v => v = .slice none 0 0 ↔ s.ripe now pre = [])) _) (ownFrom_below (by omega) (by simp; omega)))
    (fun _ _ _ _ _ hs _ _ => hs)
    ⟨⟨_, bO.alloc _, World.ownsRow_nil _ _ _ _, by simp [XS.ripe]⟩, hB0⟩
    (fun x => { tmps := #[.pointer (some ⟨g, 0, none⟩), .int .u64 now, .pointer (some ⟨N, 0, none⟩), .pointer (some ⟨N + 1, 0, none⟩), .slice none 0 0, .pointer (some ⟨N + 1 + 1, 0, none⟩), .int .i64 x, .pointer (some ⟨g, 0, none⟩), .bool false, .pointer (some ⟨g, 0, none⟩), .pointer (some ⟨g, 0, none⟩), .pointer (some ⟨g, 514, none⟩), .map (some m1), .func (.func 30) #[] #[.pointer (some ⟨N + 1 + 1 + 1, 0, none⟩)], .int .i64 x, undef, undef, undef, undef, undef, undef, undef, undef, undef, undef, undef, undef, undef, undef, undef, undef], defers := [] }) ?assign ?body ?done ?stop
  case assign =>
    intro l x W K hK
    gi_wp2
    exact hK
  case body =>
    rintro l pre x W ⟨⟨v, hv, hrow, hnil⟩, hB⟩ hlt
    obtain ⟨q1, q2, q3, q4⟩ := HS.out W hB
    have q5 := q4 x
    have q6 := (HS.out W.drew hB.drew).2.2.2 x
    have hc := hv.cell
    have hpl : (s.ripe now pre).length ≤ pre.length := List.length_filter_le _ _
    gi_wp2
    apply once
    apply Exists.intro
    apply And.intro
    · intro key
      gi_region
      all_goals exact key
    by_cases hx : s.till x ≤ now
    · have e1 := s.ripe_hit now pre hx
      have hrowd : W.drew.ownsRow (N + 2) 3 1 v (s.ripe now pre).length ((s.ripe now pre).map encI) := hrow
      have hvd : Boxed W.drew (N + 2) 31 v := hv
      have hBd : RowKit.Below (N + 2) wb W.drew := hB.drew
      gi_wp2_with (gi_at_builtin; refine wpListIn_append_own _ rfl _ _ 31 rfl (N + 2) 3 i0 (.int .i64 0) 1 8 intsU hi hz0 hz1 hz2 rfl (by decide) _ _ _ rfl (hrowd.alloc _) ⟨W.drew.heap.size, 0, none⟩ 1 1 [.int .i64 x] rfl rfl (cell_one_new _ _ _) (by simp [Value.oneCell']) ?b1 ?b2 ?b3 ?_)
      case b1 => unfold maxLen; omega
      case b2 => omega
      case b3 => have := hBd.size; show N + 2 ≤ (W.drew.alloc _).heap.size; rw [sz_alloc]; omega
      intro v' w1 hown' hgrow _
      obtain ⟨g', cap', rfl⟩ := ownsRow_succ hown'
      obtain ⟨hv1, hv2, hr2, hk2, hb2⟩ := hvd.appended (by decide) hrowd (by have := hBd.size; omega) (Nat.le_refl _) hown' hgrow
      have hc1 := hv1.cell
      have hf1 := hv1.frozen
      gi_wp2
      refine ⟨((KeepsOthers.drew W).trans hk2).from _, ((KeepsOthers.drew W).trans hk2).walks, ⟨_, hv2, by rw [e1]; simpa using hr2, by rw [e1]; simp⟩, hBd.trans hb2⟩
    · have e1 := s.ripe_miss now pre hx
      gi_wp2
      exact ⟨(KeepsOthers.drew W).from _, (KeepsOthers.drew W).walks, ⟨v, hv, by rw [e1]; exact hrow, by rw [e1]; exact hnil⟩, hB.drew⟩
  case done =>
    rintro D ys W hD hys ⟨⟨v, hv, hrow, hnil⟩, hB⟩ hK
    have hD2 : N + 4 ≤ D := by simp at hD; omega
    have hc := hv.cell
    have hsz2 := hB.size
    have hperm2 : (s.ripe now ys).Perm (s.ripe now (s.asked.map (·.1))) := (hys.1.trans hperm).filter _
    have hle : (s.ripe now ys).length ≤ 32768 := by
      have := hperm2.length_eq
      have h3 : (s.ripe now (s.asked.map (·.1))).length ≤ (s.asked.map (·.1)).length := List.length_filter_le _ _
      rw [List.length_map] at h3
      omega
    have hsort := SortF_at (n₀ := N + 2) hrow (HCM.out W hB) (by omega) (by omega) (by omega) (by omega) (by omega)
    have hne2 := hv.not_row (by decide) hrow
    have hdue : (s.ripe now ys).mergeSort s.le = s.due now := s.sort_perm hperm2
    have hown2 : ∀ i, v.ownBlock = some i → N + 2 ≤ i ∧ i ≠ D := by
      intro i hi
      rcases hrow.2 with ⟨rfl, _⟩ | ⟨g', cap, cur, rfl, hb, hh, _⟩
      · cases hi
      · simp only [Value.ownBlock, Option.some.injEq] at hi
        subst hi
        exact ⟨hb, fun e => by subst e; rw [hK] at hh; cases hh⟩
    have hDW : D < W.heap.size := lt_of_heap hK
    have HSO := Lib.hid hsort
    clear hsort
    have hF2 : Fence.wide.fn 22 := trivial
    gi_wp2_with (gi_at_call 22; refine (callsIn_wide.2 HSO.out).mono ?_; rintro e w' ⟨rfl, hsl, hkw⟩; have hc2 := (hkw.cell (p := ⟨N + 2, 0, none⟩) hv.lt (fun e => hne2 e.symm)).trans hc)
    have hK2 : w'.heap[D]? = some (.deferred (some [])) := (hkw.block D hDW (fun e => (hown2 D e).2 rfl)).trans hK
    refine ⟨by simp, .inl ⟨_, _, rfl, run_takeDeferred hK2, ?_⟩⟩
    refine ⟨_, results_tmp rfl _ _ _, v, rfl, ?_, ?_⟩
    · rw [hdue] at hsl
      have e2 : (s.ripe now ys).length = (s.due now).length := by rw [← hdue, List.length_mergeSort]
      rw [e2] at hsl
      refine hsl.keep fun g' cs' e' fz he hg' => ?_
      have hne3 : g' ≠ D := fun e => by subst e; rw [hK2] at hg'; cases hg'
      rw [World.putObj_heap_other hne3]
      exact hg'
    · refine (hkb.trans (T := fun i => N + 2 ≤ i) ⟨hB.os, hB.tape, hB.output, hB.size, fun i hi hn => hB.block i (by omega)⟩ (fun i hi h => by omega)).trans (T := fun i => N + 2 ≤ i) ?_ (fun i hi h => by omega)
      refine (hkw.mono (T := fun i => N + 2 ≤ i) fun i _ h => (hown2 i h).1).trans (T := fun i => i = D) ?_ (fun i _ e => by omega)
      exact ⟨rfl, rfl, rfl, by simp, fun i _ hn => World.putObj_heap_other hn⟩
  case stop =>
    rintro D c pre W _ _ h _
    exact h.elim

theorem Due_at {w : World} {g m1 m2 : Nat} {s : XS} (h : SAt w g m1 m2 s) (now : Int) :
    Calls Tryd.prog 11 #[.pointer (some ⟨g, 0, none⟩), .int .u64 now] w fun e w' => ∃ A c, e = .returned (.slice A (s.due now).length c) ∧ Sl w' 3 1 (.slice A (s.due now).length c) (s.due now).length ((s.due now).map encI) ∧ Kept noBlock w w' := by
  refine Calls.mono ((callsIn_wide (n := 6)).1 (Due_in h now)) ?_
  rintro e w' ⟨v, rfl, hs, hk⟩
  obtain ⟨A, c, rfl, -, -⟩ := hs.shape
  exact ⟨A, c, rfl, hs, hk⟩
theorem Due_none (now : Int) (w : World) :
    Calls Tryd.prog 11 #[.pointer none, .int .u64 now] w fun e w' => e = .returned (.slice none 0 0) ∧ Kept noBlock w w' := by
  have hk := ((Kept.refl noBlock w).alloc (.cells #[.pointer none] 25)).alloc (.cells #[.int .u64 now] 23)
  go_enter Tryd.func11, Tryd.ntmps11
  go_wp2
  go_ret
  exact ⟨rfl, hk⟩
end Go.Proofs.YtelcielfhgijpaaDoor

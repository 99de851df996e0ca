/- hosts: slices.AppendSeq(nil, maps.Values(..)), slices.Collect: the table's hosts in some order. -/
import Derived.Test.YtjkmgpmknadhjaaGreatHoVals
import Derived.Test.YtjkmgpmknadhjaaGreatHoSortF
namespace Go.Proofs.YtjkmgpmknadhjaaGreat
set_option linter.unusedVariables false
open Go.RowKit Go.Shelf
open Go.ChangeMaps (setBlock)
attribute [local go_sem] Oper.semAt_some

theorem Vals_stops (F : Fence) (n : Nat) (hF : F.fn 47) (hro : F.round = none) (hn : 1 ≤ n) (Bm m : Nat) (L : List (ByteArray × HV)) (w : World) (hBm : Bm < w.heap.size)
    (hm : w.cell? ⟨Bm, 0, none⟩ = some (.map (some m))) (hmap : HoMap w m L) :
    SeqStopsK F n Tryz.prog 47 #[.pointer (some ⟨Bm, 0, none⟩)] (fun x => #[hvV x]) KeepsWalks (fun xs => xs.Perm (L.map (·.2))) (fun _ => True) L.length w := fun l J Jx W hW hJ _ hY h0 =>
  Vals1_in F n hF hro hn l Bm m L J Jx hY W hJ ((hW.cell (p := ⟨Bm, 0, none⟩) hBm).trans hm) (hmap.keep (hW.block m hmap.lt)) h0
theorem hVals_at (m : Nat) (w : World) : Calls Tryz.prog 29 #[.map (some m)] w fun e w' => e = .returned (.func (.func 47) #[] #[.pointer (some ⟨w.heap.size, 0, none⟩)]) ∧ w' = w.alloc (.cells #[.map (some m)] 62) := by
  go_enter Tryz.func29, Tryz.ntmps29
  go_wp2
  go_ret
  exact ⟨rfl, rfl⟩

theorem hHsM : Tryz.prog.underlying 29 = some (.slice 59) := by kernel_rfl
theorem hostInfo : (Tryz.prog.info? 59).map (fun i => (i.zero, i.size, i.bytes)) = some (some (.agg #[.string noStr, .string noStr, .string noStr, .slice none 0 0, .bool false]), 5, 80) := by kernel_rfl

theorem Blk.grownH {w w' : World} {g : Nat} {t : TypeId} {cs : Array Value} {row : Option Nat} (h : Blk w g t cs) (hg : w.grownBy w' row) (hr : ∀ r, row = some r → ∃ o : Obj, w.heap[r]? = some o ∧ o.isCells = false) : Blk w' g t cs := by
  refine (hg.block g h.lt fun e => ?_).trans h
  obtain ⟨o, ho, hc⟩ := hr g e.symm
  unfold Blk at h
  rw [h] at ho
  cases ho
  cases hc
/-- AppendSeq's rounds: the box holds an own row of what has come. -/
def SeqI (w : World) (pre : List HV) (W : World) : Prop := Kept noBlock w W ∧ ∃ v, Boxed W w.heap.size 29 v ∧ W.ownsRow w.heap.size 59 5 v pre.length (pre.flatMap hvC)
theorem SeqI.grown {w W W' : World} {pre : List HV} {row : Option Nat} (h : SeqI w pre W) (hg : W.grownBy W' row) (hr : ∀ r, row = some r → w.heap.size ≤ r ∧ ∃ o : Obj, W.heap[r]? = some o ∧ o.isCells = false) : SeqI w pre W' := by
  obtain ⟨hk, v, hb, ho⟩ := h
  refine ⟨hk.grown hg (fun k e hlt => absurd (hr k e).1 (Nat.not_le.2 hlt)), v, hb.kept hg (fun e => ?_), ho.kept hg ?_⟩
  · obtain ⟨_, o, h1, h2⟩ := hr _ e.symm
    rw [show W.heap[w.heap.size]? = _ from hb] at h1
    cases h1
    cases h2
  · cases hv : v.ownBlock with
    | none => exact .inl rfl
    | some g =>
      refine .inr fun e => ?_
      obtain ⟨_, o, h1, h2⟩ := hr _ e.symm
      obtain ⟨_, cs, h3⟩ := own_type ho hv
      rw [h3] at h1
      cases h1
      cases h2

set_option maxRecDepth 100000 in
set_option maxHeartbeats 8000000 in
theorem hAppSeq_in {w : World} {Bm m : Nat} {L : List (ByteArray × HV)} (hm : w.cell? ⟨Bm, 0, none⟩ = some (.map (some m))) (hBm : Bm < w.heap.size) (hmap : HoMap w m L) (hL : L.length ≤ 100000) :
    CallsIn Fence.wide 6 Tryz.prog 66 #[.slice none 0 0, .func (.func 47) #[] #[.pointer (some ⟨Bm, 0, none⟩)]] w fun e w' =>
      ∃ (v : Value) (xs : List HV), e = .returned v ∧ xs.Perm (L.map (·.2)) ∧ w'.ownsRow w.heap.size 59 5 v xs.length (xs.flatMap hvC) ∧ Kept noBlock w w' := by
  have HM := Lib.hid hm
  have HP := Lib.hid hmap
  clear hm hmap
  refine callsIn_of_wp_marks Tryz.func66 rfl trivial ?_ rfl
  simp only [Tryz.ntmps66, List.size_toArray, List.length_cons, List.length_nil, Nat.reduceAdd, Nat.reduceSub, Array.replicate_succ, Array.replicate_zero, List.push_toArray, List.append_toArray, List.nil_append, List.cons_append]
  gi_wp2
  have hm1 : (w.alloc (.cells #[.slice none 0 0] 29)).cell? ⟨Bm, 0, none⟩ = some (.map (some m)) := by rw [World.cell?_of_block (heap_alloc_old w _ hBm)]; exact HM.out
  have hp1 : HoMap (w.alloc (.cells #[.slice none 0 0] 29)) m L := HP.out.alloc _
  have h00 : SeqI w [] (w.alloc (.cells #[.slice none 0 0] 29)) := ⟨(Kept.refl _ _).alloc _, _, Boxed.new _ _ _, World.ownsRow_nil _ _ _ _⟩
  have hsz : (w.alloc (.cells #[.slice none 0 0] 29)).heap.size = w.heap.size + 1 := by simp
  have hin : ∀ pre W, SeqI w pre W → (w.alloc (.cells #[.slice none 0 0] 29)).heap.size ≤ W.heap.size := fun pre W h => by
    obtain ⟨_, v, hb, _⟩ := h
    have := hb.lt
    omega
  have HSZ := Lib.hid hin
  clear hin
  generalize w.alloc (.cells #[.slice none 0 0] 29) = W0 at *
  refine wpIn_rangeFunc_ownH (α := HV) rfl (by decide) (gf := 47) (lb := #[.pointer (some ⟨Bm, 0, none⟩)]) rfl trivial (enters_of Tryz.func47 (by kernel_rfl) rfl)
    (Vals_stops Fence.wide (6 - 1) trivial rfl (by decide) Bm m L W0 (by omega) hm1 hp1) walksK_t walksK_b (Below.refl _ _) (fun _ => rfl)
    (SeqI w) (fun _ _ _ => False)
    (fun s W W' row hs hg hr => hs.grown hg fun r e => ⟨by have := (hr r e).1; omega, (hr r e).2⟩)
    (fun _ _ _ _ _ hs _ _ => hs)
    h00
    (fun x a' W => ∃ Bx, W0.heap.size ≤ Bx ∧ Blk W Bx 59 (hvC x).toArray ∧ a' = { tmps := #[.slice none 0 0, .func (.func 47) #[] #[.pointer (some ⟨Bm, 0, none⟩)], .pointer (some ⟨w.heap.size, 0, none⟩), undef, .slice none 0 0, .pointer (some ⟨Bx, 0, none⟩), .func (.func 47) #[] #[.pointer (some ⟨Bm, 0, none⟩)], hvV x, undef, undef, undef, undef, undef], defers := [] })
    (fun x a' s W W' row hs hg hr => by
      obtain ⟨Bx, h1, h2, h3⟩ := hs
      exact ⟨Bx, h1, h2.grownH hg fun r e => (hr r e).2, h3⟩) ?assign ?body ?done ?stop
  case assign =>
    rintro l pre ⟨x1, x2, x3, x4, x5, x6, x7, x8⟩ W K hI hK
    simp only [hvV]
    gi_wp2
    exact hK _ _ ((KeepsOthers.alloc _ _).from _) (KeepsWalks.alloc _ _) (hI.grown (World.grownBy_alloc W _ none) (fun r e => by cases e)) ⟨W.heap.size, by have := HSZ.out _ _ hI; omega, Blk.new _ _ _, rfl⟩
  case body =>
    rintro l pre x a' W hl ⟨r, hr⟩ ⟨hk, v, hv, hrow⟩ ⟨Bx, hBx, hbx, rfl⟩ hlt
    obtain ⟨x1, x2, x3, x4, x5, x6, x7, x8⟩ := x
    simp only [hvV, hvC] at hbx ⊢
    have y0 := hbx.cell 0
    have y1 := hbx.cell 1
    have y2 := hbx.cell 2
    have y3 := hbx.cell 3
    have y4 := hbx.cell 4
    simp only [List.getElem?_toArray, List.getElem?_cons_succ, List.getElem?_cons_zero] at y0 y1 y2 y3 y4
    have hc := hv.cell
    have hks := hk.size
    obtain ⟨i0, hi, hz0, hz1, hz2⟩ := info_parts hostInfo
    gi_wp2_with (gi_at_builtin; refine wpListIn_append_own _ rfl _ _ 29 rfl w.heap.size 59 i0 _ 5 80 hHsM hi hz0 hz1 hz2 rfl (by decide) _ _ _ rfl (hrow.alloc _) ⟨W.heap.size, 0, none⟩ 1 1 (hvC ⟨x1, x2, x3, x4, x5, x6, x7, x8⟩) rfl rfl ?b0 (by simp [hvC, Value.oneCell']) ?b1 ?b2 ?b3 ?_)
    case b0 =>
      intro j u hu
      have h1 := (Blk.new W 59 #[.string x1, .string x2, .string x3, .slice x4 x5 x6, .bool x8]).cell j
      rw [List.getElem?_toArray] at h1
      simp only [Addr.add, Nat.zero_add]
      by_cases hj : j = 0
      · subst hj; exact h1.trans hu
      · rw [if_neg hj]; exact h1.trans hu
    case b1 => unfold maxLen; omega
    case b2 => omega
    case b3 => show _ ≤ (W.alloc _).heap.size; rw [sz_alloc]; omega
    intro v' w1 hown' hgrow _
    obtain ⟨g', cap', rfl⟩ := ownsRow_succ hown'
    obtain ⟨hv1, hv2, hr2, hk2, hb2⟩ := hv.appended (by decide) hrow hks (Nat.le_refl _) hown' hgrow
    have hc1 := hv1.cell
    have hf1 := hv1.frozen
    gi_wp2
    refine ⟨hk2.from _, hk2.walks, hk.trans (T := fun i => w.heap.size ≤ i) ⟨hb2.os, hb2.tape, hb2.output, hb2.size, fun k hk hn => hb2.block k (by omega)⟩ (fun i hi e => by omega), _, hv2, by simpa using hr2⟩
  case stop =>
    rintro D c pre W _ _ h _
    exact h.elim
  case done =>
    rintro D xs W hD hS ⟨hk, v, hv, hrow⟩ hdef
    have hc := hv.cell
    gi_wp2
    have hD1 : w.heap.size < D := by omega
    have hg : W.grownBy (W.putObj D (.deferred none)) (some D) := ⟨rfl, rfl, rfl, by simp, fun k _ hk => World.putObj_heap_other (fun e => hk (by rw [e]))⟩
    have hfin : SeqI w xs (W.putObj D (.deferred none)) := SeqI.grown ⟨hk, v, hv, hrow⟩ hg fun r e => by cases e; exact ⟨by omega, _, hdef, rfl⟩
    refine ⟨by simp, .inl ⟨_, _, rfl, run_takeDeferred hdef, ?_⟩⟩
    obtain ⟨hk3, v3, hv3, ho3⟩ := hfin
    obtain rfl : v3 = v := by
      have e1 := (hv.kept hg (fun e => by cases e; omega)).symm.trans hv3
      cases e1
      rfl
    exact ⟨_, results_tmp rfl _ _ _, v3, xs, rfl, hS, ho3, hk3⟩
end Go.Proofs.YtjkmgpmknadhjaaGreat

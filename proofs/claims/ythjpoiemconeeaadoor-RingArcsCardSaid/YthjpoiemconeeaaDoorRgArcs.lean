/- RingArcs: tokens between two places on end, and the upper one, are owned by the upper one: it answers true. -/
import Derived.Test.YthjpoiemconeeaaDoorRgWalksPure
import Derived.Test.YthjpoiemconeeaaDoorRgAwake
namespace Go.Proofs.YthjpoiemconeeaaDoor
set_option linter.unusedVariables false
open Go.RowKit

theorem i64sT : SlT Tryd.prog 48 2 (.int .i64 0) 1 8 := ⟨Tryd.underlying48, by kernel_rfl, rfl, by decide, by decide⟩
theorem i64_at {w : World} {ok : Nat → TypeId → Prop} {v : Value} {L : List Int} (h : SlK w ok 1 v L.length (L.map (Value.int .i64))) {i : Nat} {u : Int} (hi : L[i]? = some u) :
    ∃ g off, (∀ kd w', (Instr.indexAt 48 v (.int kd (i : Int))).run Tryd.prog w' = .ok (.pointer (some ⟨g, off, none⟩)) w') ∧ g < w.heap.size ∧ w.cell? ⟨g, off, none⟩ = some (.int .i64 u) := by
  have hlt : i < L.length := (List.getElem?_eq_some_iff.1 hi).1
  obtain ⟨g, off, h1, h2, _, h3⟩ := h.run_index i64sT (i := (i : Int)) (k := i) rfl hlt
  exact ⟨g, off, h1, h2, h3 0 _ (by rw [Nat.mul_one, Nat.add_zero, List.getElem?_map, hi]; rfl)⟩
/-- Who owns what lies between two places on end. -/
theorem owner_arc {S : List Pl} (hr : rising S) {k : Nat} {q p : Pl} (hk : 0 < k) (hq : S[k - 1]? = some q) (hp : S[k]? = some p) {t : Int} (h1 : q.1 < t) (h2 : t ≤ p.1) : owner S t = p.2 := by
  have hj := (List.getElem?_eq_some_iff.1 hp).1
  have hb : below S t = k := by
    have a1 := (below_spec hr t (k - 1) q hq).1 h1
    have a2 : ¬ k < below S t := fun hx => by have := (below_spec hr t k p hp).2 hx; omega
    omega
  have hrat : rat S t = k := by unfold rat; rw [hb, if_pos hj]
  unfold owner
  rw [hrat, hp]; rfl
theorem rising_get {S : List Pl} (hr : rising S) {k : Nat} {q p : Pl} (hk : 0 < k) (hq : S[k - 1]? = some q) (hp : S[k]? = some p) : q.1 < p.1 := by
  obtain ⟨h1, rfl⟩ := List.getElem?_eq_some_iff.1 hq
  obtain ⟨h2, rfl⟩ := List.getElem?_eq_some_iff.1 hp
  exact List.pairwise_iff_getElem.1 hr (k - 1) k h1 h2 (by omega)
theorem int_beq_ne {k : Nat} (h : k ≠ 0) : ((k : Int) == 0) = false := by rw [beq_eq_false_iff_ne]; omega
theorem owner_low {S : List Pl} {p : Pl} (hp : S[0]? = some p) {t : Int} (h : ∀ q ∈ S, t ≤ q.1) : owner S t = p.2 := by
  have hb : below S t = 0 := by
    unfold below
    rw [List.countP_eq_zero]
    intro q hq
    have := h q hq
    simp only [decide_eq_true_eq]; omega
  have hrat : rat S t = 0 := by unfold rat; rw [hb]; split <;> rfl
  unfold owner
  rw [hrat, hp]; rfl

theorem run_str_slice (s : ByteArray) (i : Nat) (hi : i + 1 ≤ s.size) (kd kd2 : IntKind) (w' : World) : (Instr.sliceAt 9 (.string s) (some (.int kd (i : Int))) (some (.int kd2 ((i : Int) + 1))) none).run Tryd.prog w' = .ok (.string (s.extract i (i + 1))) w' := by
  have h0 : (0 : Int) ≤ i := by omega
  have h1 : (0 : Int) ≤ (i : Int) + 1 := by omega
  have h2 : (i : Int) + 1 ≤ (s.size : Int) := by omega
  have h3 : (i : Int) ≤ (i : Int) + 1 := by omega
  have h4 : ((i : Int) + 1).toNat = i + 1 := by omega
  simp [Instr.sliceAt, run_underlying strU, Instr.slice, Instr.sliceBounds, Instr.sliceBound, asIntOf, h0, h1, h2, h4]
set_option maxHeartbeats 8000000 in
set_option maxRecDepth 100000 in
theorem Arcs_walk (vv : Value) (ts : List Int) (at_ off_ : Int) (w : World) (hv : Lo w w.heap.size 1 vv ts.length (ts.map (Value.int .i64))) (hb : ∀ t ∈ ts, -9223372036854775808 ≤ t ∧ t < 9223372036854775808) (ha : 0 ≤ at_ ∧ at_ < 18446744073709551616) (ho : 0 ≤ off_ ∧ off_ < 18446744073709551616) :
    Calls Tryd.prog 6 #[vv, .int .u64 at_, .int .u64 off_] w fun e w' => e = .returned (.bool true) ∧ Kept noBlock w w' := by
  obtain ⟨A, cap, rfl, -, hcap⟩ := hv.shape
  have hlen := hv.run_len i64sT
  have HV := Lib.hid hv
  have HBD := Lib.hid hb
  have hbl : ts.length ≤ 9223372036854775807 := by
    obtain ⟨_, A', c', e, h1, h2, _⟩ := hv
    unfold maxLen at h2; omega
  obtain ⟨ha0, ha1⟩ := ha
  obtain ⟨ho0, ho1⟩ := ho
  clear hv hb
  go_enter Tryd.func6, Tryd.ntmps6
  go_wp2_with fail
  go_at_call 8
  refine (aw13_at w).mono ?_
  rintro e w1 ⟨rfl, hk1⟩
  have HK1 := Lib.hid hk1
  clear hk1
  by_cases h40 : 40 < ts.length
  · go_wp2
    go_ret
    exact ⟨rfl, HK1.out⟩
  have START := Lib.hid (show ∃ (i : Nat) (M : List Pl), i + ts.length = ts.length ∧ (Value.int .i64 0) = .int .i64 i ∧ M.map (·.1) = ts.take i ∧ w1.ownsRow w.heap.size 46 2 (.slice none 0 0) i (M.flatMap pC) ∧ Kept noBlock w w1 from ⟨0, [], by omega, rfl, rfl, World.ownsRow_nil _ _ _ _, HK1.out⟩)
  clear HK1
  go_wp2_with fail
  go_loopg [8, 9] ts.length (fun j vo vi wr => ∃ (i : Nat) (M : List Pl), i + j = ts.length ∧ vi = .int .i64 i ∧ M.map (·.1) = ts.take i ∧ wr.ownsRow w.heap.size 46 2 vo i (M.flatMap pC) ∧ Kept noBlock w wr)
  case atStart => exact START.out
  case round =>
    obtain ⟨i, M, hij, rfl, hm, hown, hk⟩ := hrel
    clear START
    have HIJ := Lib.hid hij
    have HM := Lib.hid hm
    have HO := Lib.hid hown
    have HK := Lib.hid hk
    have hz := hk.size
    by_cases hlt : i < ts.length
    · obtain ⟨t, ht⟩ : ∃ t, ts[i]? = some t := ⟨_, List.getElem?_eq_getElem hlt⟩
      obtain ⟨g, oo, hidx, hgl, hc0⟩ := i64_at HV.out ht
      have hnx : ts.take (i + 1) = ts.take i ++ [t] := by rw [List.take_add_one, ht]; rfl
      have HNX := Lib.hid hnx
      have hi52 : i < 52 := by omega
      have hw1 : IntKind.i64.wrap ((i : Int) + 1) = (i : Int) + 1 := by rw [IntKind.wrap_i64]; omega
      obtain ⟨z, hsl⟩ : ∃ z : ByteArray, ∀ kd kd2 w', (Instr.sliceAt 9 (.string ⟨#[97, 98, 99, 100, 101, 102, 103, 104, 105, 106, 107, 108, 109, 110, 111, 112, 113, 114, 115, 116, 117, 118, 119, 120, 121, 122, 65, 66, 67, 68, 69, 70, 71, 72, 73, 74, 75, 76, 77, 78, 79, 80, 81, 82, 83, 84, 85, 86, 87, 88, 89, 90]⟩) (some (.int kd (i : Int))) (some (.int kd2 ((i : Int) + 1))) none).run Tryd.prog w' = .ok (.string z) w' := ⟨_, fun kd kd2 w' => run_str_slice ⟨#[97, 98, 99, 100, 101, 102, 103, 104, 105, 106, 107, 108, 109, 110, 111, 112, 113, 114, 115, 116, 117, 118, 119, 120, 121, 122, 65, 66, 67, 68, 69, 70, 71, 72, 73, 74, 75, 76, 77, 78, 79, 80, 81, 82, 83, 84, 85, 86, 87, 88, 89, 90]⟩ i (show i + 1 ≤ 52 by omega) kd kd2 w'⟩
      clear hij hm hown hk ht hnx
      go_wp2_with fail
      refine wp_region_sch (fun w' => Kept noBlock w w') (.take 0 (.take 1 (.take 2 (.take 3 (.take 4 (.take 5 (.take 6 (.take 7 (.take 8 (.take 9 (.one 10 (.one 11 (.take 12 .nil))))))))))))) (by kernel_rfl) (by kernel_rfl) (by kernel_rfl) HK.out.drew ?_
      repeat (first
        | (refine sch_takeE rfl rfl ?_
           apply Exists.intro
           refine ⟨fun w' hS => ?_, fun K hK => ?_⟩
           · (have z0 := (hS.cell (p := ⟨g, oo, none⟩) hgl (fun h => h)).trans hc0
              clear hS
              unfold takesAt; go_simp; rfl)
           go_simp
           refine hK _ ?_
           clear hK K))
      refine sch_doK rfl rfl (fun K hK => ?_)
      go_simp
      refine hK _ _ ((HK.out.alloc _).drew) ?_
      clear hK K hsl
      refine sch_doK rfl rfl (fun K hK => ?_)
      refine wp_append_sl _ psT (.tmp 34) (.tmp 44) rfl w.heap.size _ i (M.flatMap pC) rfl ((World.ownsRow.alloc HO.out _).drew) _ 1 [.int .i64 t, .string z] rfl (Sl.made_at (Blk.drew (Blk.new wr 46 #[.int .i64 t, .string z])) _ rfl rfl one_max) (by simp [Value.oneCell']) ?c1 ?c2 ?_
      case c1 => omega
      case c2 => simp; omega
      intro v' w3 hap
      have hk3 := hap.below ((World.ownsRow.alloc HO.out _).drew) ((HK.out.alloc _).drew) (Nat.le_refl _)
      have HK3 := Lib.hid hk3
      have HO3 := Lib.hid hap.own
      refine hK _ _ hk3 ?_
      clear hK K hk3 hap
      repeat (first
        | (refine sch_takeE rfl rfl ?_
           apply Exists.intro
           refine ⟨fun w' hS => ?_, fun K hK => ?_⟩
           · (unfold takesAt; go_simp; rfl)
           go_simp
           refine hK _ ?_
           clear hK K))
      refine sch_nil (NoPanic.normal ?_)
      go_wp2
      go_roundg (ts.length - (i + 1))
      case measure => have := HIJ.out; omega
      case rel =>
        have hij := HIJ.out
        refine ⟨i + 1, M ++ [(t, z)], by omega, by go_num, by rw [List.map_append, HM.out, HNX.out]; rfl, ?_, HK3.out⟩
        rw [List.flatMap_append]
        exact HO3.out
    · obtain rfl : i = ts.length := by omega
      rw [List.take_length] at hm
      have hml : M.length = ts.length := by rw [← hm, List.length_map]
      have hs := Sl.of_own hown
      obtain ⟨AM, cM, rfl, -, -⟩ := hs.shape
      have HS := Lib.hid (show Sl wr 46 2 (.slice AM ts.length cM) M.length (M.flatMap pC) by rw [hml]; exact hs)
      have HML := Lib.hid hml
      clear hown hs hm hij hk HO HIJ
      go_wp2_with fail
      go_at_call 9
      refine (Rnew_view HS.out (by omega)).mono ?_
      rintro e w2 ⟨p, code, S, rfl, hrs, hrv, hpc, hk2⟩
      have HK2 := Lib.hid (HK.out.trans hk2 (fun _ _ h => h))
      have HRV := Lib.hid hrv
      have hsl := hrs.len
      have HRI := Lib.hid hrs.rising
      have hcase : (code ≠ 0 ∧ S = []) ∨ (code = 0 ∧ RingOf M S) := by
        rcases hrs with ⟨-, rfl, rfl⟩ | ⟨-, -, rfl, rfl⟩ | ⟨h, rfl⟩
        · exact .inl ⟨by decide, rfl⟩
        · exact .inl ⟨by decide, rfl⟩
        · exact .inr ⟨rfl, h⟩
      clear hk2 hrs hrv hpc HK HS
      rcases hcase with ⟨hc, rfl⟩ | ⟨rfl, hro⟩
      · have hcn : (code != 0) = true := by simp [hc]
        go_wp2
        go_ret
        exact ⟨rfl, HK2.out⟩
      by_cases hz0 : ts.length = 0
      · have hze : ((ts.length : Int) == 0) = true := by simp [hz0]
        go_wp2
        go_ret
        exact ⟨rfl, HK2.out⟩
      have hze : ((ts.length : Int) == 0) = false := by rw [beq_eq_false_iff_ne]; omega
      have hSl : S.length = ts.length := hro.1.length_eq.trans hml
      have HBS := Lib.hid (show ∀ q ∈ S, -9223372036854775808 ≤ q.1 ∧ q.1 < 9223372036854775808 from fun q hq => HBD.out q.1 (by
        have h1 : q.1 ∈ M.map (·.1) := List.mem_map.2 ⟨q, hro.1.mem_iff.1 hq, rfl⟩
        have h2 := HM.out
        rw [List.take_length] at h2
        rw [h2] at h1
        exact h1))
      clear hro
      go_wp2_with fail
      go_at_call 12
      refine (Rplaces_view HRV.out (by omega)).mono ?_
      rintro e w3 ⟨A5, c5, rfl, hs5, hk5⟩
      rw [hSl] at hs5 ⊢
      have HS5 := Lib.hid hs5
      have HRV5 := Lib.hid (HRV.out.kept hk5)
      have HK5 := Lib.hid (HK2.out.trans hk5 (fun _ _ h => h))
      have hl5 := hs5.run_len psT
      have hpos : 0 < ts.length := by omega
      obtain ⟨k, hk, hkl⟩ : ∃ k : Nat, at_ % (ts.length : Int) = (k : Int) ∧ k < ts.length := by
        have h1 := Int.emod_nonneg at_ (show (ts.length : Int) ≠ 0 by omega)
        have h2 := Int.emod_lt_of_pos at_ (show (0 : Int) < ts.length by omega)
        obtain ⟨k, hk⟩ := Int.eq_ofNat_of_zero_le h1
        exact ⟨k, hk, by omega⟩
      have hwl : IntKind.u64.wrap (ts.length : Int) = (ts.length : Int) := by rw [IntKind.wrap_u64]; omega
      have hwk : wrap64 (k : Int) = (k : Int) := by unfold wrap64; omega
      have hsz : ¬ (ts.length : Int) = 0 := by omega
      have HSL := Lib.hid hSl
      clear hs5 hk5 HRV HK2 hSl hsl
      by_cases hk0 : k = 0
      · subst hk0
        have hk' : at_ % (ts.length : Int) = 0 := hk
        obtain ⟨q, hq⟩ : ∃ q, S[ts.length - 1]? = some q := ⟨_, List.getElem?_eq_getElem (by rw [HSL.out]; omega)⟩
        obtain ⟨q', hq'⟩ : ∃ q, S[0]? = some q := ⟨_, List.getElem?_eq_getElem (by rw [HSL.out]; omega)⟩
        obtain ⟨ga, oa, hia, hgl, hca, hcb⟩ := p_at HS5.out psT hq
        obtain ⟨ga', oa', hia', hgl', hca', hcb'⟩ := p_at HS5.out psT hq'
        rw [show ((ts.length - 1 : Nat) : Int) = (ts.length : Int) - 1 by omega] at hia
        have hia0 : ∀ kd w', (Instr.indexAt 22 (.slice A5 ts.length c5) (.int kd 0)).run Tryd.prog w' = .ok (.pointer (some ⟨ga', oa', none⟩)) w' := hia'
        have o1 := owner_of HRI.out (List.mem_of_getElem? hq)
        have o2 := owner_low (t := -9223372036854775808) hq' (fun x hx => (HBS.out x hx).1)
        obtain ⟨q1, q2⟩ := q
        obtain ⟨q1', q2'⟩ := q'
        simp only at hca hcb hca' hcb' o1 o2
        have HO1 := Lib.hid (fun W (hW : RV W p S) => (o1 ▸ Rowner_view (t := q1) hW HRI.out (by rw [HSL.out]; omega)))
        have HO2 := Lib.hid (fun W (hW : RV W p S) => (o2 ▸ Rowner_view (t := -9223372036854775808) hW HRI.out (by rw [HSL.out]; omega)))
        have HC1 := Lib.hid (fun (W : World) (hk1 : Kept noBlock w3 W) => ((hk1.cell (p := ⟨ga, oa + 1, none⟩) hgl (fun h => h)).trans hcb))
        have HC2 := Lib.hid (fun (W : World) (hk1 : Kept noBlock w3 W) => ((hk1.cell (p := ⟨ga', oa' + 1, none⟩) hgl' (fun h => h)).trans hcb'))
        have e1 := strEq_self q2
        have e2 := strEq_self q2'
        clear hk hia' hq hq' o1 o2 hca' hcb hcb' hwk
        go_wp2_with fail
        go_at_call 13
        refine (HO1.out _ HRV5.out).mono ?_
        rintro e w4 ⟨rfl, hk4⟩
        go_wp2_with fail
        go_at_call 13
        refine (HO2.out _ (HRV5.out.kept hk4)).mono ?_
        rintro e w5 ⟨rfl, hk5⟩
        have hk45 := hk4.trans hk5 (fun _ _ h => h)
        have y1 := HC1.out _ hk45
        have y2 := HC2.out _ hk45
        have HK7 := Lib.hid (HK5.out.trans hk45 (fun _ _ h => h))
        clear hca hk4 hk5 hk45
        go_wp2
        go_ret
        exact ⟨rfl, HK7.out⟩
      · have HKE := Lib.hid hk
        have HZE := Lib.hid hze
        have HWK := Lib.hid hwk
        have HWL := Lib.hid hwl
        clear hk hze hwk hwl
        have hkb : ((k : Int) == 0) = false := int_beq_ne hk0
        obtain ⟨q, hq⟩ : ∃ q, S[k - 1]? = some q := ⟨_, List.getElem?_eq_getElem (by rw [HSL.out]; omega)⟩
        obtain ⟨q', hq'⟩ : ∃ q, S[k]? = some q := ⟨_, List.getElem?_eq_getElem (by rw [HSL.out]; omega)⟩
        obtain ⟨ga, oa, hia, hgl, hca, hcb⟩ := p_at HS5.out psT hq
        obtain ⟨ga', oa', hia', hgl', hca', hcb'⟩ := p_at HS5.out psT hq'
        rw [show ((k - 1 : Nat) : Int) = (k : Int) - 1 by omega] at hia
        have hlt := rising_get HRI.out (Nat.pos_of_ne_zero hk0) hq hq'
        have b1 := HBS.out q (List.mem_of_getElem? hq)
        have b2 := HBS.out q' (List.mem_of_getElem? hq')
        have HARC := Lib.hid (fun t h1 h2 => owner_arc (t := t) HRI.out (show 0 < k by omega) hq hq' h1 h2)
        obtain ⟨q1, q2⟩ := q
        obtain ⟨q1', q2'⟩ := q'
        simp only at hca hcb hca' hcb' hlt b1 b2 HARC
        have hw1 : IntKind.i64.wrap ((k : Int) - 1) = (k : Int) - 1 := by rw [IntKind.wrap_i64]; omega
        clear hq hq'
        have hk : ∀ b : Int, b = (ts.length : Int) → at_ % b = (k : Int) := fun b hb => hb ▸ HKE.out
        have hwk := HWK.out
        have hze := HZE.out
        have hwl := HWL.out
        obtain ⟨sp, hsp, hsp0, hspe⟩ : ∃ sp, IntKind.u64.wrap (IntKind.u64.wrap q1' - IntKind.u64.wrap q1) = sp ∧ 0 < sp ∧ q1 + sp = q1' := ⟨_, rfl, by simp only [IntKind.wrap_u64]; omega, by simp only [IntKind.wrap_u64]; omega⟩
        have hspn : ¬ sp = 0 := by omega
        have r0 := Int.emod_nonneg off_ hspn
        have r1 := Int.emod_lt_of_pos off_ hsp0
        obtain ⟨r, hr⟩ : ∃ r, off_ % sp = r := ⟨_, rfl⟩
        rw [hr] at r0 r1
        have hr2 : ∀ b : Int, b = sp → off_ % b = r := fun b hb => hb ▸ hr
        clear hr
        have hadd : IntKind.i64.wrap (IntKind.u64.wrap (IntKind.u64.wrap (IntKind.u64.wrap q1 + 1) + r)) = q1 + 1 + r := by
          simp only [IntKind.wrap_u64, IntKind.wrap_i64]; omega
        have HO1 := Lib.hid (fun W (hW : RV W p S) => (HARC.out (q1 + 1 + r) (by omega) (by omega) ▸ Rowner_view (t := q1 + 1 + r) hW HRI.out (by rw [HSL.out]; omega)))
        have e1 := strEq_self q2'
        have hsl0 : 0 < S.length := by rw [HSL.out]; exact hpos
        clear hlt b1 b2 hsp0 hspe r0 r1 hkl hpos
        go_wp2_with fail
        rw [hwk]
        clear hwk hk
        go_quiet (fail)
        go_wp2_with fail
        go_quiet (fail)
        go_wp2_with fail
        go_at_call 13
        refine (HO1.out _ (HRV5.out.kept ((Kept.refl noBlock w3).drewN _))).mono ?_
        rintro e w4 ⟨rfl, hk4⟩
        have hk6 := ((Kept.refl noBlock w3).drewN _).trans hk4 (fun _ _ h => h)
        have y1 := (hk6.cell (p := ⟨ga', oa' + 1, none⟩) hgl' (fun h => h)).trans hcb'
        have HK7 := Lib.hid (HK5.out.trans hk6 (fun _ _ h => h))
        clear hca hcb hca' hcb' hk4 hk6
        go_wp2
        go_ret
        exact ⟨rfl, HK7.out⟩
end Go.Proofs.YthjpoiemconeeaaDoor

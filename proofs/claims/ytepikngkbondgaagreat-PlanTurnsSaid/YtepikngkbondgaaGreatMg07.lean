/- replica.Network: the walk behind its first loop · replica.Network: the walk · A row without what stands twice · replica.Network, plainly: what one center makes of its hosts; the hosts that are out, center by center · replica.Network, plainly: a center counted without maps; the document's order · replica.Network, plainly: of each center as many as are needed, none twice, of as many racks as can be; one center does not hang on the others; simple cases · The reference of chapter 14: a host's site. -/
import Derived.Test.YtepikngkbondgaaGreatMg06
import Derived.Test.YtepikngkbondgaaGreatMg05
import Derived.Test.YtepikngkbondgaaGreatMg02
namespace Go.Proofs.YtepikngkbondgaaGreat
set_option linter.unusedVariables false
open Go.RowKit
open Go.ChangeMaps (setBlock)

set_option maxRecDepth 100000 in
set_option maxHeartbeats 8000000 in
theorem net_rest {w W : World} {rv : Value} {t : Int} {l : List ByteArray} {zs : List Si} {fs : List Fa} {A1 A2 : Option Addr} {n1 n2 c1 c2 N D : Nat} (hn2 : fs.length = n2) (hN : w.heap.size = N)
    (hf : Lo w w.heap.size 2 (.slice A2 n2 c2) n2 (fs.flatMap fC))
    (hw : ∀ W, Kept noBlock w W → Calls Tryz.prog 45 #[rv, .int .i64 t] W fun e w' => ∃ v, e = .returned v ∧ w'.ownsRow W.heap.size 9 1 v l.length (l.map Value.string) ∧ Kept noBlock W w')
    (hfl : fs.length ≤ 1000) (hll : l.length ≤ 200) (hfn : ∀ f ∈ fs, -9223372036854775808 ≤ f.2 ∧ f.2 < 9223372036854775808)
    (hkW : Kept noBlock w W) (hND : N ≤ D) (hD : W.heap[D]? = some (.deferred (some []))) (hsm : SiMap W N (smOf zs.reverse)) (hcm : CeMap W (N + 1) [])
    (hbX : Blk W (N + 1 + 1) 111 #[.map (some N), .map (some (N + 1)), .slice none 0 0]) (hbB : Blk W (N + 1 + 1 + 1) 107 #[.pointer (some ⟨N + 1 + 1, 0, none⟩)])
    (c : Code) (hc : c = netRest) : Code.wp Tryz.prog c (bodyPostM Fence.wide 6 Tryz.prog Tryz.f27 fun e w' => NetPost w zs l fs e w') { tmps := #[rv, .int .i64 t, .slice A1 n1 c1, .slice A2 n2 c2, undef, undef, undef, undef, .slice none 0 0, .int .i64 0, .pointer (some ⟨N + 1 + 1 + 1, 0, none⟩), undef, undef, undef, undef, undef, undef, undef, undef, undef, undef, undef, undef, undef, undef, undef, .map (some N), .map (some (N + 1)), .agg #[.map (some N), .map (some (N + 1)), .slice none 0 0], .pointer (some ⟨N + 1 + 1, 0, none⟩), .slice A1 n1 c1, .func (.func 71) #[] #[.pointer (some ⟨N + 1 + 1 + 1 + 1, 0, none⟩)], undef, undef, undef, undef, undef, undef, undef, undef, undef, undef, undef, undef, undef, undef, undef, undef, undef, undef, undef, undef, undef, undef, undef, undef, undef, undef, undef, undef, undef, undef, undef, undef, undef, undef, undef, undef, undef, undef, undef, undef, undef, undef, undef, undef, undef, undef, undef, undef, undef, undef, undef, undef, undef, undef, undef, undef, undef, undef, undef, undef, undef, undef, undef, undef, undef, undef, undef, undef, undef, undef, undef, undef, undef, undef, undef, undef, undef, undef, undef, undef, undef, undef, undef, undef, undef, undef, undef, undef, undef, undef, undef, undef, undef, undef, undef, undef, undef, undef, undef, undef, undef, undef, undef, undef, undef, undef, undef, undef, undef, undef, undef, undef, undef, undef, undef], defers := [{ target := .collected D, args := #[] }] } W := by
  subst hc
  conv => arg 2; whnf
  have hne : N ≠ N + 1 := by omega
  have hO := ChO.start hbX hsm hcm hne
  have HKW := Lib.hid hkW
  have HNDn : D ≠ N + 1 := by
    rintro rfl
    obtain ⟨es, ck, hh, _⟩ := hcm
    rw [hD] at hh; cases hh
  have HD := Lib.hid hD
  have HNDx : D ≠ N + 1 + 1 := by
    rintro rfl
    unfold Blk at hbX
    rw [hD] at hbX; cases hbX
  have HBB := Lib.hid hbB
  have HF := Lib.hid hf
  have HW := Lib.hid hw
  have HFN := Lib.hid hfn
  have HO := Lib.hid hO
  clear hkW hD hbB hf hw hfn hO hsm hcm hbX
  go_wp2_with fail
  go_loopg [43] n2 (fun j vi wr => ∃ (i : Nat) (cs : List (ByteArray × Cr)) (own : Nat → Own), i + j = n2 ∧ vi = .int .i64 (i : Nat) ∧ ChO wr W.heap.size (N + 1 + 1) N (N + 1) (smOf zs.reverse) cs [] own (.slice none 0 0) ∧ Fresh (fs.take i) cs ∧ Kept (fun k => k = N + 1) W wr)
  case atStart => exact ⟨0, [], _, by omega, rfl, HO.out, ⟨rfl, fun p hp => by simp at hp⟩, Kept.refl _ _⟩
  case round =>
    obtain ⟨i, cs, own, hij, rfl, hO, hfr, hk⟩ := hrel
    have HIJ := Lib.hid hij
    have HFR := Lib.hid hfr
    have HK := Lib.hid hk
    have hbB := HBB.out.kept hk (by omega)
    have y0 := hbB.cell 0
    have y1 := hO.blk.cell 1
    simp only [List.getElem?_toArray, List.getElem?_cons_succ, List.getElem?_cons_zero] at y0 y1
    have HO1 := Lib.hid hO
    clear HO
    by_cases hil : i < n2
    · obtain ⟨f, hfi⟩ : ∃ f, fs[i]? = some f := ⟨_, List.getElem?_eq_getElem (by omega)⟩
      have hfw : SlK wr (fun g _ => g < w.heap.size) 2 (.slice A2 n2 c2) n2 (fs.flatMap fC) := (HF.out.keptAll HKW.out fun _ _ _ h => h).keptAll hk fun g e hg h => by omega
      obtain ⟨ge, oo, hidx, hgl, q0, q1⟩ := fac_at hfw hfi
      obtain ⟨dc, fn⟩ := f
      simp only at q0 q1
      have HFI := Lib.hid hfi
      have hw1 : IntKind.i64.wrap ((i : Int) + 1) = (i : Int) + 1 := by rw [IntKind.wrap_i64]; omega
      have hk1 : Kept noBlock wr (wr.alloc (.cells #[.string dc, .int .i64 fn] 78)) := (Kept.refl noBlock wr).alloc _
      have hbf : Blk (wr.alloc (.cells #[.string dc, .int .i64 fn] 78)) wr.heap.size 78 #[.string dc, .int .i64 fn] := Blk.new _ _ _
      have HBF := Lib.hid hbf
      have HK1 := Lib.hid hk1
      have HBBr := Lib.hid hbB
      clear hij hfr hk hbB hO hfi hfw hk1 hbf y0 y1
      go_wp2_with fail
      have hO1 := HO1.out.kept HK1.out (fun _ h => False.elim h)
      have hHD : Hid (wr.heap.size = wr.heap.size) := Lib.hid rfl
      obtain ⟨w1, hw1e⟩ : ∃ w1, w1 = wr.alloc (.cells #[.string dc, .int .i64 fn] 78) := ⟨_, rfl⟩
      rw [← hw1e] at hO1 HBF HK1 ⊢
      have HW1E := Lib.hid hw1e
      clear hw1e
      have hbB1 := HBBr.out.kept HK1.out (fun h => h)
      have y0 := hbB1.cell 0
      have y1 := hO1.blk.cell 1
      have q0' := HBF.out.cell 0
      simp only [List.getElem?_toArray, List.getElem?_cons_succ, List.getElem?_cons_zero] at y0 y1 q0'
      generalize hNf : wr.heap.size = Nf at *
      have l2 := hO1.cens.drew.run_lookup (P := Tryz.prog) string_emb mceM strU (zero_cen w1.drew) dc false
      have HO1' := Lib.hid hO1
      have HB1 := Lib.hid hbB1
      cases hdc : aget dc cs with
      | some c =>
        rw [cen_some hO1.nd hdc] at l2
        simp only [Option.map_some, Option.getD_some, Bool.false_eq_true, if_false] at l2
        have HDC := Lib.hid hdc
        clear hO1 hbB1 hdc
        go_region
        go_wp2_with fail
        have hkw1 : Kept noBlock w w1.drew := ((HKW.out.trans HK.out (fun k hk e => by omega)).trans HK1.out (fun _ _ e => e)).drew
        have hD1 : w1.drew.heap[D]? = some (.deferred (some [])) := (HK1.out.block D (Nat.lt_of_lt_of_le (lt_of_heap HD.out) HK.out.size) (fun e => e)).trans ((HK.out.block D (lt_of_heap HD.out) (fun e => HNDn e)).trans HD.out)
        refine ⟨by simp, .inl ⟨_, _, rfl, run_takeDeferred hD1, ?_⟩⟩
        refine ⟨_, results_tmp2 rfl _ _ _, hkw1.putObj (fun e => by omega) _, .inl ⟨.inl ?_, rfl⟩⟩
        intro hnd
        have h1 : dc ∈ (fs.take i).map (·.1) := by
          rw [← HFR.out.1]
          exact List.mem_map.2 ⟨_, aget_mem HDC.out, rfl⟩
        have h2 : fs.map (·.1) = (fs.take i).map (·.1) ++ dc :: (fs.drop (i + 1)).map (·.1) := by
          conv => lhs; rw [← List.take_append_drop i fs]
          rw [List.map_append, List.drop_eq_getElem_cons (List.getElem?_eq_some_iff.1 HFI.out).1, (List.getElem?_eq_some_iff.1 HFI.out).2]
          rfl
        rw [h2, List.nodup_append] at hnd
        exact hnd.2.2 dc h1 dc (List.mem_cons_self ..) rfl
      | none =>
        rw [cen_none hdc] at l2
        simp only [Option.map_none, Option.getD_none, Bool.false_eq_true, if_false] at l2
        have HDC := Lib.hid hdc
        have hmk := @run_makeMap Tryz.prog
        have hk2 : Kept noBlock w1 (((w1.alloc (.map #[] 0)).alloc (.cells #[.int .i64 0, .int .i64 0, .map (some w1.heap.size), .slice none 0 0] 117)).drew.drew) := (((Kept.refl noBlock w1).alloc _).alloc _).drew.drew
        have hg2 : Blk (((w1.alloc (.map #[] 0)).alloc (.cells #[.int .i64 0, .int .i64 0, .map (some w1.heap.size), .slice none 0 0] 117)).drew.drew) (w1.heap.size + 1) 117 #[.int .i64 0, .int .i64 0, .map (some w1.heap.size), .slice none 0 0] := (Blk.new_at _ _ _ (by rw [sz_alloc])).drew.drew
        have hm2 : SMap (((w1.alloc (.map #[] 0)).alloc (.cells #[.int .i64 0, .int .i64 0, .map (some w1.heap.size), .slice none 0 0] 117)).drew.drew) w1.heap.size [] := ((KMap.new w1).alloc _).drew.drew
        obtain ⟨es, ck, hup, hC⟩ := (hO1.cens.kept hk2 (fun e => e)).run_update (P := Tryz.prog) string_emb mceM strU dc (w1.heap.size + 1)
        obtain ⟨own2, hO2, hown2⟩ := hO1.cen hdc hk2 hg2 hm2 (by omega) (by omega) hC
        have hkS : Kept (fun k => k = N + 1) w1 (setBlock (((w1.alloc (.map #[] 0)).alloc (.cells #[.int .i64 0, .int .i64 0, .map (some w1.heap.size), .slice none 0 0] 117)).drew.drew) (N + 1) (.map es ck)) := (hk2.of_none (S := fun k => k = N + 1)).setBlock (m := N + 1) (fun _ => rfl) _
        have HO2 := Lib.hid hO2
        have HKS := Lib.hid hkS
        have HUP := Lib.hid hup
        have HOWN2 := Lib.hid hown2
        have hnn : N + 1 < Nf := by rw [← hNf]; exact HO1.out.cens.lt
        clear hO1 hbB1 hdc hk2 hg2 hm2 hC hO2 hkS hown2 hup
        go_region
        go_wp2_with fail
        refine wp_region_sch (fun w' => Kept (fun k => k = N + 1) w1 w') (.take 0 (.take 1 (.take 2 (.take 3 (.take 4 (.take 5 (.one 6 (.take 7 (.one 8 (.one 9 .nil)))))))))) (by kernel_rfl) (by kernel_rfl) (by kernel_rfl) (Kept.refl _ _).drew.drew ?_
        repeat (first
          | (refine sch_takeE rfl rfl ?_
             apply Exists.intro
             refine ⟨fun w' hS => ?_, fun K hK => ?_⟩
             · (have z0 := (HB1.out.kept hS (by omega)).cell 0
                have z1 := (HO1'.out.blk.kept hS (by omega)).cell 1
                have z2 := (HBF.out.kept hS (by omega)).cell 0
                simp only [List.getElem?_toArray, List.getElem?_cons_succ, List.getElem?_cons_zero] at z0 z1 z2
                clear hS
                unfold takesAt; go_simp; rfl)
             go_simp
             refine hK _ ?_
             clear hK K))
        refine sch_doK rfl rfl (fun K hK => ?_)
        go_simp
        refine hK _ _ ?_ ?_
        · repeat (first | exact Kept.refl _ _ | apply Kept.drew | apply Kept.alloc)
        clear hK K
        repeat (first
          | (refine sch_takeE rfl rfl ?_
             apply Exists.intro
             refine ⟨fun w' hS => ?_, fun K hK => ?_⟩
             · (clear hS
                unfold takesAt; go_simp; rfl)
             go_simp
             refine hK _ ?_
             clear hK K))
        refine sch_doK rfl rfl (fun K hK => ?_)
        go_simp
        refine hK _ _ ?_ ?_
        · repeat (first | exact Kept.refl _ _ | apply Kept.drew | apply Kept.alloc)
        clear hK K
        refine sch_doK rfl rfl (fun K hK => ?_)
        have hup := HUP.out
        go_simp
        refine hK _ _ HKS.out ?_
        clear hK K hup
        refine sch_nil (NoPanic.normal ?_)
        go_wp2
        go_roundg (n2 - (i + 1))
        case measure => have := HIJ.out; omega
        case rel =>
          refine ⟨i + 1, _, own2, by omega, by go_num, HO2.out, ⟨?_, ?_⟩, (HK.out.trans HK1.out.of_none (fun _ _ e => e)).trans HKS.out (fun _ _ e => e)⟩
          · rw [List.map_append, HFR.out.1, List.take_add_one, HFI.out, List.map_append]; rfl
          · intro p hp
            rcases List.mem_append.1 hp with hp | hp
            · exact HFR.out.2 p hp
            · obtain rfl := List.mem_singleton.1 hp
              exact ⟨rfl, rfl, rfl, rfl⟩
    · obtain rfl : i = n2 := by omega
      have hfr2 : Fresh fs cs := by rw [← hn2, List.take_length] at hfr; exact hfr
      have HFR2 := Lib.hid hfr2
      have hkr : Kept noBlock w wr := HKW.out.trans hk (fun k h e => by omega)
      have HKR := Lib.hid hkr
      clear hij hfr hk hbB hO hfr2 hkr HFR HIJ
      go_wp2_with fail
      go_at_call 45
      refine (HW.out wr HKR.out).mono ?_
      rintro e w2 ⟨vl, rfl, hrow, hk2⟩
      have hO2 := HO1.out.kept hk2 (fun _ h => False.elim h)
      have hvl : ∀ k, vl.ownBlock = some k → own k = .m := fun k e => HO1.out.top k (own_type hrow e).1
      obtain ⟨A3, c3, rfl, -, -⟩ := (Sl.of_own hrow).shape
      have hbB2 := (HBB.out.kept HK.out (by omega)).kept hk2 (fun e => e)
      have hob : own (N + 1 + 1 + 1) = .m := by
        have h1 := HBB.out.lt
        cases ho : own (N + 1 + 1 + 1) with
        | m => rfl
        | _ => exact absurd (HO1.out.far (N + 1 + 1 + 1) (by rw [ho]; simp)) (by omega)
      have hod : own D = .m := by
        have h1 := lt_of_heap HD.out
        cases ho : own D with
        | m => rfl
        | _ => exact absurd (HO1.out.far D (by rw [ho]; simp)) (by omega)
      have HROW := Lib.hid hrow
      have HO2 := Lib.hid hO2
      have HVL := Lib.hid hvl
      have HBB2 := Lib.hid hbB2
      have HK2 := Lib.hid (HKR.out.trans hk2 (fun _ _ e => e))
      have hd2 : w2.heap[D]? = some (.deferred (some [])) := (hk2.block D (Nat.lt_of_lt_of_le (lt_of_heap HD.out) HK.out.size) (fun e => e)).trans ((HK.out.block D (lt_of_heap HD.out) (fun e => HNDn e)).trans HD.out)
      have HD2 := Lib.hid hd2
      have hw2N : N ≤ w2.heap.size := by have := (HKR.out.trans hk2 (fun _ _ e => e)).size; omega
      have HFAR := Lib.hid HO1.out.far
      have HWN : Hid (w.heap.size ≤ W.heap.size) := Lib.hid HKW.out.size
      have HOB := Lib.hid hob
      have HOD := Lib.hid hod
      have hlen := (Sl.of_own hrow).run_len strsT
      clear hrow hk2 hO2 hvl hbB2 hob hod hd2 HO1 HKR y0 y1
      go_wp2_with fail
      go_loopg [70] l.length (fun j vi wr => ∃ (i : Nat) (cs' : List (ByteArray × Cr)) (own' : Nat → Own), i + j = l.length ∧ vi = .int .i64 (i : Nat) ∧ ChO wr W.heap.size (N + 1 + 1) N (N + 1) (smOf zs.reverse) cs' [] own' (.slice none 0 0) ∧ Step own own' w2 wr ∧ cs' = countAll (smOf zs.reverse) (l.take i) cs ∧ (∀ h ∈ l.take i, ∃ s, aget h (smOf zs.reverse) = some s) ∧ (∀ p ∈ cs', 0 ≤ p.2.need ∧ p.2.need ≤ i))
      case atStart => exact ⟨0, cs, own, by omega, rfl, HO2.out, .of_none (Kept.refl _ _), rfl, fun h hh => by simp at hh, fun p hp => by rw [(HFR2.out.2 p hp).1]; simp⟩
      case round =>
        obtain ⟨q, cs3, own3, hij, rfl, hO3, hst, hcs, hall, hnd⟩ := hrel
        have HIJ := Lib.hid hij
        have HO3 := Lib.hid hO3
        have HST := Lib.hid hst
        have HCS := Lib.hid hcs
        have HALL := Lib.hid hall
        have HND := Lib.hid hnd
        have hrow3 := own_keptB HROW.out hst.1 (fun k e h => h (HVL.out k e))
        have hbB3 := HBB2.out.kept hst.1 (fun h => h HOB.out)
        have HBB3 := Lib.hid hbB3
        by_cases hql : q < l.length
        · obtain ⟨x, hx⟩ : ∃ x, l[q]? = some x := ⟨_, List.getElem?_eq_getElem hql⟩
          obtain ⟨ge, oo, hidx, hgl, hc0⟩ := str_at (Sl.of_own hrow3) hx
          have HX := Lib.hid hx
          have hw1 : IntKind.i64.wrap ((q : Int) + 1) = (q : Int) + 1 := by rw [IntKind.wrap_i64]; omega
          have y0 := hbB3.cell 0
          have y1 := hO3.blk.cell 0
          simp only [List.getElem?_toArray, List.getElem?_cons_zero] at y0 y1
          have l1 := hO3.sites.run_lookup (P := Tryz.prog) string_emb msiM strU (zero_site wr) x true
          cases hxs : aget x (smOf zs.reverse) with
          | none =>
            rw [hxs] at l1
            simp only [Option.map_none, Option.getD_none, Option.isSome_none, if_true] at l1
            have HXS := Lib.hid hxs
            clear hrow3 hij hO3 hst hcs hall hnd hbB3 hx hxs
            go_wp2_with fail
            have hD3 : (wr.alloc (.cells #[.string noStr, .string noStr, .string noStr] 66)).heap[D]? = some (.deferred (some [])) :=
              (((Kept.refl noBlock wr).alloc _).block D (Nat.lt_of_lt_of_le (lt_of_heap HD2.out) HST.out.1.size) (fun e => e)).trans ((HST.out.1.block D (lt_of_heap HD2.out) (fun e => e HOD.out)).trans HD2.out)
            have hkw3 : Kept noBlock w (wr.alloc (.cells #[.string noStr, .string noStr, .string noStr] 66)) := (HK2.out.trans HST.out.1 (fun k hk e => by
              rcases HFAR.out k e with e1 | e1
              · omega
              · have := HWN.out; omega)).alloc _
            refine ⟨by simp, .inl ⟨_, _, rfl, run_takeDeferred hD3, ?_⟩⟩
            exact ⟨_, results_tmp2 rfl _ _ _, hkw3.putObj (fun e => by omega) _, .inl ⟨.inr ⟨x, List.mem_of_getElem? HX.out, HXS.out⟩, rfl⟩⟩
          | some s =>
            rw [hxs] at l1
            obtain ⟨sh, sd, sr⟩ := s
            simp only [Option.map_some, Option.getD_some, Option.isSome_some, if_true, sV] at l1
            have HXS := Lib.hid hxs
            have hcnt : countAll (smOf zs.reverse) (l.take (q + 1)) cs = countH (sh, sd, sr) cs3 := by
              rw [List.take_add_one, hx]
              unfold countAll at hcs ⊢
              rw [List.foldl_append, ← hcs]
              simp only [Option.toList_some, List.foldl_cons, List.foldl_nil, hxs]
            have HCNT := Lib.hid hcnt
            have hN3 : own3 wr.heap.size = .m := hO3.top _ (Nat.le_refl _)
            have HN3 := Lib.hid hN3
            clear hrow3 hij hO3 hst hcs hall hnd hbB3 hx hxs hcnt hN3
            go_wp2_with fail
            have hk1 : Kept noBlock wr (wr.alloc (.cells #[.string sh, .string sd, .string sr] 66)) := (Kept.refl noBlock wr).alloc _
            have hbs : Blk (wr.alloc (.cells #[.string sh, .string sd, .string sr] 66)) wr.heap.size 66 #[.string sh, .string sd, .string sr] := Blk.new _ _ _
            have hO1 := HO3.out.kept hk1 (fun _ h => False.elim h)
            have hbB1 := HBB3.out.kept hk1 (fun e => e)
            generalize wr.alloc (.cells #[.string sh, .string sd, .string sr] 66) = w1 at *
            generalize hNr : wr.heap.size = Nr at *
            have s1 := hbs.cell 1
            have s2 := hbs.cell 2
            have z1 := hO1.blk.cell 1
            have y0 := hbB1.cell 0
            simp only [List.getElem?_toArray, List.getElem?_cons_succ, List.getElem?_cons_zero] at s1 s2 z1 y0
            have l2 := hO1.cens.drew.run_lookup (P := Tryz.prog) string_emb mceM strU (zero_cen w1.drew) sd false
            have HO1 := Lib.hid hO1
            have HK1 := Lib.hid hk1
            have HBS := Lib.hid hbs
            have hallq : ∀ h ∈ l.take (q + 1), ∃ s, aget h (smOf zs.reverse) = some s := by
              intro h hh
              rw [List.take_add_one, HX.out] at hh
              rcases List.mem_append.1 hh with hh | hh
              · exact HALL.out h hh
              · obtain rfl : h = x := by simpa using hh
                exact ⟨_, HXS.out⟩
            have HALLQ := Lib.hid hallq
            clear hallq
            cases hdc : aget sd cs3 with
            | none =>
              rw [cen_none hdc] at l2
              simp only [Option.map_none, Option.getD_none, Bool.false_eq_true, if_false] at l2
              have HDC := Lib.hid hdc
              clear hO1 hk1 hbs hbB1 hdc
              go_region
              go_wp2_with fail
              go_roundg (l.length - (q + 1))
              case measure => have := HIJ.out; omega
              case rel =>
                refine ⟨q + 1, cs3, own3, by have := HIJ.out; omega, by go_num, HO1.out.kept (Kept.refl noBlock w1).drew (fun _ h => False.elim h), (HST.out.trans (.of_none HK1.out)).trans (.of_none (Kept.refl noBlock w1).drew), ?_, HALLQ.out, fun p hp => by have := HND.out p hp; omega⟩
                rw [HCNT.out]
                unfold countH
                rw [HDC.out]
            | some c =>
              rw [cen_some hO1.nd hdc] at l2
              simp only [Option.map_some, Option.getD_some, Bool.false_eq_true, if_false] at l2
              have HDC := Lib.hid hdc
              have hcn := HND.out _ (aget_mem hdc)
              simp only at hcn
              have hwn : IntKind.i64.wrap (c.need + 1) = c.need + 1 := by rw [IntKind.wrap_i64]; omega
              have HCN := Lib.hid hcn
              obtain ⟨vw, hcr⟩ := hO1.cr (sd, c) (aget_mem hdc)
              have zc0 := hcr.blk.cell 0
              have fz0 := hcr.blk.frozen 0
              simp only [List.getElem?_toArray, List.getElem?_cons_zero] at zc0
              obtain ⟨hO2, hst2⟩ := hO1.needs (c.need + 1) hdc hcr
              have hd2 : aget sd (aput sd { c with need := c.need + 1 } cs3) = some { c with need := c.need + 1 } := by rw [aget_aput, if_pos rfl]
              obtain ⟨vw2, hcr2⟩ := hO2.cr (sd, { c with need := c.need + 1 }) (aget_mem hd2)
              have hbs2 := hbs.kept hst2.1 (fun h => h HN3.out)
              have HO2 := Lib.hid hO2
              have HST2 := Lib.hid hst2
              have HCR2 := Lib.hid hcr2
              have HD2c := Lib.hid hd2
              have HBS2 := Lib.hid hbs2
              clear hO1 hk1 hbs hbB1 hdc hcn hcr hO2 hst2 hd2 hcr2 hbs2
              go_region
              go_wp2_with fail
              generalize w1.setCell ⟨c.g, 0, none⟩ (.int .i64 (c.need + 1)) = w4 at *
              clear zc0 fz0 s1 s2 z1 y0 l2
              have y2 : w4.cell? ⟨c.g, 2, none⟩ = some (.map (some c.mr)) := HCR2.out.blk.cell 2
              have s2 := HBS2.out.cell 2
              simp only [List.getElem?_toArray, List.getElem?_cons_succ, List.getElem?_cons_zero] at s2
              have hm3 : SMap w4.drew.drew c.mr c.racks := HCR2.out.map.drew.drew
              obtain ⟨es, ck, hup, hm4⟩ := hm3.run_update (P := Tryz.prog) string_emb msbM strU sr false
              obtain ⟨hc4, hk4⟩ := (HO2.out.kept (Kept.refl noBlock w4).drew.drew (fun _ h => False.elim h)).racks HD2c.out (HCR2.out.kept (own' := own3) (Kept.refl noBlock w4).drew.drew (fun _ _ h => False.elim h) (fun _ _ => rfl)) hm4
              rw [aput_aput] at hc4
              have HC4 := Lib.hid hc4
              have HK4 := Lib.hid ((((HST.out.trans (.of_none HK1.out)).trans HST2.out).trans (.of_none (Kept.refl noBlock w4).drew.drew)).trans hk4)
              clear hm3 hm4 hc4 hk4
              go_region
              go_wp2_with fail
              go_roundg (l.length - (q + 1))
              case measure => have := HIJ.out; omega
              case rel =>
                refine ⟨q + 1, _, own3, by have := HIJ.out; omega, by go_num, HC4.out, HK4.out, ?_, HALLQ.out, fun p hp => ?_⟩
                · rw [HCNT.out]
                  unfold countH
                  rw [HDC.out]
                · rcases mem_aput HO1.out.nd hp with rfl | ⟨hp, -⟩
                  · have := HCN.out
                    show 0 ≤ c.need + 1 ∧ c.need + 1 ≤ _
                    omega
                  · have := HND.out p hp; omega
        · obtain rfl : q = l.length := by omega
          rw [List.take_length] at hcs hall
          have hkeys : cs3.map (·.1) = fs.map (·.1) := by rw [hcs, countAll_keys]; exact HFR2.out.1
          have hnodf : (fs.map (·.1)).Nodup := hkeys ▸ hO3.nd
          have HCS3 := Lib.hid hcs
          have HALL3 := Lib.hid hall
          have HKEYS := Lib.hid hkeys
          have HNODF := Lib.hid hnodf
          have HND3 : Hid (∀ p ∈ cs3, 0 ≤ p.2.need ∧ p.2.need ≤ 200) := Lib.hid fun p hp => by have := hnd p hp; omega
          clear hij hO3 hcs hall hnd hrow3 hbB3 hkeys hnodf HCS HALL HND HIJ hst
          go_wp2_with fail
          go_loopg [110] i (fun j vi wx => ∃ (k : Nat) (cs' : List (ByteArray × Cr)) (own' : Nat → Own), k + j = i ∧ vi = .int .i64 (k : Nat) ∧ ChO wx W.heap.size (N + 1 + 1) N (N + 1) (smOf zs.reverse) cs' [] own' (.slice none 0 0) ∧ Step own own' w2 wx ∧ cs' = needAll (fs.take k) cs3 ∧ (∀ p ∈ cs', -9223372036854775808 ≤ p.2.need ∧ p.2.need < 9223372036854775808))
          case atStart => exact ⟨0, cs3, own3, by omega, rfl, HO3.out, HST.out, rfl, fun p hp => by have := HND3.out p hp; omega⟩
          case round =>
            obtain ⟨k, cs4, own4, hij, rfl, hO4, hst, hcs, hnd⟩ := hrel
            have HIJ := Lib.hid hij
            have HO4 := Lib.hid hO4
            have HST4 := Lib.hid hst
            have HCS := Lib.hid hcs
            have HND := Lib.hid hnd
            have hbB4 := HBB2.out.kept hst.1 (fun h => h HOB.out)
            have HBB4 := Lib.hid hbB4
            by_cases hki : k < i
            · obtain ⟨f, hfi⟩ : ∃ f, fs[k]? = some f := ⟨_, List.getElem?_eq_getElem (by omega)⟩
              have hfw : SlK wr (fun g _ => g < w.heap.size) 2 (.slice A2 i c2) i (fs.flatMap fC) := (HF.out.keptAll HK2.out fun _ _ _ h => h).keptAll hst.1 fun g e hg h => by
                rcases HFAR.out g h with e1 | e1
                · omega
                · have := HWN.out; omega
              obtain ⟨ge, oo, hidx, hgl, q0, q1⟩ := fac_at hfw hfi
              obtain ⟨dc, fn⟩ := f
              simp only at q0 q1
              have hdin : dc ∈ cs4.map (·.1) := by
                rw [hcs, needAll_keys, HKEYS.out]
                exact List.mem_map.2 ⟨_, List.mem_of_getElem? hfi, rfl⟩
              obtain ⟨⟨dc', c⟩, hmc, rfl⟩ := List.mem_map.1 hdin
              have hdc := aget_of_mem hO4.nd hmc
              have hcn := hnd _ hmc
              simp only at hcn hdc q0
              have hfnb := HFN.out _ (List.mem_of_getElem? hfi)
              have hnx : needAll (fs.take (k + 1)) cs3 = aput dc' { c with need := max (min c.need fn) 0 } cs4 := by
                rw [List.take_add_one, hfi]
                unfold needAll at hcs ⊢
                rw [List.foldl_append, ← hcs]
                show needF (dc', fn) cs4 = _
                unfold needF
                simp only []
                rw [hdc]
              have HNX := Lib.hid hnx
              have HDC := Lib.hid hdc
              have HCN := Lib.hid hcn
              have HFNB := Lib.hid hfnb
              have hN4 : own4 wr.heap.size = .m := hO4.top _ (Nat.le_refl _)
              have HN4 := Lib.hid hN4
              have hw1 : IntKind.i64.wrap ((k : Int) + 1) = (k : Int) + 1 := by rw [IntKind.wrap_i64]; omega
              clear hij hO4 hst hcs hnd hbB4 hfi hfw hdin hmc hdc hcn hfnb hnx hN4
              go_wp2_with fail
              have hk1 : Kept noBlock wr (wr.alloc (.cells #[.string dc', .int .i64 fn] 78)) := (Kept.refl noBlock wr).alloc _
              have hbf : Blk (wr.alloc (.cells #[.string dc', .int .i64 fn] 78)) wr.heap.size 78 #[.string dc', .int .i64 fn] := Blk.new _ _ _
              have hO1 := HO4.out.kept hk1 (fun _ h => False.elim h)
              have hbB1 := HBB4.out.kept hk1 (fun e => e)
              generalize wr.alloc (.cells #[.string dc', .int .i64 fn] 78) = w1 at *
              generalize hNr : wr.heap.size = Nr at *
              have s0 := hbf.cell 0
              have s1 := hbf.cell 1
              have z1 := hO1.blk.cell 1
              have y0 := hbB1.cell 0
              simp only [List.getElem?_toArray, List.getElem?_cons_succ, List.getElem?_cons_zero] at s0 s1 z1 y0
              have l2 := hO1.cens.drew.run_lookup (P := Tryz.prog) string_emb mceM strU (zero_cen w1.drew) dc' false
              rw [cen_some hO1.nd HDC.out] at l2
              simp only [Option.map_some, Option.getD_some, Bool.false_eq_true, if_false] at l2
              obtain ⟨vw, hcr⟩ := hO1.cr (dc', c) (aget_mem HDC.out)
              have zc0 := hcr.blk.cell 0
              have fz0 := hcr.blk.frozen 0
              simp only [List.getElem?_toArray, List.getElem?_cons_zero] at zc0
              obtain ⟨hO2, hst2⟩ := (hO1.kept (Kept.refl noBlock w1).drew.drew (fun _ h => False.elim h)).needs (max (min c.need fn) 0) HDC.out (hcr.kept (own' := own4) (Kept.refl noBlock w1).drew.drew (fun _ _ h => False.elim h) (fun _ _ => rfl))
              have FINO := Lib.hid hO2
              have FINS := Lib.hid (((HST4.out.trans (.of_none hk1)).trans (.of_none (Kept.refl noBlock w1).drew.drew)).trans hst2)
              have FINN : Hid (∀ p ∈ aput dc' { c with need := max (min c.need fn) 0 } cs4, -9223372036854775808 ≤ p.2.need ∧ p.2.need < 9223372036854775808) := Lib.hid fun p hp => by
                rcases mem_aput hO1.nd hp with rfl | ⟨hp, -⟩
                · have h1 := HCN.out
                  have h2 := HFNB.out
                  show -9223372036854775808 ≤ max (min c.need fn) 0 ∧ max (min c.need fn) 0 < _
                  omega
                · exact HND.out p hp
              clear hO1 hk1 hbf hbB1 hcr hO2 hst2
              go_region
              go_wp2_with fail
              go_region
              go_wp2_with fail
              go_roundg (i - (k + 1))
              case measure => have := HIJ.out; omega
              case rel => exact ⟨k + 1, _, own4, by have := HIJ.out; omega, by go_num, FINO.out, FINS.out, HNX.out.symm, FINN.out⟩
            · obtain rfl : k = i := by omega
              rw [← hn2, List.take_length] at hcs
              have HCS4 := Lib.hid hcs
              have hzero : Zero cs4 := by
                rw [hcs, HCS3.out]
                exact .need _ (.count _ ⟨HFR2.out.1 ▸ HNODF.out, fun p hp => ⟨(HFR2.out.2 p hp).2.1, (HFR2.out.2 p hp).2.2.2⟩⟩)
              have HZERO := Lib.hid hzero
              clear hij hO4 hst hcs hnd hbB4 HND HCS HIJ hzero
              go_wp2_with fail
              have hrow4 := own_keptB HROW.out HST4.out.1 (fun k e h => h (HVL.out k e))
              go_loopg [135] l.length (fun j vi wx => ∃ (p : Nat) (cs' : List (ByteArray × Cr)) (out' : List ByteArray) (own' : Nat → Own) (vo' : Value), p + j = l.length ∧ vi = .int .i64 (p : Nat) ∧ ChO wx W.heap.size (N + 1 + 1) N (N + 1) (smOf zs.reverse) cs' out' own' vo' ∧ Step own own' w2 wx ∧ (cs', out') = hostAll (smOf zs.reverse) (l.take p) cs4 ∧ Bd p cs' out')
              case atStart => exact ⟨0, cs4, [], own4, _, by omega, rfl, HO4.out, HST4.out, rfl, by simp, fun p hp => by have := HZERO.out.2 p hp; rw [this.1, this.2]; simp⟩
              case round =>
                obtain ⟨p, cs5, out5, own5, vo5, hij, rfl, hO5, hst, hho, hbd⟩ := hrel
                have HIJ := Lib.hid hij
                have HO5 := Lib.hid hO5
                have HST5 := Lib.hid hst
                have HHO := Lib.hid hho
                have HBD := Lib.hid hbd
                have hbB5 := HBB2.out.kept hst.1 (fun h => h HOB.out)
                have y0 := hbB5.cell 0
                have hrow5 := own_keptB HROW.out hst.1 (fun k e h => h (HVL.out k e))
                simp only [List.getElem?_toArray, List.getElem?_cons_zero] at y0
                by_cases hpl : p < l.length
                · obtain ⟨x, hx⟩ : ∃ x, l[p]? = some x := ⟨_, List.getElem?_eq_getElem hpl⟩
                  obtain ⟨ge, oo, hidx, hgl, hc0⟩ := str_at (Sl.of_own hrow5) hx
                  obtain ⟨s, hs⟩ := HALL3.out x (List.mem_of_getElem? hx)
                  have hsn := hostAll_snoc (cs := cs4) hx hs
                  rw [← hho] at hsn
                  have HSN := Lib.hid hsn
                  have HH := Lib.hid (rhost_at hO5 hs hbd (by omega))
                  have HBD2 := Lib.hid (hbd.step hO5.nd s x)
                  have hw1 : IntKind.i64.wrap ((p : Int) + 1) = (p : Int) + 1 := by rw [IntKind.wrap_i64]; omega
                  clear hij hO5 hst hho hbd hbB5 hrow5 hx hs hsn hrow4
                  go_wp2_with fail
                  go_at_call 48
                  refine HH.out.mono ?_
                  rintro e w7 ⟨rfl, own7, vo7, hO7, hst7⟩
                  have HO7 := Lib.hid hO7
                  have HST7 := Lib.hid (HST5.out.trans hst7)
                  clear hO7 hst7
                  go_wp2
                  go_roundg (l.length - (p + 1))
                  case measure => have := HIJ.out; omega
                  case rel => exact ⟨p + 1, _, _, own7, vo7, by have := HIJ.out; omega, by go_num, HO7.out, HST7.out, HSN.out.symm, HBD2.out⟩
                · obtain rfl : p = l.length := by omega
                  rw [List.take_length] at hho
                  have z2 := hO5.blk.cell 2
                  simp only [List.getElem?_toArray, List.getElem?_cons_succ, List.getElem?_cons_zero] at z2
                  have hD5 : wr.heap[D]? = some (.deferred (some [])) := (hst.1.block D (lt_of_heap HD2.out) (fun e => e HOD.out)).trans HD2.out
                  have HD5 := Lib.hid hD5
                  have HHO2 := Lib.hid hho
                  clear hij hO5 hst hho hbd hbB5 hrow5 hrow4 hD5
                  go_wp2_with fail
                  have hkw5 : Kept noBlock w wr := HK2.out.trans HST5.out.1 (fun k hk e => by
                    rcases HFAR.out k e with e1 | e1
                    · omega
                    · have := HWN.out; omega)
                  have hol : out5.length ≤ 40200 := by
                    have h1 := HBD.out.1
                    have h2 : l.length * (l.length + 1) ≤ 200 * 201 := Nat.mul_le_mul hll (by omega)
                    omega
                  refine ⟨by simp, .inl ⟨_, _, rfl, run_takeDeferred HD5.out, ?_⟩⟩
                  refine ⟨_, results_tmp2 rfl _ _ _, hkw5.putObj (fun e => by omega) _, .inr ⟨HNODF.out, HALL3.out, out5, _, ⟨cs, HFR2.out, ?_⟩, rfl, ?_, hol⟩⟩
                  · rw [← HCS3.out, ← HCS4.out, ← HHO2.out]
                  · exact Sl.of_own (own_keptB HO5.out.row ((Kept.refl (fun k => k = D) wr).putObj (fun _ => rfl) _) (fun k e e2 => by
                      have h1 := HO5.out.ow k e
                      subst e2
                      rw [HST5.out.2 _ (lt_of_heap HD2.out), HOD.out] at h1
                      cases h1))
end Go.Proofs.YtepikngkbondgaaGreat
namespace Go.Proofs.YtepikngkbondgaaGreat
set_option linter.unusedVariables false
open Go.RowKit Go.Shelf
open Go.ChangeMaps (setBlock)
attribute [local go_sem] Oper.semAt_some

set_option maxRecDepth 100000 in
set_option maxHeartbeats 8000000 in
theorem rNetwork_in {w : World} {rv : Value} {t : Int} {l : List ByteArray} {zs : List Si} {fs : List Fa} {A1 A2 : Option Addr} {n1 n2 c1 c2 : Nat} (hn1 : zs.length = n1) (hn2 : fs.length = n2)
    (hs : Lo w w.heap.size 3 (.slice A1 n1 c1) n1 (zs.flatMap sC)) (hf : Lo w w.heap.size 2 (.slice A2 n2 c2) n2 (fs.flatMap fC))
    (hw : ∀ W, Kept noBlock w W → Calls Tryz.prog 45 #[rv, .int .i64 t] W fun e w' => ∃ v, e = .returned v ∧ w'.ownsRow W.heap.size 9 1 v l.length (l.map Value.string) ∧ Kept noBlock W w')
    (hz : zs.length ≤ 1000) (hfl : fs.length ≤ 1000) (hll : l.length ≤ 200) (hfn : ∀ f ∈ fs, -9223372036854775808 ≤ f.2 ∧ f.2 < 9223372036854775808) :
    CallsIn Fence.wide 6 Tryz.prog 27 #[rv, .int .i64 t, .slice A1 n1 c1, .slice A2 n2 c2] w fun e w' => NetPost w zs l fs e w' := by
  have cB : ∀ (W : World), CallsIn Fence.wide (6 - 1) Tryz.prog 47 #[.slice A1 n1 c1] W fun e w' => e = .returned (.func (.func 71) #[] #[.pointer (some ⟨W.heap.size, 0, none⟩)]) ∧ w' = W.alloc (.cells #[.slice A1 n1 c1] 64) := fun W => Backw_in Fence.wide _ trivial rfl _ _ _ W
  have hF : Fence.wide.fn 47 := trivial
  have hmk := @run_makeMap Tryz.prog
  have HS := Lib.hid hs
  have HF := Lib.hid hf
  have HW := Lib.hid hw
  have HFN := Lib.hid hfn
  clear hs hf hw hfn
  refine callsIn_of_wp_marks Tryz.func27 rfl trivial ?_ rfl
  simp only [Tryz.ntmps27, List.size_toArray, List.length_cons, List.length_nil, Nat.reduceAdd, Nat.reduceSub, Array.replicate_succ, Array.replicate_zero, List.push_toArray, List.append_toArray, List.nil_append, List.cons_append]
  gi_wp2_with (gi_at_call 47; refine (cB _).mono ?_; rintro e w' ⟨rfl, rfl⟩)
  obtain ⟨hk0, hz0, hmS, hmC, hbX, hbB, hbs⟩ := net_layout w A1 n1 c1
  have hsl : Lo (netW w A1 n1 c1) w.heap.size 3 (.slice A1 n1 c1) n1 (zs.flatMap sC) := HS.out.keptAll hk0 fun _ _ _ h => h
  have HK0 := Lib.hid hk0
  have HN0 : Hid (w.heap.size = w.heap.size) := Lib.hid rfl
  clear hk0 cB hF
  show Code.wpIn _ _ _ _ _ _ (netW w A1 n1 c1)
  generalize netW w A1 n1 c1 = W0 at *
  generalize hN : w.heap.size = N at *
  have HZ0 := Lib.hid hz0
  have HBB := Lib.hid hbB
  have HBX := Lib.hid hbX
  refine wpIn_rangeFunc_ownH (α := Int × Si) rfl (by decide) (gf := 71) (lb := #[.pointer (some ⟨N + 1 + 1 + 1 + 1, 0, none⟩)]) rfl trivial (enters_of Tryz.func71 (by kernel_rfl) rfl)
    (Backw_stops Fence.wide (6 - 1) trivial rfl (by decide) (N + 1 + 1 + 1 + 1) N n1 c1 A1 zs hn1 (by omega) W0 (by omega) (by omega) (hbs.cell 0) hsl) backK_t (backK_b (by omega) (by omega)) (Below.refl _ _) (fun _ => rfl)
    (fun pre W => Kept (fun k => k = N) W0 W ∧ SiMap W N (smOf (sitesOf pre)))
    (fun _ _ _ => False)
    (fun s W W' row hs hg hr => ⟨hs.1.grown hg (fun k e hk => absurd hk (by have := (hr k e).1; omega)), hs.2.keep (hg.block N hs.2.lt (fun e => by have := (hr N e.symm).1; omega))⟩)
    (fun _ _ _ _ _ hs _ _ => hs)
    ⟨Kept.refl _ _, hmS⟩
    (fun x a' W => ∃ Bx, W0.heap.size ≤ Bx ∧ Blk W Bx 66 #[.string x.2.1, .string x.2.2.1, .string x.2.2.2] ∧ a' = { tmps := #[rv, .int .i64 t, .slice A1 n1 c1, .slice A2 n2 c2, undef, undef, undef, undef, .slice none 0 0, .int .i64 0, .pointer (some ⟨N + 1 + 1 + 1, 0, none⟩), undef, .pointer (some ⟨Bx, 0, none⟩), undef, undef, undef, undef, undef, undef, undef, undef, undef, undef, undef, undef, undef, .map (some N), .map (some (N + 1)), .agg #[.map (some N), .map (some (N + 1)), .slice none 0 0], .pointer (some ⟨N + 1 + 1, 0, none⟩), .slice A1 n1 c1, .func (.func 71) #[] #[.pointer (some ⟨N + 1 + 1 + 1 + 1, 0, none⟩)], .int .i64 x.1, .agg #[.string x.2.1, .string x.2.2.1, .string x.2.2.2], undef, undef, undef, undef, undef, undef, undef, undef, undef, undef, undef, undef, undef, undef, undef, undef, undef, undef, undef, undef, undef, undef, undef, undef, undef, undef, undef, undef, undef, undef, undef, undef, undef, undef, undef, undef, undef, undef, undef, undef, undef, undef, undef, undef, undef, undef, undef, undef, undef, undef, undef, undef, undef, undef, undef, undef, undef, undef, undef, undef, undef, undef, undef, undef, undef, undef, undef, undef, undef, undef, undef, undef, undef, undef, undef, undef, undef, undef, undef, undef, undef, undef, undef, undef, undef, undef, undef, undef, undef, undef, undef, undef, undef, undef, undef, undef, undef, undef, undef, undef, undef, undef, undef, undef, undef, undef, undef, undef, undef, undef, undef, undef, undef], defers := [] })
    (fun x a' s W W' row hs hg hr => by
      obtain ⟨Bx, h1, h2, h3⟩ := hs
      exact ⟨Bx, h1, h2.grown hg fun r e => (hr r e).2, h3⟩) ?assign ?body ?done ?stop
  case assign =>
    rintro l pre x W K ⟨hk, hm⟩ hK
    have hws := hk.size
    gi_wp2
    exact hK _ _ ((KeepsOthers.alloc _ _).from _) ⟨(Below.refl N W).alloc (by omega) _, by omega, heap_alloc_old W _ (by omega)⟩ ⟨hk.alloc _, hm.alloc _⟩ ⟨W.heap.size, by omega, Blk.new _ _ _, rfl⟩
  case body =>
    rintro l pre x a' W hl ⟨r, hr⟩ ⟨hk, hm⟩ ⟨Bx, hBx, hbx, rfl⟩ hlt
    have hws := hk.size
    have y0 := (HBB.out.kept hk (fun e => by omega)).cell 0
    have y1 := (HBX.out.kept hk (fun e => by omega)).cell 0
    have y2 := hbx.cell 0
    have y3 := hbx.cell 1
    have y4 := hbx.cell 2
    simp only [List.getElem?_toArray, List.getElem?_cons_succ, List.getElem?_cons_zero] at y0 y1 y2 y3 y4
    obtain ⟨es, ck, hup, hm2⟩ := hm.drew.run_update (P := Tryz.prog) string_emb msiM strU x.2.1 x.2
    have hk2 : Kept (fun k => k = N) W0 (setBlock W.drew N (.map es ck)) := hk.drew.setBlock (m := N) (fun _ => rfl) _
    have hkw : KeepsFrom W0.heap.size W (setBlock W.drew N (.map es ck)) := ⟨by rw [size_setBlock]; exact Nat.le_refl _, fun k o hB hk _ => (heap_setBlock W.drew N _ k (by omega)).trans hk⟩
    have hbk : BackK N (N + 1 + 1 + 1 + 1) W (setBlock W.drew N (.map es ck)) :=
      ⟨(((Kept.refl (fun k => k = N) W).drew.setBlock (m := N) (fun _ => rfl) (.map es ck)).below (B := N) (by omega) (fun k _ e => by omega)), by omega, heap_setBlock W.drew N _ _ (by omega)⟩
    have hm3 : SiMap (setBlock W.drew N (.map es ck)) N (smOf (sitesOf (pre ++ [x]))) := by
      have e : sitesOf (pre ++ [x]) = sitesOf pre ++ [x.2] := by simp [sitesOf]
      rw [e, smOf_append]
      exact hm2
    have FIN := Lib.hid (⟨hkw, hbk, hk2, hm3⟩ : KeepsFrom W0.heap.size W (setBlock W.drew N (.map es ck)) ∧ BackK N (N + 1 + 1 + 1 + 1) W (setBlock W.drew N (.map es ck)) ∧ Kept (fun k => k = N) W0 (setBlock W.drew N (.map es ck)) ∧ SiMap (setBlock W.drew N (.map es ck)) N (smOf (sitesOf (pre ++ [x]))))
    unfold sV at hup
    clear hkw hbk hk2 hm3 hm2 hk hm hbx HS HF HW HFN HK0 hsl hmS hmC hbX hbB hbs
    gi_wp2
    apply once
    apply Exists.intro
    apply And.intro
    · intro key
      gi_region
      all_goals exact key
    gi_wp2
    exact FIN.out
  case stop =>
    rintro D c pre W _ _ h _
    exact h.elim
  case done =>
    rename_i Q' K hKK
    intro D xs W hD hxs hkm hdef
    obtain ⟨hk, hm⟩ := hkm
    rw [hxs] at hm
    have hkW : Kept noBlock w W := HK0.out.trans hk (fun k h e => by omega)
    refine hKK _ _ (wpIn_wide.2 ?_)
    exact net_rest hn2 hN (hN.symm ▸ HF.out) HW.out hfl hll HFN.out hkW (by omega) hdef hm (hmC.kept hk (by omega)) (HBX.out.kept hk (by omega)) (HBB.out.kept hk (by omega)) _ (by kernel_rfl)
end Go.Proofs.YtepikngkbondgaaGreat
namespace Go.Proofs.YtepikngkbondgaaGreat
set_option linter.unusedVariables false
open Go.RowKit

theorem has_false {l : List ByteArray} {h : ByteArray} : has l h = false ↔ h ∉ l := by
  rw [← Bool.not_eq_true, has_iff]
theorem uniq_nodup : ∀ (l out : List ByteArray), out.Nodup → (uniq out l).Nodup
  | [], out, h => h
  | a :: t, out, h => by
    rw [uniq]
    by_cases e : has out a = true
    · rw [if_pos e]; exact uniq_nodup t out h
    · rw [if_neg e]
      refine uniq_nodup t _ ?_
      rw [List.nodup_append]
      have h2 : a ∉ out := has_false.1 (Bool.not_eq_true _ ▸ e)
      exact ⟨h, by simp, fun x hx y hy hxy => by simp only [List.mem_singleton] at hy; subst hy; subst hxy; exact h2 hx⟩
theorem uniq_mem : ∀ (l out : List ByteArray) (h : ByteArray), h ∈ uniq out l ↔ h ∈ out ∨ h ∈ l
  | [], out, h => by simp [uniq]
  | a :: t, out, h => by
    rw [uniq]
    by_cases e : has out a = true
    · rw [if_pos e, uniq_mem t out h]
      have := has_iff.1 e
      constructor
      · rintro (h1 | h1)
        · exact .inl h1
        · exact .inr (List.mem_cons_of_mem _ h1)
      · rintro (h1 | h1)
        · exact .inl h1
        · rcases List.mem_cons.1 h1 with rfl | h1
          · exact .inl this
          · exact .inr h1
    · rw [if_neg e, uniq_mem t _ h, List.mem_append, List.mem_singleton, List.mem_cons]
      constructor
      · rintro ((h1 | h1) | h1)
        · exact .inl h1
        · exact .inr (.inl h1)
        · exact .inr (.inr h1)
      · rintro (h1 | h1 | h1)
        · exact .inl (.inl h1)
        · exact .inl (.inr h1)
        · exact .inr h1
theorem rwalk_nodup (S : List Pl) (t : Int) : (rwalk S t).Nodup := uniq_nodup _ [] .nil
theorem turned_perm (S : List Pl) (t : Int) : (turned S t).Perm S := by
  unfold turned
  exact List.perm_append_comm.trans (by rw [List.take_append_drop])
theorem rwalk_mem (S : List Pl) (t : Int) (h : ByteArray) : h ∈ rwalk S t ↔ h ∈ S.map (·.2) := by
  unfold rwalk
  rw [uniq_mem, ((turned_perm S t).map (·.2)).mem_iff]
  simp
end Go.Proofs.YtepikngkbondgaaGreat
namespace Go.Proofs.YtepikngkbondgaaGreat
set_option linter.unusedVariables false

/-- What a center makes of a host of a rack: the center behind it, the hosts that go out. -/
def kstep (c : Cr) (r h : ByteArray) : Cr × List ByteArray :=
  if c.need ≤ (c.tk : Int) then (c, [])
  else if c.racks.all (·.2) = true then (c.more, [h])
  else if aget r c.racks = some true then ({ c with ws := c.ws ++ [h] }, [])
  else if (aput r true c.racks).all (·.2) = true then ((c.marked r).flush c.ws.length, h :: c.ws.take (c.marked r).room)
  else (c.marked r, [h])
theorem stepH_k (s : Si) (h : ByteArray) (cs : List (ByteArray × Cr)) (out : List ByteArray) :
    stepH s h cs out = match aget s.2.1 cs with
      | none => (cs, out)
      | some c => (aput s.2.1 (kstep c s.2.2 h).1 cs, out ++ (kstep c s.2.2 h).2) := by
  unfold stepH kstep
  cases hd : aget s.2.1 cs with
  | none => rfl
  | some c =>
    simp only []
    by_cases h1 : c.need ≤ (c.tk : Int)
    · rw [if_pos h1, if_pos h1, aput_same hd, List.append_nil]
    · rw [if_neg h1, if_neg h1]
      by_cases h2 : c.racks.all (·.2) = true
      · rw [if_pos h2, if_pos h2]
        unfold takeCs takeOut
        rw [if_pos (by omega), if_pos (by omega)]
      · rw [if_neg h2, if_neg h2]
        by_cases h3 : aget s.2.2 c.racks = some true
        · rw [if_pos h3, if_pos h3, List.append_nil]
        · rw [if_neg h3, if_neg h3]
          unfold newCs newOut
          by_cases h4 : (aput s.2.2 true c.racks).all (·.2) = true
          · rw [if_pos h4, if_pos h4, if_pos h4]; simp
          · rw [if_neg h4, if_neg h4, if_neg h4]

/-- Each host's center, and who goes out at it. -/
def runT : List (ByteArray × Cr) → List Si → List (ByteArray × List ByteArray)
  | _, [] => []
  | cs, s :: T => match aget s.2.1 cs with
    | none => (s.2.1, []) :: runT cs T
    | some c => (s.2.1, (kstep c s.2.2 s.1).2) :: runT (aput s.2.1 (kstep c s.2.2 s.1).1 cs) T
/-- One center's hosts, one behind the other. -/
def kall : Cr → List Si → List (List ByteArray)
  | _, [] => []
  | c, s :: T => (kstep c s.2.2 s.1).2 :: kall (kstep c s.2.2 s.1).1 T
/-- The hosts of a walk as sites. -/
def sitesW (sm : List (ByteArray × Si)) (l : List ByteArray) : List Si := l.filterMap fun h => aget h sm
theorem hostAll_run {sm : List (ByteArray × Si)} (hk : ∀ h s, aget h sm = some s → s.1 = h) : ∀ (l : List ByteArray) (cs : List (ByteArray × Cr)) (o : List ByteArray),
    (l.foldl (fun st h => match aget h sm with | some s => stepH s h st.1 st.2 | none => st) (cs, o)).2 = o ++ (runT cs (sitesW sm l)).flatMap (·.2)
  | [], cs, o => by simp [sitesW, runT]
  | h :: l, cs, o => by
    rw [List.foldl_cons]
    unfold sitesW
    rw [List.filterMap_cons]
    cases hs : aget h sm with
    | none => exact hostAll_run hk l cs o
    | some s =>
      obtain rfl := hk h s hs
      simp only []
      rw [stepH_k, runT]
      cases hd : aget s.2.1 cs with
      | none =>
        simp only []
        rw [hostAll_run hk l cs o]
        simp [sitesW]
      | some c =>
        simp only []
        rw [hostAll_run hk l _ _]
        simp [sitesW]
def ofDc (d : ByteArray) (T : List Si) : List Si := T.filter fun s => decide (s.2.1 = d)
theorem runT_len : ∀ (T : List Si) (cs : List (ByteArray × Cr)), (runT cs T).length = T.length
  | [], _ => rfl
  | s :: T, cs => by
    rw [runT]
    cases aget s.2.1 cs with
    | none => simp [runT_len T]
    | some c => simp [runT_len T]
theorem runT_center {d : ByteArray} : ∀ (T : List Si) (cs : List (ByteArray × Cr)) (c : Cr), aget d cs = some c → ((runT cs T).filter fun p => decide (p.1 = d)).map (·.2) = kall c (ofDc d T)
  | [], _, _, _ => rfl
  | s :: T, cs, c, hc => by
    rw [runT]
    unfold ofDc
    by_cases e : s.2.1 = d
    · subst e
      rw [hc]
      simp only [List.filter_cons, decide_true, if_true, List.map_cons, kall]
      rw [runT_center T _ _ (by rw [aget_aput, if_pos rfl])]
      rfl
    · cases hd : aget s.2.1 cs with
      | none =>
        simp only [List.filter_cons, decide_eq_false e, Bool.false_eq_true, if_false]
        exact runT_center T cs c hc
      | some c' =>
        simp only [List.filter_cons, decide_eq_false e, Bool.false_eq_true, if_false]
        exact runT_center T _ c (by rw [aget_aput, if_neg e]; exact hc)
theorem runT_none {d : ByteArray} : ∀ (T : List Si) (cs : List (ByteArray × Cr)), aget d cs = none → ∀ p ∈ runT cs T, p.1 = d → p.2 = []
  | [], _, _, p, hp, _ => by simp [runT] at hp
  | s :: T, cs, hn, p, hp, e => by
    rw [runT] at hp
    cases hd : aget s.2.1 cs with
    | none =>
      rw [hd] at hp
      rcases List.mem_cons.1 hp with rfl | hp
      · rfl
      · exact runT_none T cs hn p hp e
    | some c =>
      rw [hd] at hp
      rcases List.mem_cons.1 hp with rfl | hp
      · rw [show s.2.1 = d from e, hn] at hd; cases hd
      · have hne : ¬ s.2.1 = d := fun e => by rw [e, hn] at hd; cases hd
        exact runT_none T _ (by rw [aget_aput, if_neg hne]; exact hn) p hp e
theorem runT_dc : ∀ (T : List Si) (cs : List (ByteArray × Cr)), (runT cs T).map (·.1) = T.map (·.2.1)
  | [], _ => rfl
  | s :: T, cs => by
    rw [runT]
    cases aget s.2.1 cs with
    | none => simp [runT_dc T]
    | some c => simp [runT_dc T]
/-- Who goes out of a center was there, or waited. -/
theorem kall_mem : ∀ (T : List Si) (c : Cr), ∀ g ∈ kall c T, ∀ h ∈ g, h ∈ c.ws ∨ h ∈ T.map (·.1)
  | [], _, g, hg, _, _ => by simp [kall] at hg
  | s :: T, c, g, hg, h, hh => by
    rw [kall] at hg
    have hst : ((kstep c s.2.2 s.1).1.ws = c.ws ∨ (kstep c s.2.2 s.1).1.ws = c.ws ++ [s.1]) ∧ ∀ h ∈ (kstep c s.2.2 s.1).2, h ∈ c.ws ∨ h = s.1 := by
      unfold kstep
      split
      · exact ⟨.inl rfl, fun h hh => by simp at hh⟩
      · split
        · exact ⟨.inl rfl, fun h hh => by simp at hh; exact .inr hh⟩
        · split
          · exact ⟨.inr rfl, fun h hh => by simp at hh⟩
          · split
            · refine ⟨.inl rfl, fun h hh => ?_⟩
              rcases List.mem_cons.1 hh with hh | hh
              · exact .inr hh
              · exact .inl (List.mem_of_mem_take hh)
            · exact ⟨.inl rfl, fun h hh => by simp at hh; exact .inr hh⟩
    rcases List.mem_cons.1 hg with rfl | hg
    · rcases hst.2 h hh with h1 | h1
      · exact .inl h1
      · exact .inr (by rw [h1]; exact List.mem_cons_self ..)
    · rcases kall_mem T _ g hg h hh with h1 | h1
      · rcases hst.1 with h2 | h2
        · rw [h2] at h1; exact .inl h1
        · rw [h2] at h1
          rcases List.mem_append.1 h1 with h1 | h1
          · exact .inl h1
          · obtain rfl := List.mem_singleton.1 h1
            exact .inr (List.mem_cons_self ..)
      · exact .inr (List.mem_cons_of_mem _ h1)

/-! What the centers are ahead of the last loop. -/
theorem countH_get (s : Si) (cs : List (ByteArray × Cr)) (d : ByteArray) : aget d (countH s cs) = (aget d cs).map fun c => if s.2.1 = d then { c with need := c.need + 1, racks := aput s.2.2 false c.racks } else c := by
  unfold countH
  cases hs : aget s.2.1 cs with
  | none =>
    simp only []
    by_cases e : s.2.1 = d
    · subst e; rw [hs]; rfl
    · simp only [if_neg e, Option.map_id']
  | some c =>
    simp only []
    rw [aget_aput]
    by_cases e : s.2.1 = d
    · subst e; rw [hs]; simp
    · simp only [if_neg e, Option.map_id']
theorem countH_keys (s : Si) (cs : List (ByteArray × Cr)) : (countH s cs).map (·.1) = cs.map (·.1) := by
  unfold countH
  cases hs : aget s.2.1 cs with
  | none => rfl
  | some c => exact aput_keys (List.mem_map.2 ⟨_, aget_mem hs, rfl⟩)
def Cr.seen (c : Cr) (T : List Si) : Cr := { c with need := c.need + T.length, racks := T.foldl (fun m s => aput s.2.2 false m) c.racks }
theorem countAll_get (sm : List (ByteArray × Si)) (d : ByteArray) : ∀ (l : List ByteArray) (cs : List (ByteArray × Cr)), aget d (countAll sm l cs) = (aget d cs).map fun c => c.seen (ofDc d (sitesW sm l))
  | [], cs => by
    show aget d cs = _
    unfold Cr.seen ofDc sitesW
    simp
  | h :: l, cs => by
    have e : countAll sm (h :: l) cs = countAll sm l (match aget h sm with | some s => countH s cs | none => cs) := rfl
    rw [e, countAll_get sm d l]
    unfold sitesW
    rw [List.filterMap_cons]
    cases hs : aget h sm with
    | none => rfl
    | some s =>
      simp only []
      rw [countH_get, Option.map_map]
      congr 1
      funext c
      unfold ofDc Cr.seen
      by_cases e : s.2.1 = d
      · simp only [Function.comp, if_pos e, List.filter_cons, decide_eq_true e, if_true, List.foldl_cons, List.length_cons]
        rw [show c.need + 1 + ((List.filter (fun s => decide (s.2.1 = d)) (List.filterMap (fun h => aget h sm) l)).length : Int) = c.need + ((List.filter (fun s => decide (s.2.1 = d)) (List.filterMap (fun h => aget h sm) l)).length + 1 : Nat) by omega]
      · simp only [Function.comp, if_neg e, List.filter_cons, decide_eq_false e, Bool.false_eq_true, if_false]
theorem needF_get (f : Fa) (cs : List (ByteArray × Cr)) (d : ByteArray) : aget d (needF f cs) = (aget d cs).map fun c => if f.1 = d then { c with need := max (min c.need f.2) 0 } else c := by
  unfold needF
  cases hs : aget f.1 cs with
  | none =>
    simp only []
    by_cases e : f.1 = d
    · rw [← e, hs]; rfl
    · simp only [if_neg e, Option.map_id']
  | some c =>
    simp only []
    rw [aget_aput]
    by_cases e : f.1 = d
    · rw [if_pos e, ← e, hs]; simp
    · simp only [if_neg e, Option.map_id']
theorem needAll_none {d : ByteArray} : ∀ (fs : List Fa) (cs : List (ByteArray × Cr)), d ∉ fs.map (·.1) → aget d (needAll fs cs) = aget d cs
  | [], _, _ => rfl
  | f :: fs, cs, h => by
    have h1 : ¬ f.1 = d := fun e => h (e ▸ List.mem_cons_self ..)
    have h2 : d ∉ fs.map (·.1) := fun e => h (List.mem_cons_of_mem _ e)
    show aget d (needAll fs (needF f cs)) = _
    rw [needAll_none fs _ h2, needF_get]
    simp only [if_neg h1, Option.map_id']
theorem needAll_get {d : ByteArray} {n : Int} : ∀ (fs : List Fa) (cs : List (ByteArray × Cr)), (fs.map (·.1)).Nodup → (d, n) ∈ fs → aget d (needAll fs cs) = (aget d cs).map fun c => { c with need := max (min c.need n) 0 }
  | [], _, _, h => by simp at h
  | f :: fs, cs, hn, h => by
    have hn' : f.1 ∉ fs.map (·.1) ∧ (fs.map (·.1)).Nodup := List.nodup_cons.1 hn
    show aget d (needAll fs (needF f cs)) = _
    by_cases e : f.1 = d
    · have e2 : f = (d, n) := by
        rcases List.mem_cons.1 h with h | h
        · exact h.symm
        · exact absurd (List.mem_map.2 ⟨_, h, rfl⟩) (e ▸ hn'.1)
      subst e2
      rw [needAll_none fs _ hn'.1, needF_get]
      simp
    · have h2 : (d, n) ∈ fs := by
        rcases List.mem_cons.1 h with h | h
        · rw [← h] at e; exact absurd rfl e
        · exact h
      rw [needAll_get fs _ hn'.2 h2, needF_get]
      simp only [if_neg e, Option.map_id']
/-- A center ahead of the last loop. -/
def cen0 (g mr : Nat) (n : Int) (H : List Si) : Cr := ⟨g, mr, max (min (H.length : Int) n) 0, 0, H.foldl (fun m s => aput s.2.2 false m) [], []⟩
theorem start_get {fs : List Fa} {cs : List (ByteArray × Cr)} {sm : List (ByteArray × Si)} {l : List ByteArray} {d : ByteArray} {n : Int} (hf : Fresh fs cs) (hn : (fs.map (·.1)).Nodup) (h : (d, n) ∈ fs) :
    ∃ g mr, aget d (needAll fs (countAll sm l cs)) = some (cen0 g mr n (ofDc d (sitesW sm l))) := by
  have hd : d ∈ cs.map (·.1) := hf.1 ▸ List.mem_map.2 ⟨_, h, rfl⟩
  obtain ⟨⟨d', c⟩, hp, rfl⟩ := List.mem_map.1 hd
  have hc := aget_of_mem (hf.1 ▸ hn) hp
  obtain ⟨h1, h2, h3, h4⟩ := hf.2 _ hp
  rw [needAll_get fs _ hn h, countAll_get]
  show ∃ g mr, Option.map _ (Option.map _ (aget d' cs)) = _
  rw [hc]
  obtain ⟨g, mr, need, tk, racks, ws⟩ := c
  simp only at h1 h2 h3 h4
  subst h1 h2 h3 h4
  refine ⟨g, mr, ?_⟩
  simp [Cr.seen, cen0]
theorem start_none {fs : List Fa} {cs : List (ByteArray × Cr)} {sm : List (ByteArray × Si)} {l : List ByteArray} {d : ByteArray} (hf : Fresh fs cs) (h : d ∉ fs.map (·.1)) : aget d (needAll fs (countAll sm l cs)) = none := by
  rw [needAll_none fs _ h, countAll_get]
  have : aget d cs = none := aget_eq_none.2 fun p hp e => h (hf.1 ▸ List.mem_map.2 ⟨p, hp, e⟩)
  rw [this]; rfl
end Go.Proofs.YtepikngkbondgaaGreat
namespace Go.Proofs.YtepikngkbondgaaGreat
set_option linter.unusedVariables false

theorem nodup_le {α : Type} [DecidableEq α] : ∀ {a b : List α}, a.Nodup → (∀ x ∈ a, x ∈ b) → a.length ≤ b.length
  | [], b, _, _ => Nat.zero_le _
  | x :: a, b, hn, hs => by
    have hn' : x ∉ a ∧ a.Nodup := List.nodup_cons.1 hn
    have hx := hs x (List.mem_cons_self ..)
    have h1 : a.length ≤ (b.erase x).length := nodup_le hn'.2 fun y hy => (List.mem_erase_of_ne (fun e => by subst e; exact hn'.1 hy)).2 (hs y (List.mem_cons_of_mem _ hy))
    rw [List.length_erase_of_mem hx] at h1
    have := List.length_pos_of_mem hx
    simp only [List.length_cons]; omega
theorem nodup_sup {α : Type} [DecidableEq α] {a b : List α} (hn : a.Nodup) (hs : ∀ x ∈ a, x ∈ b) (hl : b.length ≤ a.length) : ∀ x ∈ b, x ∈ a := by
  intro x hx
  refine Classical.byContradiction fun h => ?_
  have := nodup_le (a := x :: a) (b := b) (List.nodup_cons.2 ⟨h, hn⟩) fun y hy => by
    rcases List.mem_cons.1 hy with rfl | hy
    · exact hx
    · exact hs y hy
  simp only [List.length_cons] at this
  omega
theorem nodup_len {α : Type} [DecidableEq α] {a b : List α} (ha : a.Nodup) (hb : b.Nodup) (h : ∀ x, x ∈ a ↔ x ∈ b) : a.length = b.length :=
  Nat.le_antisymm (nodup_le ha fun x hx => (h x).1 hx) (nodup_le hb fun x hx => (h x).2 hx)

/-- A center: how many are out, the racks that were taken of, who waits. -/
structure Qs where
  n : Nat
  seen : List ByteArray
  ws : List ByteArray
def qstep (R : Nat) (N : Int) (q : Qs) (r h : ByteArray) : Qs × List ByteArray :=
  if N ≤ (q.n : Int) then (q, [])
  else if q.seen.length < R ∧ has q.seen r = true then ({ q with ws := q.ws ++ [h] }, [])
  else if q.seen.length = R then ({ q with n := q.n + 1 }, [h])
  else if q.seen.length + 1 = R then ({ n := q.n + 1 + (q.ws.take (N - (q.n + 1 : Nat)).toNat).length, seen := q.seen ++ [r], ws := q.ws }, h :: q.ws.take (N - (q.n + 1 : Nat)).toNat)
  else ({ n := q.n + 1, seen := q.seen ++ [r], ws := q.ws }, [h])
def qall (R : Nat) (N : Int) : Qs → List Si → List (List ByteArray)
  | _, [] => []
  | q, s :: T => (qstep R N q s.2.2 s.1).2 :: qall R N (qstep R N q s.2.2 s.1).1 T

structure KQ (K : List ByteArray) (N : Int) (M i : Nat) (c : Cr) (q : Qs) : Prop where
  need : c.need = max (min (M : Int) N) 0
  tk : c.tk = q.n
  keys : c.racks.map (·.1) = K
  nd : K.Nodup
  val : ∀ r b, aget r c.racks = some b → (b = true ↔ r ∈ q.seen)
  snd : q.seen.Nodup
  sub : ∀ r ∈ q.seen, r ∈ K
  ws : q.seen.length < K.length → c.ws = q.ws
  low : q.n ≤ i
  room : q.seen.length < K.length → q.n + q.ws.length ≤ i
theorem aget_key {m : List (ByteArray × Bool)} {r : ByteArray} (h : r ∈ m.map (·.1)) : ∃ b, aget r m = some b := by
  cases e : aget r m with
  | some b => exact ⟨b, rfl⟩
  | none =>
    obtain ⟨p, hp, rfl⟩ := List.mem_map.1 h
    exact absurd rfl (aget_eq_none.1 e p hp)
theorem all_seen_iff {m : List (ByteArray × Bool)} {K seen : List ByteArray} (hk : m.map (·.1) = K) (nd : K.Nodup) (hv : ∀ r b, aget r m = some b → (b = true ↔ r ∈ seen)) (hs : seen.Nodup) (hsub : ∀ r ∈ seen, r ∈ K) :
    m.all (·.2) = true ↔ seen.length = K.length := by
  constructor
  · intro h
    rw [List.all_eq_true] at h
    refine Nat.le_antisymm (nodup_le hs hsub) (nodup_le nd fun r hr => ?_)
    rw [← hk] at hr
    obtain ⟨b, hb⟩ := aget_key hr
    have := h _ (aget_mem hb)
    exact (hv r b hb).1 this
  · intro h
    rw [List.all_eq_true]
    rintro ⟨r, b⟩ hp
    have hr : r ∈ K := hk ▸ List.mem_map.2 ⟨_, hp, rfl⟩
    exact (hv r b (aget_of_mem (hk ▸ nd) hp)).2 (nodup_sup hs hsub (by omega) r hr)
theorem has_mem {l : List ByteArray} {h : ByteArray} : has l h = true ↔ h ∈ l := has_iff
theorem KQ.step {K : List ByteArray} {N : Int} {M i : Nat} {c : Cr} {q : Qs} (H : KQ K N M i c q) (hi : i < M) {r h : ByteArray} (hr : r ∈ K) :
    (kstep c r h).2 = (qstep K.length N q r h).2 ∧ KQ K N M (i + 1) (kstep c r h).1 (qstep K.length N q r h).1 := by
  have hall := all_seen_iff H.keys H.nd H.val H.snd H.sub
  have hle := nodup_le H.snd H.sub
  have hlow := H.low
  have hneed := H.need
  have htk := H.tk
  have hfull : c.need ≤ (c.tk : Int) ↔ N ≤ (q.n : Int) := by omega
  unfold kstep qstep
  by_cases h1 : N ≤ (q.n : Int)
  · rw [if_pos h1, if_pos (hfull.2 h1)]
    exact ⟨rfl, ⟨H.need, H.tk, H.keys, H.nd, H.val, H.snd, H.sub, H.ws, by show q.n ≤ i + 1; omega, fun e => by have := H.room e; show q.n + q.ws.length ≤ i + 1; omega⟩⟩
  · rw [if_neg h1, if_neg (fun e => h1 (hfull.1 e))]
    by_cases h2 : q.seen.length = K.length
    · rw [if_pos (hall.2 h2), if_neg (fun e => by omega), if_pos h2]
      exact ⟨rfl, ⟨H.need, by show c.tk + 1 = q.n + 1; omega, H.keys, H.nd, H.val, H.snd, H.sub, fun e => absurd h2 (Nat.ne_of_lt e), by show q.n + 1 ≤ i + 1; omega, fun e => absurd h2 (Nat.ne_of_lt e)⟩⟩
    · rw [if_neg (fun e => h2 (hall.1 e))]
      have hlt : q.seen.length < K.length := by omega
      obtain ⟨b, hb⟩ := aget_key (m := c.racks) (r := r) (by rw [H.keys]; exact hr)
      have hbv := H.val r b hb
      have hroom := H.room hlt
      by_cases h3 : has q.seen r = true
      · have hbt : b = true := hbv.2 (has_iff.1 h3)
        rw [if_pos (by rw [hb, hbt]), if_pos ⟨hlt, h3⟩]
        refine ⟨rfl, ⟨H.need, H.tk, H.keys, H.nd, H.val, H.snd, H.sub, fun e => by show c.ws ++ [h] = q.ws ++ [h]; rw [H.ws hlt], by show q.n ≤ i + 1; omega, fun e => ?_⟩⟩
        show q.n + (q.ws ++ [h]).length ≤ i + 1
        rw [List.length_append]; simp; omega
      · have hbt : ¬ b = true := fun e => h3 (has_iff.2 (hbv.1 e))
        have hrs : r ∉ q.seen := fun e => h3 (has_iff.2 e)
        rw [if_neg (by rw [hb]; simpa using hbt), if_neg (show ¬ (q.seen.length < K.length ∧ has q.seen r = true) from fun e => h3 e.2), if_neg h2]
        have k1 : (aput r true c.racks).map (·.1) = K := by rw [aput_keys (by rw [H.keys]; exact hr), H.keys]
        have v1 : ∀ r' b', aget r' (aput r true c.racks) = some b' → (b' = true ↔ r' ∈ q.seen ++ [r]) := by
          intro r' b' h'
          rw [aget_aput] at h'
          rw [List.mem_append, List.mem_singleton]
          by_cases e : r = r'
          · rw [if_pos e] at h'; cases h'; exact ⟨fun _ => .inr e.symm, fun _ => rfl⟩
          · rw [if_neg e] at h'
            rw [H.val r' b' h']
            exact ⟨.inl, fun h => h.elim id fun e2 => absurd e2.symm e⟩
        have s1 : (q.seen ++ [r]).Nodup := by
          rw [List.nodup_append]
          exact ⟨H.snd, by simp, fun a ha b hb e => by obtain rfl := List.mem_singleton.1 hb; exact hrs (e ▸ ha)⟩
        have u1 : ∀ r' ∈ q.seen ++ [r], r' ∈ K := by
          intro r' h'
          rcases List.mem_append.1 h' with h' | h'
          · exact H.sub r' h'
          · obtain rfl := List.mem_singleton.1 h'; exact hr
        have l1 : (q.seen ++ [r]).length = q.seen.length + 1 := by rw [List.length_append]; rfl
        have hall1 := all_seen_iff k1 H.nd v1 s1 u1
        rw [l1] at hall1
        by_cases h4 : q.seen.length + 1 = K.length
        · rw [if_pos h4, if_pos (hall1.2 h4)]
          have hws := H.ws hlt
          have e0 : (c.marked r).room = (c.need - (c.tk + 1 : Nat)).toNat := rfl
          have hw : c.ws.take (c.marked r).room = q.ws.take (N - (q.n + 1 : Nat)).toNat := by
            rw [hws, e0]
            by_cases h5 : N ≤ (M : Int)
            · have : (c.need - (c.tk + 1 : Nat)).toNat = (N - (q.n + 1 : Nat)).toNat := by omega
              rw [this]
            · rw [List.take_of_length_le (by omega), List.take_of_length_le (by omega)]
          refine ⟨by rw [hw], ⟨H.need, ?_, k1, H.nd, v1, s1, u1, fun e => ?_, ?_, fun e => ?_⟩⟩
          · show c.tk + 1 + min c.ws.length (c.marked r).room = q.n + 1 + (q.ws.take _).length
            rw [← hw, List.length_take, htk, Nat.min_comm]
          · exact absurd e (by show ¬ (q.seen ++ [r]).length < _; omega)
          · show q.n + 1 + (q.ws.take _).length ≤ i + 1
            rw [List.length_take]; omega
          · exact absurd e (by show ¬ (q.seen ++ [r]).length < _; omega)
        · rw [if_neg h4, if_neg (fun e => h4 (hall1.1 e))]
          exact ⟨rfl, ⟨H.need, by show c.tk + 1 = q.n + 1; omega, k1, H.nd, v1, s1, u1, fun _ => H.ws hlt, by show q.n + 1 ≤ i + 1; omega, fun _ => by show q.n + 1 + q.ws.length ≤ i + 1; omega⟩⟩
theorem kall_q {K : List ByteArray} {N : Int} {M : Nat} : ∀ (H : List Si) (i : Nat) (c : Cr) (q : Qs), KQ K N M i c q → i + H.length = M → (∀ s ∈ H, s.2.2 ∈ K) → kall c H = qall K.length N q H
  | [], _, _, _, _, _, _ => rfl
  | s :: H, i, c, q, h, hm, hk => by
    have h1 := h.step (by simp at hm; omega) (r := s.2.2) (h := s.1) (hk s (List.mem_cons_self ..))
    rw [kall, qall, h1.1, kall_q H (i + 1) _ _ h1.2 (by simp at hm; omega) fun s hs => hk s (List.mem_cons_of_mem _ hs)]
def q0 : Qs := ⟨0, [], []⟩
def racksOf (H : List Si) : List ByteArray := uniq [] (H.map (·.2.2))
theorem fold_keys : ∀ (H : List Si) (m : List (ByteArray × Bool)), (H.foldl (fun m s => aput s.2.2 false m) m).map (·.1) = uniq (m.map (·.1)) (H.map (·.2.2))
  | [], _ => by simp [uniq]
  | s :: H, m => by
    rw [List.foldl_cons, fold_keys H, List.map_cons, uniq]
    by_cases e : has (m.map (·.1)) s.2.2 = true
    · rw [if_pos e, aput_keys (has_iff.1 e)]
    · rw [if_neg e]
      have : aget s.2.2 m = none := aget_eq_none.2 fun p hp e2 => e (has_iff.2 (List.mem_map.2 ⟨p, hp, e2⟩))
      rw [aput_none (aget_eq_none.1 this)]
      simp
theorem fold_false : ∀ (H : List Si) (m : List (ByteArray × Bool)), (∀ r b, aget r m = some b → b = false) → ∀ r b, aget r (H.foldl (fun m s => aput s.2.2 false m) m) = some b → b = false
  | [], _, h, r, b, e => h r b e
  | s :: H, m, h, r, b, e => by
    refine fold_false H _ (fun r b e => ?_) r b e
    rw [aget_aput] at e
    by_cases h1 : s.2.2 = r
    · rw [if_pos h1] at e; cases e; rfl
    · rw [if_neg h1] at e; exact h r b e
theorem KQ.start (g mr : Nat) (n : Int) (H : List Si) : KQ (racksOf H) n H.length 0 (cen0 g mr n H) q0 := by
  refine ⟨rfl, rfl, fold_keys H [], uniq_nodup _ _ .nil, fun r b e => ?_, .nil, fun r h => by simp [q0] at h, fun _ => rfl, Nat.le_refl _, fun _ => Nat.le_refl _⟩
  have : b = false := fold_false H [] (fun r b e => by simp [aget] at e) r b e
  subst this
  simp [q0]
theorem racks_mem {H : List Si} {s : Si} (h : s ∈ H) : s.2.2 ∈ racksOf H := (uniq_mem _ _ _).2 (.inr (List.mem_map.2 ⟨s, h, rfl⟩))
/-- One center's hosts, as the document counts them. -/
theorem kall_start (g mr : Nat) (n : Int) (H : List Si) : kall (cen0 g mr n H) H = qall (racksOf H).length n q0 H :=
  kall_q H 0 _ _ (KQ.start g mr n H) (by simp) fun _ h => racks_mem h

/-! The document's order: who goes out of one center at a place of the walk. -/
def atQ (R : Nat) (N : Int) (d : ByteArray) : Qs → List Si → Nat → List ByteArray
  | _, [], _ => []
  | q, s :: _, 0 => if s.2.1 = d then (qstep R N q s.2.2 s.1).2 else []
  | q, s :: T, i + 1 => atQ R N d (if s.2.1 = d then (qstep R N q s.2.2 s.1).1 else q) T i
theorem runT_at {K : List ByteArray} {N : Int} {M : Nat} {d : ByteArray} : ∀ (T : List Si) (cs : List (ByteArray × Cr)) (j : Nat) (c : Cr) (q : Qs), aget d cs = some c → KQ K N M j c q → j + (ofDc d T).length = M → (∀ s ∈ ofDc d T, s.2.2 ∈ K) →
    ∀ i g, (runT cs T)[i]? = some (d, g) → atQ K.length N d q T i = g
  | [], _, _, _, _, _, _, _, _, i, g, h => by simp [runT] at h
  | s :: T, cs, j, c, q, hc, hq, hm, hk, i, g, h => by
    by_cases e : s.2.1 = d
    · have e2 : ofDc d (s :: T) = s :: ofDc d T := by unfold ofDc; rw [List.filter_cons, decide_eq_true e, if_pos rfl]
      rw [e2] at hm hk
      have h1 := hq.step (by simp at hm; omega) (r := s.2.2) (h := s.1) (hk s (List.mem_cons_self ..))
      rw [runT, e, hc] at h
      cases i with
      | zero =>
        simp only [List.getElem?_cons_zero, Option.some.injEq, Prod.mk.injEq, true_and] at h
        rw [atQ, if_pos e, ← h1.1, h]
      | succ i =>
        simp only [List.getElem?_cons_succ] at h
        rw [atQ, if_pos e]
        exact runT_at T _ (j + 1) _ _ (by rw [aget_aput, if_pos rfl]) h1.2 (by simp at hm; omega) (fun s hs => hk s (List.mem_cons_of_mem _ hs)) i g h
    · have e2 : ofDc d (s :: T) = ofDc d T := by unfold ofDc; rw [List.filter_cons, decide_eq_false e]; rfl
      rw [e2] at hm hk
      rw [runT] at h
      cases i with
      | zero =>
        exfalso
        cases hd : aget s.2.1 cs with
        | none => rw [hd] at h; simp at h; exact e h.1
        | some c' => rw [hd] at h; simp at h; exact e h.1
      | succ i =>
        rw [atQ, if_neg e]
        cases hd : aget s.2.1 cs with
        | none =>
          rw [hd] at h
          simp only [List.getElem?_cons_succ] at h
          exact runT_at T cs j c q hc hq hm hk i g h
        | some c' =>
          rw [hd] at h
          simp only [List.getElem?_cons_succ] at h
          exact runT_at T _ j c q (by rw [aget_aput, if_neg e]; exact hc) hq hm hk i g h
theorem atQ_other {R : Nat} {N : Int} {d : ByteArray} : ∀ (T : List Si) (q : Qs) (i : Nat) (s : Si), T[i]? = some s → s.2.1 ≠ d → atQ R N d q T i = []
  | [], _, _, _, h, _ => by simp at h
  | s :: T, q, 0, s', h, e => by
    simp only [List.getElem?_cons_zero, Option.some.injEq] at h
    subst h
    rw [atQ, if_neg e]
  | s :: T, q, i + 1, s', h, e => by
    rw [atQ]
    exact atQ_other T _ i s' (by simpa using h) e
/-- The document's answer, at a place: all centers' hosts that go out there. -/
def refAt (T : List Si) (fs : List Fa) (i : Nat) : List ByteArray := fs.flatMap fun f => atQ (racksOf (ofDc f.1 T)).length f.2 f.1 q0 T i
def refOut (T : List Si) (fs : List Fa) : List ByteArray := (List.range T.length).flatMap (refAt T fs)
theorem flat_one {β γ : Type} {f : β → List γ} {x : β} : ∀ {l : List β}, (∀ y ∈ l, y ≠ x → f y = []) → l.Nodup → x ∈ l → l.flatMap f = f x
  | [], _, _, h => by simp at h
  | y :: l, hf, hn, h => by
    have hn' : y ∉ l ∧ l.Nodup := List.nodup_cons.1 hn
    rw [List.flatMap_cons]
    by_cases e : y = x
    · subst e
      have : l.flatMap f = [] := List.flatMap_eq_nil_iff.2 fun z hz => hf z (List.mem_cons_of_mem _ hz) fun e => hn'.1 (e ▸ hz)
      rw [this, List.append_nil]
    · rw [hf y (List.mem_cons_self ..) e, List.nil_append]
      refine flat_one (fun z hz => hf z (List.mem_cons_of_mem _ hz)) hn'.2 ?_
      rcases List.mem_cons.1 h with h | h
      · exact absurd h.symm e
      · exact h
theorem run_ref {fs : List Fa} {T : List Si} {cs : List (ByteArray × Cr)} (hn : (fs.map (·.1)).Nodup) (h1 : ∀ d n, (d, n) ∈ fs → ∃ g mr, aget d cs = some (cen0 g mr n (ofDc d T))) (h2 : ∀ d, d ∉ fs.map (·.1) → aget d cs = none) :
    (runT cs T).flatMap (·.2) = refOut T fs := by
  have hnf : fs.Nodup := by
    have := List.pairwise_map.1 hn
    exact this.imp fun h e => h (by rw [e])
  have hlen := runT_len T cs
  have key : ∀ i, i < T.length → ∀ p, (runT cs T)[i]? = some p → p.2 = refAt T fs i := by
    rintro i hi ⟨d, g⟩ hp
    obtain ⟨s, hs⟩ : ∃ s, T[i]? = some s := ⟨_, List.getElem?_eq_getElem hi⟩
    have hdc : s.2.1 = d := by
      have := congrArg (fun l => l[i]?) (runT_dc T cs)
      simp only [List.getElem?_map, hp, hs, Option.map_some, Option.some.injEq] at this
      exact this.symm
    by_cases hd : d ∈ fs.map (·.1)
    · obtain ⟨⟨d', n⟩, hf, rfl⟩ := List.mem_map.1 hd
      obtain ⟨ge, mr, hc⟩ := h1 d' n hf
      have h := runT_at T cs 0 _ _ hc (KQ.start ge mr n (ofDc d' T)) (by simp) (fun _ h => racks_mem h) i g hp
      unfold refAt
      rw [flat_one (x := (d', n)) ?_ hnf hf]
      · exact h.symm
      · rintro ⟨d2, n2⟩ hf2 hne
        refine atQ_other T q0 i s hs fun e => hne ?_
        have e1 : d' = d2 := hdc.symm.trans e
        have := aget_of_mem hn hf
        have h3 := aget_of_mem hn hf2
        rw [← e1, this] at h3
        cases h3
        rw [e1]
    · have h := runT_none T cs (h2 d hd) (d, g) (List.mem_of_getElem? hp) rfl
      have h3 : g = [] := h
      subst h3
      symm
      refine List.flatMap_eq_nil_iff.2 fun f hf => atQ_other T q0 i s hs fun e => hd ?_
      rw [← hdc, e]
      exact List.mem_map.2 ⟨f, hf, rfl⟩
  unfold refOut
  have e : runT cs T = (List.range T.length).map fun i => ((runT cs T)[i]?).getD (⟨#[]⟩, []) := by
    refine List.ext_getElem? fun i => ?_
    rw [List.getElem?_map]
    by_cases hi : i < T.length
    · rw [List.getElem?_range hi]
      obtain ⟨p, hp⟩ : ∃ p, (runT cs T)[i]? = some p := ⟨_, List.getElem?_eq_getElem (by omega)⟩
      simp [hp]
    · rw [List.getElem?_eq_none (by omega), List.getElem?_eq_none (by simp; omega)]; rfl
  rw [e, List.flatMap_map]
  unfold List.flatMap
  refine congrArg List.flatten (List.map_congr_left fun i hi => ?_)
  have hi' : i < T.length := by simpa using hi
  obtain ⟨p, hp⟩ : ∃ p, (runT cs T)[i]? = some p := ⟨_, List.getElem?_eq_getElem (by omega)⟩
  rw [hp]
  exact key i hi' p hp
end Go.Proofs.YtepikngkbondgaaGreat
namespace Go.Proofs.YtepikngkbondgaaGreat
set_option linter.unusedVariables false

def qaft (R : Nat) (N : Int) (q : Qs) (H : List Si) : Qs := H.foldl (fun q s => (qstep R N q s.2.2 s.1).1) q
theorem qall_snoc (R : Nat) (N : Int) (s : Si) : ∀ (A : List Si) (q : Qs), qall R N q (A ++ [s]) = qall R N q A ++ [(qstep R N (qaft R N q A) s.2.2 s.1).2]
  | [], _ => rfl
  | a :: A, q => by
    rw [List.cons_append, qall, qall, qall_snoc R N s A]
    rfl
theorem qaft_snoc (R : Nat) (N : Int) (s : Si) (A : List Si) (q : Qs) : qaft R N q (A ++ [s]) = (qstep R N (qaft R N q A) s.2.2 s.1).1 := by
  unfold qaft; rw [List.foldl_append]; rfl
/-- The hosts of one center that go out. -/
def outOf (n : Int) (H : List Si) : List ByteArray := (qall (racksOf H).length n q0 H).flatten

structure QI (K : List ByteArray) (N : Int) (rk : ByteArray → ByteArray) (P : List ByteArray) (o : List ByteArray) (q : Qs) : Prop where
  n : o.length = q.n
  cap : (q.n : Int) ≤ max N 0
  snd : q.seen.Nodup
  sub : ∀ r ∈ q.seen, r ∈ K
  nd : (o ++ if q.seen.length < K.length then q.ws else []).Nodup
  inP : ∀ h ∈ o ++ (if q.seen.length < K.length then q.ws else []), h ∈ P
  all : (q.n : Int) < N → ∀ h ∈ P, h ∈ o ++ (if q.seen.length < K.length then q.ws else [])
  wr : q.seen.length < K.length → o.map rk = q.seen ∧ ∀ h ∈ q.ws, rk h ∈ q.seen
  full : q.seen.length = K.length → ∀ r ∈ K, r ∈ o.map rk
theorem QI.step {K : List ByteArray} {N : Int} {rk : ByteArray → ByteArray} {P o : List ByteArray} {q : Qs} (I : QI K N rk P o q) {r h : ByteArray} (hr : r ∈ K) (hrk : rk h = r) (hP : h ∉ P) :
    QI K N rk (P ++ [h]) (o ++ (qstep K.length N q r h).2) (qstep K.length N q r h).1 := by
  have hle := nodup_le I.snd I.sub
  have hcap := I.cap
  have hn := I.n
  unfold qstep
  by_cases h1 : N ≤ (q.n : Int)
  · rw [if_pos h1]
    simp only [List.append_nil]
    exact ⟨I.n, I.cap, I.snd, I.sub, I.nd, fun x hx => List.mem_append_left _ (I.inP x hx), fun e => absurd h1 (by omega), I.wr, I.full⟩
  · rw [if_neg h1]
    have hall := I.all (by omega)
    by_cases h2 : q.seen.length = K.length
    · have hnl : ¬ q.seen.length < K.length := by omega
      rw [if_neg (fun e => hnl e.1), if_pos h2]
      have h3 := I.nd
      have h4 := I.inP
      rw [if_neg hnl, List.append_nil] at h3 h4 hall
      refine ⟨by simp [hn], by show ((q.n + 1 : Nat) : Int) ≤ _; omega, I.snd, I.sub, ?_, ?_, ?_, fun e => absurd e hnl, fun e r' hr' => ?_⟩
      · simp only []
        rw [if_neg hnl, List.append_nil, List.nodup_append]
        exact ⟨h3, by simp, fun a ha b hb e => by obtain rfl := List.mem_singleton.1 hb; exact hP (e ▸ h4 a ha)⟩
      · simp only []
        rw [if_neg hnl, List.append_nil]
        intro x hx
        rcases List.mem_append.1 hx with hx | hx
        · exact List.mem_append_left _ (h4 x hx)
        · exact List.mem_append_right _ hx
      · intro _ x hx
        simp only []
        rw [if_neg hnl, List.append_nil]
        rcases List.mem_append.1 hx with hx | hx
        · exact List.mem_append_left _ (hall x hx)
        · exact List.mem_append_right _ hx
      · rw [List.map_append]
        exact List.mem_append_left _ (I.full h2 r' hr')
    · have hlt : q.seen.length < K.length := by omega
      have h3 := I.nd
      have h4 := I.inP
      rw [if_pos hlt] at h3 h4 hall
      obtain ⟨w1, w2⟩ := I.wr hlt
      by_cases h5 : has q.seen r = true
      · rw [if_pos ⟨hlt, h5⟩]
        simp only [List.append_nil]
        refine ⟨I.n, I.cap, I.snd, I.sub, ?_, ?_, ?_, fun _ => ⟨w1, ?_⟩, fun e => absurd e h2⟩
        · simp only []
          rw [if_pos hlt, ← List.append_assoc, List.nodup_append]
          exact ⟨h3, by simp, fun a ha b hb e => by obtain rfl := List.mem_singleton.1 hb; exact hP (e ▸ h4 a ha)⟩
        · simp only []
          rw [if_pos hlt, ← List.append_assoc]
          intro x hx
          rcases List.mem_append.1 hx with hx | hx
          · exact List.mem_append_left _ (h4 x hx)
          · exact List.mem_append_right _ hx
        · intro _ x hx
          simp only []
          rw [if_pos hlt, ← List.append_assoc]
          rcases List.mem_append.1 hx with hx | hx
          · exact List.mem_append_left _ (hall x hx)
          · exact List.mem_append_right _ hx
        · intro x hx
          rcases List.mem_append.1 hx with hx | hx
          · exact w2 x hx
          · obtain rfl := List.mem_singleton.1 hx
            rw [hrk]; exact has_iff.1 h5
      · have hrs : r ∉ q.seen := fun e => h5 (has_iff.2 e)
        have s1 : (q.seen ++ [r]).Nodup := by
          rw [List.nodup_append]
          exact ⟨I.snd, by simp, fun a ha b hb e => by obtain rfl := List.mem_singleton.1 hb; exact hrs (e ▸ ha)⟩
        have u1 : ∀ r' ∈ q.seen ++ [r], r' ∈ K := by
          intro r' h'
          rcases List.mem_append.1 h' with h' | h'
          · exact I.sub r' h'
          · obtain rfl := List.mem_singleton.1 h'; exact hr
        have l1 : (q.seen ++ [r]).length = q.seen.length + 1 := by rw [List.length_append]; rfl
        have hbig : (o ++ h :: q.ws).Nodup := by
          have hp : ((o ++ q.ws) ++ [h]).Perm (o ++ h :: q.ws) := by
            rw [List.append_assoc]
            refine List.Perm.append_left o ?_
            exact List.perm_append_comm
          refine hp.nodup_iff.1 ?_
          rw [List.nodup_append]
          exact ⟨h3, by simp, fun a ha b hb e => by obtain rfl := List.mem_singleton.1 hb; exact hP (e ▸ h4 a ha)⟩
        rw [if_neg (fun e => h5 e.2), if_neg h2]
        by_cases h6 : q.seen.length + 1 = K.length
        · rw [if_pos h6]
          have hnl : ¬ (q.seen ++ [r]).length < K.length := by omega
          refine ⟨by simp [hn]; omega, ?_, s1, u1, ?_, ?_, ?_, fun e => absurd e hnl, fun _ r' hr' => ?_⟩
          · show ((q.n + 1 + (q.ws.take (N - (q.n + 1 : Nat)).toNat).length : Nat) : Int) ≤ _
            rw [List.length_take]; omega
          · simp only []
            rw [if_neg hnl, List.append_nil]
            exact hbig.sublist (List.Sublist.append_left ((List.take_sublist _ _).cons_cons h) o)
          · simp only []
            rw [if_neg hnl, List.append_nil]
            intro x hx
            rcases List.mem_append.1 hx with hx | hx
            · exact List.mem_append_left _ (h4 x (List.mem_append_left _ hx))
            · rcases List.mem_cons.1 hx with rfl | hx
              · exact List.mem_append_right _ (List.mem_singleton.2 rfl)
              · exact List.mem_append_left _ (h4 x (List.mem_append_right _ (List.mem_of_mem_take hx)))
          · intro e x hx
            simp only []
            rw [if_neg hnl, List.append_nil]
            have e' : ((q.n + 1 + (q.ws.take (N - (q.n + 1 : Nat)).toNat).length : Nat) : Int) < N := e
            rw [List.length_take] at e'
            rw [List.take_of_length_le (by omega)]
            rcases List.mem_append.1 hx with hx | hx
            · rcases List.mem_append.1 (hall x hx) with hx | hx
              · exact List.mem_append_left _ hx
              · exact List.mem_append_right _ (List.mem_cons_of_mem _ hx)
            · obtain rfl := List.mem_singleton.1 hx
              exact List.mem_append_right _ (List.mem_cons_self ..)
          · have := nodup_sup s1 u1 (by omega) r' hr'
            rw [List.map_append, w1]
            rcases List.mem_append.1 this with h' | h'
            · exact List.mem_append_left _ h'
            · obtain rfl := List.mem_singleton.1 h'
              refine List.mem_append_right _ ?_
              rw [List.map_cons, hrk]; exact List.mem_cons_self ..
        · rw [if_neg h6]
          have hlt2 : (q.seen ++ [r]).length < K.length := by omega
          have hp : (o ++ h :: q.ws).Perm ((o ++ [h]) ++ q.ws) := by rw [List.append_assoc]; exact List.Perm.refl _
          refine ⟨by simp [hn], by show ((q.n + 1 : Nat) : Int) ≤ _; omega, s1, u1, ?_, ?_, ?_, fun _ => ⟨?_, fun x hx => List.mem_append_left _ (w2 x hx)⟩, fun e => ?_⟩
          · simp only []
            rw [if_pos hlt2]
            exact hp.nodup_iff.1 hbig
          · simp only []
            rw [if_pos hlt2]
            intro x hx
            have hx := hp.mem_iff.2 hx
            rcases List.mem_append.1 hx with hx | hx
            · exact List.mem_append_left _ (h4 x (List.mem_append_left _ hx))
            · rcases List.mem_cons.1 hx with rfl | hx
              · exact List.mem_append_right _ (List.mem_singleton.2 rfl)
              · exact List.mem_append_left _ (h4 x (List.mem_append_right _ hx))
          · intro _ x hx
            simp only []
            rw [if_pos hlt2]
            refine hp.mem_iff.1 ?_
            rcases List.mem_append.1 hx with hx | hx
            · rcases List.mem_append.1 (hall x hx) with hx | hx
              · exact List.mem_append_left _ hx
              · exact List.mem_append_right _ (List.mem_cons_of_mem _ hx)
            · obtain rfl := List.mem_singleton.1 hx
              exact List.mem_append_right _ (List.mem_cons_self ..)
          · rw [List.map_append, w1, List.map_cons, hrk]; rfl
          · have e' : (q.seen ++ [r]).length = K.length := e
            omega
theorem ite_nil {p : Prop} [Decidable p] : (if p then ([] : List ByteArray) else []) = [] := by split <;> rfl
theorem QI.all_ {K : List ByteArray} {N : Int} {rk : ByteArray → ByteArray} (H : List Si) (hk : ∀ s ∈ H, s.2.2 ∈ K) (hrk : ∀ s ∈ H, rk s.1 = s.2.2) (hn : (H.map (·.1)).Nodup) :
    ∀ i, i ≤ H.length → QI K N rk ((H.take i).map (·.1)) (qall K.length N q0 (H.take i)).flatten (qaft K.length N q0 (H.take i))
  | 0, _ => ⟨rfl, by show ((0 : Nat) : Int) ≤ _; omega, .nil, fun r h => by simp [qaft, q0] at h, by show (([] : List ByteArray) ++ if 0 < K.length then ([] : List ByteArray) else []).Nodup; rw [ite_nil]; simp, by show ∀ h ∈ (([] : List ByteArray) ++ if 0 < K.length then ([] : List ByteArray) else []), h ∈ _; rw [ite_nil]; simp, fun _ h hh => by simp at hh, fun _ => ⟨rfl, fun h hh => by simp [qaft, q0] at hh⟩, fun e r hr => by
      have : K.length = 0 := e.symm
      have : K = [] := List.length_eq_zero_iff.1 this
      subst this
      simp at hr⟩
  | i + 1, hi => by
    obtain ⟨s, hs⟩ : ∃ s, H[i]? = some s := ⟨_, List.getElem?_eq_getElem (by omega)⟩
    have hm := List.mem_of_getElem? hs
    have e : H.take (i + 1) = H.take i ++ [s] := by rw [List.take_add_one, hs]; rfl
    have ih := QI.all_ (N := N) H hk hrk hn i (by omega)
    rw [e, qall_snoc, qaft_snoc, List.map_append, List.flatten_append]
    have h2 : [(qstep K.length N (qaft K.length N q0 (List.take i H)) s.2.2 s.1).2].flatten = (qstep K.length N (qaft K.length N q0 (List.take i H)) s.2.2 s.1).2 := by simp
    rw [h2]
    refine ih.step (hk s hm) (hrk s hm) ?_
    have h3 : H.map (·.1) = (H.take i).map (·.1) ++ s.1 :: (H.drop (i + 1)).map (·.1) := by
      conv => lhs; rw [← List.take_append_drop i H]
      rw [List.map_append, List.drop_eq_getElem_cons (by omega), (List.getElem?_eq_some_iff.1 hs).2]
      rfl
    rw [h3, List.nodup_append] at hn
    exact fun hh => hn.2.2 _ hh _ (List.mem_cons_self ..) rfl
/-- What one center's hosts are: none twice, as many as are needed, of as many racks as can be. -/
theorem out_law {n : Int} {H : List Si} {rk : ByteArray → ByteArray} (h0 : 0 ≤ n) (hrk : ∀ s ∈ H, rk s.1 = s.2.2) (hn : (H.map (·.1)).Nodup) :
    (outOf n H).Nodup ∧ ((outOf n H).length : Int) = min n H.length ∧ (∀ h ∈ outOf n H, h ∈ H.map (·.1)) ∧ ∀ U : List ByteArray, U.Nodup → (∀ x, x ∈ U ↔ x ∈ (outOf n H).map rk) → U.length = min (outOf n H).length (racksOf H).length := by
  have I := QI.all_ (K := racksOf H) (N := n) (rk := rk) H (fun s hs => racks_mem hs) hrk hn H.length (Nat.le_refl _)
  rw [List.take_length] at I
  have hX : (qall (racksOf H).length n q0 H).flatten = outOf n H := rfl
  rw [hX] at I
  generalize outOf n H = o at *
  generalize qaft (racksOf H).length n q0 H = q at *
  have hKn : (racksOf H).Nodup := uniq_nodup _ _ .nil
  have hKm : ∀ r ∈ racksOf H, ∃ s ∈ H, s.2.2 = r := by
    intro r hr
    rcases (uniq_mem _ _ _).1 hr with h | h
    · simp at h
    · obtain ⟨s, hs, e⟩ := List.mem_map.1 h; exact ⟨s, hs, e⟩
  have hKr : ∀ s ∈ H, s.2.2 ∈ racksOf H := fun s hs => racks_mem hs
  generalize racksOf H = K at *
  have hle := nodup_le I.snd I.sub
  have hcap := I.cap
  have hnn := I.n
  have hond : o.Nodup := (List.nodup_append.1 I.nd).1
  have hoH : ∀ h ∈ o, h ∈ H.map (·.1) := fun h hh => I.inP h (List.mem_append_left _ hh)
  have hol := nodup_le hond hoH
  rw [List.length_map] at hol
  refine ⟨hond, ?_, hoH, fun U hU hm => ?_⟩
  · by_cases h1 : n ≤ (q.n : Int)
    · omega
    · have hall := I.all (by omega)
      by_cases h2 : q.seen.length = K.length
      · rw [if_neg (by omega), List.append_nil] at hall
        have := nodup_len hond hn fun x => ⟨hoH x, hall x⟩
        rw [List.length_map] at this
        omega
      · exfalso
        have hlt : q.seen.length < K.length := by omega
        rw [if_pos hlt] at hall
        obtain ⟨w1, w2⟩ := I.wr hlt
        have : K.length ≤ q.seen.length := nodup_le hKn fun r hr => by
          obtain ⟨s, hs, rfl⟩ := hKm r hr
          rcases List.mem_append.1 (hall s.1 (List.mem_map.2 ⟨s, hs, rfl⟩)) with h | h
          · rw [← w1, ← hrk s hs]; exact List.mem_map.2 ⟨_, h, rfl⟩
          · rw [← hrk s hs]; exact w2 _ h
        omega
  · by_cases h2 : q.seen.length = K.length
    · have hf := I.full h2
      have e1 : U.length = K.length := nodup_len hU hKn fun x => by
        rw [hm x]
        refine ⟨fun h => ?_, fun h => hf x h⟩
        obtain ⟨y, hy, rfl⟩ := List.mem_map.1 h
        obtain ⟨s, hs, rfl⟩ := List.mem_map.1 (hoH y hy)
        rw [hrk s hs]; exact hKr s hs
      have e2 : K.length ≤ (o.map rk).length := nodup_le hKn hf
      rw [List.length_map] at e2
      omega
    · have hlt : q.seen.length < K.length := by omega
      obtain ⟨w1, w2⟩ := I.wr hlt
      have e1 : U.length = q.seen.length := nodup_len hU I.snd fun x => by rw [hm x, w1]
      have e2 : o.length = q.seen.length := by rw [← w1, List.length_map]
      omega

/-! One center, and two. -/
theorem flat_if {G : List (ByteArray × List ByteArray)} {d : ByteArray} (h : ∀ p ∈ G, p.1 ≠ d → p.2 = []) : G.flatMap (·.2) = ((G.filter fun p => decide (p.1 = d)).map (·.2)).flatten := by
  induction G with
  | nil => rfl
  | cons p G ih =>
    have ih := ih fun p hp => h p (List.mem_cons_of_mem _ hp)
    rw [List.flatMap_cons, ih]
    by_cases e : p.1 = d
    · simp [e]
    · rw [h p (List.mem_cons_self ..) e]
      simp [e]
theorem out_one {T : List Si} {cs : List (ByteArray × Cr)} {d : ByteArray} {n : Int} {g mr : Nat} (h1 : aget d cs = some (cen0 g mr n (ofDc d T))) (h2 : ∀ x, x ≠ d → aget x cs = none) : (runT cs T).flatMap (·.2) = outOf n (ofDc d T) := by
  rw [flat_if (d := d) fun p hp e => runT_none T cs (h2 p.1 e) p hp rfl, runT_center T cs _ h1, kall_start]
  rfl
theorem flat_two {G : List (ByteArray × List ByteArray)} {d : ByteArray} {P : ByteArray → Bool} (h1 : ∀ p ∈ G, p.1 = d → ∀ h ∈ p.2, P h = true) (h2 : ∀ p ∈ G, p.1 ≠ d → ∀ h ∈ p.2, P h = false) :
    (G.flatMap (·.2)).filter P = ((G.filter fun p => decide (p.1 = d)).map (·.2)).flatten := by
  induction G with
  | nil => rfl
  | cons p G ih =>
    have ih := ih (fun p hp => h1 p (List.mem_cons_of_mem _ hp)) (fun p hp => h2 p (List.mem_cons_of_mem _ hp))
    rw [List.flatMap_cons, List.filter_append, ih]
    by_cases e : p.1 = d
    · rw [List.filter_eq_self.2 (h1 p (List.mem_cons_self ..) e)]
      simp [e]
    · rw [List.filter_eq_nil_iff.2 fun h hh => by rw [h2 p (List.mem_cons_self ..) e h hh]; simp]
      simp [e]
theorem runT_mem {T : List Si} {cs : List (ByteArray × Cr)} {d : ByteArray} {g mr : Nat} {n : Int} (hc : aget d cs = some (cen0 g mr n (ofDc d T))) {p : ByteArray × List ByteArray} (hp : p ∈ runT cs T) (e : p.1 = d) :
    (∀ h ∈ p.2, h ∈ outOf n (ofDc d T)) ∧ ∀ h ∈ p.2, h ∈ (ofDc d T).map (·.1) := by
  have h1 : p.2 ∈ kall (cen0 g mr n (ofDc d T)) (ofDc d T) := by
    rw [← runT_center T cs _ hc]
    exact List.mem_map.2 ⟨p, List.mem_filter.2 ⟨hp, by simpa using e⟩, rfl⟩
  refine ⟨fun h hh => ?_, fun h hh => ?_⟩
  · rw [kall_start] at h1
    exact List.mem_flatten.2 ⟨_, h1, hh⟩
  · rcases kall_mem _ _ _ h1 h hh with h2 | h2
    · simp [cen0] at h2
    · exact h2
/-- The hosts of both centers, but for those of one, are those of the other one alone. -/
theorem out_two {T : List Si} {cs : List (ByteArray × Cr)} {d x : ByteArray} {n m : Int} {g mr g' mr' : Nat} (hdx : d ≠ x) (h1 : aget d cs = some (cen0 g mr n (ofDc d T))) (h2 : aget x cs = some (cen0 g' mr' m (ofDc x T))) (h3 : ∀ y, y ≠ d → y ≠ x → aget y cs = none)
    (hT : ∀ s ∈ T, ∀ s' ∈ T, s.1 = s'.1 → s = s') :
    ((runT cs T).flatMap (·.2)).filter (has (outOf n (ofDc d T))) = outOf n (ofDc d T) ∧ ((runT cs T).flatMap (·.2)).filter (fun h => !has (outOf n (ofDc d T)) h) = outOf m (ofDc x T) := by
  have hout : ∀ h ∈ outOf n (ofDc d T), h ∈ (ofDc d T).map (·.1) := by
    intro h hh
    have : outOf n (ofDc d T) = (kall (cen0 g mr n (ofDc d T)) (ofDc d T)).flatten := by rw [kall_start]; rfl
    rw [this] at hh
    obtain ⟨l, hl, hh⟩ := List.mem_flatten.1 hh
    rcases kall_mem _ _ _ hl h hh with h2 | h2
    · simp [cen0] at h2
    · exact h2
  have a1 : ∀ p ∈ runT cs T, p.1 = d → ∀ h ∈ p.2, has (outOf n (ofDc d T)) h = true := fun p hp e h hh => has_iff.2 ((runT_mem h1 hp e).1 h hh)
  have a2 : ∀ p ∈ runT cs T, p.1 ≠ d → ∀ h ∈ p.2, has (outOf n (ofDc d T)) h = false := by
    intro p hp e h hh
    by_cases e2 : p.1 = x
    · have hx := (runT_mem h2 hp e2).2 h hh
      refine Bool.eq_false_iff.2 fun hc => ?_
      have hd := hout h (has_iff.1 hc)
      obtain ⟨s, hs, rfl⟩ := List.mem_map.1 hd
      obtain ⟨s', hs', e3⟩ := List.mem_map.1 hx
      obtain ⟨m1, c1⟩ := List.mem_filter.1 hs
      obtain ⟨m2, c2⟩ := List.mem_filter.1 hs'
      have := hT s m1 s' m2 e3.symm
      subst this
      simp only [decide_eq_true_eq] at c1 c2
      exact hdx (c1.symm.trans c2)
    · have h4 := runT_none T cs (h3 p.1 e e2) p hp rfl
      rw [h4] at hh
      simp at hh
  constructor
  · rw [flat_two a1 a2, runT_center T cs _ h1, kall_start]; rfl
  · rw [flat_two (d := x) (P := fun h => !has (outOf n (ofDc d T)) h) (fun p hp e h hh => by rw [a2 p hp (fun e2 => hdx (e2.symm.trans e)) h hh]; rfl) ?_, runT_center T cs _ h2, kall_start]
    · rfl
    · intro p hp e h hh
      by_cases e2 : p.1 = d
      · rw [a1 p hp e2 h hh]; rfl
      · have h4 := runT_none T cs (h3 p.1 e2 e) p hp rfl
        rw [h4] at hh
        simp at hh

/-! Where nobody waits: the first ones. -/
theorem q_free {R : Nat} {N : Int} : ∀ (H : List Si) (q : Qs), q.ws = [] → (∀ i s, H[i]? = some s → ¬ ((qaft R N q (H.take i)).seen.length < R ∧ has (qaft R N q (H.take i)).seen s.2.2 = true)) →
    (qall R N q H).flatten = (H.map (·.1)).take (N - q.n).toNat
  | [], _, _, _ => by simp [qall]
  | s :: H, q, hw, hf => by
    have h0 := hf 0 s rfl
    have h0' : ¬ (q.seen.length < R ∧ has q.seen s.2.2 = true) := h0
    have hf' : ∀ i s', H[i]? = some s' → ¬ ((qaft R N (qstep R N q s.2.2 s.1).1 (H.take i)).seen.length < R ∧ has (qaft R N (qstep R N q s.2.2 s.1).1 (H.take i)).seen s'.2.2 = true) := fun i s' h => hf (i + 1) s' (by simpa using h)
    rw [qall, List.flatten_cons, List.map_cons]
    have hst : (qstep R N q s.2.2 s.1).1.ws = [] := by
      unfold qstep
      by_cases h1 : N ≤ (q.n : Int)
      · rw [if_pos h1]; exact hw
      · rw [if_neg h1, if_neg h0']
        split
        · exact hw
        · split
          · exact hw
          · exact hw
    rw [q_free H _ hst hf']
    by_cases h1 : N ≤ (q.n : Int)
    · have e : qstep R N q s.2.2 s.1 = (q, []) := by unfold qstep; rw [if_pos h1]
      rw [e]
      have : (N - q.n).toNat = 0 := by omega
      simp [this]
    · have e : (qstep R N q s.2.2 s.1).2 = [s.1] ∧ (qstep R N q s.2.2 s.1).1.n = q.n + 1 := by
        unfold qstep
        rw [if_neg h1, if_neg h0']
        split
        · exact ⟨rfl, rfl⟩
        · split
          · simp [hw]
          · exact ⟨rfl, rfl⟩
      rw [e.1, e.2]
      obtain ⟨k, hk⟩ : ∃ k, (N - q.n).toNat = k + 1 := ⟨(N - q.n).toNat - 1, by omega⟩
      have hk2 : (N - (q.n + 1 : Nat)).toNat = k := by omega
      rw [hk, hk2, List.take_succ_cons]
      rfl
theorem seen_sub {R : Nat} {N : Int} : ∀ (H : List Si) (q : Qs), ∀ r ∈ (qaft R N q H).seen, r ∈ q.seen ∨ r ∈ H.map (·.2.2)
  | [], _, r, h => .inl h
  | s :: H, q, r, h => by
    have h : r ∈ (qaft R N (qstep R N q s.2.2 s.1).1 H).seen := h
    have hs : ∀ r ∈ (qstep R N q s.2.2 s.1).1.seen, r ∈ q.seen ∨ r = s.2.2 := by
      unfold qstep
      intro r hr
      split at hr
      · exact .inl hr
      · split at hr
        · exact .inl hr
        · split at hr
          · exact .inl hr
          · split at hr <;> exact (List.mem_append.1 hr).imp id List.mem_singleton.1
    rcases seen_sub H _ r h with h1 | h1
    · rcases hs r h1 with h2 | h2
      · exact .inl h2
      · exact .inr (by rw [h2]; exact List.mem_cons_self ..)
    · exact .inr (List.mem_cons_of_mem _ h1)
/-- Of one rack, or of as many racks as hosts: the first ones. -/
theorem out_many {n : Int} {H : List Si} (h : (∃ r, ∀ s ∈ H, s.2.2 = r) ∨ ((∀ s ∈ H, s.2.2 = s.1) ∧ (H.map (·.1)).Nodup)) : outOf n H = (H.map (·.1)).take n.toNat := by
  unfold outOf
  have e : n.toNat = (n - ((q0.n : Nat) : Int)).toNat := by simp [q0]
  rw [e]
  refine q_free H q0 rfl fun i s hs hc => ?_
  obtain ⟨c1, c2⟩ := hc
  have c2 := has_iff.1 c2
  have hm := seen_sub (R := (racksOf H).length) (N := n) (H.take i) q0 s.2.2 c2
  rcases hm with hm | hm
  · simp [q0] at hm
  rcases h with ⟨r, hr⟩ | ⟨hr, hn⟩
  · have h1 : (racksOf H).length ≤ [r].length := nodup_le (uniq_nodup _ _ .nil) fun x hx => by
      rcases (uniq_mem _ _ _).1 hx with h | h
      · simp at h
      · obtain ⟨s', hs', rfl⟩ := List.mem_map.1 h
        rw [hr s' hs']; exact List.mem_singleton.2 rfl
    have := List.length_pos_of_mem c2
    simp only [List.length_singleton] at h1
    omega
  · obtain ⟨s', hs', e2⟩ := List.mem_map.1 hm
    have hm' := List.mem_of_mem_take hs'
    rw [hr s' hm', hr s (List.mem_of_getElem? hs)] at e2
    have h3 : H.map (·.1) = (H.take i).map (·.1) ++ s.1 :: (H.drop (i + 1)).map (·.1) := by
      conv => lhs; rw [← List.take_append_drop i H]
      rw [List.map_append, List.drop_eq_getElem_cons (List.getElem?_eq_some_iff.1 hs).1, (List.getElem?_eq_some_iff.1 hs).2]
      rfl
    rw [h3, List.nodup_append] at hn
    exact hn.2.2 _ (List.mem_map.2 ⟨s', hs', rfl⟩) _ (List.mem_cons_self ..) e2

/-! The document's way: all hosts of one center, each with its place. -/
def oneQ (R : Nat) (N : Int) : Qs → List (Si × Nat) → List (ByteArray × Nat)
  | _, [] => []
  | q, (s, i) :: E => (qstep R N q s.2.2 s.1).2.map (fun h => (h, i)) ++ oneQ R N (qstep R N q s.2.2 s.1).1 E
def ofDcE (d : ByteArray) (E : List (Si × Nat)) : List (Si × Nat) := E.filter fun p => decide (p.1.2.1 = d)
theorem oneQ_snd {R : Nat} {N : Int} : ∀ (E : List (Si × Nat)) (q : Qs) (p : ByteArray × Nat), p ∈ oneQ R N q E → p.2 ∈ E.map (·.2)
  | [], _, p, h => by simp [oneQ] at h
  | (s, i) :: E, q, p, h => by
    rw [oneQ] at h
    rcases List.mem_append.1 h with h | h
    · obtain ⟨x, _, rfl⟩ := List.mem_map.1 h
      exact List.mem_cons_self ..
    · exact List.mem_cons_of_mem _ (oneQ_snd E _ p h)
theorem zip_snd {d : ByteArray} (T : List Si) (k : Nat) : ∀ j ∈ (ofDcE d (T.zipIdx k)).map (·.2), k ≤ j := by
  intro j hj
  obtain ⟨p, hp, rfl⟩ := List.mem_map.1 hj
  exact (List.mem_zipIdx (List.mem_filter.1 hp).1).1
theorem pick_none {R : Nat} {N : Int} {E : List (Si × Nat)} {q : Qs} {j : Nat} (h : j ∉ E.map (·.2)) : (oneQ R N q E).filter (fun p => decide (p.2 = j)) = [] :=
  List.filter_eq_nil_iff.2 fun p hp e => h ((of_decide_eq_true e) ▸ oneQ_snd E q p hp)
theorem one_pick {R : Nat} {N : Int} {d : ByteArray} : ∀ (T : List Si) (k : Nat) (q : Qs) (i : Nat), ((oneQ R N q (ofDcE d (T.zipIdx k))).filter fun p => decide (p.2 = k + i)).map (·.1) = atQ R N d q T i
  | [], k, q, i => by simp [ofDcE, oneQ, atQ]
  | s :: T, k, q, 0 => by
    have hz : ¬ (k + 0) ∈ (ofDcE d (T.zipIdx (k + 1))).map (·.2) := fun h => by have := zip_snd T (k + 1) _ h; omega
    rw [List.zipIdx_cons, atQ]
    unfold ofDcE
    rw [List.filter_cons]
    by_cases e : s.2.1 = d
    · simp only [decide_eq_true e, if_true, if_pos e]
      rw [oneQ, List.filter_append, show List.filter (fun p : Si × Nat => decide (p.1.2.1 = d)) (T.zipIdx (k + 1)) = ofDcE d (T.zipIdx (k + 1)) from rfl, pick_none hz, List.append_nil, List.filter_eq_self.2]
      · simp [Function.comp_def]
      · intro p hp
        obtain ⟨x, _, rfl⟩ := List.mem_map.1 hp
        simp
    · simp only [decide_eq_false e, Bool.false_eq_true, if_false, if_neg e]
      rw [show List.filter (fun p : Si × Nat => decide (p.1.2.1 = d)) (T.zipIdx (k + 1)) = ofDcE d (T.zipIdx (k + 1)) from rfl, pick_none hz]
      rfl
  | s :: T, k, q, i + 1 => by
    have ih := fun q => one_pick (R := R) (N := N) (d := d) T (k + 1) q i
    rw [List.zipIdx_cons, atQ]
    unfold ofDcE
    rw [List.filter_cons]
    have ek : k + (i + 1) = k + 1 + i := by omega
    rw [ek]
    by_cases e : s.2.1 = d
    · simp only [decide_eq_true e, if_true, if_pos e]
      rw [oneQ, List.filter_append, List.filter_eq_nil_iff.2, List.nil_append]
      · exact ih _
      · intro p hp
        obtain ⟨x, _, rfl⟩ := List.mem_map.1 hp
        simp; omega
    · simp only [decide_eq_false e, Bool.false_eq_true, if_false, if_neg e]
      exact ih q
end Go.Proofs.YtepikngkbondgaaGreat
namespace Go.Proofs.YtepikngkbondgaaGreat
set_option linter.unusedVariables false
open Go.RowKit

theorem s4sT : SlT Tryz.prog 73 75 (.agg #[.string noStr, .string noStr, .string noStr]) 3 48 := ⟨Tryz.underlying73, by kernel_rfl, rfl, by decide, by decide⟩
abbrev S4i := ByteArray × ByteArray × ByteArray
def s4C (s : S4i) : List Value := [.string s.1, .string s.2.1, .string s.2.2]
theorem s4C_len (l : List S4i) : (l.flatMap s4C).length = l.length * 3 := flat_len (k := 3) (fun _ => rfl) l
theorem s4_at {w : World} {ok : Nat → TypeId → Prop} {v : Value} {L : List S4i} {n : Nat} (h : SlK w ok 3 v n (L.flatMap s4C)) {i : Nat} {s : S4i} (hi : L[i]? = some s) :
    ∃ g off, (∀ kd w', (Instr.indexAt 73 v (.int kd (i : Int))).run Tryz.prog w' = .ok (.pointer (some ⟨g, off, none⟩)) w') ∧ g < w.heap.size ∧ w.cell? ⟨g, off, none⟩ = some (.string s.1) ∧ w.cell? ⟨g, off + 1, none⟩ = some (.string s.2.1) ∧ w.cell? ⟨g, off + 2, none⟩ = some (.string s.2.2) := by
  have hlt : i < n := by
    have h1 := (List.getElem?_eq_some_iff.1 hi).1
    have h2 := h.len
    rw [s4C_len] at h2
    omega
  obtain ⟨g, off, h1, h2, h4, h3⟩ := h.run_index s4sT (i := (i : Int)) (k := i) rfl hlt
  refine ⟨g, off, h1, h2, h3 0 _ ?_, h3 1 _ ?_, h3 2 _ ?_⟩
  · rw [flat_get (k := 3) (fun _ => rfl) L i 0 s hi (by decide)]; rfl
  · rw [flat_get (k := 3) (fun _ => rfl) L i 1 s hi (by decide)]; rfl
  · rw [flat_get (k := 3) (fun _ => rfl) L i 2 s hi (by decide)]; rfl
/-- The first site of a host. -/
def siteOf (L : List S4i) (h : ByteArray) : Option S4i := L.find? fun s => decide (s.1 = h)
theorem find_take_none {L : List S4i} {h : ByteArray} {i : Nat} {s : S4i} (hi : L[i]? = some s) (h0 : siteOf (L.take i) h = none) : siteOf (L.take (i + 1)) h = (if s.1 = h then some s else none) ∧ (s.1 = h → siteOf L h = some s) := by
  have e : L.take (i + 1) = L.take i ++ [s] := by rw [List.take_add_one, hi]; rfl
  unfold siteOf at *
  constructor
  · rw [e, List.find?_append, h0]
    by_cases hs : s.1 = h <;> simp [hs]
  · intro hs
    conv => lhs; rw [← List.take_append_drop (i + 1) L, e]
    rw [List.find?_append, List.find?_append, h0]
    simp [hs]
def SiteIs (L : List S4i) (h : ByteArray) (z : Int) : Prop := (∃ (i : Nat) (s : S4i), L[i]? = some s ∧ siteOf L h = some s ∧ z = i) ∨ (siteOf L h = none ∧ z = -1)
set_option maxHeartbeats 1000000 in
set_option maxRecDepth 100000 in
theorem r4site_at {w : World} {ok : Nat → TypeId → Prop} {v : Value} {L : List S4i} {h : ByteArray} (hs : SlK w ok 3 v L.length (L.flatMap s4C)) (hn : L.length ≤ 100000) :
    Calls Tryz.prog 50 #[v, .string h] w fun e w' => w' = w ∧ ∃ z : Int, e = .returned (.int .i64 z) ∧ SiteIs L h z := by
  obtain ⟨A, c, rfl, -, -⟩ := hs.shape
  have hlen := hs.run_len s4sT
  have H := Lib.hid hs
  clear hs
  go_enter Tryz.func50, Tryz.ntmps50
  go_wp2_with fail
  go_loopg [5] L.length (fun j vi wr => ∃ i : Nat, i + j = L.length ∧ vi = .int .i64 i ∧ siteOf (L.take i) h = none ∧ wr = w)
  case atStart => exact ⟨0, by omega, rfl, rfl, rfl⟩
  case round =>
    obtain ⟨i, hij, rfl, hh, rfl⟩ := hrel
    have HH := Lib.hid hh
    clear hh
    by_cases hlt : i < L.length
    · obtain ⟨x, hx⟩ : ∃ x, L[i]? = some x := ⟨_, List.getElem?_eq_getElem hlt⟩
      obtain ⟨g, off, hidx, hgl, hc0, hc1, hc2⟩ := s4_at H.out hx
      have hft := find_take_none hx HH.out
      have HFT := Lib.hid hft
      have HX := Lib.hid hx
      obtain ⟨x1, x2⟩ := x
      simp only at hc0
      clear hx hft
      by_cases hxs : x1 = h
      · subst hxs
        have hbe := strEq_self x1
        go_wp2
        go_ret
        exact ⟨rfl, _, rfl, .inl ⟨i, _, HX.out, HFT.out.2 (by first | rfl | trivial), rfl⟩⟩
      · have hbe := strEq_ne hxs
        have HXS := Lib.hid hxs
        clear hxs
        go_wp2
        go_roundg (L.length - (i + 1))
        case measure => omega
        case rel => exact ⟨i + 1, by omega, by go_num, by rw [HFT.out.1, if_neg HXS.out], rfl⟩
    · obtain rfl : i = L.length := by omega
      have hres : siteOf L h = none := by have := HH.out; rw [List.take_length] at this; exact this
      have HRES := Lib.hid hres
      clear hres
      go_wp2
      go_ret
      exact ⟨rfl, _, rfl, .inr ⟨HRES.out, rfl⟩⟩
end Go.Proofs.YtepikngkbondgaaGreat

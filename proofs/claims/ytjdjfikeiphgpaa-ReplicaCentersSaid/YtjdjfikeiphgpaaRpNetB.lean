/- replica.Network: the walk behind its first loop. -/
import Derived.Test.YtjdjfikeiphgpaaRpNetD
namespace Go.Proofs.Ytjdjfikeiphgpaa
set_option linter.unusedVariables false
open Go.RowKit
open Go.ChangeMaps (setBlock)

set_option maxRecDepth 100000 in
set_option maxHeartbeats 8000000 in
theorem net_rest {w W : World} {rv : Value} {t : Int} {l : List ByteArray} {zs : List Si} {fs : List Fa} {A1 A2 : Option Addr} {n1 n2 c1 c2 N D : Nat} (hn2 : fs.length = n2) (hN : w.heap.size = N)
    (hf : Lo w w.heap.size 2 (.slice A2 n2 c2) n2 (fs.flatMap fC))
    (hw : ∀ W, Kept noBlock w W → Calls Try.prog 17 #[rv, .int .i64 t] W fun e w' => ∃ v, e = .returned v ∧ w'.ownsRow W.heap.size 9 1 v l.length (l.map Value.string) ∧ Kept noBlock W w')
    (hfl : fs.length ≤ 1000) (hll : l.length ≤ 200) (hfn : ∀ f ∈ fs, -9223372036854775808 ≤ f.2 ∧ f.2 < 9223372036854775808)
    (hkW : Kept noBlock w W) (hND : N ≤ D) (hD : W.heap[D]? = some (.deferred (some []))) (hsm : SiMap W N (smOf zs.reverse)) (hcm : CeMap W (N + 1) [])
    (hbX : Blk W (N + 1 + 1) 74 #[.map (some N), .map (some (N + 1)), .slice none 0 0]) (hbB : Blk W (N + 1 + 1 + 1) 70 #[.pointer (some ⟨N + 1 + 1, 0, none⟩)])
    (c : Code) (hc : c = netRest) : Code.wp Try.prog c (bodyPostM Fence.wide 6 Try.prog Try.f15 fun e w' => NetPost w zs l fs e w') { tmps := #[rv, .int .i64 t, .slice A1 n1 c1, .slice A2 n2 c2, undef, undef, undef, undef, .slice none 0 0, .int .i64 0, .pointer (some ⟨N + 1 + 1 + 1, 0, none⟩), undef, undef, undef, undef, undef, undef, undef, undef, undef, undef, undef, undef, undef, undef, undef, .map (some N), .map (some (N + 1)), .agg #[.map (some N), .map (some (N + 1)), .slice none 0 0], .pointer (some ⟨N + 1 + 1, 0, none⟩), .slice A1 n1 c1, .func (.func 39) #[] #[.pointer (some ⟨N + 1 + 1 + 1 + 1, 0, none⟩)], undef, undef, undef, undef, undef, undef, undef, undef, undef, undef, undef, undef, undef, undef, undef, undef, undef, undef, undef, undef, undef, undef, undef, undef, undef, undef, undef, undef, undef, undef, undef, undef, undef, undef, undef, undef, undef, undef, undef, undef, undef, undef, undef, undef, undef, undef, undef, undef, undef, undef, undef, undef, undef, undef, undef, undef, undef, undef, undef, undef, undef, undef, undef, undef, undef, undef, undef, undef, undef, undef, undef, undef, undef, undef, undef, undef, undef, undef, undef, undef, undef, undef, undef, undef, undef, undef, undef, undef, undef, undef, undef, undef, undef, undef, undef, undef, undef, undef, undef, undef, undef, undef, undef, undef, undef, undef, undef, undef, undef, undef, undef, undef, undef, undef, undef], defers := [{ target := .collected D, args := #[] }] } W := by
  subst hc
  conv => arg 2; whnf
  have hne : N ≠ N + 1 := by omega
  have hO := ChO.start hbX hsm hcm hne
  have HKW := Lib.hid hkW
  have HNDn : D ≠ N + 1 := by
    rintro rfl
    obtain ⟨es, ck, hh, _⟩ := hcm
    rw [hD] at hh; cases hh
  have HD := Lib.hid hD
  have HNDx : D ≠ N + 1 + 1 := by
    rintro rfl
    unfold Blk at hbX
    rw [hD] at hbX; cases hbX
  have HBB := Lib.hid hbB
  have HF := Lib.hid hf
  have HW := Lib.hid hw
  have HFN := Lib.hid hfn
  have HO := Lib.hid hO
  clear hkW hD hbB hf hw hfn hO hsm hcm hbX
  go_wp2_with fail
  go_loopg [43] n2 (fun j vi wr => ∃ (i : Nat) (cs : List (ByteArray × Cr)) (own : Nat → Own), i + j = n2 ∧ vi = .int .i64 (i : Nat) ∧ ChO wr W.heap.size (N + 1 + 1) N (N + 1) (smOf zs.reverse) cs [] own (.slice none 0 0) ∧ Fresh (fs.take i) cs ∧ Kept (fun k => k = N + 1) W wr)
  case atStart => exact ⟨0, [], _, by omega, rfl, HO.out, ⟨rfl, fun p hp => by simp at hp⟩, Kept.refl _ _⟩
  case round =>
    obtain ⟨i, cs, own, hij, rfl, hO, hfr, hk⟩ := hrel
    have HIJ := Lib.hid hij
    have HFR := Lib.hid hfr
    have HK := Lib.hid hk
    have hbB := HBB.out.kept hk (by omega)
    have y0 := hbB.cell 0
    have y1 := hO.blk.cell 1
    simp only [List.getElem?_toArray, List.getElem?_cons_succ, List.getElem?_cons_zero] at y0 y1
    have HO1 := Lib.hid hO
    clear HO
    by_cases hil : i < n2
    · obtain ⟨f, hfi⟩ : ∃ f, fs[i]? = some f := ⟨_, List.getElem?_eq_getElem (by omega)⟩
      have hfw : SlK wr (fun g _ => g < w.heap.size) 2 (.slice A2 n2 c2) n2 (fs.flatMap fC) := (HF.out.keptAll HKW.out fun _ _ _ h => h).keptAll hk fun g e hg h => by omega
      obtain ⟨ge, oo, hidx, hgl, q0, q1⟩ := fac_at hfw hfi
      obtain ⟨dc, fn⟩ := f
      simp only at q0 q1
      have HFI := Lib.hid hfi
      have hw1 : IntKind.i64.wrap ((i : Int) + 1) = (i : Int) + 1 := by rw [IntKind.wrap_i64]; omega
      have hk1 : Kept noBlock wr (wr.alloc (.cells #[.string dc, .int .i64 fn] 45)) := (Kept.refl noBlock wr).alloc _
      have hbf : Blk (wr.alloc (.cells #[.string dc, .int .i64 fn] 45)) wr.heap.size 45 #[.string dc, .int .i64 fn] := Blk.new _ _ _
      have HBF := Lib.hid hbf
      have HK1 := Lib.hid hk1
      have HBBr := Lib.hid hbB
      clear hij hfr hk hbB hO hfi hfw hk1 hbf y0 y1
      go_wp2_with fail
      have hO1 := HO1.out.kept HK1.out (fun _ h => False.elim h)
      have hHD : Hid (wr.heap.size = wr.heap.size) := Lib.hid rfl
      obtain ⟨w1, hw1e⟩ : ∃ w1, w1 = wr.alloc (.cells #[.string dc, .int .i64 fn] 45) := ⟨_, rfl⟩
      rw [← hw1e] at hO1 HBF HK1 ⊢
      have HW1E := Lib.hid hw1e
      clear hw1e
      have hbB1 := HBBr.out.kept HK1.out (fun h => h)
      have y0 := hbB1.cell 0
      have y1 := hO1.blk.cell 1
      have q0' := HBF.out.cell 0
      simp only [List.getElem?_toArray, List.getElem?_cons_succ, List.getElem?_cons_zero] at y0 y1 q0'
      generalize hNf : wr.heap.size = Nf at *
      have l2 := hO1.cens.drew.run_lookup (P := Try.prog) string_emb mceM strU (zero_cen w1.drew) dc false
      have HO1' := Lib.hid hO1
      have HB1 := Lib.hid hbB1
      cases hdc : aget dc cs with
      | some c =>
        rw [cen_some hO1.nd hdc] at l2
        simp only [Option.map_some, Option.getD_some, Bool.false_eq_true, if_false] at l2
        have HDC := Lib.hid hdc
        clear hO1 hbB1 hdc
        go_region
        go_wp2_with fail
        have hkw1 : Kept noBlock w w1.drew := ((HKW.out.trans HK.out (fun k hk e => by omega)).trans HK1.out (fun _ _ e => e)).drew
        have hD1 : w1.drew.heap[D]? = some (.deferred (some [])) := (HK1.out.block D (Nat.lt_of_lt_of_le (lt_of_heap HD.out) HK.out.size) (fun e => e)).trans ((HK.out.block D (lt_of_heap HD.out) (fun e => HNDn e)).trans HD.out)
        refine ⟨by simp, .inl ⟨_, _, rfl, run_takeDeferred hD1, ?_⟩⟩
        refine ⟨_, results_tmp2 rfl _ _ _, hkw1.putObj (fun e => by omega) _, .inl ⟨.inl ?_, rfl⟩⟩
        intro hnd
        have h1 : dc ∈ (fs.take i).map (·.1) := by
          rw [← HFR.out.1]
          exact List.mem_map.2 ⟨_, aget_mem HDC.out, rfl⟩
        have h2 : fs.map (·.1) = (fs.take i).map (·.1) ++ dc :: (fs.drop (i + 1)).map (·.1) := by
          conv => lhs; rw [← List.take_append_drop i fs]
          rw [List.map_append, List.drop_eq_getElem_cons (List.getElem?_eq_some_iff.1 HFI.out).1, (List.getElem?_eq_some_iff.1 HFI.out).2]
          rfl
        rw [h2, List.nodup_append] at hnd
        exact hnd.2.2 dc h1 dc (List.mem_cons_self ..) rfl
      | none =>
        rw [cen_none hdc] at l2
        simp only [Option.map_none, Option.getD_none, Bool.false_eq_true, if_false] at l2
        have HDC := Lib.hid hdc
        have hmk := @run_makeMap Try.prog
        have hk2 : Kept noBlock w1 (((w1.alloc (.map #[] 0)).alloc (.cells #[.int .i64 0, .int .i64 0, .map (some w1.heap.size), .slice none 0 0] 81)).drew.drew) := (((Kept.refl noBlock w1).alloc _).alloc _).drew.drew
        have hg2 : Blk (((w1.alloc (.map #[] 0)).alloc (.cells #[.int .i64 0, .int .i64 0, .map (some w1.heap.size), .slice none 0 0] 81)).drew.drew) (w1.heap.size + 1) 81 #[.int .i64 0, .int .i64 0, .map (some w1.heap.size), .slice none 0 0] := (Blk.new_at _ _ _ (by rw [sz_alloc])).drew.drew
        have hm2 : SMap (((w1.alloc (.map #[] 0)).alloc (.cells #[.int .i64 0, .int .i64 0, .map (some w1.heap.size), .slice none 0 0] 81)).drew.drew) w1.heap.size [] := ((KMap.new w1).alloc _).drew.drew
        obtain ⟨es, ck, hup, hC⟩ := (hO1.cens.kept hk2 (fun e => e)).run_update (P := Try.prog) string_emb mceM strU dc (w1.heap.size + 1)
        obtain ⟨own2, hO2, hown2⟩ := hO1.cen hdc hk2 hg2 hm2 (by omega) (by omega) hC
        have hkS : Kept (fun k => k = N + 1) w1 (setBlock (((w1.alloc (.map #[] 0)).alloc (.cells #[.int .i64 0, .int .i64 0, .map (some w1.heap.size), .slice none 0 0] 81)).drew.drew) (N + 1) (.map es ck)) := (hk2.of_none (S := fun k => k = N + 1)).setBlock (m := N + 1) (fun _ => rfl) _
        have HO2 := Lib.hid hO2
        have HKS := Lib.hid hkS
        have HUP := Lib.hid hup
        have HOWN2 := Lib.hid hown2
        have hnn : N + 1 < Nf := by rw [← hNf]; exact HO1.out.cens.lt
        clear hO1 hbB1 hdc hk2 hg2 hm2 hC hO2 hkS hown2 hup
        go_region
        go_wp2_with fail
        refine wp_region_sch (fun w' => Kept (fun k => k = N + 1) w1 w') (.take 0 (.take 1 (.take 2 (.take 3 (.take 4 (.take 5 (.one 6 (.take 7 (.one 8 (.one 9 .nil)))))))))) (by kernel_rfl) (by kernel_rfl) (by kernel_rfl) (Kept.refl _ _).drew.drew ?_
        repeat (first
          | (refine sch_takeE rfl rfl ?_
             apply Exists.intro
             refine ⟨fun w' hS => ?_, fun K hK => ?_⟩
             · (have z0 := (HB1.out.kept hS (by omega)).cell 0
                have z1 := (HO1'.out.blk.kept hS (by omega)).cell 1
                have z2 := (HBF.out.kept hS (by omega)).cell 0
                simp only [List.getElem?_toArray, List.getElem?_cons_succ, List.getElem?_cons_zero] at z0 z1 z2
                clear hS
                unfold takesAt; go_simp; rfl)
             go_simp
             refine hK _ ?_
             clear hK K))
        refine sch_doK rfl rfl (fun K hK => ?_)
        go_simp
        refine hK _ _ ?_ ?_
        · repeat (first | exact Kept.refl _ _ | apply Kept.drew | apply Kept.alloc)
        clear hK K
        repeat (first
          | (refine sch_takeE rfl rfl ?_
             apply Exists.intro
             refine ⟨fun w' hS => ?_, fun K hK => ?_⟩
             · (clear hS
                unfold takesAt; go_simp; rfl)
             go_simp
             refine hK _ ?_
             clear hK K))
        refine sch_doK rfl rfl (fun K hK => ?_)
        go_simp
        refine hK _ _ ?_ ?_
        · repeat (first | exact Kept.refl _ _ | apply Kept.drew | apply Kept.alloc)
        clear hK K
        refine sch_doK rfl rfl (fun K hK => ?_)
        have hup := HUP.out
        go_simp
        refine hK _ _ HKS.out ?_
        clear hK K hup
        refine sch_nil (NoPanic.normal ?_)
        go_wp2
        go_roundg (n2 - (i + 1))
        case measure => have := HIJ.out; omega
        case rel =>
          refine ⟨i + 1, _, own2, by omega, by go_num, HO2.out, ⟨?_, ?_⟩, (HK.out.trans HK1.out.of_none (fun _ _ e => e)).trans HKS.out (fun _ _ e => e)⟩
          · rw [List.map_append, HFR.out.1, List.take_add_one, HFI.out, List.map_append]; rfl
          · intro p hp
            rcases List.mem_append.1 hp with hp | hp
            · exact HFR.out.2 p hp
            · obtain rfl := List.mem_singleton.1 hp
              exact ⟨rfl, rfl, rfl, rfl⟩
    · obtain rfl : i = n2 := by omega
      have hfr2 : Fresh fs cs := by rw [← hn2, List.take_length] at hfr; exact hfr
      have HFR2 := Lib.hid hfr2
      have hkr : Kept noBlock w wr := HKW.out.trans hk (fun k h e => by omega)
      have HKR := Lib.hid hkr
      clear hij hfr hk hbB hO hfr2 hkr HFR HIJ
      go_wp2_with fail
      go_at_call 17
      refine (HW.out wr HKR.out).mono ?_
      rintro e w2 ⟨vl, rfl, hrow, hk2⟩
      have hO2 := HO1.out.kept hk2 (fun _ h => False.elim h)
      have hvl : ∀ k, vl.ownBlock = some k → own k = .m := fun k e => HO1.out.top k (own_type hrow e).1
      obtain ⟨A3, c3, rfl, -, -⟩ := (Sl.of_own hrow).shape
      have hbB2 := (HBB.out.kept HK.out (by omega)).kept hk2 (fun e => e)
      have hob : own (N + 1 + 1 + 1) = .m := by
        have h1 := HBB.out.lt
        cases ho : own (N + 1 + 1 + 1) with
        | m => rfl
        | _ => exact absurd (HO1.out.far (N + 1 + 1 + 1) (by rw [ho]; simp)) (by omega)
      have hod : own D = .m := by
        have h1 := lt_of_heap HD.out
        cases ho : own D with
        | m => rfl
        | _ => exact absurd (HO1.out.far D (by rw [ho]; simp)) (by omega)
      have HROW := Lib.hid hrow
      have HO2 := Lib.hid hO2
      have HVL := Lib.hid hvl
      have HBB2 := Lib.hid hbB2
      have HK2 := Lib.hid (HKR.out.trans hk2 (fun _ _ e => e))
      have hd2 : w2.heap[D]? = some (.deferred (some [])) := (hk2.block D (Nat.lt_of_lt_of_le (lt_of_heap HD.out) HK.out.size) (fun e => e)).trans ((HK.out.block D (lt_of_heap HD.out) (fun e => HNDn e)).trans HD.out)
      have HD2 := Lib.hid hd2
      have hw2N : N ≤ w2.heap.size := by have := (HKR.out.trans hk2 (fun _ _ e => e)).size; omega
      have HFAR := Lib.hid HO1.out.far
      have HWN : Hid (w.heap.size ≤ W.heap.size) := Lib.hid HKW.out.size
      have HOB := Lib.hid hob
      have HOD := Lib.hid hod
      have hlen := (Sl.of_own hrow).run_len strsT
      clear hrow hk2 hO2 hvl hbB2 hob hod hd2 HO1 HKR y0 y1
      go_wp2_with fail
      go_loopg [70] l.length (fun j vi wr => ∃ (i : Nat) (cs' : List (ByteArray × Cr)) (own' : Nat → Own), i + j = l.length ∧ vi = .int .i64 (i : Nat) ∧ ChO wr W.heap.size (N + 1 + 1) N (N + 1) (smOf zs.reverse) cs' [] own' (.slice none 0 0) ∧ Step own own' w2 wr ∧ cs' = countAll (smOf zs.reverse) (l.take i) cs ∧ (∀ h ∈ l.take i, ∃ s, aget h (smOf zs.reverse) = some s) ∧ (∀ p ∈ cs', 0 ≤ p.2.need ∧ p.2.need ≤ i))
      case atStart => exact ⟨0, cs, own, by omega, rfl, HO2.out, .of_none (Kept.refl _ _), rfl, fun h hh => by simp at hh, fun p hp => by rw [(HFR2.out.2 p hp).1]; simp⟩
      case round =>
        obtain ⟨q, cs3, own3, hij, rfl, hO3, hst, hcs, hall, hnd⟩ := hrel
        have HIJ := Lib.hid hij
        have HO3 := Lib.hid hO3
        have HST := Lib.hid hst
        have HCS := Lib.hid hcs
        have HALL := Lib.hid hall
        have HND := Lib.hid hnd
        have hrow3 := own_keptB HROW.out hst.1 (fun k e h => h (HVL.out k e))
        have hbB3 := HBB2.out.kept hst.1 (fun h => h HOB.out)
        have HBB3 := Lib.hid hbB3
        by_cases hql : q < l.length
        · obtain ⟨x, hx⟩ : ∃ x, l[q]? = some x := ⟨_, List.getElem?_eq_getElem hql⟩
          obtain ⟨ge, oo, hidx, hgl, hc0⟩ := str_at (Sl.of_own hrow3) hx
          have HX := Lib.hid hx
          have hw1 : IntKind.i64.wrap ((q : Int) + 1) = (q : Int) + 1 := by rw [IntKind.wrap_i64]; omega
          have y0 := hbB3.cell 0
          have y1 := hO3.blk.cell 0
          simp only [List.getElem?_toArray, List.getElem?_cons_zero] at y0 y1
          have l1 := hO3.sites.run_lookup (P := Try.prog) string_emb msiM strU (zero_site wr) x true
          cases hxs : aget x (smOf zs.reverse) with
          | none =>
            rw [hxs] at l1
            simp only [Option.map_none, Option.getD_none, Option.isSome_none, if_true] at l1
            have HXS := Lib.hid hxs
            clear hrow3 hij hO3 hst hcs hall hnd hbB3 hx hxs
            go_wp2_with fail
            have hD3 : (wr.alloc (.cells #[.string noStr, .string noStr, .string noStr] 42)).heap[D]? = some (.deferred (some [])) :=
              (((Kept.refl noBlock wr).alloc _).block D (Nat.lt_of_lt_of_le (lt_of_heap HD2.out) HST.out.1.size) (fun e => e)).trans ((HST.out.1.block D (lt_of_heap HD2.out) (fun e => e HOD.out)).trans HD2.out)
            have hkw3 : Kept noBlock w (wr.alloc (.cells #[.string noStr, .string noStr, .string noStr] 42)) := (HK2.out.trans HST.out.1 (fun k hk e => by
              rcases HFAR.out k e with e1 | e1
              · omega
              · have := HWN.out; omega)).alloc _
            refine ⟨by simp, .inl ⟨_, _, rfl, run_takeDeferred hD3, ?_⟩⟩
            exact ⟨_, results_tmp2 rfl _ _ _, hkw3.putObj (fun e => by omega) _, .inl ⟨.inr ⟨x, List.mem_of_getElem? HX.out, HXS.out⟩, rfl⟩⟩
          | some s =>
            rw [hxs] at l1
            obtain ⟨sh, sd, sr⟩ := s
            simp only [Option.map_some, Option.getD_some, Option.isSome_some, if_true, sV] at l1
            have HXS := Lib.hid hxs
            have hcnt : countAll (smOf zs.reverse) (l.take (q + 1)) cs = countH (sh, sd, sr) cs3 := by
              rw [List.take_add_one, hx]
              unfold countAll at hcs ⊢
              rw [List.foldl_append, ← hcs]
              simp only [Option.toList_some, List.foldl_cons, List.foldl_nil, hxs]
            have HCNT := Lib.hid hcnt
            have hN3 : own3 wr.heap.size = .m := hO3.top _ (Nat.le_refl _)
            have HN3 := Lib.hid hN3
            clear hrow3 hij hO3 hst hcs hall hnd hbB3 hx hxs hcnt hN3
            go_wp2_with fail
            have hk1 : Kept noBlock wr (wr.alloc (.cells #[.string sh, .string sd, .string sr] 42)) := (Kept.refl noBlock wr).alloc _
            have hbs : Blk (wr.alloc (.cells #[.string sh, .string sd, .string sr] 42)) wr.heap.size 42 #[.string sh, .string sd, .string sr] := Blk.new _ _ _
            have hO1 := HO3.out.kept hk1 (fun _ h => False.elim h)
            have hbB1 := HBB3.out.kept hk1 (fun e => e)
            generalize wr.alloc (.cells #[.string sh, .string sd, .string sr] 42) = w1 at *
            generalize hNr : wr.heap.size = Nr at *
            have s1 := hbs.cell 1
            have s2 := hbs.cell 2
            have z1 := hO1.blk.cell 1
            have y0 := hbB1.cell 0
            simp only [List.getElem?_toArray, List.getElem?_cons_succ, List.getElem?_cons_zero] at s1 s2 z1 y0
            have l2 := hO1.cens.drew.run_lookup (P := Try.prog) string_emb mceM strU (zero_cen w1.drew) sd false
            have HO1 := Lib.hid hO1
            have HK1 := Lib.hid hk1
            have HBS := Lib.hid hbs
            have hallq : ∀ h ∈ l.take (q + 1), ∃ s, aget h (smOf zs.reverse) = some s := by
              intro h hh
              rw [List.take_add_one, HX.out] at hh
              rcases List.mem_append.1 hh with hh | hh
              · exact HALL.out h hh
              · obtain rfl : h = x := by simpa using hh
                exact ⟨_, HXS.out⟩
            have HALLQ := Lib.hid hallq
            clear hallq
            cases hdc : aget sd cs3 with
            | none =>
              rw [cen_none hdc] at l2
              simp only [Option.map_none, Option.getD_none, Bool.false_eq_true, if_false] at l2
              have HDC := Lib.hid hdc
              clear hO1 hk1 hbs hbB1 hdc
              go_region
              go_wp2_with fail
              go_roundg (l.length - (q + 1))
              case measure => have := HIJ.out; omega
              case rel =>
                refine ⟨q + 1, cs3, own3, by have := HIJ.out; omega, by go_num, HO1.out.kept (Kept.refl noBlock w1).drew (fun _ h => False.elim h), (HST.out.trans (.of_none HK1.out)).trans (.of_none (Kept.refl noBlock w1).drew), ?_, HALLQ.out, fun p hp => by have := HND.out p hp; omega⟩
                rw [HCNT.out]
                unfold countH
                rw [HDC.out]
            | some c =>
              rw [cen_some hO1.nd hdc] at l2
              simp only [Option.map_some, Option.getD_some, Bool.false_eq_true, if_false] at l2
              have HDC := Lib.hid hdc
              have hcn := HND.out _ (aget_mem hdc)
              simp only at hcn
              have hwn : IntKind.i64.wrap (c.need + 1) = c.need + 1 := by rw [IntKind.wrap_i64]; omega
              have HCN := Lib.hid hcn
              obtain ⟨vw, hcr⟩ := hO1.cr (sd, c) (aget_mem hdc)
              have zc0 := hcr.blk.cell 0
              have fz0 := hcr.blk.frozen 0
              simp only [List.getElem?_toArray, List.getElem?_cons_zero] at zc0
              obtain ⟨hO2, hst2⟩ := hO1.needs (c.need + 1) hdc hcr
              have hd2 : aget sd (aput sd { c with need := c.need + 1 } cs3) = some { c with need := c.need + 1 } := by rw [aget_aput, if_pos rfl]
              obtain ⟨vw2, hcr2⟩ := hO2.cr (sd, { c with need := c.need + 1 }) (aget_mem hd2)
              have hbs2 := hbs.kept hst2.1 (fun h => h HN3.out)
              have HO2 := Lib.hid hO2
              have HST2 := Lib.hid hst2
              have HCR2 := Lib.hid hcr2
              have HD2c := Lib.hid hd2
              have HBS2 := Lib.hid hbs2
              clear hO1 hk1 hbs hbB1 hdc hcn hcr hO2 hst2 hd2 hcr2 hbs2
              go_region
              go_wp2_with fail
              generalize w1.setCell ⟨c.g, 0, none⟩ (.int .i64 (c.need + 1)) = w4 at *
              clear zc0 fz0 s1 s2 z1 y0 l2
              have y2 : w4.cell? ⟨c.g, 2, none⟩ = some (.map (some c.mr)) := HCR2.out.blk.cell 2
              have s2 := HBS2.out.cell 2
              simp only [List.getElem?_toArray, List.getElem?_cons_succ, List.getElem?_cons_zero] at s2
              have hm3 : SMap w4.drew.drew c.mr c.racks := HCR2.out.map.drew.drew
              obtain ⟨es, ck, hup, hm4⟩ := hm3.run_update (P := Try.prog) string_emb msbM strU sr false
              obtain ⟨hc4, hk4⟩ := (HO2.out.kept (Kept.refl noBlock w4).drew.drew (fun _ h => False.elim h)).racks HD2c.out (HCR2.out.kept (own' := own3) (Kept.refl noBlock w4).drew.drew (fun _ _ h => False.elim h) (fun _ _ => rfl)) hm4
              rw [aput_aput] at hc4
              have HC4 := Lib.hid hc4
              have HK4 := Lib.hid ((((HST.out.trans (.of_none HK1.out)).trans HST2.out).trans (.of_none (Kept.refl noBlock w4).drew.drew)).trans hk4)
              clear hm3 hm4 hc4 hk4
              go_region
              go_wp2_with fail
              go_roundg (l.length - (q + 1))
              case measure => have := HIJ.out; omega
              case rel =>
                refine ⟨q + 1, _, own3, by have := HIJ.out; omega, by go_num, HC4.out, HK4.out, ?_, HALLQ.out, fun p hp => ?_⟩
                · rw [HCNT.out]
                  unfold countH
                  rw [HDC.out]
                · rcases mem_aput HO1.out.nd hp with rfl | ⟨hp, -⟩
                  · have := HCN.out
                    show 0 ≤ c.need + 1 ∧ c.need + 1 ≤ _
                    omega
                  · have := HND.out p hp; omega
        · obtain rfl : q = l.length := by omega
          rw [List.take_length] at hcs hall
          have hkeys : cs3.map (·.1) = fs.map (·.1) := by rw [hcs, countAll_keys]; exact HFR2.out.1
          have hnodf : (fs.map (·.1)).Nodup := hkeys ▸ hO3.nd
          have HCS3 := Lib.hid hcs
          have HALL3 := Lib.hid hall
          have HKEYS := Lib.hid hkeys
          have HNODF := Lib.hid hnodf
          have HND3 : Hid (∀ p ∈ cs3, 0 ≤ p.2.need ∧ p.2.need ≤ 200) := Lib.hid fun p hp => by have := hnd p hp; omega
          clear hij hO3 hcs hall hnd hrow3 hbB3 hkeys hnodf HCS HALL HND HIJ hst
          go_wp2_with fail
          go_loopg [110] i (fun j vi wx => ∃ (k : Nat) (cs' : List (ByteArray × Cr)) (own' : Nat → Own), k + j = i ∧ vi = .int .i64 (k : Nat) ∧ ChO wx W.heap.size (N + 1 + 1) N (N + 1) (smOf zs.reverse) cs' [] own' (.slice none 0 0) ∧ Step own own' w2 wx ∧ cs' = needAll (fs.take k) cs3 ∧ (∀ p ∈ cs', -9223372036854775808 ≤ p.2.need ∧ p.2.need < 9223372036854775808))
          case atStart => exact ⟨0, cs3, own3, by omega, rfl, HO3.out, HST.out, rfl, fun p hp => by have := HND3.out p hp; omega⟩
          case round =>
            obtain ⟨k, cs4, own4, hij, rfl, hO4, hst, hcs, hnd⟩ := hrel
            have HIJ := Lib.hid hij
            have HO4 := Lib.hid hO4
            have HST4 := Lib.hid hst
            have HCS := Lib.hid hcs
            have HND := Lib.hid hnd
            have hbB4 := HBB2.out.kept hst.1 (fun h => h HOB.out)
            have HBB4 := Lib.hid hbB4
            by_cases hki : k < i
            · obtain ⟨f, hfi⟩ : ∃ f, fs[k]? = some f := ⟨_, List.getElem?_eq_getElem (by omega)⟩
              have hfw : SlK wr (fun g _ => g < w.heap.size) 2 (.slice A2 i c2) i (fs.flatMap fC) := (HF.out.keptAll HK2.out fun _ _ _ h => h).keptAll hst.1 fun g e hg h => by
                rcases HFAR.out g h with e1 | e1
                · omega
                · have := HWN.out; omega
              obtain ⟨ge, oo, hidx, hgl, q0, q1⟩ := fac_at hfw hfi
              obtain ⟨dc, fn⟩ := f
              simp only at q0 q1
              have hdin : dc ∈ cs4.map (·.1) := by
                rw [hcs, needAll_keys, HKEYS.out]
                exact List.mem_map.2 ⟨_, List.mem_of_getElem? hfi, rfl⟩
              obtain ⟨⟨dc', c⟩, hmc, rfl⟩ := List.mem_map.1 hdin
              have hdc := aget_of_mem hO4.nd hmc
              have hcn := hnd _ hmc
              simp only at hcn hdc q0
              have hfnb := HFN.out _ (List.mem_of_getElem? hfi)
              have hnx : needAll (fs.take (k + 1)) cs3 = aput dc' { c with need := max (min c.need fn) 0 } cs4 := by
                rw [List.take_add_one, hfi]
                unfold needAll at hcs ⊢
                rw [List.foldl_append, ← hcs]
                show needF (dc', fn) cs4 = _
                unfold needF
                simp only []
                rw [hdc]
              have HNX := Lib.hid hnx
              have HDC := Lib.hid hdc
              have HCN := Lib.hid hcn
              have HFNB := Lib.hid hfnb
              have hN4 : own4 wr.heap.size = .m := hO4.top _ (Nat.le_refl _)
              have HN4 := Lib.hid hN4
              have hw1 : IntKind.i64.wrap ((k : Int) + 1) = (k : Int) + 1 := by rw [IntKind.wrap_i64]; omega
              clear hij hO4 hst hcs hnd hbB4 hfi hfw hdin hmc hdc hcn hfnb hnx hN4
              go_wp2_with fail
              have hk1 : Kept noBlock wr (wr.alloc (.cells #[.string dc', .int .i64 fn] 45)) := (Kept.refl noBlock wr).alloc _
              have hbf : Blk (wr.alloc (.cells #[.string dc', .int .i64 fn] 45)) wr.heap.size 45 #[.string dc', .int .i64 fn] := Blk.new _ _ _
              have hO1 := HO4.out.kept hk1 (fun _ h => False.elim h)
              have hbB1 := HBB4.out.kept hk1 (fun e => e)
              generalize wr.alloc (.cells #[.string dc', .int .i64 fn] 45) = w1 at *
              generalize hNr : wr.heap.size = Nr at *
              have s0 := hbf.cell 0
              have s1 := hbf.cell 1
              have z1 := hO1.blk.cell 1
              have y0 := hbB1.cell 0
              simp only [List.getElem?_toArray, List.getElem?_cons_succ, List.getElem?_cons_zero] at s0 s1 z1 y0
              have l2 := hO1.cens.drew.run_lookup (P := Try.prog) string_emb mceM strU (zero_cen w1.drew) dc' false
              rw [cen_some hO1.nd HDC.out] at l2
              simp only [Option.map_some, Option.getD_some, Bool.false_eq_true, if_false] at l2
              obtain ⟨vw, hcr⟩ := hO1.cr (dc', c) (aget_mem HDC.out)
              have zc0 := hcr.blk.cell 0
              have fz0 := hcr.blk.frozen 0
              simp only [List.getElem?_toArray, List.getElem?_cons_zero] at zc0
              obtain ⟨hO2, hst2⟩ := (hO1.kept (Kept.refl noBlock w1).drew.drew (fun _ h => False.elim h)).needs (max (min c.need fn) 0) HDC.out (hcr.kept (own' := own4) (Kept.refl noBlock w1).drew.drew (fun _ _ h => False.elim h) (fun _ _ => rfl))
              have FINO := Lib.hid hO2
              have FINS := Lib.hid (((HST4.out.trans (.of_none hk1)).trans (.of_none (Kept.refl noBlock w1).drew.drew)).trans hst2)
              have FINN : Hid (∀ p ∈ aput dc' { c with need := max (min c.need fn) 0 } cs4, -9223372036854775808 ≤ p.2.need ∧ p.2.need < 9223372036854775808) := Lib.hid fun p hp => by
                rcases mem_aput hO1.nd hp with rfl | ⟨hp, -⟩
                · have h1 := HCN.out
                  have h2 := HFNB.out
                  show -9223372036854775808 ≤ max (min c.need fn) 0 ∧ max (min c.need fn) 0 < _
                  omega
                · exact HND.out p hp
              clear hO1 hk1 hbf hbB1 hcr hO2 hst2
              go_region
              go_wp2_with fail
              go_region
              go_wp2_with fail
              go_roundg (i - (k + 1))
              case measure => have := HIJ.out; omega
              case rel => exact ⟨k + 1, _, own4, by have := HIJ.out; omega, by go_num, FINO.out, FINS.out, HNX.out.symm, FINN.out⟩
            · obtain rfl : k = i := by omega
              rw [← hn2, List.take_length] at hcs
              have HCS4 := Lib.hid hcs
              have hzero : Zero cs4 := by
                rw [hcs, HCS3.out]
                exact .need _ (.count _ ⟨HFR2.out.1 ▸ HNODF.out, fun p hp => ⟨(HFR2.out.2 p hp).2.1, (HFR2.out.2 p hp).2.2.2⟩⟩)
              have HZERO := Lib.hid hzero
              clear hij hO4 hst hcs hnd hbB4 HND HCS HIJ hzero
              go_wp2_with fail
              have hrow4 := own_keptB HROW.out HST4.out.1 (fun k e h => h (HVL.out k e))
              go_loopg [135] l.length (fun j vi wx => ∃ (p : Nat) (cs' : List (ByteArray × Cr)) (out' : List ByteArray) (own' : Nat → Own) (vo' : Value), p + j = l.length ∧ vi = .int .i64 (p : Nat) ∧ ChO wx W.heap.size (N + 1 + 1) N (N + 1) (smOf zs.reverse) cs' out' own' vo' ∧ Step own own' w2 wx ∧ (cs', out') = hostAll (smOf zs.reverse) (l.take p) cs4 ∧ Bd p cs' out')
              case atStart => exact ⟨0, cs4, [], own4, _, by omega, rfl, HO4.out, HST4.out, rfl, by simp, fun p hp => by have := HZERO.out.2 p hp; rw [this.1, this.2]; simp⟩
              case round =>
                obtain ⟨p, cs5, out5, own5, vo5, hij, rfl, hO5, hst, hho, hbd⟩ := hrel
                have HIJ := Lib.hid hij
                have HO5 := Lib.hid hO5
                have HST5 := Lib.hid hst
                have HHO := Lib.hid hho
                have HBD := Lib.hid hbd
                have hbB5 := HBB2.out.kept hst.1 (fun h => h HOB.out)
                have y0 := hbB5.cell 0
                have hrow5 := own_keptB HROW.out hst.1 (fun k e h => h (HVL.out k e))
                simp only [List.getElem?_toArray, List.getElem?_cons_zero] at y0
                by_cases hpl : p < l.length
                · obtain ⟨x, hx⟩ : ∃ x, l[p]? = some x := ⟨_, List.getElem?_eq_getElem hpl⟩
                  obtain ⟨ge, oo, hidx, hgl, hc0⟩ := str_at (Sl.of_own hrow5) hx
                  obtain ⟨s, hs⟩ := HALL3.out x (List.mem_of_getElem? hx)
                  have hsn := hostAll_snoc (cs := cs4) hx hs
                  rw [← hho] at hsn
                  have HSN := Lib.hid hsn
                  have HH := Lib.hid (rhost_at hO5 hs hbd (by omega))
                  have HBD2 := Lib.hid (hbd.step hO5.nd s x)
                  have hw1 : IntKind.i64.wrap ((p : Int) + 1) = (p : Int) + 1 := by rw [IntKind.wrap_i64]; omega
                  clear hij hO5 hst hho hbd hbB5 hrow5 hx hs hsn hrow4
                  go_wp2_with fail
                  go_at_call 29
                  refine HH.out.mono ?_
                  rintro e w7 ⟨rfl, own7, vo7, hO7, hst7⟩
                  have HO7 := Lib.hid hO7
                  have HST7 := Lib.hid (HST5.out.trans hst7)
                  clear hO7 hst7
                  go_wp2
                  go_roundg (l.length - (p + 1))
                  case measure => have := HIJ.out; omega
                  case rel => exact ⟨p + 1, _, _, own7, vo7, by have := HIJ.out; omega, by go_num, HO7.out, HST7.out, HSN.out.symm, HBD2.out⟩
                · obtain rfl : p = l.length := by omega
                  rw [List.take_length] at hho
                  have z2 := hO5.blk.cell 2
                  simp only [List.getElem?_toArray, List.getElem?_cons_succ, List.getElem?_cons_zero] at z2
                  have hD5 : wr.heap[D]? = some (.deferred (some [])) := (hst.1.block D (lt_of_heap HD2.out) (fun e => e HOD.out)).trans HD2.out
                  have HD5 := Lib.hid hD5
                  have HHO2 := Lib.hid hho
                  clear hij hO5 hst hho hbd hbB5 hrow5 hrow4 hD5
                  go_wp2_with fail
                  have hkw5 : Kept noBlock w wr := HK2.out.trans HST5.out.1 (fun k hk e => by
                    rcases HFAR.out k e with e1 | e1
                    · omega
                    · have := HWN.out; omega)
                  have hol : out5.length ≤ 40200 := by
                    have h1 := HBD.out.1
                    have h2 : l.length * (l.length + 1) ≤ 200 * 201 := Nat.mul_le_mul hll (by omega)
                    omega
                  refine ⟨by simp, .inl ⟨_, _, rfl, run_takeDeferred HD5.out, ?_⟩⟩
                  refine ⟨_, results_tmp2 rfl _ _ _, hkw5.putObj (fun e => by omega) _, .inr ⟨HNODF.out, HALL3.out, out5, _, ⟨cs, HFR2.out, ?_⟩, rfl, ?_, hol⟩⟩
                  · rw [← HCS3.out, ← HCS4.out, ← HHO2.out]
                  · exact Sl.of_own (own_keptB HO5.out.row ((Kept.refl (fun k => k = D) wr).putObj (fun _ => rfl) _) (fun k e e2 => by
                      have h1 := HO5.out.ow k e
                      subst e2
                      rw [HST5.out.2 _ (lt_of_heap HD2.out), HOD.out] at h1
                      cases h1))
end Go.Proofs.Ytjdjfikeiphgpaa

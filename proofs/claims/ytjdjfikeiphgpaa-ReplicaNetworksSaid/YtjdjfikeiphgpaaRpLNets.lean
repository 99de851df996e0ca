/- ReplicaNetworks: hosts of any centers and racks, from any token on, are the document's, or refused: it answers true. -/
import Derived.Test.YtjdjfikeiphgpaaRpAwake
import Derived.Test.YtjdjfikeiphgpaaRgSame
namespace Go.Proofs.Ytjdjfikeiphgpaa
set_option linter.unusedVariables false
open Go.RowKit

theorem s4C_step {zs : List Si} {i : Nat} {s : Si} (h : zs[i]? = some s) : (zs.take (i + 1)).flatMap s4C = (zs.take i).flatMap s4C ++ s4C s := by rw [List.take_add_one, h, List.flatMap_append]; simp
theorem fC_step {fs : List Fa} {i : Nat} {s : Fa} (h : fs[i]? = some s) : (fs.take (i + 1)).flatMap fC = (fs.take i).flatMap fC ++ fC s := by rw [List.take_add_one, h, List.flatMap_append]; simp

set_option maxHeartbeats 4000000 in
set_option maxRecDepth 100000 in
theorem Networks_walk (vv vs vf : Value) (l : List Pl) (t : Int) (zs : List Si) (fs : List Fa) (w : World) (hv : Lo w w.heap.size 2 vv l.length (l.flatMap pC)) (hs : Lo w w.heap.size 3 vs zs.length (zs.flatMap sC)) (hf : Lo w w.heap.size 2 vf fs.length (fs.flatMap fC)) (hfn : ∀ f ∈ fs, -9223372036854775808 ≤ f.2 ∧ f.2 < 9223372036854775808) :
    Calls Try.prog 4 #[vv, .int .i64 t, vs, vf] w fun e w' => e = .returned (.bool true) ∧ Kept noBlock w w' := by
  obtain ⟨A, cap, rfl, -, hcap⟩ := hv.shape
  obtain ⟨As, cs, rfl, -, -⟩ := hs.shape
  obtain ⟨Af, cf, rfl, -, -⟩ := hf.shape
  have hlen := hv.run_len psT
  have hlens := hs.run_len sitesT
  have hlenf := hf.run_len facsT
  have HV := Lib.hid hv
  have HS := Lib.hid hs
  have HF := Lib.hid hf
  have HFN := Lib.hid hfn
  have hbl : l.length ≤ 9223372036854775807 ∧ zs.length ≤ 9223372036854775807 ∧ fs.length ≤ 9223372036854775807 := by
    obtain ⟨_, A', c', e, h1, h2, _⟩ := hv
    obtain ⟨_, A', c', e, h3, h4, _⟩ := hs
    obtain ⟨_, A', c', e, h5, h6, _⟩ := hf
    unfold maxLen at h2 h4 h6; omega
  obtain ⟨hb1, hb2, hb3⟩ := hbl
  clear hv hs hf hfn
  go_enter Try.func4, Try.ntmps4
  go_wp2_with fail
  go_at_call 8
  refine (aw14_at w).mono ?_
  rintro e w1 ⟨rfl, hk1⟩
  have HV1 := Lib.hid (SlK.keptNone HV.out hk1)
  have HS1 := Lib.hid (SlK.keptNone HS.out hk1)
  have HF1 := Lib.hid (SlK.keptNone HF.out hk1)
  have HK1 := Lib.hid hk1
  clear hk1 HV HS HF
  by_cases h30 : 30 < l.length
  · go_wp2
    go_ret
    exact ⟨rfl, HK1.out⟩
  by_cases h31 : 30 < zs.length
  · go_wp2
    go_ret
    exact ⟨rfl, HK1.out⟩
  by_cases h6 : 6 < fs.length
  · go_wp2
    go_ret
    exact ⟨rfl, HK1.out⟩
  go_wp2_with fail
  go_at_call 9
  refine (Rnew_view HV1.out (by omega)).mono ?_
  rintro e w2 ⟨p, code, S, rfl, hrs, hrv, -, hk2⟩
  have HV2 := Lib.hid (SlK.keptNone HV1.out hk2)
  have HS2 := Lib.hid (SlK.keptNone HS1.out hk2)
  have HF2 := Lib.hid (SlK.keptNone HF1.out hk2)
  have HK2 := Lib.hid (HK1.out.trans hk2 (fun _ _ h => h))
  have HRS := Lib.hid hrs
  have HRV := Lib.hid hrv
  have hsl := hrs.len
  clear hk2 hrs hrv HV1 HK1 HS1 HF1
  go_wp2_with fail
  go_at_call 11
  refine (model_at HV2.out (by omega)).mono ?_
  rintro e w3 ⟨v3, rfl, hs3, hk3⟩
  obtain ⟨A3, c3, rfl, -, -⟩ := hs3.shape
  have HS3 := Lib.hid hs3
  have HRV3 := Lib.hid (HRV.out.kept hk3)
  have HZ3 := Lib.hid (SlK.keptNone HS2.out hk3)
  have HF3 := Lib.hid (SlK.keptNone HF2.out hk3)
  have HK3 := Lib.hid (HK2.out.trans hk3 (fun _ _ h => h))
  clear hs3 hk3 HRV HV2 HK2 HS2 HF2
  go_wp2_with fail
  go_at_call 10
  refine (R3New_view HS3.out (by omega)).mono ?_
  rintro e w4 ⟨v4, code', S', rfl, hrs', hs4, hk4⟩
  obtain ⟨rfl, rfl⟩ := RS.uniq HRS.out hrs'
  obtain ⟨A4, c4, rfl, -, -⟩ := hs4.shape
  have HS4 := Lib.hid hs4
  have HRV4 := Lib.hid (HRV3.out.kept hk4)
  have HZ4 := Lib.hid (SlK.keptNone HZ3.out hk4)
  have HF4 := Lib.hid (SlK.keptNone HF3.out hk4)
  have HK4 := Lib.hid (HK3.out.trans hk4 (fun _ _ h => h))
  have HRI := Lib.hid HRS.out.rising
  have hrl := rwalk_len S t
  clear hs4 hk4 hrs' HRV3 HK3 HS3 HZ3 HF3
  go_wp2_with fail
  go_loopg [14, 16] zs.length (fun j vo vi wr => ∃ i : Nat, i + j = zs.length ∧ vi = .int .i64 i ∧ wr.ownsRow w4.heap.size 43 3 vo i ((zs.take i).flatMap s4C) ∧ Kept noBlock w4 wr)
  case atStart => exact ⟨0, by omega, rfl, World.ownsRow_nil _ _ _ _, Kept.refl _ _⟩
  case round =>
    obtain ⟨i, hij, rfl, hown, hk⟩ := hrel
    have HIJ := Lib.hid hij
    have HO := Lib.hid hown
    have HK := Lib.hid hk
    have hz := hk.size
    by_cases hlt : i < zs.length
    · obtain ⟨s, hp⟩ : ∃ s, zs[i]? = some s := ⟨_, List.getElem?_eq_getElem hlt⟩
      obtain ⟨g, off, hidx, hgl, hc0, hc1, hc2⟩ := si_at HZ4.out hp
      have HNX := Lib.hid (s4C_step hp)
      obtain ⟨sh, sd, sr⟩ := s
      simp only at hc0 hc1 hc2
      clear hij hown hk hp
      go_wp2_with fail
      refine wp_region_sch (fun w' => Kept noBlock w4 w') (.take 0 (.take 1 (.take 2 (.take 3 (.take 4 (.take 5 (.take 6 (.take 7 (.take 8 (.take 9 (.take 10 (.take 11 (.take 12 (.take 13 (.take 14 (.take 15 (.take 16 (.one 17 (.one 18 (.take 19 .nil)))))))))))))))))))) (by kernel_rfl) (by kernel_rfl) (by kernel_rfl) HK.out.drew ?_
      repeat (first
        | (refine sch_takeE rfl rfl ?_
           apply Exists.intro
           refine ⟨fun w' hS => ?_, fun K hK => ?_⟩
           · (have z0 := (hS.cell (p := ⟨g, off, none⟩) hgl (fun h => h)).trans hc0
              have z1 := (hS.cell (p := ⟨g, off + 1, none⟩) hgl (fun h => h)).trans hc1
              have z2 := (hS.cell (p := ⟨g, off + 2, none⟩) hgl (fun h => h)).trans hc2
              clear hS
              unfold takesAt; go_simp; rfl)
           go_simp
           refine hK _ ?_
           clear hK K))
      refine sch_doK rfl rfl (fun K hK => ?_)
      go_simp
      refine hK _ _ ((HK.out.alloc _).drew) ?_
      clear hK K
      refine sch_doK rfl rfl (fun K hK => ?_)
      refine wp_append_sl _ s4sT (.tmp 55) (.tmp 72) rfl w4.heap.size _ i ((zs.take i).flatMap s4C) rfl ((World.ownsRow.alloc HO.out (.cells #[.string sh, .string sd, .string sr] 43)).drew) _ 1 [.string sh, .string sd, .string sr] rfl (Sl.made_at (Blk.drew (Blk.new wr 43 #[.string sh, .string sd, .string sr])) _ rfl rfl one_max) (by simp [Value.oneCell']) ?c1 ?c2 ?_
      case c1 => omega
      case c2 => simp; omega
      intro v' w5 hap
      have hk5 := hap.below ((World.ownsRow.alloc HO.out (.cells #[.string sh, .string sd, .string sr] 43)).drew) ((HK.out.alloc (.cells #[.string sh, .string sd, .string sr] 43)).drew) (Nat.le_refl _)
      have HK5 := Lib.hid hk5
      have HO5 := Lib.hid hap.own
      refine hK _ _ hk5 ?_
      clear hK K hk5 hap
      repeat (first
        | (refine sch_takeE rfl rfl ?_
           apply Exists.intro
           refine ⟨fun w' hS => ?_, fun K hK => ?_⟩
           · (unfold takesAt; go_simp; rfl)
           go_simp
           refine hK _ ?_
           clear hK K))
      refine sch_nil (NoPanic.normal ?_)
      go_wp2
      go_roundg (zs.length - (i + 1))
      case measure => have := HIJ.out; omega
      case rel =>
        refine ⟨i + 1, by have := HIJ.out; omega, by go_num, ?_, HK5.out⟩
        rw [HNX.out]
        exact HO5.out
    · obtain rfl : i = zs.length := by omega
      rw [List.take_length] at hown
      have hs5 := Sl.of_own hown
      obtain ⟨A5, c5, rfl, -, -⟩ := hs5.shape
      have HS5 := Lib.hid hs5
      have HS4' := Lib.hid (SlK.keptNone HS4.out hk)
      have HRV5 := Lib.hid (HRV4.out.kept hk)
      have HZ5 := Lib.hid (SlK.keptNone HZ4.out hk)
      have HF5 := Lib.hid (SlK.keptNone HF4.out hk)
      have HK5 := Lib.hid (HK4.out.trans hk (fun _ _ h => h))
      obtain ⟨w5, hw5⟩ : ∃ w5, w5 = wr := ⟨_, rfl⟩
      subst hw5
      clear hij hown hk hs5 hz HO HK HIJ HS4 HRV4 HZ4 HF4 HK4
      go_wp2_with fail
      go_loopg [15, 17] fs.length (fun j vo vi wr => ∃ i : Nat, i + j = fs.length ∧ vi = .int .i64 i ∧ wr.ownsRow w5.heap.size 46 2 vo i ((fs.take i).flatMap fC) ∧ Kept noBlock w5 wr)
      case atStart => exact ⟨0, by omega, rfl, World.ownsRow_nil _ _ _ _, Kept.refl _ _⟩
      case round =>
        obtain ⟨i, hij, rfl, hown, hk⟩ := hrel
        have HIJ := Lib.hid hij
        have HO := Lib.hid hown
        have HK := Lib.hid hk
        have hz := hk.size
        by_cases hlt : i < fs.length
        · obtain ⟨s, hp⟩ : ∃ s, fs[i]? = some s := ⟨_, List.getElem?_eq_getElem hlt⟩
          obtain ⟨g, off, hidx, hgl, hc0, hc1⟩ := fac_at HF5.out hp
          have HNX := Lib.hid (fC_step hp)
          obtain ⟨fd, fn⟩ := s
          simp only at hc0 hc1
          clear hij hown hk hp
          go_wp2_with fail
          refine wp_region_sch (fun w' => Kept noBlock w5 w') (.take 0 (.take 1 (.take 2 (.take 3 (.take 4 (.take 5 (.take 6 (.take 7 (.take 8 (.take 9 (.take 10 (.take 11 (.one 12 (.one 13 (.take 14 .nil))))))))))))))) (by kernel_rfl) (by kernel_rfl) (by kernel_rfl) HK.out.drew ?_
          repeat (first
            | (refine sch_takeE rfl rfl ?_
               apply Exists.intro
               refine ⟨fun w' hS => ?_, fun K hK => ?_⟩
               · (have z0 := (hS.cell (p := ⟨g, off, none⟩) hgl (fun h => h)).trans hc0
                  have z1 := (hS.cell (p := ⟨g, off + 1, none⟩) hgl (fun h => h)).trans hc1
                  clear hS
                  unfold takesAt; go_simp; rfl)
               go_simp
               refine hK _ ?_
               clear hK K))
          refine sch_doK rfl rfl (fun K hK => ?_)
          go_simp
          refine hK _ _ ((HK.out.alloc _).drew) ?_
          clear hK K
          refine sch_doK rfl rfl (fun K hK => ?_)
          refine wp_append_sl _ f4sT (.tmp 80) (.tmp 92) rfl w5.heap.size _ i ((fs.take i).flatMap fC) rfl ((World.ownsRow.alloc HO.out (.cells #[.string fd, .int .i64 fn] 46)).drew) _ 1 [.string fd, .int .i64 fn] rfl (Sl.made_at (Blk.drew (Blk.new wr 46 #[.string fd, .int .i64 fn])) _ rfl rfl one_max) (by simp [Value.oneCell']) ?c1 ?c2 ?_
          case c1 => omega
          case c2 => simp; omega
          intro v' w6 hap
          have hk6 := hap.below ((World.ownsRow.alloc HO.out (.cells #[.string fd, .int .i64 fn] 46)).drew) ((HK.out.alloc (.cells #[.string fd, .int .i64 fn] 46)).drew) (Nat.le_refl _)
          have HK6 := Lib.hid hk6
          have HO6 := Lib.hid hap.own
          refine hK _ _ hk6 ?_
          clear hK K hk6 hap
          repeat (first
            | (refine sch_takeE rfl rfl ?_
               apply Exists.intro
               refine ⟨fun w' hS => ?_, fun K hK => ?_⟩
               · (unfold takesAt; go_simp; rfl)
               go_simp
               refine hK _ ?_
               clear hK K))
          refine sch_nil (NoPanic.normal ?_)
          go_wp2
          go_roundg (fs.length - (i + 1))
          case measure => have := HIJ.out; omega
          case rel =>
            refine ⟨i + 1, by have := HIJ.out; omega, by go_num, ?_, HK6.out⟩
            rw [HNX.out]
            exact HO6.out
        · obtain rfl : i = fs.length := by omega
          rw [List.take_length] at hown
          have hs6 := Sl.of_own hown
          obtain ⟨A6, c6, rfl, -, -⟩ := hs6.shape
          have HS6 := Lib.hid hs6
          have HS46 := Lib.hid (SlK.keptNone HS4'.out hk)
          have HS56 := Lib.hid (SlK.keptNone HS5.out hk)
          have HNV := Lib.hid (Network_view (t := t) (HRV5.out.kept hk) HRI.out (by omega) (SlK.keptNone HZ5.out hk) (SlK.keptNone HF5.out hk) (by omega) (by omega) HFN.out)
          have HK6 := Lib.hid (HK5.out.trans hk (fun _ _ h => h))
          obtain ⟨w6, hw6⟩ : ∃ w6, w6 = wr := ⟨_, rfl⟩
          subst hw6
          clear hij hown hk hs6 hz HO HK HIJ HS4' HRV5 HZ5 HF5 HK5 HS5
          go_wp2_with fail
          go_at_call 15
          refine HNV.out.mono ?_
          rintro e w7 ⟨hk7, hnv⟩
          have HR4 := Lib.hid (r4Network_in (t := t) (rv := .slice A4 S.length c4) (l := rwalk S t) (L := zs) (fs := fs) (SlK.keptNone HS56.out hk7) (SlK.keptNone HS6.out hk7) (rwalk_nodup S t) (R3Walk_at (SlK.keptNone HS46.out hk7) HRI.out (by omega)) (by omega) (by omega) (by omega))
          have HK7 := Lib.hid (HK6.out.trans hk7 (fun _ _ h => h))
          rcases hnv with ⟨h1, rfl⟩ | ⟨h1, h2, A7, n7, c7, out, rfl, hn7, hnb, hs7, ho7, -⟩
          · have H1 := Lib.hid h1
            clear h1 hk7
            go_wp2_with fail
            go_at_call 16
            refine HR4.out.mono ?_
            rintro e w8 ⟨hk8, ⟨-, rfl⟩ | ⟨h3, h4, -⟩⟩
            case inr =>
              exfalso
              rcases H1.out with h5 | ⟨x, hx, h5⟩
              · exact h5 h3
              · obtain ⟨s, h6⟩ := h4 x hx
                rw [h6] at h5; cases h5
            have HK8 := Lib.hid (HK7.out.trans hk8 (fun _ _ h => h))
            have HSM := Lib.hid (same_at (w := w8) (l := []) (Sl.nil _ _ _) (Sl.nil _ _ _) (by decide))
            clear hk8
            go_wp2_with fail
            go_at_call 12
            refine HSM.out.mono ?_
            rintro e w9 ⟨rfl, nq, rfl⟩
            go_wp2
            go_ret
            exact ⟨rfl, HK8.out.trans ((Kept.refl noBlock w8).drewN nq) (fun _ _ h => h)⟩
          · have H1 := Lib.hid h1
            have H2 := Lib.hid h2
            have HS7 := Lib.hid hs7
            have HO7 := Lib.hid ho7
            have HN7 := Lib.hid hn7
            clear h1 h2 hk7 hs7 ho7 hn7
            go_wp2_with fail
            go_at_call 16
            refine HR4.out.mono ?_
            rintro e w8 ⟨hk8, ⟨h3, -⟩ | ⟨-, -, v8, n8, rfl, hs8⟩⟩
            · exfalso
              rcases h3 with h5 | ⟨x, hx, h5⟩
              · exact h5 H1.out
              · obtain ⟨s, h6⟩ := H2.out x hx
                rw [h6] at h5; cases h5
            rw [← HO7.out] at hs8
            have hn8 : n8 = out.length := by
              have := hs8.len
              simpa using this.symm
            have HK8 := Lib.hid (HK7.out.trans hk8 (fun _ _ h => h))
            have HSM := Lib.hid (same_at (w := w8) (l := out) (by rw [← HN7.out]; exact SlK.keptNone HS7.out hk8) (by rw [← hn8]; exact hs8) (by rw [← HN7.out]; omega))
            clear hk8 hs8 hn8
            go_wp2_with fail
            go_at_call 12
            refine HSM.out.mono ?_
            rintro e w9 ⟨rfl, nq, rfl⟩
            go_wp2
            go_ret
            exact ⟨rfl, HK8.out.trans ((Kept.refl noBlock w8).drewN nq) (fun _ _ h => h)⟩
end Go.Proofs.Ytjdjfikeiphgpaa

/- slices.CompactFunc at a ring's places, walked. -/
import Derived.Test.YtjkmgpmknadhjaaGreatRgComp
namespace Go.Proofs.YtjkmgpmknadhjaaGreat
set_option linter.unusedVariables false
open Go.RowKit

/-- No two tokens side by side are one. -/
def apart (L : List Pl) : Prop := ∀ (i : Nat) p q, L[i]? = some p → L[i + 1]? = some q → p.1 ≠ q.1
def CompPost (w : World) (v : Value) (L : List Pl) (e : Ending) (w' : World) : Prop :=
  ∃ A m c, e = .returned (.slice A m c) ∧ m ≤ L.length ∧ (apart L → m = L.length) ∧ (¬ apart L → m < L.length) ∧ Kept (fun i => v.ownBlock = some i) w w'

set_option maxHeartbeats 4000000 in
set_option maxRecDepth 100000 in
theorem PCompact_at {w : World} {base : Nat} {v : Value} {L : List Pl} (hown : w.ownsRow base 54 2 v L.length (L.flatMap pC)) (hn : L.length ≤ 1000000) :
    Calls Tryz.prog 44 #[v, .func (.func 43) #[] #[]] w (CompPost w v L) := by
  by_cases h2 : L.length < 2
  · have hap : apart L := fun i p q hp hq => by
      have := (List.getElem?_eq_some_iff.1 hq).1
      omega
    have HAP := Lib.hid hap
    obtain ⟨A, c, rfl, -, -⟩ := (Sl.of_own hown).shape
    clear hown hap
    go_enter Tryz.func44, Tryz.ntmps44
    go_wp2
    go_ret
    exact ⟨A, _, c, rfl, Nat.le_refl _, fun _ => rfl, fun e => absurd HAP.out e, Kept.refl _ _⟩
  · obtain ⟨g, cap, rfl⟩ := own_pos hown (by omega)
    have hcap : L.length ≤ cap ∧ 0 < cap := by
      obtain ⟨_, h⟩ := hown
      rcases h with ⟨h0, _⟩ | ⟨g', cap', cur, h0, _, _, hc, _⟩
      · cases h0
      · cases h0; omega
    obtain ⟨hcap1, hcap2⟩ := hcap
    have hgl := (hown.lt g rfl).2
    have H := Lib.hid hown
    have eg : ∀ args w, (callFunc 43 args).run Tryz.prog w = .ok (.enter 43 args) w := enters_of Tryz.func43 (by kernel_rfl) rfl
    have idx := fun i hi => pl_idx0 (g := g) (c := cap) (n := L.length) (i := i) hi
    clear hown
    generalize hln : L.length = n at *
    have HLN := Lib.hid hln
    clear hln
    go_enter Tryz.func44, Tryz.ntmps44
    go_wp2_with fail
    go_loopg [5] n (fun j vk wr => ∃ k : Nat, 1 ≤ k ∧ k ≤ n ∧ k + j = n + 1 ∧ vk = .int .i64 k ∧ (∀ (i : Nat) p q, i + 1 < k → L[i]? = some p → L[i + 1]? = some q → p.1 ≠ q.1) ∧ Kept noBlock w wr ∧ wr.ownsRow base 54 2 (.slice (some ⟨g, 0, none⟩) n cap) n (L.flatMap pC))
    case atStart => exact ⟨1, Nat.le_refl _, by omega, by omega, rfl, fun i p q hi => by omega, Kept.refl _ _, H.out⟩
    case round =>
      obtain ⟨k, hk1, hkle, hkn, rfl, hap, hk, hrow⟩ := hrel
      clear H
      have HKN := Lib.hid hkn
      have HAP := Lib.hid hap
      have HK := Lib.hid hk
      have HROW := Lib.hid hrow
      have hgr := (hrow.lt g rfl).2
      by_cases hlt : k < n
      · obtain ⟨p, hp⟩ : ∃ p, L[k]? = some p := ⟨_, List.getElem?_eq_getElem (by rw [HLN.out]; exact hlt)⟩
        obtain ⟨q, hq⟩ : ∃ q, L[k - 1]? = some q := ⟨_, List.getElem?_eq_getElem (by rw [HLN.out]; omega)⟩
        obtain ⟨q0, q1⟩ := row_cells hrow hp
        obtain ⟨q2, q3⟩ := row_cells hrow hq
        have i0 := idx k hlt
        have i1 : ∀ kd w', (Instr.indexAt 43 (.slice (some ⟨g, 0, none⟩) n cap) (.int kd ((k : Int) - 1))).run Tryz.prog w' = .ok (.pointer (some ⟨g, (k - 1) * 2, none⟩)) w' := by
          have := idx (k - 1) (by omega)
          rw [show ((k - 1 : Nat) : Int) = (k : Int) - 1 by omega] at this
          exact this
        have hw : IntKind.i64.wrap ((k : Int) - 1) = (k : Int) - 1 := by rw [IntKind.wrap_i64]; omega
        have HP := Lib.hid hp
        have HQ := Lib.hid hq
        clear hp hq hap hk hrow hkn
        obtain ⟨p1, p2⟩ := p
        obtain ⟨r1, r2⟩ := q
        simp only at q0 q1 q2 q3
        by_cases hdup : p1 = r1
        · subst hdup
          have hcl : ∀ W, Calls Tryz.prog 43 #[.agg #[.int .i64 p1, .string p2], .agg #[.int .i64 p1, .string r2]] W fun e w' => e = .returned (.bool true) ∧ Grew W w' := fun W => (Rnew3_at (p1, p2) (p1, r2) W).mono fun e w' h => ⟨by rw [h.1]; simp, h.2⟩
          go_wp2_with fail
          refine wp_region_sch (fun w' => Grew wr w') (.take 0 (.take 1 (.take 2 (.take 3 (.take 4 (.take 5 (.take 6 (.take 7 (.take 8 (.take 9 (.one 10 .nil))))))))))) (by kernel_rfl) (by kernel_rfl) (by kernel_rfl) (Grew.refl _).drew ?_
          repeat (first
            | (refine sch_takeE rfl rfl ?_
               apply Exists.intro
               refine ⟨fun w' hS => ?_, fun K hK => ?_⟩
               · (have hq := hS.kept
                  have z0 := (hq.cell (p := ⟨g, k * 2, none⟩) (by simp only; omega) (fun h => h)).trans q0
                  have z1 := (hq.cell (p := ⟨g, k * 2 + 1, none⟩) (by simp only; omega) (fun h => h)).trans q1
                  have z2 := (hq.cell (p := ⟨g, (k - 1) * 2, none⟩) (by simp only; omega) (fun h => h)).trans q2
                  have z3 := (hq.cell (p := ⟨g, (k - 1) * 2 + 1, none⟩) (by simp only; omega) (fun h => h)).trans q3
                  clear hq hS
                  unfold takesAt; go_simp; rfl)
               go_simp
               refine hK _ ?_
               clear hK K))
          refine sch_doK rfl rfl (fun K hK => ?_)
          go_simp
          go_at_fn 43
          refine (hcl _).mono ?_
          rintro e w4 ⟨rfl, hg4⟩
          have hg5 := (Grew.refl wr).drew.trans hg4
          refine hK _ _ hg5 ?_
          clear hK K
          refine sch_nil (NoPanic.normal ?_)
          have HK4 := Lib.hid (HK.out.trans hg5.kept (fun _ _ h => h))
          have HROW4 : Hid (w4.ownsRow base 54 2 (.slice (some ⟨g, 0, none⟩) n cap) n (L.flatMap pC)) := Lib.hid (own_kept HROW.out hg5.kept (fun _ _ h => h.elim))
          clear hg4 hg5 q0 q1 q2 q3
          have hfrom := pl_from0 (g := g) (n := n) (c := cap) (k := k) hlt hcap1
          have HNOT : Hid (¬ apart L) := Lib.hid (fun e => e (k - 1) (p1, r2) (p1, p2) HQ.out (by rw [show k - 1 + 1 = k by omega]; exact HP.out) rfl)
          have hnl : (L.length : Nat) = n := HLN.out
          go_wp2_with fail
          go_loopg [5, 7] (n - k - 1) (fun j vk v2 wx => ∃ (kk k2 : Nat) (M : List Pl), vk = .int .i64 kk ∧ v2 = .int .i64 k2 ∧ 1 ≤ k2 ∧ k2 + j = n - k ∧ kk + 1 ≤ k + k2 ∧ Kept (fun i => i = g) w wx ∧ wx.ownsRow base 54 2 (.slice (some ⟨g, 0, none⟩) n cap) n (M.flatMap pC))
          case atStart => exact ⟨k, 1, L, rfl, rfl, Nat.le_refl _, by omega, by omega, HK4.out.of_none, HROW4.out⟩
          case round =>
            obtain ⟨kk, k2, M, rfl, rfl, hk21, hk2j, hkk, hkx, hrx⟩ := hrel
            have hml : M.length = n := by have := hrx.1; rw [pC_len] at this; omega
            have HK2J := Lib.hid hk2j
            have HKX := Lib.hid hkx
            have HRX := Lib.hid hrx
            have hgx := (hrx.lt g rfl).2
            clear HK4 HROW4 HROW HK
            by_cases hlt2 : k2 < n - k
            · obtain ⟨p, hp⟩ : ∃ p, M[k + k2]? = some p := ⟨_, List.getElem?_eq_getElem (by omega)⟩
              obtain ⟨q, hq⟩ : ∃ q, M[k + (k2 - 1)]? = some q := ⟨_, List.getElem?_eq_getElem (by omega)⟩
              obtain ⟨o, ho⟩ : ∃ o, M[kk]? = some o := ⟨_, List.getElem?_eq_getElem (by omega)⟩
              obtain ⟨q0, q1⟩ := row_cells hrx hp
              obtain ⟨q2, q3⟩ := row_cells hrx hq
              obtain ⟨q4, q5⟩ := row_cells hrx ho
              rw [Nat.add_mul] at q0 q1 q2 q3
              have hfz := fun j => hrx.frozenAt j
              have j0 := pl_idx (g := g) (o := k * 2) (c := cap - k) hlt2
              have j1 : ∀ kd w', (Instr.indexAt 43 (.slice (some ⟨g, k * 2, none⟩) (n - k) (cap - k)) (.int kd ((k2 : Int) - 1))).run Tryz.prog w' = .ok (.pointer (some ⟨g, k * 2 + (k2 - 1) * 2, none⟩)) w' := by
                have := pl_idx (g := g) (o := k * 2) (n := n - k) (c := cap - k) (i := k2 - 1) (by omega)
                rw [show ((k2 - 1 : Nat) : Int) = (k2 : Int) - 1 by omega] at this
                exact this
              have j2 := idx kk (by omega)
              have hw2 : IntKind.i64.wrap ((k2 : Int) - 1) = (k2 : Int) - 1 := by rw [IntKind.wrap_i64]; omega
              clear hp hq ho hkx hrx hk2j
              obtain ⟨p1', p2'⟩ := p
              obtain ⟨r1', r2'⟩ := q
              obtain ⟨o1, o2⟩ := o
              simp only at q0 q1 q2 q3 q4 q5
              by_cases hd2 : p1' = r1'
              · subst hd2
                have hcl : ∀ W, Calls Tryz.prog 43 #[.agg #[.int .i64 p1', .string p2'], .agg #[.int .i64 p1', .string r2']] W fun e w' => e = .returned (.bool true) ∧ Grew W w' := fun W => (Rnew3_at (p1', p2') (p1', r2') W).mono fun e w' h => ⟨by rw [h.1]; simp, h.2⟩
                have hlt3 : (k2 : Int) < ((n - k : Nat) : Int) := by omega
                go_wp2_with fail
                refine wp_region_sch (fun w' => Grew wr w') (.take 0 (.take 1 (.take 2 (.take 3 (.take 4 (.take 5 (.take 6 (.take 7 (.take 8 (.take 9 (.one 10 (.take 11 .nil)))))))))))) (by kernel_rfl) (by kernel_rfl) (by kernel_rfl) (Grew.refl _).drew ?_
                repeat (first
                  | (refine sch_takeE rfl rfl ?_
                     apply Exists.intro
                     refine ⟨fun w' hS => ?_, fun K hK => ?_⟩
                     · (have hq := hS.kept
                        have z0 := (hq.cell (p := ⟨g, k * 2 + k2 * 2, none⟩) (by simp only; omega) (fun h => h)).trans q0
                        have z1 := (hq.cell (p := ⟨g, k * 2 + k2 * 2 + 1, none⟩) (by simp only; omega) (fun h => h)).trans q1
                        have z2 := (hq.cell (p := ⟨g, k * 2 + (k2 - 1) * 2, none⟩) (by simp only; omega) (fun h => h)).trans q2
                        have z3 := (hq.cell (p := ⟨g, k * 2 + (k2 - 1) * 2 + 1, none⟩) (by simp only; omega) (fun h => h)).trans q3
                        clear hq hS
                        unfold takesAt; go_simp; rfl)
                     go_simp
                     refine hK _ ?_
                     clear hK K))
                refine sch_doK rfl rfl (fun K hK => ?_)
                go_simp
                go_at_fn 43
                refine (hcl _).mono ?_
                rintro e w6 ⟨rfl, hg6⟩
                have hg7 := (Grew.refl wr).drew.trans hg6
                refine hK _ _ hg7 ?_
                clear hK K
                repeat (first
                  | (refine sch_takeE rfl rfl ?_
                     apply Exists.intro
                     refine ⟨fun w' hS => ?_, fun K hK => ?_⟩
                     · (unfold takesAt; go_simp; rfl)
                     go_simp
                     refine hK _ ?_
                     clear hK K))
                refine sch_nil (NoPanic.normal ?_)
                have HK6 := Lib.hid (HKX.out.trans hg7.kept (fun _ _ h => h.elim))
                have hrow6 := own_kept HRX.out hg7.kept (fun _ _ h => h.elim)
                have HROW6 := Lib.hid hrow6
                have z0 := (hg7.kept.cell (p := ⟨g, k * 2 + k2 * 2, none⟩) hgx (fun h => h)).trans q0
                have z1 := (hg7.kept.cell (p := ⟨g, k * 2 + k2 * 2 + 1, none⟩) hgx (fun h => h)).trans q1
                have z4 := (hg7.kept.cell (p := ⟨g, kk * 2, none⟩) hgx (fun h => h)).trans q4
                have z5 := (hg7.kept.cell (p := ⟨g, kk * 2 + 1, none⟩) hgx (fun h => h)).trans q5
                have hfz6 := fun j => hrow6.frozenAt j
                clear hg6 hg7 q0 q1 q2 q3 q4 q5 hfz hrow6
                go_wp2
                go_roundg (n - k - (k2 + 1))
                case measure => have := HK2J.out; omega
                case rel =>
                  have hk2j := HK2J.out
                  exact ⟨kk, k2 + 1, M, rfl, by go_num, by omega, by omega, by omega, HK6.out, HROW6.out⟩
              · have hcl : ∀ W, Calls Tryz.prog 43 #[.agg #[.int .i64 p1', .string p2'], .agg #[.int .i64 r1', .string r2']] W fun e w' => e = .returned (.bool false) ∧ Grew W w' := fun W => (Rnew3_at (p1', p2') (r1', r2') W).mono fun e w' h => ⟨by rw [h.1]; simp [hd2], h.2⟩
                have hlt3 : (k2 : Int) < ((n - k : Nat) : Int) := by omega
                go_wp2_with fail
                refine wp_region_sch (fun w' => Grew wr w') (.take 0 (.take 1 (.take 2 (.take 3 (.take 4 (.take 5 (.take 6 (.take 7 (.take 8 (.take 9 (.one 10 (.take 11 .nil)))))))))))) (by kernel_rfl) (by kernel_rfl) (by kernel_rfl) (Grew.refl _).drew ?_
                repeat (first
                  | (refine sch_takeE rfl rfl ?_
                     apply Exists.intro
                     refine ⟨fun w' hS => ?_, fun K hK => ?_⟩
                     · (have hq := hS.kept
                        have z0 := (hq.cell (p := ⟨g, k * 2 + k2 * 2, none⟩) (by simp only; omega) (fun h => h)).trans q0
                        have z1 := (hq.cell (p := ⟨g, k * 2 + k2 * 2 + 1, none⟩) (by simp only; omega) (fun h => h)).trans q1
                        have z2 := (hq.cell (p := ⟨g, k * 2 + (k2 - 1) * 2, none⟩) (by simp only; omega) (fun h => h)).trans q2
                        have z3 := (hq.cell (p := ⟨g, k * 2 + (k2 - 1) * 2 + 1, none⟩) (by simp only; omega) (fun h => h)).trans q3
                        clear hq hS
                        unfold takesAt; go_simp; rfl)
                     go_simp
                     refine hK _ ?_
                     clear hK K))
                refine sch_doK rfl rfl (fun K hK => ?_)
                go_simp
                go_at_fn 43
                refine (hcl _).mono ?_
                rintro e w6 ⟨rfl, hg6⟩
                have hg7 := (Grew.refl wr).drew.trans hg6
                refine hK _ _ hg7 ?_
                clear hK K
                repeat (first
                  | (refine sch_takeE rfl rfl ?_
                     apply Exists.intro
                     refine ⟨fun w' hS => ?_, fun K hK => ?_⟩
                     · (unfold takesAt; go_simp; rfl)
                     go_simp
                     refine hK _ ?_
                     clear hK K))
                refine sch_nil (NoPanic.normal ?_)
                have HK6 := Lib.hid (HKX.out.trans hg7.kept (fun _ _ h => h.elim))
                have hrow6 := own_kept HRX.out hg7.kept (fun _ _ h => h.elim)
                have HROW6 := Lib.hid hrow6
                have z0 := (hg7.kept.cell (p := ⟨g, k * 2 + k2 * 2, none⟩) hgx (fun h => h)).trans q0
                have z1 := (hg7.kept.cell (p := ⟨g, k * 2 + k2 * 2 + 1, none⟩) hgx (fun h => h)).trans q1
                have z4 := (hg7.kept.cell (p := ⟨g, kk * 2, none⟩) hgx (fun h => h)).trans q4
                have z5 := (hg7.kept.cell (p := ⟨g, kk * 2 + 1, none⟩) hgx (fun h => h)).trans q5
                have hfz6 := fun j => hrow6.frozenAt j
                clear hg6 hg7 q0 q1 q2 q3 q4 q5 hfz hrow6
                go_wp2
                go_roundg (n - k - (k2 + 1))
                case measure => have := HK2J.out; omega
                case rel =>
                  have hk2j := HK2J.out
                  refine ⟨kk + 1, k2 + 1, M.set kk (p1', p2'), by go_num, by go_num, by omega, by omega, by omega, (HK6.out.setCell (p := ⟨g, kk * 2, none⟩) (fun _ => rfl) _).setCell (p := ⟨g, kk * 2 + 1, none⟩) (fun _ => rfl) _, row_store HROW6.out (p1', p2') (by omega)⟩
            · obtain rfl : k2 = n - k := by have := HK2J.out; omega
              have hfrom2 := pl_from0 (g := g) (n := n) (c := cap) (k := kk) (by omega) hcap1
              have hto2 := pl_to (g := g) (o := 0) (n := n) (c := cap) (k := kk) (by omega) hcap1 hcap2
              have hclr := fun ty => run_clear_row hrx (k := kk) (by omega) ty
              have HK8 := Lib.hid (hkx.trans (setCells_kept g (Builtin.zeroCells #[.int .i64 0, .string noStr] (n - kk)).toList (kk * 2) wr) (fun _ _ h => h))
              have hkkn : kk < n := by omega
              have hlt3 : ¬ ((n - k : Nat) : Int) < ((n - k : Nat) : Int) := by omega
              clear hkx hrx HRX hk2j HKX
              go_wp2
              go_ret
              refine ⟨_, _, _, rfl, by rw [HLN.out]; omega, fun e => absurd e HNOT.out, fun _ => by rw [HLN.out]; exact hkkn, HK8.out.mono fun i _ e => by simp [Value.ownBlock, e]⟩
        · skip
          have hcl : ∀ W, Calls Tryz.prog 43 #[.agg #[.int .i64 p1, .string p2], .agg #[.int .i64 r1, .string r2]] W fun e w' => e = .returned (.bool false) ∧ Grew W w' := fun W => (Rnew3_at (p1, p2) (r1, r2) W).mono fun e w' h => ⟨by rw [h.1]; simp [hdup], h.2⟩
          go_wp2_with fail
          refine wp_region_sch (fun w' => Grew wr w') (.take 0 (.take 1 (.take 2 (.take 3 (.take 4 (.take 5 (.take 6 (.take 7 (.take 8 (.take 9 (.one 10 .nil))))))))))) (by kernel_rfl) (by kernel_rfl) (by kernel_rfl) (Grew.refl _).drew ?_
          repeat (first
            | (refine sch_takeE rfl rfl ?_
               apply Exists.intro
               refine ⟨fun w' hS => ?_, fun K hK => ?_⟩
               · (have hq := hS.kept
                  have z0 := (hq.cell (p := ⟨g, k * 2, none⟩) (by simp only; omega) (fun h => h)).trans q0
                  have z1 := (hq.cell (p := ⟨g, k * 2 + 1, none⟩) (by simp only; omega) (fun h => h)).trans q1
                  have z2 := (hq.cell (p := ⟨g, (k - 1) * 2, none⟩) (by simp only; omega) (fun h => h)).trans q2
                  have z3 := (hq.cell (p := ⟨g, (k - 1) * 2 + 1, none⟩) (by simp only; omega) (fun h => h)).trans q3
                  clear hq hS
                  unfold takesAt; go_simp; rfl)
               go_simp
               refine hK _ ?_
               clear hK K))
          refine sch_doK rfl rfl (fun K hK => ?_)
          go_simp
          go_at_fn 43
          refine (hcl _).mono ?_
          rintro e w4 ⟨rfl, hg4⟩
          have hg5 := (Grew.refl wr).drew.trans hg4
          refine hK _ _ hg5 ?_
          clear hK K
          refine sch_nil (NoPanic.normal ?_)
          have HK4 := Lib.hid (HK.out.trans hg5.kept (fun _ _ h => h))
          have HROW4 : Hid (w4.ownsRow base 54 2 (.slice (some ⟨g, 0, none⟩) n cap) n (L.flatMap pC)) := Lib.hid (own_kept HROW.out hg5.kept (fun _ _ h => h.elim))
          clear hg4 hg5 q0 q1 q2 q3
          go_wp2
          go_roundg (n - k)
          case measure => have := HKN.out; omega
          case rel =>
            have hkn := HKN.out
            refine ⟨k + 1, by omega, by omega, by omega, by go_num, fun i p q hi hp hq => ?_, HK4.out, HROW4.out⟩
            by_cases e : i + 1 < k
            · exact HAP.out i p q e hp hq
            · obtain rfl : i = k - 1 := by omega
              rw [show k - 1 + 1 = k by omega, HP.out] at hq
              rw [HQ.out] at hp
              injection hp with hp
              injection hq with hq
              subst hp; subst hq
              exact fun e => hdup e.symm
      · obtain rfl : k = n := by omega
        go_wp2
        go_ret
        refine ⟨_, _, _, rfl, by rw [HLN.out]; exact Nat.le_refl _, fun _ => HLN.out.symm, fun e => absurd (fun i p q hp hq => hap i p q (by have := (List.getElem?_eq_some_iff.1 hq).1; rw [HLN.out] at this; exact this) hp hq) e, hk.of_none⟩
end Go.Proofs.YtjkmgpmknadhjaaGreat

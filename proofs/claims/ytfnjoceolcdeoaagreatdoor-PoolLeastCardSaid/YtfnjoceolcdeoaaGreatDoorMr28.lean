/- prims: a value at the beginning. -/
import Derived.Test.YtfnjoceolcdeoaaGreatDoorMr27
namespace Go.Proofs.YtfnjoceolcdeoaaGreatDoor
set_option linter.unusedVariables false
open Go.RowKit

theorem OwnB.far {ty t : TypeId} {w : World} {B g n c : Nat} {A : Option Addr} {l : List UInt8} {cs : Array Value} (h : OwnB ty w B A n c l) (hb : Blk w g t cs) (ht : t ≠ ty) (i : Nat) (u : Value) : OwnB ty (w.setCell ⟨g, i, none⟩ u) B A n c l :=
  ⟨h.1, h.2.keep fun k cs' e' fz he hk => (Below.heap_setCell w ⟨g, i, none⟩ u k (by
    rintro rfl
    unfold Blk at hb
    rw [hb] at hk
    injection hk with hk
    injection hk with _ h2
    exact ht (h2.trans he.2))).trans hk⟩
theorem pGetValue_ret {W : World} {T : Array Value} {M : Nat} {a0 a1 b c : Value} {R : Ending → World → Prop} (h2 : T.getD 2 undef = .pointer (some ⟨M, 0, none⟩)) (h3 : T.getD 3 undef = b) (h4 : T.getD 4 undef = c) (d0 : W.cell? ⟨M, 0, none⟩ = some a0) (d1 : W.cell? ⟨M, 1, none⟩ = some a1)
    (hR : R (.returned (.tuple #[.agg #[a0, a1], b, c])) W) : bodyPost Tryz.prog Tryz.f180 R .ret { tmps := T, defers := [] } W := by
  have h2' : T[2]?.getD undef = .pointer (some ⟨M, 0, none⟩) := by simpa using h2
  have h3' : T[3]?.getD undef = b := by simpa using h3
  have h4' : T[4]?.getD undef = c := by simpa using h4
  exact bodyPost_ret (v := .tuple #[.agg #[a0, a1], b, c]) (by simp [results, Tryz.results180, go_sem, h2', h3', h4', d0, d1]) rfl hR

set_option maxHeartbeats 2000000 in
set_option maxRecDepth 100000 in
theorem pGetValue_at {w : World} {v : Value} {n : Nat} {l : List UInt8} (h : Sl w 5 1 v n (bsC l)) (hn : n ≤ 1000000) :
    Calls Tryz.prog 180 #[v] w (GetPost w (fun _ e => e = 5) (.agg #[.int .i64 0, .slice none 0 0]) (vlR 5) (getValP l)) := by
  have hln : l.length = n := by have := h.len; rw [bsC_len] at this; omega
  have HLN := Lib.hid hln
  have HB0 := Lib.hid (Blk.new w 139 #[.int .i64 0, .slice none 0 0])
  have HK0 := Lib.hid ((Kept.refl noBlock w).alloc (.cells #[.int .i64 0, .slice none 0 0] 139))
  have h0 := SlK.alloc h (.cells #[.int .i64 0, .slice none 0 0] 139)
  clear hln h
  by_cases hs : n < 4
  · have HR : Hid (getValP l = none) := Lib.hid (by unfold getValP; rw [if_pos (by have := HLN.out; omega)])
    have HG := Lib.hid (pNumber_short h0 hs)
    clear h0
    go_enter Tryz.func180, Tryz.ntmps180
    go_wp2_with fail
    go_at_call 201
    refine HG.out.mono ?_
    rintro e w2 ⟨rfl, hw⟩
    have HKx : Hid (Kept noBlock (w.alloc (.cells #[.int .i64 0, .slice none 0 0] 139)) w2) := Lib.hid (hw ▸ Kept.refl noBlock _)
    clear hw
    have hbM := HB0.out.kept HKx.out (fun e => e)
    have m0 := hbM.cell 0
    have m1 := hbM.cell 1
    have mf0 := hbM.frozen 0
    have mf1 := hbM.frozen 1
    simp only [List.getElem?_toArray, List.getElem?_cons_zero, List.getElem?_cons_succ] at m0 m1
    have HBM := Lib.hid hbM
    clear hbM
    go_wp2
    have hbe := (HBM.out.set_ 0 (.int .i64 0)).set_ 1 (.slice none 0 0)
    refine pGetValue_ret (M := w.heap.size) (a0 := (.int .i64 0)) (a1 := (.slice none 0 0)) (b := .slice none 0 0) (c := (.int .i64 10)) rfl rfl rfl (hbe.cell 0) (hbe.cell 1) ?_
    have hke := ((HK0.out.trans HKx.out fun _ _ e => e).setCell (p := ⟨w.heap.size, 0, none⟩) (fun h => absurd h (Nat.lt_irrefl _)) (.int .i64 0)).setCell (p := ⟨w.heap.size, 1, none⟩) (fun h => absurd h (Nat.lt_irrefl _)) (.slice none 0 0)
    exact GetPost.bad hke HR.out (by decide) rfl
  · have HG := Lib.hid (pNumber_at h0 (by omega))
    have hsb := s32_lt (l := l)
    have HU : Hid (getValP l = valS (s32 (beN (l.take 4))) (l.drop 4)) := Lib.hid (by unfold getValP; rw [if_neg (by have := HLN.out; omega)])
    have HL4 : Hid ((l.drop 4).length = n - 4) := Lib.hid (by rw [List.length_drop, HLN.out])
    clear h0
    generalize s32 (beN (l.take 4)) = q at *
    by_cases h2 : q = -2
    · subst h2
      have HR : Hid (getValP l = some ((1, []), l.drop 4)) := Lib.hid (HU.out.trans (by unfold valS; rw [if_pos rfl]))
      go_enter Tryz.func180, Tryz.ntmps180
      go_wp2_with fail
      go_at_call 201
      refine HG.out.mono ?_
      rintro e w2 ⟨A, c, rfl, hs1, hg⟩
      have HS1 := Lib.hid (SlK.keptNone hs1 hg.kept)
      have HGK := Lib.hid hg.kept
      clear hs1 hg
      have hbM := HB0.out.kept HGK.out (fun e => e)
      have m0 := hbM.cell 0
      have m1 := hbM.cell 1
      have mf0 := hbM.frozen 0
      have mf1 := hbM.frozen 1
      simp only [List.getElem?_toArray, List.getElem?_cons_zero, List.getElem?_cons_succ] at m0 m1
      have HBM := Lib.hid hbM
      clear hbM
      go_wp2
      have hbe := (HBM.out.set_ 0 (.int .i64 1)).set_ 1 (.slice none 0 0)
      refine pGetValue_ret (M := w.heap.size) (a0 := (.int .i64 1)) (a1 := (.slice none 0 0)) (b := .slice A (n - 4) c) (c := .int .i64 0) rfl rfl rfl (hbe.cell 0) (hbe.cell 1) ?_
      have hke := ((HK0.out.trans HGK.out fun _ _ e => e).setCell (p := ⟨w.heap.size, 0, none⟩) (fun h => absurd h (Nat.lt_irrefl _)) (.int .i64 1)).setCell (p := ⟨w.heap.size, 1, none⟩) (fun h => absurd h (Nat.lt_irrefl _)) (.slice none 0 0)
      exact GetPost.good hke HR.out HL4.out rfl ⟨none, 0, 0, rfl, OwnB.nil _ _ _⟩ (SlK.far (SlK.far HS1.out HBM.out (by decide) 0 (.int .i64 1)) (HBM.out.set_ 0 _) (by decide) 1 (.slice none 0 0))
    · by_cases h1 : q = -1
      · subst h1
        have HR : Hid (getValP l = some ((0, []), l.drop 4)) := Lib.hid (HU.out.trans (by unfold valS; rw [if_neg (by decide), if_pos rfl]))
        go_enter Tryz.func180, Tryz.ntmps180
        go_wp2_with fail
        go_at_call 201
        refine HG.out.mono ?_
        rintro e w2 ⟨A, c, rfl, hs1, hg⟩
        have HS1 := Lib.hid (SlK.keptNone hs1 hg.kept)
        have HGK := Lib.hid hg.kept
        clear hs1 hg
        have hbM := HB0.out.kept HGK.out (fun e => e)
        have m0 := hbM.cell 0
        have m1 := hbM.cell 1
        have mf0 := hbM.frozen 0
        have mf1 := hbM.frozen 1
        simp only [List.getElem?_toArray, List.getElem?_cons_zero, List.getElem?_cons_succ] at m0 m1
        have HBM := Lib.hid hbM
        clear hbM
        go_wp2
        have hbe := (HBM.out.set_ 0 (.int .i64 0)).set_ 1 (.slice none 0 0)
        refine pGetValue_ret (M := w.heap.size) (a0 := (.int .i64 0)) (a1 := (.slice none 0 0)) (b := .slice A (n - 4) c) (c := .int .i64 0) rfl rfl rfl (hbe.cell 0) (hbe.cell 1) ?_
        have hke := ((HK0.out.trans HGK.out fun _ _ e => e).setCell (p := ⟨w.heap.size, 0, none⟩) (fun h => absurd h (Nat.lt_irrefl _)) (.int .i64 0)).setCell (p := ⟨w.heap.size, 1, none⟩) (fun h => absurd h (Nat.lt_irrefl _)) (.slice none 0 0)
        exact GetPost.good hke HR.out HL4.out rfl ⟨none, 0, 0, rfl, OwnB.nil _ _ _⟩ (SlK.far (SlK.far HS1.out HBM.out (by decide) 0 (.int .i64 0)) (HBM.out.set_ 0 _) (by decide) 1 (.slice none 0 0))
      · have q2 : (q == -2) = false := by rw [beq_eq_false_iff_ne]; exact h2
        have q1 : (q == -1) = false := by rw [beq_eq_false_iff_ne]; exact h1
        by_cases h0 : q < 0
        · have HR : Hid (getValP l = none) := Lib.hid (HU.out.trans (by unfold valS; rw [if_neg h2, if_neg h1, if_pos h0]))
          clear h2 h1
          go_enter Tryz.func180, Tryz.ntmps180
          go_wp2_with fail
          go_at_call 201
          refine HG.out.mono ?_
          rintro e w2 ⟨A, c, rfl, hs1, hg⟩
          have HGK := Lib.hid hg.kept
          clear hs1 hg
          have hbM := HB0.out.kept HGK.out (fun e => e)
          have m0 := hbM.cell 0
          have m1 := hbM.cell 1
          have mf0 := hbM.frozen 0
          have mf1 := hbM.frozen 1
          simp only [List.getElem?_toArray, List.getElem?_cons_zero, List.getElem?_cons_succ] at m0 m1
          have HBM := Lib.hid hbM
          clear hbM
          go_wp2
          have hbe := (HBM.out.set_ 0 (.int .i64 0)).set_ 1 (.slice none 0 0)
          refine pGetValue_ret (M := w.heap.size) (a0 := (.int .i64 0)) (a1 := (.slice none 0 0)) (b := .slice none 0 0) (c := .int .i64 11) rfl rfl rfl (hbe.cell 0) (hbe.cell 1) ?_
          have hke := ((HK0.out.trans HGK.out fun _ _ e => e).setCell (p := ⟨w.heap.size, 0, none⟩) (fun h => absurd h (Nat.lt_irrefl _)) (.int .i64 0)).setCell (p := ⟨w.heap.size, 1, none⟩) (fun h => absurd h (Nat.lt_irrefl _)) (.slice none 0 0)
          exact GetPost.bad hke HR.out (by decide) rfl
        · obtain ⟨m, rfl⟩ : ∃ m : Nat, q = (m : Int) := ⟨q.toNat, by omega⟩
          have hwr : IntKind.u64.wrap (m : Int) = (m : Int) := by rw [IntKind.wrap_u64]; omega
          have HU2 : Hid (getValP l = (takeP m (l.drop 4)).map fun q => ((2, q.1), q.2)) := Lib.hid (HU.out.trans (by unfold valS; rw [if_neg h2, if_neg h1, if_neg h0, Int.toNat_natCast]))
          clear h2 h1 h0
          by_cases hl : n - 4 < m
          · have HR : Hid (getValP l = none) := Lib.hid (HU2.out.trans (by rw [takeP_none (by rw [HL4.out]; exact hl)]; rfl))
            go_enter Tryz.func180, Tryz.ntmps180
            go_wp2_with fail
            go_at_call 201
            refine HG.out.mono ?_
            rintro e w2 ⟨A, c, rfl, hs1, hg⟩
            have HT := Lib.hid (oTake_short (SlK.keptNone hs1 hg.kept) m (by omega) hl)
            have HGK := Lib.hid hg.kept
            clear hs1 hg
            go_wp2_with fail
            go_at_call 161
            refine HT.out.mono ?_
            rintro e w3 ⟨rfl, hw⟩
            subst hw
            have hbM := HB0.out.kept HGK.out (fun e => e)
            have m0 := hbM.cell 0
            have m1 := hbM.cell 1
            have mf0 := hbM.frozen 0
            have mf1 := hbM.frozen 1
            simp only [List.getElem?_toArray, List.getElem?_cons_zero, List.getElem?_cons_succ] at m0 m1
            have HBM := Lib.hid hbM
            clear hbM
            go_wp2
            have hbe := (HBM.out.set_ 0 (.int .i64 0)).set_ 1 (.slice none 0 0)
            refine pGetValue_ret (M := w.heap.size) (a0 := (.int .i64 0)) (a1 := (.slice none 0 0)) (b := .slice none 0 0) (c := (.int .i64 10)) rfl rfl rfl (hbe.cell 0) (hbe.cell 1) ?_
            have hke := ((HK0.out.trans HGK.out fun _ _ e => e).setCell (p := ⟨w.heap.size, 0, none⟩) (fun h => absurd h (Nat.lt_irrefl _)) (.int .i64 0)).setCell (p := ⟨w.heap.size, 1, none⟩) (fun h => absurd h (Nat.lt_irrefl _)) (.slice none 0 0)
            exact GetPost.bad hke HR.out (by decide) rfl
          · have HR : Hid (getValP l = some ((2, (l.drop 4).take m), (l.drop 4).drop m)) := Lib.hid (HU2.out.trans (by rw [takeP_some (by rw [HL4.out]; omega)]; rfl))
            have HLR : Hid (((l.drop 4).drop m).length = n - 4 - m) := Lib.hid (by rw [List.length_drop, HL4.out])
            have HLT : Hid (((l.drop 4).take m).length = m) := Lib.hid (by rw [List.length_take, HL4.out]; omega)
            go_enter Tryz.func180, Tryz.ntmps180
            go_wp2_with fail
            go_at_call 201
            refine HG.out.mono ?_
            rintro e w2 ⟨A, c, rfl, hs1, hg⟩
            have HT := Lib.hid (oTake_at (SlK.keptNone hs1 hg.kept) m (by omega) (by omega))
            have HGK := Lib.hid hg.kept
            clear hs1 hg
            go_wp2_with fail
            go_at_call 161
            refine HT.out.mono ?_
            rintro e w3 ⟨v3, A3, c3, rfl, ho3, hs3, hk3⟩
            obtain ⟨Ax, cx, rfl, -, -⟩ := (Sl.of_own ho3).shape
            have HK3 := Lib.hid (HGK.out.trans hk3 fun _ _ h => h)
            have hsz : w.heap.size ≤ w2.heap.size := by have := HGK.out.size; have := HK0.out.size; omega
            have HO3 : Hid (OwnB 5 w3 w.heap.size Ax m cx ((l.drop 4).take m)) := Lib.hid ⟨HLT.out.symm, (own_slk2 ho3).any fun _ _ _ e => ⟨Nat.le_trans hsz e.1, e.2⟩⟩
            have HS3 := Lib.hid hs3
            clear ho3 hk3 hs3 hsz
            have hbM := HB0.out.kept HK3.out (fun e => e)
            have m0 := hbM.cell 0
            have m1 := hbM.cell 1
            have mf0 := hbM.frozen 0
            have mf1 := hbM.frozen 1
            simp only [List.getElem?_toArray, List.getElem?_cons_zero, List.getElem?_cons_succ] at m0 m1
            have HBM := Lib.hid hbM
            clear hbM
            go_wp2
            have hbe := (HBM.out.set_ 0 (.int .i64 2)).set_ 1 (.slice Ax m cx)
            refine pGetValue_ret (M := w.heap.size) (a0 := (.int .i64 2)) (a1 := (.slice Ax m cx)) (b := .slice A3 (n - 4 - m) c3) (c := .int .i64 0) rfl rfl rfl (hbe.cell 0) (hbe.cell 1) ?_
            have hke := ((HK0.out.trans HK3.out fun _ _ e => e).setCell (p := ⟨w.heap.size, 0, none⟩) (fun h => absurd h (Nat.lt_irrefl _)) (.int .i64 2)).setCell (p := ⟨w.heap.size, 1, none⟩) (fun h => absurd h (Nat.lt_irrefl _)) (.slice Ax m cx)
            exact GetPost.good hke HR.out HLR.out rfl ⟨Ax, m, cx, rfl, (HO3.out.far HBM.out (by decide) 0 (.int .i64 2)).far (HBM.out.set_ 0 _) (by decide) 1 (.slice Ax m cx)⟩ (SlK.far (SlK.far HS3.out HBM.out (by decide) 0 (.int .i64 2)) (HBM.out.set_ 0 _) (by decide) 1 (.slice Ax m cx))
end Go.Proofs.YtfnjoceolcdeoaaGreatDoor

/- prims: an address at the beginning · Items behind their number: a loop over them, plainly. No program is named. -/
import Derived.Test.YtfnjoceolcdeoaaGreatDoorMr28
import Derived.Test.YtfnjoceolcdeoaaGreatDoorMr27
namespace Go.Proofs.YtfnjoceolcdeoaaGreatDoor
set_option linter.unusedVariables false
open Go.RowKit

theorem pGetInet_ret {W : World} {T : Array Value} {M : Nat} {a0 a1 b c : Value} {R : Ending → World → Prop} (h2 : T.getD 2 undef = .pointer (some ⟨M, 0, none⟩)) (h3 : T.getD 3 undef = b) (h4 : T.getD 4 undef = c) (d0 : W.cell? ⟨M, 0, none⟩ = some a0) (d1 : W.cell? ⟨M, 1, none⟩ = some a1)
    (hR : R (.returned (.tuple #[.agg #[a0, a1], b, c])) W) : bodyPost Tryz.prog Tryz.f220 R .ret { tmps := T, defers := [] } W := by
  have h2' : T[2]?.getD undef = .pointer (some ⟨M, 0, none⟩) := by simpa using h2
  have h3' : T[3]?.getD undef = b := by simpa using h3
  have h4' : T[4]?.getD undef = c := by simpa using h4
  exact bodyPost_ret (v := .tuple #[.agg #[a0, a1], b, c]) (by simp [results, Tryz.results220, go_sem, h2', h3', h4', d0, d1]) rfl hR

set_option maxHeartbeats 2000000 in
set_option maxRecDepth 100000 in
theorem pGetInet_at {w : World} {v : Value} {n : Nat} {l : List UInt8} (h : Sl w 5 1 v n (bsC l)) (hn : n ≤ 1000000) :
    Calls Tryz.prog 220 #[v] w (GetPost w (fun _ e => e = 5) (.agg #[.slice none 0 0, .int .u32 0]) (inR 5) (getInetP l)) := by
  have hln : l.length = n := by have := h.len; rw [bsC_len] at this; omega
  have HLN := Lib.hid hln
  have HB0 := Lib.hid (Blk.new w 44 #[.slice none 0 0, .int .u32 0])
  have HK0 := Lib.hid ((Kept.refl noBlock w).alloc (.cells #[.slice none 0 0, .int .u32 0] 44))
  have h0 := SlK.alloc h (.cells #[.slice none 0 0, .int .u32 0] 44)
  clear hln h
  by_cases hs : n < 1
  · have HR : Hid (getInetP l = none) := Lib.hid (by unfold getInetP; rw [if_pos (by have := HLN.out; omega)])
    have HG := Lib.hid (oGet_short h0 1 (by omega) (by omega) hs)
    clear h0
    go_enter Tryz.func220, Tryz.ntmps220
    go_wp2_with fail
    go_at_call 89
    refine HG.out.mono ?_
    rintro e w2 ⟨rfl, hw⟩
    have HKx : Hid (Kept noBlock (w.alloc (.cells #[.slice none 0 0, .int .u32 0] 44)) w2) := Lib.hid (hw ▸ Kept.refl noBlock _)
    clear hw
    have hbM := HB0.out.kept HKx.out (fun e => e)
    have m0 := hbM.cell 0
    have m1 := hbM.cell 1
    have mf0 := hbM.frozen 0
    have mf1 := hbM.frozen 1
    simp only [List.getElem?_toArray, List.getElem?_cons_zero, List.getElem?_cons_succ] at m0 m1
    have HBM := Lib.hid hbM
    clear hbM
    go_wp2
    have hbe := (HBM.out.set_ 0 (.slice none 0 0)).set_ 1 (.int .u32 0)
    refine pGetInet_ret (M := w.heap.size) (a0 := (.slice none 0 0)) (a1 := (.int .u32 0)) (b := .slice none 0 0) (c := (.int .i64 10)) rfl rfl rfl (hbe.cell 0) (hbe.cell 1) ?_
    have hke := ((HK0.out.trans HKx.out fun _ _ e => e).setCell (p := ⟨w.heap.size, 0, none⟩) (fun h => absurd h (Nat.lt_irrefl _)) (.slice none 0 0)).setCell (p := ⟨w.heap.size, 1, none⟩) (fun h => absurd h (Nat.lt_irrefl _)) (.int .u32 0)
    exact GetPost.bad hke HR.out (by decide) rfl
  · have HG := Lib.hid (oGet_at h0 1 (by omega) (by omega) (by omega))
    have hb : beN (l.take 1) < 256 := Nat.lt_of_lt_of_le (beN_lt _) (Nat.le_trans (Nat.pow_le_pow_right (by decide) (show (l.take 1).length ≤ 1 by rw [List.length_take]; omega)) (by decide))
    have HL1 : Hid ((l.drop 1).length = n - 1) := Lib.hid (by rw [List.length_drop, HLN.out])
    have HU : Hid (getInetP l = if beN (l.take 1) ≠ 4 ∧ beN (l.take 1) ≠ 16 then none else (takeP (beN (l.take 1)) (l.drop 1)).bind fun q => inetS q.1 q.2) := Lib.hid (by unfold getInetP; rw [if_neg (by have := HLN.out; omega)])
    clear h0
    generalize beN (l.take 1) = m at *
    have HP := Lib.hid (fun w => pLength_at (m : Int) w)
    by_cases hm : (m : Int) = 4 ∨ (m : Int) = 16
    · have HU2 : Hid (getInetP l = (takeP m (l.drop 1)).bind fun q => inetS q.1 q.2) := Lib.hid (HU.out.trans (by rw [if_neg (by omega)]))
      rw [decide_eq_true hm] at HP
      clear hm
      by_cases hl : n - 1 < m
      · have HR : Hid (getInetP l = none) := Lib.hid (HU2.out.trans (by rw [takeP_none (by rw [HL1.out]; exact hl)]; rfl))
        go_enter Tryz.func220, Tryz.ntmps220
        go_wp2_with fail
        go_at_call 89
        refine HG.out.mono ?_
        rintro e w2 ⟨A, c, rfl, hs1, hg⟩
        have HT := Lib.hid (oTake_short (SlK.keptNone hs1 hg.kept) m (by omega) hl)
        have HGK := Lib.hid hg.kept
        clear hs1 hg
        go_wp2_with fail
        go_at_call 224
        refine (HP.out _).mono ?_
        rintro e w3 ⟨rfl, hw⟩
        subst hw
        go_wp2_with fail
        go_at_call 161
        refine HT.out.mono ?_
        rintro e w3 ⟨rfl, hw⟩
        subst hw
        have hbM := HB0.out.kept HGK.out (fun e => e)
        have m0 := hbM.cell 0
        have m1 := hbM.cell 1
        have mf0 := hbM.frozen 0
        have mf1 := hbM.frozen 1
        simp only [List.getElem?_toArray, List.getElem?_cons_zero, List.getElem?_cons_succ] at m0 m1
        have HBM := Lib.hid hbM
        clear hbM
        go_wp2
        have hbe := (HBM.out.set_ 0 (.slice none 0 0)).set_ 1 (.int .u32 0)
        refine pGetInet_ret (M := w.heap.size) (a0 := (.slice none 0 0)) (a1 := (.int .u32 0)) (b := .slice none 0 0) (c := (.int .i64 10)) rfl rfl rfl (hbe.cell 0) (hbe.cell 1) ?_
        have hke := ((HK0.out.trans HGK.out fun _ _ e => e).setCell (p := ⟨w.heap.size, 0, none⟩) (fun h => absurd h (Nat.lt_irrefl _)) (.slice none 0 0)).setCell (p := ⟨w.heap.size, 1, none⟩) (fun h => absurd h (Nat.lt_irrefl _)) (.int .u32 0)
        exact GetPost.bad hke HR.out (by decide) rfl
      · have HLR : Hid (((l.drop 1).drop m).length = n - 1 - m) := Lib.hid (by rw [List.length_drop, HL1.out])
        have HLT : Hid (((l.drop 1).take m).length = m) := Lib.hid (by rw [List.length_take, HL1.out]; omega)
        have HU3 : Hid (getInetP l = inetS ((l.drop 1).take m) ((l.drop 1).drop m)) := Lib.hid (HU2.out.trans (by rw [takeP_some (by rw [HL1.out]; omega)]; rfl))
        by_cases hl4 : n - 1 - m < 4
        · have HR : Hid (getInetP l = none) := Lib.hid (HU3.out.trans (by unfold inetS; rw [if_pos (by rw [HLR.out]; exact hl4)]))
          go_enter Tryz.func220, Tryz.ntmps220
          go_wp2_with fail
          go_at_call 89
          refine HG.out.mono ?_
          rintro e w2 ⟨A, c, rfl, hs1, hg⟩
          have HT := Lib.hid (oTake_at (SlK.keptNone hs1 hg.kept) m (by omega) (by omega))
          have HGK := Lib.hid hg.kept
          clear hs1 hg
          go_wp2_with fail
          go_at_call 224
          refine (HP.out _).mono ?_
          rintro e w3 ⟨rfl, hw⟩
          subst hw
          go_wp2_with fail
          go_at_call 161
          refine HT.out.mono ?_
          rintro e w3 ⟨v3, A3, c3, rfl, ho3, hs3, hk3⟩
          have HG4 := Lib.hid (oGet_short hs3 4 (by omega) (by omega) hl4)
          have HK3 := Lib.hid (HGK.out.trans hk3 fun _ _ h => h)
          clear ho3 hs3 hk3
          go_wp2_with fail
          go_at_call 89
          refine HG4.out.mono ?_
          rintro e w4 ⟨rfl, hw⟩
          subst hw
          have hbM := HB0.out.kept HK3.out (fun e => e)
          have m0 := hbM.cell 0
          have m1 := hbM.cell 1
          have mf0 := hbM.frozen 0
          have mf1 := hbM.frozen 1
          simp only [List.getElem?_toArray, List.getElem?_cons_zero, List.getElem?_cons_succ] at m0 m1
          have HBM := Lib.hid hbM
          clear hbM
          go_wp2
          have hbe := (HBM.out.set_ 0 (.slice none 0 0)).set_ 1 (.int .u32 0)
          refine pGetInet_ret (M := w.heap.size) (a0 := (.slice none 0 0)) (a1 := (.int .u32 0)) (b := .slice none 0 0) (c := (.int .i64 10)) rfl rfl rfl (hbe.cell 0) (hbe.cell 1) ?_
          have hke := ((HK0.out.trans HK3.out fun _ _ e => e).setCell (p := ⟨w.heap.size, 0, none⟩) (fun h => absurd h (Nat.lt_irrefl _)) (.slice none 0 0)).setCell (p := ⟨w.heap.size, 1, none⟩) (fun h => absurd h (Nat.lt_irrefl _)) (.int .u32 0)
          exact GetPost.bad hke HR.out (by decide) rfl
        · have HR : Hid (getInetP l = some (((l.drop 1).take m, beN (((l.drop 1).drop m).take 4)), ((l.drop 1).drop m).drop 4)) := Lib.hid (HU3.out.trans (by unfold inetS; rw [if_neg (by rw [HLR.out]; exact hl4)]))
          have HLE : Hid ((((l.drop 1).drop m).drop 4).length = n - 1 - m - 4) := Lib.hid (by rw [List.length_drop, HLR.out])
          have hb4 := be4_lt (l := (l.drop 1).drop m)
          go_enter Tryz.func220, Tryz.ntmps220
          go_wp2_with fail
          go_at_call 89
          refine HG.out.mono ?_
          rintro e w2 ⟨A, c, rfl, hs1, hg⟩
          have HT := Lib.hid (oTake_at (SlK.keptNone hs1 hg.kept) m (by omega) (by omega))
          have HGK := Lib.hid hg.kept
          clear hs1 hg
          go_wp2_with fail
          go_at_call 224
          refine (HP.out _).mono ?_
          rintro e w3 ⟨rfl, hw⟩
          subst hw
          go_wp2_with fail
          go_at_call 161
          refine HT.out.mono ?_
          rintro e w4 ⟨v3, A3, c3, rfl, ho3, hs3, hk3⟩
          obtain ⟨Ax, cx, rfl, -, -⟩ := (Sl.of_own ho3).shape
          have HG4 := Lib.hid (oGet_at hs3 4 (by omega) (by omega) (by omega))
          have HK3 := Lib.hid (HGK.out.trans hk3 fun _ _ h => h)
          have hsz : w.heap.size ≤ w3.heap.size := by have := HGK.out.size; have := HK0.out.size; omega
          have HO3 : Hid (OwnB 5 _ w.heap.size Ax m cx ((l.drop 1).take m)) := Lib.hid ⟨HLT.out.symm, (own_slk2 ho3).any fun _ _ _ e => ⟨Nat.le_trans hsz e.1, e.2⟩⟩
          clear ho3 hs3 hk3 hsz
          generalize beN (((l.drop 1).drop m).take 4) = po at *
          go_wp2_with fail
          go_at_call 89
          refine HG4.out.mono ?_
          rintro e w5 ⟨A4, c4, rfl, hs4, hg4⟩
          have HK4 := Lib.hid (HK3.out.trans hg4.kept fun _ _ h => h)
          have HS4 := Lib.hid (SlK.keptNone hs4 hg4.kept)
          have HO4 := Lib.hid (HO3.out.kept hg4.kept (Nat.le_refl _))
          clear hs4 hg4
          have hbM := HB0.out.kept HK4.out (fun e => e)
          have m0 := hbM.cell 0
          have m1 := hbM.cell 1
          have mf0 := hbM.frozen 0
          have mf1 := hbM.frozen 1
          simp only [List.getElem?_toArray, List.getElem?_cons_zero, List.getElem?_cons_succ] at m0 m1
          have HBM := Lib.hid hbM
          clear hbM
          go_wp2
          have hbe := (HBM.out.set_ 0 (.slice Ax m cx)).set_ 1 (.int .u32 (po : Int))
          refine pGetInet_ret (M := w.heap.size) (a0 := (.slice Ax m cx)) (a1 := (.int .u32 (po : Int))) (b := .slice A4 (n - 1 - m - 4) c4) (c := .int .i64 0) rfl rfl rfl (hbe.cell 0) (hbe.cell 1) ?_
          have hke := ((HK0.out.trans HK4.out fun _ _ e => e).setCell (p := ⟨w.heap.size, 0, none⟩) (fun h => absurd h (Nat.lt_irrefl _)) (.slice Ax m cx)).setCell (p := ⟨w.heap.size, 1, none⟩) (fun h => absurd h (Nat.lt_irrefl _)) (.int .u32 (po : Int))
          exact GetPost.good hke HR.out HLE.out rfl ⟨Ax, m, cx, rfl, (HO4.out.far HBM.out (by decide) 0 (.slice Ax m cx)).far (HBM.out.set_ 0 _) (by decide) 1 (.int .u32 (po : Int))⟩ (SlK.far (SlK.far HS4.out HBM.out (by decide) 0 (.slice Ax m cx)) (HBM.out.set_ 0 _) (by decide) 1 (.int .u32 (po : Int)))
    · have HR : Hid (getInetP l = none) := Lib.hid (HU.out.trans (by rw [if_pos (by omega)]))
      rw [decide_eq_false hm] at HP
      clear hm
      go_enter Tryz.func220, Tryz.ntmps220
      go_wp2_with fail
      go_at_call 89
      refine HG.out.mono ?_
      rintro e w2 ⟨A, c, rfl, hs1, hg⟩
      have HGK := Lib.hid hg.kept
      clear hs1 hg
      go_wp2_with fail
      go_at_call 224
      refine (HP.out _).mono ?_
      rintro e w3 ⟨rfl, hw⟩
      subst hw
      have hbM := HB0.out.kept HGK.out (fun e => e)
      have m0 := hbM.cell 0
      have m1 := hbM.cell 1
      have mf0 := hbM.frozen 0
      have mf1 := hbM.frozen 1
      simp only [List.getElem?_toArray, List.getElem?_cons_zero, List.getElem?_cons_succ] at m0 m1
      have HBM := Lib.hid hbM
      clear hbM
      go_wp2
      have hbe := (HBM.out.set_ 0 (.slice none 0 0)).set_ 1 (.int .u32 0)
      refine pGetInet_ret (M := w.heap.size) (a0 := (.slice none 0 0)) (a1 := (.int .u32 0)) (b := .slice none 0 0) (c := (.int .i64 11)) rfl rfl rfl (hbe.cell 0) (hbe.cell 1) ?_
      have hke := ((HK0.out.trans HGK.out fun _ _ e => e).setCell (p := ⟨w.heap.size, 0, none⟩) (fun h => absurd h (Nat.lt_irrefl _)) (.slice none 0 0)).setCell (p := ⟨w.heap.size, 1, none⟩) (fun h => absurd h (Nat.lt_irrefl _)) (.int .u32 0)
      exact GetPost.bad hke HR.out (by decide) rfl
end Go.Proofs.YtfnjoceolcdeoaaGreatDoor
namespace Go.Proofs.YtfnjoceolcdeoaaGreatDoor
set_option linter.unusedVariables false
open Go.RowKit

/-- So far some items have been read. -/
def itGo {α : Type} (one : List UInt8 → Option (α × List UInt8)) (k : Nat) (l : List UInt8) (don : List α) (j : Nat) (rest : List UInt8) : Prop := itemsP one k l = (itemsP one j rest).map fun r => (don ++ r.1, r.2)
theorem itGo.start {α : Type} (one : List UInt8 → Option (α × List UInt8)) (k : Nat) (l : List UInt8) : itGo one k l [] k l := by
  unfold itGo
  cases itemsP one k l <;> rfl
theorem itGo.step {α : Type} {one : List UInt8 → Option (α × List UInt8)} {k j : Nat} {l rest rest' : List UInt8} {don : List α} {a : α} (h : itGo one k l don (j + 1) rest) (ho : one rest = some (a, rest')) : itGo one k l (don ++ [a]) j rest' := by
  unfold itGo at h ⊢
  rw [h]
  show ((one rest).bind _).map _ = _
  rw [ho]
  show ((itemsP one j rest').map _).map _ = _
  cases itemsP one j rest' with
  | none => rfl
  | some r => simp
theorem itGo.bad {α : Type} {one : List UInt8 → Option (α × List UInt8)} {k j : Nat} {l rest : List UInt8} {don : List α} (h : itGo one k l don (j + 1) rest) (ho : one rest = none) : itemsP one k l = none := by
  unfold itGo at h
  rw [h]
  show ((one rest).bind _).map _ = _
  rw [ho]; rfl
theorem itGo.done {α : Type} {one : List UInt8 → Option (α × List UInt8)} {k : Nat} {l rest : List UInt8} {don : List α} (h : itGo one k l don 0 rest) : itemsP one k l = some (don, rest) := by
  unfold itGo at h
  rw [h]
  show some (don ++ [], rest) = _
  rw [List.append_nil]
/-- A getter leaves no more than there was. -/
def Lesser {α : Type} (one : List UInt8 → Option (α × List UInt8)) : Prop := ∀ l a r, one l = some (a, r) → r.length ≤ l.length
theorem takeP_less {n : Nat} {l a r : List UInt8} (h : takeP n l = some (a, r)) : r.length ≤ l.length := by
  unfold takeP at h
  split at h
  · cases h
  · injection h with h
    injection h with h1 h2
    subst h2
    rw [List.length_drop]; omega
theorem getTextP_less : Lesser getTextP := by
  intro l a r h
  unfold getTextP at h
  split at h
  · cases h
  · have := takeP_less h
    rw [List.length_drop] at this; omega
theorem itemsP_less {α : Type} {one : List UInt8 → Option (α × List UInt8)} (ho : Lesser one) : ∀ k, Lesser (itemsP one k) := by
  intro k
  induction k with
  | zero => intro l a r h; injection h with h; injection h with h1 h2; subst h2; exact Nat.le_refl _
  | succ k ih =>
    intro l a r h
    change (one l).bind _ = _ at h
    cases h1 : one l with
    | none => rw [h1] at h; cases h
    | some q =>
      rw [h1] at h
      change (itemsP one k q.2).map _ = _ at h
      cases h2 : itemsP one k q.2 with
      | none => rw [h2] at h; cases h
      | some p =>
        rw [h2] at h
        injection h with h
        injection h with h3 h4
        subst h4
        exact Nat.le_trans (ih q.2 p.1 p.2 (by rw [h2])) (ho l q.1 q.2 (by rw [h1]))
theorem getListP_less {α : Type} {one : List UInt8 → Option (α × List UInt8)} (ho : Lesser one) : Lesser (getListP one) := by
  intro l a r h
  unfold getListP at h
  split at h
  · cases h
  · have := itemsP_less ho _ _ _ _ h
    rw [List.length_drop] at this; omega
theorem getMultiP_less : Lesser getMultiP := by
  intro l a r h
  unfold getMultiP at h
  cases h1 : getTextP l with
  | none => rw [h1] at h; cases h
  | some q =>
    rw [h1] at h
    change (getTextsP q.2).map _ = _ at h
    cases h2 : getTextsP q.2 with
    | none => rw [h2] at h; cases h
    | some p =>
      rw [h2] at h
      injection h with h
      injection h with h3 h4
      subst h4
      exact Nat.le_trans (getListP_less getTextP_less q.2 p.1 p.2 (by rw [← h2]; rfl)) (getTextP_less l q.1 q.2 (by rw [h1]))
theorem getMultisP_less : Lesser getMultisP := getListP_less getMultiP_less
theorem getTextsP_less : Lesser getTextsP := getListP_less getTextP_less
theorem getCodeP_less (k : Nat) : Lesser (getCodeP k) := by
  intro l a r h
  unfold getCodeP at h
  split at h
  · cases h
  · injection h with h
    injection h with h1 h2
    subst h2
    rw [List.length_drop]; omega
theorem getValP_less : Lesser getValP := by
  intro l a r h
  unfold getValP at h
  split at h
  · cases h
  · unfold valS at h
    split at h
    · injection h with h; injection h with h1 h2; subst h2; rw [List.length_drop]; omega
    · split at h
      · injection h with h; injection h with h1 h2; subst h2; rw [List.length_drop]; omega
      · split at h
        · cases h
        · cases h1 : takeP (s32 (beN (l.take 4))).toNat (l.drop 4) with
          | none => rw [h1] at h; cases h
          | some q =>
            rw [h1] at h
            injection h with h
            injection h with h2 h3
            subst h3
            have := takeP_less (a := q.1) (r := q.2) h1
            rw [List.length_drop] at this; omega
theorem getInetP_less : Lesser getInetP := by
  intro l a r h
  unfold getInetP at h
  split at h
  · cases h
  · split at h
    · cases h
    · cases h1 : takeP (beN (l.take 1)) (l.drop 1) with
      | none => rw [h1] at h; cases h
      | some q =>
        rw [h1] at h
        change inetS q.1 q.2 = _ at h
        unfold inetS at h
        split at h
        · cases h
        · injection h with h
          injection h with h2 h3
          subst h3
          have := takeP_less (a := q.1) (r := q.2) h1
          rw [List.length_drop] at this
          rw [List.length_drop]; omega
/-- How rows of texts lie; rows of pairs. -/
def tsR (ty : TypeId) (w : World) (B : Nat) (a : List (List UInt8)) (x : Value) : Prop := ∃ A n c, x = .slice A n c ∧ n = a.length ∧ w.ownsRow B ty 1 (.slice A n c) n (a.map fun s => Value.string (bS s))
def rwR {α : Type} (ty : TypeId) (sz : Nat) (w : World) (B : Nat) (a : List α) (x : Value) : Prop := ∃ A n c cl, x = .slice A n c ∧ n = a.length ∧ w.ownsRow B ty sz (.slice A n c) n cl
end Go.Proofs.YtfnjoceolcdeoaaGreatDoor

/- maps.get, of texts and of lists of texts. -/
import Derived.Test.YtfnjoceolcdeoaaGreatDoorMr27
import Derived.Test.YtfnjoceolcdeoaaGreatDoorMr29
import Derived.Test.YtfnjoceolcdeoaaGreatDoorMr04
import Derived.Test.YtfnjoceolcdeoaaGreatDoorMr06
namespace Go.Proofs.YtfnjoceolcdeoaaGreatDoor
set_option linter.unusedVariables false
open Go.RowKit

theorem multT : SlT Tryz.prog 189 351 (.agg #[.string noStr, .slice none 0 0]) 2 40 := ⟨Tryz.underlying189, by kernel_rfl, rfl, by decide, by decide⟩
theorem be2_lt {l : List UInt8} : beN (l.take 2) < 65536 := Nat.lt_of_lt_of_le (beN_lt _) (Nat.le_trans (Nat.pow_le_pow_right (by decide) (show (l.take 2).length ≤ 2 by rw [List.length_take]; omega)) (by decide))
/-- How a list of texts, with its key, is handed back. -/
def muR (w : World) (B : Nat) (a : List UInt8 × List (List UInt8)) (x : Value) : Prop := ∃ A n c, x = .agg #[.string (bS a.1), .slice A n c] ∧ n = a.2.length ∧ w.ownsRow B 9 1 (.slice A n c) n (a.2.map fun s => Value.string (bS s))

set_option maxHeartbeats 4000000 in
set_option maxRecDepth 100000 in
theorem mpGetStr_at {w : World} {v : Value} {n : Nat} {l : List UInt8} (h : Sl w 5 1 v n (bsC l)) (hn : n ≤ 1000000) :
    Calls Tryz.prog 176 #[v, .func (.func 177) #[] #[]] w (GetPost w (fun _ e => e = 5) (.slice none 0 0) (tsR 9) (getListP getTextP l)) := by
  have hln : l.length = n := by have := h.len; rw [bsC_len] at this; omega
  have HLN := Lib.hid hln
  clear hln
  by_cases hs : n < 2
  · have HR : Hid (getListP getTextP l = none) := Lib.hid (by unfold getListP; rw [if_pos (by have := HLN.out; omega)])
    have HG := Lib.hid (oGet_short h 2 (by omega) (by omega) hs)
    clear h
    go_enter Tryz.func176, Tryz.ntmps176
    go_wp2_with fail
    go_at_call 89
    refine HG.out.mono ?_
    rintro e w2 ⟨rfl, rfl⟩
    go_wp2
    go_ret3
    exact GetPost.bad (Kept.refl _ _) HR.out (by decide) rfl
  · have HG := Lib.hid (oGet_at h 2 (by omega) (by omega) (by omega))
    have hb := be2_lt (l := l)
    have HL2 : Hid ((l.drop 2).length = n - 2) := Lib.hid (by rw [List.length_drop, HLN.out])
    have HU : Hid (getListP getTextP l = itemsP getTextP (beN (l.take 2)) (l.drop 2)) := Lib.hid (by unfold getListP; rw [if_neg (by have := HLN.out; omega)])
    clear h
    generalize beN (l.take 2) = m at *
    generalize l.drop 2 = l2 at *
    go_enter Tryz.func176, Tryz.ntmps176
    go_wp2_with fail
    go_at_call 89
    refine HG.out.mono ?_
    rintro e w1 ⟨A1, c1, rfl, hs1, hg1⟩
    have START := Lib.hid (⟨SlK.keptNone hs1 hg1.kept, hg1.kept⟩ : Sl w1 5 1 (.slice A1 (n - 2) c1) (n - 2) (bsC l2) ∧ Kept noBlock w w1)
    clear hs1 hg1
    go_wp2_with fail
    go_loopg [0, 9, 23] m (fun j v0 v9 v23 wr => ∃ (i : Nat) (rest : List UInt8) (A : Option Addr) (nr c : Nat) (don : List (List UInt8)), i + j = m ∧ v23 = .int .u64 i ∧ v0 = .slice A nr c ∧ nr = rest.length ∧ nr ≤ 1000000 ∧ Sl wr 5 1 (.slice A nr c) nr (bsC rest) ∧ don.length = i ∧ itGo getTextP m l2 don (m - i) rest ∧ wr.ownsRow w.heap.size 9 1 v9 i (don.map fun s => Value.string (bS s)) ∧ Kept noBlock w wr)
    case atStart => exact ⟨0, l2, A1, n - 2, c1, [], by omega, rfl, rfl, HL2.out.symm, by omega, START.out.1, rfl, by rw [Nat.sub_zero]; exact itGo.start _ _ _, World.ownsRow_nil _ _ _ _, START.out.2⟩
    case round =>
      obtain ⟨i, rest, A, nr, c, don, hij, rfl, rfl, hnr, hnm, hsr, hdl, hgo, hown, hk⟩ := hrel
      have HIJ := Lib.hid hij
      have HNR := Lib.hid hnr
      have HSR := Lib.hid hsr
      have HDL := Lib.hid hdl
      have HGO := Lib.hid hgo
      have HO := Lib.hid hown
      have HK := Lib.hid hk
      clear hij hnr hsr hdl hgo hown hk
      by_cases hi : i < m
      · have HT := Lib.hid (pGetText_at HSR.out hnm)
        go_wp2_with fail
        go_at_call 177
        refine HT.out.mono ?_
        rintro e w2 ⟨hk2, hcase⟩
        have HK2 := Lib.hid (HK.out.trans hk2 fun _ _ e => e)
        have HO2 := Lib.hid (own_keptB HO.out hk2 fun _ _ e => e)
        have HSZ := Lib.hid HK.out.size
        clear hk2
        rcases hcase with ⟨hnone, cb, hcb, rfl⟩ | ⟨a, rest', x, A2, c2, hsome, rfl, hx, hs2⟩
        · have hq : (cb == 0) = false := by rw [beq_eq_false_iff_ne]; exact hcb
          have HCB := Lib.hid hcb
          have HR : Hid (getListP getTextP l = none) := Lib.hid (HU.out.trans (by obtain ⟨j', hj'⟩ : ∃ j', m - i = j' + 1 := ⟨m - i - 1, by omega⟩; have hgo := HGO.out; rw [hj'] at hgo; exact itGo.bad hgo hnone))
          clear hcb hnone
          go_wp2
          go_ret3
          exact GetPost.bad HK2.out HR.out HCB.out rfl
        · obtain rfl : x = .string (bS a) := hx
          have HSO := Lib.hid hsome
          have HS2 := Lib.hid hs2
          clear hsome hs2
          go_wp2_with (at_builtin; go_must (refine wpList_append_sl _ strsT rfl (.tmp 35) (.tmp 37) rfl w.heap.size _ i (don.map fun s => Value.string (bS s)) rfl (HO2.out.alloc _) _ 1 [.string (bS a)] rfl (Sl.made_at (n := 1) (sz := 1) (Blk.new_at _ 9 #[.string (bS a)] rfl) _ rfl rfl (by decide)) (fun u hu => by rw [List.mem_singleton] at hu; subst hu; rfl) ?c1 ?c2 ?_))
          case c1 => omega
          case c2 => have := HK2.out.size; simp; omega
          intro v' w3 hap
          have HK3 := Lib.hid (hap.below ((HO2.out.alloc _)) (HK2.out.alloc _) (Nat.le_refl _))
          have HO3 := Lib.hid hap.own
          have HS3 := Lib.hid (Sl.appended (SlK.alloc HS2.out _) hap ((HO2.out.alloc _)) (by decide))
          clear hap
          go_wp2
          go_roundg (m - (i + 1))
          case measure => have := HIJ.out; omega
          case rel =>
            have hij := HIJ.out
            obtain ⟨j', hj'⟩ : ∃ j', m - i = j' + 1 := ⟨m - i - 1, by omega⟩
            have hgo := HGO.out
            rw [hj'] at hgo
            refine ⟨i + 1, rest', A2, rest'.length, c2, don ++ [a], by omega, by go_num, rfl, rfl, by have := getTextP_less rest a rest' HSO.out; have := HNR.out; omega, HS3.out, by rw [List.length_append, HDL.out]; rfl, by have := itGo.step hgo HSO.out; rw [show m - (i + 1) = j' by omega]; exact this, ?_, HK3.out⟩
            rw [List.map_append]; exact HO3.out
      · obtain rfl : m = i := by have := HIJ.out; omega
        have HR : Hid (getListP getTextP l = some (don, rest)) := Lib.hid (HU.out.trans (by have hgo := HGO.out; rw [Nat.sub_self] at hgo; exact itGo.done hgo))
        obtain ⟨A9, c9, rfl, -, -⟩ := (Sl.of_own HO.out).shape
        go_wp2
        go_ret3
        exact GetPost.good HK.out HR.out HNR.out.symm rfl ⟨A9, _, c9, rfl, HDL.out.symm, HO.out⟩ HSR.out

theorem mpGetTexts_at {w : World} {v : Value} {n : Nat} {l : List UInt8} (h : Sl w 5 1 v n (bsC l)) (hn : n ≤ 1000000) :
    Calls Tryz.prog 162 #[v] w (GetPost w (fun _ e => e = 5) (.slice none 0 0) (tsR 9) (getTextsP l)) := by
  have HT := Lib.hid (mpGetStr_at h hn)
  obtain ⟨A, c, rfl, -, -⟩ := h.shape
  clear h
  go_enter Tryz.func162, Tryz.ntmps162
  go_wp2_with fail
  go_at_call 176
  refine HT.out.mono ?_
  rintro e w2 ⟨hk2, hcase⟩
  have HK2 := Lib.hid hk2
  rcases hcase with ⟨hnone, cb, hcb, rfl⟩ | ⟨a, rest', x, A2, c2, hsome, rfl, ⟨A3, n3, c3, rfl, hn3, ho3⟩, hs2⟩
  · have HCB := Lib.hid hcb
    have HR := Lib.hid hnone
    clear hcb hnone hk2
    go_wp2
    go_ret3
    exact GetPost.bad HK2.out HR.out HCB.out rfl
  · have HR := Lib.hid hsome
    have HX := Lib.hid (⟨hn3, ho3⟩ : n3 = a.length ∧ w2.ownsRow w.heap.size 9 1 (.slice A3 n3 c3) n3 (a.map fun s => Value.string (bS s)))
    have HS2 := Lib.hid hs2
    clear hsome hn3 ho3 hs2 hk2
    go_wp2
    go_ret3
    exact GetPost.good HK2.out HR.out rfl rfl ⟨A3, n3, c3, rfl, HX.out.1, HX.out.2⟩ HS2.out

theorem mpGetM1_ret {W : World} {T : Array Value} {M : Nat} {a0 a1 b c : Value} {R : Ending → World → Prop} (h2 : T.getD 2 undef = .pointer (some ⟨M, 0, none⟩)) (h3 : T.getD 3 undef = b) (h4 : T.getD 4 undef = c) (d0 : W.cell? ⟨M, 0, none⟩ = some a0) (d1 : W.cell? ⟨M, 1, none⟩ = some a1)
    (hR : R (.returned (.tuple #[.agg #[a0, a1], b, c])) W) : bodyPost Tryz.prog Tryz.f212 R .ret { tmps := T, defers := [] } W := by
  have h2' : T[2]?.getD undef = .pointer (some ⟨M, 0, none⟩) := by simpa using h2
  have h3' : T[3]?.getD undef = b := by simpa using h3
  have h4' : T[4]?.getD undef = c := by simpa using h4
  exact bodyPost_ret (v := .tuple #[.agg #[a0, a1], b, c]) (by simp [results, Tryz.results212, go_sem, h2', h3', h4', d0, d1]) rfl hR
set_option maxHeartbeats 4000000 in
set_option maxRecDepth 100000 in
theorem mpGetM1_at {w : World} {v : Value} {n : Nat} {l : List UInt8} (h : Sl w 5 1 v n (bsC l)) (hn : n ≤ 1000000) :
    Calls Tryz.prog 212 #[v] w fun e w' => Kept noBlock w w' ∧ ((getMultiP l = none ∧ ∃ (c : Int) (s : ByteArray), c ≠ 0 ∧ e = .returned (.tuple #[.agg #[.string s, .slice none 0 0], .slice none 0 0, .int .i64 c])) ∨
      ∃ a rest x A c, getMultiP l = some (a, rest) ∧ e = .returned (.tuple #[x, .slice A rest.length c, .int .i64 0]) ∧ muR w' w.heap.size a x ∧ Sl w' 5 1 (.slice A rest.length c) rest.length (bsC rest)) := by
  have hln : l.length = n := by have := h.len; rw [bsC_len] at this; omega
  have HLN := Lib.hid hln
  have HB0 := Lib.hid (Blk.new w 351 #[.string ⟨#[]⟩, .slice none 0 0])
  have HK0 := Lib.hid ((Kept.refl noBlock w).alloc (.cells #[.string ⟨#[]⟩, .slice none 0 0] 351))
  have HT := Lib.hid (pGetText_at (SlK.alloc h (.cells #[.string ⟨#[]⟩, .slice none 0 0] 351)) hn)
  clear hln h
  go_enter Tryz.func212, Tryz.ntmps212
  go_wp2_with fail
  generalize hw0 : w.alloc (.cells #[.string ⟨#[]⟩, .slice none 0 0] 351) = w0 at *
  have hgw : w.heap.size < w0.heap.size := HB0.out.lt
  generalize hg : w.heap.size = g at *
  clear hw0
  go_at_call 177
  refine HT.out.mono ?_
  rintro e w2 ⟨hk2, hcase⟩
  have HK2 := Lib.hid (HK0.out.trans hk2 fun _ _ e => e)
  have HB2 := Lib.hid (HB0.out.kept hk2 fun e => e)
  have HSZ := Lib.hid hk2.size
  clear hk2
  rcases hcase with ⟨hnone, cb, hcb, rfl⟩ | ⟨a, rest', x, A2, c2, hsome, rfl, hx, hs2⟩
  · have hq : (cb == 0) = false := by rw [beq_eq_false_iff_ne]; exact hcb
    have HCB := Lib.hid hcb
    have HR : Hid (getMultiP l = none) := Lib.hid (by unfold getMultiP; rw [hnone]; rfl)
    have hb2 := HB2.out
    have y0 := hb2.cell 0
    have y1 := hb2.cell 1
    have f0 := hb2.frozen 0
    have f1 := hb2.frozen 1
    simp only [List.getElem?_toArray, List.getElem?_cons_zero, List.getElem?_cons_succ] at y0 y1
    clear hcb hnone hb2
    go_wp2
    have hbe := (HB2.out.set_ 0 (.string ⟨#[]⟩)).set_ 1 (.slice none 0 0)
    refine mpGetM1_ret (M := g) (a0 := .string ⟨#[]⟩) (a1 := .slice none 0 0) (b := .slice none 0 0) (c := .int .i64 cb) rfl rfl rfl (hbe.cell 0) (hbe.cell 1) ?_
    exact ⟨(HK2.out.setCell (p := ⟨g, 0, none⟩) (fun h => absurd h (by show ¬ g < w.heap.size; omega)) _).setCell (p := ⟨g, 1, none⟩) (fun h => absurd h (by show ¬ g < w.heap.size; omega)) _, .inl ⟨HR.out, cb, _, HCB.out, rfl⟩⟩
  · obtain rfl : x = .string (bS a) := hx
    have HRL : Hid (rest'.length ≤ 1000000) := Lib.hid (by have := getTextP_less l a rest' hsome; have := HLN.out; omega)
    have HSO := Lib.hid hsome
    have HT2 := Lib.hid (mpGetTexts_at hs2 HRL.out)
    clear hsome hs2
    go_wp2_with fail
    go_at_call 162
    refine HT2.out.mono ?_
    rintro e w3 ⟨hk3, hcase⟩
    have HK3 := Lib.hid (HK2.out.trans hk3 fun _ _ e => e)
    have hb2 := HB2.out.kept hk3 fun e => e
    have HB3 := Lib.hid hb2
    have HSZ3 := Lib.hid (Nat.le_trans HSZ.out (Nat.le_refl w2.heap.size))
    have y0 := hb2.cell 0
    have y1 := hb2.cell 1
    have f0 := hb2.frozen 0
    have f1 := hb2.frozen 1
    simp only [List.getElem?_toArray, List.getElem?_cons_zero, List.getElem?_cons_succ] at y0 y1
    clear hk3 hb2
    rcases hcase with ⟨hnone, cb, hcb, rfl⟩ | ⟨a2, rest2, x, A3, c3, hsome, rfl, ⟨A4, n4, c4, rfl, hn4, ho4⟩, hs3⟩
    · have HCB := Lib.hid hcb
      have HR : Hid (getMultiP l = none) := Lib.hid (by unfold getMultiP; rw [HSO.out]; show (getTextsP rest').map _ = none; rw [hnone]; rfl)
      clear hcb hnone
      go_wp2
      have hbe := (HB3.out.set_ 0 (.string (bS a))).set_ 1 (.slice none 0 0)
      refine mpGetM1_ret (M := g) (a0 := .string (bS a)) (a1 := .slice none 0 0) (b := .slice none 0 0) (c := .int .i64 cb) rfl rfl rfl (hbe.cell 0) (hbe.cell 1) ?_
      exact ⟨(HK3.out.setCell (p := ⟨g, 0, none⟩) (fun h => absurd h (by show ¬ g < w.heap.size; omega)) _).setCell (p := ⟨g, 1, none⟩) (fun h => absurd h (by show ¬ g < w.heap.size; omega)) _, .inl ⟨HR.out, cb, _, HCB.out, rfl⟩⟩
    · have HR : Hid (getMultiP l = some ((a, a2), rest2)) := Lib.hid (by unfold getMultiP; rw [HSO.out]; show (getTextsP rest').map _ = _; rw [hsome]; rfl)
      have HN4 := Lib.hid hn4
      have HO4 := Lib.hid (own_far (own_far (own_base ho4 (show g ≤ w2.heap.size from by have := HSZ.out; omega)) HB3.out (by decide) 0 (.string (bS a))) (HB3.out.set_ 0 _) (by decide) 1 (.slice A4 n4 c4))
      have HS3 := Lib.hid (SlK.far (SlK.far hs3 HB3.out (by decide) 0 (.string (bS a))) (HB3.out.set_ 0 _) (by decide) 1 (.slice A4 n4 c4))
      clear hsome hn4 ho4 hs3
      go_wp2
      have hbe := (HB3.out.set_ 0 (.string (bS a))).set_ 1 (.slice A4 n4 c4)
      refine mpGetM1_ret (M := g) (a0 := .string (bS a)) (a1 := .slice A4 n4 c4) (b := .slice A3 rest2.length c3) (c := .int .i64 0) rfl rfl rfl (hbe.cell 0) (hbe.cell 1) ?_
      exact ⟨(HK3.out.setCell (p := ⟨g, 0, none⟩) (fun h => absurd h (by show ¬ g < w.heap.size; omega)) _).setCell (p := ⟨g, 1, none⟩) (fun h => absurd h (by show ¬ g < w.heap.size; omega)) _, .inr ⟨(a, a2), rest2, _, A3, c3, HR.out, rfl, ⟨A4, n4, c4, rfl, HN4.out, by rw [hg]; exact HO4.out⟩, HS3.out⟩⟩

set_option maxHeartbeats 4000000 in
set_option maxRecDepth 100000 in
theorem mpGetMul_at {w : World} {v : Value} {n : Nat} {l : List UInt8} (h : Sl w 5 1 v n (bsC l)) (hn : n ≤ 1000000) :
    Calls Tryz.prog 211 #[v, .func (.func 212) #[] #[]] w (GetPost w (fun _ e => e = 5) (.slice none 0 0) (rwR 351 2) (getListP getMultiP l)) := by
  have hln : l.length = n := by have := h.len; rw [bsC_len] at this; omega
  have HLN := Lib.hid hln
  clear hln
  by_cases hs : n < 2
  · have HR : Hid (getListP getMultiP l = none) := Lib.hid (by unfold getListP; rw [if_pos (by have := HLN.out; omega)])
    have HG := Lib.hid (oGet_short h 2 (by omega) (by omega) hs)
    clear h
    go_enter Tryz.func211, Tryz.ntmps211
    go_wp2_with fail
    go_at_call 89
    refine HG.out.mono ?_
    rintro e w2 ⟨rfl, rfl⟩
    go_wp2
    go_ret3
    exact GetPost.bad (Kept.refl _ _) HR.out (by decide) rfl
  · have HG := Lib.hid (oGet_at h 2 (by omega) (by omega) (by omega))
    have hb := be2_lt (l := l)
    have HL2 : Hid ((l.drop 2).length = n - 2) := Lib.hid (by rw [List.length_drop, HLN.out])
    have HU : Hid (getListP getMultiP l = itemsP getMultiP (beN (l.take 2)) (l.drop 2)) := Lib.hid (by unfold getListP; rw [if_neg (by have := HLN.out; omega)])
    clear h
    generalize beN (l.take 2) = m at *
    generalize l.drop 2 = l2 at *
    go_enter Tryz.func211, Tryz.ntmps211
    go_wp2_with fail
    go_at_call 89
    refine HG.out.mono ?_
    rintro e w1 ⟨A1, c1, rfl, hs1, hg1⟩
    have START := Lib.hid (⟨SlK.keptNone hs1 hg1.kept, hg1.kept⟩ : Sl w1 5 1 (.slice A1 (n - 2) c1) (n - 2) (bsC l2) ∧ Kept noBlock w w1)
    clear hs1 hg1
    go_wp2_with fail
    go_loopg [0, 9, 23] m (fun j v0 v9 v23 wr => ∃ (i : Nat) (rest : List UInt8) (A : Option Addr) (nr c : Nat) (don : List (List UInt8 × List (List UInt8))) (cl : List Value), i + j = m ∧ v23 = .int .u64 i ∧ v0 = .slice A nr c ∧ nr = rest.length ∧ nr ≤ 1000000 ∧ Sl wr 5 1 (.slice A nr c) nr (bsC rest) ∧ don.length = i ∧ itGo getMultiP m l2 don (m - i) rest ∧ wr.ownsRow w.heap.size 351 2 v9 i cl ∧ Kept noBlock w wr)
    case atStart => exact ⟨0, l2, A1, n - 2, c1, [], [], by omega, rfl, rfl, HL2.out.symm, by omega, START.out.1, rfl, by rw [Nat.sub_zero]; exact itGo.start _ _ _, World.ownsRow_nil _ _ _ _, START.out.2⟩
    case round =>
      obtain ⟨i, rest, A, nr, c, don, cl, hij, rfl, rfl, hnr, hnm, hsr, hdl, hgo, hown, hk⟩ := hrel
      have HIJ := Lib.hid hij
      have HNR := Lib.hid hnr
      have HSR := Lib.hid hsr
      have HDL := Lib.hid hdl
      have HGO := Lib.hid hgo
      have HO := Lib.hid hown
      have HK := Lib.hid hk
      clear hij hnr hsr hdl hgo hown hk
      by_cases hi : i < m
      · have HT := Lib.hid (mpGetM1_at HSR.out hnm)
        go_wp2_with fail
        go_at_call 212
        refine HT.out.mono ?_
        rintro e w2 ⟨hk2, hcase⟩
        have HK2 := Lib.hid (HK.out.trans hk2 fun _ _ e => e)
        have HO2 := Lib.hid (own_keptB HO.out hk2 fun _ _ e => e)
        have HSZ := Lib.hid HK.out.size
        clear hk2
        rcases hcase with ⟨hnone, cb, sb, hcb, rfl⟩ | ⟨a, rest', x, A2, c2, hsome, rfl, hx, hs2⟩
        · have hq : (cb == 0) = false := by rw [beq_eq_false_iff_ne]; exact hcb
          have HCB := Lib.hid hcb
          have HR : Hid (getListP getMultiP l = none) := Lib.hid (HU.out.trans (by obtain ⟨j', hj'⟩ : ∃ j', m - i = j' + 1 := ⟨m - i - 1, by omega⟩; have hgo := HGO.out; rw [hj'] at hgo; exact itGo.bad hgo hnone))
          clear hcb hnone
          go_wp2
          go_ret3
          exact GetPost.bad (HK2.out.alloc _) HR.out HCB.out rfl
        · obtain ⟨A3, n3, c3, rfl, -, -⟩ := hx
          have HSO := Lib.hid hsome
          have HS2 := Lib.hid hs2
          clear hsome hs2
          go_wp2_with (at_builtin; go_must (refine wpList_append_sl _ multT rfl (.tmp 35) (.tmp 37) rfl w.heap.size _ i cl rfl ((HO2.out.alloc _).alloc _) _ 1 [.string (bS a.1), .slice A3 n3 c3] rfl (Sl.made_at (n := 1) (sz := 2) (Blk.new_at _ 351 #[.string (bS a.1), .slice A3 n3 c3] (by rw [sz_alloc])) _ rfl rfl (by decide)) (fun u hu => by simp only [List.mem_cons, List.not_mem_nil, or_false] at hu; rcases hu with rfl | rfl <;> rfl) ?c1 ?c2 ?_))
          case c1 => omega
          case c2 => have := HK2.out.size; simp only [sz_alloc]; omega
          intro v' w3 hap
          have HK3 := Lib.hid (hap.below (((HO2.out.alloc _).alloc _)) ((HK2.out.alloc _).alloc _) (Nat.le_refl _))
          have HO3 := Lib.hid hap.own
          have HS3 := Lib.hid (Sl.appended (SlK.alloc (SlK.alloc HS2.out _) _) hap (((HO2.out.alloc _).alloc _)) (by decide))
          clear hap
          go_wp2
          go_roundg (m - (i + 1))
          case measure => have := HIJ.out; omega
          case rel =>
            have hij := HIJ.out
            obtain ⟨j', hj'⟩ : ∃ j', m - i = j' + 1 := ⟨m - i - 1, by omega⟩
            have hgo := HGO.out
            rw [hj'] at hgo
            refine ⟨i + 1, rest', A2, rest'.length, c2, don ++ [a], cl ++ [.string (bS a.1), .slice A3 n3 c3], by omega, by go_num, rfl, rfl, by have := getMultiP_less rest a rest' HSO.out; have := HNR.out; omega, HS3.out, by rw [List.length_append, HDL.out]; rfl, by have := itGo.step hgo HSO.out; rw [show m - (i + 1) = j' by omega]; exact this, ?_, HK3.out⟩
            exact HO3.out
      · obtain rfl : m = i := by have := HIJ.out; omega
        have HR : Hid (getListP getMultiP l = some (don, rest)) := Lib.hid (HU.out.trans (by have hgo := HGO.out; rw [Nat.sub_self] at hgo; exact itGo.done hgo))
        obtain ⟨A9, c9, rfl, -, -⟩ := (Sl.of_own HO.out).shape
        go_wp2
        go_ret3
        exact GetPost.good HK.out HR.out HNR.out.symm rfl ⟨A9, _, c9, cl, rfl, HDL.out.symm, HO.out⟩ HSR.out

theorem mpGetMultis_at {w : World} {v : Value} {n : Nat} {l : List UInt8} (h : Sl w 5 1 v n (bsC l)) (hn : n ≤ 1000000) :
    Calls Tryz.prog 190 #[v] w (GetPost w (fun _ e => e = 5) (.slice none 0 0) (rwR 351 2) (getMultisP l)) := by
  have HT := Lib.hid (mpGetMul_at h hn)
  obtain ⟨A, c, rfl, -, -⟩ := h.shape
  clear h
  go_enter Tryz.func190, Tryz.ntmps190
  go_wp2_with fail
  go_at_call 211
  refine HT.out.mono ?_
  rintro e w2 ⟨hk2, hcase⟩
  have HK2 := Lib.hid hk2
  rcases hcase with ⟨hnone, cb, hcb, rfl⟩ | ⟨a, rest', x, A2, c2, hsome, rfl, ⟨A3, n3, c3, cl, rfl, hn3, ho3⟩, hs2⟩
  · have HCB := Lib.hid hcb
    have HR := Lib.hid hnone
    clear hcb hnone hk2
    go_wp2
    go_ret3
    exact GetPost.bad HK2.out HR.out HCB.out rfl
  · have HR := Lib.hid hsome
    have HX := Lib.hid (⟨hn3, ho3⟩ : n3 = a.length ∧ w2.ownsRow w.heap.size 351 2 (.slice A3 n3 c3) n3 cl)
    have HS2 := Lib.hid hs2
    clear hsome hn3 ho3 hs2 hk2
    go_wp2
    go_ret3
    exact GetPost.good HK2.out HR.out rfl rfl ⟨A3, n3, c3, cl, rfl, HX.out.1, HX.out.2⟩ HS2.out
end Go.Proofs.YtfnjoceolcdeoaaGreatDoor

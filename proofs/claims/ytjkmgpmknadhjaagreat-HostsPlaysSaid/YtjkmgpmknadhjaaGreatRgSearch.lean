/- slices.BinarySearchFunc at a ring's places; the ring's own at. -/
import Derived.Test.YtjkmgpmknadhjaaGreatRgWalkPure
import Derived.Shelf.SlSortCmp.Kit1
namespace Go.Proofs.YtjkmgpmknadhjaaGreat
set_option linter.unusedVariables false
open Go.RowKit

set_option maxHeartbeats 2000000 in
set_option maxRecDepth 100000 in
theorem PSearch_at {w : World} {v : Value} {S : List Pl} {t : Int} (h : Sl w 54 2 v S.length (S.flatMap pC)) (hr : rising S) (hn : S.length ≤ 1000000) :
    Calls Tryz.prog 49 #[v, .int .i64 t, .func (.func 50) #[] #[]] w fun e w' => ∃ b, e = .returned (.tuple #[.int .i64 (below S t), .bool b]) ∧ Kept noBlock w w' := by
  obtain ⟨A, c, rfl, -, -⟩ := h.shape
  have hlen := h.run_len psT
  have H := Lib.hid h
  have HB := Lib.hid (below_spec hr t)
  have HBL := Lib.hid (below_le S t)
  have eg : ∀ args w, (callFunc 50 args).run Tryz.prog w = .ok (.enter 50 args) w := enters_of Tryz.func50 (by kernel_rfl) rfl
  clear h hr
  generalize below S t = cnt at *
  go_enter Tryz.func49, Tryz.ntmps49
  go_wp2_with fail
  go_loopg [9, 10] S.length (fun j v9 v10 wr => ∃ lo hi : Nat, v9 = .int .i64 lo ∧ v10 = .int .i64 hi ∧ lo ≤ cnt ∧ cnt ≤ hi ∧ hi ≤ S.length ∧ hi - lo ≤ j ∧ Kept noBlock w wr)
  case atStart => exact ⟨0, S.length, rfl, rfl, Nat.zero_le _, HBL.out, Nat.le_refl _, by omega, Kept.refl _ _⟩
  case round =>
    obtain ⟨lo, hi, rfl, rfl, h1, h2, h3, h4, hk⟩ := hrel
    have HK := Lib.hid hk
    have H4 := Lib.hid h4
    by_cases hlt : lo < hi
    · obtain ⟨p, hp⟩ : ∃ p, S[(lo + hi) / 2]? = some p := ⟨_, List.getElem?_eq_getElem (by omega)⟩
      obtain ⟨g, off, hidx, hgl, hc0, hc1⟩ := p_at (SlK.keptNone H.out hk) psT hp
      rw [show (((lo + hi) / 2 : Nat) : Int) = ((lo : Int) + (hi : Int)) / 2 by omega] at hidx
      have hb := HB.out _ p hp
      have hcall := Rat1_at p t wr
      obtain ⟨p1, p2⟩ := p
      simp only at hc0 hc1 hb
      have HB2 := Lib.hid hb
      have HCALL := Lib.hid hcall
      clear hk hp hb hcall h4
      by_cases hpt : p1 < t
      · have hz : cmpZ p1 t = -1 := by unfold cmpZ; rw [if_pos hpt]
        have hcl : Calls Tryz.prog 50 #[.agg #[.int .i64 p1, .string p2], .int .i64 t] wr fun e w' => e = .returned (.int .i64 (-1)) ∧ Grew wr w' := HCALL.out.mono fun e w' h => ⟨by rw [h.1, hz], h.2⟩
        have HCL := Lib.hid hcl
        have hm := HB2.out.1 hpt
        clear hcl hz HCALL
        go_wp2_with fail
        go_at_fn 50
        refine HCL.out.mono ?_
        rintro e w4 ⟨rfl, hg4⟩
        have HK4 := Lib.hid (HK.out.trans hg4.kept (fun _ _ h => h))
        clear hg4 hc0 hc1
        go_wp2
        go_roundg (hi - ((lo + hi) / 2 + 1))
        case measure => have := H4.out; omega
        case rel => exact ⟨(lo + hi) / 2 + 1, hi, by rw [show ((lo : Int) + (hi : Int)) / 2 + 1 = (((lo + hi) / 2 + 1 : Nat) : Int) by omega], rfl, by omega, by omega, by omega, Nat.le_refl _, HK4.out⟩
      · obtain ⟨z, hz, hz0⟩ : ∃ z, cmpZ p1 t = z ∧ ¬ z < 0 := ⟨_, rfl, by unfold cmpZ; rw [if_neg hpt]; split <;> omega⟩
        have hcl : Calls Tryz.prog 50 #[.agg #[.int .i64 p1, .string p2], .int .i64 t] wr fun e w' => e = .returned (.int .i64 z) ∧ Grew wr w' := HCALL.out.mono fun e w' h => ⟨by rw [h.1, hz], h.2⟩
        have HCL := Lib.hid hcl
        have hm : ¬ (lo + hi) / 2 < cnt := fun e => hpt (HB2.out.2 e)
        clear hcl hz HCALL
        go_wp2_with fail
        go_at_fn 50
        refine HCL.out.mono ?_
        rintro e w4 ⟨rfl, hg4⟩
        have HK4 := Lib.hid (HK.out.trans hg4.kept (fun _ _ h => h))
        clear hg4 hc0 hc1
        go_wp2
        go_roundg ((lo + hi) / 2 - lo)
        case measure => have := H4.out; omega
        case rel => exact ⟨lo, (lo + hi) / 2, rfl, by rw [show ((lo : Int) + (hi : Int)) / 2 = (((lo + hi) / 2 : Nat) : Int) by omega], by omega, by omega, by omega, Nat.le_refl _, HK4.out⟩
    · obtain rfl : lo = cnt := by omega
      obtain rfl : hi = lo := by omega
      clear h4 H4
      by_cases hend : hi < S.length
      · obtain ⟨p, hp⟩ : ∃ p, S[hi]? = some p := ⟨_, List.getElem?_eq_getElem hend⟩
        obtain ⟨g, off, hidx, hgl, hc0, hc1⟩ := p_at (SlK.keptNone H.out hk) psT hp
        have hcall := Rat1_at p t wr
        obtain ⟨p1, p2⟩ := p
        simp only at hc0 hc1
        have HCALL := Lib.hid hcall
        clear hk hp hcall
        go_wp2_with fail
        go_at_fn 50
        refine HCALL.out.mono ?_
        rintro e w4 ⟨rfl, hg4⟩
        have HK4 := Lib.hid (HK.out.trans hg4.kept (fun _ _ h => h))
        clear hg4 hc0 hc1
        go_wp2
        go_ret2
        exact ⟨_, rfl, HK4.out⟩
      · clear hk
        go_wp2
        go_ret2
        exact ⟨_, rfl, HK.out⟩
set_option maxHeartbeats 2000000 in
set_option maxRecDepth 100000 in
theorem Rat_at {w : World} {g : Nat} {S : List Pl} {t : Int} (h : RingAt w g S) (hr : rising S) (hn : S.length ≤ 1000000) :
    Calls Tryz.prog 33 #[.pointer (some ⟨g, 0, none⟩), .int .i64 t] w fun e w' => e = .returned (.int .i64 (rat S t)) ∧ Kept noBlock w w' := by
  obtain ⟨A, c, hb, hs⟩ := h
  have hlen := hs.run_len psT
  have HC := Lib.hid (PSearch_at (t := t) hs hr hn)
  have HB := Lib.hid hb
  have c0 := hb.cell 0
  simp only [List.getElem?_toArray, List.getElem?_cons_zero] at c0
  have hle := below_le S t
  have HR := Lib.hid (show rat S t = if below S t < S.length then below S t else 0 from rfl)
  generalize rat S t = r at *
  generalize below S t = k at *
  clear hb hs hr
  go_enter Tryz.func33, Tryz.ntmps33
  go_wp2_with fail
  go_at_call 49
  refine HC.out.mono ?_
  rintro e w1 ⟨b, rfl, hk⟩
  have c1 := (HB.out.kept hk (fun h => h)).cell 0
  simp only [List.getElem?_toArray, List.getElem?_cons_zero] at c1
  have HK := Lib.hid hk
  clear hk c0
  have hmod : (k : Int) % max (S.length : Int) 1 = (r : Int) := by
    have hr := HR.out
    by_cases e : k < S.length
    · rw [if_pos e] at hr
      rw [Int.max_eq_left (by omega), Int.emod_eq_of_lt (by omega) (by omega)]; omega
    · rw [if_neg e] at hr
      by_cases e0 : S.length = 0
      · have : k = 0 := by omega
        subst this; subst hr; simp
      · rw [Int.max_eq_left (by omega), show (k : Int) = (S.length : Int) by omega, Int.emod_self]; omega
  go_wp2
  go_ret
  exact ⟨congrArg (fun x => Ending.returned (.int .i64 x)) hmod, HK.out⟩
end Go.Proofs.YtjkmgpmknadhjaaGreat

/- The reference of chapter 13: at, Has, Walk. -/
import Derived.Test.YtjdjfikeiphgpaaR3New
import Derived.Laws.StructEq
namespace Go.Proofs.Ytjdjfikeiphgpaa
set_option linter.unusedVariables false
open Go.RowKit

theorem strEq (a b : ByteArray) : (a.toList == b.toList) = decide (a = b) := by
  rw [← beq_toListBytes]
  cases a with
  | mk x =>
    cases b with
    | mk y =>
      show (x == y) = _
      by_cases h : x = y
      · subst h; simp
      · have h2 : ¬ (ByteArray.mk x = ByteArray.mk y) := fun e => h (by injection e)
        rw [decide_eq_false h2]
        simp [h]
theorem strEq_self (a : ByteArray) : (a.toList == a.toList) = true := by rw [strEq]; simp
theorem strEq_ne {a b : ByteArray} (h : a ≠ b) : (a.toList == b.toList) = false := by rw [strEq]; simp [h]
set_option maxHeartbeats 1000000 in
set_option maxRecDepth 100000 in
theorem R3at_at {w : World} {v : Value} {S : List Pl} {t : Int} (h : Sl w 68 2 v S.length (S.flatMap pC)) (hr : rising S) (hn : S.length ≤ 1000) :
    Calls Try.prog 38 #[v, .int .i64 t] w fun e w' => e = .returned (.int .i64 (rat S t)) ∧ w' = w := by
  obtain ⟨A, c, rfl, -, -⟩ := h.shape
  have hlen := h.run_len p3sT
  have H := Lib.hid h
  have HB := Lib.hid (below_spec hr t)
  have hble := below_le S t
  have HR := Lib.hid (show rat S t = if below S t < S.length then below S t else 0 from rfl)
  generalize rat S t = r at *
  generalize below S t = k at *
  clear h hr
  go_enter Try.func38, Try.ntmps38
  go_wp2_with fail
  go_loopg [5] S.length (fun j vi wr => ∃ i : Nat, i + j = S.length ∧ vi = .int .i64 i ∧ i ≤ k ∧ wr = w)
  case atStart => exact ⟨0, by omega, rfl, Nat.zero_le _, rfl⟩
  case round =>
    obtain ⟨i, hij, rfl, hik, rfl⟩ := hrel
    by_cases hlt : i < S.length
    · obtain ⟨p, hp⟩ : ∃ p, S[i]? = some p := ⟨_, List.getElem?_eq_getElem hlt⟩
      obtain ⟨g, off, hidx, hgl, hc0, hc1⟩ := p_at H.out p3sT hp
      have hb := HB.out i p hp
      obtain ⟨p1, p2⟩ := p
      simp only at hc0 hc1 hb
      have HB2 := Lib.hid hb
      clear hp hb
      by_cases hpt : p1 < t
      · have := HB2.out.1 hpt
        go_wp2
        go_roundg (S.length - (i + 1))
        case measure => omega
        case rel => exact ⟨i + 1, by omega, by go_num, by omega, rfl⟩
      · have hk : ¬ i < k := fun e => hpt (HB2.out.2 e)
        have hrr : r = i := by rw [HR.out, if_pos (by omega)]; omega
        have HRR := Lib.hid hrr
        clear hrr
        go_wp2
        go_ret
        exact ⟨by rw [HRR.out]; rfl, rfl⟩
    · have hrr : r = 0 := by rw [HR.out, if_neg (by omega)]
      have HRR := Lib.hid hrr
      clear hrr
      go_wp2
      go_ret
      exact ⟨by rw [HRR.out]; rfl, rfl⟩

set_option maxHeartbeats 1000000 in
set_option maxRecDepth 100000 in
theorem R3Has_at {w : World} {ok : Nat → TypeId → Prop} {v : Value} {l : List ByteArray} {s : ByteArray} (h : SlK w ok 1 v l.length (l.map Value.string)) (hn : l.length ≤ 100000) :
    Calls Try.prog 18 #[v, .string s] w fun e w' => e = .returned (.bool (has l s)) ∧ w' = w := by
  obtain ⟨A, c, rfl, -, -⟩ := h.shape
  have hlen := h.run_len strsT
  have H := Lib.hid h
  have HB := Lib.hid (fun i x (hx : l[i]? = some x) => (show has (l.take (i + 1)) s = (has (l.take i) s || decide (x = s)) by rw [List.take_add_one, hx, has_append]; simp [has]))
  have HM := Lib.hid (fun i x (hx : l[i]? = some x) => (fun e => has_iff.2 (e ▸ List.mem_of_getElem? hx) : x = s → has l s = true))
  clear h
  go_enter Try.func18, Try.ntmps18
  go_wp2_with fail
  go_loopg [5] l.length (fun j vi wr => ∃ i : Nat, i + j = l.length ∧ vi = .int .i64 i ∧ has (l.take i) s = false ∧ wr = w)
  case atStart => exact ⟨0, by omega, rfl, rfl, rfl⟩
  case round =>
    obtain ⟨i, hij, rfl, hh, rfl⟩ := hrel
    have HH := Lib.hid hh
    clear hh
    by_cases hlt : i < l.length
    · obtain ⟨x, hx⟩ : ∃ x, l[i]? = some x := ⟨_, List.getElem?_eq_getElem hlt⟩
      obtain ⟨g, off, hidx, hgl, hc0⟩ := str_at H.out hx
      have hb := HB.out i x hx
      have hm := HM.out i x hx
      have HB2 := Lib.hid hb
      have HM2 := Lib.hid hm
      clear hx hb hm
      by_cases hxs : x = s
      · have hres := HM2.out hxs
        subst hxs
        have HRES := Lib.hid hres
        have hbe := strEq_self x
        clear hres
        go_wp2
        go_ret
        exact ⟨by rw [HRES.out]; rfl, rfl⟩
      · have hbe := strEq_ne hxs
        have hnx : has (l.take (i + 1)) s = false := by rw [HB2.out, HH.out]; simp [hxs]
        have HNX := Lib.hid hnx
        clear hnx
        go_wp2
        go_roundg (l.length - (i + 1))
        case measure => omega
        case rel => exact ⟨i + 1, by omega, by go_num, HNX.out, rfl⟩
    · obtain rfl : i = l.length := by omega
      have hres : has l s = false := by have := HH.out; rw [List.take_length] at this; exact this
      have HRES := Lib.hid hres
      clear hres
      go_wp2
      go_ret
      exact ⟨by rw [HRES.out]; rfl, rfl⟩

set_option maxHeartbeats 2000000 in
set_option maxRecDepth 100000 in
theorem R3Walk_at {w : World} {v : Value} {S : List Pl} {t : Int} (h : Sl w 68 2 v S.length (S.flatMap pC)) (hr : rising S) (hn : S.length ≤ 1000) :
    Calls Try.prog 27 #[v, .int .i64 t] w fun e w' => ∃ v', e = .returned v' ∧ Sl w' 9 1 v' (rwalk S t).length ((rwalk S t).map Value.string) ∧ Kept noBlock w w' := by
  obtain ⟨A, c, rfl, -, -⟩ := h.shape
  have hlen := h.run_len p3sT
  have HA := Lib.hid (R3at_at (t := t) h hr hn)
  have H := Lib.hid h
  have HW := Lib.hid (show rwalk S t = uniq [] ((turned S t).map (·.2)) from rfl)
  have HG := Lib.hid (fun i hi => turned_get (S := S) (t := t) (i := i) hi)
  have HTL := Lib.hid (turned_length S t)
  have hrl : rat S t ≤ S.length := by unfold rat; have := below_le S t; split <;> omega
  generalize rwalk S t = R at *
  generalize turned S t = T at *
  generalize rat S t = k at *
  clear h hr
  go_enter Try.func27, Try.ntmps27
  go_wp2_with fail
  go_at_call 38
  refine HA.out.mono ?_
  rintro e w1 ⟨rfl, rfl⟩
  clear HA
  go_wp2_with fail
  obtain ⟨wz, hwz⟩ : ∃ wz, wz = w1 := ⟨w1, rfl⟩
  subst hwz
  go_loopg [5, 7] S.length (fun j vo vi wr => ∃ i : Nat, i + j = S.length ∧ vi = .int .i64 i ∧ wr.ownsRow wz.heap.size 9 1 vo (uniq [] ((T.take i).map (·.2))).length ((uniq [] ((T.take i).map (·.2))).map Value.string) ∧ Kept noBlock wz wr)
  case atStart => exact ⟨0, by omega, rfl, World.ownsRow_nil _ _ _ _, Kept.refl _ _⟩
  case round =>
    obtain ⟨i, hij, rfl, hown, hk⟩ := hrel
    have HIJ := Lib.hid hij
    have HK := Lib.hid hk
    have hz := hk.size
    by_cases hlt : i < S.length
    · have hmod : (k + i) % S.length < S.length := Nat.mod_lt _ (by omega)
      obtain ⟨p, hp⟩ : ∃ p, S[(k + i) % S.length]? = some p := ⟨_, List.getElem?_eq_getElem hmod⟩
      have hpT : T[i]? = some p := (HG.out i hlt).trans hp
      obtain ⟨g, off, hidx, hgl, hc0, hc1⟩ := p_at (SlK.keptNone H.out hk) p3sT hp
      rw [show (((k + i) % S.length : Nat) : Int) = ((k : Int) + (i : Int)) % (S.length : Int) by push_cast; rfl] at hidx
      have hnx := uniq_take hpT
      have hul := uniq_len ((T.take i).map (·.2)) []
      rw [List.length_map, List.length_take] at hul
      simp only [List.length_nil] at hul
      have hzn : ¬ (S.length : Int) = 0 := by omega
      generalize uniq [] ((T.take i).map (·.2)) = U at *
      obtain ⟨p1, p2⟩ := p
      simp only at hc0 hc1 hnx
      have HNX := Lib.hid hnx
      have HO := Lib.hid hown
      have hsU := Sl.of_own hown
      obtain ⟨AU, cU, rfl, -, -⟩ := hsU.shape
      have HH := Lib.hid (R3Has_at (s := p2) hsU (by omega))
      have hul2 : U.length ≤ 1000 := by omega
      clear hij hown hk hp hpT hnx hsU hul
      cases hh : has U p2 with
      | true =>
        rw [hh] at HH
        have e1 : uniq [] ((T.take (i + 1)).map (·.2)) = U := by have := HNX.out; rw [hh] at this; exact this
        have E1 := Lib.hid e1
        clear e1 hh
        go_wp2_with fail
        refine HH.out.mono ?_
        rintro e w4 ⟨rfl, rfl⟩
        go_wp2
        go_roundg (S.length - (i + 1))
        case measure => have := HIJ.out; omega
        case rel =>
          have hij := HIJ.out
          refine ⟨i + 1, by omega, by go_num, ?_, HK.out⟩
          rw [E1.out]; exact HO.out
      | false =>
        rw [hh] at HH
        have e1 : uniq [] ((T.take (i + 1)).map (·.2)) = U ++ [p2] := by have := HNX.out; rw [hh] at this; exact this
        have E1 := Lib.hid e1
        clear e1 hh
        go_wp2_with fail
        refine HH.out.mono ?_
        rintro e w4 ⟨rfl, rfl⟩
        go_wp2_with (at_builtin; go_must (refine wpList_append_sl _ strsT rfl (.tmp 32) (.tmp 34) rfl wz.heap.size _ U.length (U.map Value.string) rfl (HO.out.alloc _) _ 1 [.string p2] rfl (Sl.made_at (Blk.new_at _ _ _ rfl) _ rfl rfl one_max) (by simp [Value.oneCell']) ?d1 ?d2 ?_))
        case d1 => omega
        case d2 => first | omega | (simp; omega)
        intro v' w5 hap
        have HK5 := Lib.hid (hap.below (HO.out.alloc _) (HK.out.alloc _) (Nat.le_refl _))
        have HO5 := Lib.hid hap.own
        clear hap
        go_wp2
        go_roundg (S.length - (i + 1))
        case measure => have := HIJ.out; omega
        case rel =>
          have hij := HIJ.out
          refine ⟨i + 1, by omega, by go_num, ?_, HK5.out⟩
          rw [E1.out]; simpa using HO5.out
    · obtain rfl : i = S.length := by have := HIJ.out; omega
      rw [← HTL.out, List.take_length, ← HW.out] at hown
      have HS := Lib.hid (Sl.of_own hown)
      clear hown hk hij
      go_wp2
      go_ret
      exact ⟨_, rfl, HS.out, HK.out⟩
end Go.Proofs.Ytjdjfikeiphgpaa

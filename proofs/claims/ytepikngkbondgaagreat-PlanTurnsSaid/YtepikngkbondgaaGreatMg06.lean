/- ring.Walk · The reference of chapter 13: its places' type; a walk of no ring · The reference of chapter 13: at, Has, Walk · replica: the picture of its heap: the chooser, its centers, each with its racks and the hosts that wait; who owns which block · replica: (*center).all, (*chooser).take · replica: the steps of the picture: a host goes out, a host waits, one more is taken, a rack is marked · replica: (*chooser).take · replica: (*chooser).host · replica: (*chooser).host as one step · slices.Backward over a row of sites: the iterator's contract · replica.Network: its stages, plainly; a new center; the picture at the start · replica.Network: the walk. -/
import Derived.Test.YtepikngkbondgaaGreatMg05
import Derived.Test.YtepikngkbondgaaGreatMg02
import Derived.Laws.StructEq
import Derived.Laws.IdiomRangeMap
import Derived.Maps.RangeRun
import Derived.RangeFuncNested
import Derived.RangeFuncBound
import Derived.RangeFuncCalls
import Derived.RangeFuncLeaves
import Derived.Shelf.Abstract
import Derived.Shelf.RegionOpen
import Derived.OwnWalkIn
import Derived.TacticsInMore
import Derived.LoopNIn
import Derived.LoopIn
import Derived.RangeFuncBox
import Derived.RangeFuncWrites
import Derived.Maps.AppendAt
namespace Go.Proofs.YtepikngkbondgaaGreat
set_option linter.unusedVariables false
open Go.RowKit
open Go.ChangeMaps (setBlock)

abbrev SMap := KMap (β := Bool) .string (fun s : ByteArray => Value.string s) Value.bool
def marks (l : List ByteArray) : List (ByteArray × Bool) := l.map fun h => (h, true)
theorem marks_get (l : List ByteArray) (h : ByteArray) : aget h (marks l) = if has l h then some true else none := by
  induction l with
  | nil => rfl
  | cons a t ih =>
    unfold marks at ih ⊢
    rw [List.map_cons, aget, ih]
    unfold has
    rw [List.any_cons]
    by_cases e : a = h
    · simp [e]
    · rw [decide_eq_false e, Bool.false_or, if_neg e]

theorem marks_append (l : List ByteArray) (h : ByteArray) : marks (l ++ [h]) = marks l ++ [(h, true)] := by simp [marks]
theorem marks_put {l : List ByteArray} {h : ByteArray} (hh : has l h = false) : aput h true (marks l) = marks (l ++ [h]) := by
  have := marks_get l h
  rw [hh] at this
  rw [aput_none (aget_eq_none.1 this), marks_append]
theorem uniq_take {T : List Pl} {i : Nat} {p : Pl} (hp : T[i]? = some p) : uniq [] ((T.take (i + 1)).map (·.2)) = if has (uniq [] ((T.take i).map (·.2))) p.2 then uniq [] ((T.take i).map (·.2)) else uniq [] ((T.take i).map (·.2)) ++ [p.2] := by
  rw [List.take_add_one, hp, List.map_append, uniq_append]
  show uniq _ [p.2] = _
  rw [uniq]
  split <;> rfl
theorem uniq_len : ∀ (l out : List ByteArray), (uniq out l).length ≤ out.length + l.length
  | [], out => by simp [uniq]
  | a :: t, out => by
    rw [uniq]
    split
    · have := uniq_len t out; simp only [List.length_cons]; omega
    · have := uniq_len t (out ++ [a]); simp only [List.length_append, List.length_cons, List.length_nil] at this ⊢; omega
section
variable {w w' : World} {base m : Nat} {e : TypeId} {sz k n : Nat} {v v' : Value} {xs ys : List Value} {M : List (ByteArray × Bool)}
theorem SMap.appended (hm : SMap w m M) (h : Appended w w' base e sz v v' k xs) (ho : w.ownsRow base e sz v n ys) : SMap w' m M :=
  hm.kept h.kept fun hv => by
    obtain ⟨_, cs, hh⟩ := own_type ho hv
    obtain ⟨es, ck, hm'⟩ := hm.heap
    rw [hm'] at hh; cases hh
theorem Kept.appended {S : Nat → Prop} {w0 : World} (hk : Kept S w0 w) (h : Appended w w' base e sz v v' k xs) (ho : w.ownsRow base e sz v n ys) (hb : w0.heap.size ≤ base) : Kept S w0 w' := h.below ho hk hb
end

set_option maxHeartbeats 4000000 in
set_option maxRecDepth 100000 in
theorem Rwalk_own {w : World} {g : Nat} {S : List Pl} {t : Int} (h : RingAt w g S) (hr : rising S) (hn : S.length ≤ 1000) :
    Calls Tryz.prog 45 #[.pointer (some ⟨g, 0, none⟩), .int .i64 t] w fun e w' => ∃ v, e = .returned v ∧ w'.ownsRow w.heap.size 9 1 v (rwalk S t).length ((rwalk S t).map Value.string) ∧ Kept noBlock w w' := by
  have HA := Lib.hid (Rat_at (t := t) h hr (by omega))
  have H := Lib.hid h
  have hgl : g < w.heap.size := by obtain ⟨_, _, hb, _⟩ := h; exact hb.lt
  have hrl : rat S t ≤ S.length := by unfold rat; have := below_le S t; split <;> omega
  have HT := Lib.hid (show turned S t = S.drop (rat S t) ++ S.take (rat S t) from rfl)
  have HW := Lib.hid (show rwalk S t = uniq [] ((turned S t).map (·.2)) from rfl)
  have hTl := turned_length S t
  generalize rwalk S t = R at *
  generalize turned S t = T at *
  generalize rat S t = k at *
  have hTn : T.length ≤ 1000 := by omega
  clear h hr hTl
  go_enter Tryz.func45, Tryz.ntmps45
  go_wp2_with fail
  go_at_call 61
  refine HA.out.mono ?_
  rintro e w1 ⟨rfl, hk1⟩
  have HK1 := Lib.hid hk1
  clear hk1 HA
  have hmk := @run_makeMap Tryz.prog
  go_wp2_with fail
  clear hmk
  have hmap : SMap (w1.alloc (.map #[] 0)) w1.heap.size (marks []) := KMap.new w1
  obtain ⟨A, c, hb, hs⟩ := H.out.kept (HK1.out.alloc (.map #[] 0))
  have hk2 := HK1.out.alloc (.map #[] 0)
  have hz1 := hk2.size
  rw [sz_alloc] at hz1
  have hbm : w1.heap.size < (w1.alloc (.map #[] 0)).heap.size := by rw [sz_alloc]; omega
  have hzb := HK1.out.size
  have HMAP := Lib.hid hmap
  have HB := Lib.hid hb
  have HS := Lib.hid hs
  have HK2 := Lib.hid hk2
  obtain ⟨A1, c1, hfrom, hs1⟩ := hs.run_from psT (i := (k : Int)) (k := k) rfl hrl
  obtain ⟨A2, c2, hto, hs2⟩ := hs.run_to psT (i := (k : Int)) (k := k) rfl hrl
  have e1 : (S.flatMap pC).take (k * 2) = (S.take k).flatMap pC := by
    conv => lhs; rw [← List.take_append_drop k S]
    rw [List.flatMap_append, List.take_left' (by rw [pC_len, List.length_take]; congr 1; omega)]
  have e2 : (S.flatMap pC).drop (k * 2) = (S.drop k).flatMap pC := by
    conv => lhs; rw [← List.take_append_drop k S]
    rw [List.flatMap_append, List.drop_left' (by rw [pC_len, List.length_take]; congr 1; omega)]
  rw [e2] at hs1
  rw [e1] at hs2
  have HS1 := Lib.hid hs1
  have HS2 := Lib.hid hs2
  have hld : (S.drop k).length = S.length - k := List.length_drop
  have hlt : (S.take k).length = k := by rw [List.length_take]; omega
  have HLD := Lib.hid hld
  have HLT := Lib.hid hlt
  clear hmap hb hs hk2 hs1 hs2 e1 e2 hld hlt
  generalize hmm : w1.heap.size = m at *
  have hMM := Lib.hid hmm
  clear hmm
  generalize w1.alloc (.map #[] 0) = w2 at *
  refine wp_region_sch (fun w' => Kept noBlock w2 w') (.take 0 (.take 1 (.take 2 (.take 3 (.take 4 (.take 5 (.take 6 (.take 7 (.take 8 (.take 9 (.take 10 (.take 11 (.take 15 (.one 12 (.one 13 (.take 14 .nil)))))))))))))))) (by kernel_rfl) (by kernel_rfl) (by kernel_rfl) (Kept.refl _ _).drew ?_
  repeat (first
    | (refine sch_takeE rfl rfl ?_
       apply Exists.intro
       refine ⟨fun w' hS => ?_, fun K hK => ?_⟩
       · (have z0 := (HB.out.kept hS (fun h => h)).cell 0
          simp only [List.getElem?_toArray, List.getElem?_cons_zero] at z0
          clear hS
          unfold takesAt; go_simp; rfl)
       go_simp
       refine hK _ ?_
       clear hK K))
  refine sch_doK rfl rfl (fun K hK => ?_)
  go_simp
  refine hK _ _ (((Kept.refl noBlock w2).alloc _).drew) ?_
  clear hK K
  refine sch_doK rfl rfl (fun K hK => ?_)
  go_simp
  go_at_call 62
  have hk3 := ((Kept.refl noBlock w2).alloc (.cells #[.slice A1 (S.length - k) c1, .slice A2 k c2] 101)).drew
  refine (PConcat_at (L1 := S.drop k) (L2 := S.take k) (gb := w2.heap.size) (v1 := .slice A1 (S.length - k) c1) (v2 := .slice A2 k c2) ((Blk.new w2 101 #[.slice A1 (S.length - k) c1, .slice A2 k c2]).drew) (by rw [HLD.out]; exact SlK.keptNone HS1.out hk3) (by rw [HLT.out]; exact SlK.keptNone HS2.out hk3) (by rw [HLD.out, HLT.out]; omega)).mono ?_
  rintro e w4 ⟨v4, rfl, hs4, hk4⟩
  have hk5 := hk3.trans hk4 (fun _ _ h => h)
  rw [← HT.out] at hs4
  obtain ⟨A4, c4, rfl, -, -⟩ := hs4.shape
  refine hK _ _ hk5 ?_
  clear hK K
  have hlen := hs4.run_len psT
  have HS4 := Lib.hid hs4
  have HK4 := Lib.hid (HK2.out.trans hk5 (fun _ _ h => h))
  have hmap4 := HMAP.out.kept hk5 (fun h => h)
  have hz4 := hk5.size
  have START := Lib.hid (show ∃ i : Nat, i + T.length = T.length ∧ (Value.int .i64 0) = .int .i64 i ∧ Kept noBlock w w4 ∧ Sl w4 104 2 (.slice A4 T.length c4) T.length (T.flatMap pC) ∧ SMap w4 m (marks (uniq [] ((T.take i).map (·.2)))) ∧ w4.ownsRow w.heap.size 9 1 (.slice none 0 0) (uniq [] ((T.take i).map (·.2))).length ((uniq [] ((T.take i).map (·.2))).map Value.string) from
    ⟨0, by omega, rfl, HK4.out, HS4.out, hmap4, World.ownsRow_nil _ _ _ _⟩)
  clear hs4 hk3 hk4 hk5 hmap4 HMAP HB HS HK2 HS1 HS2 hfrom hto HT
  repeat (first
    | (refine sch_takeE rfl rfl ?_
       apply Exists.intro
       refine ⟨fun w' hS => ?_, fun K hK => ?_⟩
       · (unfold takesAt; go_simp; rfl)
       go_simp
       refine hK _ ?_
       clear hK K))
  refine sch_nil (NoPanic.normal ?_)
  go_wp2_with fail
  go_loopg [6, 31] T.length (fun j vo vi wr => ∃ i : Nat, i + j = T.length ∧ vi = .int .i64 i ∧ Kept noBlock w wr ∧ Sl wr 104 2 (.slice A4 T.length c4) T.length (T.flatMap pC) ∧ SMap wr m (marks (uniq [] ((T.take i).map (·.2)))) ∧ wr.ownsRow w.heap.size 9 1 vo (uniq [] ((T.take i).map (·.2))).length ((uniq [] ((T.take i).map (·.2))).map Value.string))
  case atStart => exact START.out
  case round =>
    obtain ⟨i, hij, rfl, hk, hs, hmap, hown⟩ := hrel
    have HIJ := Lib.hid hij
    have HK := Lib.hid hk
    have HS := Lib.hid hs
    clear START HS4 HK4
    by_cases hlt : i < T.length
    · obtain ⟨p, hp⟩ : ∃ p, T[i]? = some p := ⟨_, List.getElem?_eq_getElem hlt⟩
      obtain ⟨go_, oo, hidx, hgl2, hc0, hc1⟩ := p_at hs psT hp
      have hnx := uniq_take hp
      have hul := uniq_len ((T.take i).map (·.2)) []
      rw [List.length_map, List.length_take] at hul
      simp only [List.length_nil] at hul
      generalize uniq [] ((T.take i).map (·.2)) = U at *
      obtain ⟨p1, p2⟩ := p
      simp only at hc0 hc1 hnx
      have HNX := Lib.hid hnx
      have hmapA := hmap.alloc (.cells #[.int .i64 p1, .string p2] 104)
      have hlk := hmapA.run_lookup string_emb msbM strU (zero_bool _) p2 false
      rw [marks_get] at hlk
      have hzr := hk.size
      have hownA := hown.alloc (.cells #[.int .i64 p1, .string p2] 104)
      have hsA := hs.alloc (.cells #[.int .i64 p1, .string p2] 104)
      have hkA := hk.alloc (.cells #[.int .i64 p1, .string p2] 104)
      cases hh : has U p2 with
      | true =>
        rw [hh] at hlk
        have e1 : uniq [] ((T.take (i + 1)).map (·.2)) = U := by have := HNX.out; rw [hh] at this; exact this
        have E1 := Lib.hid e1
        have REL := Lib.hid (⟨hkA, hsA, hmapA, hownA⟩ : Kept noBlock w (wr.alloc (.cells #[.int .i64 p1, .string p2] 104)) ∧ Sl _ 104 2 (.slice A4 T.length c4) T.length (T.flatMap pC) ∧ SMap _ m (marks U) ∧ World.ownsRow _ w.heap.size 9 1 _ U.length (U.map Value.string))
        simp only [if_true, Option.map_some, Option.getD_some, Bool.false_eq_true, if_false] at hlk
        clear hp hnx hmap hown hs hk hmapA hownA hsA hkA hh e1 hij
        go_wp2
        go_roundg (T.length - (i + 1))
        case measure => have := HIJ.out; omega
        case rel =>
          have hij := HIJ.out
          refine ⟨i + 1, by omega, by go_num, REL.out.1, REL.out.2.1, ?_, ?_⟩
          · rw [E1.out]; exact REL.out.2.2.1
          · rw [E1.out]; exact REL.out.2.2.2
      | false =>
        rw [hh] at hlk
        have e1 : uniq [] ((T.take (i + 1)).map (·.2)) = U ++ [p2] := by have := HNX.out; rw [hh] at this; exact this
        have E1 := Lib.hid e1
        obtain ⟨es, ck, hup, hmapB⟩ := hmapA.run_update string_emb msbM strU p2 true
        obtain ⟨hx1, hx2, hx3⟩ := hmapA.rules es ck
        rw [marks_put hh] at hmapB
        obtain ⟨es0, ck0, hm0⟩ := hmapA.heap
        have hownB := own_setBlock hownA hm0 (.map es ck)
        have hsB := SlK.setBlock hsA hm0 (.map es ck)
        have hkB := hkA.setBlock (m := m) (fun hlt => by omega) (.map es ck)
        simp only [if_false, Option.map_none, Option.getD_none, Bool.false_eq_true, if_false] at hlk
        have hpl : ((wr.alloc (.cells #[.int .i64 p1, .string p2] 104)).cell? ⟨wr.heap.size, 1, none⟩) = some (.string p2) := (Blk.new wr 104 #[.int .i64 p1, .string p2]).cell 1
        have HMB := Lib.hid hmapB
        have HOB := Lib.hid hownB
        have HSB := Lib.hid hsB
        have HKB := Lib.hid hkB
        have HKey := Lib.hid (hx3.trans (sz_alloc _ _))
        clear hp hnx hmap hown hs hk hmapA hownA hsA hkA hh e1 hij hmapB hownB hsB hkB hm0 hpl
        go_wp2_with (at_builtin; go_must (refine wpList_append_sl _ strsT rfl (.tmp 43) (.tmp 46) rfl w.heap.size _ U.length (U.map Value.string) rfl (HOB.out.alloc _) _ 1 [.string p2] rfl (Sl.made_at (Blk.new_at _ _ _ HKey.out.symm) _ rfl rfl one_max) (by simp [Value.oneCell']) ?d1 ?d2 ?_))
        case d1 => omega
        case d2 => first | omega | (simp; omega)
        intro v' w5 hap
        have hb5 := hap.below (HOB.out.alloc _) (HKB.out.alloc _) (Nat.le_refl _)
        have hs5 := Sl.appended (HSB.out.alloc _) hap (HOB.out.alloc _) (by decide)
        have hm5 := SMap.appended (HMB.out.alloc _) hap (HOB.out.alloc _)
        have REL := Lib.hid (⟨hb5, hs5, hm5, hap.own⟩ : Kept noBlock w w5 ∧ Sl w5 104 2 (.slice A4 T.length c4) T.length (T.flatMap pC) ∧ SMap w5 m (marks (U ++ [p2])) ∧ World.ownsRow w5 w.heap.size 9 1 v' (U.length + 1) (U.map Value.string ++ [.string p2]))
        clear hb5 hs5 hm5 hap hup hlk hx1 hx2 hx3
        go_wp2
        go_roundg (T.length - (i + 1))
        case measure => have := HIJ.out; omega
        case rel =>
          have hij := HIJ.out
          refine ⟨i + 1, by omega, by go_num, REL.out.1, REL.out.2.1, ?_, ?_⟩
          · rw [E1.out]; exact REL.out.2.2.1
          · rw [E1.out]; simpa using REL.out.2.2.2
    · obtain rfl : i = T.length := by have := HIJ.out; omega
      rw [List.take_length, ← HW.out] at hown
      have HFIN := Lib.hid hown
      clear hij hk hs hmap hown HS HIJ
      go_wp2
      go_ret
      exact ⟨_, rfl, HFIN.out, HK.out⟩
theorem Rwalk_at {w : World} {g : Nat} {S : List Pl} {t : Int} (h : RingAt w g S) (hr : rising S) (hn : S.length ≤ 1000) :
    Calls Tryz.prog 45 #[.pointer (some ⟨g, 0, none⟩), .int .i64 t] w fun e w' => ∃ v, e = .returned v ∧ Sl w' 9 1 v (rwalk S t).length ((rwalk S t).map Value.string) ∧ Kept noBlock w w' :=
  (Rwalk_own h hr hn).mono fun _ _ ⟨v, h1, h2, h3⟩ => ⟨v, h1, Sl.of_own h2, h3⟩
end Go.Proofs.YtepikngkbondgaaGreat
namespace Go.Proofs.YtepikngkbondgaaGreat
set_option linter.unusedVariables false
open Go.RowKit

theorem p3sT : SlT Tryz.prog 70 120 (.agg #[.int .i64 0, .string noStr]) 2 24 := ⟨Tryz.underlying70, by kernel_rfl, rfl, by decide, by decide⟩
theorem RwalkN_at (t : Int) (w : World) : Calls Tryz.prog 45 #[.pointer none, .int .i64 t] w fun e w' => e = .returned (.slice none 0 0) ∧ w' = w := by
  go_enter Tryz.func45, Tryz.ntmps45
  go_wp2
  go_ret
  exact ⟨rfl, rfl⟩
end Go.Proofs.YtepikngkbondgaaGreat
namespace Go.Proofs.YtepikngkbondgaaGreat
set_option linter.unusedVariables false
open Go.RowKit

set_option maxHeartbeats 1000000 in
set_option maxRecDepth 100000 in
theorem R3at_at {w : World} {v : Value} {S : List Pl} {t : Int} (h : Sl w 120 2 v S.length (S.flatMap pC)) (hr : rising S) (hn : S.length ≤ 1000) :
    Calls Tryz.prog 74 #[v, .int .i64 t] w fun e w' => e = .returned (.int .i64 (rat S t)) ∧ w' = w := by
  obtain ⟨A, c, rfl, -, -⟩ := h.shape
  have hlen := h.run_len p3sT
  have H := Lib.hid h
  have HB := Lib.hid (below_spec hr t)
  have hble := below_le S t
  have HR := Lib.hid (show rat S t = if below S t < S.length then below S t else 0 from rfl)
  generalize rat S t = r at *
  generalize below S t = k at *
  clear h hr
  go_enter Tryz.func74, Tryz.ntmps74
  go_wp2_with fail
  go_loopg [5] S.length (fun j vi wr => ∃ i : Nat, i + j = S.length ∧ vi = .int .i64 i ∧ i ≤ k ∧ wr = w)
  case atStart => exact ⟨0, by omega, rfl, Nat.zero_le _, rfl⟩
  case round =>
    obtain ⟨i, hij, rfl, hik, rfl⟩ := hrel
    by_cases hlt : i < S.length
    · obtain ⟨p, hp⟩ : ∃ p, S[i]? = some p := ⟨_, List.getElem?_eq_getElem hlt⟩
      obtain ⟨g, off, hidx, hgl, hc0, hc1⟩ := p_at H.out p3sT hp
      have hb := HB.out i p hp
      obtain ⟨p1, p2⟩ := p
      simp only at hc0 hc1 hb
      have HB2 := Lib.hid hb
      clear hp hb
      by_cases hpt : p1 < t
      · have := HB2.out.1 hpt
        go_wp2
        go_roundg (S.length - (i + 1))
        case measure => omega
        case rel => exact ⟨i + 1, by omega, by go_num, by omega, rfl⟩
      · have hk : ¬ i < k := fun e => hpt (HB2.out.2 e)
        have hrr : r = i := by rw [HR.out, if_pos (by omega)]; omega
        have HRR := Lib.hid hrr
        clear hrr
        go_wp2
        go_ret
        exact ⟨by rw [HRR.out]; rfl, rfl⟩
    · have hrr : r = 0 := by rw [HR.out, if_neg (by omega)]
      have HRR := Lib.hid hrr
      clear hrr
      go_wp2
      go_ret
      exact ⟨by rw [HRR.out]; rfl, rfl⟩

set_option maxHeartbeats 1000000 in
set_option maxRecDepth 100000 in
theorem R3Has_at {w : World} {ok : Nat → TypeId → Prop} {v : Value} {l : List ByteArray} {s : ByteArray} (h : SlK w ok 1 v l.length (l.map Value.string)) (hn : l.length ≤ 100000) :
    Calls Tryz.prog 18 #[v, .string s] w fun e w' => e = .returned (.bool (has l s)) ∧ w' = w := by
  obtain ⟨A, c, rfl, -, -⟩ := h.shape
  have hlen := h.run_len strsT
  have H := Lib.hid h
  have HB := Lib.hid (fun i x (hx : l[i]? = some x) => (show has (l.take (i + 1)) s = (has (l.take i) s || decide (x = s)) by rw [List.take_add_one, hx, has_append]; simp [has]))
  have HM := Lib.hid (fun i x (hx : l[i]? = some x) => (fun e => has_iff.2 (e ▸ List.mem_of_getElem? hx) : x = s → has l s = true))
  clear h
  go_enter Tryz.func18, Tryz.ntmps18
  go_wp2_with fail
  go_loopg [5] l.length (fun j vi wr => ∃ i : Nat, i + j = l.length ∧ vi = .int .i64 i ∧ has (l.take i) s = false ∧ wr = w)
  case atStart => exact ⟨0, by omega, rfl, rfl, rfl⟩
  case round =>
    obtain ⟨i, hij, rfl, hh, rfl⟩ := hrel
    have HH := Lib.hid hh
    clear hh
    by_cases hlt : i < l.length
    · obtain ⟨x, hx⟩ : ∃ x, l[i]? = some x := ⟨_, List.getElem?_eq_getElem hlt⟩
      obtain ⟨g, off, hidx, hgl, hc0⟩ := str_at H.out hx
      have hb := HB.out i x hx
      have hm := HM.out i x hx
      have HB2 := Lib.hid hb
      have HM2 := Lib.hid hm
      clear hx hb hm
      by_cases hxs : x = s
      · have hres := HM2.out hxs
        subst hxs
        have HRES := Lib.hid hres
        have hbe := strEq_self x
        clear hres
        go_wp2
        go_ret
        exact ⟨by rw [HRES.out]; rfl, rfl⟩
      · have hbe := strEq_ne hxs
        have hnx : has (l.take (i + 1)) s = false := by rw [HB2.out, HH.out]; simp [hxs]
        have HNX := Lib.hid hnx
        clear hnx
        go_wp2
        go_roundg (l.length - (i + 1))
        case measure => omega
        case rel => exact ⟨i + 1, by omega, by go_num, HNX.out, rfl⟩
    · obtain rfl : i = l.length := by omega
      have hres : has l s = false := by have := HH.out; rw [List.take_length] at this; exact this
      have HRES := Lib.hid hres
      clear hres
      go_wp2
      go_ret
      exact ⟨by rw [HRES.out]; rfl, rfl⟩

set_option maxHeartbeats 2000000 in
set_option maxRecDepth 100000 in
theorem R3Walk_at {w : World} {v : Value} {S : List Pl} {t : Int} (h : Sl w 120 2 v S.length (S.flatMap pC)) (hr : rising S) (hn : S.length ≤ 1000) :
    Calls Tryz.prog 49 #[v, .int .i64 t] w fun e w' => ∃ v', e = .returned v' ∧ Sl w' 9 1 v' (rwalk S t).length ((rwalk S t).map Value.string) ∧ Kept noBlock w w' := by
  obtain ⟨A, c, rfl, -, -⟩ := h.shape
  have hlen := h.run_len p3sT
  have HA := Lib.hid (R3at_at (t := t) h hr hn)
  have H := Lib.hid h
  have HW := Lib.hid (show rwalk S t = uniq [] ((turned S t).map (·.2)) from rfl)
  have HG := Lib.hid (fun i hi => turned_get (S := S) (t := t) (i := i) hi)
  have HTL := Lib.hid (turned_length S t)
  have hrl : rat S t ≤ S.length := by unfold rat; have := below_le S t; split <;> omega
  generalize rwalk S t = R at *
  generalize turned S t = T at *
  generalize rat S t = k at *
  clear h hr
  go_enter Tryz.func49, Tryz.ntmps49
  go_wp2_with fail
  go_at_call 74
  refine HA.out.mono ?_
  rintro e w1 ⟨rfl, rfl⟩
  clear HA
  go_wp2_with fail
  obtain ⟨wz, hwz⟩ : ∃ wz, wz = w1 := ⟨w1, rfl⟩
  subst hwz
  go_loopg [5, 7] S.length (fun j vo vi wr => ∃ i : Nat, i + j = S.length ∧ vi = .int .i64 i ∧ wr.ownsRow wz.heap.size 9 1 vo (uniq [] ((T.take i).map (·.2))).length ((uniq [] ((T.take i).map (·.2))).map Value.string) ∧ Kept noBlock wz wr)
  case atStart => exact ⟨0, by omega, rfl, World.ownsRow_nil _ _ _ _, Kept.refl _ _⟩
  case round =>
    obtain ⟨i, hij, rfl, hown, hk⟩ := hrel
    have HIJ := Lib.hid hij
    have HK := Lib.hid hk
    have hz := hk.size
    by_cases hlt : i < S.length
    · have hmod : (k + i) % S.length < S.length := Nat.mod_lt _ (by omega)
      obtain ⟨p, hp⟩ : ∃ p, S[(k + i) % S.length]? = some p := ⟨_, List.getElem?_eq_getElem hmod⟩
      have hpT : T[i]? = some p := (HG.out i hlt).trans hp
      obtain ⟨g, off, hidx, hgl, hc0, hc1⟩ := p_at (SlK.keptNone H.out hk) p3sT hp
      rw [show (((k + i) % S.length : Nat) : Int) = ((k : Int) + (i : Int)) % (S.length : Int) by push_cast; rfl] at hidx
      have hnx := uniq_take hpT
      have hul := uniq_len ((T.take i).map (·.2)) []
      rw [List.length_map, List.length_take] at hul
      simp only [List.length_nil] at hul
      have hzn : ¬ (S.length : Int) = 0 := by omega
      generalize uniq [] ((T.take i).map (·.2)) = U at *
      obtain ⟨p1, p2⟩ := p
      simp only at hc0 hc1 hnx
      have HNX := Lib.hid hnx
      have HO := Lib.hid hown
      have hsU := Sl.of_own hown
      obtain ⟨AU, cU, rfl, -, -⟩ := hsU.shape
      have HH := Lib.hid (R3Has_at (s := p2) hsU (by omega))
      have hul2 : U.length ≤ 1000 := by omega
      clear hij hown hk hp hpT hnx hsU hul
      cases hh : has U p2 with
      | true =>
        rw [hh] at HH
        have e1 : uniq [] ((T.take (i + 1)).map (·.2)) = U := by have := HNX.out; rw [hh] at this; exact this
        have E1 := Lib.hid e1
        clear e1 hh
        go_wp2_with fail
        refine HH.out.mono ?_
        rintro e w4 ⟨rfl, rfl⟩
        go_wp2
        go_roundg (S.length - (i + 1))
        case measure => have := HIJ.out; omega
        case rel =>
          have hij := HIJ.out
          refine ⟨i + 1, by omega, by go_num, ?_, HK.out⟩
          rw [E1.out]; exact HO.out
      | false =>
        rw [hh] at HH
        have e1 : uniq [] ((T.take (i + 1)).map (·.2)) = U ++ [p2] := by have := HNX.out; rw [hh] at this; exact this
        have E1 := Lib.hid e1
        clear e1 hh
        go_wp2_with fail
        refine HH.out.mono ?_
        rintro e w4 ⟨rfl, rfl⟩
        go_wp2_with (at_builtin; go_must (refine wpList_append_sl _ strsT rfl (.tmp 32) (.tmp 34) rfl wz.heap.size _ U.length (U.map Value.string) rfl (HO.out.alloc _) _ 1 [.string p2] rfl (Sl.made_at (Blk.new_at _ _ _ rfl) _ rfl rfl one_max) (by simp [Value.oneCell']) ?d1 ?d2 ?_))
        case d1 => omega
        case d2 => first | omega | (simp; omega)
        intro v' w5 hap
        have HK5 := Lib.hid (hap.below (HO.out.alloc _) (HK.out.alloc _) (Nat.le_refl _))
        have HO5 := Lib.hid hap.own
        clear hap
        go_wp2
        go_roundg (S.length - (i + 1))
        case measure => have := HIJ.out; omega
        case rel =>
          have hij := HIJ.out
          refine ⟨i + 1, by omega, by go_num, ?_, HK5.out⟩
          rw [E1.out]; simpa using HO5.out
    · obtain rfl : i = S.length := by have := HIJ.out; omega
      rw [← HTL.out, List.take_length, ← HW.out] at hown
      have HS := Lib.hid (Sl.of_own hown)
      clear hown hk hij
      go_wp2
      go_ret
      exact ⟨_, rfl, HS.out, HK.out⟩
end Go.Proofs.YtepikngkbondgaaGreat
namespace Go.Proofs.YtepikngkbondgaaGreat
set_option linter.unusedVariables false
open Go.RowKit

/-- A site: its host, its center, its rack. -/
abbrev Si := ByteArray × ByteArray × ByteArray
def sC (s : Si) : List Value := [.string s.1, .string s.2.1, .string s.2.2]
def sV (s : Si) : Value := .agg #[.string s.1, .string s.2.1, .string s.2.2]
abbrev Fa := ByteArray × Int
def fC (f : Fa) : List Value := [.string f.1, .int .i64 f.2]
theorem sitesT : SlT Tryz.prog 64 66 (.agg #[.string noStr, .string noStr, .string noStr]) 3 48 := ⟨Tryz.underlying64, by kernel_rfl, rfl, by decide, by decide⟩
theorem facsT : SlT Tryz.prog 23 78 (.agg #[.string noStr, .int .i64 0]) 2 24 := ⟨Tryz.underlying23, by kernel_rfl, rfl, by decide, by decide⟩
theorem msiM : Tryz.prog.underlying 108 = some (.map 9 66) := by kernel_rfl
theorem mceM : Tryz.prog.underlying 109 = some (.map 9 115) := by kernel_rfl
abbrev SiMap := KMap (β := Si) .string (fun s : ByteArray => Value.string s) sV
abbrev CeMap := KMap (β := Nat) .string (fun s : ByteArray => Value.string s) (fun g => .pointer (some ⟨g, 0, none⟩))

/-- Whose a block is: nobody's that writes, the chooser's, a center's. -/
inductive Own where
  | m | x | c (d : ByteArray)

/-- A center. -/
structure Cr where
  g : Nat
  mr : Nat
  need : Int
  tk : Nat
  racks : List (ByteArray × Bool)
  ws : List ByteArray

structure CrAt (w : World) (base : Nat) (own : Nat → Own) (d : ByteArray) (c : Cr) (vw : Value) : Prop where
  blk : Blk w c.g 117 #[.int .i64 c.need, .int .i64 (c.tk : Nat), .map (some c.mr), vw]
  map : SMap w c.mr c.racks
  row : w.ownsRow base 9 1 vw c.ws.length (c.ws.map Value.string)
  og : own c.g = .c d
  om : own c.mr = .c d
  ow : ∀ k, vw.ownBlock = some k → own k = .c d

section
variable {w w' : World} {base : Nat} {own own' : Nat → Own} {S : Nat → Prop}
/-- What another one does leaves a center as it is. -/
theorem CrAt.kept {d : ByteArray} {c : Cr} {vw : Value} (h : CrAt w base own d c vw) (hk : Kept S w w') (hS : ∀ k, own k = .c d → ¬ S k) (ho : ∀ k, k < w.heap.size → own' k = own k) : CrAt w' base own' d c vw :=
  ⟨h.blk.kept hk (hS _ h.og), h.map.kept hk (hS _ h.om), own_keptB h.row hk fun k e => hS k (h.ow k e), (ho _ h.blk.lt).trans h.og, (ho _ h.map.lt).trans h.om, fun k e => (ho k (own_lt h.row e)).trans (h.ow k e)⟩

/-- The chooser and all that hangs on it. -/
structure ChO (w : World) (base bX mS mC : Nat) (sm : List (ByteArray × Si)) (cs : List (ByteArray × Cr)) (out : List ByteArray) (own : Nat → Own) (vo : Value) : Prop where
  blk : Blk w bX 111 #[.map (some mS), .map (some mC), vo]
  ox : own bX = .x
  sites : SiMap w mS sm
  os : own mS = .m
  cens : CeMap w mC (cs.map fun p => (p.1, p.2.g))
  oc : own mC = .m
  row : w.ownsRow base 9 1 vo out.length (out.map Value.string)
  ow : ∀ k, vo.ownBlock = some k → own k = .x
  nd : (cs.map (·.1)).Nodup
  cr : ∀ p ∈ cs, ∃ vw, CrAt w base own p.1 p.2 vw
  far : ∀ k, own k ≠ .m → k = bX ∨ base ≤ k
  low : base ≤ w.heap.size
  top : ∀ k, w.heap.size ≤ k → own k = .m
  ne : mS ≠ mC

variable {bX mS mC : Nat} {sm : List (ByteArray × Si)} {cs : List (ByteArray × Cr)} {out : List ByteArray} {vo : Value}
/-- A step of one center. -/
theorem ChO.step {d : ByteArray} {c' : Cr} {vw' : Value} (h : ChO w base bX mS mC sm cs out own vo) (hk : Kept S w w') (hS : ∀ k, S k → own k = .c d) (hd : d ∈ cs.map (·.1)) (ho : ∀ k, k < w.heap.size → own' k = own k)
    (hf : ∀ k, own' k ≠ .m → k = bX ∨ base ≤ k) (htop : ∀ k, w'.heap.size ≤ k → own' k = .m) (hg : ∀ c, aget d cs = some c → c'.g = c.g) (hc : CrAt w' base own' d c' vw') : ChO w' base bX mS mC sm (aput d c' cs) out own' vo := by
  have hne : ∀ k o, own k = o → o ≠ .c d → ¬ S k := fun k o e hn hs => hn (e.symm.trans (hS k hs))
  refine ⟨h.blk.kept hk (hne _ _ h.ox (by simp)), (ho _ h.blk.lt).trans h.ox, h.sites.kept hk (hne _ _ h.os (by simp)), (ho _ h.sites.lt).trans h.os, ?_, (ho _ h.cens.lt).trans h.oc,
    own_keptB h.row hk fun k e => hne _ _ (h.ow k e) (by simp), fun k e => (ho k (own_lt h.row e)).trans (h.ow k e), by rw [aput_keys hd]; exact h.nd, ?_, hf, Nat.le_trans h.low hk.size, htop, h.ne⟩
  · rw [aput_map (fun c : Cr => c.g)]
    obtain ⟨⟨d0, c⟩, hm, hd0⟩ := List.mem_map.1 hd
    obtain rfl : d = d0 := hd0.symm
    have e1 := aget_of_mem h.nd hm
    have e2 : aget d (cs.map fun p => (p.1, p.2.g)) = some c.g := by
      refine aget_of_mem (by rw [List.map_map]; exact h.nd) (List.mem_map.2 ⟨_, hm, rfl⟩)
    rw [hg c e1, aput_same e2]
    exact h.cens.kept hk (hne _ _ h.oc (by simp))
  · intro p hp
    rcases mem_aput h.nd hp with rfl | ⟨hp, hne2⟩
    · exact ⟨_, hc⟩
    · obtain ⟨vw, hcr⟩ := h.cr p hp
      refine ⟨vw, hcr.kept hk (fun k e => hne _ _ e (by simpa using hne2)) ho⟩
/-- A step of the chooser alone: its block and its row. -/
theorem ChO.stepX {vo' : Value} {out' : List ByteArray} (h : ChO w base bX mS mC sm cs out own vo) (hk : Kept S w w') (hS : ∀ k, S k → own k = .x) (ho : ∀ k, k < w.heap.size → own' k = own k)
    (hf : ∀ k, own' k ≠ .m → k = bX ∨ base ≤ k) (htop : ∀ k, w'.heap.size ≤ k → own' k = .m) (hb : Blk w' bX 111 #[.map (some mS), .map (some mC), vo']) (hr : w'.ownsRow base 9 1 vo' out'.length (out'.map Value.string)) (how : ∀ k, vo'.ownBlock = some k → own' k = .x) :
    ChO w' base bX mS mC sm cs out' own' vo' := by
  have hne : ∀ k o, own k = o → o ≠ .x → ¬ S k := fun k o e hn hs => hn (e.symm.trans (hS k hs))
  refine ⟨hb, (ho _ h.blk.lt).trans h.ox, h.sites.kept hk (hne _ _ h.os (by simp)), (ho _ h.sites.lt).trans h.os, h.cens.kept hk (hne _ _ h.oc (by simp)), (ho _ h.cens.lt).trans h.oc, hr, how, h.nd, ?_, hf, Nat.le_trans h.low hk.size, htop, h.ne⟩
  intro p hp
  obtain ⟨vw, hcr⟩ := h.cr p hp
  exact ⟨vw, hcr.kept hk (fun k e => hne _ _ e (by simp)) ho⟩
/-- What writes none of it. -/
theorem ChO.kept (h : ChO w base bX mS mC sm cs out own vo) (hk : Kept S w w') (hS : ∀ k, S k → own k = .m ∧ k ≠ mS ∧ k ≠ mC) : ChO w' base bX mS mC sm cs out own vo := by
  have hne : ∀ k o, own k = o → o ≠ .m → ¬ S k := fun k o e hn hs => hn (e.symm.trans (hS k hs).1)
  refine ⟨h.blk.kept hk (hne _ _ h.ox (by simp)), h.ox, h.sites.kept hk (fun hs => (hS _ hs).2.1 rfl), h.os, h.cens.kept hk (fun hs => (hS _ hs).2.2 rfl), h.oc, own_keptB h.row hk fun k e => hne _ _ (h.ow k e) (by simp), h.ow, h.nd, ?_, h.far, Nat.le_trans h.low hk.size, fun k e => h.top k (Nat.le_trans hk.size e), h.ne⟩
  intro p hp
  obtain ⟨vw, hcr⟩ := h.cr p hp
  exact ⟨vw, hcr.kept hk (fun k e => hne _ _ e (by simp)) fun _ _ => rfl⟩
/-- What one that holds the picture may do: owned blocks alone change; what has an owner keeps it. -/
def Step (own own' : Nat → Own) (w w' : World) : Prop := Kept (fun k => own k ≠ .m) w w' ∧ ∀ k, k < w.heap.size → own' k = own k
theorem Step.trans {own'' : Nat → Own} {w'' : World} (h : Step own own' w w') (k : Step own' own'' w' w'') : Step own own'' w w'' :=
  ⟨h.1.trans k.1 fun i hi e => by rw [h.2 i hi] at e; exact e, fun i hi => (k.2 i (Nat.lt_of_lt_of_le hi h.1.size)).trans (h.2 i hi)⟩
theorem Step.of_none (h : Kept noBlock w w') : Step own own w w' := ⟨h.of_none, fun _ _ => rfl⟩
end
end Go.Proofs.YtepikngkbondgaaGreat
namespace Go.Proofs.YtepikngkbondgaaGreat
set_option linter.unusedVariables false
open Go.RowKit
open Go.ChangeMaps (setBlock)

theorem iterSeen_eq {w : World} {r : Nat} {a : Option Nat} {b c : Nat} {s : Array Nat} (h : w.heap[r]? = some (.mapIter a b s c)) : w.iterSeen r = s := by
  unfold World.iterSeen; rw [h]
theorem heap_setBlock_self {w : World} {r : Nat} (h : r < w.heap.size) (o : Obj) : (setBlock w r o).heap[r]? = some o := by
  simp [setBlock, h]
section
variable {w : World} {mr : Nat} {L : List (ByteArray × Bool)} {es : Array MapEntry}
theorem all_val (hL : es.toList.map (fun e => (e.key, e.val)) = L.map (fun p => (Value.string p.1, Value.bool p.2))) {x : MapEntry} (hx : x ∈ es.toList) : ∃ p ∈ L, x.val = .bool p.2 := by
  have : (x.key, x.val) ∈ L.map (fun p => (Value.string p.1, Value.bool p.2)) := hL ▸ List.mem_map.2 ⟨x, hx, rfl⟩
  obtain ⟨p, hp, e⟩ := List.mem_map.1 this
  exact ⟨p, hp, (Prod.mk.inj e).2.symm⟩
theorem val_all (hL : es.toList.map (fun e => (e.key, e.val)) = L.map (fun p => (Value.string p.1, Value.bool p.2))) {p : ByteArray × Bool} (hp : p ∈ L) : ∃ x ∈ es.toList, x.val = .bool p.2 := by
  have : (Value.string p.1, Value.bool p.2) ∈ es.toList.map (fun e => (e.key, e.val)) := hL ▸ List.mem_map.2 ⟨p, hp, rfl⟩
  obtain ⟨x, hx, e⟩ := List.mem_map.1 this
  exact ⟨x, hx, (Prod.mk.inj e).2⟩

set_option maxHeartbeats 1000000 in
set_option maxRecDepth 100000 in
theorem rall_at {g : Nat} {a b vw : Value} (hb : Blk w g 117 #[a, b, .map (some mr), vw]) (hm : SMap w mr L) :
    Calls Tryz.prog 72 #[.pointer (some ⟨g, 0, none⟩)] w fun e w' => e = .returned (.bool (L.all (·.2))) ∧ Kept noBlock w w' := by
  obtain ⟨es, ck, hh, hst, hL⟩ := hm
  have hlt := lt_of_heap hh
  have hrg := run_range_map (P := Tryz.prog) w 81 9 4 mr es ck msbM hh
  have z2 := hb.cell 2
  simp only [List.getElem?_toArray, List.getElem?_cons_succ, List.getElem?_cons_zero] at z2
  have HL := Lib.hid hL
  clear hL hb
  go_enter Tryz.func72, Tryz.ntmps72
  go_wp2
  go_loopw [] (fun wr => Kept noBlock w wr ∧ ∃ seen c0, wr.heap[w.heap.size]? = some (.mapIter (some mr) ck seen c0) ∧ ck ≤ c0 ∧ ∀ x ∈ es.toList, seen.contains x.born = true → x.val = .bool true) (fun wr => (leftOf es (wr.iterSeen w.heap.size)).size)
  case atStart => exact ⟨(Kept.refl _ _).alloc _, #[], ck, heap_alloc_new w _, Nat.le_refl _, fun x _ h => by simp at h⟩
  case round =>
    obtain ⟨hk, seen, c0, hr, hc0, hno⟩ := hrel
    have hb1 : wr.heap[mr]? = some (.map es ck) := (hk.block mr hlt (fun h => h)).trans hh
    have law := run_next_at (P := Tryz.prog) wr 0 w.heap.size mr ck c0 seen es ck hr hb1 hst.1 hc0
    have HK := Lib.hid hk
    rcases law with ⟨h0, hrun⟩ | ⟨e, he, w1, hw1, hrun⟩
    · have hnx : ∀ ty, (Instr.next (.pointer (some ⟨w.heap.size, 0, none⟩)) false ty).run Tryz.prog wr = _ := fun _ => hrun
      clear hk
      go_wp2
      go_ret
      have hall : L.all (·.2) = true := by
        rw [List.all_eq_true]
        intro p hp
        obtain ⟨x, hx, e1⟩ := val_all HL.out hp
        have e2 := hno x hx (all_seen es seen h0 x hx)
        rw [e1] at e2
        exact Value.bool.inj e2
      rw [hall]
      exact ⟨rfl, HK.out⟩
    · have hem := mem_left he
      obtain ⟨p, hp, hv⟩ := all_val HL.out hem.1
      rw [hv] at hrun
      have hnx : ∀ ty, (Instr.next (.pointer (some ⟨w.heap.size, 0, none⟩)) false ty).run Tryz.prog wr = _ := fun _ => hrun
      have hk1 : Kept noBlock w w1 := by
        rcases hw1 with rfl | rfl
        · exact hk
        · exact hk.drew
      have hr1 : w1.heap[w.heap.size]? = some (.mapIter (some mr) ck seen c0) := by rcases hw1 with rfl | rfl <;> exact hr
      have hk2 : Kept noBlock w (setBlock w1 w.heap.size (.mapIter (some mr) ck (seen.push e.born) ck)) := hk1.setBlock (fun h => absurd h (Nat.lt_irrefl _)) _
      have hr2 : (setBlock w1 w.heap.size (.mapIter (some mr) ck (seen.push e.born) ck)).heap[w.heap.size]? = some (.mapIter (some mr) ck (seen.push e.born) ck) := heap_setBlock_self (lt_of_heap hr1) _
      have hb2 := (hk2.block mr hlt (fun h => h)).trans hh
      have hen := run_entry_at (P := Tryz.prog) (setBlock w1 w.heap.size (.mapIter (some mr) ck (seen.push e.born) ck)) w.heap.size mr ck seen es ck e hr2 hb2 hem.1 hst.2.1
      rw [hv] at hen
      have HK2 := Lib.hid hk2
      have HR2 := Lib.hid hr2
      have HR := Lib.hid hr
      clear hk hk1 hk2 hr1 hr2 hb2 hb1 hr
      generalize setBlock w1 w.heap.size (.mapIter (some mr) ck (seen.push e.born) ck) = w2 at *
      cases hp2 : p.2 with
      | true =>
        rw [hp2] at hv hnx hen hrun
        go_wp2
        go_roundw
        case rel =>
          refine ⟨HK2.out, seen.push e.born, ck, HR2.out, Nat.le_refl _, fun x hx hc => ?_⟩
          rw [contains_push] at hc
          rcases Bool.or_eq_true _ _ ▸ hc with h1 | h1
          · exact hno x hx h1
          · have : x = e := born_inj hst.2.1 hx hem.1 (beq_iff_eq.1 h1)
            subst this
            exact hv
        case measure =>
          rw [iterSeen_eq HR2.out, iterSeen_eq HR.out]
          exact left_shrinks es seen e he
      | false =>
        rw [hp2] at hv hnx hen hrun
        go_wp2
        go_ret
        have hall : L.all (·.2) = false := by
          rw [List.all_eq_false]
          exact ⟨p, hp, by simp [hp2]⟩
        rw [hall]
        exact ⟨rfl, HK2.out⟩
end
end Go.Proofs.YtepikngkbondgaaGreat
namespace Go.Proofs.YtepikngkbondgaaGreat
set_option linter.unusedVariables false
open Go.RowKit
open Go.ChangeMaps (setBlock)

section
variable {w W w3 : World} {base bX mS mC : Nat} {sm : List (ByteArray × Si)} {cs : List (ByteArray × Cr)} {out : List ByteArray} {own : Nat → Own} {vo : Value}

theorem row_ne_blk {b g : Nat} {t e : TypeId} {xs : Array Value} {sz n : Nat} {v : Value} {ys : List Value} (hr : w.ownsRow b e sz v n ys) (hb : Blk w g t xs) (hne : t ≠ e) {k : Nat} (hk : v.ownBlock = some k) : k ≠ g := by
  rintro rfl
  obtain ⟨_, cur, hh⟩ := own_type hr hk
  unfold Blk at hb
  rw [hb] at hh
  injection hh with hh
  injection hh with _ h2
  exact hne h2
/-- Who owns what, new blocks given to o. -/
def ownNew (own : Nat → Own) (n n' : Nat) (o : Own) : Nat → Own := fun k => if k < n then own k else if k < n' then o else .m
theorem ownNew_old {own : Nat → Own} {n n' : Nat} {o : Own} {k : Nat} (h : k < n) : ownNew own n n' o k = own k := if_pos h
theorem ownNew_new {own : Nat → Own} {n n' : Nat} {o : Own} {k : Nat} (h : n ≤ k) (h' : k < n') : ownNew own n n' o k = o := by
  unfold ownNew; rw [if_neg (by omega), if_pos h']
theorem ownNew_top {own : Nat → Own} {n n' : Nat} {o : Own} (hn : n ≤ n') {k : Nat} (h : n' ≤ k) : ownNew own n n' o k = .m := by
  unfold ownNew; rw [if_neg (by omega), if_neg (by omega)]
theorem ownNew_far (h : ChO w base bX mS mC sm cs out own vo) (n' : Nat) (o : Own) : ∀ k, ownNew own w.heap.size n' o k ≠ .m → k = bX ∨ base ≤ k := by
  intro k hk
  rcases Nat.lt_or_ge k w.heap.size with h1 | h1
  · rw [ownNew_old h1] at hk; exact h.far k hk
  · exact .inr (Nat.le_trans h.low h1)
theorem ChO.goes {v' : Value} {h : ByteArray} (hO : ChO w base bX mS mC sm cs out own vo) (hk : Kept noBlock w W) (hap : Appended W w3 base 9 1 vo v' (out.length + 1) (out.map Value.string ++ [.string h])) :
    Blk w3 bX 111 #[.map (some mS), .map (some mC), vo] ∧ ChO (w3.setCell ⟨bX, 2, none⟩ v') base bX mS mC sm cs (out ++ [h]) (ownNew own w.heap.size w3.heap.size .x) v' ∧ Kept (fun k => own k = .x) w (w3.setCell ⟨bX, 2, none⟩ v') := by
  have hkap : Kept (fun i => vo.ownBlock = some i) W w3 := hap.kept
  have hk3 : Kept (fun i => vo.ownBlock = some i) w w3 := hk.of_none.trans hkap (fun _ _ h => h)
  have hb3 : Blk w3 bX 111 #[.map (some mS), .map (some mC), vo] := hO.blk.kept hk3 fun e => row_ne_blk hO.row hO.blk (by decide) e rfl
  have hk4 : Kept (fun i => i = bX ∨ vo.ownBlock = some i) w (w3.setCell ⟨bX, 2, none⟩ v') := (hk3.mono fun _ _ e => .inr e).setCell (fun _ => .inl rfl) _
  have hb4 : Blk (w3.setCell ⟨bX, 2, none⟩ v') bX 111 #[.map (some mS), .map (some mC), v'] := hb3.set_ 2 v'
  have hr4 : (w3.setCell ⟨bX, 2, none⟩ v').ownsRow base 9 1 v' (out ++ [h]).length ((out ++ [h]).map Value.string) := by
    rw [List.length_append, List.map_append]
    exact own_keptB hap.own ((Kept.refl (fun k => k = bX) w3).setCell (fun _ => rfl) v') fun k e e2 => row_ne_blk hap.own hb3 (by decide) e e2
  refine ⟨hb3, hO.stepX (own' := ownNew own w.heap.size w3.heap.size .x) hk4 ?_ (fun k h => ownNew_old h) (ownNew_far hO _ _) (fun k e => ownNew_top hk3.size (by rw [sz_setCell] at e; exact e)) hb4 hr4 ?_, hk4.mono ?_⟩
  · rintro k (rfl | e)
    · exact hO.ox
    · exact hO.ow k e
  · intro k e
    rcases hap.at_ with h1 | h1
    · rw [h1] at e
      rw [ownNew_old (own_lt hO.row e)]
      exact hO.ow k e
    · have e0 := own_lt hap.own e
      rw [h1] at e
      obtain rfl := Option.some.inj e
      exact ownNew_new hk.size e0
  · rintro k - (rfl | e)
    · exact hO.ox
    · exact hO.ow k e

variable {d : ByteArray} {c : Cr} {vw : Value}
theorem keys_of {d : ByteArray} {c : Cr} (hd : aget d cs = some c) : d ∈ cs.map (·.1) := List.mem_map.2 ⟨_, aget_mem hd, rfl⟩
theorem CrAt.far (hcr : CrAt w base own d c vw) (hO : ChO w base bX mS mC sm cs out own vo) {k : Nat} (hk : own k = .c d) : k = bX ∨ base ≤ k := hO.far k (by rw [hk]; simp)

theorem ChO.waits {v' : Value} {h : ByteArray} (hO : ChO w base bX mS mC sm cs out own vo) (hd : aget d cs = some c) (hcr : CrAt w base own d c vw) (hk : Kept noBlock w W)
    (hap : Appended W w3 base 9 1 vw v' (c.ws.length + 1) (c.ws.map Value.string ++ [.string h])) :
    Blk w3 c.g 117 #[.int .i64 c.need, .int .i64 (c.tk : Nat), .map (some c.mr), vw] ∧ ChO (w3.setCell ⟨c.g, 3, none⟩ v') base bX mS mC sm (aput d { c with ws := c.ws ++ [h] } cs) out (ownNew own w.heap.size w3.heap.size (.c d)) vo ∧ Step own (ownNew own w.heap.size w3.heap.size (.c d)) w (w3.setCell ⟨c.g, 3, none⟩ v') := by
  have hkap : Kept (fun i => vw.ownBlock = some i) W w3 := hap.kept
  have hk3 : Kept (fun i => vw.ownBlock = some i) w w3 := hk.of_none.trans hkap (fun _ _ h => h)
  have hb3 : Blk w3 c.g 117 #[.int .i64 c.need, .int .i64 (c.tk : Nat), .map (some c.mr), vw] := hcr.blk.kept hk3 fun e => row_ne_blk hcr.row hcr.blk (by decide) e rfl
  have hk4 : Kept (fun i => i = c.g ∨ vw.ownBlock = some i) w (w3.setCell ⟨c.g, 3, none⟩ v') := (hk3.mono fun _ _ e => .inr e).setCell (fun _ => .inl rfl) _
  have hb4 : Blk (w3.setCell ⟨c.g, 3, none⟩ v') c.g 117 #[.int .i64 c.need, .int .i64 (c.tk : Nat), .map (some c.mr), v'] := hb3.set_ 3 v'
  have hr4 : (w3.setCell ⟨c.g, 3, none⟩ v').ownsRow base 9 1 v' (c.ws ++ [h]).length ((c.ws ++ [h]).map Value.string) := by
    rw [List.length_append, List.map_append]
    exact own_keptB hap.own ((Kept.refl (fun k => k = c.g) w3).setCell (fun _ => rfl) v') fun k e e2 => row_ne_blk hap.own hb3 (by decide) e e2
  have hmr : ¬ (c.mr = c.g ∨ vw.ownBlock = some c.mr) := by
    rintro (e | e)
    · exact hcr.map.ne_blk hcr.blk e.symm
    · obtain ⟨_, cur, hh⟩ := own_type hcr.row e
      obtain ⟨es, ck, h2⟩ := hcr.map.heap
      rw [h2] at hh; cases hh
  have hS : ∀ k, (k = c.g ∨ vw.ownBlock = some k) → own k = .c d := by
    rintro k (rfl | e)
    · exact hcr.og
    · exact hcr.ow k e
  refine ⟨hb3, hO.step (own' := ownNew own w.heap.size w3.heap.size (.c d)) hk4 hS (keys_of hd) (fun k h => ownNew_old h) (ownNew_far hO _ _) (fun k e => ownNew_top hk3.size (by rw [sz_setCell] at e; exact e)) (fun c0 h0 => by rw [hd] at h0; cases h0; rfl)
    ⟨hb4, hcr.map.kept hk4 hmr, hr4, (ownNew_old hcr.blk.lt).trans hcr.og, (ownNew_old hcr.map.lt).trans hcr.om, ?_⟩, hk4.mono ?_, fun k h => ownNew_old h⟩
  · intro k e
    rcases hap.at_ with h1 | h1
    · rw [h1] at e
      rw [ownNew_old (own_lt hcr.row e)]
      exact hcr.ow k e
    · have e0 := own_lt hap.own e
      rw [h1] at e
      obtain rfl := Option.some.inj e
      exact ownNew_new hk.size e0
  · rintro k - e
    rw [hS k e]; simp

/-- What take makes of a center, of all centers, of the hosts that are out. -/
def Cr.more (c : Cr) : Cr := { c with tk := c.tk + 1 }
def takeCs (d : ByteArray) (c : Cr) (cs : List (ByteArray × Cr)) : List (ByteArray × Cr) := if (c.tk : Int) < c.need then aput d c.more cs else cs
def takeOut (c : Cr) (h : ByteArray) (out : List ByteArray) : List ByteArray := if (c.tk : Int) < c.need then out ++ [h] else out

theorem ChO.more (hO : ChO w base bX mS mC sm cs out own vo) (hd : aget d cs = some c) (hcr : CrAt w base own d c vw) :
    ChO (w.setCell ⟨c.g, 1, none⟩ (.int .i64 ((c.tk : Int) + 1))) base bX mS mC sm (aput d c.more cs) out own vo ∧ Kept (fun k => k = c.g) w (w.setCell ⟨c.g, 1, none⟩ (.int .i64 ((c.tk : Int) + 1))) := by
  have hk : Kept (fun i => i = c.g) w (w.setCell ⟨c.g, 1, none⟩ (.int .i64 ((c.tk : Int) + 1))) := (Kept.refl (fun i => i = c.g) w).setCell (p := ⟨c.g, 1, none⟩) (fun _ => rfl) _
  have hS : ∀ k, k = c.g → own k = .c d := by rintro k rfl; exact hcr.og
  refine ⟨hO.step hk hS (keys_of hd) (fun _ _ => rfl) hO.far (fun k e => hO.top k (Nat.le_trans hk.size e)) (fun c0 h0 => by rw [hd] at h0; cases h0; rfl)
    ⟨hcr.blk.set_ 1 _, hcr.map.kept hk (fun e => hcr.map.ne_blk hcr.blk e.symm), own_keptB hcr.row hk fun k e e2 => row_ne_blk hcr.row hcr.blk (by decide) e e2, hcr.og, hcr.om, hcr.ow⟩, hk⟩

/-- The racks of a center are written anew. -/
theorem ChO.racks {es : Array MapEntry} {ck : Nat} {R : List (ByteArray × Bool)} (hO : ChO w base bX mS mC sm cs out own vo) (hd : aget d cs = some c) (hcr : CrAt w base own d c vw) (hm : SMap (setBlock w c.mr (.map es ck)) c.mr R) :
    ChO (setBlock w c.mr (.map es ck)) base bX mS mC sm (aput d { c with racks := R } cs) out own vo ∧ Step own own w (setBlock w c.mr (.map es ck)) := by
  have hk : Kept (fun i => i = c.mr) w (setBlock w c.mr (.map es ck)) := (Kept.refl (fun i => i = c.mr) w).setBlock (m := c.mr) (fun _ => rfl) _
  have hS : ∀ k, k = c.mr → own k = .c d := by rintro k rfl; exact hcr.om
  refine ⟨hO.step hk hS (keys_of hd) (fun _ _ => rfl) hO.far (fun k e => hO.top k (Nat.le_trans hk.size e)) (fun c0 h0 => by rw [hd] at h0; cases h0; rfl)
    ⟨hcr.blk.kept hk (fun e => hcr.map.ne_blk hcr.blk e), hm, own_keptB hcr.row hk fun k e e2 => ?_, hcr.og, hcr.om, hcr.ow⟩, hk.mono fun k _ e => by rw [hS k e]; simp, fun _ _ => rfl⟩
  subst e2
  obtain ⟨_, cur, hh⟩ := own_type hcr.row e
  obtain ⟨es2, ck2, h2⟩ := hcr.map.heap
  rw [h2] at hh; cases hh
/-- The need of a center is written anew. -/
theorem ChO.needs (n : Int) (hO : ChO w base bX mS mC sm cs out own vo) (hd : aget d cs = some c) (hcr : CrAt w base own d c vw) :
    ChO (w.setCell ⟨c.g, 0, none⟩ (.int .i64 n)) base bX mS mC sm (aput d { c with need := n } cs) out own vo ∧ Step own own w (w.setCell ⟨c.g, 0, none⟩ (.int .i64 n)) := by
  have hk : Kept (fun i => i = c.g) w (w.setCell ⟨c.g, 0, none⟩ (.int .i64 n)) := (Kept.refl (fun i => i = c.g) w).setCell (p := ⟨c.g, 0, none⟩) (fun _ => rfl) _
  have hS : ∀ k, k = c.g → own k = .c d := by rintro k rfl; exact hcr.og
  refine ⟨hO.step hk hS (keys_of hd) (fun _ _ => rfl) hO.far (fun k e => hO.top k (Nat.le_trans hk.size e)) (fun c0 h0 => by rw [hd] at h0; cases h0; rfl)
    ⟨hcr.blk.set_ 0 _, hcr.map.kept hk (fun e => hcr.map.ne_blk hcr.blk e.symm), own_keptB hcr.row hk fun k e e2 => row_ne_blk hcr.row hcr.blk (by decide) e e2, hcr.og, hcr.om, hcr.ow⟩, hk.mono fun k _ e => by rw [hS k e]; simp, fun _ _ => rfl⟩
end
end Go.Proofs.YtepikngkbondgaaGreat
namespace Go.Proofs.YtepikngkbondgaaGreat
set_option linter.unusedVariables false
open Go.RowKit
open Go.ChangeMaps (setBlock)

section
variable {w : World} {base bX mS mC : Nat} {sm : List (ByteArray × Si)} {cs : List (ByteArray × Cr)} {out : List ByteArray}
set_option maxHeartbeats 2000000 in
set_option maxRecDepth 100000 in
theorem rtake_in {d h : ByteArray} {c : Cr} {own : Nat → Own} {vo : Value} (hO : ChO w base bX mS mC sm cs out own vo) (hd : aget d cs = some c) (ho : out.length ≤ 100000) (ht : c.tk ≤ 100000) :
    Calls Tryz.prog 73 #[.pointer (some ⟨bX, 0, none⟩), .pointer (some ⟨c.g, 0, none⟩), .string h] w fun e w' => e = .returned (.tuple #[]) ∧ (∃ own' vo', ChO w' base bX mS mC sm (takeCs d c cs) (takeOut c h out) own' vo' ∧ (∀ k, k < w.heap.size → own' k = own k) ∧ Kept (fun k => own k = .x ∨ k = c.g) w w') := by
  obtain ⟨vw, hcr⟩ := hO.cr (d, c) (aget_mem hd)
  have z0 := hcr.blk.cell 0
  have z1 := hcr.blk.cell 1
  simp only [List.getElem?_toArray, List.getElem?_cons_succ, List.getElem?_cons_zero] at z0 z1
  have f1 := hcr.blk.frozen 1
  have zx := hO.blk.cell 2
  simp only [List.getElem?_toArray, List.getElem?_cons_succ, List.getElem?_cons_zero] at zx
  have hne1 : ¬ bX = c.g := Blk.ne_ hO.blk hcr.blk (by decide)
  have hne2 : ¬ c.g = bX := fun e => hne1 e.symm
  unfold takeCs takeOut
  by_cases hlt : (c.tk : Int) < c.need
  · rw [if_pos hlt, if_pos hlt]
    have hw1 : IntKind.i64.wrap ((c.tk : Int) + 1) = (c.tk : Int) + 1 := by rw [IntKind.wrap_i64]; omega
    obtain ⟨hO1, hk0⟩ := hO.more hd hcr
    have HK0 := Lib.hid hk0
    have hr1 := hO1.row
    have HO1 := Lib.hid hO1
    have HR1 := Lib.hid hr1
    have HLOW := Lib.hid hO.low
    have hsz : (w.setCell ⟨c.g, 1, none⟩ (.int .i64 ((c.tk : Int) + 1))).heap.size = w.heap.size := sz_setCell _ _ _
    have HSZ := Lib.hid hsz
    clear hO hO1 hk0 hcr hd hr1 hsz
    go_enter Tryz.func73, Tryz.ntmps73
    go_wp2_with fail
    go_region
    go_wp2_with (at_builtin; go_must (refine wpList_append_sl _ strsT rfl (.tmp 26) (.tmp 28) rfl base _ out.length (out.map Value.string) rfl ((World.ownsRow.alloc HR1.out _).drew) _ 1 [.string h] rfl (Sl.made_at (Blk.drew (Blk.new_at _ 9 #[.string h] HSZ.out.symm)) _ rfl rfl one_max) (by simp [Value.oneCell']) ?c1 ?c2 ?_))
    case c1 => omega
    case c2 =>
      have h1 := HLOW.out
      have h2 := HSZ.out
      simp only [sz_drew, sz_alloc]
      omega
    intro v' w3 hap
    obtain ⟨hb3, hch, hkx⟩ := HO1.out.goes ((Kept.refl noBlock _).alloc _).drew hap
    obtain ⟨A, c', rfl, -, -⟩ := (Sl.of_own hap.own).shape
    have z3 := hb3.cell 2
    have f3 := hb3.frozen 2
    simp only [List.getElem?_toArray, List.getElem?_cons_succ, List.getElem?_cons_zero] at z3
    have HCH := Lib.hid hch
    have HKX := Lib.hid ((HK0.out.mono (T := fun k => own k = .x ∨ k = c.g) fun _ _ e => .inr e).trans hkx (fun _ _ e => .inl e))
    clear hb3 hch hkx hap zx z0 z1 f1
    go_wp2
    go_end0
    exact ⟨rfl, ⟨_, _, HCH.out, fun k hk => ownNew_old (by rw [HSZ.out]; exact hk), HKX.out⟩⟩
  · rw [if_neg hlt, if_neg hlt]
    go_enter Tryz.func73, Tryz.ntmps73
    go_wp2_with fail
    go_region
    go_wp2
    go_end0
    exact ⟨rfl, ⟨_, _, hO.kept ((Kept.refl noBlock w).drew) (fun _ h => h.elim), fun _ _ => rfl, (Kept.refl _ w).drew⟩⟩
theorem rtake_at {d h : ByteArray} {c : Cr} {own : Nat → Own} {vo : Value} (hO : ChO w base bX mS mC sm cs out own vo) (hd : aget d cs = some c) (ho : out.length ≤ 100000) (ht : c.tk ≤ 100000) :
    Calls Tryz.prog 73 #[.pointer (some ⟨bX, 0, none⟩), .pointer (some ⟨c.g, 0, none⟩), .string h] w fun e w' => e = .returned (.tuple #[]) ∧ ∃ own' vo', ChO w' base bX mS mC sm (takeCs d c cs) (takeOut c h out) own' vo' ∧ Step own own' w w' := by
  obtain ⟨vw, hcr⟩ := hO.cr (d, c) (aget_mem hd)
  have hg : own c.g = .c d := hcr.og
  exact (rtake_in hO hd ho ht).mono fun e w' ⟨h1, own', vo', h2, h3, h4⟩ => ⟨h1, own', vo', h2, h4.mono (fun k _ e => by rcases e with e | e <;> simp [e, hg]), h3⟩
end
end Go.Proofs.YtepikngkbondgaaGreat
namespace Go.Proofs.YtepikngkbondgaaGreat
set_option linter.unusedVariables false
open Go.RowKit
open Go.ChangeMaps (setBlock)

theorem aput_aput {α β : Type} [DecidableEq α] (k : α) (u v : β) : ∀ (l : List (α × β)), aput k v (aput k u l) = aput k v l
  | [] => by simp [aput]
  | (a, b) :: l => by
    by_cases h1 : a = k
    · subst h1; simp [aput]
    · simp [aput, h1, aput_aput k u v l]
theorem zero_site (w : World) : (zeroValue 66).run Tryz.prog w = .ok (.agg #[.string noStr, .string noStr, .string noStr]) w := Tryz.zeroValue66 w
theorem zero_cen (w : World) : (zeroValue 115).run Tryz.prog w = .ok (.pointer none) w := Tryz.zeroValue115 w
theorem cen_none {cs : List (ByteArray × Cr)} {d : ByteArray} (hd : aget d cs = none) : aget d (cs.map fun p => (p.1, p.2.g)) = none := by
  rw [aget_eq_none] at hd ⊢
  intro p hp
  obtain ⟨q, hq, rfl⟩ := List.mem_map.1 hp
  exact hd q hq
theorem cen_some {cs : List (ByteArray × Cr)} {d : ByteArray} {c : Cr} (hn : (cs.map (·.1)).Nodup) (hd : aget d cs = some c) : aget d (cs.map fun p => (p.1, p.2.g)) = some c.g :=
  aget_of_mem (by rw [List.map_map]; exact hn) (List.mem_map.2 ⟨_, aget_mem hd, rfl⟩)

/-- The waiting ones go out, as many as may. -/
def Cr.room (c : Cr) : Nat := (c.need - c.tk).toNat
def Cr.flush (c : Cr) (j : Nat) : Cr := { c with tk := c.tk + min j c.room }
theorem flush_zero (c : Cr) : c.flush 0 = c := by unfold Cr.flush; rw [Nat.zero_min]; rfl
theorem flush_step (c : Cr) (d : ByteArray) (cs : List (ByteArray × Cr)) (i : Nat) : takeCs d (c.flush i) (aput d (c.flush i) cs) = aput d (c.flush (i + 1)) cs := by
  unfold takeCs
  by_cases h : ((c.flush i).tk : Int) < (c.flush i).need
  · rw [if_pos h, aput_aput]
    have h1 : ((c.tk + min i c.room : Nat) : Int) < c.need := h
    have h2 : c.room = (c.need - c.tk).toNat := rfl
    have h3 : (c.flush i).more = c.flush (i + 1) := by
      show ({ c with tk := c.tk + min i c.room + 1 } : Cr) = { c with tk := c.tk + min (i + 1) c.room }
      have : c.tk + min i c.room + 1 = c.tk + min (i + 1) c.room := by omega
      rw [this]
    rw [h3]
  · rw [if_neg h]
    have h1 : ¬ ((c.tk + min i c.room : Nat) : Int) < c.need := h
    have h2 : c.room = (c.need - c.tk).toNat := rfl
    have h3 : c.flush i = c.flush (i + 1) := by
      show ({ c with tk := c.tk + min i c.room } : Cr) = { c with tk := c.tk + min (i + 1) c.room }
      have : c.tk + min i c.room = c.tk + min (i + 1) c.room := by omega
      rw [this]
    rw [h3]
theorem flush_out (c : Cr) (o ws : List ByteArray) {i : Nat} {x : ByteArray} (hx : ws[i]? = some x) : takeOut (c.flush i) x (o ++ (ws.take i).take c.room) = o ++ (ws.take (i + 1)).take c.room := by
  have hil : i < ws.length := (List.getElem?_eq_some_iff.1 hx).1
  have e : ws.take (i + 1) = ws.take i ++ [x] := by rw [List.take_add_one, hx]; rfl
  have hl : (ws.take i).length = i := by rw [List.length_take]; omega
  unfold takeOut
  by_cases h : ((c.flush i).tk : Int) < (c.flush i).need
  · have h1 : ((c.tk + min i c.room : Nat) : Int) < c.need := h
    have h2 : c.room = (c.need - c.tk).toNat := rfl
    rw [if_pos h, e, List.take_of_length_le (l := ws.take i) (by omega), List.take_of_length_le (l := ws.take i ++ [x]) (by rw [List.length_append, hl]; simp; omega), List.append_assoc]
  · have h1 : ¬ ((c.tk + min i c.room : Nat) : Int) < c.need := h
    have h2 : c.room = (c.need - c.tk).toNat := rfl
    rw [if_neg h, e, List.take_append_of_le_length (by omega)]
def Cr.marked (c : Cr) (r : ByteArray) : Cr := { c.more with racks := aput r true c.racks }
def newCs (d r : ByteArray) (c : Cr) (cs : List (ByteArray × Cr)) : List (ByteArray × Cr) :=
  if (aput r true c.racks).all (·.2) then aput d ((c.marked r).flush c.ws.length) cs else aput d (c.marked r) cs
def newOut (r : ByteArray) (c : Cr) (h : ByteArray) (out : List ByteArray) : List ByteArray :=
  if (aput r true c.racks).all (·.2) then out ++ [h] ++ c.ws.take (c.marked r).room else out ++ [h]
section
variable {w : World} {base bX mS mC : Nat} {sm : List (ByteArray × Si)} {cs : List (ByteArray × Cr)} {out : List ByteArray}
set_option maxHeartbeats 2000000 in
set_option maxRecDepth 100000 in
theorem rhost_none {name : ByteArray} {s : Si} {own : Nat → Own} {vo : Value} (hO : ChO w base bX mS mC sm cs out own vo) (hs : aget name sm = some s) (hd : aget s.2.1 cs = none) :
    Calls Tryz.prog 48 #[.pointer (some ⟨bX, 0, none⟩), .string name] w fun e w' => e = .returned (.tuple #[]) ∧ ∃ own' vo', ChO w' base bX mS mC sm cs out own' vo' ∧ Step own own' w w' := by
  have hN : own w.heap.size = .m := hO.top _ (Nat.le_refl _)
  have z0 := hO.blk.cell 0
  simp only [List.getElem?_toArray, List.getElem?_cons_zero] at z0
  have l1 := hO.sites.run_lookup (P := Tryz.prog) string_emb msiM strU (zero_site w) name false
  rw [hs] at l1
  obtain ⟨sh, d, r⟩ := s
  simp only [Option.map_some, Option.getD_some, Bool.false_eq_true, if_false, sV] at l1
  have HO := Lib.hid hO
  have HD : Hid (aget d cs = none) := Lib.hid hd
  have HN := Lib.hid hN
  clear hs hd hO hN
  go_enter Tryz.func48, Tryz.ntmps48
  go_wp2_with fail
  have hk1 : Kept noBlock w (w.alloc (.cells #[.string sh, .string d, .string r] 66)) := (Kept.refl noBlock w).alloc _
  have hbs : Blk (w.alloc (.cells #[.string sh, .string d, .string r] 66)) w.heap.size 66 #[.string sh, .string d, .string r] := Blk.new _ _ _
  have hO1 := HO.out.kept hk1 (fun _ h => h.elim)
  generalize w.alloc (.cells #[.string sh, .string d, .string r] 66) = w1 at *
  generalize w.heap.size = N at *
  have zs1 := hbs.cell 1
  have zs2 := hbs.cell 2
  have z1 := hO1.blk.cell 1
  simp only [List.getElem?_toArray, List.getElem?_cons_succ, List.getElem?_cons_zero] at zs1 zs2 z1
  have l2 := hO1.cens.drew.run_lookup (P := Tryz.prog) string_emb mceM strU (zero_cen w1.drew) d false
  rw [cen_none HD.out] at l2
  simp only [Option.map_none, Option.getD_none, Bool.false_eq_true, if_false] at l2
  have HO1 := Lib.hid hO1
  have HK1 := Lib.hid hk1
  have HBS := Lib.hid hbs
  clear hO1 hk1 z0 l1 hbs HO
  go_region
  go_wp2_with fail
  go_region
  go_wp2_with fail
  go_end0
  exact ⟨rfl, _, _, HO1.out.kept (Kept.refl noBlock _).drew.drew (fun _ h => False.elim h), .of_none HK1.out.drew.drew⟩
set_option maxHeartbeats 2000000 in
set_option maxRecDepth 100000 in
theorem rhost_full {name : ByteArray} {s : Si} {c : Cr} {own : Nat → Own} {vo : Value} (hO : ChO w base bX mS mC sm cs out own vo) (hs : aget name sm = some s) (hd : aget s.2.1 cs = some c) (hge : c.need ≤ (c.tk : Int)) :
    Calls Tryz.prog 48 #[.pointer (some ⟨bX, 0, none⟩), .string name] w fun e w' => e = .returned (.tuple #[]) ∧ ∃ own' vo', ChO w' base bX mS mC sm cs out own' vo' ∧ Step own own' w w' := by
  have hN : own w.heap.size = .m := hO.top _ (Nat.le_refl _)
  have z0 := hO.blk.cell 0
  simp only [List.getElem?_toArray, List.getElem?_cons_zero] at z0
  have l1 := hO.sites.run_lookup (P := Tryz.prog) string_emb msiM strU (zero_site w) name false
  rw [hs] at l1
  obtain ⟨sh, d, r⟩ := s
  simp only [Option.map_some, Option.getD_some, Bool.false_eq_true, if_false, sV] at l1
  have HO := Lib.hid hO
  have HD : Hid (aget d cs = some c) := Lib.hid hd
  have HN := Lib.hid hN
  clear hs hd hO hN
  go_enter Tryz.func48, Tryz.ntmps48
  go_wp2_with fail
  have hk1 : Kept noBlock w (w.alloc (.cells #[.string sh, .string d, .string r] 66)) := (Kept.refl noBlock w).alloc _
  have hbs : Blk (w.alloc (.cells #[.string sh, .string d, .string r] 66)) w.heap.size 66 #[.string sh, .string d, .string r] := Blk.new _ _ _
  have hO1 := HO.out.kept hk1 (fun _ h => h.elim)
  generalize w.alloc (.cells #[.string sh, .string d, .string r] 66) = w1 at *
  generalize w.heap.size = N at *
  have zs1 := hbs.cell 1
  have zs2 := hbs.cell 2
  have z1 := hO1.blk.cell 1
  simp only [List.getElem?_toArray, List.getElem?_cons_succ, List.getElem?_cons_zero] at zs1 zs2 z1
  have l2 := hO1.cens.drew.run_lookup (P := Tryz.prog) string_emb mceM strU (zero_cen w1.drew) d false
  rw [cen_some HO.out.nd HD.out] at l2
  simp only [Option.map_some, Option.getD_some, Bool.false_eq_true, if_false] at l2
  have HO1 := Lib.hid hO1
  have HK1 := Lib.hid hk1
  have HBS := Lib.hid hbs
  obtain ⟨vw, hcr⟩ := hO1.cr (d, c) (aget_mem HD.out)
  have zc0 := hcr.blk.cell 0
  have zc1 := hcr.blk.cell 1
  simp only [List.getElem?_toArray, List.getElem?_cons_succ, List.getElem?_cons_zero] at zc0 zc1
  have HCR := Lib.hid hcr
  clear hcr
  clear hO1 hk1 z0 l1 hbs HO
  go_region
  go_wp2_with fail
  go_region
  go_wp2_with fail
  go_end0
  exact ⟨rfl, _, _, HO1.out.kept (Kept.refl noBlock _).drew.drew (fun _ h => False.elim h), .of_none HK1.out.drew.drew⟩
set_option maxHeartbeats 2000000 in
set_option maxRecDepth 100000 in
theorem rhost_all {name : ByteArray} {s : Si} {c : Cr} {own : Nat → Own} {vo : Value} (hO : ChO w base bX mS mC sm cs out own vo) (hs : aget name sm = some s) (hd : aget s.2.1 cs = some c) (hlt : (c.tk : Int) < c.need) (hall : c.racks.all (·.2) = true) (ho : out.length ≤ 100000) (ht : c.tk ≤ 100000) :
    Calls Tryz.prog 48 #[.pointer (some ⟨bX, 0, none⟩), .string name] w fun e w' => e = .returned (.tuple #[]) ∧ ∃ own' vo', ChO w' base bX mS mC sm (takeCs s.2.1 c cs) (takeOut c name out) own' vo' ∧ Step own own' w w' := by
  have hN : own w.heap.size = .m := hO.top _ (Nat.le_refl _)
  have z0 := hO.blk.cell 0
  simp only [List.getElem?_toArray, List.getElem?_cons_zero] at z0
  have l1 := hO.sites.run_lookup (P := Tryz.prog) string_emb msiM strU (zero_site w) name false
  rw [hs] at l1
  obtain ⟨sh, d, r⟩ := s
  simp only [Option.map_some, Option.getD_some, Bool.false_eq_true, if_false, sV] at l1
  have HO := Lib.hid hO
  have HD : Hid (aget d cs = some c) := Lib.hid hd
  have HN := Lib.hid hN
  clear hs hd hO hN
  go_enter Tryz.func48, Tryz.ntmps48
  go_wp2_with fail
  have hk1 : Kept noBlock w (w.alloc (.cells #[.string sh, .string d, .string r] 66)) := (Kept.refl noBlock w).alloc _
  have hbs : Blk (w.alloc (.cells #[.string sh, .string d, .string r] 66)) w.heap.size 66 #[.string sh, .string d, .string r] := Blk.new _ _ _
  have hO1 := HO.out.kept hk1 (fun _ h => h.elim)
  generalize w.alloc (.cells #[.string sh, .string d, .string r] 66) = w1 at *
  generalize w.heap.size = N at *
  have zs1 := hbs.cell 1
  have zs2 := hbs.cell 2
  have z1 := hO1.blk.cell 1
  simp only [List.getElem?_toArray, List.getElem?_cons_succ, List.getElem?_cons_zero] at zs1 zs2 z1
  have l2 := hO1.cens.drew.run_lookup (P := Tryz.prog) string_emb mceM strU (zero_cen w1.drew) d false
  rw [cen_some HO.out.nd HD.out] at l2
  simp only [Option.map_some, Option.getD_some, Bool.false_eq_true, if_false] at l2
  have HO1 := Lib.hid hO1
  have HK1 := Lib.hid hk1
  have HBS := Lib.hid hbs
  obtain ⟨vw, hcr⟩ := hO1.cr (d, c) (aget_mem HD.out)
  have zc0 := hcr.blk.cell 0
  have zc1 := hcr.blk.cell 1
  simp only [List.getElem?_toArray, List.getElem?_cons_succ, List.getElem?_cons_zero] at zc0 zc1
  have HCR := Lib.hid hcr
  clear hcr
  clear hO1 hk1 z0 l1 hbs HO
  go_region
  go_wp2_with fail
  have HALL := Lib.hid hall
  clear hall
  go_region
  go_wp2_with fail
  go_at_call 72
  refine (rall_at HCR.out.blk.drew.drew HCR.out.map.drew.drew).mono ?_
  rintro e w2 ⟨rfl, hk2⟩
  rw [HALL.out]
  have hk2' := ((Kept.refl noBlock w1).drew.drew).trans hk2 (fun _ _ h => h)
  have hO2 := HO1.out.kept hk2' (fun _ h => False.elim h)
  have hcr2 := HCR.out.kept (own' := own) hk2' (fun _ _ h => False.elim h) (fun _ _ => rfl)
  have hbs2 := HBS.out.kept hk2' (fun h => h)
  have HK2 := Lib.hid (HK1.out.trans hk2' (fun _ _ h => h))
  have HO2 := Lib.hid hO2
  have HCR2 := Lib.hid hcr2
  have HBS2 := Lib.hid hbs2
  clear zs1 zs2 z1 zc0 zc1 l2 hk2 hk2' HO1 HK1 HBS HCR
  clear hO2 hcr2 hbs2
  go_wp2_with fail
  go_at_call 73
  refine (rtake_at (h := name) HO2.out HD.out ho ht).mono ?_
  rintro e w3 ⟨rfl, own3, vo3, hc3, hk3⟩
  have HC3 := Lib.hid hc3
  have HK3 := Lib.hid ((Step.of_none HK2.out).trans hk3)
  clear hc3 hk3
  go_wp2
  go_end0
  exact ⟨rfl, _, _, HC3.out, HK3.out⟩
set_option maxHeartbeats 2000000 in
set_option maxRecDepth 100000 in
theorem rhost_wait {name : ByteArray} {s : Si} {c : Cr} {own : Nat → Own} {vo : Value} (hO : ChO w base bX mS mC sm cs out own vo) (hs : aget name sm = some s) (hd : aget s.2.1 cs = some c) (hlt : (c.tk : Int) < c.need) (hall : c.racks.all (·.2) = false) (hr : aget s.2.2 c.racks = some true) (hws : c.ws.length ≤ 100000) :
    Calls Tryz.prog 48 #[.pointer (some ⟨bX, 0, none⟩), .string name] w fun e w' => e = .returned (.tuple #[]) ∧ ∃ own' vo', ChO w' base bX mS mC sm (aput s.2.1 { c with ws := c.ws ++ [name] } cs) out own' vo' ∧ Step own own' w w' := by
  have hN : own w.heap.size = .m := hO.top _ (Nat.le_refl _)
  have z0 := hO.blk.cell 0
  simp only [List.getElem?_toArray, List.getElem?_cons_zero] at z0
  have l1 := hO.sites.run_lookup (P := Tryz.prog) string_emb msiM strU (zero_site w) name false
  rw [hs] at l1
  obtain ⟨sh, d, r⟩ := s
  simp only [Option.map_some, Option.getD_some, Bool.false_eq_true, if_false, sV] at l1
  have HO := Lib.hid hO
  have HD : Hid (aget d cs = some c) := Lib.hid hd
  have HN := Lib.hid hN
  clear hs hd hO hN
  go_enter Tryz.func48, Tryz.ntmps48
  go_wp2_with fail
  have hk1 : Kept noBlock w (w.alloc (.cells #[.string sh, .string d, .string r] 66)) := (Kept.refl noBlock w).alloc _
  have hbs : Blk (w.alloc (.cells #[.string sh, .string d, .string r] 66)) w.heap.size 66 #[.string sh, .string d, .string r] := Blk.new _ _ _
  have hO1 := HO.out.kept hk1 (fun _ h => h.elim)
  generalize w.alloc (.cells #[.string sh, .string d, .string r] 66) = w1 at *
  generalize w.heap.size = N at *
  have zs1 := hbs.cell 1
  have zs2 := hbs.cell 2
  have z1 := hO1.blk.cell 1
  simp only [List.getElem?_toArray, List.getElem?_cons_succ, List.getElem?_cons_zero] at zs1 zs2 z1
  have l2 := hO1.cens.drew.run_lookup (P := Tryz.prog) string_emb mceM strU (zero_cen w1.drew) d false
  rw [cen_some HO.out.nd HD.out] at l2
  simp only [Option.map_some, Option.getD_some, Bool.false_eq_true, if_false] at l2
  have HO1 := Lib.hid hO1
  have HK1 := Lib.hid hk1
  have HBS := Lib.hid hbs
  obtain ⟨vw, hcr⟩ := hO1.cr (d, c) (aget_mem HD.out)
  have zc0 := hcr.blk.cell 0
  have zc1 := hcr.blk.cell 1
  simp only [List.getElem?_toArray, List.getElem?_cons_succ, List.getElem?_cons_zero] at zc0 zc1
  have HCR := Lib.hid hcr
  clear hcr
  clear hO1 hk1 z0 l1 hbs HO
  go_region
  go_wp2_with fail
  have HR : Hid (aget r c.racks = some true) := Lib.hid hr
  clear hr
  have HALL := Lib.hid hall
  clear hall
  go_region
  go_wp2_with fail
  go_at_call 72
  refine (rall_at HCR.out.blk.drew.drew HCR.out.map.drew.drew).mono ?_
  rintro e w2 ⟨rfl, hk2⟩
  rw [HALL.out]
  have hk2' := ((Kept.refl noBlock w1).drew.drew).trans hk2 (fun _ _ h => h)
  have hO2 := HO1.out.kept hk2' (fun _ h => False.elim h)
  have hcr2 := HCR.out.kept (own' := own) hk2' (fun _ _ h => False.elim h) (fun _ _ => rfl)
  have hbs2 := HBS.out.kept hk2' (fun h => h)
  have HK2 := Lib.hid (HK1.out.trans hk2' (fun _ _ h => h))
  have HO2 := Lib.hid hO2
  have HCR2 := Lib.hid hcr2
  have HBS2 := Lib.hid hbs2
  clear zs1 zs2 z1 zc0 zc1 l2 hk2 hk2' HO1 HK1 HBS HCR
  have y2 := hcr2.blk.cell 2
  have y3 := hcr2.blk.cell 3
  have zs2 := hbs2.cell 2
  simp only [List.getElem?_toArray, List.getElem?_cons_succ, List.getElem?_cons_zero] at y2 y3 zs2
  have l3 := hcr2.map.drew.run_lookup (P := Tryz.prog) string_emb msbM strU (zero_bool w2.drew) r false
  rw [HR.out] at l3
  simp only [Option.map_some, Option.getD_some, Bool.false_eq_true, if_false] at l3
  clear hO2 hcr2 hbs2
  go_wp2_with fail
  go_region
  go_wp2_with (at_builtin; go_must (refine wpList_append_sl _ strsT rfl (.tmp 81) (.tmp 83) rfl base _ c.ws.length (c.ws.map Value.string) rfl ((World.ownsRow.alloc HCR2.out.row _).drew) _ 1 [.string name] rfl (Sl.made_at (Blk.drew (Blk.new w2 9 #[.string name])) _ rfl rfl one_max) (by simp [Value.oneCell']) ?c1 ?c2 ?_))
  case c1 => omega
  case c2 =>
    have h1 := HO2.out.low
    simp only [sz_drew, sz_alloc]
    omega
  intro v' w3 hap
  obtain ⟨hb3, hch, hk4⟩ := HO2.out.waits HD.out HCR2.out ((Kept.refl noBlock _).alloc _).drew hap
  obtain ⟨A, c', rfl, -, -⟩ := (Sl.of_own hap.own).shape
  have z3 := hb3.cell 3
  have f3 := hb3.frozen 3
  simp only [List.getElem?_toArray, List.getElem?_cons_succ, List.getElem?_cons_zero] at z3
  have HCH := Lib.hid hch
  have HK4 := Lib.hid ((Step.of_none HK2.out).trans hk4)
  clear hb3 hch hk4 hap zs2 y2 y3 l3
  go_wp2
  go_end0
  exact ⟨rfl, _, _, HCH.out, HK4.out⟩
set_option maxHeartbeats 2000000 in
set_option maxRecDepth 100000 in
theorem rhost_new {name : ByteArray} {s : Si} {c : Cr} {own : Nat → Own} {vo : Value} (hO : ChO w base bX mS mC sm cs out own vo) (hs : aget name sm = some s) (hd : aget s.2.1 cs = some c) (hlt : (c.tk : Int) < c.need) (hall : c.racks.all (·.2) = false) (hr : ¬ aget s.2.2 c.racks = some true) (ho : out.length + c.ws.length + 1 ≤ 100000) (ht : c.tk + c.ws.length + 1 ≤ 100000) :
    Calls Tryz.prog 48 #[.pointer (some ⟨bX, 0, none⟩), .string name] w fun e w' => e = .returned (.tuple #[]) ∧ ∃ own' vo', ChO w' base bX mS mC sm (newCs s.2.1 s.2.2 c cs) (newOut s.2.2 c name out) own' vo' ∧ Step own own' w w' := by
  have hN : own w.heap.size = .m := hO.top _ (Nat.le_refl _)
  have z0 := hO.blk.cell 0
  simp only [List.getElem?_toArray, List.getElem?_cons_zero] at z0
  have l1 := hO.sites.run_lookup (P := Tryz.prog) string_emb msiM strU (zero_site w) name false
  rw [hs] at l1
  obtain ⟨sh, d, r⟩ := s
  simp only [Option.map_some, Option.getD_some, Bool.false_eq_true, if_false, sV] at l1
  have HO := Lib.hid hO
  have HD : Hid (aget d cs = some c) := Lib.hid hd
  have HN := Lib.hid hN
  clear hs hd hO hN
  go_enter Tryz.func48, Tryz.ntmps48
  go_wp2_with fail
  have hk1 : Kept noBlock w (w.alloc (.cells #[.string sh, .string d, .string r] 66)) := (Kept.refl noBlock w).alloc _
  have hbs : Blk (w.alloc (.cells #[.string sh, .string d, .string r] 66)) w.heap.size 66 #[.string sh, .string d, .string r] := Blk.new _ _ _
  have hO1 := HO.out.kept hk1 (fun _ h => h.elim)
  generalize w.alloc (.cells #[.string sh, .string d, .string r] 66) = w1 at *
  generalize w.heap.size = N at *
  have zs1 := hbs.cell 1
  have zs2 := hbs.cell 2
  have z1 := hO1.blk.cell 1
  simp only [List.getElem?_toArray, List.getElem?_cons_succ, List.getElem?_cons_zero] at zs1 zs2 z1
  have l2 := hO1.cens.drew.run_lookup (P := Tryz.prog) string_emb mceM strU (zero_cen w1.drew) d false
  rw [cen_some HO.out.nd HD.out] at l2
  simp only [Option.map_some, Option.getD_some, Bool.false_eq_true, if_false] at l2
  have HO1 := Lib.hid hO1
  have HK1 := Lib.hid hk1
  have HBS := Lib.hid hbs
  obtain ⟨vw, hcr⟩ := hO1.cr (d, c) (aget_mem HD.out)
  have zc0 := hcr.blk.cell 0
  have zc1 := hcr.blk.cell 1
  simp only [List.getElem?_toArray, List.getElem?_cons_succ, List.getElem?_cons_zero] at zc0 zc1
  have HCR := Lib.hid hcr
  clear hcr
  clear hO1 hk1 z0 l1 hbs HO
  go_region
  go_wp2_with fail
  have HR : Hid (¬ aget r c.racks = some true) := Lib.hid hr
  clear hr
  have HALL := Lib.hid hall
  clear hall
  go_region
  go_wp2_with fail
  go_at_call 72
  refine (rall_at HCR.out.blk.drew.drew HCR.out.map.drew.drew).mono ?_
  rintro e w2 ⟨rfl, hk2⟩
  rw [HALL.out]
  have hk2' := ((Kept.refl noBlock w1).drew.drew).trans hk2 (fun _ _ h => h)
  have hO2 := HO1.out.kept hk2' (fun _ h => False.elim h)
  have hcr2 := HCR.out.kept (own' := own) hk2' (fun _ _ h => False.elim h) (fun _ _ => rfl)
  have hbs2 := HBS.out.kept hk2' (fun h => h)
  have HK2 := Lib.hid (HK1.out.trans hk2' (fun _ _ h => h))
  have HO2 := Lib.hid hO2
  have HCR2 := Lib.hid hcr2
  have HBS2 := Lib.hid hbs2
  clear zs1 zs2 z1 zc0 zc1 l2 hk2 hk2' HO1 HK1 HBS HCR
  have y2 := hcr2.blk.cell 2
  have zs2 := hbs2.cell 2
  simp only [List.getElem?_toArray, List.getElem?_cons_succ, List.getElem?_cons_zero] at y2 zs2
  have l3 := hcr2.map.drew.run_lookup (P := Tryz.prog) string_emb msbM strU (zero_bool w2.drew) r false
  have hrf : ((aget r c.racks).map Value.bool).getD (.bool false) = .bool false := by
    have h1 : ¬ aget r c.racks = some true := HR.out
    rcases h : aget r c.racks with _ | b
    · rfl
    · cases b
      · rfl
      · exact absurd h h1
  rw [hrf] at l3
  simp only [Bool.false_eq_true, if_false] at l3
  clear hO2 hcr2 hbs2 hrf
  go_wp2_with fail
  go_region
  go_wp2_with fail
  go_at_call 73
  refine (rtake_at (h := name) (HO2.out.kept (Kept.refl noBlock w2).drew (fun _ h => False.elim h)) HD.out (by omega) (by omega)).mono ?_
  rintro e w3 ⟨rfl, own3, vo3, hO3, hk3⟩
  have e1 : takeCs d c cs = aput d c.more cs := if_pos hlt
  have e2 : takeOut c name out = out ++ [name] := if_pos hlt
  rw [e1, e2] at hO3
  have hd3 : aget d (aput d c.more cs) = some c.more := by rw [aget_aput, if_pos rfl]
  obtain ⟨vw3, hcr3⟩ := hO3.cr (d, c.more) (aget_mem hd3)
  have hbs3 := HBS2.out.drew.kept hk3.1 (fun h => h HN.out)
  have y3 : w3.cell? ⟨c.g, 2, none⟩ = some (.map (some c.mr)) := hcr3.blk.cell 2
  have zs3 := hbs3.cell 2
  simp only [List.getElem?_toArray, List.getElem?_cons_succ, List.getElem?_cons_zero] at zs3
  have hm3 : SMap w3.drew c.mr c.racks := hcr3.map.drew
  obtain ⟨es, ck, hup, hm4⟩ := hm3.run_update (P := Tryz.prog) string_emb msbM strU r true
  obtain ⟨hc4, hk4⟩ := (hO3.kept (Kept.refl noBlock w3).drew (fun _ h => False.elim h)).racks hd3 (hcr3.kept (own' := own3) (Kept.refl noBlock w3).drew (fun _ _ h => False.elim h) (fun _ _ => rfl)) hm4
  rw [aput_aput] at hc4
  have hO4 : ChO (setBlock w3.drew c.mr (.map es ck)) base bX mS mC sm (aput d (c.marked r) cs) (out ++ [name]) own3 vo3 := hc4
  have hk4' : Step own3 own3 w3.drew (setBlock w3.drew c.mr (.map es ck)) := hk4
  have HO4 := Lib.hid hO4
  have HK4 := Lib.hid ((((Step.of_none (HK2.out.drew)).trans hk3).trans (.of_none (Kept.refl noBlock w3).drew)).trans hk4')
  clear e1 e2 hO3 hd3 hcr3 hbs3 hm3 hm4 hc4 hk4 hk4' hO4 y2 zs2 l3 hk3 HO2 HCR2 HBS2 HALL HR
  go_wp2_with fail
  go_region
  go_wp2_with fail
  have hd4 : aget d (aput d (c.marked r) cs) = some (c.marked r) := by rw [aget_aput, if_pos rfl]
  obtain ⟨vw4, hcr4⟩ := HO4.out.cr (d, c.marked r) (aget_mem hd4)
  generalize hw4 : setBlock w3.drew c.mr (.map es ck) = w4 at *
  go_at_call 72
  refine (rall_at (g := c.g) (mr := c.mr) (L := aput r true c.racks) hcr4.blk hcr4.map).mono ?_
  rintro e w5 ⟨rfl, hk5⟩
  have hO5 := HO4.out.kept hk5 (fun _ h => False.elim h)
  have hcr5 := hcr4.kept (own' := own3) hk5 (fun _ _ h => False.elim h) (fun _ _ => rfl)
  have HO5 := Lib.hid hO5
  have HK5 := Lib.hid (HK4.out.trans (.of_none hk5))
  have HCR5 := Lib.hid hcr5
  cases hal : (aput r true c.racks).all (·.2) with
  | false =>
    have e1 : newCs d r c cs = aput d (c.marked r) cs := by unfold newCs; rw [hal]; rfl
    have e2 : newOut r c name out = out ++ [name] := by unfold newOut; rw [hal]; rfl
    have HE := Lib.hid (⟨e1, e2⟩ : newCs d r c cs = aput d (c.marked r) cs ∧ newOut r c name out = out ++ [name])
    clear hO5 hcr5 hk5 hcr4 hd4 hal e1 e2 hup hw4 HO4 y3 zs3
    go_wp2_with fail
    refine bodyPost_ret (results_none rfl _ _ _) rfl ?_
    rw [HE.out.1, HE.out.2]
    exact ⟨rfl, _, _, HO5.out, HK5.out⟩
  | true =>
    have e1 : newCs d r c cs = aput d ((c.marked r).flush c.ws.length) cs := by unfold newCs; rw [hal]; rfl
    have e2 : newOut r c name out = out ++ [name] ++ c.ws.take (c.marked r).room := by unfold newOut; rw [hal]; rfl
    have HE := Lib.hid (⟨e1, e2⟩ : newCs d r c cs = aput d ((c.marked r).flush c.ws.length) cs ∧ newOut r c name out = out ++ [name] ++ c.ws.take (c.marked r).room)
    have y5 := hcr5.blk.cell 3
    simp only [List.getElem?_toArray, List.getElem?_cons_succ, List.getElem?_cons_zero] at y5
    have hs5 : Sl w5 9 1 vw4 c.ws.length (c.ws.map Value.string) := Sl.of_own hcr5.row
    obtain ⟨A, cap, rfl, -, -⟩ := hs5.shape
    have y6 : w5.cell? ⟨c.g, 3, none⟩ = some (.slice A c.ws.length cap) := y5
    have HS5 := Lib.hid hs5
    clear hO5 hcr5 hk5 hcr4 hd4 hal e1 e2 hup hw4 HO4 y3 zs3 y5 hs5
    go_wp2_with fail
    go_loopg [39] c.ws.length (fun j vi wr => ∃ (i : Nat), i + j = c.ws.length ∧ vi = .int .i64 (i : Nat) ∧ (∃ own' vo', ChO wr base bX mS mC sm (aput d ((c.marked r).flush i) cs) (out ++ [name] ++ (c.ws.take i).take (c.marked r).room) own' vo' ∧ (∀ k, k < w5.heap.size → own' k = own3 k) ∧ Kept (fun k => own3 k = .x ∨ k = c.g) w5 wr))
    case atStart => exact ⟨0, by omega, rfl, ⟨own3, vo3, by rw [flush_zero]; simpa using HO5.out, fun _ _ => rfl, Kept.refl _ _⟩⟩
    case round =>
      obtain ⟨i, hij, rfl, ⟨own', vo', hO, hown, hkx⟩⟩ := hrel
      have hrow := own_keptB HCR5.out.row hkx (fun k e e2 => by
        rcases e2 with e2 | e2
        · rw [HCR5.out.ow k e] at e2; cases e2
        · exact row_ne_blk HCR5.out.row HCR5.out.blk (by decide) e e2)
      have hsl : Sl wr 9 1 (.slice A c.ws.length cap) c.ws.length (c.ws.map Value.string) := Sl.of_own hrow
      have HOWN := Lib.hid hown
      have HKX := Lib.hid hkx
      have HIJ := Lib.hid hij
      by_cases hil : i < c.ws.length
      · obtain ⟨x, hx⟩ : ∃ x, c.ws[i]? = some x := ⟨_, List.getElem?_eq_getElem hil⟩
        obtain ⟨ge, oo, hidx, hgl, hc0⟩ := str_at hsl hx
        have hd6 : aget d (aput d ((c.marked r).flush i) cs) = some ((c.marked r).flush i) := by rw [aget_aput, if_pos rfl]
        have HT := Lib.hid (rtake_in (h := x) hO hd6 (by simp only [List.length_append, List.length_take, List.length_singleton]; omega) (by show c.tk + 1 + min i _ ≤ 100000; omega))
        have HX := Lib.hid hx
        have hw1 : IntKind.i64.wrap ((i : Int) + 1) = (i : Int) + 1 := by rw [IntKind.wrap_i64]; omega
        clear hO hown hkx hrow hsl hd6 hx hij
        go_wp2_with fail
        go_at_call 73
        refine HT.out.mono ?_
        rintro e w6 ⟨rfl, own6, vo6, hO6, hown6, hk6⟩
        have HO6 := Lib.hid hO6
        have HOWN6 := Lib.hid hown6
        have HK6 := Lib.hid hk6
        clear hO6 hown6 hk6
        go_wp2
        go_roundg (c.ws.length - (i + 1))
        case measure => have := HIJ.out; omega
        case rel =>
          refine ⟨i + 1, by omega, by go_num, ⟨own6, vo6, ?_, fun k hk => (HOWN6.out k (Nat.lt_of_lt_of_le hk HKX.out.size)).trans (HOWN.out k hk), HKX.out.trans HK6.out ?_⟩⟩
          · have := HO6.out
            rw [flush_step, flush_out _ _ _ HX.out] at this
            exact this
          · rintro k hk (e | e)
            · exact .inl ((HOWN.out k hk).symm.trans e)
            · exact .inr e
      · obtain rfl : i = c.ws.length := by omega
        rw [List.take_length] at hO
        have HOF := Lib.hid hO
        clear hO hown hkx hrow hsl hij
        go_wp2
        go_end0
        rw [HE.out.1, HE.out.2]
        have hg3 : own3 c.g = .c d := HCR5.out.og
        exact ⟨rfl, _, _, HOF.out, HK5.out.trans ⟨HKX.out.mono (fun k _ e => by rcases e with e | e <;> simp [e, hg3]), HOWN.out⟩⟩
end
end Go.Proofs.YtepikngkbondgaaGreat
namespace Go.Proofs.YtepikngkbondgaaGreat
set_option linter.unusedVariables false
open Go.RowKit

/-- What host makes of the centers and of the hosts that are out. -/
def stepH (s : Si) (h : ByteArray) (cs : List (ByteArray × Cr)) (out : List ByteArray) : List (ByteArray × Cr) × List ByteArray :=
  match aget s.2.1 cs with
  | none => (cs, out)
  | some c => if c.need ≤ (c.tk : Int) then (cs, out) else if c.racks.all (·.2) = true then (takeCs s.2.1 c cs, takeOut c h out)
    else if aget s.2.2 c.racks = some true then (aput s.2.1 { c with ws := c.ws ++ [h] } cs, out) else (newCs s.2.1 s.2.2 c cs, newOut s.2.2 c h out)
/-- How great all may be behind i steps. -/
def Bd (i : Nat) (cs : List (ByteArray × Cr)) (out : List ByteArray) : Prop := out.length ≤ i * (i + 1) ∧ ∀ p ∈ cs, p.2.ws.length ≤ i ∧ p.2.tk ≤ i * (i + 1)

section
variable {w : World} {base bX mS mC : Nat} {sm : List (ByteArray × Si)} {cs : List (ByteArray × Cr)} {out : List ByteArray} {own : Nat → Own} {vo : Value}
theorem rhost_at {h : ByteArray} {s : Si} {i : Nat} (hO : ChO w base bX mS mC sm cs out own vo) (hs : aget h sm = some s) (hb : Bd i cs out) (hi : i ≤ 200) :
    Calls Tryz.prog 48 #[.pointer (some ⟨bX, 0, none⟩), .string h] w fun e w' => e = .returned (.tuple #[]) ∧ ∃ own' vo', ChO w' base bX mS mC sm (stepH s h cs out).1 (stepH s h cs out).2 own' vo' ∧ Step own own' w w' := by
  have hsq : i * (i + 1) ≤ 200 * 201 := Nat.mul_le_mul hi (by omega)
  unfold stepH
  cases hd : aget s.2.1 cs with
  | none => exact rhost_none hO hs hd
  | some c =>
    have hbc := hb.2 _ (aget_mem hd)
    have h1 : c.ws.length ≤ i := hbc.1
    have h2 : c.tk ≤ i * (i + 1) := hbc.2
    have h3 := hb.1
    simp only []
    by_cases hge : c.need ≤ (c.tk : Int)
    · rw [if_pos hge]; exact rhost_full hO hs hd hge
    · rw [if_neg hge]
      by_cases hall : c.racks.all (·.2) = true
      · rw [if_pos hall]; exact rhost_all hO hs hd (by omega) hall (by omega) (by omega)
      · rw [if_neg hall]
        by_cases hr : aget s.2.2 c.racks = some true
        · rw [if_pos hr]; exact rhost_wait hO hs hd (by omega) (by simpa using hall) hr (by omega)
        · rw [if_neg hr]; exact rhost_new hO hs hd (by omega) (by simpa using hall) hr (by omega) (by omega)
end
theorem takeCs_keys {d : ByteArray} {c : Cr} {cs : List (ByteArray × Cr)} (hd : d ∈ cs.map (·.1)) : (takeCs d c cs).map (·.1) = cs.map (·.1) := by
  unfold takeCs; split
  · exact aput_keys hd
  · rfl
theorem newCs_keys {d r : ByteArray} {c : Cr} {cs : List (ByteArray × Cr)} (hd : d ∈ cs.map (·.1)) : (newCs d r c cs).map (·.1) = cs.map (·.1) := by
  unfold newCs; split <;> exact aput_keys hd
theorem stepH_keys (s : Si) (h : ByteArray) (cs : List (ByteArray × Cr)) (out : List ByteArray) : (stepH s h cs out).1.map (·.1) = cs.map (·.1) := by
  unfold stepH
  cases hd : aget s.2.1 cs with
  | none => rfl
  | some c =>
    have hk : s.2.1 ∈ cs.map (·.1) := List.mem_map.2 ⟨_, aget_mem hd, rfl⟩
    simp only []
    split
    · rfl
    · split
      · exact takeCs_keys hk
      · split
        · exact aput_keys hk
        · exact newCs_keys hk
theorem Bd.mono {i : Nat} {cs : List (ByteArray × Cr)} {out : List ByteArray} (h : Bd i cs out) : Bd (i + 1) cs out := by
  have e : (i + 1) * (i + 1 + 1) = i * (i + 1) + 2 * (i + 1) := by rw [Nat.mul_comm, ← Nat.add_mul]
  refine ⟨by have := h.1; omega, fun p hp => ?_⟩
  have := h.2 p hp
  omega
theorem Bd.put {i : Nat} {cs : List (ByteArray × Cr)} {out out' : List ByteArray} {d : ByteArray} {c : Cr} (h : Bd i cs out) (hn : (cs.map (·.1)).Nodup) (h1 : c.ws.length ≤ i + 1) (h2 : c.tk ≤ i * (i + 1) + (i + 1)) (h3 : out'.length ≤ i * (i + 1) + (i + 1)) : Bd (i + 1) (aput d c cs) out' := by
  have e : (i + 1) * (i + 1 + 1) = i * (i + 1) + 2 * (i + 1) := by rw [Nat.mul_comm, ← Nat.add_mul]
  refine ⟨by omega, fun p hp => ?_⟩
  rcases mem_aput hn hp with rfl | ⟨hp, -⟩
  · simp only []; omega
  · have := h.2 p hp; omega
theorem Bd.step {i : Nat} {cs : List (ByteArray × Cr)} {out : List ByteArray} (h : Bd i cs out) (hn : (cs.map (·.1)).Nodup) (s : Si) (x : ByteArray) : Bd (i + 1) (stepH s x cs out).1 (stepH s x cs out).2 := by
  unfold stepH
  cases hd : aget s.2.1 cs with
  | none => exact h.mono
  | some c =>
    have hbc := h.2 _ (aget_mem hd)
    have h1 : c.ws.length ≤ i := hbc.1
    have h2 : c.tk ≤ i * (i + 1) := hbc.2
    have h3 := h.1
    simp only []
    split
    · exact h.mono
    · rename_i hlt
      have hlt' : (c.tk : Int) < c.need := by omega
      split
      · unfold takeCs takeOut
        rw [if_pos hlt', if_pos hlt']
        exact h.put hn (by show c.ws.length ≤ _; omega) (by show c.tk + 1 ≤ _; omega) (by rw [List.length_append]; simp; omega)
      · split
        · exact h.put hn (by simp; omega) (by show c.tk ≤ _; omega) (by show out.length ≤ _; omega)
        · unfold newCs newOut
          split
          · refine h.put hn (by show c.ws.length ≤ _; omega) (by show c.tk + 1 + min _ _ ≤ _; omega) ?_
            rw [List.length_append, List.length_append, List.length_take]
            simp; omega
          · exact h.put hn (by show c.ws.length ≤ _; omega) (by show c.tk + 1 ≤ _; omega) (by rw [List.length_append]; simp; omega)
end Go.Proofs.YtepikngkbondgaaGreat
namespace Go.Proofs.YtepikngkbondgaaGreat
set_option linter.unusedVariables false
open Go.RowKit Go.Shelf
attribute [local go_sem] Oper.semAt_some

theorem sC_len (l : List Si) : (l.flatMap sC).length = l.length * 3 := flat_len (k := 3) (fun _ => rfl) l
theorem si_at {w : World} {ok : Nat → TypeId → Prop} {v : Value} {L : List Si} {n : Nat} (h : SlK w ok 3 v n (L.flatMap sC)) {i : Nat} {s : Si} (hi : L[i]? = some s) :
    ∃ g off, (∀ kd w', (Instr.indexAt 64 v (.int kd (i : Int))).run Tryz.prog w' = .ok (.pointer (some ⟨g, off, none⟩)) w') ∧ g < w.heap.size ∧ w.cell? ⟨g, off, none⟩ = some (.string s.1) ∧ w.cell? ⟨g, off + 1, none⟩ = some (.string s.2.1) ∧ w.cell? ⟨g, off + 2, none⟩ = some (.string s.2.2) := by
  have hlt : i < n := by
    have h1 := (List.getElem?_eq_some_iff.1 hi).1
    have h2 := h.len
    rw [sC_len] at h2
    omega
  obtain ⟨g, off, h1, h2, h4, h3⟩ := h.run_index sitesT (i := (i : Int)) (k := i) rfl hlt
  refine ⟨g, off, h1, h2, h3 0 _ ?_, h3 1 _ ?_, h3 2 _ ?_⟩
  · rw [flat_get (k := 3) (fun _ => rfl) L i 0 s hi (by decide)]; rfl
  · rw [flat_get (k := 3) (fun _ => rfl) L i 1 s hi (by decide)]; rfl
  · rw [flat_get (k := 3) (fun _ => rfl) L i 2 s hi (by decide)]; rfl

/-- What a round must keep: what lay below n, and the slice's box. -/
def BackK (n Bs : Nat) (W W' : World) : Prop := Below n W W' ∧ Bs < W.heap.size ∧ W'.heap[Bs]? = W.heap[Bs]?
def sitesOf (pre : List (Int × Si)) : List Si := pre.map (·.2)
abbrev encB (x : Int × Si) : Array Value := #[.int .i64 x.1, .agg #[.string x.2.1, .string x.2.2.1, .string x.2.2.2]]

set_option maxRecDepth 100000 in
set_option maxHeartbeats 2000000 in
theorem Backw1_in (F : Fence) (n : Nat) (hF : F.fn 71) (hro : F.round = none) (hn : 1 ≤ n) (l Bs n₀ len cap : Nat) (A : Option Addr) (zs : List Si) (hlen : zs.length = len) (hmax : len ≤ 1000000) (J Jx : List (Int × Si) → World → Prop)
    (hY : ∀ pre x W, J pre W → pre.length < len → YieldAt F (n - 1) Tryz.prog l (encB x) W fun e W' =>
      (e = .returned (.bool true) ∧ J (pre ++ [x]) W' ∧ BackK n₀ Bs W W') ∨ (e = .returned (.bool false) ∧ Jx (pre ++ [x]) W'))
    (W : World) (hBs : W.cell? ⟨Bs, 0, none⟩ = some (.slice A len cap)) (hs : Lo W n₀ 3 (.slice A len cap) len (zs.flatMap sC)) (h0 : J [] W) :
    CallsIn F n Tryz.prog 71 #[.func (.yield l) #[] #[], .pointer (some ⟨Bs, 0, none⟩)] W fun e W' => (∃ v, e = .returned v) ∧
      ((∃ ys, sitesOf ys = zs.reverse ∧ J ys W') ∨ (∃ pre, True ∧ Jx pre W')) := by
  have hBl : Bs < W.heap.size := World.block_lt_of_cell? _ ⟨Bs, 0, none⟩ hBs
  have hrl := hs.run_len sitesT
  have HS := Lib.hid hs
  have hw0 : IntKind.i64.wrap ((len : Int) - 1) = (len : Int) - 1 := by rw [IntKind.wrap_i64]; omega
  have hw0' : IntKind.i64.wrap (-1 + (len : Int)) = (len : Int) - 1 := by rw [IntKind.wrap_i64]; omega
  clear hs
  refine callsIn_of_wp Tryz.func71 rfl hF ?_ hro
  simp only [Tryz.ntmps71, List.size_toArray, List.length_cons, List.length_nil, Nat.reduceAdd, Nat.reduceSub, Array.replicate_succ, Array.replicate_zero, List.push_toArray, List.append_toArray, List.nil_append, List.cons_append]
  gi_wp2
  gi_loopw [3] (fun i wr => ∃ (m : Nat) (pre : List (Int × Si)), m + pre.length = len ∧ i = .int .i64 ((m : Int) - 1) ∧ sitesOf pre = zs.reverse.take pre.length ∧ J pre wr ∧ Below n₀ W wr ∧ Bs < wr.heap.size ∧ wr.heap[Bs]? = W.heap[Bs]?)
    (fun i _ => (intOf i + 1).toNat)
  case atStart => exact ⟨len, [], by simp, rfl, by simp [sitesOf], h0, Below.refl _ _, hBl, rfl⟩
  case round =>
    obtain ⟨m, pre, hmk, rfl, hpre, hJs, hbw, hbl, hbs⟩ := hrel
    have hbc : wr.cell? ⟨Bs, 0, none⟩ = some (.slice A len cap) := (World.cell?_of_block (a := ⟨Bs, 0, none⟩) hbs).trans hBs
    have hsl : Lo wr n₀ 3 (.slice A len cap) len (zs.flatMap sC) := HS.out.keep fun g cs e fz hg hh => (hbw.block g hg).trans hh
    cases m with
    | zero =>
      have HP := Lib.hid hpre
      clear hsl hpre
      have hm1 : ((0 : Nat) : Int) - 1 = -1 := rfl
      gi_wp2
      go_end0
      refine ⟨⟨_, rfl⟩, .inl ⟨pre, ?_, hJs⟩⟩
      have := HP.out
      rw [this]
      exact List.take_of_length_le (by rw [List.length_reverse]; omega)
    | succ m =>
      obtain ⟨x, hx⟩ : ∃ x, zs[m]? = some x := ⟨_, List.getElem?_eq_getElem (by omega)⟩
      obtain ⟨g, off, hidx, hgl, c0, c1, c2⟩ := si_at hsl hx
      obtain ⟨fn, tmps, assign, body, hy, hR⟩ := hY pre ((m : Int), x) wr hJs (by omega)
      have hm1 : (((m + 1 : Nat) : Nat) : Int) - 1 = (m : Int) := by omega
      have hxr : sitesOf (pre ++ [((m : Int), x)]) = zs.reverse.take (pre.length + 1) := by
        have h1 : zs.reverse[pre.length]? = some x := by
          rw [List.getElem?_reverse (by omega)]
          rw [← hx]; congr 1; omega
        rw [List.take_add_one, h1, ← hpre]
        simp [sitesOf]
      have HXR := Lib.hid hxr
      have hwm : IntKind.i64.wrap ((m : Int) - 1) = (m : Int) - 1 := by rw [IntKind.wrap_i64]; omega
      have HBW := Lib.hid hbw
      have HBL := Lib.hid hbl
      have HBS := Lib.hid hbs
      have HMK := Lib.hid hmk
      clear hsl hxr hpre hx hbw hbl hbs hmk
      rw [hm1]
      gi_wp2
      refine hR.mono ?_
      rintro e W3 (⟨rfl, hJ3, hk3⟩ | ⟨rfl, hJx3⟩)
      · gi_wp2
        go_roundw
        case rel => exact ⟨m, pre ++ [((m : Int), x)], by rw [List.length_append]; have := HMK.out; simp; omega, by go_num, by rw [List.length_append]; exact HXR.out, hJ3, HBW.out.trans hk3.1, by have := hk3.1.size; have := hk3.2.1; omega, hk3.2.2.trans HBS.out⟩
        case measure => simp [intOf]
      · gi_wp2
        refine bodyPost_ret (results_none rfl _ _ _) rfl ?_
        exact ⟨⟨_, rfl⟩, .inr ⟨_, trivial, hJx3⟩⟩

/-- slices.Backward's value: all of them, from the last one on. -/
theorem Backw_stops (F : Fence) (n : Nat) (hF : F.fn 71) (hro : F.round = none) (hn : 1 ≤ n) (Bs n₀ len cap : Nat) (A : Option Addr) (zs : List Si) (hlen : zs.length = len) (hmax : len ≤ 1000000) (w : World) (hBs : Bs < w.heap.size) (hn₀ : n₀ ≤ w.heap.size)
    (hc : w.cell? ⟨Bs, 0, none⟩ = some (.slice A len cap)) (hs : Lo w n₀ 3 (.slice A len cap) len (zs.flatMap sC)) :
    SeqStopsK F n Tryz.prog 71 #[.pointer (some ⟨Bs, 0, none⟩)] encB (BackK n₀ Bs) (fun ys => sitesOf ys = zs.reverse) (fun _ => True) len w := fun l J Jx W hW _ _ hY h0 =>
  Backw1_in F n hF hro hn l Bs n₀ len cap A zs hlen hmax J Jx hY W ((hW.cell (p := ⟨Bs, 0, none⟩) hBs).trans hc) (hs.keep fun g cs e fz hg hh => (hW.block g (Nat.lt_of_lt_of_le hg hn₀)).trans hh) h0

set_option maxHeartbeats 1000000 in
theorem Backw_in (F : Fence) (n : Nat) (hF : F.fn 47) (hro : F.round = none) (a : Option Addr) (len cap : Nat) (w : World) :
    CallsIn F n Tryz.prog 47 #[.slice a len cap] w fun e w' => e = .returned (.func (.func 71) #[] #[.pointer (some ⟨w.heap.size, 0, none⟩)]) ∧ w' = w.alloc (.cells #[.slice a len cap] 64) := by
  refine callsIn_of_wp Tryz.func47 rfl hF ?_ hro
  simp only [Tryz.ntmps47, List.size_toArray, List.length_cons, List.length_nil, Nat.reduceAdd, Nat.reduceSub, Array.replicate_succ, Array.replicate_zero, List.push_toArray, List.append_toArray, List.nil_append, List.cons_append]
  gi_wp2
  go_ret
  exact ⟨rfl, rfl⟩
theorem backK_t {n Bs : Nat} {A B C : World} (h : BackK n Bs A B) (k : BackK n Bs B C) : BackK n Bs A C := ⟨h.1.trans k.1, h.2.1, k.2.2.trans h.2.2⟩
theorem backK_b {n Bs : Nat} {w : World} (hn : n ≤ w.heap.size) (hB : Bs < w.heap.size) (W : World) (l : Nat) (o o' : Obj) (hl : w.heap.size ≤ l) (h : W.heap[l]? = some o) (h1 : o.isCells = false) (h2 : o.isWalk = false) : BackK n Bs W (W.putObj l o') :=
  ⟨belowK_b hn W l o o' hl h h1 h2, by have := lt_of_heap h; omega, World.putObj_heap_other (by omega)⟩
end Go.Proofs.YtepikngkbondgaaGreat
namespace Go.Proofs.YtepikngkbondgaaGreat
set_option linter.unusedVariables false
open Go.RowKit
open Go.ChangeMaps (setBlock)

/-- The sites by their host: what is stored later counts. -/
def smOf (zs : List Si) : List (ByteArray × Si) := zs.foldl (fun m s => aput s.1 s m) []
theorem smOf_append (a : List Si) (s : Si) : smOf (a ++ [s]) = aput s.1 s (smOf a) := by simp [smOf]
theorem smOf_get (h : ByteArray) : ∀ (zs : List Si), aget h (smOf zs.reverse) = zs.find? fun s => decide (s.1 = h)
  | [] => rfl
  | s :: zs => by
    rw [List.reverse_cons, smOf_append, aget_aput, smOf_get h zs, List.find?_cons]
    by_cases e : s.1 = h
    · simp [e]
    · simp [e]
theorem smOf_key : ∀ (zs : List Si) {h : ByteArray} {s : Si}, aget h (smOf zs.reverse) = some s → s.1 = h := by
  intro zs h s e
  rw [smOf_get] at e
  simpa using List.find?_some e

def countH (s : Si) (cs : List (ByteArray × Cr)) : List (ByteArray × Cr) :=
  match aget s.2.1 cs with
  | none => cs
  | some c => aput s.2.1 { c with need := c.need + 1, racks := aput s.2.2 false c.racks } cs
def countAll (sm : List (ByteArray × Si)) (l : List ByteArray) (cs : List (ByteArray × Cr)) : List (ByteArray × Cr) :=
  l.foldl (fun cs h => match aget h sm with | some s => countH s cs | none => cs) cs
def needF (f : Fa) (cs : List (ByteArray × Cr)) : List (ByteArray × Cr) :=
  match aget f.1 cs with
  | none => cs
  | some c => aput f.1 { c with need := max (min c.need f.2) 0 } cs
def needAll (fs : List Fa) (cs : List (ByteArray × Cr)) : List (ByteArray × Cr) := fs.foldl (fun cs f => needF f cs) cs
theorem countAll_keys (sm : List (ByteArray × Si)) : ∀ (l : List ByteArray) (cs : List (ByteArray × Cr)), (countAll sm l cs).map (·.1) = cs.map (·.1)
  | [], _ => rfl
  | h :: l, cs => by
    show (countAll sm l (match aget h sm with | some s => countH s cs | none => cs)).map (·.1) = _
    rw [countAll_keys sm l]
    cases aget h sm with
    | none => rfl
    | some s =>
      simp only []
      unfold countH
      cases hs : aget s.2.1 cs with
      | none => rfl
      | some c => exact aput_keys (List.mem_map.2 ⟨_, aget_mem hs, rfl⟩)
theorem needAll_keys : ∀ (fs : List Fa) (cs : List (ByteArray × Cr)), (needAll fs cs).map (·.1) = cs.map (·.1)
  | [], _ => rfl
  | f :: fs, cs => by
    show (needAll fs (needF f cs)).map (·.1) = _
    rw [needAll_keys fs]
    unfold needF
    cases hs : aget f.1 cs with
    | none => rfl
    | some c => exact aput_keys (List.mem_map.2 ⟨_, aget_mem hs, rfl⟩)
def hostAll (sm : List (ByteArray × Si)) (l : List ByteArray) (cs : List (ByteArray × Cr)) : List (ByteArray × Cr) × List ByteArray :=
  l.foldl (fun st h => match aget h sm with | some s => stepH s h st.1 st.2 | none => st) (cs, [])
/-- The centers as they are made. -/
def Fresh (fs : List Fa) (cs : List (ByteArray × Cr)) : Prop := cs.map (·.1) = fs.map (·.1) ∧ ∀ p ∈ cs, p.2.need = 0 ∧ p.2.tk = 0 ∧ p.2.racks = [] ∧ p.2.ws = []
def Zero (cs : List (ByteArray × Cr)) : Prop := (cs.map (·.1)).Nodup ∧ ∀ p ∈ cs, p.2.tk = 0 ∧ p.2.ws = []
theorem Zero.put {cs : List (ByteArray × Cr)} {d : ByteArray} {c c' : Cr} (h : Zero cs) (hd : aget d cs = some c) (h1 : c'.tk = c.tk) (h2 : c'.ws = c.ws) : Zero (aput d c' cs) := by
  have hc := h.2 _ (aget_mem hd)
  refine ⟨by rw [aput_keys (List.mem_map.2 ⟨_, aget_mem hd, rfl⟩)]; exact h.1, fun p hp => ?_⟩
  rcases mem_aput h.1 hp with rfl | ⟨hp, -⟩
  · exact ⟨h1.trans hc.1, h2.trans hc.2⟩
  · exact h.2 p hp
theorem Zero.count {sm : List (ByteArray × Si)} : ∀ (l : List ByteArray) {cs : List (ByteArray × Cr)}, Zero cs → Zero (countAll sm l cs)
  | [], _, h => h
  | x :: l, cs, h => by
    show Zero (countAll sm l (match aget x sm with | some s => countH s cs | none => cs))
    refine Zero.count l ?_
    cases aget x sm with
    | none => exact h
    | some s =>
      simp only []
      unfold countH
      cases hs : aget s.2.1 cs with
      | none => exact h
      | some c => exact h.put hs rfl rfl
theorem Zero.need : ∀ (fs : List Fa) {cs : List (ByteArray × Cr)}, Zero cs → Zero (needAll fs cs)
  | [], _, h => h
  | f :: fs, cs, h => by
    show Zero (needAll fs (needF f cs))
    refine Zero.need fs ?_
    unfold needF
    cases hs : aget f.1 cs with
    | none => exact h
    | some c => exact h.put hs rfl rfl
theorem hostAll_snoc {sm : List (ByteArray × Si)} {l : List ByteArray} {cs : List (ByteArray × Cr)} {i : Nat} {x : ByteArray} {s : Si} (hx : l[i]? = some x) (hs : aget x sm = some s) : hostAll sm (l.take (i + 1)) cs = stepH s x (hostAll sm (l.take i) cs).1 (hostAll sm (l.take i) cs).2 := by
  unfold hostAll
  rw [List.take_add_one, hx, List.foldl_append]
  simp only [Option.toList_some, List.foldl_cons, List.foldl_nil, hs]
/-- What Network hands back where all is well. -/
def NetOut (sm : List (ByteArray × Si)) (l : List ByteArray) (fs : List Fa) (out : List ByteArray) : Prop :=
  ∃ cs, Fresh fs cs ∧ out = (hostAll sm l (needAll fs (countAll sm l cs))).2

section
variable {w W : World} {base bX mS mC : Nat} {sm : List (ByteArray × Si)} {cs : List (ByteArray × Cr)} {out : List ByteArray} {own : Nat → Own} {vo : Value}
/-- The picture at the start: no center yet. -/
theorem ChO.start (hb : Blk w bX 111 #[.map (some mS), .map (some mC), .slice none 0 0]) (hs : SiMap w mS sm) (hc : CeMap w mC ([] : List (ByteArray × Nat))) (hne : mS ≠ mC) :
    ChO w w.heap.size bX mS mC sm [] [] (fun k => if k = bX then .x else .m) (.slice none 0 0) := by
  have e1 : ¬ mS = bX := fun e => hs.ne_blk hb e.symm
  have e2 : ¬ mC = bX := fun e => hc.ne_blk hb e.symm
  refine ⟨hb, if_pos rfl, hs, if_neg e1, hc, if_neg e2, World.ownsRow_nil _ _ _ _, fun k e => by simp [Value.ownBlock] at e, List.nodup_nil, (fun p hp => by simp at hp), fun k e => ?_, Nat.le_refl _, fun k e => if_neg ?_, hne⟩
  · by_cases h : k = bX
    · exact .inl h
    · exact absurd (if_neg h) e
  · rintro rfl
    exact absurd hb.lt (by omega)
/-- A new center. -/
theorem ChO.cen {d : ByteArray} {g mr : Nat} {es : Array MapEntry} {ck : Nat} (hO : ChO w base bX mS mC sm cs out own vo) (hd : aget d cs = none) (hk : Kept noBlock w W)
    (hg : Blk W g 117 #[.int .i64 0, .int .i64 0, .map (some mr), .slice none 0 0]) (hm : SMap W mr []) (hgn : w.heap.size ≤ g) (hmn : w.heap.size ≤ mr)
    (hC : CeMap (setBlock W mC (.map es ck)) mC (aput d g (cs.map fun p => (p.1, p.2.g)))) :
    ∃ own', ChO (setBlock W mC (.map es ck)) base bX mS mC sm (cs ++ [(d, ⟨g, mr, 0, 0, [], []⟩)]) out own' vo ∧ ∀ k, k < w.heap.size → own' k = own k := by
  have hmC := hO.cens.lt
  have hk2 : Kept (fun k => k = mC) w (setBlock W mC (.map es ck)) := (hk.of_none (S := fun k => k = mC)).setBlock (m := mC) (fun _ => rfl) _
  have hsz : (setBlock W mC (.map es ck)).heap.size = W.heap.size := size_setBlock _ _ _
  have hgm : g ≠ mr := hm.ne_blk hg
  have hold : ∀ k, k < w.heap.size → (if k = g ∨ k = mr then Own.c d else own k) = own k := fun k h => if_neg (by omega)
  have hne : ∀ k, own k ≠ .m → k ≠ mC := by rintro k h rfl; exact h hO.oc
  have hg2 : Blk (setBlock W mC (.map es ck)) g 117 #[.int .i64 0, .int .i64 0, .map (some mr), .slice none 0 0] := hg.setBlock (m := mC) (by omega) _
  have hm2 : SMap (setBlock W mC (.map es ck)) mr [] := hm.setBlock (g := mC) (by omega) _
  refine ⟨fun k => if k = g ∨ k = mr then .c d else own k, ⟨hO.blk.kept hk2 (hne _ (by rw [hO.ox]; simp)), (hold _ hO.blk.lt).trans hO.ox, hO.sites.kept hk2 hO.ne, (hold _ hO.sites.lt).trans hO.os, ?_, (hold _ hmC).trans hO.oc,
    own_keptB hO.row hk2 fun k e => hne k (by rw [hO.ow k e]; simp), fun k e => (hold _ (own_lt hO.row e)).trans (hO.ow k e), ?_, ?_, ?_, ?_, ?_, hO.ne⟩, hold⟩
  · have e : aput d g (cs.map fun p => (p.1, p.2.g)) = (cs ++ [(d, (⟨g, mr, 0, 0, [], []⟩ : Cr))]).map fun p => (p.1, p.2.g) := by
      rw [aput_none (aget_eq_none.1 (cen_none hd))]; simp
    rw [← e]; exact hC
  · rw [List.map_append, List.nodup_append]
    refine ⟨hO.nd, by simp, ?_⟩
    rintro x hx y hy rfl
    obtain ⟨p, hp, rfl⟩ := List.mem_map.1 hx
    have : p.1 = d := by simpa using hy
    exact aget_eq_none.1 hd p hp this
  · intro p hp
    rcases List.mem_append.1 hp with hp | hp
    · obtain ⟨vw, h⟩ := hO.cr p hp
      exact ⟨vw, h.kept hk2 (fun k e => hne k (by rw [e]; simp)) hold⟩
    · obtain rfl : p = (d, ⟨g, mr, 0, 0, [], []⟩) := by simpa using hp
      exact ⟨.slice none 0 0, hg2, hm2, World.ownsRow_nil _ _ _ _, if_pos (.inl rfl), if_pos (.inr rfl), fun k e => by simp [Value.ownBlock] at e⟩
  · intro k e
    by_cases h : k = g ∨ k = mr
    · have := hO.low; exact .inr (by omega)
    · rw [if_neg h] at e; exact hO.far k e
  · rw [hsz]; exact Nat.le_trans hO.low hk.size
  · intro k e
    rw [hsz] at e
    have h1 := hg.lt
    have h2 := hm.lt
    show (if k = g ∨ k = mr then Own.c d else own k) = .m
    rw [if_neg (by omega)]
    exact hO.top k (Nat.le_trans hk.size e)
end
end Go.Proofs.YtepikngkbondgaaGreat
namespace Go.Proofs.YtepikngkbondgaaGreat
set_option linter.unusedVariables false
open Go.RowKit Go.Shelf
open Go.ChangeMaps (setBlock)
attribute [local go_sem] Oper.semAt_some

theorem once {G : Prop} (h : ∃ T : Prop, (T → G) ∧ T) : G := by
  obtain ⟨T, h1, h2⟩ := h
  exact h1 h2
def netW (w : World) (A1 : Option Addr) (n1 c1 : Nat) : World := (((((w.alloc (.map #[] 0)).alloc (.map #[] 0)).alloc (.cells #[.map (some w.heap.size), .map (some (w.heap.size + 1)), .slice none 0 0] 111)).alloc (.cells #[.pointer (some ⟨w.heap.size + 1 + 1, 0, none⟩)] 107)).alloc (.cells #[.slice A1 n1 c1] 64))
theorem net_layout (w : World) (A1 : Option Addr) (n1 c1 : Nat) : Kept noBlock w (netW w A1 n1 c1) ∧ (netW w A1 n1 c1).heap.size = w.heap.size + 5 ∧ SiMap (netW w A1 n1 c1) w.heap.size [] ∧ CeMap (netW w A1 n1 c1) (w.heap.size + 1) [] ∧
    Blk (netW w A1 n1 c1) (w.heap.size + 1 + 1) 111 #[.map (some w.heap.size), .map (some (w.heap.size + 1)), .slice none 0 0] ∧ Blk (netW w A1 n1 c1) (w.heap.size + 1 + 1 + 1) 107 #[.pointer (some ⟨w.heap.size + 1 + 1, 0, none⟩)] ∧
    Blk (netW w A1 n1 c1) (w.heap.size + 1 + 1 + 1 + 1) 64 #[.slice A1 n1 c1] := by
  unfold netW
  refine ⟨(((((Kept.refl _ w).alloc _).alloc _).alloc _).alloc _).alloc _, by simp only [sz_alloc], ((((KMap.new w).alloc _).alloc _).alloc _).alloc _, (((?_ : CeMap ((w.alloc (.map #[] 0)).alloc (.map #[] 0)) (w.heap.size + 1) []).alloc _).alloc _).alloc _,
    ((Blk.new_at _ _ _ (by simp only [sz_alloc])).alloc _).alloc _, (Blk.new_at _ _ _ (by simp only [sz_alloc])).alloc _, Blk.new_at _ _ _ (by simp only [sz_alloc])⟩
  have h : CeMap ((w.alloc (.map #[] 0)).alloc (.map #[] 0)) (w.alloc (.map #[] 0)).heap.size [] := KMap.new _
  rw [sz_alloc] at h
  exact h
theorem Blk.grown {w w' : World} {g : Nat} {t : TypeId} {cs : Array Value} {row : Option Nat} (h : Blk w g t cs) (hg : w.grownBy w' row) (hr : ∀ r, row = some r → ∃ o : Obj, w.heap[r]? = some o ∧ o.isCells = false) : Blk w' g t cs := by
  refine (hg.block g h.lt fun e => ?_).trans h
  obtain ⟨o, ho, hc⟩ := hr g e.symm
  unfold Blk at h
  rw [h] at ho
  cases ho
  cases hc

/-- What Network hands back. -/
def NetPost (w : World) (zs : List Si) (l : List ByteArray) (fs : List Fa) (e : Ending) (w' : World) : Prop :=
  Kept noBlock w w' ∧ (((¬ (fs.map (·.1)).Nodup ∨ ∃ h ∈ l, aget h (smOf zs.reverse) = none) ∧ e = .returned (.tuple #[.slice none 0 0, .int .i64 1])) ∨
    ((fs.map (·.1)).Nodup ∧ (∀ h ∈ l, ∃ s, aget h (smOf zs.reverse) = some s) ∧ ∃ out v, NetOut (smOf zs.reverse) l fs out ∧ e = .returned (.tuple #[v, .int .i64 0]) ∧ Sl w' 9 1 v out.length (out.map Value.string) ∧ out.length ≤ 40200))

/-- The code behind the first loop. -/
def hasRF : Code → Bool
  | .rangeFunc .. => true
  | .seq a b => hasRF a || hasRF b
  | .block _ c => hasRF c
  | .scope c => hasRF c
  | _ => false
def afterRF : Code → Option Code
  | .seq a b => if hasRF a then (match afterRF a with | none => some b | some c => some (c.seq b)) else if hasRF b then afterRF b else none
  | _ => none
theorem Kept.putObj {S : Nat → Prop} {a w : World} (h : Kept S a w) {D : Nat} (hp : D < a.heap.size → S D) (o : Obj) : Kept S a (w.putObj D o) :=
  ⟨h.os, h.tape, h.output, by simp [World.putObj]; exact h.size, fun k hk hn => (World.putObj_heap_other (fun e => by subst e; exact hn (hp hk))).trans (h.block k hk hn)⟩
theorem fC_len (l : List Fa) : (l.flatMap fC).length = l.length * 2 := flat_len (k := 2) (fun _ => rfl) l
theorem fac_at {w : World} {ok : Nat → TypeId → Prop} {v : Value} {L : List Fa} {n : Nat} (h : SlK w ok 2 v n (L.flatMap fC)) {i : Nat} {s : Fa} (hi : L[i]? = some s) :
    ∃ g off, (∀ kd w', (Instr.indexAt 23 v (.int kd (i : Int))).run Tryz.prog w' = .ok (.pointer (some ⟨g, off, none⟩)) w') ∧ g < w.heap.size ∧ w.cell? ⟨g, off, none⟩ = some (.string s.1) ∧ w.cell? ⟨g, off + 1, none⟩ = some (.int .i64 s.2) := by
  have hlt : i < n := by
    have h1 := (List.getElem?_eq_some_iff.1 hi).1
    have h2 := h.len
    rw [fC_len] at h2
    omega
  obtain ⟨g, off, h1, h2, h4, h3⟩ := h.run_index facsT (i := (i : Int)) (k := i) rfl hlt
  refine ⟨g, off, h1, h2, h3 0 _ ?_, h3 1 _ ?_⟩
  · rw [flat_get (k := 2) (fun _ => rfl) L i 0 s hi (by decide)]; rfl
  · rw [flat_get (k := 2) (fun _ => rfl) L i 1 s hi (by decide)]; rfl
noncomputable def netRest : Code := ((Tryz.f27.body.bind afterRF).getD .skip)
end Go.Proofs.YtepikngkbondgaaGreat

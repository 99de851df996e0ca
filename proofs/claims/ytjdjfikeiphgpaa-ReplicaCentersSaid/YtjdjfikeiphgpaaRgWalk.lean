/- ring.Walk. -/
import Derived.Test.YtjdjfikeiphgpaaRgConcat
namespace Go.Proofs.Ytjdjfikeiphgpaa
set_option linter.unusedVariables false
open Go.RowKit
open Go.ChangeMaps (setBlock)

theorem msbM : Try.prog.underlying 79 = some (.map 9 4) := by kernel_rfl
theorem strU : Try.prog.underlying 9 = some .string := by kernel_rfl
theorem zero_bool (w : World) : (zeroValue 4).run Try.prog w = .ok (.bool false) w := Try.zeroValue4 w
abbrev SMap := KMap (β := Bool) .string (fun s : ByteArray => Value.string s) Value.bool
def marks (l : List ByteArray) : List (ByteArray × Bool) := l.map fun h => (h, true)
theorem marks_get (l : List ByteArray) (h : ByteArray) : aget h (marks l) = if has l h then some true else none := by
  induction l with
  | nil => rfl
  | cons a t ih =>
    unfold marks at ih ⊢
    rw [List.map_cons, aget, ih]
    unfold has
    rw [List.any_cons]
    by_cases e : a = h
    · simp [e]
    · rw [decide_eq_false e, Bool.false_or, if_neg e]

theorem marks_append (l : List ByteArray) (h : ByteArray) : marks (l ++ [h]) = marks l ++ [(h, true)] := by simp [marks]
theorem marks_put {l : List ByteArray} {h : ByteArray} (hh : has l h = false) : aput h true (marks l) = marks (l ++ [h]) := by
  have := marks_get l h
  rw [hh] at this
  rw [aput_none (aget_eq_none.1 this), marks_append]
theorem uniq_take {T : List Pl} {i : Nat} {p : Pl} (hp : T[i]? = some p) : uniq [] ((T.take (i + 1)).map (·.2)) = if has (uniq [] ((T.take i).map (·.2))) p.2 then uniq [] ((T.take i).map (·.2)) else uniq [] ((T.take i).map (·.2)) ++ [p.2] := by
  rw [List.take_add_one, hp, List.map_append, uniq_append]
  show uniq _ [p.2] = _
  rw [uniq]
  split <;> rfl
theorem uniq_len : ∀ (l out : List ByteArray), (uniq out l).length ≤ out.length + l.length
  | [], out => by simp [uniq]
  | a :: t, out => by
    rw [uniq]
    split
    · have := uniq_len t out; simp only [List.length_cons]; omega
    · have := uniq_len t (out ++ [a]); simp only [List.length_append, List.length_cons, List.length_nil] at this ⊢; omega
section
variable {w w' : World} {base m : Nat} {e : TypeId} {sz k n : Nat} {v v' : Value} {xs ys : List Value} {M : List (ByteArray × Bool)}
theorem SMap.appended (hm : SMap w m M) (h : Appended w w' base e sz v v' k xs) (ho : w.ownsRow base e sz v n ys) : SMap w' m M :=
  hm.kept h.kept fun hv => by
    obtain ⟨_, cs, hh⟩ := own_type ho hv
    obtain ⟨es, ck, hm'⟩ := hm.heap
    rw [hm'] at hh; cases hh
theorem Kept.appended {S : Nat → Prop} {w0 : World} (hk : Kept S w0 w) (h : Appended w w' base e sz v v' k xs) (ho : w.ownsRow base e sz v n ys) (hb : w0.heap.size ≤ base) : Kept S w0 w' := h.below ho hk hb
end

set_option maxHeartbeats 4000000 in
set_option maxRecDepth 100000 in
theorem Rwalk_own {w : World} {g : Nat} {S : List Pl} {t : Int} (h : RingAt w g S) (hr : rising S) (hn : S.length ≤ 1000) :
    Calls Try.prog 17 #[.pointer (some ⟨g, 0, none⟩), .int .i64 t] w fun e w' => ∃ v, e = .returned v ∧ w'.ownsRow w.heap.size 9 1 v (rwalk S t).length ((rwalk S t).map Value.string) ∧ Kept noBlock w w' := by
  have HA := Lib.hid (Rat_at (t := t) h hr (by omega))
  have H := Lib.hid h
  have hgl : g < w.heap.size := by obtain ⟨_, _, hb, _⟩ := h; exact hb.lt
  have hrl : rat S t ≤ S.length := by unfold rat; have := below_le S t; split <;> omega
  have HT := Lib.hid (show turned S t = S.drop (rat S t) ++ S.take (rat S t) from rfl)
  have HW := Lib.hid (show rwalk S t = uniq [] ((turned S t).map (·.2)) from rfl)
  have hTl := turned_length S t
  generalize rwalk S t = R at *
  generalize turned S t = T at *
  generalize rat S t = k at *
  have hTn : T.length ≤ 1000 := by omega
  clear h hr hTl
  go_enter Try.func17, Try.ntmps17
  go_wp2_with fail
  go_at_call 32
  refine HA.out.mono ?_
  rintro e w1 ⟨rfl, hk1⟩
  have HK1 := Lib.hid hk1
  clear hk1 HA
  have hmk := @run_makeMap Try.prog
  go_wp2_with fail
  clear hmk
  have hmap : SMap (w1.alloc (.map #[] 0)) w1.heap.size (marks []) := KMap.new w1
  obtain ⟨A, c, hb, hs⟩ := H.out.kept (HK1.out.alloc (.map #[] 0))
  have hk2 := HK1.out.alloc (.map #[] 0)
  have hz1 := hk2.size
  rw [sz_alloc] at hz1
  have hbm : w1.heap.size < (w1.alloc (.map #[] 0)).heap.size := by rw [sz_alloc]; omega
  have hzb := HK1.out.size
  have HMAP := Lib.hid hmap
  have HB := Lib.hid hb
  have HS := Lib.hid hs
  have HK2 := Lib.hid hk2
  obtain ⟨A1, c1, hfrom, hs1⟩ := hs.run_from psT (i := (k : Int)) (k := k) rfl hrl
  obtain ⟨A2, c2, hto, hs2⟩ := hs.run_to psT (i := (k : Int)) (k := k) rfl hrl
  have e1 : (S.flatMap pC).take (k * 2) = (S.take k).flatMap pC := by
    conv => lhs; rw [← List.take_append_drop k S]
    rw [List.flatMap_append, List.take_left' (by rw [pC_len, List.length_take]; congr 1; omega)]
  have e2 : (S.flatMap pC).drop (k * 2) = (S.drop k).flatMap pC := by
    conv => lhs; rw [← List.take_append_drop k S]
    rw [List.flatMap_append, List.drop_left' (by rw [pC_len, List.length_take]; congr 1; omega)]
  rw [e2] at hs1
  rw [e1] at hs2
  have HS1 := Lib.hid hs1
  have HS2 := Lib.hid hs2
  have hld : (S.drop k).length = S.length - k := List.length_drop
  have hlt : (S.take k).length = k := by rw [List.length_take]; omega
  have HLD := Lib.hid hld
  have HLT := Lib.hid hlt
  clear hmap hb hs hk2 hs1 hs2 e1 e2 hld hlt
  generalize hmm : w1.heap.size = m at *
  have hMM := Lib.hid hmm
  clear hmm
  generalize w1.alloc (.map #[] 0) = w2 at *
  refine wp_region_sch (fun w' => Kept noBlock w2 w') (.take 0 (.take 1 (.take 2 (.take 3 (.take 4 (.take 5 (.take 6 (.take 7 (.take 8 (.take 9 (.take 10 (.take 11 (.take 15 (.one 12 (.one 13 (.take 14 .nil)))))))))))))))) (by kernel_rfl) (by kernel_rfl) (by kernel_rfl) (Kept.refl _ _).drew ?_
  repeat (first
    | (refine sch_takeE rfl rfl ?_
       apply Exists.intro
       refine ⟨fun w' hS => ?_, fun K hK => ?_⟩
       · (have z0 := (HB.out.kept hS (fun h => h)).cell 0
          simp only [List.getElem?_toArray, List.getElem?_cons_zero] at z0
          clear hS
          unfold takesAt; go_simp; rfl)
       go_simp
       refine hK _ ?_
       clear hK K))
  refine sch_doK rfl rfl (fun K hK => ?_)
  go_simp
  refine hK _ _ (((Kept.refl noBlock w2).alloc _).drew) ?_
  clear hK K
  refine sch_doK rfl rfl (fun K hK => ?_)
  go_simp
  go_at_call 33
  have hk3 := ((Kept.refl noBlock w2).alloc (.cells #[.slice A1 (S.length - k) c1, .slice A2 k c2] 22)).drew
  refine (PConcat_at (L1 := S.drop k) (L2 := S.take k) (gb := w2.heap.size) (v1 := .slice A1 (S.length - k) c1) (v2 := .slice A2 k c2) ((Blk.new w2 22 #[.slice A1 (S.length - k) c1, .slice A2 k c2]).drew) (by rw [HLD.out]; exact SlK.keptNone HS1.out hk3) (by rw [HLT.out]; exact SlK.keptNone HS2.out hk3) (by rw [HLD.out, HLT.out]; omega)).mono ?_
  rintro e w4 ⟨v4, rfl, hs4, hk4⟩
  have hk5 := hk3.trans hk4 (fun _ _ h => h)
  rw [← HT.out] at hs4
  obtain ⟨A4, c4, rfl, -, -⟩ := hs4.shape
  refine hK _ _ hk5 ?_
  clear hK K
  have hlen := hs4.run_len psT
  have HS4 := Lib.hid hs4
  have HK4 := Lib.hid (HK2.out.trans hk5 (fun _ _ h => h))
  have hmap4 := HMAP.out.kept hk5 (fun h => h)
  have hz4 := hk5.size
  have START := Lib.hid (show ∃ i : Nat, i + T.length = T.length ∧ (Value.int .i64 0) = .int .i64 i ∧ Kept noBlock w w4 ∧ Sl w4 55 2 (.slice A4 T.length c4) T.length (T.flatMap pC) ∧ SMap w4 m (marks (uniq [] ((T.take i).map (·.2)))) ∧ w4.ownsRow w.heap.size 9 1 (.slice none 0 0) (uniq [] ((T.take i).map (·.2))).length ((uniq [] ((T.take i).map (·.2))).map Value.string) from
    ⟨0, by omega, rfl, HK4.out, HS4.out, hmap4, World.ownsRow_nil _ _ _ _⟩)
  clear hs4 hk3 hk4 hk5 hmap4 HMAP HB HS HK2 HS1 HS2 hfrom hto HT
  repeat (first
    | (refine sch_takeE rfl rfl ?_
       apply Exists.intro
       refine ⟨fun w' hS => ?_, fun K hK => ?_⟩
       · (unfold takesAt; go_simp; rfl)
       go_simp
       refine hK _ ?_
       clear hK K))
  refine sch_nil (NoPanic.normal ?_)
  go_wp2_with fail
  go_loopg [6, 31] T.length (fun j vo vi wr => ∃ i : Nat, i + j = T.length ∧ vi = .int .i64 i ∧ Kept noBlock w wr ∧ Sl wr 55 2 (.slice A4 T.length c4) T.length (T.flatMap pC) ∧ SMap wr m (marks (uniq [] ((T.take i).map (·.2)))) ∧ wr.ownsRow w.heap.size 9 1 vo (uniq [] ((T.take i).map (·.2))).length ((uniq [] ((T.take i).map (·.2))).map Value.string))
  case atStart => exact START.out
  case round =>
    obtain ⟨i, hij, rfl, hk, hs, hmap, hown⟩ := hrel
    have HIJ := Lib.hid hij
    have HK := Lib.hid hk
    have HS := Lib.hid hs
    clear START HS4 HK4
    by_cases hlt : i < T.length
    · obtain ⟨p, hp⟩ : ∃ p, T[i]? = some p := ⟨_, List.getElem?_eq_getElem hlt⟩
      obtain ⟨go_, oo, hidx, hgl2, hc0, hc1⟩ := p_at hs psT hp
      have hnx := uniq_take hp
      have hul := uniq_len ((T.take i).map (·.2)) []
      rw [List.length_map, List.length_take] at hul
      simp only [List.length_nil] at hul
      generalize uniq [] ((T.take i).map (·.2)) = U at *
      obtain ⟨p1, p2⟩ := p
      simp only at hc0 hc1 hnx
      have HNX := Lib.hid hnx
      have hmapA := hmap.alloc (.cells #[.int .i64 p1, .string p2] 55)
      have hlk := hmapA.run_lookup string_emb msbM strU (zero_bool _) p2 false
      rw [marks_get] at hlk
      have hzr := hk.size
      have hownA := hown.alloc (.cells #[.int .i64 p1, .string p2] 55)
      have hsA := hs.alloc (.cells #[.int .i64 p1, .string p2] 55)
      have hkA := hk.alloc (.cells #[.int .i64 p1, .string p2] 55)
      cases hh : has U p2 with
      | true =>
        rw [hh] at hlk
        have e1 : uniq [] ((T.take (i + 1)).map (·.2)) = U := by have := HNX.out; rw [hh] at this; exact this
        have E1 := Lib.hid e1
        have REL := Lib.hid (⟨hkA, hsA, hmapA, hownA⟩ : Kept noBlock w (wr.alloc (.cells #[.int .i64 p1, .string p2] 55)) ∧ Sl _ 55 2 (.slice A4 T.length c4) T.length (T.flatMap pC) ∧ SMap _ m (marks U) ∧ World.ownsRow _ w.heap.size 9 1 _ U.length (U.map Value.string))
        simp only [if_true, Option.map_some, Option.getD_some, Bool.false_eq_true, if_false] at hlk
        clear hp hnx hmap hown hs hk hmapA hownA hsA hkA hh e1 hij
        go_wp2
        go_roundg (T.length - (i + 1))
        case measure => have := HIJ.out; omega
        case rel =>
          have hij := HIJ.out
          refine ⟨i + 1, by omega, by go_num, REL.out.1, REL.out.2.1, ?_, ?_⟩
          · rw [E1.out]; exact REL.out.2.2.1
          · rw [E1.out]; exact REL.out.2.2.2
      | false =>
        rw [hh] at hlk
        have e1 : uniq [] ((T.take (i + 1)).map (·.2)) = U ++ [p2] := by have := HNX.out; rw [hh] at this; exact this
        have E1 := Lib.hid e1
        obtain ⟨es, ck, hup, hmapB⟩ := hmapA.run_update string_emb msbM strU p2 true
        obtain ⟨hx1, hx2, hx3⟩ := hmapA.rules es ck
        rw [marks_put hh] at hmapB
        obtain ⟨es0, ck0, hm0⟩ := hmapA.heap
        have hownB := own_setBlock hownA hm0 (.map es ck)
        have hsB := SlK.setBlock hsA hm0 (.map es ck)
        have hkB := hkA.setBlock (m := m) (fun hlt => by omega) (.map es ck)
        simp only [if_false, Option.map_none, Option.getD_none, Bool.false_eq_true, if_false] at hlk
        have hpl : ((wr.alloc (.cells #[.int .i64 p1, .string p2] 55)).cell? ⟨wr.heap.size, 1, none⟩) = some (.string p2) := (Blk.new wr 55 #[.int .i64 p1, .string p2]).cell 1
        have HMB := Lib.hid hmapB
        have HOB := Lib.hid hownB
        have HSB := Lib.hid hsB
        have HKB := Lib.hid hkB
        have HKey := Lib.hid (hx3.trans (sz_alloc _ _))
        clear hp hnx hmap hown hs hk hmapA hownA hsA hkA hh e1 hij hmapB hownB hsB hkB hm0 hpl
        go_wp2_with (at_builtin; go_must (refine wpList_append_sl _ strsT rfl (.tmp 43) (.tmp 46) rfl w.heap.size _ U.length (U.map Value.string) rfl (HOB.out.alloc _) _ 1 [.string p2] rfl (Sl.made_at (Blk.new_at _ _ _ HKey.out.symm) _ rfl rfl one_max) (by simp [Value.oneCell']) ?d1 ?d2 ?_))
        case d1 => omega
        case d2 => first | omega | (simp; omega)
        intro v' w5 hap
        have hb5 := hap.below (HOB.out.alloc _) (HKB.out.alloc _) (Nat.le_refl _)
        have hs5 := Sl.appended (HSB.out.alloc _) hap (HOB.out.alloc _) (by decide)
        have hm5 := SMap.appended (HMB.out.alloc _) hap (HOB.out.alloc _)
        have REL := Lib.hid (⟨hb5, hs5, hm5, hap.own⟩ : Kept noBlock w w5 ∧ Sl w5 55 2 (.slice A4 T.length c4) T.length (T.flatMap pC) ∧ SMap w5 m (marks (U ++ [p2])) ∧ World.ownsRow w5 w.heap.size 9 1 v' (U.length + 1) (U.map Value.string ++ [.string p2]))
        clear hb5 hs5 hm5 hap hup hlk hx1 hx2 hx3
        go_wp2
        go_roundg (T.length - (i + 1))
        case measure => have := HIJ.out; omega
        case rel =>
          have hij := HIJ.out
          refine ⟨i + 1, by omega, by go_num, REL.out.1, REL.out.2.1, ?_, ?_⟩
          · rw [E1.out]; exact REL.out.2.2.1
          · rw [E1.out]; simpa using REL.out.2.2.2
    · obtain rfl : i = T.length := by have := HIJ.out; omega
      rw [List.take_length, ← HW.out] at hown
      have HFIN := Lib.hid hown
      clear hij hk hs hmap hown HS HIJ
      go_wp2
      go_ret
      exact ⟨_, rfl, HFIN.out, HK.out⟩
theorem Rwalk_at {w : World} {g : Nat} {S : List Pl} {t : Int} (h : RingAt w g S) (hr : rising S) (hn : S.length ≤ 1000) :
    Calls Try.prog 17 #[.pointer (some ⟨g, 0, none⟩), .int .i64 t] w fun e w' => ∃ v, e = .returned v ∧ Sl w' 9 1 v (rwalk S t).length ((rwalk S t).map Value.string) ∧ Kept noBlock w w' :=
  (Rwalk_own h hr hn).mono fun _ _ ⟨v, h1, h2, h3⟩ => ⟨v, h1, Sl.of_own h2, h3⟩
end Go.Proofs.Ytjdjfikeiphgpaa

/- hosts: tokens cloned, sorted, without what stands twice: the library's contracts at []int64; tidy. -/
import Derived.Test.YtjkmgpmknadhjaaGreatHoState
import Derived.Test.YtjkmgpmknadhjaaGreatHoShelf
import Derived.Test.YtjkmgpmknadhjaaGreatRgNew
namespace Go.Proofs.YtjkmgpmknadhjaaGreat
set_option linter.unusedVariables false
open Go.RowKit Go.Sort Go.Shelf

abbrev eI : Int → Value := Value.int .i64
theorem i64sT : SlT Tryz.prog 57 2 (.int .i64 0) 1 8 := ⟨Tryz.underlying57, by kernel_rfl, rfl, by decide, by decide⟩
theorem eI_one {l : List Int} {u : Value} (hu : u ∈ l.map eI) : u.oneCell' = true := by
  obtain ⟨a, _, rfl⟩ := List.mem_map.1 hu; rfl

set_option maxHeartbeats 1000000 in
set_option maxRecDepth 100000 in
theorem KClone_at {w : World} {ok : Nat → TypeId → Prop} {v : Value} {n : Nat} {L : List Int} (h : SlK w ok 1 v n (L.map eI)) (hn : n ≤ 1000000) :
    Calls Tryz.prog 32 #[v] w fun e w' => ∃ v', e = .returned v' ∧ w'.ownsRow w.heap.size 2 1 v' n (L.map eI) ∧ Kept noBlock w w' := by
  obtain ⟨A, c, rfl, -, -⟩ := h.shape
  cases A with
  | none =>
    have hz : n = 0 ∧ L.map eI = [] := by
      obtain ⟨hl, A', c', e, -, -, hd⟩ := h
      cases e
      rcases hd with ⟨h0, -⟩ | ⟨g, off, cs, t, fz, e, -⟩
      · subst h0; exact ⟨rfl, List.eq_nil_of_length_eq_zero (by omega)⟩
      · cases e
    obtain ⟨rfl, hz⟩ := hz
    rw [hz]
    clear h hz
    have q1 : ∀ w, (binOp .eql 57 (.slice none 0 c) (.slice none 0 0)).run Tryz.prog w = .ok (.bool true) w := fun w => Lib.run_eql_slice_nil w _ _ none 0 c 0 0 Tryz.underlying57
    go_enter Tryz.func32, Tryz.ntmps32
    go_wp2
    go_ret
    exact ⟨_, rfl, World.ownsRow_nil _ _ _ _, Kept.refl _ _⟩
  | some A =>
    have H := Lib.hid h
    clear h
    have q1 : ∀ w, (binOp .eql 57 (.slice (some A) n c) (.slice none 0 0)).run Tryz.prog w = .ok (.bool false) w := fun w => Lib.run_eql_slice_nil w _ _ (some A) n c 0 0 Tryz.underlying57
    go_enter Tryz.func32, Tryz.ntmps32
    go_wp2_with (at_builtin; go_must (refine wpList_append_sl _ i64sT rfl (.tmp 5) (.tmp 6) rfl w.heap.size _ 0 [] rfl (World.ownsRow_made w #[] 0 (Nat.le_refl _) (Nat.zero_le _) rfl) _ n (L.map eI) rfl (H.out.alloc _) (fun u hu => eI_one hu) ?c1 ?c2 ?_))
    case c1 => omega
    case c2 => simp
    intro v' w3 hap
    have hown := hap.own
    have hk := hap.below (World.ownsRow_made w #[] 0 (Nat.le_refl _) (Nat.zero_le _) rfl) ((Kept.refl noBlock w).alloc _) (Nat.le_refl _)
    clear hap
    go_wp2
    go_ret
    exact ⟨_, rfl, by simpa using hown, hk⟩

/-! A row of numbers (of texts) into which the library writes. -/
section
variable {α : Type} [Inhabited α] {enc : α → Value} {W : World} {blk m : Nat} {cur : Array Value} {e : TypeId} {d : Array α} {os : Array Obj}
theorem rw_block (h : W.heap[blk]? = some (.cells cur e (0, 0))) : (sortWorld enc W blk 0 m d os).heap[blk]? = some (.cells (putCells enc 0 d cur) e (0, 0)) := by
  have hlt : blk < W.heap.size := lt_of_heap h
  unfold sortWorld
  rw [heap_grow_old _ _ (by unfold putRow mapBlock; rw [Array.size_modify]; exact hlt)]
  unfold putRow mapBlock
  show (W.heap.modify blk _)[blk]? = _
  rw [Array.getElem?_modify, if_pos rfl, h]
  rfl
theorem rw_kept : Kept (fun i => i = blk) W (sortWorld enc W blk 0 m d os) := by
  have hsz : (putRow enc (Go.Sort.ahead W m) blk 0 d).heap.size = W.heap.size := by unfold putRow mapBlock; rw [Array.size_modify]; rfl
  refine ⟨rfl, rfl, rfl, by unfold sortWorld; rw [size_grow, hsz]; exact Nat.le_add_right _ _, fun k hk hn => ?_⟩
  unfold sortWorld
  rw [heap_grow_old _ _ (by rw [hsz]; exact hk)]
  unfold putRow mapBlock
  show (W.heap.modify blk _)[k]? = _
  rw [Array.getElem?_modify, if_neg (fun e => hn e.symm)]
theorem put_size : (putCells enc 0 d cur).size = cur.size := by unfold putCells; simp
theorem put_take {l : List α} (hl : l.length ≤ cur.size) : (putCells enc 0 l.toArray cur).toList.take l.length = l.map enc := by
  apply List.ext_getElem?
  intro j
  by_cases hj : j < l.length
  · have hjc : j < cur.size := by omega
    rw [List.getElem?_take_of_lt hj, Array.getElem?_toList, List.getElem?_map, List.getElem?_eq_getElem hj]
    unfold putCells
    rw [Array.getElem?_mapIdx, Array.getElem?_eq_getElem hjc]
    simp [hj]
  · rw [List.getElem?_eq_none (by rw [List.length_take]; omega), List.getElem?_eq_none (by rw [List.length_map]; omega)]
theorem holds_own {l : List α} (hh : W.heap[blk]? = some (.cells cur e (0, 0))) (hx : cur.toList.take (l.length * 1) = l.map enc) : Holds enc W blk 0 l.toArray := by
  intro j hj
  have hj' : j < l.length := by simpa using hj
  have h1 : (cur.toList.take (l.length * 1))[j]? = (l.map enc)[j]? := by rw [hx]
  rw [List.getElem?_take_of_lt (by omega), Array.getElem?_toList] at h1
  refine ⟨?_, by simp [World.frozen?, hh]⟩
  rw [cell_of_row W blk (0 + j) cur _ _ hh, Nat.zero_add, h1, List.getElem?_map, List.getElem?_eq_getElem hj']
  simp [getElem!_pos, hj']
end
theorem KSort_at {W : World} {n₀ : Nat} {v : Value} {xs : List Int} (hown : W.ownsRow n₀ 2 1 v xs.length (xs.map eI)) (hlen : xs.length ≤ 1000000) :
    Calls Tryz.prog 34 #[v] W fun e w' => e = .returned (.tuple #[]) ∧ w'.ownsRow n₀ 2 1 v xs.length ((xs.mergeSort fun x y => decide (x ≤ y)).map eI) ∧ Kept (fun i => v.ownBlock = some i) W w' := by
  obtain ⟨hl, hown⟩ := hown
  rcases hown with ⟨rfl, h0⟩ | ⟨g', cap, cur, rfl, hb, hh, hnc, hm, hcs, hx⟩
  · have : xs = [] := List.eq_nil_of_length_eq_zero h0
    subst this
    refine Calls.mono (AnyM.slices_Sort_int_none Tryz.sortI none 0 W) ?_
    rintro e w' ⟨rfl, rfl⟩
    exact ⟨rfl, by rw [List.mergeSort_nil]; exact World.ownsRow_nil _ _ _ _, Kept.refl _ _⟩
  · have hH : Holds eI W g' 0 xs.toArray := holds_own hh hx
    refine Calls.mono (AnyM.slices_Sort_int Tryz.sortI g' 0 cap xs W hH (lt_of_heap hh) (by omega)) ?_
    rintro e w' ⟨rfl, m, os, rfl⟩
    have hml : (xs.mergeSort fun x y => decide (x ≤ y)).length = xs.length := List.length_mergeSort _
    have hbk := rw_block (enc := eI) (m := m) (d := (xs.mergeSort fun x y => decide (x ≤ y)).toArray) (os := os) hh
    refine ⟨rfl, ⟨by rw [List.length_map, hml, Nat.mul_one], .inr ⟨g', cap, _, rfl, hb, hbk, hnc, hm, by rw [put_size]; exact hcs, ?_⟩⟩, (rw_kept (enc := eI) (W := W) (blk := g')).mono fun i _ e => by simp [Value.ownBlock, e]⟩
    have := put_take (enc := eI) (cur := cur) (l := xs.mergeSort fun x y => decide (x ≤ y)) (by rw [hml]; omega)
    rw [hml] at this
    rw [Nat.mul_one]
    exact this
theorem get_bang {zs : List Int} {j : Nat} {x : Int} (h : zs[j]? = some x) : zs.toArray[j]! = x := by
  obtain ⟨h1, h2⟩ := List.getElem?_eq_some_iff.1 h
  rw [getElem!_pos _ j (by simpa using h1)]
  simpa using h2
theorem comp_inv {zs : List Int} (hz : zs.Pairwise (· ≤ ·)) : ∀ m, m ≤ zs.length → (Lib.compactUpTo zs.toArray m).Pairwise (· < ·) ∧ (∀ y, y ∈ Lib.compactUpTo zs.toArray m ↔ y ∈ zs.take m) ∧ (∀ y ∈ Lib.compactUpTo zs.toArray m, ∀ x, 0 < m → zs[m - 1]? = some x → y ≤ x)
  | 0, _ => ⟨by simp [Lib.compactUpTo], by simp [Lib.compactUpTo], by simp [Lib.compactUpTo]⟩
  | m + 1, hm => by
    obtain ⟨i1, i2, i3⟩ := comp_inv hz m (by omega)
    obtain ⟨x, hx⟩ : ∃ x, zs[m]? = some x := ⟨_, List.getElem?_eq_getElem (by omega)⟩
    have hxb := get_bang hx
    have htk : zs.take (m + 1) = zs.take m ++ [x] := by rw [List.take_add_one, hx]; rfl
    have hpre : ∀ p, 0 < m → zs[m - 1]? = some p → p ≤ x := by
      intro p h0 hp
      obtain ⟨a1, a2⟩ := List.getElem?_eq_some_iff.1 hp
      obtain ⟨b1, b2⟩ := List.getElem?_eq_some_iff.1 hx
      have := List.pairwise_iff_getElem.1 hz (m - 1) m a1 b1 (by omega)
      rw [a2, b2] at this
      exact this
    rw [Lib.compactUpTo_succ, hxb]
    by_cases hk : Lib.keeps zs.toArray m = true
    · rw [if_pos hk]
      have hlt : ∀ y ∈ Lib.compactUpTo zs.toArray m, y < x := by
        intro y hy
        rcases Nat.eq_zero_or_pos m with h0 | h0
        · subst h0; simp [Lib.compactUpTo] at hy
        · obtain ⟨p, hp⟩ : ∃ p, zs[m - 1]? = some p := ⟨_, List.getElem?_eq_getElem (by omega)⟩
          have h1 := i3 y hy p h0 hp
          have h2 := hpre p h0 hp
          have h3 : x ≠ p := by
            have := hk
            unfold Lib.keeps at this
            simp only [decide_eq_true_eq] at this
            rcases this with h4 | h4
            · omega
            · rw [hxb, get_bang hp] at h4; exact h4
          omega
      refine ⟨List.pairwise_append.2 ⟨i1, by simp, fun a ha b hb => by obtain rfl := List.mem_singleton.1 hb; exact hlt a ha⟩, fun y => by rw [List.mem_append, htk, List.mem_append, i2], fun y hy z _ hz2 => ?_⟩
      rw [Nat.add_sub_cancel, hx] at hz2
      cases hz2
      rcases List.mem_append.1 hy with hy | hy
      · exact Int.le_of_lt (hlt y hy)
      · obtain rfl := List.mem_singleton.1 hy; exact Int.le_refl _
    · rw [if_neg hk, List.append_nil]
      have h5 : ¬ (m = 0 ∨ zs.toArray[m]! ≠ zs.toArray[m - 1]!) := by
        intro h; apply hk; unfold Lib.keeps; simpa using h
      have h0 : 0 < m := Nat.pos_of_ne_zero fun e => h5 (.inl e)
      obtain ⟨p, hp⟩ : ∃ p, zs[m - 1]? = some p := ⟨_, List.getElem?_eq_getElem (by omega)⟩
      have h6 : x = p := by
        refine Classical.byContradiction fun e => h5 (.inr ?_)
        rw [hxb, get_bang hp]; exact e
      subst h6
      refine ⟨i1, fun y => ?_, fun y hy z _ hz2 => ?_⟩
      · rw [i2, htk, List.mem_append]
        refine ⟨.inl, fun h => h.elim id fun h => ?_⟩
        obtain rfl := List.mem_singleton.1 h
        refine List.mem_of_getElem? (i := m - 1) ?_
        rw [List.getElem?_take_of_lt (by omega)]; exact hp
      · rw [Nat.add_sub_cancel, hx] at hz2
        cases hz2
        exact i3 y hy _ h0 hp
/-- Sorted, and each one once: the tokens, tidy. -/
theorem sort_compact (l : List Int) : Lib.compact (l.mergeSort fun x y => decide (x ≤ y)) = tidyP l := by
  have hs : (l.mergeSort fun x y => decide (x ≤ y)).Pairwise (· ≤ ·) := by
    have := List.pairwise_mergeSort (le := fun x y : Int => decide (x ≤ y)) (fun a b c h1 h2 => by simp only [decide_eq_true_eq] at *; omega) (fun a b => by simp only [Bool.or_eq_true, decide_eq_true_eq]; omega) l
    exact this.imp fun h => by simpa using h
  obtain ⟨h1, h2, -⟩ := comp_inv hs (l.mergeSort fun x y => decide (x ≤ y)).length (Nat.le_refl _)
  refine tidy_uniq h1 fun y => ?_
  show y ∈ Lib.compactUpTo _ _ ↔ _
  rw [h2, List.take_length]
  exact (List.mergeSort_perm l _).mem_iff
theorem KCompact_at {W : World} {n₀ : Nat} {v : Value} {xs : List Int} (hown : W.ownsRow n₀ 2 1 v xs.length (xs.map eI)) (hlen : xs.length ≤ 1000000) :
    Calls Tryz.prog 35 #[v] W fun e w' => ∃ A k c, e = .returned (.slice A k c) ∧ SlK w' (fun b e' => n₀ ≤ b ∧ v.ownBlock = some b ∧ e' = 2) 1 (.slice A k c) k ((Lib.compact xs).map eI) ∧ Kept (fun i => v.ownBlock = some i) W w' := by
  obtain ⟨hl, hown⟩ := hown
  rcases hown with ⟨rfl, h0⟩ | ⟨g', cap, cur, rfl, hb, hh, hnc, hm, hcs, hx⟩
  · have : xs = [] := List.eq_nil_of_length_eq_zero h0
    subst this
    refine Calls.mono (AnyG.slices_Compact_int_empty Tryz.compI none 0 W) ?_
    rintro e w' ⟨rfl, rfl⟩
    exact ⟨none, 0, 0, rfl, SlK.nil _ _ _, Kept.refl _ _⟩
  · have hH : Holds eI W g' 0 xs.toArray := holds_own hh hx
    refine Calls.mono (AnyG.slices_Compact_int Tryz.compI g' 0 cap xs W hH (by omega) (by omega)) ?_
    rintro e w' ⟨rfl, q, rfl⟩
    have hcl : (Lib.compact xs).length ≤ xs.length := by
      unfold Lib.compact Lib.compactUpTo
      rw [List.length_map]
      exact Nat.le_trans (List.length_filter_le _ _) (by simp)
    have hwl : (Lib.compact xs ++ List.replicate (xs.length - (Lib.compact xs).length) (0 : Int)).length = xs.length := by rw [List.length_append, List.length_replicate]; omega
    have hW : putRow (Value.int .i64) (Go.Sort.ahead W q) g' 0 (Lib.compact xs ++ List.replicate (xs.length - (Lib.compact xs).length) 0).toArray = sortWorld eI W g' 0 q (Lib.compact xs ++ List.replicate (xs.length - (Lib.compact xs).length) 0).toArray #[] := by
      rw [sortWorld_none]; rfl
    rw [hW]
    have hbk := rw_block (enc := eI) (m := q) (d := (Lib.compact xs ++ List.replicate (xs.length - (Lib.compact xs).length) (0 : Int)).toArray) (os := #[]) hh
    have htk := put_take (enc := eI) (cur := cur) (l := Lib.compact xs ++ List.replicate (xs.length - (Lib.compact xs).length) (0 : Int)) (by rw [hwl]; omega)
    refine ⟨some ⟨g', 0, none⟩, (Lib.compact xs).length, cap, rfl, ⟨by rw [List.length_map, Nat.mul_one], _, _, rfl, by omega, hm, .inr ⟨g', 0, _, _, _, rfl, hbk, ⟨hb, rfl, rfl⟩, fun j u hu => ?_⟩⟩, (rw_kept (enc := eI) (W := W) (blk := g')).mono fun i _ e => by simp [Value.ownBlock, e]⟩
    have hj : j < (Lib.compact xs).length := by have := (List.getElem?_eq_some_iff.1 hu).1; rw [List.length_map] at this; exact this
    rw [Nat.zero_add, ← Array.getElem?_toList]
    have h3 : ((putCells eI 0 (Lib.compact xs ++ List.replicate (xs.length - (Lib.compact xs).length) (0 : Int)).toArray cur).toList.take (Lib.compact xs ++ List.replicate (xs.length - (Lib.compact xs).length) (0 : Int)).length)[j]? = ((Lib.compact xs ++ List.replicate (xs.length - (Lib.compact xs).length) (0 : Int)).map eI)[j]? := by rw [htk]
    rw [List.getElem?_take_of_lt (by rw [hwl]; omega), List.map_append, List.getElem?_append_left (by rw [List.length_map]; exact hj), hu] at h3
    exact h3
set_option maxHeartbeats 1000000 in
theorem htidy_at {w : World} {ok : Nat → TypeId → Prop} {v : Value} {l : List Int} (h : SlK w ok 1 v l.length (l.map eI)) (hn : l.length ≤ 1000000) :
    Calls Tryz.prog 22 #[v] w fun e w' => ∃ A k c, e = .returned (.slice A k c) ∧ SlK w' (fun b e' => w.heap.size ≤ b ∧ e' = 2) 1 (.slice A k c) k ((tidyP l).map eI) ∧ Kept noBlock w w' := by
  have HC := Lib.hid (KClone_at h hn)
  clear h
  go_enter Tryz.func22, Tryz.ntmps22
  go_wp2_with fail
  go_at_call 32
  refine HC.out.mono ?_
  rintro e w1 ⟨v1, rfl, hown, hk1⟩
  have HSO := Lib.hid (KSort_at hown hn)
  have HBL := Lib.hid (fun b (e : v1.ownBlock = some b) => (own_type hown e).1)
  have HK1 := Lib.hid hk1
  clear hown hk1
  go_wp2_with fail
  go_at_call 34
  refine HSO.out.mono ?_
  rintro e w2 ⟨rfl, hown2, hk2⟩
  have hml : (l.mergeSort fun x y => decide (x ≤ y)).length = l.length := List.length_mergeSort _
  have HCO := Lib.hid (KCompact_at (xs := l.mergeSort fun x y => decide (x ≤ y)) (by rw [hml]; exact hown2) (by rw [hml]; exact hn))
  have HK2 : Hid (Kept noBlock w w2) := Lib.hid (HK1.out.trans hk2 (fun k hk e => by have := HBL.out k e; omega))
  clear hown2 hk2 hml
  go_wp2_with fail
  go_at_call 35
  refine HCO.out.mono ?_
  rintro e w3 ⟨A, k, c, rfl, hs3, hk3⟩
  rw [sort_compact] at hs3
  have HS3 := Lib.hid (hs3.any (ok' := fun b e' => w.heap.size ≤ b ∧ e' = 2) fun _ _ _ e => ⟨e.1, e.2.2⟩)
  have HK3 : Hid (Kept noBlock w w3) := Lib.hid (HK2.out.trans hk3 (fun k hk e => by have := HBL.out k e; omega))
  clear hs3 hk3
  go_wp2_with fail
  go_ret
  exact ⟨A, k, c, rfl, HS3.out, HK3.out⟩
end Go.Proofs.YtjkmgpmknadhjaaGreat

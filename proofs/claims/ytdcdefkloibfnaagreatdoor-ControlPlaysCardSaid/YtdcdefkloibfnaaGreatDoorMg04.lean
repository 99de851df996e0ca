/- Sorted rows of one's own, plainly · hosts: tokens cloned, sorted, without what stands twice: the library's contracts at []int64; tidy · hosts: slices.Sort at texts · hosts: New, Mark · hosts: Distance · hosts: cmp.Compare at texts, the closure that compares hosts, slices.SortFunc at an own row of hosts · hosts: slices.AppendSeq(nil, maps.Values(..)), slices.Collect: the table's hosts in some order · Several rows of one's own: two of them; those that a call has made beside those that were there · hosts: slices.Collect, slices.SortedFunc, Table.All · prims: a number, and a long text, at the beginning · rows.Cell: a row's value of a column's name · rows.Cell itself; control.text · control.text: a cell as a text · ring.Read on every road. -/
import Derived.Test.YtdcdefkloibfnaaGreatDoorMg01
import Derived.Shelf.SlSortCmp.NoneTotal
import Derived.Shelf.Abstract
import Derived.Test.YtdcdefkloibfnaaGreatDoorMg02
import Derived.Test.YtdcdefkloibfnaaGreatDoorHoShelf
import Derived.Deep.LoopGhost
import Derived.Laws.OwnMore
import Derived.Lib.SliceRun
import Derived.Test.YtdcdefkloibfnaaGreatDoorMg03
import Derived.Sort.Walk0
namespace Go.Proofs.YtdcdefkloibfnaaGreatDoor
set_option linter.unusedVariables false
open Go.RowKit Go.Sort Go.Shelf

theorem flatK_list {α : Type} [Inhabited α] {enc : α → List Value} {k : Nat} (hk : ∀ x, (enc x).length = k) (l : List α) : (flatK enc k l.toArray).toList = l.flatMap enc := by
  apply List.ext_getElem?
  intro t
  have hfl : (l.flatMap enc).length = l.length * k := flat_len hk l
  by_cases ht : t < l.length * k
  · have k0 : 0 < k := by rcases Nat.eq_zero_or_pos k with h | h; · subst h; simp at ht
                          · exact h
    have hi : t / k < l.length := (Nat.div_lt_iff_lt_mul k0).2 ht
    have hj : t % k < k := Nat.mod_lt _ k0
    have h1 := flat_get hk l (t / k) (t % k) l[t / k] (List.getElem?_eq_getElem hi) hj
    rw [show t / k * k + t % k = t by rw [Nat.mul_comm]; exact Nat.div_add_mod t k] at h1
    rw [h1]
    have h2 : (flatK enc k l.toArray).toList.length = l.length * k := by simp
    rw [List.getElem?_eq_getElem (by rw [h2]; exact ht), List.getElem?_eq_getElem (by rw [hk]; exact hj)]
    have h3 := get_flatK enc k l.toArray t (by simpa using ht)
    rw [getElem!_pos _ t (by simpa using ht)] at h3
    simp only [Array.getElem_toList]
    rw [h3]
    simp [getElem!_pos, hi, hk, hj]
  · rw [List.getElem?_eq_none (show (flatK enc k l.toArray).toList.length ≤ t by simp; omega), List.getElem?_eq_none (show (l.flatMap enc).length ≤ t by rw [hfl]; omega)]

section
variable {W : World} {blk m n cap : Nat} {cur : Array Value} {e : TypeId} {d : Array Value} {os : Array Obj}
theorem swv_block (h : W.heap[blk]? = some (.cells cur e (0, 0))) : (sortWorld id W blk 0 m d os).heap[blk]? = some (.cells (putCells id 0 d cur) e (0, 0)) := by
  have hlt : blk < W.heap.size := lt_of_heap h
  unfold sortWorld
  rw [heap_grow_old _ _ (by unfold putRow mapBlock; rw [Array.size_modify]; exact hlt)]
  unfold putRow mapBlock
  show (W.heap.modify blk _)[blk]? = _
  rw [Array.getElem?_modify, if_pos rfl, h]
  rfl
theorem swv_kept : Kept (fun i => i = blk) W (sortWorld id W blk 0 m d os) := by
  have hsz : (putRow id (Go.Sort.ahead W m) blk 0 d).heap.size = W.heap.size := by unfold putRow mapBlock; rw [Array.size_modify]; rfl
  refine ⟨rfl, rfl, rfl, by unfold sortWorld; rw [size_grow, hsz]; exact Nat.le_add_right _ _, fun k hk hn => ?_⟩
  unfold sortWorld
  rw [heap_grow_old _ _ (by rw [hsz]; exact hk)]
  unfold putRow mapBlock
  show (W.heap.modify blk _)[k]? = _
  rw [Array.getElem?_modify, if_neg (fun e => hn e.symm)]
end
end Go.Proofs.YtdcdefkloibfnaaGreatDoor
namespace Go.Proofs.YtdcdefkloibfnaaGreatDoor
set_option linter.unusedVariables false
open Go.RowKit Go.Sort Go.Shelf

abbrev eI : Int → Value := Value.int .i64
theorem i64sT : SlT Tryz.prog 92 2 (.int .i64 0) 1 8 := ⟨Tryz.underlying92, by kernel_rfl, rfl, by decide, by decide⟩
theorem eI_one {l : List Int} {u : Value} (hu : u ∈ l.map eI) : u.oneCell' = true := by
  obtain ⟨a, _, rfl⟩ := List.mem_map.1 hu; rfl

set_option maxHeartbeats 1000000 in
set_option maxRecDepth 100000 in
theorem KClone_at {w : World} {ok : Nat → TypeId → Prop} {v : Value} {n : Nat} {L : List Int} (h : SlK w ok 1 v n (L.map eI)) (hn : n ≤ 1000000) :
    Calls Tryz.prog 48 #[v] w fun e w' => ∃ v', e = .returned v' ∧ w'.ownsRow w.heap.size 2 1 v' n (L.map eI) ∧ Kept noBlock w w' := by
  obtain ⟨A, c, rfl, -, -⟩ := h.shape
  cases A with
  | none =>
    have hz : n = 0 ∧ L.map eI = [] := by
      obtain ⟨hl, A', c', e, -, -, hd⟩ := h
      cases e
      rcases hd with ⟨h0, -⟩ | ⟨g, off, cs, t, fz, e, -⟩
      · subst h0; exact ⟨rfl, List.eq_nil_of_length_eq_zero (by omega)⟩
      · cases e
    obtain ⟨rfl, hz⟩ := hz
    rw [hz]
    clear h hz
    have q1 : ∀ w, (binOp .eql 92 (.slice none 0 c) (.slice none 0 0)).run Tryz.prog w = .ok (.bool true) w := fun w => Lib.run_eql_slice_nil w _ _ none 0 c 0 0 Tryz.underlying92
    go_enter Tryz.func48, Tryz.ntmps48
    go_wp2
    go_ret
    exact ⟨_, rfl, World.ownsRow_nil _ _ _ _, Kept.refl _ _⟩
  | some A =>
    have H := Lib.hid h
    clear h
    have q1 : ∀ w, (binOp .eql 92 (.slice (some A) n c) (.slice none 0 0)).run Tryz.prog w = .ok (.bool false) w := fun w => Lib.run_eql_slice_nil w _ _ (some A) n c 0 0 Tryz.underlying92
    go_enter Tryz.func48, Tryz.ntmps48
    go_wp2_with (at_builtin; go_must (refine wpList_append_sl _ i64sT rfl (.tmp 5) (.tmp 6) rfl w.heap.size _ 0 [] rfl (World.ownsRow_made w #[] 0 (Nat.le_refl _) (Nat.zero_le _) rfl) _ n (L.map eI) rfl (H.out.alloc _) (fun u hu => eI_one hu) ?c1 ?c2 ?_))
    case c1 => omega
    case c2 => simp
    intro v' w3 hap
    have hown := hap.own
    have hk := hap.below (World.ownsRow_made w #[] 0 (Nat.le_refl _) (Nat.zero_le _) rfl) ((Kept.refl noBlock w).alloc _) (Nat.le_refl _)
    clear hap
    go_wp2
    go_ret
    exact ⟨_, rfl, by simpa using hown, hk⟩

/-! A row of numbers (of texts) into which the library writes. -/
section
variable {α : Type} [Inhabited α] {enc : α → Value} {W : World} {blk m : Nat} {cur : Array Value} {e : TypeId} {d : Array α} {os : Array Obj}
theorem rw_block (h : W.heap[blk]? = some (.cells cur e (0, 0))) : (sortWorld enc W blk 0 m d os).heap[blk]? = some (.cells (putCells enc 0 d cur) e (0, 0)) := by
  have hlt : blk < W.heap.size := lt_of_heap h
  unfold sortWorld
  rw [heap_grow_old _ _ (by unfold putRow mapBlock; rw [Array.size_modify]; exact hlt)]
  unfold putRow mapBlock
  show (W.heap.modify blk _)[blk]? = _
  rw [Array.getElem?_modify, if_pos rfl, h]
  rfl
theorem rw_kept : Kept (fun i => i = blk) W (sortWorld enc W blk 0 m d os) := by
  have hsz : (putRow enc (Go.Sort.ahead W m) blk 0 d).heap.size = W.heap.size := by unfold putRow mapBlock; rw [Array.size_modify]; rfl
  refine ⟨rfl, rfl, rfl, by unfold sortWorld; rw [size_grow, hsz]; exact Nat.le_add_right _ _, fun k hk hn => ?_⟩
  unfold sortWorld
  rw [heap_grow_old _ _ (by rw [hsz]; exact hk)]
  unfold putRow mapBlock
  show (W.heap.modify blk _)[k]? = _
  rw [Array.getElem?_modify, if_neg (fun e => hn e.symm)]
theorem put_size : (putCells enc 0 d cur).size = cur.size := by unfold putCells; simp
theorem put_take {l : List α} (hl : l.length ≤ cur.size) : (putCells enc 0 l.toArray cur).toList.take l.length = l.map enc := by
  apply List.ext_getElem?
  intro j
  by_cases hj : j < l.length
  · have hjc : j < cur.size := by omega
    rw [List.getElem?_take_of_lt hj, Array.getElem?_toList, List.getElem?_map, List.getElem?_eq_getElem hj]
    unfold putCells
    rw [Array.getElem?_mapIdx, Array.getElem?_eq_getElem hjc]
    simp [hj]
  · rw [List.getElem?_eq_none (by rw [List.length_take]; omega), List.getElem?_eq_none (by rw [List.length_map]; omega)]
theorem holds_own {l : List α} (hh : W.heap[blk]? = some (.cells cur e (0, 0))) (hx : cur.toList.take (l.length * 1) = l.map enc) : Holds enc W blk 0 l.toArray := by
  intro j hj
  have hj' : j < l.length := by simpa using hj
  have h1 : (cur.toList.take (l.length * 1))[j]? = (l.map enc)[j]? := by rw [hx]
  rw [List.getElem?_take_of_lt (by omega), Array.getElem?_toList] at h1
  refine ⟨?_, by simp [World.frozen?, hh]⟩
  rw [cell_of_row W blk (0 + j) cur _ _ hh, Nat.zero_add, h1, List.getElem?_map, List.getElem?_eq_getElem hj']
  simp [getElem!_pos, hj']
end
theorem KSort_at {W : World} {n₀ : Nat} {v : Value} {xs : List Int} (hown : W.ownsRow n₀ 2 1 v xs.length (xs.map eI)) (hlen : xs.length ≤ 1000000) :
    Calls Tryz.prog 91 #[v] W fun e w' => e = .returned (.tuple #[]) ∧ w'.ownsRow n₀ 2 1 v xs.length ((xs.mergeSort fun x y => decide (x ≤ y)).map eI) ∧ Kept (fun i => v.ownBlock = some i) W w' := by
  obtain ⟨hl, hown⟩ := hown
  rcases hown with ⟨rfl, h0⟩ | ⟨g', cap, cur, rfl, hb, hh, hnc, hm, hcs, hx⟩
  · have : xs = [] := List.eq_nil_of_length_eq_zero h0
    subst this
    refine Calls.mono (AnyM.slices_Sort_int_none Tryz.sortI none 0 W) ?_
    rintro e w' ⟨rfl, rfl⟩
    exact ⟨rfl, by rw [List.mergeSort_nil]; exact World.ownsRow_nil _ _ _ _, Kept.refl _ _⟩
  · have hH : Holds eI W g' 0 xs.toArray := holds_own hh hx
    refine Calls.mono (AnyM.slices_Sort_int Tryz.sortI g' 0 cap xs W hH (lt_of_heap hh) (by omega)) ?_
    rintro e w' ⟨rfl, m, os, rfl⟩
    have hml : (xs.mergeSort fun x y => decide (x ≤ y)).length = xs.length := List.length_mergeSort _
    have hbk := rw_block (enc := eI) (m := m) (d := (xs.mergeSort fun x y => decide (x ≤ y)).toArray) (os := os) hh
    refine ⟨rfl, ⟨by rw [List.length_map, hml, Nat.mul_one], .inr ⟨g', cap, _, rfl, hb, hbk, hnc, hm, by rw [put_size]; exact hcs, ?_⟩⟩, (rw_kept (enc := eI) (W := W) (blk := g')).mono fun i _ e => by simp [Value.ownBlock, e]⟩
    have := put_take (enc := eI) (cur := cur) (l := xs.mergeSort fun x y => decide (x ≤ y)) (by rw [hml]; omega)
    rw [hml] at this
    rw [Nat.mul_one]
    exact this
theorem get_bang {zs : List Int} {j : Nat} {x : Int} (h : zs[j]? = some x) : zs.toArray[j]! = x := by
  obtain ⟨h1, h2⟩ := List.getElem?_eq_some_iff.1 h
  rw [getElem!_pos _ j (by simpa using h1)]
  simpa using h2
theorem comp_inv {zs : List Int} (hz : zs.Pairwise (· ≤ ·)) : ∀ m, m ≤ zs.length → (Lib.compactUpTo zs.toArray m).Pairwise (· < ·) ∧ (∀ y, y ∈ Lib.compactUpTo zs.toArray m ↔ y ∈ zs.take m) ∧ (∀ y ∈ Lib.compactUpTo zs.toArray m, ∀ x, 0 < m → zs[m - 1]? = some x → y ≤ x)
  | 0, _ => ⟨by simp [Lib.compactUpTo], by simp [Lib.compactUpTo], by simp [Lib.compactUpTo]⟩
  | m + 1, hm => by
    obtain ⟨i1, i2, i3⟩ := comp_inv hz m (by omega)
    obtain ⟨x, hx⟩ : ∃ x, zs[m]? = some x := ⟨_, List.getElem?_eq_getElem (by omega)⟩
    have hxb := get_bang hx
    have htk : zs.take (m + 1) = zs.take m ++ [x] := by rw [List.take_add_one, hx]; rfl
    have hpre : ∀ p, 0 < m → zs[m - 1]? = some p → p ≤ x := by
      intro p h0 hp
      obtain ⟨a1, a2⟩ := List.getElem?_eq_some_iff.1 hp
      obtain ⟨b1, b2⟩ := List.getElem?_eq_some_iff.1 hx
      have := List.pairwise_iff_getElem.1 hz (m - 1) m a1 b1 (by omega)
      rw [a2, b2] at this
      exact this
    rw [Lib.compactUpTo_succ, hxb]
    by_cases hk : Lib.keeps zs.toArray m = true
    · rw [if_pos hk]
      have hlt : ∀ y ∈ Lib.compactUpTo zs.toArray m, y < x := by
        intro y hy
        rcases Nat.eq_zero_or_pos m with h0 | h0
        · subst h0; simp [Lib.compactUpTo] at hy
        · obtain ⟨p, hp⟩ : ∃ p, zs[m - 1]? = some p := ⟨_, List.getElem?_eq_getElem (by omega)⟩
          have h1 := i3 y hy p h0 hp
          have h2 := hpre p h0 hp
          have h3 : x ≠ p := by
            have := hk
            unfold Lib.keeps at this
            simp only [decide_eq_true_eq] at this
            rcases this with h4 | h4
            · omega
            · rw [hxb, get_bang hp] at h4; exact h4
          omega
      refine ⟨List.pairwise_append.2 ⟨i1, by simp, fun a ha b hb => by obtain rfl := List.mem_singleton.1 hb; exact hlt a ha⟩, fun y => by rw [List.mem_append, htk, List.mem_append, i2], fun y hy z _ hz2 => ?_⟩
      rw [Nat.add_sub_cancel, hx] at hz2
      cases hz2
      rcases List.mem_append.1 hy with hy | hy
      · exact Int.le_of_lt (hlt y hy)
      · obtain rfl := List.mem_singleton.1 hy; exact Int.le_refl _
    · rw [if_neg hk, List.append_nil]
      have h5 : ¬ (m = 0 ∨ zs.toArray[m]! ≠ zs.toArray[m - 1]!) := by
        intro h; apply hk; unfold Lib.keeps; simpa using h
      have h0 : 0 < m := Nat.pos_of_ne_zero fun e => h5 (.inl e)
      obtain ⟨p, hp⟩ : ∃ p, zs[m - 1]? = some p := ⟨_, List.getElem?_eq_getElem (by omega)⟩
      have h6 : x = p := by
        refine Classical.byContradiction fun e => h5 (.inr ?_)
        rw [hxb, get_bang hp]; exact e
      subst h6
      refine ⟨i1, fun y => ?_, fun y hy z _ hz2 => ?_⟩
      · rw [i2, htk, List.mem_append]
        refine ⟨.inl, fun h => h.elim id fun h => ?_⟩
        obtain rfl := List.mem_singleton.1 h
        refine List.mem_of_getElem? (i := m - 1) ?_
        rw [List.getElem?_take_of_lt (by omega)]; exact hp
      · rw [Nat.add_sub_cancel, hx] at hz2
        cases hz2
        exact i3 y hy _ h0 hp
/-- Sorted, and each one once: the tokens, tidy. -/
theorem sort_compact (l : List Int) : Lib.compact (l.mergeSort fun x y => decide (x ≤ y)) = tidyP l := by
  have hs : (l.mergeSort fun x y => decide (x ≤ y)).Pairwise (· ≤ ·) := by
    have := List.pairwise_mergeSort (le := fun x y : Int => decide (x ≤ y)) (fun a b c h1 h2 => by simp only [decide_eq_true_eq] at *; omega) (fun a b => by simp only [Bool.or_eq_true, decide_eq_true_eq]; omega) l
    exact this.imp fun h => by simpa using h
  obtain ⟨h1, h2, -⟩ := comp_inv hs (l.mergeSort fun x y => decide (x ≤ y)).length (Nat.le_refl _)
  refine tidy_uniq h1 fun y => ?_
  show y ∈ Lib.compactUpTo _ _ ↔ _
  rw [h2, List.take_length]
  exact (List.mergeSort_perm l _).mem_iff
theorem KCompact_at {W : World} {n₀ : Nat} {v : Value} {xs : List Int} (hown : W.ownsRow n₀ 2 1 v xs.length (xs.map eI)) (hlen : xs.length ≤ 1000000) :
    Calls Tryz.prog 92 #[v] W fun e w' => ∃ A k c, e = .returned (.slice A k c) ∧ SlK w' (fun b e' => n₀ ≤ b ∧ v.ownBlock = some b ∧ e' = 2) 1 (.slice A k c) k ((Lib.compact xs).map eI) ∧ Kept (fun i => v.ownBlock = some i) W w' := by
  obtain ⟨hl, hown⟩ := hown
  rcases hown with ⟨rfl, h0⟩ | ⟨g', cap, cur, rfl, hb, hh, hnc, hm, hcs, hx⟩
  · have : xs = [] := List.eq_nil_of_length_eq_zero h0
    subst this
    refine Calls.mono (AnyG.slices_Compact_int_empty Tryz.compI none 0 W) ?_
    rintro e w' ⟨rfl, rfl⟩
    exact ⟨none, 0, 0, rfl, SlK.nil _ _ _, Kept.refl _ _⟩
  · have hH : Holds eI W g' 0 xs.toArray := holds_own hh hx
    refine Calls.mono (AnyG.slices_Compact_int Tryz.compI g' 0 cap xs W hH (by omega) (by omega)) ?_
    rintro e w' ⟨rfl, q, rfl⟩
    have hcl : (Lib.compact xs).length ≤ xs.length := by
      unfold Lib.compact Lib.compactUpTo
      rw [List.length_map]
      exact Nat.le_trans (List.length_filter_le _ _) (by simp)
    have hwl : (Lib.compact xs ++ List.replicate (xs.length - (Lib.compact xs).length) (0 : Int)).length = xs.length := by rw [List.length_append, List.length_replicate]; omega
    have hW : putRow (Value.int .i64) (Go.Sort.ahead W q) g' 0 (Lib.compact xs ++ List.replicate (xs.length - (Lib.compact xs).length) 0).toArray = sortWorld eI W g' 0 q (Lib.compact xs ++ List.replicate (xs.length - (Lib.compact xs).length) 0).toArray #[] := by
      rw [sortWorld_none]; rfl
    rw [hW]
    have hbk := rw_block (enc := eI) (m := q) (d := (Lib.compact xs ++ List.replicate (xs.length - (Lib.compact xs).length) (0 : Int)).toArray) (os := #[]) hh
    have htk := put_take (enc := eI) (cur := cur) (l := Lib.compact xs ++ List.replicate (xs.length - (Lib.compact xs).length) (0 : Int)) (by rw [hwl]; omega)
    refine ⟨some ⟨g', 0, none⟩, (Lib.compact xs).length, cap, rfl, ⟨by rw [List.length_map, Nat.mul_one], _, _, rfl, by omega, hm, .inr ⟨g', 0, _, _, _, rfl, hbk, ⟨hb, rfl, rfl⟩, fun j u hu => ?_⟩⟩, (rw_kept (enc := eI) (W := W) (blk := g')).mono fun i _ e => by simp [Value.ownBlock, e]⟩
    have hj : j < (Lib.compact xs).length := by have := (List.getElem?_eq_some_iff.1 hu).1; rw [List.length_map] at this; exact this
    rw [Nat.zero_add, ← Array.getElem?_toList]
    have h3 : ((putCells eI 0 (Lib.compact xs ++ List.replicate (xs.length - (Lib.compact xs).length) (0 : Int)).toArray cur).toList.take (Lib.compact xs ++ List.replicate (xs.length - (Lib.compact xs).length) (0 : Int)).length)[j]? = ((Lib.compact xs ++ List.replicate (xs.length - (Lib.compact xs).length) (0 : Int)).map eI)[j]? := by rw [htk]
    rw [List.getElem?_take_of_lt (by rw [hwl]; omega), List.map_append, List.getElem?_append_left (by rw [List.length_map]; exact hj), hu] at h3
    exact h3
set_option maxHeartbeats 1000000 in
theorem htidy_at {w : World} {ok : Nat → TypeId → Prop} {v : Value} {l : List Int} (h : SlK w ok 1 v l.length (l.map eI)) (hn : l.length ≤ 1000000) :
    Calls Tryz.prog 72 #[v] w fun e w' => ∃ A k c, e = .returned (.slice A k c) ∧ SlK w' (fun b e' => w.heap.size ≤ b ∧ e' = 2) 1 (.slice A k c) k ((tidyP l).map eI) ∧ Kept noBlock w w' := by
  have HC := Lib.hid (KClone_at h hn)
  clear h
  go_enter Tryz.func72, Tryz.ntmps72
  go_wp2_with fail
  go_at_call 48
  refine HC.out.mono ?_
  rintro e w1 ⟨v1, rfl, hown, hk1⟩
  have HSO := Lib.hid (KSort_at hown hn)
  have HBL := Lib.hid (fun b (e : v1.ownBlock = some b) => (own_type hown e).1)
  have HK1 := Lib.hid hk1
  clear hown hk1
  go_wp2_with fail
  go_at_call 91
  refine HSO.out.mono ?_
  rintro e w2 ⟨rfl, hown2, hk2⟩
  have hml : (l.mergeSort fun x y => decide (x ≤ y)).length = l.length := List.length_mergeSort _
  have HCO := Lib.hid (KCompact_at (xs := l.mergeSort fun x y => decide (x ≤ y)) (by rw [hml]; exact hown2) (by rw [hml]; exact hn))
  have HK2 : Hid (Kept noBlock w w2) := Lib.hid (HK1.out.trans hk2 (fun k hk e => by have := HBL.out k e; omega))
  clear hown2 hk2 hml
  go_wp2_with fail
  go_at_call 92
  refine HCO.out.mono ?_
  rintro e w3 ⟨A, k, c, rfl, hs3, hk3⟩
  rw [sort_compact] at hs3
  have HS3 := Lib.hid (hs3.any (ok' := fun b e' => w.heap.size ≤ b ∧ e' = 2) fun _ _ _ e => ⟨e.1, e.2.2⟩)
  have HK3 : Hid (Kept noBlock w w3) := Lib.hid (HK2.out.trans hk3 (fun k hk e => by have := HBL.out k e; omega))
  clear hs3 hk3
  go_wp2_with fail
  go_ret
  exact ⟨A, k, c, rfl, HS3.out, HK3.out⟩
end Go.Proofs.YtdcdefkloibfnaaGreatDoor
namespace Go.Proofs.YtdcdefkloibfnaaGreatDoor
set_option linter.unusedVariables false
open Go.RowKit Go.Sort Go.Shelf

def bytesOf (a : ByteArray) : List UInt8 := a.data.toList
theorem bytes_eq (a : ByteArray) : a.toList = bytesOf a := ByteArray.toList_eq a
theorem enc_bytes (a : ByteArray) : encStr (bytesOf a) = Value.string a := by
  cases a with
  | mk d => simp [encStr, bytesOf]
def ofBytes (l : List UInt8) : ByteArray := ⟨l.toArray⟩
theorem of_bytes (a : ByteArray) : ofBytes (bytesOf a) = a := by
  cases a with
  | mk d => simp [ofBytes, bytesOf]
theorem bytes_of (l : List UInt8) : bytesOf (ofBytes l) = l := by simp [ofBytes, bytesOf]
def sortN (xs : List ByteArray) : List ByteArray := ((xs.map bytesOf).mergeSort fun x y => decide (x ≤ y)).map ofBytes
theorem sortN_perm (xs : List ByteArray) : (sortN xs).Perm xs := by
  have h := (List.mergeSort_perm (xs.map bytesOf) fun x y => decide (x ≤ y)).map ofBytes
  rw [List.map_map] at h
  have e : (ofBytes ∘ bytesOf) = id := by funext a; exact of_bytes a
  rw [e, List.map_id] at h
  exact h
theorem sortN_sorted (xs : List ByteArray) : (sortN xs).Pairwise fun a b => ¬ nlt b a := by
  have h := List.pairwise_mergeSort (le := fun x y : List UInt8 => decide (x ≤ y)) (fun a b c h1 h2 => by
    simp only [decide_eq_true_eq] at *; exact List.le_trans h1 h2) (fun a b => by
    simp only [Bool.or_eq_true, decide_eq_true_eq]; exact List.le_total a b) (xs.map bytesOf)
  unfold sortN
  rw [List.pairwise_map]
  refine h.imp fun {a b} hab => ?_
  unfold nlt
  rw [bytes_eq, bytes_eq, bytes_of, bytes_of]
  have : a ≤ b := by simpa using hab
  exact List.not_lt.2 this
/-- What is sorted, and of the same texts, each once, is that. -/
theorem sortN_eq {xs S : List ByteArray} (hS : S.Pairwise nlt) (hn : xs.Nodup) (hm : ∀ x, x ∈ xs ↔ x ∈ S) : sortN xs = S := by
  have hp : (sortN xs).Pairwise nlt := by
    have hnd : (sortN xs).Nodup := (sortN_perm xs).nodup_iff.2 hn
    refine List.Pairwise.imp₂ ?_ (sortN_sorted xs) hnd
    intro a b h1 h2
    exact Classical.byContradiction fun h3 => h2 (nlt_tri h3 h1)
  exact names_ext hp hS fun x => ((sortN_perm xs).mem_iff).trans (hm x)
theorem SSort_at {W : World} {n₀ : Nat} {v : Value} {xs : List ByteArray} (hown : W.ownsRow n₀ 9 1 v xs.length (xs.map Value.string)) (hlen : xs.length ≤ 1000000) :
    Calls Tryz.prog 73 #[v] W fun e w' => e = .returned (.tuple #[]) ∧ w'.ownsRow n₀ 9 1 v xs.length ((sortN xs).map Value.string) ∧ Kept (fun i => v.ownBlock = some i) W w' := by
  have hmap : xs.map Value.string = (xs.map bytesOf).map encStr := by rw [List.map_map]; exact List.map_congr_left fun a _ => (enc_bytes a).symm
  obtain ⟨hl, hown⟩ := hown
  rcases hown with ⟨rfl, h0⟩ | ⟨g', cap, cur, rfl, hb, hh, hnc, hm, hcs, hx⟩
  · have : xs = [] := List.eq_nil_of_length_eq_zero h0
    subst this
    refine Calls.mono (AnyM.slices_Sort_string_none Tryz.sortS none 0 W) ?_
    rintro e w' ⟨rfl, rfl⟩
    exact ⟨rfl, by simpa [sortN] using World.ownsRow_nil _ _ _ _, Kept.refl _ _⟩
  · rw [hmap] at hx
    have hll : (xs.map bytesOf).length = xs.length := List.length_map ..
    have hH : Holds encStr W g' 0 (xs.map bytesOf).toArray := holds_own hh (by rw [hll]; exact hx)
    have hc := AnyM.slices_Sort_string Tryz.sortS g' 0 cap (xs.map bytesOf) W hH (lt_of_heap hh) (by omega)
    rw [hll] at hc
    refine Calls.mono hc ?_
    rintro e w' ⟨rfl, m, os, rfl⟩
    have hml : ((xs.map bytesOf).mergeSort fun x y => decide (x ≤ y)).length = xs.length := by rw [List.length_mergeSort, hll]
    have hbk := rw_block (enc := encStr) (m := m) (d := ((xs.map bytesOf).mergeSort fun x y => decide (x ≤ y)).toArray) (os := os) hh
    have hres : (sortN xs).map Value.string = ((xs.map bytesOf).mergeSort fun x y => decide (x ≤ y)).map encStr := by
      unfold sortN
      rw [List.map_map]
      refine List.map_congr_left fun a _ => ?_
      show Value.string (ofBytes a) = encStr a
      rw [← enc_bytes, bytes_of]
    refine ⟨rfl, ⟨by rw [hres, List.length_map, hml, Nat.mul_one], .inr ⟨g', cap, _, rfl, hb, hbk, hnc, hm, by rw [put_size]; exact hcs, ?_⟩⟩, (rw_kept (enc := encStr) (W := W) (blk := g')).mono fun i _ e => by simp [Value.ownBlock, e]⟩
    have := put_take (enc := encStr) (cur := cur) (l := (xs.map bytesOf).mergeSort fun x y => decide (x ≤ y)) (by rw [hml]; omega)
    rw [hml] at this
    rw [Nat.mul_one, hres]
    exact this
end Go.Proofs.YtdcdefkloibfnaaGreatDoor
namespace Go.Proofs.YtdcdefkloibfnaaGreatDoor
set_option linter.unusedVariables false
open Go.RowKit
open Go.ChangeMaps (setBlock)

theorem hNew_at (dc : ByteArray) (rem : Int) (w : World) : Calls Tryz.prog 37 #[.string dc, .int .i64 rem] w fun e w' => e = .returned (.pointer (some ⟨w.heap.size + 1, 0, none⟩)) ∧ TabS w' (fun k => k = w.heap.size + 1 ∨ k = w.heap.size) (w.heap.size + 1) dc rem [] ∧ Kept noBlock w w' := by
  have hmk := @run_makeMap Tryz.prog
  have hk : Kept noBlock w ((w.alloc (.map #[] 0)).alloc (.cells #[.string dc, .int .i64 rem, .map (some w.heap.size)] 135)) := ((Kept.refl noBlock w).alloc _).alloc _
  have hT : TabS ((w.alloc (.map #[] 0)).alloc (.cells #[.string dc, .int .i64 rem, .map (some w.heap.size)] 135)) (fun k => k = w.heap.size + 1 ∨ k = w.heap.size) (w.heap.size + 1) dc rem [] := by
    refine ⟨w.heap.size, [], ⟨Blk.new_at _ _ _ (by rw [sz_alloc]), (KMap.new w).alloc _, List.nodup_nil, .inl rfl, .inr rfl, fun p hp => absurd hp List.not_mem_nil, fun p hp => absurd hp List.not_mem_nil, fun k e => ?_⟩, .nil, fun x => rfl⟩
    simp only [sz_alloc]; omega
  have HK := Lib.hid hk
  have HT := Lib.hid hT
  clear hk hT
  go_enter Tryz.func37, Tryz.ntmps37
  go_wp2_with fail
  go_ret
  exact ⟨rfl, HT.out, HK.out⟩
theorem hMarkN_at (x : ByteArray) (up : Bool) (w : World) : Calls Tryz.prog 50 #[.pointer none, .string x, .bool up] w fun e w' => e = .returned (.bool false) ∧ w' = w := by
  go_enter Tryz.func50, Tryz.ntmps50
  go_wp2
  go_ret
  exact ⟨rfl, rfl⟩
section
variable {w : World} {own : Nat → Prop} {g : Nat} {dc : ByteArray} {rem : Int} {S : List Ho}
set_option maxHeartbeats 2000000 in
set_option maxRecDepth 100000 in
theorem hMark_at (h : TabS w own g dc rem S) (x : ByteArray) (up : Bool) : Calls Tryz.prog 50 #[.pointer (some ⟨g, 0, none⟩), .string x, .bool up] w fun e w' => e = .returned (.bool (markP S x up).2) ∧ TabS w' own g dc rem (markP S x up).1 ∧ Kept own w w' := by
  obtain ⟨m, L, hT, hS, hv⟩ := h
  have z2 := hT.blk.cell 2
  simp only [List.getElem?_toArray, List.getElem?_cons_succ, List.getElem?_cons_zero] at z2
  have l1 := hT.map.run_lookup (P := Tryz.prog) string_emb mshM strU (zero_host w) x true
  have hvx := hv x
  unfold markP
  cases hx : aget x L with
  | none =>
    rw [hx] at l1 hvx
    rw [← hvx]
    simp only [Option.map_none, Option.getD_none, Option.isSome_none, if_true] at l1
    have HF := Lib.hid (⟨m, L, hT.keptN ((Kept.refl noBlock w).alloc (.cells #[.string noStr, .string noStr, .string noStr, .slice none 0 0, .bool false] 94)), hS, hv⟩ : TabS (w.alloc (.cells #[.string noStr, .string noStr, .string noStr, .slice none 0 0, .bool false] 94)) own g dc rem S)
    clear hT hv hvx hx
    go_enter Tryz.func50, Tryz.ntmps50
    go_wp2_with fail
    go_ret
    exact ⟨rfl, HF.out, ((Kept.refl noBlock w).alloc _).of_none⟩
  | some v =>
    rw [hx] at l1 hvx
    rw [← hvx]
    obtain ⟨n1, n2, n3, ta, tn, tc, tk, vu⟩ := v
    simp only [Option.map_some, Option.getD_some, Option.isSome_some, if_true, hvV] at l1
    have hk1 : Kept noBlock w (w.alloc (.cells #[.string n1, .string n2, .string n3, .slice ta tn tc, .bool vu] 94)) := (Kept.refl noBlock w).alloc _
    have hb : Blk (w.alloc (.cells #[.string n1, .string n2, .string n3, .slice ta tn tc, .bool vu] 94)) w.heap.size 94 #[.string n1, .string n2, .string n3, .slice ta tn tc, .bool vu] := Blk.new _ _ _
    have y4 := hb.cell 4
    have f4 := hb.frozen 4
    simp only [List.getElem?_toArray, List.getElem?_cons_succ, List.getElem?_cons_zero] at y4
    by_cases hu : vu = up
    · have HF := Lib.hid (⟨m, L, hT.keptN hk1, hS, hv⟩ : TabS (w.alloc (.cells #[.string n1, .string n2, .string n3, .slice ta tn tc, .bool vu] 94)) own g dc rem S)
      have HE : Hid ((if (HV.abs ⟨n1, n2, n3, ta, tn, tc, tk, vu⟩).up = up then (S, false) else (S.map fun o => if o.name = x then { o with up := up } else o, true)) = (S, false)) := Lib.hid (if_pos hu)
      have HK := Lib.hid hk1
      clear hT hv hvx hx hb hk1
      subst hu
      simp only [Option.map_some]
      rw [HE.out]
      cases vu <;>
      · go_enter Tryz.func50, Tryz.ntmps50
        go_wp2_with fail
        go_ret
        exact ⟨rfl, HF.out, HK.out.of_none⟩
    · have hk2 : Kept noBlock w (w.alloc (.cells #[.string n1, .string n2, .string n3, .slice ta tn tc, .bool up] 94)) := (Kept.refl noBlock w).alloc _
      have hb2 : Blk (w.alloc (.cells #[.string n1, .string n2, .string n3, .slice ta tn tc, .bool up] 94)) w.heap.size 94 #[.string n1, .string n2, .string n3, .slice ta tn tc, .bool up] := Blk.new _ _ _
      have hnm := hT.nm _ (aget_mem hx)
      have hnx : n1 = x := hnm.1
      have HT := Lib.hid hT
      have HS := Lib.hid hS
      have HVW := Lib.hid hv
      have HX : Hid (aget x L = some ⟨n1, n2, n3, ta, tn, tc, tk, vu⟩) := Lib.hid hx
      have HNM := Lib.hid hnm
      have HNX := Lib.hid hnx
      have HK2 := Lib.hid hk2
      have HB2 := Lib.hid hb2
      have HVX : Hid (getS x S = some (HV.abs ⟨n1, n2, n3, ta, tn, tc, tk, vu⟩)) := Lib.hid hvx.symm
      have HE : Hid ((if (HV.abs ⟨n1, n2, n3, ta, tn, tc, tk, vu⟩).up = up then (S, false) else (S.map fun o => if o.name = x then { o with up := up } else o, true)) = (S.map (setUp x up), true)) := Lib.hid (if_neg hu)
      clear hT hS hv hx hnm hnx hk2 hb2 hvx hb hk1
      simp only [Option.map_some]
      rw [HE.out]
      obtain ⟨w2, hw2⟩ : ∃ w2, w2 = w.alloc (.cells #[.string n1, .string n2, .string n3, .slice ta tn tc, .bool up] 94) := ⟨_, rfl⟩
      rw [← hw2] at HK2 HB2
      have HW2 := Lib.hid hw2
      obtain ⟨es, ck, hup, hm⟩ := (HT.out.map.kept HK2.out.drew (fun e => e)).run_update (P := Tryz.prog) string_emb mshM strU x (⟨n1, n2, n3, ta, tn, tc, tk, up⟩ : HV)
      have HM := Lib.hid hm
      simp only [hvV] at hup
      clear hw2 hm
      go_enter Tryz.func50, Tryz.ntmps50
      cases vu <;> cases up <;> first | exact absurd rfl hu | skip
      all_goals
        clear hu HE
        go_wp2_with fail
        rw [← HW2.out]
        have z2' := (HT.out.blk.kept HK2.out (fun e => e)).cell 2
        have x0 := HB2.out.cell 0
        have x1 := HB2.out.cell 1
        have x2 := HB2.out.cell 2
        have x3 := HB2.out.cell 3
        have x4 := HB2.out.cell 4
        simp only [List.getElem?_toArray, List.getElem?_cons_succ, List.getElem?_cons_zero] at z2' x0 x1 x2 x3 x4
        clear HW2 z2 l1 y4 f4
        generalize w.heap.size = Nn at *
        go_region
        go_wp2_with fail
        go_ret
        have htab := HT.out.put HK2.out.drew HM.out ⟨HNX.out, HNX.out ▸ HNM.out.2⟩ ((HT.out.ot _ (aget_mem HX.out)).keptNone HK2.out.drew)
        refine ⟨rfl, ⟨m, _, htab, mark_rising HS.out _ _, fun y => ?_⟩, (HK2.out.drew.of_none (S := own)).setBlock (m := m) (fun _ => HT.out.om) _⟩
        rw [mark_get, aget_aput, ← HVW.out y]
        by_cases e : x = y
        · subst e
          rw [if_pos rfl, HX.out]
          simp only [Option.map_some, HV.abs, setUp, HNX.out, if_true]
        · rw [if_neg e]
          cases hy : aget y L with
          | none => rfl
          | some o =>
            have hn : o.name = y := (HT.out.nm _ (aget_mem hy)).1
            simp only [Option.map_some, setUp]
            rw [if_neg (show ¬ o.abs.name = x from fun e2 => e (e2.symm.trans hn))]
end
end Go.Proofs.YtdcdefkloibfnaaGreatDoor
namespace Go.Proofs.YtdcdefkloibfnaaGreatDoor
set_option linter.unusedVariables false
open Go.RowKit
open Go.ChangeMaps (setBlock)

theorem hDistN_at (x : ByteArray) (w : World) : Calls Tryz.prog 26 #[.pointer none, .string x] w fun e w' => e = .returned (.int .i64 0) ∧ w' = w := by
  go_enter Tryz.func26, Tryz.ntmps26
  go_wp2
  go_ret
  exact ⟨rfl, rfl⟩
theorem less_nlt (a b : ByteArray) : Op.bytesLess a.toList b.toList = decide (nlt a b) := (Go.Proofs.bytesLess_eq _ _).trans (by unfold nlt; congr)
def isAhead (d x : ByteArray) (o : HV) : Bool := decide (o.dc = d) && decide (nlt o.name x)
section
variable {w : World} {own : Nat → Prop} {g : Nat} {dc : ByteArray} {rem : Int} {S : List Ho}
set_option maxHeartbeats 2000000 in
set_option maxRecDepth 100000 in
theorem hDist_at (h : TabS w own g dc rem S) (x : ByteArray) (hSl : S.length ≤ 1000000) : Calls Tryz.prog 26 #[.pointer (some ⟨g, 0, none⟩), .string x] w fun e w' => e = .returned (.int .i64 (distP dc rem S x)) ∧ Kept noBlock w w' := by
  obtain ⟨m, L, hT, hS, hv⟩ := h
  have z2 := hT.blk.cell 2
  simp only [List.getElem?_toArray, List.getElem?_cons_succ, List.getElem?_cons_zero] at z2
  have l1 := hT.map.run_lookup (P := Tryz.prog) string_emb mshM strU (zero_host w) x true
  have hvx := hv x
  unfold distP
  cases hx : aget x L with
  | none =>
    rw [hx] at l1 hvx
    rw [← hvx]
    simp only [Option.map_none, Option.getD_none, Option.isSome_none, if_true] at l1
    clear hT hv hvx hx
    go_enter Tryz.func26, Tryz.ntmps26
    go_wp2_with fail
    go_ret
    exact ⟨rfl, (Kept.refl noBlock w).alloc _⟩
  | some v =>
    rw [hx] at l1 hvx
    rw [← hvx]
    have hnx : v.name = x := (hT.nm _ (aget_mem hx)).1
    obtain ⟨n1, n2, n3, ta, tn, tc, tk, vu⟩ := v
    simp only at hnx
    subst hnx
    simp only [Option.map_some, Option.getD_some, Option.isSome_some, if_true, hvV] at l1
    have hperm := tab_perm hT.nd hT.nm hS hv
    have hahead : ((L.map (·.2)).filter (isAhead n2 n1)).length = aheadN S n2 n1 := by
      rw [← ahead_perm hperm]
      unfold aheadN
      conv => rhs; rw [show (L.map fun p => p.2.abs) = (L.map (·.2)).map HV.abs by rw [List.map_map]; rfl, List.filter_map, List.length_map]
      rfl
    have hLl : L.length ≤ 1000000 := by
      have := hperm.length_eq
      rw [List.length_map] at this
      omega
    have hk1 : Kept noBlock w (w.alloc (.cells #[.string n1, .string n2, .string n3, .slice ta tn tc, .bool vu] 94)) := (Kept.refl noBlock w).alloc _
    have hb : Blk (w.alloc (.cells #[.string n1, .string n2, .string n3, .slice ta tn tc, .bool vu] 94)) w.heap.size 94 #[.string n1, .string n2, .string n3, .slice ta tn tc, .bool vu] := Blk.new _ _ _
    have HT := Lib.hid (hT.keptN hk1)
    have HB := Lib.hid hb
    have HK := Lib.hid hk1
    have HA := Lib.hid hahead
    simp only [Option.map_some]
    generalize hrr : (if (HV.abs ⟨n1, n2, n3, ta, tn, tc, tk, vu⟩).dc = dc then (1 : Int) else if (aheadN S (HV.abs ⟨n1, n2, n3, ta, tn, tc, tk, vu⟩).dc n1 : Int) < rem then 2 else 0) = r
    have HRR : Hid ((if n2 = dc then (1 : Int) else if (aheadN S n2 n1 : Int) < rem then 2 else 0) = r) := Lib.hid hrr
    clear hT hv hvx hx hperm hahead hb hk1 hrr
    go_enter Tryz.func26, Tryz.ntmps26
    go_wp2_with fail
    generalize w.alloc (.cells #[.string n1, .string n2, .string n3, .slice ta tn tc, .bool vu] 94) = w1 at *
    generalize w.heap.size = Nn at *
    have t0 := HT.out.blk.cell 0
    have t1 := HT.out.blk.cell 1
    have t2 := HT.out.blk.cell 2
    have y0 := HB.out.cell 0
    have y1 := HB.out.cell 1
    simp only [List.getElem?_toArray, List.getElem?_cons_succ, List.getElem?_cons_zero] at t0 t1 t2 y0 y1
    clear z2 l1
    by_cases hdc : n2 = dc
    · subst hdc
      have hbe := strEq_self n2
      go_region
      go_wp2_with fail
      go_ret
      have e1 := HRR.out
      simp only [if_true] at e1
      exact ⟨by rw [← e1]; rfl, HK.out.drew⟩
    · have hbe := strEq_ne hdc
      obtain ⟨es, ck, hh, hst, hL⟩ := HT.out.map
      have hlt := lt_of_heap hh
      have hrg := run_range_map (P := Tryz.prog) w1.drew 133 9 94 m es ck mshM hh
      have hlen : es.toList.length = (L.map (·.2)).length := by
        have := congrArg List.length hL
        simpa using this
      have hent : ∀ e ∈ es.toList, ∃ (i : Nat) (p : ByteArray × HV), es.toList[i]? = some e ∧ (L.map (·.2))[i]? = some p.2 ∧ e.val = hvV p.2 := by
        intro e he
        obtain ⟨i, hi⟩ := List.getElem?_of_mem he
        have h1 := congrArg (fun l => l[i]?) hL
        simp only [List.getElem?_map, hi, Option.map_some] at h1
        cases hp : L[i]? with
        | none => rw [hp] at h1; simp at h1
        | some p =>
          rw [hp] at h1
          simp only [Option.map_some, Option.some.injEq, Prod.mk.injEq] at h1
          exact ⟨i, p, hi, by rw [List.getElem?_map, hp]; rfl, h1.2⟩
      have HENT := Lib.hid hent
      have HLEN := Lib.hid hlen
      have HST := Lib.hid hst
      have HDC := Lib.hid hdc
      have hsz1 := lt_of_heap hh
      clear hL hent hlen hst hdc
      go_region
      go_wp2_with fail
      generalize hRr : w1.heap.size = Rr at *
      go_loopw [7] (fun va wr => ∃ seen c0 n, va = .int .i64 (n : Nat) ∧ wr.heap[Rr]? = some (.mapIter (some m) ck seen c0) ∧ ck ≤ c0 ∧ n = ((vis seen es.toList (L.map (·.2))).filter (isAhead n2 n1)).length ∧ Kept noBlock w1 wr) (fun _ wr => (leftOf es (wr.iterSeen Rr)).size)
      case atStart =>
        subst hRr
        exact ⟨#[], ck, 0, rfl, heap_alloc_new w1.drew _, Nat.le_refl _, by rw [vis_none]; rfl, ((Kept.refl noBlock w1).drew).alloc _⟩
      case round =>
        obtain ⟨seen, c0, n, rfl, hr, hc0, hn, hk⟩ := hrel
        have hb1 : wr.heap[m]? = some (.map es ck) := (hk.block m (by rw [hRr]; exact hlt) (fun h => h)).trans hh
        have hzw := hk.size
        have law := run_next_at (P := Tryz.prog) wr 0 Rr m ck c0 seen es ck hr hb1 HST.out.1 hc0
        have HKR := Lib.hid hk
        have y0r := (HB.out.kept hk (fun e => e)).cell 0
        have y1r := (HB.out.kept hk (fun e => e)).cell 1
        have t1r := (HT.out.blk.kept hk (fun e => e)).cell 1
        simp only [List.getElem?_toArray, List.getElem?_cons_succ, List.getElem?_cons_zero] at y0r y1r t1r
        rcases law with ⟨h0, hrun⟩ | ⟨e, he, w2, hw2, hrun⟩
        · have hnx : ∀ ty, (Instr.next (.pointer (some ⟨Rr, 0, none⟩)) false ty).run Tryz.prog wr = _ := fun _ => hrun
          rw [vis_all es.toList (L.map (·.2)) HLEN.out (all_seen es seen h0), HA.out] at hn
          have HN := Lib.hid hn
          clear hk hn
          by_cases hlr : (n : Int) < rem
          · go_wp2_with fail
            go_ret
            have e1 := HRR.out
            rw [if_neg HDC.out, ← HN.out, if_pos hlr] at e1
            exact ⟨by rw [← e1]; rfl, HK.out.trans HKR.out (fun _ _ e => e)⟩
          · go_wp2_with fail
            go_ret
            have e1 := HRR.out
            rw [if_neg HDC.out, ← HN.out, if_neg (Int.not_lt.2 hlr)] at e1
            exact ⟨by rw [← e1]; rfl, HK.out.trans HKR.out (fun _ _ e => e)⟩
        · have hem := mem_left he
          obtain ⟨i, p, hei, hpi, hv⟩ := HENT.out e hem.1
          rw [hv] at hrun
          have hnx : ∀ ty, (Instr.next (.pointer (some ⟨Rr, 0, none⟩)) false ty).run Tryz.prog wr = _ := fun _ => hrun
          have hst1 := vis_step es.toList (L.map (·.2)) i HST.out.2.1 hei hpi hem.2
          have hg : wr.grownBy (setBlock w2 Rr (.mapIter (some m) ck (seen.push e.born) ck)) (some Rr) := grown_iter hw2
          have hk2 : Kept noBlock w1 (setBlock w2 Rr (.mapIter (some m) ck (seen.push e.born) ck)) := by
            have : Kept noBlock w1 w2 := by
              rcases hw2 with rfl | rfl
              · exact hk
              · exact hk.drew
            exact this.setBlock (m := Rr) (fun h => absurd h (by omega)) _
          have hr2 : (setBlock w2 Rr (.mapIter (some m) ck (seen.push e.born) ck)).heap[Rr]? = some (.mapIter (some m) ck (seen.push e.born) ck) := heap_setBlock_me (by rcases hw2 with rfl | rfl <;> exact lt_of_heap hr) _
          have hb2 : (setBlock w2 Rr (.mapIter (some m) ck (seen.push e.born) ck)).heap[m]? = some (.map es ck) := (hk2.block m (by rw [hRr]; exact hlt) (fun h => h)).trans hh
          have hen := run_entry_at (P := Tryz.prog) (setBlock w2 Rr (.mapIter (some m) ck (seen.push e.born) ck)) Rr m ck seen es ck e hr2 hb2 hem.1 HST.out.2.1
          rw [hv] at hen
          have hnn : ((vis (seen.push e.born) es.toList (L.map (·.2))).filter (isAhead n2 n1)).length = n + ([p.2].filter (isAhead n2 n1)).length := by
            rw [(hst1.filter _).length_eq, List.filter_append, List.length_append, ← hn]
          have hnb : n ≤ 1000000 := by
            have h1 := List.length_filter_le (isAhead n2 n1) (vis seen es.toList (L.map (·.2)))
            have h2 := vis_len (seen := seen) es.toList (L.map (·.2))
            rw [List.length_map] at h2
            omega
          have HNN := Lib.hid hnn
          have HMS := Lib.hid (left_shrinks es seen e he)
          have HR := Lib.hid hr
          obtain ⟨key, m1, m2, m3, sa, sn, sc, sk, su⟩ := p
          simp only [hvV] at hrun hnx hen
          clear hst1 hg hei hpi hn hk hnn hv
          generalize setBlock w2 Rr (.mapIter (some m) ck (seen.push e.born) ck) = w3 at *
          have hk3 : Kept noBlock w1 (w3.alloc (.cells #[.string m1, .string m2, .string m3, .slice sa sn sc, .bool su] 94)) := hk2.alloc _
          have hb : Blk (w3.alloc (.cells #[.string m1, .string m2, .string m3, .slice sa sn sc, .bool su] 94)) w3.heap.size 94 #[.string m1, .string m2, .string m3, .slice sa sn sc, .bool su] := Blk.new _ _ _
          have u0 := hb.cell 0
          have u1 := hb.cell 1
          have v0 := (HB.out.kept hk3 (fun e => e)).cell 0
          have v1 := (HB.out.kept hk3 (fun e => e)).cell 1
          simp only [List.getElem?_toArray, List.getElem?_cons_succ, List.getElem?_cons_zero] at u0 u1 v0 v1
          have hr3 := (heap_alloc_old w3 (.cells #[.string m1, .string m2, .string m3, .slice sa sn sc, .bool su] 94) (lt_of_heap hr2)).trans hr2
          have HR3 := Lib.hid hr3
          have HK3 := Lib.hid hk3
          have hw1 : IntKind.i64.wrap ((n : Int) + 1) = (n : Int) + 1 := by rw [IntKind.wrap_i64]; omega
          clear hk2 hb hr2 hb2 hr3 hk3 y0r y1r t1r
          by_cases hd : m2 = n2
          · subst hd
            have hbe2 := strEq_self m2
            by_cases hl : nlt m1 n1
            · have hl2 : Op.bytesLess m1.toList n1.toList = true := by rw [less_nlt]; exact decide_eq_true hl
              have HC : Hid (([(⟨m1, m2, m3, sa, sn, sc, sk, su⟩ : HV)].filter (isAhead m2 n1)).length = 1) := Lib.hid (by simp [isAhead, hl])
              clear hl
              go_wp2_with fail
              go_roundw
              case rel => exact ⟨_, ck, n + 1, by go_num, HR3.out, Nat.le_refl _, by rw [HNN.out, HC.out], HK3.out⟩
              case measure =>
                rw [iterSeen_is HR3.out, iterSeen_is HR.out]
                exact HMS.out
            · have hl2 : Op.bytesLess m1.toList n1.toList = false := by rw [less_nlt]; exact decide_eq_false hl
              have HC : Hid (([(⟨m1, m2, m3, sa, sn, sc, sk, su⟩ : HV)].filter (isAhead m2 n1)).length = 0) := Lib.hid (by simp [isAhead, hl])
              clear hl
              go_wp2_with fail
              go_roundw
              case rel => exact ⟨_, ck, n, rfl, HR3.out, Nat.le_refl _, by rw [HNN.out, HC.out]; rfl, HK3.out⟩
              case measure =>
                rw [iterSeen_is HR3.out, iterSeen_is HR.out]
                exact HMS.out
          · have hbe2 := strEq_ne hd
            have HC : Hid (([(⟨m1, m2, m3, sa, sn, sc, sk, su⟩ : HV)].filter (isAhead n2 n1)).length = 0) := Lib.hid (by simp [isAhead, hd])
            clear hd
            go_wp2_with fail
            go_roundw
            case rel => exact ⟨_, ck, n, rfl, HR3.out, Nat.le_refl _, by rw [HNN.out, HC.out]; rfl, HK3.out⟩
            case measure =>
              rw [iterSeen_is HR3.out, iterSeen_is HR.out]
              exact HMS.out
end
end Go.Proofs.YtdcdefkloibfnaaGreatDoor
namespace Go.Proofs.YtdcdefkloibfnaaGreatDoor
set_option linter.unusedVariables false
open Go.RowKit Go.Sort Go.Shelf

def cmpN (a b : ByteArray) : Int := if nlt a b then -1 else if nlt b a then 1 else 0
theorem nanS_at (a : ByteArray) (w : World) : Calls Tryz.prog 71 #[.string a] w fun e w' => e = .returned (.bool false) ∧ w' = w := by
  have hb := strEq_self a
  go_enter Tryz.func71, Tryz.ntmps71
  go_wp2
  go_ret
  exact ⟨by simp, rfl⟩
theorem cmpS_at (a b : ByteArray) (w : World) : Calls Tryz.prog 47 #[.string a, .string b] w fun e w' => e = .returned (.int .i64 (cmpN a b)) ∧ w' = w := by
  by_cases h1 : nlt a b
  · have hz : cmpN a b = -1 := by unfold cmpN; rw [if_pos h1]
    have hl : Op.bytesLess a.toList b.toList = true := by rw [less_nlt]; exact decide_eq_true h1
    rw [hz]
    clear hz h1
    go_enter Tryz.func47, Tryz.ntmps47
    go_wp2_with (go_at_call 71; refine (nanS_at _ _).mono ?_; rintro e w' ⟨rfl, rfl⟩)
    go_ret
    exact ⟨rfl, rfl⟩
  · have hl : Op.bytesLess a.toList b.toList = false := by rw [less_nlt]; exact decide_eq_false h1
    by_cases h2 : nlt b a
    · have hz : cmpN a b = 1 := by unfold cmpN; rw [if_neg h1, if_pos h2]
      have hbe := strEq_ne (show a ≠ b from fun e => nlt_irrefl b (by rw [e] at h2; exact h2))
      rw [hz]
      clear hz h1 h2
      go_enter Tryz.func47, Tryz.ntmps47
      go_wp2_with (go_at_call 71; refine (nanS_at _ _).mono ?_; rintro e w' ⟨rfl, rfl⟩)
      go_ret
      exact ⟨rfl, rfl⟩
    · have hz : cmpN a b = 0 := by unfold cmpN; rw [if_neg h1, if_neg h2]
      obtain rfl := nlt_tri h1 h2
      have hbe := strEq_self a
      rw [hz]
      clear hz h1 h2
      go_enter Tryz.func47, Tryz.ntmps47
      go_wp2_with (go_at_call 71; refine (nanS_at _ _).mono ?_; rintro e w' ⟨rfl, rfl⟩)
      go_ret
      exact ⟨rfl, rfl⟩
theorem hAll1_at (a b : HV) (w : World) : Calls Tryz.prog 46 #[.agg (hvC a).toArray, .agg (hvC b).toArray] w fun e w' => e = .returned (.int .i64 (cmpN a.name b.name)) ∧ Grew w w' := by
  obtain ⟨a1, a2, a3, a4, a5, a6, a7, a8⟩ := a
  obtain ⟨b1, b2, b3, b4, b5, b6, b7, b8⟩ := b
  unfold hvC
  simp only []
  go_enter Tryz.func46, Tryz.ntmps46
  go_wp2_with (go_at_call 47; refine (cmpS_at _ _ _).mono ?_; rintro e w' ⟨rfl, rfl⟩)
  go_ret
  exact ⟨rfl, ((Grew.refl _).alloc _).alloc _⟩
def cmpH (a b : HV) : Int := cmpN a.name b.name
theorem cmpH_lt (a b : HV) : Go.Proofs.ltOf cmpH a b = decide (nlt a.name b.name) := by
  unfold Go.Proofs.ltOf cmpH cmpN
  by_cases h1 : nlt a.name b.name
  · simp [h1]
  · by_cases h2 : nlt b.name a.name <;> simp [h1, h2]
theorem cmpH_swo : SWO (Go.Proofs.ltOf cmpH) where
  irrefl x := by rw [cmpH_lt]; exact decide_eq_false (nlt_irrefl _)
  trans x y z := by simp only [cmpH_lt, decide_eq_true_eq]; exact nlt_trans
  ntrans x y z := by
    simp only [cmpH_lt, decide_eq_false_iff_not]
    intro h1 h2 h3
    by_cases e : nlt y.name x.name
    · exact h2 (nlt_trans e h3)
    · have := nlt_tri h1 e
      rw [this] at h3
      exact h2 h3
instance : Inhabited HV := ⟨⟨noStr, noStr, noStr, none, 0, 0, [], false⟩⟩
theorem hvC_len (l : List HV) : (l.flatMap hvC).length = l.length * 5 := flat_len (k := 5) (fun _ => rfl) l
theorem HSort_at {W : World} {n₀ : Nat} {v : Value} {xs : List HV} (hown : W.ownsRow n₀ 94 5 v xs.length (xs.flatMap hvC)) (hlen : xs.length ≤ 1000000) :
    Calls Tryz.prog 69 #[v, .func (.func 46) #[] #[]] W fun e w' => e = .returned (.tuple #[]) ∧ ∃ S : List HV, S.Perm xs ∧ S.Pairwise (fun a b => ¬ nlt b.name a.name) ∧ w'.ownsRow n₀ 94 5 v xs.length (S.flatMap hvC) ∧ Kept (fun i => v.ownBlock = some i) W w' := by
  obtain ⟨hl, hown⟩ := hown
  rcases hown with ⟨rfl, h0⟩ | ⟨g', cap, cur, rfl, hb, hh, hnc, hm, hcs, hx⟩
  · have : xs = [] := List.eq_nil_of_length_eq_zero h0
    subst this
    refine Calls.mono (AnyF.slices_SortFunc_none { Tryz.hsort with } none 0 _ W) ?_
    rintro e w' ⟨rfl, rfl⟩
    exact ⟨rfl, [], .nil, .nil, World.ownsRow_nil _ _ _ _, Kept.refl _ _⟩
  · have hsz : xs.toArray.size = xs.length := by simp
    have hfz : (flatK hvC 5 xs.toArray).size = xs.length * 5 := by simp
    have hcell : ∀ (d : List HV) (j : Nat), j < d.length * 5 → some ((flatK hvC 5 d.toArray)[j]!) = (d.flatMap hvC)[j]? := by
      intro d j hj
      rw [← flatK_list (enc := hvC) (k := 5) (fun _ => rfl) d, Array.getElem?_toList]
      have : j < (flatK hvC 5 d.toArray).size := by simpa using hj
      rw [getElem!_pos _ j this, Array.getElem?_eq_getElem this]
    have hH : HoldsK hvC 5 W g' 0 xs.toArray := by
      intro j hj
      rw [hfz] at hj
      refine ⟨?_, by simp [World.frozen?, hh]⟩
      rw [cell_of_row W g' (0 + j) cur _ _ hh, Nat.zero_add]
      have h1 : (cur.toList.take (xs.length * 5))[j]? = (xs.flatMap hvC)[j]? := by rw [hx]
      rw [List.getElem?_take_of_lt hj, Array.getElem?_toList] at h1
      rw [h1, ← hcell xs j hj]
      rfl
    have hcmp : CmpLays Tryz.prog 46 #[] hvC 5 cmpH g' 0 xs.toArray.size W := by
      intro m os dk hs x y
      exact hAll1_at x y _
    have hcon := AnyQ.slices_SortFunc Tryz.hsort 5 (Tryz.isAgg94) (Tryz.sizeOf94) hvC (fun _ => rfl) (fun x v hv => by
      simp only [hvC, List.mem_cons, List.not_mem_nil, or_false] at hv
      rcases hv with rfl | rfl | rfl | rfl | rfl <;> rfl) cmpH cmpH_swo 46 #[] g' 0 cap xs.toArray W (enters_of Tryz.func46 (by kernel_rfl) rfl) hcmp hH (lt_of_heap hh) (by rw [hsz]; omega)
    rw [hsz] at hcon
    refine Calls.mono hcon ?_
    rintro e w' ⟨rfl, d', m, os, hp, hs, rfl⟩
    obtain ⟨hp1, -, hp3⟩ := hp
    have hd : d'.size = xs.length := by rw [hp1, hsz]
    have hperm : d'.toList.Perm xs := by
      have e1 : (d'.extract 0 xs.length).toList = d'.toList := by rw [← hd]; simp
      have e2 : (xs.toArray.extract 0 xs.length).toList = xs := by simp
      rw [e1, e2] at hp3
      exact hp3
    have hdl : d'.toList.length = xs.length := by rw [Array.length_toList, hd]
    refine ⟨rfl, d'.toList, hperm, ?_, ⟨by rw [hvC_len, hdl], .inr ⟨g', cap, _, rfl, hb, swv_block hh, hnc, hm, by rw [put_size]; exact hcs, ?_⟩⟩, swv_kept.mono fun i _ e => by simp [Value.ownBlock, e]⟩
    · rw [List.pairwise_iff_getElem]
      intro i j hi hj hij
      rw [hdl] at hi hj
      have h1 := hs i j (Nat.zero_le _) hij hj
      rw [cmpH_lt, decide_eq_false_iff_not, getElem!_pos d' j (by omega), getElem!_pos d' i (by omega)] at h1
      simp only [Array.getElem_toList]
      exact h1
    · have hpt := put_take (enc := (id : Value → Value)) (cur := cur) (l := d'.toList.flatMap hvC) (by rw [hvC_len, hdl]; have : xs.length * 5 ≤ cap * 5 := Nat.mul_le_mul_right _ hnc; omega)
      rw [List.map_id, hvC_len, hdl] at hpt
      have e1 : flatK hvC 5 d' = (d'.toList.flatMap hvC).toArray := by
        have := flatK_list (enc := hvC) (k := 5) (fun _ => rfl) d'.toList
        rw [← this]
      rw [e1]
      exact hpt
end Go.Proofs.YtdcdefkloibfnaaGreatDoor
namespace Go.Proofs.YtdcdefkloibfnaaGreatDoor
set_option linter.unusedVariables false
open Go.RowKit Go.Shelf
open Go.ChangeMaps (setBlock)
attribute [local go_sem] Oper.semAt_some

theorem Vals_stops (F : Fence) (n : Nat) (hF : F.fn 70) (hro : F.round = none) (hn : 1 ≤ n) (Bm m : Nat) (L : List (ByteArray × HV)) (w : World) (hBm : Bm < w.heap.size)
    (hm : w.cell? ⟨Bm, 0, none⟩ = some (.map (some m))) (hmap : HoMap w m L) :
    SeqStopsK F n Tryz.prog 70 #[.pointer (some ⟨Bm, 0, none⟩)] (fun x => #[hvV x]) KeepsWalks (fun xs => xs.Perm (L.map (·.2))) (fun _ => True) L.length w := fun l J Jx W hW hJ _ hY h0 =>
  Vals1_in F n hF hro hn l Bm m L J Jx hY W hJ ((hW.cell (p := ⟨Bm, 0, none⟩) hBm).trans hm) (hmap.keep (hW.block m hmap.lt)) h0
theorem hVals_at (m : Nat) (w : World) : Calls Tryz.prog 45 #[.map (some m)] w fun e w' => e = .returned (.func (.func 70) #[] #[.pointer (some ⟨w.heap.size, 0, none⟩)]) ∧ w' = w.alloc (.cells #[.map (some m)] 133) := by
  go_enter Tryz.func45, Tryz.ntmps45
  go_wp2
  go_ret
  exact ⟨rfl, rfl⟩

theorem hHsM : Tryz.prog.underlying 31 = some (.slice 94) := by kernel_rfl
theorem hostInfo : (Tryz.prog.info? 94).map (fun i => (i.zero, i.size, i.bytes)) = some (some (.agg #[.string noStr, .string noStr, .string noStr, .slice none 0 0, .bool false]), 5, 80) := by kernel_rfl

theorem Blk.grownH {w w' : World} {g : Nat} {t : TypeId} {cs : Array Value} {row : Option Nat} (h : Blk w g t cs) (hg : w.grownBy w' row) (hr : ∀ r, row = some r → ∃ o : Obj, w.heap[r]? = some o ∧ o.isCells = false) : Blk w' g t cs := by
  refine (hg.block g h.lt fun e => ?_).trans h
  obtain ⟨o, ho, hc⟩ := hr g e.symm
  unfold Blk at h
  rw [h] at ho
  cases ho
  cases hc
/-- AppendSeq's rounds: the box holds an own row of what has come. -/
def SeqI (w : World) (pre : List HV) (W : World) : Prop := Kept noBlock w W ∧ ∃ v, Boxed W w.heap.size 31 v ∧ W.ownsRow w.heap.size 94 5 v pre.length (pre.flatMap hvC)
theorem SeqI.grown {w W W' : World} {pre : List HV} {row : Option Nat} (h : SeqI w pre W) (hg : W.grownBy W' row) (hr : ∀ r, row = some r → w.heap.size ≤ r ∧ ∃ o : Obj, W.heap[r]? = some o ∧ o.isCells = false) : SeqI w pre W' := by
  obtain ⟨hk, v, hb, ho⟩ := h
  refine ⟨hk.grown hg (fun k e hlt => absurd (hr k e).1 (Nat.not_le.2 hlt)), v, hb.kept hg (fun e => ?_), ho.kept hg ?_⟩
  · obtain ⟨_, o, h1, h2⟩ := hr _ e.symm
    rw [show W.heap[w.heap.size]? = _ from hb] at h1
    cases h1
    cases h2
  · cases hv : v.ownBlock with
    | none => exact .inl rfl
    | some g =>
      refine .inr fun e => ?_
      obtain ⟨_, o, h1, h2⟩ := hr _ e.symm
      obtain ⟨_, cs, h3⟩ := own_type ho hv
      rw [h3] at h1
      cases h1
      cases h2

set_option maxRecDepth 100000 in
set_option maxHeartbeats 8000000 in
theorem hAppSeq_in {w : World} {Bm m : Nat} {L : List (ByteArray × HV)} (hm : w.cell? ⟨Bm, 0, none⟩ = some (.map (some m))) (hBm : Bm < w.heap.size) (hmap : HoMap w m L) (hL : L.length ≤ 100000) :
    CallsIn Fence.wide 6 Tryz.prog 88 #[.slice none 0 0, .func (.func 70) #[] #[.pointer (some ⟨Bm, 0, none⟩)]] w fun e w' =>
      ∃ (v : Value) (xs : List HV), e = .returned v ∧ xs.Perm (L.map (·.2)) ∧ w'.ownsRow w.heap.size 94 5 v xs.length (xs.flatMap hvC) ∧ Kept noBlock w w' := by
  have HM := Lib.hid hm
  have HP := Lib.hid hmap
  clear hm hmap
  refine callsIn_of_wp_marks Tryz.func88 rfl trivial ?_ rfl
  simp only [Tryz.ntmps88, List.size_toArray, List.length_cons, List.length_nil, Nat.reduceAdd, Nat.reduceSub, Array.replicate_succ, Array.replicate_zero, List.push_toArray, List.append_toArray, List.nil_append, List.cons_append]
  gi_wp2
  have hm1 : (w.alloc (.cells #[.slice none 0 0] 31)).cell? ⟨Bm, 0, none⟩ = some (.map (some m)) := by rw [World.cell?_of_block (heap_alloc_old w _ hBm)]; exact HM.out
  have hp1 : HoMap (w.alloc (.cells #[.slice none 0 0] 31)) m L := HP.out.alloc _
  have h00 : SeqI w [] (w.alloc (.cells #[.slice none 0 0] 31)) := ⟨(Kept.refl _ _).alloc _, _, Boxed.new _ _ _, World.ownsRow_nil _ _ _ _⟩
  have hsz : (w.alloc (.cells #[.slice none 0 0] 31)).heap.size = w.heap.size + 1 := by simp
  have hin : ∀ pre W, SeqI w pre W → (w.alloc (.cells #[.slice none 0 0] 31)).heap.size ≤ W.heap.size := fun pre W h => by
    obtain ⟨_, v, hb, _⟩ := h
    have := hb.lt
    omega
  have HSZ := Lib.hid hin
  clear hin
  generalize w.alloc (.cells #[.slice none 0 0] 31) = W0 at *
  refine wpIn_rangeFunc_ownH (α := HV) rfl (by decide) (gf := 70) (lb := #[.pointer (some ⟨Bm, 0, none⟩)]) rfl trivial (enters_of Tryz.func70 (by kernel_rfl) rfl)
    (Vals_stops Fence.wide (6 - 1) trivial rfl (by decide) Bm m L W0 (by omega) hm1 hp1) walksK_t walksK_b (Below.refl _ _) (fun _ => rfl)
    (SeqI w) (fun _ _ _ => False)
    (fun s W W' row hs hg hr => hs.grown hg fun r e => ⟨by have := (hr r e).1; omega, (hr r e).2⟩)
    (fun _ _ _ _ _ hs _ _ => hs)
    h00
    (fun x a' W => ∃ Bx, W0.heap.size ≤ Bx ∧ Blk W Bx 94 (hvC x).toArray ∧ a' = { tmps := #[.slice none 0 0, .func (.func 70) #[] #[.pointer (some ⟨Bm, 0, none⟩)], .pointer (some ⟨w.heap.size, 0, none⟩), undef, .slice none 0 0, .pointer (some ⟨Bx, 0, none⟩), .func (.func 70) #[] #[.pointer (some ⟨Bm, 0, none⟩)], hvV x, undef, undef, undef, undef, undef], defers := [] })
    (fun x a' s W W' row hs hg hr => by
      obtain ⟨Bx, h1, h2, h3⟩ := hs
      exact ⟨Bx, h1, h2.grownH hg fun r e => (hr r e).2, h3⟩) ?assign ?body ?done ?stop
  case assign =>
    rintro l pre ⟨x1, x2, x3, x4, x5, x6, x7, x8⟩ W K hI hK
    simp only [hvV]
    gi_wp2
    exact hK _ _ ((KeepsOthers.alloc _ _).from _) (KeepsWalks.alloc _ _) (hI.grown (World.grownBy_alloc W _ none) (fun r e => by cases e)) ⟨W.heap.size, by have := HSZ.out _ _ hI; omega, Blk.new _ _ _, rfl⟩
  case body =>
    rintro l pre x a' W hl ⟨r, hr⟩ ⟨hk, v, hv, hrow⟩ ⟨Bx, hBx, hbx, rfl⟩ hlt
    obtain ⟨x1, x2, x3, x4, x5, x6, x7, x8⟩ := x
    simp only [hvV, hvC] at hbx ⊢
    have y0 := hbx.cell 0
    have y1 := hbx.cell 1
    have y2 := hbx.cell 2
    have y3 := hbx.cell 3
    have y4 := hbx.cell 4
    simp only [List.getElem?_toArray, List.getElem?_cons_succ, List.getElem?_cons_zero] at y0 y1 y2 y3 y4
    have hc := hv.cell
    have hks := hk.size
    obtain ⟨i0, hi, hz0, hz1, hz2⟩ := info_parts hostInfo
    gi_wp2_with (gi_at_builtin; refine wpListIn_append_own _ rfl _ _ 31 rfl w.heap.size 94 i0 _ 5 80 hHsM hi hz0 hz1 hz2 rfl (by decide) _ _ _ rfl (hrow.alloc _) ⟨W.heap.size, 0, none⟩ 1 1 (hvC ⟨x1, x2, x3, x4, x5, x6, x7, x8⟩) rfl rfl ?b0 (by simp [hvC, Value.oneCell']) ?b1 ?b2 ?b3 ?_)
    case b0 =>
      intro j u hu
      have h1 := (Blk.new W 94 #[.string x1, .string x2, .string x3, .slice x4 x5 x6, .bool x8]).cell j
      rw [List.getElem?_toArray] at h1
      simp only [Addr.add, Nat.zero_add]
      by_cases hj : j = 0
      · subst hj; exact h1.trans hu
      · rw [if_neg hj]; exact h1.trans hu
    case b1 => unfold maxLen; omega
    case b2 => omega
    case b3 => show _ ≤ (W.alloc _).heap.size; rw [sz_alloc]; omega
    intro v' w1 hown' hgrow _
    obtain ⟨g', cap', rfl⟩ := ownsRow_succ hown'
    obtain ⟨hv1, hv2, hr2, hk2, hb2⟩ := hv.appended (by decide) hrow hks (Nat.le_refl _) hown' hgrow
    have hc1 := hv1.cell
    have hf1 := hv1.frozen
    gi_wp2
    refine ⟨hk2.from _, hk2.walks, hk.trans (T := fun i => w.heap.size ≤ i) ⟨hb2.os, hb2.tape, hb2.output, hb2.size, fun k hk hn => hb2.block k (by omega)⟩ (fun i hi e => by omega), _, hv2, by simpa using hr2⟩
  case stop =>
    rintro D c pre W _ _ h _
    exact h.elim
  case done =>
    rintro D xs W hD hS ⟨hk, v, hv, hrow⟩ hdef
    have hc := hv.cell
    gi_wp2
    have hD1 : w.heap.size < D := by omega
    have hg : W.grownBy (W.putObj D (.deferred none)) (some D) := ⟨rfl, rfl, rfl, by simp, fun k _ hk => World.putObj_heap_other (fun e => hk (by rw [e]))⟩
    have hfin : SeqI w xs (W.putObj D (.deferred none)) := SeqI.grown ⟨hk, v, hv, hrow⟩ hg fun r e => by cases e; exact ⟨by omega, _, hdef, rfl⟩
    refine ⟨by simp, .inl ⟨_, _, rfl, run_takeDeferred hdef, ?_⟩⟩
    obtain ⟨hk3, v3, hv3, ho3⟩ := hfin
    obtain rfl : v3 = v := by
      have e1 := (hv.kept hg (fun e => by cases e; omega)).symm.trans hv3
      cases e1
      rfl
    exact ⟨_, results_tmp rfl _ _ _, v3, xs, rfl, hS, ho3, hk3⟩
end Go.Proofs.YtdcdefkloibfnaaGreatDoor
namespace Go.Proofs.YtdcdefkloibfnaaGreatDoor
set_option linter.unusedVariables false
open Go.RowKit

section
variable {w w' W : World} {base : Nat} {S : Nat → Prop}
theorem own_base {B : Nat} {e : TypeId} {sz n : Nat} {v : Value} {xs : List Value} (h : w.ownsRow base e sz v n xs) (hB : B ≤ base) : w.ownsRow B e sz v n xs := by
  obtain ⟨hl, h⟩ := h
  refine ⟨hl, ?_⟩
  rcases h with h | ⟨g, cap, cur, rfl, hb, r⟩
  · exact .inl h
  · exact .inr ⟨g, cap, cur, rfl, Nat.le_trans hB hb, r⟩
theorem Fam.two {L : List Rw} {a b : Rw} (h : Fam w base L) (i j : Nat) (hij : i ≠ j) (hi : L[i]? = some a) (hj : L[j]? = some b) : Fam w base [a, b] := by
  refine ⟨fun m r hm => ?_, fun m n x y hmn hm hn k hk => ?_⟩
  · rcases m with _ | _ | m
    · cases hm; exact h.1 i a hi
    · cases hm; exact h.1 j b hj
    · simp at hm
  · rcases m with _ | _ | m <;> rcases n with _ | _ | n
    · exact absurd rfl hmn
    · cases hm; cases hn; exact h.2 i j a b hij hi hj k hk
    · simp at hn
    · cases hm; cases hn; exact h.2 j i b a (fun e => hij e.symm) hj hi k hk
    · exact absurd rfl hmn
    · simp at hn
    · simp at hm
    · simp at hm
    · simp at hm
/-- What a call has made stands beside what was there. -/
theorem Fam.join {L M : List Rw} {B : Nat} (h : Fam w B L) (hk : Kept noBlock w w') (hb : w.heap.size ≤ base) (hB : B ≤ base) (h2 : Fam w' base M) : Fam w' B (L ++ M) := by
  have h1 := h.keptN hk
  have key : ∀ (i : Nat) (r : Rw), (L ++ M)[i]? = some r → (i < L.length ∧ L[i]? = some r) ∨ (L.length ≤ i ∧ M[i - L.length]? = some r) := by
    intro i r hr
    by_cases hl : i < L.length
    · rw [List.getElem?_append_left hl] at hr; exact .inl ⟨hl, hr⟩
    · rw [List.getElem?_append_right (by omega)] at hr; exact .inr ⟨by omega, hr⟩
  have cross : ∀ (i j : Nat) (a b : Rw), L[i]? = some a → M[j]? = some b → ∀ k, a.v.ownBlock = some k → b.v.ownBlock ≠ some k := by
    intro i j a b ha hb' k e e2
    have h3 := own_lt (h.1 i a ha) e
    have h4 := (own_type (h2.1 j b hb') e2).1
    omega
  refine ⟨fun i r hr => ?_, fun i j a b hij ha hb' k hk' => ?_⟩
  · rcases key i r hr with ⟨_, e⟩ | ⟨_, e⟩
    · exact h1.1 i r e
    · exact own_base (h2.1 _ r e) hB
  · rcases key i a ha with ⟨l1, e1⟩ | ⟨l1, e1⟩ <;> rcases key j b hb' with ⟨l2, e2⟩ | ⟨l2, e2⟩
    · exact h1.2 i j a b hij e1 e2 k hk'
    · exact cross i _ a b e1 e2 k hk'
    · exact fun e => cross j _ b a e2 e1 k e hk'
    · exact h2.2 _ _ a b (by omega) e1 e2 k hk'
end
end Go.Proofs.YtdcdefkloibfnaaGreatDoor
namespace Go.Proofs.YtdcdefkloibfnaaGreatDoor
set_option linter.unusedVariables false
open Go.RowKit Go.Shelf

theorem hCollect_at {w : World} {Bm m : Nat} {L : List (ByteArray × HV)} (hm : w.cell? ⟨Bm, 0, none⟩ = some (.map (some m))) (hBm : Bm < w.heap.size) (hmap : HoMap w m L) (hL : L.length ≤ 100000) :
    Calls Tryz.prog 68 #[.func (.func 70) #[] #[.pointer (some ⟨Bm, 0, none⟩)]] w fun e w' =>
      ∃ (v : Value) (xs : List HV), e = .returned v ∧ xs.Perm (L.map (·.2)) ∧ w'.ownsRow w.heap.size 94 5 v xs.length (xs.flatMap hvC) ∧ Kept noBlock w w' := by
  have key := callsIn_wide.1 (hAppSeq_in hm hBm hmap hL)
  go_enter Tryz.func68, Tryz.ntmps68
  go_wp2_with (go_at_call 88; refine key.mono ?_; rintro e w' ⟨v, xs, rfl, hp, ho, hk⟩)
  go_ret
  exact ⟨v, xs, rfl, hp, ho, hk⟩

theorem hSortedF_at {w : World} {Bm m : Nat} {L : List (ByteArray × HV)} (hm : w.cell? ⟨Bm, 0, none⟩ = some (.map (some m))) (hBm : Bm < w.heap.size) (hmap : HoMap w m L) (hL : L.length ≤ 100000) :
    Calls Tryz.prog 44 #[.func (.func 70) #[] #[.pointer (some ⟨Bm, 0, none⟩)], .func (.func 46) #[] #[]] w fun e w' =>
      ∃ (v : Value) (S : List HV), e = .returned v ∧ S.Perm (L.map (·.2)) ∧ S.Pairwise (fun a b => ¬ nlt b.name a.name) ∧ w'.ownsRow w.heap.size 94 5 v S.length (S.flatMap hvC) ∧ Kept noBlock w w' := by
  have key := hCollect_at hm hBm hmap hL
  go_enter Tryz.func44, Tryz.ntmps44
  go_wp2_with (go_at_call 68; refine key.mono ?_; rintro e w1 ⟨v, xs, rfl, hp, ho, hk⟩)
  have hlen : xs.length ≤ 1000000 := by
    have := hp.length_eq
    rw [List.length_map] at this
    omega
  have hs := HSort_at ho hlen
  have HO := Lib.hid ho
  have HP := Lib.hid hp
  have HK := Lib.hid hk
  clear ho hp hk hlen key hm hmap hL
  go_wp2_with (go_at_call 69; refine hs.mono ?_; rintro e w2 ⟨rfl, S, hp2, hs2, ho2, hk2⟩)
  go_ret
  have e1 : S.length = xs.length := hp2.length_eq
  refine ⟨v, S, rfl, hp2.trans HP.out, hs2, by rw [e1]; exact ho2, HK.out.trans hk2 fun i hi e => ?_⟩
  exact absurd hi (Nat.not_lt.2 (own_type HO.out e).1)

theorem hostsT : SlT Tryz.prog 31 94 (.agg #[.string noStr, .string noStr, .string noStr, .slice none 0 0, .bool false]) 5 80 := ⟨hHsM, hostInfo, rfl, by decide, by decide⟩
theorem flat_setK {α : Type} {f : α → List Value} {k : Nat} (hf : ∀ a, (f a).length = k) {a' : α} {j : Nat} {u : Value} (hj : j < k) : ∀ (l : List α) (i : Nat) (a : α), l[i]? = some a → f a' = (f a).set j u → (l.flatMap f).set (i * k + j) u = (l.set i a').flatMap f
  | [], _, _, h, _ => by simp at h
  | b :: l, 0, a, h, e => by
    simp only [List.getElem?_cons_zero, Option.some.injEq] at h
    subst h
    rw [List.set_cons_zero, List.flatMap_cons, List.flatMap_cons, e, Nat.zero_mul, Nat.zero_add, List.set_append_left _ _ (by rw [hf]; exact hj)]
  | b :: l, i + 1, a, h, e => by
    simp only [List.getElem?_cons_succ] at h
    have ih := flat_setK hf hj l i a h e
    rw [List.set_cons_succ, List.flatMap_cons, List.flatMap_cons, ← ih, List.set_append_right _ _ (by rw [hf, Nat.succ_mul]; omega), hf]
    congr 2
    rw [Nat.succ_mul]
    omega
theorem ownH_at {w : World} {base : Nat} {v : Value} {L : List HV} {n i : Nat} {x : HV} (h : w.ownsRow base 94 5 v n (L.flatMap hvC)) (hi : L[i]? = some x) :
    ∃ g cap off, v = .slice (some ⟨g, 0, none⟩) n cap ∧ off = i * 5 ∧ base ≤ g ∧ (∃ cs, w.heap[g]? = some (.cells cs 94 (0, 0))) ∧ (∀ kd w', (Instr.indexAt 31 v (.int kd (i : Int))).run Tryz.prog w' = .ok (.pointer (some ⟨g, off, none⟩)) w') ∧
      w.cell? ⟨g, off, none⟩ = some (.string x.name) ∧ w.cell? ⟨g, off + 1, none⟩ = some (.string x.dc) ∧ w.cell? ⟨g, off + 2, none⟩ = some (.string x.rack) ∧ w.cell? ⟨g, off + 3, none⟩ = some (.slice x.ta x.tn x.tc) ∧ w.cell? ⟨g, off + 4, none⟩ = some (.bool x.up) := by
  have hs := Sl.of_own h
  have hlt : i < n := by
    have h1 := (List.getElem?_eq_some_iff.1 hi).1
    have h2 := h.1
    rw [hvC_len] at h2
    omega
  rcases h.2 with ⟨rfl, rfl⟩ | ⟨g, cap, cs, rfl, hb, hg, -⟩
  · omega
  refine ⟨g, cap, i * 5, rfl, rfl, hb, ⟨cs, hg⟩, fun kd w' => ?_, ?_, ?_, ?_, ?_, ?_⟩
  · have hi2 : (i : Int) < (n : Int) := by omega
    simp [Instr.indexAt, asIntOf, run_underlying hostsT.ht, hostsT.run_size, hlt, Addr.add_lit]
  · exact (h.cellAt (i * 5 + 0) (by omega)).trans ((flat_get (k := 5) (fun _ => rfl) L i 0 x hi (by decide)).trans rfl)
  · exact (h.cellAt (i * 5 + 1) (by omega)).trans ((flat_get (k := 5) (fun _ => rfl) L i 1 x hi (by decide)).trans rfl)
  · exact (h.cellAt (i * 5 + 2) (by omega)).trans ((flat_get (k := 5) (fun _ => rfl) L i 2 x hi (by decide)).trans rfl)
  · exact (h.cellAt (i * 5 + 3) (by omega)).trans ((flat_get (k := 5) (fun _ => rfl) L i 3 x hi (by decide)).trans rfl)
  · exact (h.cellAt (i * 5 + 4) (by omega)).trans ((flat_get (k := 5) (fun _ => rfl) L i 4 x hi (by decide)).trans rfl)

theorem SlK.of_ownB {w : World} {base : Nat} {e : TypeId} {sz n : Nat} {v : Value} {xs : List Value} (h : w.ownsRow base e sz v n xs) : SlK w (fun k e' => base ≤ k ∧ e' = e) sz v n xs := by
  obtain ⟨hl, h⟩ := h
  rcases h with ⟨rfl, rfl⟩ | ⟨g, cap, cur, rfl, hb, hh, hnc, hm, _, hx⟩
  · exact ⟨hl, none, 0, rfl, Nat.le_refl _, Nat.zero_le _, .inl ⟨rfl, rfl⟩⟩
  · refine ⟨hl, _, _, rfl, hnc, hm, .inr ⟨g, 0, cur, e, (0, 0), rfl, hh, ⟨hb, rfl⟩, fun j u hu => ?_⟩⟩
    rw [← hx] at hu
    have hj : j < n * sz := by
      have := (List.getElem?_eq_some_iff.1 hu).1
      simp at this; omega
    rw [List.getElem?_take_of_lt hj] at hu
    simpa using hu
/-- What stands behind i rounds of All: T, whose first i hosts have tokens of their own. -/
def AllR (w : World) (S : List HV) (v : Value) (i : Nat) (wr : World) : Prop :=
  ∃ T : List HV, T.map HV.abs = S.map HV.abs ∧ T.drop i = S.drop i ∧ wr.ownsRow w.heap.size 94 5 v T.length (T.flatMap hvC) ∧ (∀ x ∈ T.take i, wr.ownsRow w.heap.size 2 1 x.tv x.tn (x.toks.map (Value.int .i64))) ∧ Kept noBlock w wr

set_option maxRecDepth 100000 in
set_option maxHeartbeats 4000000 in
theorem hAll_at {w : World} {own : Nat → Prop} {g m : Nat} {dc : ByteArray} {rem : Int} {L : List (ByteArray × HV)} (hT : TabAt w own g m dc rem L) (hL : L.length ≤ 100000) (hk : ∀ p ∈ L, p.2.tn ≤ 1000000) :
    Calls Tryz.prog 21 #[.pointer (some ⟨g, 0, none⟩)] w fun e w' =>
      ∃ (v : Value) (T : List HV), e = .returned v ∧ (T.map HV.abs).Perm (L.map fun p => p.2.abs) ∧ T.Pairwise (fun a b => ¬ nlt b.name a.name) ∧ w'.ownsRow w.heap.size 94 5 v T.length (T.flatMap hvC) ∧
        (∀ x ∈ T, w'.ownsRow w.heap.size 2 1 x.tv x.tn (x.toks.map (Value.int .i64))) ∧ Kept noBlock w w' := by
  have c2 := hT.blk.cell 2
  simp only [List.getElem?_toArray, List.getElem?_cons_succ, List.getElem?_cons_zero] at c2
  have key := hSortedF_at (w := w.alloc (.cells #[.map (some m)] 133)) (Bm := w.heap.size) ((Boxed.new w 133 (.map (some m))).cell) (by simp) (hT.map.alloc _) hL
  have key2 : Calls Tryz.prog 44 #[.func (.func 70) #[] #[.pointer (some ⟨w.heap.size, 0, none⟩)], .func (.func 46) #[] #[]] (w.alloc (.cells #[.map (some m)] 133)) fun e w1 =>
      ∃ (A : Option Addr) (n c : Nat) (S : List HV), e = .returned (.slice A n c) ∧ (∀ ty w', (Builtin.len_ #[31] ty #[.slice A n c]).run Tryz.prog w' = .ok (.int .i64 n) w') ∧ Hid (n = S.length ∧ n ≤ 100000 ∧ S.Perm (L.map (·.2)) ∧ S.Pairwise (fun a b => ¬ nlt b.name a.name) ∧ w1.ownsRow w.heap.size 94 5 (.slice A n c) n (S.flatMap hvC) ∧ Kept noBlock w w1) := by
    refine key.mono ?_
    rintro e w1 ⟨v, S, rfl, hp, hs, ho, hk1⟩
    have ho1 : w1.ownsRow w.heap.size 94 5 v S.length (S.flatMap hvC) := own_base ho (by simp)
    obtain ⟨A, c, rfl, -, -⟩ := (Sl.of_own ho1).shape
    exact ⟨A, S.length, c, S, rfl, (Sl.of_own ho1).run_len hostsT, Lib.hid ⟨rfl, by have := hp.length_eq; rw [List.length_map] at this; omega, hp, hs, ho1, ((Kept.refl noBlock w).alloc _).trans hk1 fun _ _ e => e⟩⟩
  clear key
  have HT := Lib.hid hT
  have HKN := Lib.hid hk
  clear hT hk
  go_enter Tryz.func21, Tryz.ntmps21
  go_wp2_with (first | (go_at_call 45; refine (hVals_at _ _).mono ?_; rintro e w' ⟨rfl, rfl⟩) | (go_at_call 44; refine key2.mono ?_; rintro e w1 ⟨A, n, c, S, rfl, hlen, H⟩))
  clear key2
  obtain ⟨hn, hSl, hp, hs, ho1, hk0⟩ := H.out
  have HP := Lib.hid hp
  have HS := Lib.hid hs
  have H0 := Lib.hid hk0
  have HO := Lib.hid ho1
  have HN := Lib.hid hn
  have H1 : Hid (∀ x ∈ S, x.tn ≤ 1000000 ∧ SlK w (fun k e => (own k ∧ k ≠ g ∧ k ≠ m)) 1 x.tv x.tn (x.toks.map (Value.int .i64))) := Lib.hid (by
    intro x hx
    obtain ⟨p, hp1, rfl⟩ := List.mem_map.1 (hp.mem_iff.1 hx)
    exact ⟨HKN.out p hp1, HT.out.ot p hp1⟩)
  clear hp hs hk0 ho1 H hn
  go_loopg [16] n (fun j vi wr => ∃ i : Nat, i + j = n ∧ vi = .int .i64 i ∧ AllR w S (.slice A n c) i wr)
  case atStart => exact ⟨0, by omega, rfl, S, rfl, rfl, by rw [← HN.out]; exact HO.out, fun x hx => by simp at hx, H0.out⟩
  case round =>
    obtain ⟨i, hij, rfl, T, hTa, hTd, hTo, hTk, hTw⟩ := hrel
    by_cases hi : i < n
    · have hTn : T.length = n := by
        have := congrArg List.length hTa
        rw [List.length_map, List.length_map] at this
        rw [HN.out, this]
      obtain ⟨x, hx⟩ : ∃ x, T[i]? = some x := ⟨_, List.getElem?_eq_getElem (by omega)⟩
      have hTo' : wr.ownsRow w.heap.size 94 5 (.slice A n c) n (T.flatMap hvC) := by rw [hTn] at hTo; exact hTo
      obtain ⟨gr, cap, off, hv, hoff, hgr, ⟨cs, hcs⟩, hidx, y0, y1, y2, y3, y4⟩ := ownH_at hTo' hx
      cases hv
      have hxS : x ∈ S := by
        have h1 : (T.drop i)[0]? = some x := by rw [List.getElem?_drop]; exact hx
        rw [hTd] at h1
        exact List.mem_of_mem_drop (List.mem_of_getElem? h1)
      obtain ⟨x1, x2, x3, x4, x5, x6, x7, x8⟩ := x
      have hcl := KClone_at (w := wr.alloc (.cells #[.string x1, .string x2, .string x3, .slice x4 x5 x6, .bool x8] 94)) (((H1.out _ hxS).2.keptNone hTw).alloc _) (H1.out _ hxS).1
      simp only [HV.tv] at hcl
      have HX := Lib.hid hx
      have HTA := Lib.hid hTa
      have HTD := Lib.hid hTd
      have HTO := Lib.hid hTo'
      have HTK := Lib.hid hTk
      have HTW := Lib.hid hTw
      have HOF := Lib.hid hoff
      have HTN := Lib.hid hTn
      have HIJ := Lib.hid hij
      have HCS := Lib.hid hcs
      have HGR := Lib.hid hgr
      have hb : Blk (wr.alloc (.cells #[.string x1, .string x2, .string x3, .slice x4 x5 x6, .bool x8] 94)) wr.heap.size 94 #[.string x1, .string x2, .string x3, .slice x4 x5 x6, .bool x8] := Blk.new _ _ _
      have z3 := hb.cell 3
      simp only [List.getElem?_toArray, List.getElem?_cons_succ, List.getElem?_cons_zero] at z3 y0 y1 y2 y3 y4
      have key3 : Calls Tryz.prog 48 #[.slice x4 x5 x6] (wr.alloc (.cells #[.string x1, .string x2, .string x3, .slice x4 x5 x6, .bool x8] 94)) fun e w3 =>
          ∃ (A' : Option Addr) (n' c' : Nat), e = .returned (.slice A' n' c') ∧ w3.frozen? ⟨gr, off + 3, none⟩ = false ∧ w3.cell? ⟨gr, off + 3, none⟩ = some (.slice x4 x5 x6) ∧ Hid (w3.ownsRow w.heap.size 2 1 (.slice A' n' c') n' (x7.map eI) ∧ w3.ownsRow w.heap.size 94 5 (.slice (some ⟨gr, 0, none⟩) n c) n (T.flatMap hvC) ∧ Kept noBlock wr w3 ∧ n' = x5) := by
        refine hcl.mono ?_
        rintro e w3 ⟨v', rfl, ho3, hk3⟩
        obtain ⟨A', c', rfl, -, -⟩ := (Sl.of_own ho3).shape
        have hk4 : Kept noBlock wr w3 := ((Kept.refl noBlock wr).alloc _).trans hk3 fun _ _ e => e
        have hoT := own_keptB HTO.out hk4 (fun _ _ e => e)
        have hlt : i * 5 + 3 < n * 5 := by omega
        refine ⟨A', x5, c', rfl, hoT.frozenAt _, ?_, Lib.hid ⟨own_base ho3 (by have := hTw.size; simp; omega), hoT, hk4, rfl⟩⟩
        rw [HOF.out, hoT.cellAt _ hlt]
        exact (flat_get (k := 5) (fun _ => rfl) T i 3 _ hx (by decide)).trans rfl
      clear hcl hx hTa hTd hTo hTo' hTk hTw hoff hTn hij hcs hgr hb
      go_wp2_with fail
      refine key3.mono ?_
      rintro e w3 ⟨A', n', c', rfl, hf3, hc3, H3⟩
      clear key3
      go_wp2
      go_roundg (n - (i + 1))
      case measure => have := HIJ.out; omega
      case rel =>
        obtain ⟨h31, h32, h33, rfl⟩ := H3.out
        obtain ⟨s1, s2⟩ := h32.stored (off + 3) (.slice A' n' c')
        rw [HOF.out, flat_setK (k := 5) (f := hvC) (a' := ⟨x1, x2, x3, A', n', c', x7, x8⟩) (fun _ => rfl) (by decide) T i _ HX.out rfl] at s1
        rw [HOF.out] at s2 ⊢
        have hTl := HTN.out
        have hkw : Kept noBlock w (w3.setCell ⟨gr, i * 5 + 3, none⟩ (.slice A' n' c')) := (HTW.out.trans h33 fun _ _ e => e).grown s2 fun k e hlt => by
          cases e
          exact absurd HGR.out (Nat.not_le.2 hlt)
        have hkeep : ∀ {v' : Value} {m' : Nat} {ys : List Value}, w3.ownsRow w.heap.size 2 1 v' m' ys → (w3.setCell ⟨gr, i * 5 + 3, none⟩ (.slice A' n' c')).ownsRow w.heap.size 2 1 v' m' ys := fun h => by
          have hcs := HCS.out
          have hcs3 := (h33.block gr (lt_of_heap hcs) (fun e => e)).trans hcs
          refine own_kept h (Kept.of_grown (S := fun k => k = gr) s2 fun k e _ => by cases e; rfl) fun k cs' e _ hk => ?_
          subst e
          rw [hcs3] at hk
          injection hk with hk
          injection hk with _ h2
          exact absurd h2 (by decide)
        refine ⟨i + 1, by have := HIJ.out; omega, by go_num, T.set i ⟨x1, x2, x3, A', n', c', x7, x8⟩, ?_, ?_, ?_, ?_, hkw⟩
        · rw [← HTA.out, List.map_set]
          refine List.ext_getElem? fun j => ?_
          rw [List.getElem?_set]
          by_cases hj : i = j
          · subst hj
            rw [if_pos rfl, List.getElem?_map, HX.out]
            simp [HV.abs]
            omega
          · rw [if_neg hj]
        · rw [List.drop_set_of_lt (by omega)]
          have h1 := congrArg (List.drop 1) HTD.out
          rwa [List.drop_drop, List.drop_drop] at h1
        · rw [List.length_set, hTl]
          exact s1
        · intro y hy
          have e1 : (T.take i).length = i := by rw [List.length_take]; omega
          rw [List.take_set, List.take_add_one, HX.out, List.set_append_right _ _ (by omega), e1, Nat.sub_self] at hy
          rcases List.mem_append.1 hy with h1 | h1
          · exact hkeep (own_keptB (HTK.out y h1) h33 (fun _ _ e => e))
          · simp only [Option.toList, List.set_cons_zero, List.mem_singleton] at h1
            subst h1
            exact hkeep h31
    · obtain rfl : i = n := by omega
      have FIN := Lib.hid (⟨hTa, hTo, hTk, hTw⟩ : _ ∧ _ ∧ _ ∧ _)
      clear hTa hTd hTo hTk hTw
      go_wp2
      go_ret
      obtain ⟨hTa, hTo, hTk, hTw⟩ := FIN.out
      have hTl : T.length = i := by
        have := congrArg List.length hTa
        rw [List.length_map, List.length_map] at this
        rw [HN.out, this]
      refine ⟨_, T, rfl, ?_, ?_, hTo, ?_, hTw⟩
      · rw [hTa]
        have h1 := HP.out.map HV.abs
        rwa [List.map_map] at h1
      · have h1 : (S.map HV.abs).Pairwise (fun a b => ¬ nlt b.name a.name) := List.pairwise_map.2 HS.out
        rw [← hTa] at h1
        exact List.pairwise_map.1 h1
      · rwa [List.take_of_length_le (by omega)] at hTk
end Go.Proofs.YtdcdefkloibfnaaGreatDoor
namespace Go.Proofs.YtdcdefkloibfnaaGreatDoor
set_option linter.unusedVariables false
open Go.RowKit

theorem be4_lt {l : List UInt8} : beN (l.take 4) < 4294967296 := by
  refine Nat.lt_of_lt_of_le (beN_lt _) ?_
  exact Nat.le_trans (Nat.pow_le_pow_right (by decide) (show (l.take 4).length ≤ 4 by rw [List.length_take]; omega)) (by decide)
set_option maxHeartbeats 1000000 in
set_option maxRecDepth 100000 in
theorem pNumber_short {w : World} {ok : Nat → TypeId → Prop} {v : Value} {n : Nat} {l : List UInt8} (h : SlK w ok 1 v n (bsC l)) (hs : n < 4) :
    Calls Tryz.prog 75 #[v] w fun e w' => e = .returned (.tuple #[.int .i64 0, .slice none 0 0, .int .i64 10]) ∧ w' = w := by
  have HG := Lib.hid (oGet_short h 4 (by omega) (by omega) hs)
  have HS := Lib.hid (fun w => oSigned_at 0 (by omega) w)
  clear h
  go_enter Tryz.func75, Tryz.ntmps75
  go_wp2_with fail
  go_at_call 54
  refine HG.out.mono ?_
  rintro e w2 ⟨rfl, rfl⟩
  go_wp2_with fail
  go_at_call 55
  refine (HS.out _).mono ?_
  rintro e w3 ⟨rfl, rfl⟩
  go_wp2
  go_ret3
  exact ⟨rfl, rfl⟩
set_option maxHeartbeats 1000000 in
set_option maxRecDepth 100000 in
theorem pNumber_at {w : World} {ok : Nat → TypeId → Prop} {v : Value} {n : Nat} {l : List UInt8} (h : SlK w ok 1 v n (bsC l)) (hs : 4 ≤ n) :
    Calls Tryz.prog 75 #[v] w fun e w' => ∃ A c, e = .returned (.tuple #[.int .i64 (s32 (beN (l.take 4))), .slice A (n - 4) c, .int .i64 0]) ∧ SlK w ok 1 (.slice A (n - 4) c) (n - 4) (bsC (l.drop 4)) ∧ Grew w w' := by
  have HG := Lib.hid (oGet_at h 4 (by omega) (by omega) hs)
  have HS := Lib.hid (fun w => oSigned_at (beN (l.take 4)) be4_lt w)
  clear h
  go_enter Tryz.func75, Tryz.ntmps75
  go_wp2_with fail
  go_at_call 54
  refine HG.out.mono ?_
  rintro e w2 ⟨A, c, rfl, hs1, hg⟩
  go_wp2_with fail
  go_at_call 55
  refine (HS.out _).mono ?_
  rintro e w3 ⟨rfl, rfl⟩
  go_wp2
  go_ret3
  exact ⟨_, _, rfl, hs1, hg⟩
set_option maxHeartbeats 1000000 in
set_option maxRecDepth 100000 in
theorem pCounted_short {w : World} {ok : Nat → TypeId → Prop} {v : Value} {n : Nat} {l : List UInt8} (h : SlK w ok 1 v n (bsC l)) (k : Nat) (hn : n ≤ 1000000) (hs : n < k) :
    Calls Tryz.prog 76 #[.int .u64 (k : Int), v] w fun e w' => e = .returned (.tuple #[.string noStr, .slice none 0 0, .int .i64 10]) ∧ w' = w := by
  have HG := Lib.hid (oTake_short h k hn hs)
  have hq : (convert 23 9 (.slice none 0 0)).run Tryz.prog w = .ok (.string (bS [])) w := bytes_str (SlK.nil w (fun _ _ => True) 1)
  clear h
  go_enter Tryz.func76, Tryz.ntmps76
  go_wp2_with fail
  go_at_call 94
  refine HG.out.mono ?_
  rintro e w2 ⟨rfl, rfl⟩
  go_wp2
  go_ret3
  exact ⟨rfl, rfl⟩
set_option maxHeartbeats 1000000 in
set_option maxRecDepth 100000 in
theorem pCounted_at {w : World} {ok : Nat → TypeId → Prop} {v : Value} {n : Nat} {l : List UInt8} (h : SlK w ok 1 v n (bsC l)) (k : Nat) (hn : n ≤ 1000000) (hs : k ≤ n) :
    Calls Tryz.prog 76 #[.int .u64 (k : Int), v] w fun e w' => ∃ A c, e = .returned (.tuple #[.string (bS (l.take k)), .slice A (n - k) c, .int .i64 0]) ∧ SlK w' ok 1 (.slice A (n - k) c) (n - k) (bsC (l.drop k)) ∧ Kept noBlock w w' := by
  have HG := Lib.hid (oTake_at h k hn hs)
  clear h
  go_enter Tryz.func76, Tryz.ntmps76
  go_wp2_with fail
  go_at_call 94
  refine HG.out.mono ?_
  rintro e w2 ⟨v1, A, c, rfl, ho, hsf, hk⟩
  have hq := bytes_str (SlK.of_ownB ho)
  go_wp2
  go_ret3
  exact ⟨_, _, rfl, hsf, hk⟩
set_option maxHeartbeats 1000000 in
set_option maxRecDepth 100000 in
theorem pGetLong_bad {w : World} {ok : Nat → TypeId → Prop} {v : Value} {n : Nat} {l : List UInt8} (h : SlK w ok 1 v n (bsC l)) (hn : n ≤ 1000000) (hb : getLongP l = none) :
    Calls Tryz.prog 56 #[v] w fun e w' => e = .returned (.tuple #[.string noStr, .slice none 0 0, .int .i64 (getLongC l)]) ∧ getLongC l ≠ 0 ∧ Kept noBlock w w' := by
  have hln : l.length = n := by have := h.len; rw [bsC_len] at this; omega
  by_cases hs : n < 4
  · have hc : getLongC l = 10 := by unfold getLongC; rw [if_pos (by omega)]
    have HG := Lib.hid (pNumber_short h hs)
    clear h
    go_enter Tryz.func56, Tryz.ntmps56
    go_wp2_with fail
    go_at_call 75
    refine HG.out.mono ?_
    rintro e w2 ⟨rfl, rfl⟩
    go_wp2
    go_ret3
    rw [hc]
    exact ⟨rfl, by decide, Kept.refl _ _⟩
  · have HG := Lib.hid (pNumber_at h (by omega))
    by_cases hneg : s32 (beN (l.take 4)) < 0
    · have hc : getLongC l = 11 := by unfold getLongC; rw [if_neg (by omega), if_pos hneg]
      clear h
      go_enter Tryz.func56, Tryz.ntmps56
      go_wp2_with fail
      go_at_call 75
      refine HG.out.mono ?_
      rintro e w2 ⟨A, c, rfl, hs1, hg⟩
      go_wp2
      go_ret3
      rw [hc]
      exact ⟨rfl, by decide, hg.kept⟩
    · have hlt : (l.drop 4).length < beN (l.take 4) := by
        unfold getLongP at hb
        rw [if_neg (by omega), if_neg hneg] at hb
        by_cases hx : (l.drop 4).length < beN (l.take 4)
        · exact hx
        · rw [if_neg hx] at hb; cases hb
      have hc : getLongC l = 10 := by unfold getLongC; rw [if_neg (by omega), if_neg hneg, if_pos hlt]
      have hcv : IntKind.u64.wrap (s32 (beN (l.take 4))) = ((beN (l.take 4) : Nat) : Int) := by
        have := be4_lt (l := l)
        rw [IntKind.wrap_u64]
        unfold s32 at hneg ⊢
        split at hneg
        · rw [if_pos (by assumption)]; omega
        · omega
      have hl4 : n - 4 < beN (l.take 4) := by rw [List.length_drop] at hlt; omega
      clear h hlt
      go_enter Tryz.func56, Tryz.ntmps56
      go_wp2_with fail
      go_at_call 75
      refine HG.out.mono ?_
      rintro e w2 ⟨A, c, rfl, hs1, hg⟩
      have HC := Lib.hid (pCounted_short (SlK.keptNone hs1 hg.kept) (beN (l.take 4)) (by omega) hl4)
      go_wp2_with fail
      go_at_call 76
      refine HC.out.mono ?_
      rintro e w3 ⟨rfl, rfl⟩
      go_wp2
      go_ret3
      rw [hc]
      exact ⟨rfl, by decide, hg.kept⟩
set_option maxHeartbeats 1000000 in
set_option maxRecDepth 100000 in
theorem pGetLong_at {w : World} {ok : Nat → TypeId → Prop} {v : Value} {n : Nat} {l : List UInt8} (h : SlK w ok 1 v n (bsC l)) (hn : n ≤ 1000000) {a r : List UInt8} (hb : getLongP l = some (a, r)) :
    Calls Tryz.prog 56 #[v] w fun e w' => ∃ A c, e = .returned (.tuple #[.string (bS a), .slice A r.length c, .int .i64 0]) ∧ SlK w' ok 1 (.slice A r.length c) r.length (bsC r) ∧ Kept noBlock w w' := by
  have hln : l.length = n := by have := h.len; rw [bsC_len] at this; omega
  unfold getLongP at hb
  by_cases hs : l.length < 4
  · rw [if_pos hs] at hb; cases hb
  rw [if_neg hs] at hb
  by_cases hneg : s32 (beN (l.take 4)) < 0
  · rw [if_pos hneg] at hb; cases hb
  rw [if_neg hneg] at hb
  by_cases hlt : (l.drop 4).length < beN (l.take 4)
  · rw [if_pos hlt] at hb; cases hb
  rw [if_neg hlt] at hb
  injection hb with hb
  injection hb with ha hr
  subst ha hr
  have HG := Lib.hid (pNumber_at h (by omega))
  have hcv : IntKind.u64.wrap (s32 (beN (l.take 4))) = ((beN (l.take 4) : Nat) : Int) := by
    have := be4_lt (l := l)
    rw [IntKind.wrap_u64]
    unfold s32 at hneg ⊢
    split at hneg
    · rw [if_pos (by assumption)]; omega
    · omega
  rw [List.length_drop] at hlt
  have hrl : n - 4 - beN (l.take 4) = ((l.drop 4).drop (beN (l.take 4))).length := by rw [List.length_drop, List.length_drop]; omega
  clear h
  generalize ((l.drop 4).drop (beN (l.take 4))).length = m at *
  have HRL := Lib.hid hrl
  clear hrl
  go_enter Tryz.func56, Tryz.ntmps56
  go_wp2_with fail
  go_at_call 75
  refine HG.out.mono ?_
  rintro e w2 ⟨A, c, rfl, hs1, hg⟩
  have HC := Lib.hid (pCounted_at (SlK.keptNone hs1 hg.kept) (beN (l.take 4)) (by omega) (by omega))
  rw [HRL.out] at HC
  go_wp2_with fail
  go_at_call 76
  refine HC.out.mono ?_
  rintro e w3 ⟨A3, c3, rfl, hs3, hk⟩
  go_wp2
  go_ret3
  exact ⟨_, _, rfl, hs3, hg.kept.trans hk fun _ _ h => h⟩
end Go.Proofs.YtdcdefkloibfnaaGreatDoor
namespace Go.Proofs.YtdcdefkloibfnaaGreatDoor
set_option linter.unusedVariables false
open Go.RowKit

theorem colsT : SlT Tryz.prog 22 90 (.agg #[.string noStr, .string noStr, .string noStr, .int .u16 0, .string noStr, .string noStr, .slice none 0 0, .slice none 0 0]) 8 136 := ⟨Tryz.underlying22, by kernel_rfl, rfl, by decide, by decide⟩
theorem rowsT : SlT Tryz.prog 26 91 (.slice none 0 0) 1 24 := ⟨Tryz.underlying26, by kernel_rfl, rfl, by decide, by decide⟩
theorem valsT : SlT Tryz.prog 91 25 (.agg #[.int .i64 0, .slice none 0 0]) 2 32 := ⟨Tryz.underlying91, by kernel_rfl, rfl, by decide, by decide⟩
theorem col_at {w : World} {ok : Nat → TypeId → Prop} {v : Value} {L : List CV} {n : Nat} (h : SlK w ok 8 v n (L.flatMap cvC)) {i : Nat} {x : CV} (hi : L[i]? = some x) :
    ∃ g off, (∀ kd w', (Instr.indexAt 22 v (.int kd (i : Int))).run Tryz.prog w' = .ok (.pointer (some ⟨g, off, none⟩)) w') ∧ g < w.heap.size ∧
      w.cell? ⟨g, off, none⟩ = some (.string x.space) ∧ w.cell? ⟨g, off + 1, none⟩ = some (.string x.table) ∧ w.cell? ⟨g, off + 2, none⟩ = some (.string x.name) ∧ w.cell? ⟨g, off + 3, none⟩ = some (.int .u16 x.id) ∧
      w.cell? ⟨g, off + 4, none⟩ = some (.string x.osp) ∧ w.cell? ⟨g, off + 5, none⟩ = some (.string x.onm) ∧ w.cell? ⟨g, off + 6, none⟩ = some (.slice x.na x.nn x.nc) ∧ w.cell? ⟨g, off + 7, none⟩ = some (.slice x.ka x.kn x.kc) := by
  have hlt : i < n := by
    have h1 := (List.getElem?_eq_some_iff.1 hi).1
    have h2 := h.len
    rw [flat_len (k := 8) (fun _ => rfl) L] at h2
    omega
  obtain ⟨g, off, h1, h2, h4, h3⟩ := h.run_index colsT (i := (i : Int)) (k := i) rfl hlt
  have key : ∀ j (hj : j < 8) (u : Value), (cvC x)[j]? = some u → w.cell? ⟨g, off + j, none⟩ = some u := fun j hj u hu => h3 j u (by rw [flat_get (k := 8) (fun _ => rfl) L i j x hi hj]; exact hu)
  exact ⟨g, off, h1, h2, key 0 (by decide) _ rfl, key 1 (by decide) _ rfl, key 2 (by decide) _ rfl, key 3 (by decide) _ rfl, key 4 (by decide) _ rfl, key 5 (by decide) _ rfl, key 6 (by decide) _ rfl, key 7 (by decide) _ rfl⟩
theorem row_at {w : World} {ok : Nat → TypeId → Prop} {v : Value} {L : List RV} {n : Nat} (h : SlK w ok 1 v n (L.map fun r => .slice r.a r.n r.c)) {i : Nat} {x : RV} (hi : L[i]? = some x) :
    ∃ g off, (∀ kd w', (Instr.indexAt 26 v (.int kd (i : Int))).run Tryz.prog w' = .ok (.pointer (some ⟨g, off, none⟩)) w') ∧ g < w.heap.size ∧ w.cell? ⟨g, off, none⟩ = some (.slice x.a x.n x.c) := by
  have hlt : i < n := by
    have h1 := (List.getElem?_eq_some_iff.1 hi).1
    have h2 := h.len
    rw [List.length_map] at h2
    omega
  obtain ⟨g, off, h1, h2, h4, h3⟩ := h.run_index rowsT (i := (i : Int)) (k := i) rfl hlt
  exact ⟨g, off, h1, h2, h3 0 _ (by rw [Nat.mul_one, Nat.add_zero, List.getElem?_map, hi]; rfl)⟩
theorem val_at {w : World} {ok : Nat → TypeId → Prop} {v : Value} {L : List VV} {n : Nat} (h : SlK w ok 2 v n (L.flatMap vvC)) {i : Nat} {x : VV} (hi : L[i]? = some x) :
    ∃ g off, (∀ kd w', (Instr.indexAt 91 v (.int kd (i : Int))).run Tryz.prog w' = .ok (.pointer (some ⟨g, off, none⟩)) w') ∧ g < w.heap.size ∧ w.cell? ⟨g, off, none⟩ = some (.int .i64 x.kind) ∧ w.cell? ⟨g, off + 1, none⟩ = some (.slice x.a x.n x.c) := by
  have hlt : i < n := by
    have h1 := (List.getElem?_eq_some_iff.1 hi).1
    have h2 := h.len
    rw [flat_len (k := 2) (fun _ => rfl) L] at h2
    omega
  obtain ⟨g, off, h1, h2, h4, h3⟩ := h.run_index valsT (i := (i : Int)) (k := i) rfl hlt
  have key : ∀ j (hj : j < 2) (u : Value), (vvC x)[j]? = some u → w.cell? ⟨g, off + j, none⟩ = some u := fun j hj u hu => h3 j u (by rw [flat_get (k := 2) (fun _ => rfl) L i j x hi hj]; exact hu)
  exact ⟨g, off, h1, h2, key 0 (by decide) _ rfl, key 1 (by decide) _ rfl⟩

set_option maxHeartbeats 1000000 in
set_option maxRecDepth 100000 in
theorem cell1_at (x : CV) {w : World} {gp : Nat} {name : ByteArray} (hp : gp < w.heap.size) (hc : w.cell? ⟨gp, 0, none⟩ = some (.string name)) :
    Calls Tryz.prog 53 #[.agg (cvC x).toArray, .pointer (some ⟨gp, 0, none⟩)] w fun e w' => e = .returned (.bool (decide (x.name = name))) ∧ Grew w w' := by
  have hq : (x.name.toList == name.toList) = decide (x.name = name) := by
    by_cases e : x.name = name
    · rw [e, decide_eq_true rfl, strEq_self]
    · rw [decide_eq_false e, strEq_ne e]
  obtain ⟨x1, x2, x3, x4, x5, x6, a1, n1, c1, a2, n2, c2⟩ := x
  generalize hd : decide (x3 = name) = d at *
  have hs : ((w.alloc (.cells (cvC ⟨x1, x2, x3, x4, x5, x6, a1, n1, c1, a2, n2, c2⟩).toArray 90))).cell? ⟨gp, 0, none⟩ = some (.string name) := by
    rw [← hc]; exact (Kept.refl noBlock w).alloc _ |>.cell (p := ⟨gp, 0, none⟩) hp id
  unfold cvC at hs ⊢
  simp only [] at hs ⊢
  go_enter Tryz.func53, Tryz.ntmps53
  go_wp2
  go_ret
  exact ⟨by rw [← hq]; rfl, (Grew.refl _).alloc _⟩

set_option maxHeartbeats 1000000 in
set_option maxRecDepth 100000 in
theorem CIdx_at {w : World} {ok : Nat → TypeId → Prop} {v : Value} {L : List CV} {n : Nat} (h : SlK w ok 8 v n (L.flatMap cvC)) (hn : n ≤ 1000000) {gp : Nat} {name : ByteArray} (hp : gp < w.heap.size) (hc : w.cell? ⟨gp, 0, none⟩ = some (.string name)) :
    Calls Tryz.prog 52 #[v, .func (.func 53) #[] #[.pointer (some ⟨gp, 0, none⟩)]] w fun e w' => ∃ i : Int, e = .returned (.int .i64 i) ∧
      ((i = -1 ∧ L.findIdx (fun c => decide (c.name = name)) = L.length) ∨ (i = (L.findIdx (fun c => decide (c.name = name)) : Nat) ∧ L.findIdx (fun c => decide (c.name = name)) < L.length)) ∧ Grew w w' := by
  have hln : L.length = n := by have := h.len; rw [flat_len (k := 8) (fun _ => rfl) L] at this; omega
  obtain ⟨A, c, rfl, -, -⟩ := h.shape
  have hlen := h.run_len colsT
  have H := Lib.hid h
  have HC := Lib.hid hc
  have eg : ∀ args w, (callFunc 53 args).run Tryz.prog w = .ok (.enter 53 args) w := enters_of Tryz.func53 (by kernel_rfl) rfl
  clear h hc
  go_enter Tryz.func52, Tryz.ntmps52
  go_wp2_with fail
  go_loopg [8] n (fun j vi wr => ∃ k : Nat, k + j = n ∧ vi = .int .i64 k ∧ (∀ i x, L[i]? = some x → i < k → x.name ≠ name) ∧ Grew w wr)
  case atStart => exact ⟨0, by omega, rfl, fun _ _ _ h => by omega, Grew.refl _⟩
  case round =>
    obtain ⟨k, hkl, rfl, hno, hg⟩ := hrel
    have HKL := Lib.hid hkl
    have HNO := Lib.hid hno
    have HG := Lib.hid hg
    by_cases hlt : k < n
    · obtain ⟨x, hx⟩ : ∃ x, L[k]? = some x := ⟨_, List.getElem?_eq_getElem (by omega)⟩
      obtain ⟨g, off, hidx, hgl, c0, c1, c2, c3, c4, c5, c6, c7⟩ := col_at (SlK.keptNone H.out hg.kept) hx
      have hcp : wr.cell? ⟨gp, 0, none⟩ = some (.string name) := by rw [← HC.out]; exact hg.kept.cell (p := ⟨gp, 0, none⟩) hp id
      have HCALL := Lib.hid (cell1_at x (Nat.lt_of_lt_of_le hp hg.kept.size) hcp)
      have HX := Lib.hid hx
      clear hkl hno hg hx hcp
      obtain ⟨x1, x2, x3, x4, x5, x6, x7, x8, x9, y1, y2, y3⟩ := x
      unfold cvC at HCALL
      simp only [] at HCALL c0 c1 c2 c3 c4 c5 c6 c7
      go_wp2_with fail
      go_at_fn 53
      refine HCALL.out.mono ?_
      rintro e w4 ⟨rfl, hg4⟩
      by_cases hx3 : x3 = name
      · rw [decide_eq_true hx3]
        go_wp2
        go_ret
        have hf : L.findIdx (fun c => decide (c.name = name)) = k := by
          rw [List.findIdx_eq (by have := (List.getElem?_eq_some_iff.1 HX.out).1; exact this)]
          refine ⟨?_, fun j hj => ?_⟩
          · have := (List.getElem?_eq_some_iff.1 HX.out).2
            rw [this]
            exact decide_eq_true hx3
          · exact decide_eq_false (HNO.out j _ (List.getElem?_eq_getElem _) hj)
        exact ⟨_, rfl, .inr ⟨by rw [hf], by rw [hf]; omega⟩, HG.out.trans hg4⟩
      · rw [decide_eq_false hx3]
        go_wp2
        go_roundg (n - (k + 1))
        case measure => have := HKL.out; omega
        case rel =>
          refine ⟨k + 1, by have := HKL.out; omega, by go_num, fun i x hi hik => ?_, HG.out.trans hg4⟩
          by_cases he : i = k
          · subst he
            rw [HX.out] at hi
            cases hi
            exact hx3
          · exact HNO.out i x hi (by omega)
    · obtain rfl : k = n := by omega
      clear hkl hno hg
      go_wp2
      go_ret
      have hf : L.findIdx (fun c => decide (c.name = name)) = L.length := by
        refine List.findIdx_eq_length.2 fun x hx => ?_
        obtain ⟨i, hi⟩ := List.getElem?_of_mem hx
        exact decide_eq_false (HNO.out i x hi (by have := (List.getElem?_eq_some_iff.1 hi).1; omega))
      exact ⟨_, rfl, .inl ⟨rfl, hf⟩, HG.out⟩
end Go.Proofs.YtdcdefkloibfnaaGreatDoor
namespace Go.Proofs.YtdcdefkloibfnaaGreatDoor
set_option linter.unusedVariables false
open Go.RowKit

theorem cellP_none {cols : List ByteArray} {row : List Vl} {name : ByteArray} (h : cols.findIdx (fun c => decide (c = name)) = cols.length) : cellP cols row name = (0, []) := by
  unfold cellP; rw [if_neg (by omega)]
theorem cellP_short {cols : List ByteArray} {row : List Vl} {name : ByteArray} (h : row.length ≤ cols.findIdx (fun c => decide (c = name))) : cellP cols row name = (0, []) := by
  unfold cellP
  split
  · rw [List.getElem?_eq_none h]; rfl
  · rfl
theorem cellP_some {cols : List ByteArray} {row : List Vl} {name : ByteArray} {v : Vl} (h : cols.findIdx (fun c => decide (c = name)) < cols.length) (hv : row[cols.findIdx (fun c => decide (c = name))]? = some v) : cellP cols row name = v := by
  unfold cellP; rw [if_pos h, hv]; rfl
theorem names_idx (cols : List CV) (name : ByteArray) : (cols.map (·.name)).findIdx (fun c => decide (c = name)) = cols.findIdx (fun c => decide (c.name = name)) := by
  induction cols with
  | nil => rfl
  | cons c cols ih => rw [List.map_cons, List.findIdx_cons, List.findIdx_cons, ih]
def noV : VV := ⟨0, none, 0, 0, []⟩
theorem noV_at (w : World) (B : Nat) : VVAt w B noV := ⟨rfl, SlK.nil _ _ _⟩

theorem rwCell_ret {W : World} {T : Array Value} {M : Nat} {u v : Value} {b : Bool} {R : Ending → World → Prop} (h6 : T.getD 6 undef = .pointer (some ⟨M, 0, none⟩)) (h7 : T.getD 7 undef = .bool b) (d0 : W.cell? ⟨M, 0, none⟩ = some u) (d1 : W.cell? ⟨M, 1, none⟩ = some v)
    (hR : R (.returned (.tuple #[.agg #[u, v], .bool b])) W) : bodyPost Tryz.prog Tryz.f29 R .ret { tmps := T, defers := [] } W := by
  have h6' : T[6]?.getD undef = .pointer (some ⟨M, 0, none⟩) := by simpa using h6
  have h7' : T[7]?.getD undef = .bool b := by simpa using h7
  exact bodyPost_ret (v := .tuple #[.agg #[u, v], .bool b]) (by simp [results, Tryz.results29, go_sem, h6', h7', d0, d1]) rfl hR
set_option maxHeartbeats 2000000 in
set_option maxRecDepth 100000 in
theorem rwCell_at {w : World} {B : Nat} {t : TV2} (h : TblAt w B t) (hcn : t.cn ≤ 1000000) (hrn : t.rn ≤ 1000000) {k : Nat} {r : RV} (hr : t.rows[k]? = some r) (hrl : r.n ≤ 1000000) (name : ByteArray) :
    Calls Tryz.prog 29 #[t.v, .int .i64 k, .string name] w fun e w' => ∃ x b, e = .returned (.tuple #[.agg #[.int .i64 x.kind, .slice x.a x.n x.c], .bool b]) ∧ VVAt w B x ∧ x.abs = cellP t.names r.abs name ∧ Kept noBlock w w' := by
  obtain ⟨cnt, ca, cn, cc, more, sk, sa, sn, sc, ra, rn, rc, cols, rows⟩ := t
  have HT := Lib.hid h
  have hrin := h.rr r (List.mem_of_getElem? hr)
  obtain ⟨hrvl, hrs, hrv⟩ := hrin
  have hkl : k < rn := by
    have h1 := (List.getElem?_eq_some_iff.1 hr).1
    have h2 := h.rl
    simp only at h2 h1
    omega
  simp only at hr hcn hrn
  have HR := Lib.hid hr
  have HRS := Lib.hid hrs
  have HRV := Lib.hid hrv
  have HRL := Lib.hid hrvl
  have b1 : Blk (((w.alloc (.cells #[.int .i64 cnt, .slice ca cn cc, .bool more, .int .i64 sk, .slice sa sn sc, .slice ra rn rc] 28)).alloc (.cells #[.string name] 9)).alloc (.cells #[.int .i64 0, .slice none 0 0] 25)) w.heap.size 28 #[.int .i64 cnt, .slice ca cn cc, .bool more, .int .i64 sk, .slice sa sn sc, .slice ra rn rc] := ((Blk.new w 28 _).alloc _).alloc _
  have b2 : (((w.alloc (.cells #[.int .i64 cnt, .slice ca cn cc, .bool more, .int .i64 sk, .slice sa sn sc, .slice ra rn rc] 28)).alloc (.cells #[.string name] 9)).alloc (.cells #[.int .i64 0, .slice none 0 0] 25)).cell? ⟨w.heap.size + 1, 0, none⟩ = some (.string name) := by
    have := ((Blk.new (w.alloc (.cells #[.int .i64 cnt, .slice ca cn cc, .bool more, .int .i64 sk, .slice sa sn sc, .slice ra rn rc] 28)) 9 #[.string name]).alloc (.cells #[.int .i64 0, .slice none 0 0] 25)).cell 0
    rw [sz_alloc] at this
    exact this
  have b3 : Blk (((w.alloc (.cells #[.int .i64 cnt, .slice ca cn cc, .bool more, .int .i64 sk, .slice sa sn sc, .slice ra rn rc] 28)).alloc (.cells #[.string name] 9)).alloc (.cells #[.int .i64 0, .slice none 0 0] 25)) (w.heap.size + 1 + 1) 25 #[.int .i64 0, .slice none 0 0] := Blk.new_at _ _ _ (by rw [sz_alloc, sz_alloc])
  have hk3 : Kept noBlock w (((w.alloc (.cells #[.int .i64 cnt, .slice ca cn cc, .bool more, .int .i64 sk, .slice sa sn sc, .slice ra rn rc] 28)).alloc (.cells #[.string name] 9)).alloc (.cells #[.int .i64 0, .slice none 0 0] 25)) := (((Kept.refl noBlock w).alloc _).alloc _).alloc _
  have HCALL := Lib.hid (CIdx_at (SlK.keptNone h.cs hk3) hcn (by rw [sz_alloc, sz_alloc, sz_alloc]; omega) b2)
  have B1 := Lib.hid b1
  have B3 := Lib.hid b3
  have HK3 := Lib.hid hk3
  have hrlen : rows.length = rn := h.rl
  have HRLEN := Lib.hid hrlen
  have hgen := h.rs
  have HGEN := Lib.hid hgen
  clear h hr hrs hrv hrvl b1 b2 b3 hk3 hrlen hgen
  unfold TV2.v
  simp only []
  go_enter Tryz.func29, Tryz.ntmps29
  go_wp2_with fail
  go_at_call 52
  refine HCALL.out.mono ?_
  rintro e w4 ⟨i, rfl, hi, hg⟩
  have hN : w.heap.size + 1 + 1 < w4.heap.size := by have := hg.kept.size; rw [sz_alloc, sz_alloc, sz_alloc] at this; omega
  have q1 := Blk.kept B1.out hg.kept id
  have q3 := Blk.kept B3.out hg.kept id
  have hk4 : Kept noBlock w w4 := HK3.out.trans hg.kept fun _ _ h => h
  have q15 := q1.cell 5
  have f0 := q3.frozen 0
  have f1 := q3.frozen 1
  have q30 := q3.cell 0
  have q31 := q3.cell 1
  simp only [List.getElem?_toArray, List.getElem?_cons_succ, List.getElem?_cons_zero] at q15 q30 q31
  obtain ⟨g, off, hidx, hgl, hc0⟩ := row_at (SlK.keptNone HGEN.out hk4) HR.out
  have hlr := (SlK.keptNone HGEN.out hk4).run_len rowsT
  have hlv := (SlK.keptNone HRS.out hk4).run_len valsT
  generalize hN0 : w.heap.size = N at *
  have HK4 := Lib.hid hk4
  have H3 := Lib.hid q3
  have HW := Lib.hid (show ∀ u v : Value, Kept noBlock w ((w4.setCell ⟨N + 1 + 1, 0, none⟩ u).setCell ⟨N + 1 + 1, 1, none⟩ v) from fun u v => (hk4.setCell (fun hi => by have : N + 1 + 1 < w.heap.size := hi; omega) _).setCell (fun hi => by have : N + 1 + 1 < w.heap.size := hi; omega) _)
  clear hg q1 q3 hk4 HGEN HCALL B1 B3 HK3
  have fin : ∀ (x : VV) (T : Array Value) (b : Bool), T.getD 6 undef = .pointer (some ⟨N + 1 + 1, 0, none⟩) → T.getD 7 undef = .bool b → VVAt w B x → x.abs = cellP (cols.map (·.name)) r.abs name →
      bodyPost Tryz.prog Tryz.f29 (fun e w' => ∃ x b, e = .returned (.tuple #[.agg #[.int .i64 x.kind, .slice x.a x.n x.c], .bool b]) ∧ VVAt w B x ∧ x.abs = cellP (cols.map (·.name)) r.abs name ∧ Kept noBlock w w') .ret { tmps := T, defers := [] }
        ((w4.setCell ⟨N + 1 + 1, 0, none⟩ (.int .i64 x.kind)).setCell ⟨N + 1 + 1, 1, none⟩ (.slice x.a x.n x.c)) := fun x T b h6 h7 hx hxa => by
    have q := (H3.out.set_ 0 (.int .i64 x.kind)).set_ 1 (.slice x.a x.n x.c)
    have d0 := q.cell 0
    have d1 := q.cell 1
    simp at d0 d1
    exact rwCell_ret h6 h7 d0 d1 ⟨x, b, rfl, hx, hxa, HW.out _ _⟩
  rcases hi with ⟨rfl, hfi⟩ | ⟨rfl, hfi⟩
  · have HF := Lib.hid fin
    clear fin
    go_wp2
    exact HF.out noV _ false rfl rfl (noV_at _ _) (by rw [cellP_none (by rw [names_idx, hfi, List.length_map])]; rfl)
  · have HF := Lib.hid fin
    clear fin
    by_cases hrs : (cols.findIdx fun c => decide (c.name = name)) < r.n
    · obtain ⟨x, hx⟩ : ∃ x, r.vs[cols.findIdx fun c => decide (c.name = name)]? = some x := ⟨_, List.getElem?_eq_getElem (by rw [HRL.out]; exact hrs)⟩
      obtain ⟨g2, off2, hidx2, hgl2, hv0, hv1⟩ := val_at (SlK.keptNone HRS.out HK4.out) hx
      have hxa : x.abs = cellP (cols.map (·.name)) r.abs name := (cellP_some (by rw [names_idx, List.length_map]; exact hfi) (by rw [names_idx]; show (r.vs.map _)[_]? = _; rw [List.getElem?_map, hx]; rfl)).symm
      have HXA := Lib.hid hxa
      have HX := Lib.hid (HRV.out x (List.mem_of_getElem? hx))
      clear hxa hx
      generalize (cols.findIdx fun c => decide (c.name = name)) = i at *
      go_wp2
      exact HF.out x _ true rfl rfl HX.out HXA.out
    · have hxa : noV.abs = cellP (cols.map (·.name)) r.abs name := (cellP_short (by rw [names_idx]; show (r.vs.map _).length ≤ _; rw [List.length_map, HRL.out]; omega)).symm
      have HXA := Lib.hid hxa
      clear hxa
      generalize (cols.findIdx fun c => decide (c.name = name)) = i at *
      go_wp2
      exact HF.out noV _ false rfl rfl (noV_at _ _) HXA.out
end Go.Proofs.YtdcdefkloibfnaaGreatDoor
namespace Go.Proofs.YtdcdefkloibfnaaGreatDoor
set_option linter.unusedVariables false
open Go.RowKit

set_option maxHeartbeats 2000000 in
set_option maxRecDepth 100000 in
theorem cText_at {w : World} {B : Nat} {t : TV2} (h : TblAt w B t) (hcn : t.cn ≤ 1000000) (hrn : t.rn ≤ 1000000) {k : Nat} {r : RV} (hr : t.rows[k]? = some r) (hrl : r.n ≤ 1000000) (name : ByteArray) :
    Calls Tryz.prog 28 #[t.v, .int .i64 k, .string name] w fun e w' => e = .returned (.string (bS (textP (cellP t.names r.abs name)))) ∧ Kept noBlock w w' := by
  have HC := Lib.hid (fun (W : World) (hk : Kept noBlock w W) => rwCell_at (h.keptN hk) hcn hrn hr hrl name)
  clear h
  generalize cellP t.names r.abs name = v at *
  obtain ⟨cnt, ca, cn, cc, more, sk, sa, sn, sc, ra, rn, rc, cols, rows⟩ := t
  unfold TV2.v at HC ⊢
  simp only [] at HC ⊢
  clear hcn hrn hr
  go_enter Tryz.func28, Tryz.ntmps28
  go_wp2_with fail
  go_at_call 29
  refine (HC.out _ ((Kept.refl noBlock w).alloc _)).mono ?_
  rintro e w1 ⟨x, b, rfl, hx, rfl, hk⟩
  have hk1 : Kept noBlock w w1 := ((Kept.refl noBlock w).alloc _).trans hk fun _ _ h => h
  have HK0 := Lib.hid hk
  clear HC hk
  obtain ⟨hxl, hxs⟩ := hx
  have hq : ∀ W, Kept noBlock w1 W → (convert 23 9 (.slice x.a x.n x.c)).run Tryz.prog W = .ok (.string (bS x.l)) W := fun W hW => bytes_str (SlK.keptNone hxs (HK0.out.trans hW fun _ _ h => h))
  have HQ := Lib.hid hq
  have HK := Lib.hid hk1
  clear hk1 hxs hxl hq
  obtain ⟨xk, xa, xn, xc, xl⟩ := x
  have hkw : Kept noBlock w1 (w1.alloc (.cells #[.int .i64 xk, .slice xa xn xc] 25)) := (Kept.refl noBlock w1).alloc _
  have hq1 := HQ.out _ hkw
  have HKW := Lib.hid hkw
  clear hkw
  simp only at hq1 ⊢
  by_cases hk2 : xk = 2
  · subst hk2
    go_wp2
    go_ret
    exact ⟨rfl, HK.out.trans HKW.out fun _ _ h => h⟩
  · go_wp2
    go_ret
    have e : textP (VV.abs ⟨xk, xa, xn, xc, xl⟩) = [] := by unfold textP VV.abs; simp [hk2]
    rw [e]
    exact ⟨rfl, HK.out.trans HKW.out fun _ _ h => h⟩
end Go.Proofs.YtdcdefkloibfnaaGreatDoor
namespace Go.Proofs.YtdcdefkloibfnaaGreatDoor
set_option linter.unusedVariables false
open Go.RowKit

theorem plus_head (s : ByteArray) : plus s = decide (s.data.toList.head? = some 43) := by
  unfold plus
  rw [ByteArray.toList_eq]
  obtain ⟨⟨l⟩⟩ := s
  cases l with
  | nil => rfl
  | cons c r =>
    have h1 : ((ByteArray.mk ⟨c :: r⟩).extract 0 1).data.toList = [c] := by
      rw [ByteArray.data_extract]; simp
    rw [h1]
    have h2 : decide (1 ≤ (ByteArray.mk ⟨c :: r⟩).size) = true := by
      rw [decide_eq_true_eq]; show 1 ≤ (c :: r).length; simp
    rw [h2, Bool.true_and]
    by_cases hc : c = 43
    · subst hc; rfl
    · have h3 : ¬ ((ByteArray.mk ⟨c :: r⟩).data.toList.head? = some 43) := by simpa using hc
      rw [decide_eq_false h3]
      simpa using hc

/-- The two errors of strconv stand in their variables. -/
def Errs (w : World) : Prop := (∃ t p, w.cell? ⟨2, 0, none⟩ = some (.iface t p)) ∧ ∃ t p, w.cell? ⟨3, 0, none⟩ = some (.iface t p)
theorem cell_size {w : World} {g : Nat} {v : Value} (h : w.cell? ⟨g, 0, none⟩ = some v) : g < w.heap.size := by
  rcases Nat.lt_or_ge g w.heap.size with h1 | h1
  · exact h1
  · simp [World.cell?, Array.getElem?_eq_none h1] at h
theorem Errs.kept {w w' : World} (h : Errs w) (hk : Kept noBlock w w') : Errs w' := by
  obtain ⟨⟨t, p, h1⟩, t2, p2, h2⟩ := h
  exact ⟨⟨t, p, (hk.cell (cell_size h1) (fun h => h)).trans h1⟩, t2, p2, (hk.cell (cell_size h2) (fun h => h)).trans h2⟩

theorem kept_below {w w' : World} (h : Below w.heap.size w w') : Kept noBlock w w' := ⟨h.os, h.tape, h.output, h.size, fun k hk _ => h.block k hk⟩
set_option maxHeartbeats 1000000 in
set_option maxRecDepth 100000 in
theorem Rread_bad {s : ByteArray} (hs : s.size ≤ 1000) (w : World) {n : Int} {tp : TypeId} {p : Option Addr}
    (h : Calls Tryz.prog 77 #[.string s, .int .i64 10, .int .i64 64] w fun e w' => ∃ N, e = .returned (.tuple #[.int .i64 n, .iface tp (.pointer (some ⟨N, 0, none⟩))]) ∧ Kept noBlock w w') :
    Calls Tryz.prog 57 #[.string s] w fun e w' => e = .returned (.tuple #[.int .i64 0, .int .i64 11]) ∧ Kept noBlock w w' := by
  have HC := Lib.hid h
  clear h
  go_enter Tryz.func57, Tryz.ntmps57
  go_wp2_with fail
  go_at_call 77
  refine HC.out.mono ?_
  rintro e w1 ⟨N, rfl, hk⟩
  go_wp2
  go_ret2
  exact ⟨rfl, hk⟩

set_option maxHeartbeats 1000000 in
set_option maxRecDepth 100000 in
theorem Rread_plus {s : ByteArray} {v : Int} (hs : s.size ≤ 1000) (h : Lib.parseIntB 64 s.data.toList = .ok v) (hp : plus s = true) (w : World) :
    Calls Tryz.prog 57 #[.string s] w fun e w' => e = .returned (.tuple #[.int .i64 0, .int .i64 11]) ∧ Kept noBlock w w' := by
  have HC := Lib.hid (Any.strconv_ParseInt_10_at64_ok Tryz.pint s (by omega) v h w)
  have HP := Lib.hid (fun W => hp ▸ HasPre_at s hs W)
  clear h hp
  go_enter Tryz.func57, Tryz.ntmps57
  go_wp2_with fail
  go_at_call 77
  refine HC.out.mono ?_
  rintro e w1 ⟨rfl, hw⟩
  have hk : Kept noBlock w w1 := by
    rcases hw with rfl | ⟨t, rfl⟩
    · exact Kept.refl _ _
    · exact bytesWorld_kept _ _ _
  clear hw
  go_wp2_with fail
  go_at_call 78
  refine (HP.out _).mono ?_
  rintro e w2 ⟨rfl, rfl⟩
  go_wp2
  go_ret2
  exact ⟨rfl, hk⟩
/-- ring.Read: the number, or that it is none. -/
theorem Rread_at {s : ByteArray} (hs : s.size ≤ 1000) (w : World) (he : Errs w) :
    Calls Tryz.prog 57 #[.string s] w fun e w' => e = .returned (.tuple #[.int .i64 (ringRead s.data.toList).1, .int .i64 (ringRead s.data.toList).2]) ∧ Kept noBlock w w' := by
  obtain ⟨⟨t, p, h1⟩, t2, p2, h2⟩ := he
  rcases hp : Lib.parseIntB 64 s.data.toList with v | _ | _
  · by_cases hh : s.data.toList.head? = some 43
    · have : ringRead s.data.toList = (0, 11) := by unfold ringRead; rw [hp]; simp only [hh, if_true]
      rw [this]
      exact Rread_plus hs hp (by rw [plus_head, hh]; rfl) w
    · have : ringRead s.data.toList = (v, 0) := by unfold ringRead; rw [hp]; simp only [hh, if_false]
      rw [this]
      exact Rread_ok hs hp (by rw [plus_head]; simpa using hh) w
  · have : ringRead s.data.toList = (0, 11) := by unfold ringRead; rw [hp]
    rw [this]
    exact Rread_bad (p := none) hs w ((Any.strconv_ParseInt_10_at64_syntax Tryz.pint s (by omega) hp (.iface t p) w h1 (Or.inr ⟨t, p, rfl⟩)).mono fun e w' ⟨N, h, _, _, hb⟩ => ⟨N, h, kept_below hb⟩)
  · have : ringRead s.data.toList = (0, 11) := by unfold ringRead; rw [hp]
    rw [this]
    exact Rread_bad (p := none) hs w ((Any.strconv_ParseInt_10_at64_range Tryz.pint s (by omega) hp (.iface t2 p2) w h2 (Or.inr ⟨t2, p2, rfl⟩)).mono fun e w' ⟨N, h, _, _, hb⟩ => ⟨N, h, kept_below hb⟩)

end Go.Proofs.YtdcdefkloibfnaaGreatDoor

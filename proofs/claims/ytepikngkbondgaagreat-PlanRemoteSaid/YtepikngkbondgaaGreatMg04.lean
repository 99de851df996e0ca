/- hosts: tokens cloned, sorted, without what stands twice: the library's contracts at []int64; tidy · hosts: slices.Sort at texts · hosts: New, Mark · hosts: Distance · hosts: cmp.Compare at texts, the closure that compares hosts, slices.SortFunc at an own row of hosts · hosts: slices.AppendSeq(nil, maps.Values(..)), slices.Collect: the table's hosts in some order · Several rows of one's own: two of them; those that a call has made beside those that were there · hosts: slices.Collect, slices.SortedFunc, Table.All · hosts: Refresh: what stands in the heap behind i rounds of its first loop · hosts: Refresh's second loop: what stands in the heap behind so many of its rounds. -/
import Derived.Test.YtepikngkbondgaaGreatMg02
import Derived.Test.YtepikngkbondgaaGreatHoShelf
import Derived.Test.YtepikngkbondgaaGreatMg03
import Derived.Sort.Walk0
import Derived.Maps.RangeRun
namespace Go.Proofs.YtepikngkbondgaaGreat
set_option linter.unusedVariables false
open Go.RowKit Go.Sort Go.Shelf

abbrev eI : Int → Value := Value.int .i64
theorem i64sT : SlT Tryz.prog 46 2 (.int .i64 0) 1 8 := ⟨Tryz.underlying46, by kernel_rfl, rfl, by decide, by decide⟩
theorem eI_one {l : List Int} {u : Value} (hu : u ∈ l.map eI) : u.oneCell' = true := by
  obtain ⟨a, _, rfl⟩ := List.mem_map.1 hu; rfl

set_option maxHeartbeats 1000000 in
set_option maxRecDepth 100000 in
theorem KClone_at {w : World} {ok : Nat → TypeId → Prop} {v : Value} {n : Nat} {L : List Int} (h : SlK w ok 1 v n (L.map eI)) (hn : n ≤ 1000000) :
    Calls Tryz.prog 40 #[v] w fun e w' => ∃ v', e = .returned v' ∧ w'.ownsRow w.heap.size 2 1 v' n (L.map eI) ∧ Kept noBlock w w' := by
  obtain ⟨A, c, rfl, -, -⟩ := h.shape
  cases A with
  | none =>
    have hz : n = 0 ∧ L.map eI = [] := by
      obtain ⟨hl, A', c', e, -, -, hd⟩ := h
      cases e
      rcases hd with ⟨h0, -⟩ | ⟨g, off, cs, t, fz, e, -⟩
      · subst h0; exact ⟨rfl, List.eq_nil_of_length_eq_zero (by omega)⟩
      · cases e
    obtain ⟨rfl, hz⟩ := hz
    rw [hz]
    clear h hz
    have q1 : ∀ w, (binOp .eql 46 (.slice none 0 c) (.slice none 0 0)).run Tryz.prog w = .ok (.bool true) w := fun w => Lib.run_eql_slice_nil w _ _ none 0 c 0 0 Tryz.underlying46
    go_enter Tryz.func40, Tryz.ntmps40
    go_wp2
    go_ret
    exact ⟨_, rfl, World.ownsRow_nil _ _ _ _, Kept.refl _ _⟩
  | some A =>
    have H := Lib.hid h
    clear h
    have q1 : ∀ w, (binOp .eql 46 (.slice (some A) n c) (.slice none 0 0)).run Tryz.prog w = .ok (.bool false) w := fun w => Lib.run_eql_slice_nil w _ _ (some A) n c 0 0 Tryz.underlying46
    go_enter Tryz.func40, Tryz.ntmps40
    go_wp2_with (at_builtin; go_must (refine wpList_append_sl _ i64sT rfl (.tmp 5) (.tmp 6) rfl w.heap.size _ 0 [] rfl (World.ownsRow_made w #[] 0 (Nat.le_refl _) (Nat.zero_le _) rfl) _ n (L.map eI) rfl (H.out.alloc _) (fun u hu => eI_one hu) ?c1 ?c2 ?_))
    case c1 => omega
    case c2 => simp
    intro v' w3 hap
    have hown := hap.own
    have hk := hap.below (World.ownsRow_made w #[] 0 (Nat.le_refl _) (Nat.zero_le _) rfl) ((Kept.refl noBlock w).alloc _) (Nat.le_refl _)
    clear hap
    go_wp2
    go_ret
    exact ⟨_, rfl, by simpa using hown, hk⟩

/-! A row of numbers (of texts) into which the library writes. -/
section
variable {α : Type} [Inhabited α] {enc : α → Value} {W : World} {blk m : Nat} {cur : Array Value} {e : TypeId} {d : Array α} {os : Array Obj}
theorem rw_block (h : W.heap[blk]? = some (.cells cur e (0, 0))) : (sortWorld enc W blk 0 m d os).heap[blk]? = some (.cells (putCells enc 0 d cur) e (0, 0)) := by
  have hlt : blk < W.heap.size := lt_of_heap h
  unfold sortWorld
  rw [heap_grow_old _ _ (by unfold putRow mapBlock; rw [Array.size_modify]; exact hlt)]
  unfold putRow mapBlock
  show (W.heap.modify blk _)[blk]? = _
  rw [Array.getElem?_modify, if_pos rfl, h]
  rfl
theorem rw_kept : Kept (fun i => i = blk) W (sortWorld enc W blk 0 m d os) := by
  have hsz : (putRow enc (Go.Sort.ahead W m) blk 0 d).heap.size = W.heap.size := by unfold putRow mapBlock; rw [Array.size_modify]; rfl
  refine ⟨rfl, rfl, rfl, by unfold sortWorld; rw [size_grow, hsz]; exact Nat.le_add_right _ _, fun k hk hn => ?_⟩
  unfold sortWorld
  rw [heap_grow_old _ _ (by rw [hsz]; exact hk)]
  unfold putRow mapBlock
  show (W.heap.modify blk _)[k]? = _
  rw [Array.getElem?_modify, if_neg (fun e => hn e.symm)]
theorem put_size : (putCells enc 0 d cur).size = cur.size := by unfold putCells; simp
theorem put_take {l : List α} (hl : l.length ≤ cur.size) : (putCells enc 0 l.toArray cur).toList.take l.length = l.map enc := by
  apply List.ext_getElem?
  intro j
  by_cases hj : j < l.length
  · have hjc : j < cur.size := by omega
    rw [List.getElem?_take_of_lt hj, Array.getElem?_toList, List.getElem?_map, List.getElem?_eq_getElem hj]
    unfold putCells
    rw [Array.getElem?_mapIdx, Array.getElem?_eq_getElem hjc]
    simp [hj]
  · rw [List.getElem?_eq_none (by rw [List.length_take]; omega), List.getElem?_eq_none (by rw [List.length_map]; omega)]
theorem holds_own {l : List α} (hh : W.heap[blk]? = some (.cells cur e (0, 0))) (hx : cur.toList.take (l.length * 1) = l.map enc) : Holds enc W blk 0 l.toArray := by
  intro j hj
  have hj' : j < l.length := by simpa using hj
  have h1 : (cur.toList.take (l.length * 1))[j]? = (l.map enc)[j]? := by rw [hx]
  rw [List.getElem?_take_of_lt (by omega), Array.getElem?_toList] at h1
  refine ⟨?_, by simp [World.frozen?, hh]⟩
  rw [cell_of_row W blk (0 + j) cur _ _ hh, Nat.zero_add, h1, List.getElem?_map, List.getElem?_eq_getElem hj']
  simp [getElem!_pos, hj']
end
theorem KSort_at {W : World} {n₀ : Nat} {v : Value} {xs : List Int} (hown : W.ownsRow n₀ 2 1 v xs.length (xs.map eI)) (hlen : xs.length ≤ 1000000) :
    Calls Tryz.prog 57 #[v] W fun e w' => e = .returned (.tuple #[]) ∧ w'.ownsRow n₀ 2 1 v xs.length ((xs.mergeSort fun x y => decide (x ≤ y)).map eI) ∧ Kept (fun i => v.ownBlock = some i) W w' := by
  obtain ⟨hl, hown⟩ := hown
  rcases hown with ⟨rfl, h0⟩ | ⟨g', cap, cur, rfl, hb, hh, hnc, hm, hcs, hx⟩
  · have : xs = [] := List.eq_nil_of_length_eq_zero h0
    subst this
    refine Calls.mono (AnyM.slices_Sort_int_none Tryz.sortI none 0 W) ?_
    rintro e w' ⟨rfl, rfl⟩
    exact ⟨rfl, by rw [List.mergeSort_nil]; exact World.ownsRow_nil _ _ _ _, Kept.refl _ _⟩
  · have hH : Holds eI W g' 0 xs.toArray := holds_own hh hx
    refine Calls.mono (AnyM.slices_Sort_int Tryz.sortI g' 0 cap xs W hH (lt_of_heap hh) (by omega)) ?_
    rintro e w' ⟨rfl, m, os, rfl⟩
    have hml : (xs.mergeSort fun x y => decide (x ≤ y)).length = xs.length := List.length_mergeSort _
    have hbk := rw_block (enc := eI) (m := m) (d := (xs.mergeSort fun x y => decide (x ≤ y)).toArray) (os := os) hh
    refine ⟨rfl, ⟨by rw [List.length_map, hml, Nat.mul_one], .inr ⟨g', cap, _, rfl, hb, hbk, hnc, hm, by rw [put_size]; exact hcs, ?_⟩⟩, (rw_kept (enc := eI) (W := W) (blk := g')).mono fun i _ e => by simp [Value.ownBlock, e]⟩
    have := put_take (enc := eI) (cur := cur) (l := xs.mergeSort fun x y => decide (x ≤ y)) (by rw [hml]; omega)
    rw [hml] at this
    rw [Nat.mul_one]
    exact this
theorem get_bang {zs : List Int} {j : Nat} {x : Int} (h : zs[j]? = some x) : zs.toArray[j]! = x := by
  obtain ⟨h1, h2⟩ := List.getElem?_eq_some_iff.1 h
  rw [getElem!_pos _ j (by simpa using h1)]
  simpa using h2
theorem comp_inv {zs : List Int} (hz : zs.Pairwise (· ≤ ·)) : ∀ m, m ≤ zs.length → (Lib.compactUpTo zs.toArray m).Pairwise (· < ·) ∧ (∀ y, y ∈ Lib.compactUpTo zs.toArray m ↔ y ∈ zs.take m) ∧ (∀ y ∈ Lib.compactUpTo zs.toArray m, ∀ x, 0 < m → zs[m - 1]? = some x → y ≤ x)
  | 0, _ => ⟨by simp [Lib.compactUpTo], by simp [Lib.compactUpTo], by simp [Lib.compactUpTo]⟩
  | m + 1, hm => by
    obtain ⟨i1, i2, i3⟩ := comp_inv hz m (by omega)
    obtain ⟨x, hx⟩ : ∃ x, zs[m]? = some x := ⟨_, List.getElem?_eq_getElem (by omega)⟩
    have hxb := get_bang hx
    have htk : zs.take (m + 1) = zs.take m ++ [x] := by rw [List.take_add_one, hx]; rfl
    have hpre : ∀ p, 0 < m → zs[m - 1]? = some p → p ≤ x := by
      intro p h0 hp
      obtain ⟨a1, a2⟩ := List.getElem?_eq_some_iff.1 hp
      obtain ⟨b1, b2⟩ := List.getElem?_eq_some_iff.1 hx
      have := List.pairwise_iff_getElem.1 hz (m - 1) m a1 b1 (by omega)
      rw [a2, b2] at this
      exact this
    rw [Lib.compactUpTo_succ, hxb]
    by_cases hk : Lib.keeps zs.toArray m = true
    · rw [if_pos hk]
      have hlt : ∀ y ∈ Lib.compactUpTo zs.toArray m, y < x := by
        intro y hy
        rcases Nat.eq_zero_or_pos m with h0 | h0
        · subst h0; simp [Lib.compactUpTo] at hy
        · obtain ⟨p, hp⟩ : ∃ p, zs[m - 1]? = some p := ⟨_, List.getElem?_eq_getElem (by omega)⟩
          have h1 := i3 y hy p h0 hp
          have h2 := hpre p h0 hp
          have h3 : x ≠ p := by
            have := hk
            unfold Lib.keeps at this
            simp only [decide_eq_true_eq] at this
            rcases this with h4 | h4
            · omega
            · rw [hxb, get_bang hp] at h4; exact h4
          omega
      refine ⟨List.pairwise_append.2 ⟨i1, by simp, fun a ha b hb => by obtain rfl := List.mem_singleton.1 hb; exact hlt a ha⟩, fun y => by rw [List.mem_append, htk, List.mem_append, i2], fun y hy z _ hz2 => ?_⟩
      rw [Nat.add_sub_cancel, hx] at hz2
      cases hz2
      rcases List.mem_append.1 hy with hy | hy
      · exact Int.le_of_lt (hlt y hy)
      · obtain rfl := List.mem_singleton.1 hy; exact Int.le_refl _
    · rw [if_neg hk, List.append_nil]
      have h5 : ¬ (m = 0 ∨ zs.toArray[m]! ≠ zs.toArray[m - 1]!) := by
        intro h; apply hk; unfold Lib.keeps; simpa using h
      have h0 : 0 < m := Nat.pos_of_ne_zero fun e => h5 (.inl e)
      obtain ⟨p, hp⟩ : ∃ p, zs[m - 1]? = some p := ⟨_, List.getElem?_eq_getElem (by omega)⟩
      have h6 : x = p := by
        refine Classical.byContradiction fun e => h5 (.inr ?_)
        rw [hxb, get_bang hp]; exact e
      subst h6
      refine ⟨i1, fun y => ?_, fun y hy z _ hz2 => ?_⟩
      · rw [i2, htk, List.mem_append]
        refine ⟨.inl, fun h => h.elim id fun h => ?_⟩
        obtain rfl := List.mem_singleton.1 h
        refine List.mem_of_getElem? (i := m - 1) ?_
        rw [List.getElem?_take_of_lt (by omega)]; exact hp
      · rw [Nat.add_sub_cancel, hx] at hz2
        cases hz2
        exact i3 y hy _ h0 hp
/-- Sorted, and each one once: the tokens, tidy. -/
theorem sort_compact (l : List Int) : Lib.compact (l.mergeSort fun x y => decide (x ≤ y)) = tidyP l := by
  have hs : (l.mergeSort fun x y => decide (x ≤ y)).Pairwise (· ≤ ·) := by
    have := List.pairwise_mergeSort (le := fun x y : Int => decide (x ≤ y)) (fun a b c h1 h2 => by simp only [decide_eq_true_eq] at *; omega) (fun a b => by simp only [Bool.or_eq_true, decide_eq_true_eq]; omega) l
    exact this.imp fun h => by simpa using h
  obtain ⟨h1, h2, -⟩ := comp_inv hs (l.mergeSort fun x y => decide (x ≤ y)).length (Nat.le_refl _)
  refine tidy_uniq h1 fun y => ?_
  show y ∈ Lib.compactUpTo _ _ ↔ _
  rw [h2, List.take_length]
  exact (List.mergeSort_perm l _).mem_iff
theorem KCompact_at {W : World} {n₀ : Nat} {v : Value} {xs : List Int} (hown : W.ownsRow n₀ 2 1 v xs.length (xs.map eI)) (hlen : xs.length ≤ 1000000) :
    Calls Tryz.prog 58 #[v] W fun e w' => ∃ A k c, e = .returned (.slice A k c) ∧ SlK w' (fun b e' => n₀ ≤ b ∧ v.ownBlock = some b ∧ e' = 2) 1 (.slice A k c) k ((Lib.compact xs).map eI) ∧ Kept (fun i => v.ownBlock = some i) W w' := by
  obtain ⟨hl, hown⟩ := hown
  rcases hown with ⟨rfl, h0⟩ | ⟨g', cap, cur, rfl, hb, hh, hnc, hm, hcs, hx⟩
  · have : xs = [] := List.eq_nil_of_length_eq_zero h0
    subst this
    refine Calls.mono (AnyG.slices_Compact_int_empty Tryz.compI none 0 W) ?_
    rintro e w' ⟨rfl, rfl⟩
    exact ⟨none, 0, 0, rfl, SlK.nil _ _ _, Kept.refl _ _⟩
  · have hH : Holds eI W g' 0 xs.toArray := holds_own hh hx
    refine Calls.mono (AnyG.slices_Compact_int Tryz.compI g' 0 cap xs W hH (by omega) (by omega)) ?_
    rintro e w' ⟨rfl, q, rfl⟩
    have hcl : (Lib.compact xs).length ≤ xs.length := by
      unfold Lib.compact Lib.compactUpTo
      rw [List.length_map]
      exact Nat.le_trans (List.length_filter_le _ _) (by simp)
    have hwl : (Lib.compact xs ++ List.replicate (xs.length - (Lib.compact xs).length) (0 : Int)).length = xs.length := by rw [List.length_append, List.length_replicate]; omega
    have hW : putRow (Value.int .i64) (Go.Sort.ahead W q) g' 0 (Lib.compact xs ++ List.replicate (xs.length - (Lib.compact xs).length) 0).toArray = sortWorld eI W g' 0 q (Lib.compact xs ++ List.replicate (xs.length - (Lib.compact xs).length) 0).toArray #[] := by
      rw [sortWorld_none]; rfl
    rw [hW]
    have hbk := rw_block (enc := eI) (m := q) (d := (Lib.compact xs ++ List.replicate (xs.length - (Lib.compact xs).length) (0 : Int)).toArray) (os := #[]) hh
    have htk := put_take (enc := eI) (cur := cur) (l := Lib.compact xs ++ List.replicate (xs.length - (Lib.compact xs).length) (0 : Int)) (by rw [hwl]; omega)
    refine ⟨some ⟨g', 0, none⟩, (Lib.compact xs).length, cap, rfl, ⟨by rw [List.length_map, Nat.mul_one], _, _, rfl, by omega, hm, .inr ⟨g', 0, _, _, _, rfl, hbk, ⟨hb, rfl, rfl⟩, fun j u hu => ?_⟩⟩, (rw_kept (enc := eI) (W := W) (blk := g')).mono fun i _ e => by simp [Value.ownBlock, e]⟩
    have hj : j < (Lib.compact xs).length := by have := (List.getElem?_eq_some_iff.1 hu).1; rw [List.length_map] at this; exact this
    rw [Nat.zero_add, ← Array.getElem?_toList]
    have h3 : ((putCells eI 0 (Lib.compact xs ++ List.replicate (xs.length - (Lib.compact xs).length) (0 : Int)).toArray cur).toList.take (Lib.compact xs ++ List.replicate (xs.length - (Lib.compact xs).length) (0 : Int)).length)[j]? = ((Lib.compact xs ++ List.replicate (xs.length - (Lib.compact xs).length) (0 : Int)).map eI)[j]? := by rw [htk]
    rw [List.getElem?_take_of_lt (by rw [hwl]; omega), List.map_append, List.getElem?_append_left (by rw [List.length_map]; exact hj), hu] at h3
    exact h3
set_option maxHeartbeats 1000000 in
theorem htidy_at {w : World} {ok : Nat → TypeId → Prop} {v : Value} {l : List Int} (h : SlK w ok 1 v l.length (l.map eI)) (hn : l.length ≤ 1000000) :
    Calls Tryz.prog 41 #[v] w fun e w' => ∃ A k c, e = .returned (.slice A k c) ∧ SlK w' (fun b e' => w.heap.size ≤ b ∧ e' = 2) 1 (.slice A k c) k ((tidyP l).map eI) ∧ Kept noBlock w w' := by
  have HC := Lib.hid (KClone_at h hn)
  clear h
  go_enter Tryz.func41, Tryz.ntmps41
  go_wp2_with fail
  go_at_call 40
  refine HC.out.mono ?_
  rintro e w1 ⟨v1, rfl, hown, hk1⟩
  have HSO := Lib.hid (KSort_at hown hn)
  have HBL := Lib.hid (fun b (e : v1.ownBlock = some b) => (own_type hown e).1)
  have HK1 := Lib.hid hk1
  clear hown hk1
  go_wp2_with fail
  go_at_call 57
  refine HSO.out.mono ?_
  rintro e w2 ⟨rfl, hown2, hk2⟩
  have hml : (l.mergeSort fun x y => decide (x ≤ y)).length = l.length := List.length_mergeSort _
  have HCO := Lib.hid (KCompact_at (xs := l.mergeSort fun x y => decide (x ≤ y)) (by rw [hml]; exact hown2) (by rw [hml]; exact hn))
  have HK2 : Hid (Kept noBlock w w2) := Lib.hid (HK1.out.trans hk2 (fun k hk e => by have := HBL.out k e; omega))
  clear hown2 hk2 hml
  go_wp2_with fail
  go_at_call 58
  refine HCO.out.mono ?_
  rintro e w3 ⟨A, k, c, rfl, hs3, hk3⟩
  rw [sort_compact] at hs3
  have HS3 := Lib.hid (hs3.any (ok' := fun b e' => w.heap.size ≤ b ∧ e' = 2) fun _ _ _ e => ⟨e.1, e.2.2⟩)
  have HK3 : Hid (Kept noBlock w w3) := Lib.hid (HK2.out.trans hk3 (fun k hk e => by have := HBL.out k e; omega))
  clear hs3 hk3
  go_wp2_with fail
  go_ret
  exact ⟨A, k, c, rfl, HS3.out, HK3.out⟩
end Go.Proofs.YtepikngkbondgaaGreat
namespace Go.Proofs.YtepikngkbondgaaGreat
set_option linter.unusedVariables false
open Go.RowKit Go.Sort Go.Shelf

def bytesOf (a : ByteArray) : List UInt8 := a.data.toList
theorem bytes_eq (a : ByteArray) : a.toList = bytesOf a := ByteArray.toList_eq a
theorem enc_bytes (a : ByteArray) : encStr (bytesOf a) = Value.string a := by
  cases a with
  | mk d => simp [encStr, bytesOf]
def ofBytes (l : List UInt8) : ByteArray := ⟨l.toArray⟩
theorem of_bytes (a : ByteArray) : ofBytes (bytesOf a) = a := by
  cases a with
  | mk d => simp [ofBytes, bytesOf]
theorem bytes_of (l : List UInt8) : bytesOf (ofBytes l) = l := by simp [ofBytes, bytesOf]
def sortN (xs : List ByteArray) : List ByteArray := ((xs.map bytesOf).mergeSort fun x y => decide (x ≤ y)).map ofBytes
theorem sortN_perm (xs : List ByteArray) : (sortN xs).Perm xs := by
  have h := (List.mergeSort_perm (xs.map bytesOf) fun x y => decide (x ≤ y)).map ofBytes
  rw [List.map_map] at h
  have e : (ofBytes ∘ bytesOf) = id := by funext a; exact of_bytes a
  rw [e, List.map_id] at h
  exact h
theorem sortN_sorted (xs : List ByteArray) : (sortN xs).Pairwise fun a b => ¬ nlt b a := by
  have h := List.pairwise_mergeSort (le := fun x y : List UInt8 => decide (x ≤ y)) (fun a b c h1 h2 => by
    simp only [decide_eq_true_eq] at *; exact List.le_trans h1 h2) (fun a b => by
    simp only [Bool.or_eq_true, decide_eq_true_eq]; exact List.le_total a b) (xs.map bytesOf)
  unfold sortN
  rw [List.pairwise_map]
  refine h.imp fun {a b} hab => ?_
  unfold nlt
  rw [bytes_eq, bytes_eq, bytes_of, bytes_of]
  have : a ≤ b := by simpa using hab
  exact List.not_lt.2 this
/-- What is sorted, and of the same texts, each once, is that. -/
theorem sortN_eq {xs S : List ByteArray} (hS : S.Pairwise nlt) (hn : xs.Nodup) (hm : ∀ x, x ∈ xs ↔ x ∈ S) : sortN xs = S := by
  have hp : (sortN xs).Pairwise nlt := by
    have hnd : (sortN xs).Nodup := (sortN_perm xs).nodup_iff.2 hn
    refine List.Pairwise.imp₂ ?_ (sortN_sorted xs) hnd
    intro a b h1 h2
    exact Classical.byContradiction fun h3 => h2 (nlt_tri h3 h1)
  exact names_ext hp hS fun x => ((sortN_perm xs).mem_iff).trans (hm x)
theorem SSort_at {W : World} {n₀ : Nat} {v : Value} {xs : List ByteArray} (hown : W.ownsRow n₀ 9 1 v xs.length (xs.map Value.string)) (hlen : xs.length ≤ 1000000) :
    Calls Tryz.prog 42 #[v] W fun e w' => e = .returned (.tuple #[]) ∧ w'.ownsRow n₀ 9 1 v xs.length ((sortN xs).map Value.string) ∧ Kept (fun i => v.ownBlock = some i) W w' := by
  have hmap : xs.map Value.string = (xs.map bytesOf).map encStr := by rw [List.map_map]; exact List.map_congr_left fun a _ => (enc_bytes a).symm
  obtain ⟨hl, hown⟩ := hown
  rcases hown with ⟨rfl, h0⟩ | ⟨g', cap, cur, rfl, hb, hh, hnc, hm, hcs, hx⟩
  · have : xs = [] := List.eq_nil_of_length_eq_zero h0
    subst this
    refine Calls.mono (AnyM.slices_Sort_string_none Tryz.sortS none 0 W) ?_
    rintro e w' ⟨rfl, rfl⟩
    exact ⟨rfl, by simpa [sortN] using World.ownsRow_nil _ _ _ _, Kept.refl _ _⟩
  · rw [hmap] at hx
    have hll : (xs.map bytesOf).length = xs.length := List.length_map ..
    have hH : Holds encStr W g' 0 (xs.map bytesOf).toArray := holds_own hh (by rw [hll]; exact hx)
    have hc := AnyM.slices_Sort_string Tryz.sortS g' 0 cap (xs.map bytesOf) W hH (lt_of_heap hh) (by omega)
    rw [hll] at hc
    refine Calls.mono hc ?_
    rintro e w' ⟨rfl, m, os, rfl⟩
    have hml : ((xs.map bytesOf).mergeSort fun x y => decide (x ≤ y)).length = xs.length := by rw [List.length_mergeSort, hll]
    have hbk := rw_block (enc := encStr) (m := m) (d := ((xs.map bytesOf).mergeSort fun x y => decide (x ≤ y)).toArray) (os := os) hh
    have hres : (sortN xs).map Value.string = ((xs.map bytesOf).mergeSort fun x y => decide (x ≤ y)).map encStr := by
      unfold sortN
      rw [List.map_map]
      refine List.map_congr_left fun a _ => ?_
      show Value.string (ofBytes a) = encStr a
      rw [← enc_bytes, bytes_of]
    refine ⟨rfl, ⟨by rw [hres, List.length_map, hml, Nat.mul_one], .inr ⟨g', cap, _, rfl, hb, hbk, hnc, hm, by rw [put_size]; exact hcs, ?_⟩⟩, (rw_kept (enc := encStr) (W := W) (blk := g')).mono fun i _ e => by simp [Value.ownBlock, e]⟩
    have := put_take (enc := encStr) (cur := cur) (l := (xs.map bytesOf).mergeSort fun x y => decide (x ≤ y)) (by rw [hml]; omega)
    rw [hml] at this
    rw [Nat.mul_one, hres]
    exact this
end Go.Proofs.YtepikngkbondgaaGreat
namespace Go.Proofs.YtepikngkbondgaaGreat
set_option linter.unusedVariables false
open Go.RowKit
open Go.ChangeMaps (setBlock)

theorem hNew_at (dc : ByteArray) (rem : Int) (w : World) : Calls Tryz.prog 21 #[.string dc, .int .i64 rem] w fun e w' => e = .returned (.pointer (some ⟨w.heap.size + 1, 0, none⟩)) ∧ TabS w' (fun k => k = w.heap.size + 1 ∨ k = w.heap.size) (w.heap.size + 1) dc rem [] ∧ Kept noBlock w w' := by
  have hmk := @run_makeMap Tryz.prog
  have hk : Kept noBlock w ((w.alloc (.map #[] 0)).alloc (.cells #[.string dc, .int .i64 rem, .map (some w.heap.size)] 93)) := ((Kept.refl noBlock w).alloc _).alloc _
  have hT : TabS ((w.alloc (.map #[] 0)).alloc (.cells #[.string dc, .int .i64 rem, .map (some w.heap.size)] 93)) (fun k => k = w.heap.size + 1 ∨ k = w.heap.size) (w.heap.size + 1) dc rem [] := by
    refine ⟨w.heap.size, [], ⟨Blk.new_at _ _ _ (by rw [sz_alloc]), (KMap.new w).alloc _, List.nodup_nil, .inl rfl, .inr rfl, fun p hp => absurd hp List.not_mem_nil, fun p hp => absurd hp List.not_mem_nil, fun k e => ?_⟩, .nil, fun x => rfl⟩
    simp only [sz_alloc]; omega
  have HK := Lib.hid hk
  have HT := Lib.hid hT
  clear hk hT
  go_enter Tryz.func21, Tryz.ntmps21
  go_wp2_with fail
  go_ret
  exact ⟨rfl, HT.out, HK.out⟩
theorem hMarkN_at (x : ByteArray) (up : Bool) (w : World) : Calls Tryz.prog 20 #[.pointer none, .string x, .bool up] w fun e w' => e = .returned (.bool false) ∧ w' = w := by
  go_enter Tryz.func20, Tryz.ntmps20
  go_wp2
  go_ret
  exact ⟨rfl, rfl⟩
section
variable {w : World} {own : Nat → Prop} {g : Nat} {dc : ByteArray} {rem : Int} {S : List Ho}
set_option maxHeartbeats 2000000 in
set_option maxRecDepth 100000 in
theorem hMark_at (h : TabS w own g dc rem S) (x : ByteArray) (up : Bool) : Calls Tryz.prog 20 #[.pointer (some ⟨g, 0, none⟩), .string x, .bool up] w fun e w' => e = .returned (.bool (markP S x up).2) ∧ TabS w' own g dc rem (markP S x up).1 ∧ Kept own w w' := by
  obtain ⟨m, L, hT, hS, hv⟩ := h
  have z2 := hT.blk.cell 2
  simp only [List.getElem?_toArray, List.getElem?_cons_succ, List.getElem?_cons_zero] at z2
  have l1 := hT.map.run_lookup (P := Tryz.prog) string_emb mshM strU (zero_host w) x true
  have hvx := hv x
  unfold markP
  cases hx : aget x L with
  | none =>
    rw [hx] at l1 hvx
    rw [← hvx]
    simp only [Option.map_none, Option.getD_none, Option.isSome_none, if_true] at l1
    have HF := Lib.hid (⟨m, L, hT.keptN ((Kept.refl noBlock w).alloc (.cells #[.string noStr, .string noStr, .string noStr, .slice none 0 0, .bool false] 48)), hS, hv⟩ : TabS (w.alloc (.cells #[.string noStr, .string noStr, .string noStr, .slice none 0 0, .bool false] 48)) own g dc rem S)
    clear hT hv hvx hx
    go_enter Tryz.func20, Tryz.ntmps20
    go_wp2_with fail
    go_ret
    exact ⟨rfl, HF.out, ((Kept.refl noBlock w).alloc _).of_none⟩
  | some v =>
    rw [hx] at l1 hvx
    rw [← hvx]
    obtain ⟨n1, n2, n3, ta, tn, tc, tk, vu⟩ := v
    simp only [Option.map_some, Option.getD_some, Option.isSome_some, if_true, hvV] at l1
    have hk1 : Kept noBlock w (w.alloc (.cells #[.string n1, .string n2, .string n3, .slice ta tn tc, .bool vu] 48)) := (Kept.refl noBlock w).alloc _
    have hb : Blk (w.alloc (.cells #[.string n1, .string n2, .string n3, .slice ta tn tc, .bool vu] 48)) w.heap.size 48 #[.string n1, .string n2, .string n3, .slice ta tn tc, .bool vu] := Blk.new _ _ _
    have y4 := hb.cell 4
    have f4 := hb.frozen 4
    simp only [List.getElem?_toArray, List.getElem?_cons_succ, List.getElem?_cons_zero] at y4
    by_cases hu : vu = up
    · have HF := Lib.hid (⟨m, L, hT.keptN hk1, hS, hv⟩ : TabS (w.alloc (.cells #[.string n1, .string n2, .string n3, .slice ta tn tc, .bool vu] 48)) own g dc rem S)
      have HE : Hid ((if (HV.abs ⟨n1, n2, n3, ta, tn, tc, tk, vu⟩).up = up then (S, false) else (S.map fun o => if o.name = x then { o with up := up } else o, true)) = (S, false)) := Lib.hid (if_pos hu)
      have HK := Lib.hid hk1
      clear hT hv hvx hx hb hk1
      subst hu
      simp only [Option.map_some]
      rw [HE.out]
      cases vu <;>
      · go_enter Tryz.func20, Tryz.ntmps20
        go_wp2_with fail
        go_ret
        exact ⟨rfl, HF.out, HK.out.of_none⟩
    · have hk2 : Kept noBlock w (w.alloc (.cells #[.string n1, .string n2, .string n3, .slice ta tn tc, .bool up] 48)) := (Kept.refl noBlock w).alloc _
      have hb2 : Blk (w.alloc (.cells #[.string n1, .string n2, .string n3, .slice ta tn tc, .bool up] 48)) w.heap.size 48 #[.string n1, .string n2, .string n3, .slice ta tn tc, .bool up] := Blk.new _ _ _
      have hnm := hT.nm _ (aget_mem hx)
      have hnx : n1 = x := hnm.1
      have HT := Lib.hid hT
      have HS := Lib.hid hS
      have HVW := Lib.hid hv
      have HX : Hid (aget x L = some ⟨n1, n2, n3, ta, tn, tc, tk, vu⟩) := Lib.hid hx
      have HNM := Lib.hid hnm
      have HNX := Lib.hid hnx
      have HK2 := Lib.hid hk2
      have HB2 := Lib.hid hb2
      have HVX : Hid (getS x S = some (HV.abs ⟨n1, n2, n3, ta, tn, tc, tk, vu⟩)) := Lib.hid hvx.symm
      have HE : Hid ((if (HV.abs ⟨n1, n2, n3, ta, tn, tc, tk, vu⟩).up = up then (S, false) else (S.map fun o => if o.name = x then { o with up := up } else o, true)) = (S.map (setUp x up), true)) := Lib.hid (if_neg hu)
      clear hT hS hv hx hnm hnx hk2 hb2 hvx hb hk1
      simp only [Option.map_some]
      rw [HE.out]
      obtain ⟨w2, hw2⟩ : ∃ w2, w2 = w.alloc (.cells #[.string n1, .string n2, .string n3, .slice ta tn tc, .bool up] 48) := ⟨_, rfl⟩
      rw [← hw2] at HK2 HB2
      have HW2 := Lib.hid hw2
      obtain ⟨es, ck, hup, hm⟩ := (HT.out.map.kept HK2.out.drew (fun e => e)).run_update (P := Tryz.prog) string_emb mshM strU x (⟨n1, n2, n3, ta, tn, tc, tk, up⟩ : HV)
      have HM := Lib.hid hm
      simp only [hvV] at hup
      clear hw2 hm
      go_enter Tryz.func20, Tryz.ntmps20
      cases vu <;> cases up <;> first | exact absurd rfl hu | skip
      all_goals
        clear hu HE
        go_wp2_with fail
        rw [← HW2.out]
        have z2' := (HT.out.blk.kept HK2.out (fun e => e)).cell 2
        have x0 := HB2.out.cell 0
        have x1 := HB2.out.cell 1
        have x2 := HB2.out.cell 2
        have x3 := HB2.out.cell 3
        have x4 := HB2.out.cell 4
        simp only [List.getElem?_toArray, List.getElem?_cons_succ, List.getElem?_cons_zero] at z2' x0 x1 x2 x3 x4
        clear HW2 z2 l1 y4 f4
        generalize w.heap.size = Nn at *
        go_region
        go_wp2_with fail
        go_ret
        have htab := HT.out.put HK2.out.drew HM.out ⟨HNX.out, HNX.out ▸ HNM.out.2⟩ ((HT.out.ot _ (aget_mem HX.out)).keptNone HK2.out.drew)
        refine ⟨rfl, ⟨m, _, htab, mark_rising HS.out _ _, fun y => ?_⟩, (HK2.out.drew.of_none (S := own)).setBlock (m := m) (fun _ => HT.out.om) _⟩
        rw [mark_get, aget_aput, ← HVW.out y]
        by_cases e : x = y
        · subst e
          rw [if_pos rfl, HX.out]
          simp only [Option.map_some, HV.abs, setUp, HNX.out, if_true]
        · rw [if_neg e]
          cases hy : aget y L with
          | none => rfl
          | some o =>
            have hn : o.name = y := (HT.out.nm _ (aget_mem hy)).1
            simp only [Option.map_some, setUp]
            rw [if_neg (show ¬ o.abs.name = x from fun e2 => e (e2.symm.trans hn))]
end
end Go.Proofs.YtepikngkbondgaaGreat
namespace Go.Proofs.YtepikngkbondgaaGreat
set_option linter.unusedVariables false
open Go.RowKit
open Go.ChangeMaps (setBlock)

theorem hDistN_at (x : ByteArray) (w : World) : Calls Tryz.prog 19 #[.pointer none, .string x] w fun e w' => e = .returned (.int .i64 0) ∧ w' = w := by
  go_enter Tryz.func19, Tryz.ntmps19
  go_wp2
  go_ret
  exact ⟨rfl, rfl⟩
theorem less_nlt (a b : ByteArray) : Op.bytesLess a.toList b.toList = decide (nlt a b) := (Go.Proofs.bytesLess_eq _ _).trans (by unfold nlt; congr)
def isAhead (d x : ByteArray) (o : HV) : Bool := decide (o.dc = d) && decide (nlt o.name x)
section
variable {w : World} {own : Nat → Prop} {g : Nat} {dc : ByteArray} {rem : Int} {S : List Ho}
set_option maxHeartbeats 2000000 in
set_option maxRecDepth 100000 in
theorem hDist_at (h : TabS w own g dc rem S) (x : ByteArray) (hSl : S.length ≤ 1000000) : Calls Tryz.prog 19 #[.pointer (some ⟨g, 0, none⟩), .string x] w fun e w' => e = .returned (.int .i64 (distP dc rem S x)) ∧ Kept noBlock w w' := by
  obtain ⟨m, L, hT, hS, hv⟩ := h
  have z2 := hT.blk.cell 2
  simp only [List.getElem?_toArray, List.getElem?_cons_succ, List.getElem?_cons_zero] at z2
  have l1 := hT.map.run_lookup (P := Tryz.prog) string_emb mshM strU (zero_host w) x true
  have hvx := hv x
  unfold distP
  cases hx : aget x L with
  | none =>
    rw [hx] at l1 hvx
    rw [← hvx]
    simp only [Option.map_none, Option.getD_none, Option.isSome_none, if_true] at l1
    clear hT hv hvx hx
    go_enter Tryz.func19, Tryz.ntmps19
    go_wp2_with fail
    go_ret
    exact ⟨rfl, (Kept.refl noBlock w).alloc _⟩
  | some v =>
    rw [hx] at l1 hvx
    rw [← hvx]
    have hnx : v.name = x := (hT.nm _ (aget_mem hx)).1
    obtain ⟨n1, n2, n3, ta, tn, tc, tk, vu⟩ := v
    simp only at hnx
    subst hnx
    simp only [Option.map_some, Option.getD_some, Option.isSome_some, if_true, hvV] at l1
    have hperm := tab_perm hT.nd hT.nm hS hv
    have hahead : ((L.map (·.2)).filter (isAhead n2 n1)).length = aheadN S n2 n1 := by
      rw [← ahead_perm hperm]
      unfold aheadN
      conv => rhs; rw [show (L.map fun p => p.2.abs) = (L.map (·.2)).map HV.abs by rw [List.map_map]; rfl, List.filter_map, List.length_map]
      rfl
    have hLl : L.length ≤ 1000000 := by
      have := hperm.length_eq
      rw [List.length_map] at this
      omega
    have hk1 : Kept noBlock w (w.alloc (.cells #[.string n1, .string n2, .string n3, .slice ta tn tc, .bool vu] 48)) := (Kept.refl noBlock w).alloc _
    have hb : Blk (w.alloc (.cells #[.string n1, .string n2, .string n3, .slice ta tn tc, .bool vu] 48)) w.heap.size 48 #[.string n1, .string n2, .string n3, .slice ta tn tc, .bool vu] := Blk.new _ _ _
    have HT := Lib.hid (hT.keptN hk1)
    have HB := Lib.hid hb
    have HK := Lib.hid hk1
    have HA := Lib.hid hahead
    simp only [Option.map_some]
    generalize hrr : (if (HV.abs ⟨n1, n2, n3, ta, tn, tc, tk, vu⟩).dc = dc then (1 : Int) else if (aheadN S (HV.abs ⟨n1, n2, n3, ta, tn, tc, tk, vu⟩).dc n1 : Int) < rem then 2 else 0) = r
    have HRR : Hid ((if n2 = dc then (1 : Int) else if (aheadN S n2 n1 : Int) < rem then 2 else 0) = r) := Lib.hid hrr
    clear hT hv hvx hx hperm hahead hb hk1 hrr
    go_enter Tryz.func19, Tryz.ntmps19
    go_wp2_with fail
    generalize w.alloc (.cells #[.string n1, .string n2, .string n3, .slice ta tn tc, .bool vu] 48) = w1 at *
    generalize w.heap.size = Nn at *
    have t0 := HT.out.blk.cell 0
    have t1 := HT.out.blk.cell 1
    have t2 := HT.out.blk.cell 2
    have y0 := HB.out.cell 0
    have y1 := HB.out.cell 1
    simp only [List.getElem?_toArray, List.getElem?_cons_succ, List.getElem?_cons_zero] at t0 t1 t2 y0 y1
    clear z2 l1
    by_cases hdc : n2 = dc
    · subst hdc
      have hbe := strEq_self n2
      go_region
      go_wp2_with fail
      go_ret
      have e1 := HRR.out
      simp only [if_true] at e1
      exact ⟨by rw [← e1]; rfl, HK.out.drew⟩
    · have hbe := strEq_ne hdc
      obtain ⟨es, ck, hh, hst, hL⟩ := HT.out.map
      have hlt := lt_of_heap hh
      have hrg := run_range_map (P := Tryz.prog) w1.drew 91 9 48 m es ck mshM hh
      have hlen : es.toList.length = (L.map (·.2)).length := by
        have := congrArg List.length hL
        simpa using this
      have hent : ∀ e ∈ es.toList, ∃ (i : Nat) (p : ByteArray × HV), es.toList[i]? = some e ∧ (L.map (·.2))[i]? = some p.2 ∧ e.val = hvV p.2 := by
        intro e he
        obtain ⟨i, hi⟩ := List.getElem?_of_mem he
        have h1 := congrArg (fun l => l[i]?) hL
        simp only [List.getElem?_map, hi, Option.map_some] at h1
        cases hp : L[i]? with
        | none => rw [hp] at h1; simp at h1
        | some p =>
          rw [hp] at h1
          simp only [Option.map_some, Option.some.injEq, Prod.mk.injEq] at h1
          exact ⟨i, p, hi, by rw [List.getElem?_map, hp]; rfl, h1.2⟩
      have HENT := Lib.hid hent
      have HLEN := Lib.hid hlen
      have HST := Lib.hid hst
      have HDC := Lib.hid hdc
      have hsz1 := lt_of_heap hh
      clear hL hent hlen hst hdc
      go_region
      go_wp2_with fail
      generalize hRr : w1.heap.size = Rr at *
      go_loopw [7] (fun va wr => ∃ seen c0 n, va = .int .i64 (n : Nat) ∧ wr.heap[Rr]? = some (.mapIter (some m) ck seen c0) ∧ ck ≤ c0 ∧ n = ((vis seen es.toList (L.map (·.2))).filter (isAhead n2 n1)).length ∧ Kept noBlock w1 wr) (fun _ wr => (leftOf es (wr.iterSeen Rr)).size)
      case atStart =>
        subst hRr
        exact ⟨#[], ck, 0, rfl, heap_alloc_new w1.drew _, Nat.le_refl _, by rw [vis_none]; rfl, ((Kept.refl noBlock w1).drew).alloc _⟩
      case round =>
        obtain ⟨seen, c0, n, rfl, hr, hc0, hn, hk⟩ := hrel
        have hb1 : wr.heap[m]? = some (.map es ck) := (hk.block m (by rw [hRr]; exact hlt) (fun h => h)).trans hh
        have hzw := hk.size
        have law := run_next_at (P := Tryz.prog) wr 0 Rr m ck c0 seen es ck hr hb1 HST.out.1 hc0
        have HKR := Lib.hid hk
        have y0r := (HB.out.kept hk (fun e => e)).cell 0
        have y1r := (HB.out.kept hk (fun e => e)).cell 1
        have t1r := (HT.out.blk.kept hk (fun e => e)).cell 1
        simp only [List.getElem?_toArray, List.getElem?_cons_succ, List.getElem?_cons_zero] at y0r y1r t1r
        rcases law with ⟨h0, hrun⟩ | ⟨e, he, w2, hw2, hrun⟩
        · have hnx : ∀ ty, (Instr.next (.pointer (some ⟨Rr, 0, none⟩)) false ty).run Tryz.prog wr = _ := fun _ => hrun
          rw [vis_all es.toList (L.map (·.2)) HLEN.out (all_seen es seen h0), HA.out] at hn
          have HN := Lib.hid hn
          clear hk hn
          by_cases hlr : (n : Int) < rem
          · go_wp2_with fail
            go_ret
            have e1 := HRR.out
            rw [if_neg HDC.out, ← HN.out, if_pos hlr] at e1
            exact ⟨by rw [← e1]; rfl, HK.out.trans HKR.out (fun _ _ e => e)⟩
          · go_wp2_with fail
            go_ret
            have e1 := HRR.out
            rw [if_neg HDC.out, ← HN.out, if_neg (Int.not_lt.2 hlr)] at e1
            exact ⟨by rw [← e1]; rfl, HK.out.trans HKR.out (fun _ _ e => e)⟩
        · have hem := mem_left he
          obtain ⟨i, p, hei, hpi, hv⟩ := HENT.out e hem.1
          rw [hv] at hrun
          have hnx : ∀ ty, (Instr.next (.pointer (some ⟨Rr, 0, none⟩)) false ty).run Tryz.prog wr = _ := fun _ => hrun
          have hst1 := vis_step es.toList (L.map (·.2)) i HST.out.2.1 hei hpi hem.2
          have hg : wr.grownBy (setBlock w2 Rr (.mapIter (some m) ck (seen.push e.born) ck)) (some Rr) := grown_iter hw2
          have hk2 : Kept noBlock w1 (setBlock w2 Rr (.mapIter (some m) ck (seen.push e.born) ck)) := by
            have : Kept noBlock w1 w2 := by
              rcases hw2 with rfl | rfl
              · exact hk
              · exact hk.drew
            exact this.setBlock (m := Rr) (fun h => absurd h (by omega)) _
          have hr2 : (setBlock w2 Rr (.mapIter (some m) ck (seen.push e.born) ck)).heap[Rr]? = some (.mapIter (some m) ck (seen.push e.born) ck) := heap_setBlock_me (by rcases hw2 with rfl | rfl <;> exact lt_of_heap hr) _
          have hb2 : (setBlock w2 Rr (.mapIter (some m) ck (seen.push e.born) ck)).heap[m]? = some (.map es ck) := (hk2.block m (by rw [hRr]; exact hlt) (fun h => h)).trans hh
          have hen := run_entry_at (P := Tryz.prog) (setBlock w2 Rr (.mapIter (some m) ck (seen.push e.born) ck)) Rr m ck seen es ck e hr2 hb2 hem.1 HST.out.2.1
          rw [hv] at hen
          have hnn : ((vis (seen.push e.born) es.toList (L.map (·.2))).filter (isAhead n2 n1)).length = n + ([p.2].filter (isAhead n2 n1)).length := by
            rw [(hst1.filter _).length_eq, List.filter_append, List.length_append, ← hn]
          have hnb : n ≤ 1000000 := by
            have h1 := List.length_filter_le (isAhead n2 n1) (vis seen es.toList (L.map (·.2)))
            have h2 := vis_len (seen := seen) es.toList (L.map (·.2))
            rw [List.length_map] at h2
            omega
          have HNN := Lib.hid hnn
          have HMS := Lib.hid (left_shrinks es seen e he)
          have HR := Lib.hid hr
          obtain ⟨key, m1, m2, m3, sa, sn, sc, sk, su⟩ := p
          simp only [hvV] at hrun hnx hen
          clear hst1 hg hei hpi hn hk hnn hv
          generalize setBlock w2 Rr (.mapIter (some m) ck (seen.push e.born) ck) = w3 at *
          have hk3 : Kept noBlock w1 (w3.alloc (.cells #[.string m1, .string m2, .string m3, .slice sa sn sc, .bool su] 48)) := hk2.alloc _
          have hb : Blk (w3.alloc (.cells #[.string m1, .string m2, .string m3, .slice sa sn sc, .bool su] 48)) w3.heap.size 48 #[.string m1, .string m2, .string m3, .slice sa sn sc, .bool su] := Blk.new _ _ _
          have u0 := hb.cell 0
          have u1 := hb.cell 1
          have v0 := (HB.out.kept hk3 (fun e => e)).cell 0
          have v1 := (HB.out.kept hk3 (fun e => e)).cell 1
          simp only [List.getElem?_toArray, List.getElem?_cons_succ, List.getElem?_cons_zero] at u0 u1 v0 v1
          have hr3 := (heap_alloc_old w3 (.cells #[.string m1, .string m2, .string m3, .slice sa sn sc, .bool su] 48) (lt_of_heap hr2)).trans hr2
          have HR3 := Lib.hid hr3
          have HK3 := Lib.hid hk3
          have hw1 : IntKind.i64.wrap ((n : Int) + 1) = (n : Int) + 1 := by rw [IntKind.wrap_i64]; omega
          clear hk2 hb hr2 hb2 hr3 hk3 y0r y1r t1r
          by_cases hd : m2 = n2
          · subst hd
            have hbe2 := strEq_self m2
            by_cases hl : nlt m1 n1
            · have hl2 : Op.bytesLess m1.toList n1.toList = true := by rw [less_nlt]; exact decide_eq_true hl
              have HC : Hid (([(⟨m1, m2, m3, sa, sn, sc, sk, su⟩ : HV)].filter (isAhead m2 n1)).length = 1) := Lib.hid (by simp [isAhead, hl])
              clear hl
              go_wp2_with fail
              go_roundw
              case rel => exact ⟨_, ck, n + 1, by go_num, HR3.out, Nat.le_refl _, by rw [HNN.out, HC.out], HK3.out⟩
              case measure =>
                rw [iterSeen_is HR3.out, iterSeen_is HR.out]
                exact HMS.out
            · have hl2 : Op.bytesLess m1.toList n1.toList = false := by rw [less_nlt]; exact decide_eq_false hl
              have HC : Hid (([(⟨m1, m2, m3, sa, sn, sc, sk, su⟩ : HV)].filter (isAhead m2 n1)).length = 0) := Lib.hid (by simp [isAhead, hl])
              clear hl
              go_wp2_with fail
              go_roundw
              case rel => exact ⟨_, ck, n, rfl, HR3.out, Nat.le_refl _, by rw [HNN.out, HC.out]; rfl, HK3.out⟩
              case measure =>
                rw [iterSeen_is HR3.out, iterSeen_is HR.out]
                exact HMS.out
          · have hbe2 := strEq_ne hd
            have HC : Hid (([(⟨m1, m2, m3, sa, sn, sc, sk, su⟩ : HV)].filter (isAhead n2 n1)).length = 0) := Lib.hid (by simp [isAhead, hd])
            clear hd
            go_wp2_with fail
            go_roundw
            case rel => exact ⟨_, ck, n, rfl, HR3.out, Nat.le_refl _, by rw [HNN.out, HC.out]; rfl, HK3.out⟩
            case measure =>
              rw [iterSeen_is HR3.out, iterSeen_is HR.out]
              exact HMS.out
end
end Go.Proofs.YtepikngkbondgaaGreat
namespace Go.Proofs.YtepikngkbondgaaGreat
set_option linter.unusedVariables false
open Go.RowKit Go.Sort Go.Shelf

def cmpN (a b : ByteArray) : Int := if nlt a b then -1 else if nlt b a then 1 else 0
theorem nanS_at (a : ByteArray) (w : World) : Calls Tryz.prog 56 #[.string a] w fun e w' => e = .returned (.bool false) ∧ w' = w := by
  have hb := strEq_self a
  go_enter Tryz.func56, Tryz.ntmps56
  go_wp2
  go_ret
  exact ⟨by simp, rfl⟩
theorem cmpS_at (a b : ByteArray) (w : World) : Calls Tryz.prog 39 #[.string a, .string b] w fun e w' => e = .returned (.int .i64 (cmpN a b)) ∧ w' = w := by
  by_cases h1 : nlt a b
  · have hz : cmpN a b = -1 := by unfold cmpN; rw [if_pos h1]
    have hl : Op.bytesLess a.toList b.toList = true := by rw [less_nlt]; exact decide_eq_true h1
    rw [hz]
    clear hz h1
    go_enter Tryz.func39, Tryz.ntmps39
    go_wp2_with (go_at_call 56; refine (nanS_at _ _).mono ?_; rintro e w' ⟨rfl, rfl⟩)
    go_ret
    exact ⟨rfl, rfl⟩
  · have hl : Op.bytesLess a.toList b.toList = false := by rw [less_nlt]; exact decide_eq_false h1
    by_cases h2 : nlt b a
    · have hz : cmpN a b = 1 := by unfold cmpN; rw [if_neg h1, if_pos h2]
      have hbe := strEq_ne (show a ≠ b from fun e => nlt_irrefl b (by rw [e] at h2; exact h2))
      rw [hz]
      clear hz h1 h2
      go_enter Tryz.func39, Tryz.ntmps39
      go_wp2_with (go_at_call 56; refine (nanS_at _ _).mono ?_; rintro e w' ⟨rfl, rfl⟩)
      go_ret
      exact ⟨rfl, rfl⟩
    · have hz : cmpN a b = 0 := by unfold cmpN; rw [if_neg h1, if_neg h2]
      obtain rfl := nlt_tri h1 h2
      have hbe := strEq_self a
      rw [hz]
      clear hz h1 h2
      go_enter Tryz.func39, Tryz.ntmps39
      go_wp2_with (go_at_call 56; refine (nanS_at _ _).mono ?_; rintro e w' ⟨rfl, rfl⟩)
      go_ret
      exact ⟨rfl, rfl⟩
theorem hAll1_at (a b : HV) (w : World) : Calls Tryz.prog 38 #[.agg (hvC a).toArray, .agg (hvC b).toArray] w fun e w' => e = .returned (.int .i64 (cmpN a.name b.name)) ∧ Grew w w' := by
  obtain ⟨a1, a2, a3, a4, a5, a6, a7, a8⟩ := a
  obtain ⟨b1, b2, b3, b4, b5, b6, b7, b8⟩ := b
  unfold hvC
  simp only []
  go_enter Tryz.func38, Tryz.ntmps38
  go_wp2_with (go_at_call 39; refine (cmpS_at _ _ _).mono ?_; rintro e w' ⟨rfl, rfl⟩)
  go_ret
  exact ⟨rfl, ((Grew.refl _).alloc _).alloc _⟩
def cmpH (a b : HV) : Int := cmpN a.name b.name
theorem cmpH_lt (a b : HV) : Go.Proofs.ltOf cmpH a b = decide (nlt a.name b.name) := by
  unfold Go.Proofs.ltOf cmpH cmpN
  by_cases h1 : nlt a.name b.name
  · simp [h1]
  · by_cases h2 : nlt b.name a.name <;> simp [h1, h2]
theorem cmpH_swo : SWO (Go.Proofs.ltOf cmpH) where
  irrefl x := by rw [cmpH_lt]; exact decide_eq_false (nlt_irrefl _)
  trans x y z := by simp only [cmpH_lt, decide_eq_true_eq]; exact nlt_trans
  ntrans x y z := by
    simp only [cmpH_lt, decide_eq_false_iff_not]
    intro h1 h2 h3
    by_cases e : nlt y.name x.name
    · exact h2 (nlt_trans e h3)
    · have := nlt_tri h1 e
      rw [this] at h3
      exact h2 h3
instance : Inhabited HV := ⟨⟨noStr, noStr, noStr, none, 0, 0, [], false⟩⟩
theorem hvC_len (l : List HV) : (l.flatMap hvC).length = l.length * 5 := flat_len (k := 5) (fun _ => rfl) l
theorem HSort_at {W : World} {n₀ : Nat} {v : Value} {xs : List HV} (hown : W.ownsRow n₀ 48 5 v xs.length (xs.flatMap hvC)) (hlen : xs.length ≤ 1000000) :
    Calls Tryz.prog 54 #[v, .func (.func 38) #[] #[]] W fun e w' => e = .returned (.tuple #[]) ∧ ∃ S : List HV, S.Perm xs ∧ S.Pairwise (fun a b => ¬ nlt b.name a.name) ∧ w'.ownsRow n₀ 48 5 v xs.length (S.flatMap hvC) ∧ Kept (fun i => v.ownBlock = some i) W w' := by
  obtain ⟨hl, hown⟩ := hown
  rcases hown with ⟨rfl, h0⟩ | ⟨g', cap, cur, rfl, hb, hh, hnc, hm, hcs, hx⟩
  · have : xs = [] := List.eq_nil_of_length_eq_zero h0
    subst this
    refine Calls.mono (AnyF.slices_SortFunc_none { Tryz.hsort with } none 0 _ W) ?_
    rintro e w' ⟨rfl, rfl⟩
    exact ⟨rfl, [], .nil, .nil, World.ownsRow_nil _ _ _ _, Kept.refl _ _⟩
  · have hsz : xs.toArray.size = xs.length := by simp
    have hfz : (flatK hvC 5 xs.toArray).size = xs.length * 5 := by simp
    have hcell : ∀ (d : List HV) (j : Nat), j < d.length * 5 → some ((flatK hvC 5 d.toArray)[j]!) = (d.flatMap hvC)[j]? := by
      intro d j hj
      rw [← flatK_list (enc := hvC) (k := 5) (fun _ => rfl) d, Array.getElem?_toList]
      have : j < (flatK hvC 5 d.toArray).size := by simpa using hj
      rw [getElem!_pos _ j this, Array.getElem?_eq_getElem this]
    have hH : HoldsK hvC 5 W g' 0 xs.toArray := by
      intro j hj
      rw [hfz] at hj
      refine ⟨?_, by simp [World.frozen?, hh]⟩
      rw [cell_of_row W g' (0 + j) cur _ _ hh, Nat.zero_add]
      have h1 : (cur.toList.take (xs.length * 5))[j]? = (xs.flatMap hvC)[j]? := by rw [hx]
      rw [List.getElem?_take_of_lt hj, Array.getElem?_toList] at h1
      rw [h1, ← hcell xs j hj]
      rfl
    have hcmp : CmpLays Tryz.prog 38 #[] hvC 5 cmpH g' 0 xs.toArray.size W := by
      intro m os dk hs x y
      exact hAll1_at x y _
    have hcon := AnyQ.slices_SortFunc Tryz.hsort 5 (Tryz.isAgg48) (Tryz.sizeOf48) hvC (fun _ => rfl) (fun x v hv => by
      simp only [hvC, List.mem_cons, List.not_mem_nil, or_false] at hv
      rcases hv with rfl | rfl | rfl | rfl | rfl <;> rfl) cmpH cmpH_swo 38 #[] g' 0 cap xs.toArray W (enters_of Tryz.func38 (by kernel_rfl) rfl) hcmp hH (lt_of_heap hh) (by rw [hsz]; omega)
    rw [hsz] at hcon
    refine Calls.mono hcon ?_
    rintro e w' ⟨rfl, d', m, os, hp, hs, rfl⟩
    obtain ⟨hp1, -, hp3⟩ := hp
    have hd : d'.size = xs.length := by rw [hp1, hsz]
    have hperm : d'.toList.Perm xs := by
      have e1 : (d'.extract 0 xs.length).toList = d'.toList := by rw [← hd]; simp
      have e2 : (xs.toArray.extract 0 xs.length).toList = xs := by simp
      rw [e1, e2] at hp3
      exact hp3
    have hdl : d'.toList.length = xs.length := by rw [Array.length_toList, hd]
    refine ⟨rfl, d'.toList, hperm, ?_, ⟨by rw [hvC_len, hdl], .inr ⟨g', cap, _, rfl, hb, swv_block hh, hnc, hm, by rw [put_size]; exact hcs, ?_⟩⟩, swv_kept.mono fun i _ e => by simp [Value.ownBlock, e]⟩
    · rw [List.pairwise_iff_getElem]
      intro i j hi hj hij
      rw [hdl] at hi hj
      have h1 := hs i j (Nat.zero_le _) hij hj
      rw [cmpH_lt, decide_eq_false_iff_not, getElem!_pos d' j (by omega), getElem!_pos d' i (by omega)] at h1
      simp only [Array.getElem_toList]
      exact h1
    · have hpt := put_take (enc := (id : Value → Value)) (cur := cur) (l := d'.toList.flatMap hvC) (by rw [hvC_len, hdl]; have : xs.length * 5 ≤ cap * 5 := Nat.mul_le_mul_right _ hnc; omega)
      rw [List.map_id, hvC_len, hdl] at hpt
      have e1 : flatK hvC 5 d' = (d'.toList.flatMap hvC).toArray := by
        have := flatK_list (enc := hvC) (k := 5) (fun _ => rfl) d'.toList
        rw [← this]
      rw [e1]
      exact hpt
end Go.Proofs.YtepikngkbondgaaGreat
namespace Go.Proofs.YtepikngkbondgaaGreat
set_option linter.unusedVariables false
open Go.RowKit Go.Shelf
open Go.ChangeMaps (setBlock)
attribute [local go_sem] Oper.semAt_some

theorem Vals_stops (F : Fence) (n : Nat) (hF : F.fn 55) (hro : F.round = none) (hn : 1 ≤ n) (Bm m : Nat) (L : List (ByteArray × HV)) (w : World) (hBm : Bm < w.heap.size)
    (hm : w.cell? ⟨Bm, 0, none⟩ = some (.map (some m))) (hmap : HoMap w m L) :
    SeqStopsK F n Tryz.prog 55 #[.pointer (some ⟨Bm, 0, none⟩)] (fun x => #[hvV x]) KeepsWalks (fun xs => xs.Perm (L.map (·.2))) (fun _ => True) L.length w := fun l J Jx W hW hJ _ hY h0 =>
  Vals1_in F n hF hro hn l Bm m L J Jx hY W hJ ((hW.cell (p := ⟨Bm, 0, none⟩) hBm).trans hm) (hmap.keep (hW.block m hmap.lt)) h0
theorem hVals_at (m : Nat) (w : World) : Calls Tryz.prog 37 #[.map (some m)] w fun e w' => e = .returned (.func (.func 55) #[] #[.pointer (some ⟨w.heap.size, 0, none⟩)]) ∧ w' = w.alloc (.cells #[.map (some m)] 91) := by
  go_enter Tryz.func37, Tryz.ntmps37
  go_wp2
  go_ret
  exact ⟨rfl, rfl⟩

theorem hHsM : Tryz.prog.underlying 22 = some (.slice 48) := by kernel_rfl
theorem hostInfo : (Tryz.prog.info? 48).map (fun i => (i.zero, i.size, i.bytes)) = some (some (.agg #[.string noStr, .string noStr, .string noStr, .slice none 0 0, .bool false]), 5, 80) := by kernel_rfl

theorem Blk.grownH {w w' : World} {g : Nat} {t : TypeId} {cs : Array Value} {row : Option Nat} (h : Blk w g t cs) (hg : w.grownBy w' row) (hr : ∀ r, row = some r → ∃ o : Obj, w.heap[r]? = some o ∧ o.isCells = false) : Blk w' g t cs := by
  refine (hg.block g h.lt fun e => ?_).trans h
  obtain ⟨o, ho, hc⟩ := hr g e.symm
  unfold Blk at h
  rw [h] at ho
  cases ho
  cases hc
/-- AppendSeq's rounds: the box holds an own row of what has come. -/
def SeqI (w : World) (pre : List HV) (W : World) : Prop := Kept noBlock w W ∧ ∃ v, Boxed W w.heap.size 22 v ∧ W.ownsRow w.heap.size 48 5 v pre.length (pre.flatMap hvC)
theorem SeqI.grown {w W W' : World} {pre : List HV} {row : Option Nat} (h : SeqI w pre W) (hg : W.grownBy W' row) (hr : ∀ r, row = some r → w.heap.size ≤ r ∧ ∃ o : Obj, W.heap[r]? = some o ∧ o.isCells = false) : SeqI w pre W' := by
  obtain ⟨hk, v, hb, ho⟩ := h
  refine ⟨hk.grown hg (fun k e hlt => absurd (hr k e).1 (Nat.not_le.2 hlt)), v, hb.kept hg (fun e => ?_), ho.kept hg ?_⟩
  · obtain ⟨_, o, h1, h2⟩ := hr _ e.symm
    rw [show W.heap[w.heap.size]? = _ from hb] at h1
    cases h1
    cases h2
  · cases hv : v.ownBlock with
    | none => exact .inl rfl
    | some g =>
      refine .inr fun e => ?_
      obtain ⟨_, o, h1, h2⟩ := hr _ e.symm
      obtain ⟨_, cs, h3⟩ := own_type ho hv
      rw [h3] at h1
      cases h1
      cases h2

set_option maxRecDepth 100000 in
set_option maxHeartbeats 8000000 in
theorem hAppSeq_in {w : World} {Bm m : Nat} {L : List (ByteArray × HV)} (hm : w.cell? ⟨Bm, 0, none⟩ = some (.map (some m))) (hBm : Bm < w.heap.size) (hmap : HoMap w m L) (hL : L.length ≤ 100000) :
    CallsIn Fence.wide 6 Tryz.prog 76 #[.slice none 0 0, .func (.func 55) #[] #[.pointer (some ⟨Bm, 0, none⟩)]] w fun e w' =>
      ∃ (v : Value) (xs : List HV), e = .returned v ∧ xs.Perm (L.map (·.2)) ∧ w'.ownsRow w.heap.size 48 5 v xs.length (xs.flatMap hvC) ∧ Kept noBlock w w' := by
  have HM := Lib.hid hm
  have HP := Lib.hid hmap
  clear hm hmap
  refine callsIn_of_wp_marks Tryz.func76 rfl trivial ?_ rfl
  simp only [Tryz.ntmps76, List.size_toArray, List.length_cons, List.length_nil, Nat.reduceAdd, Nat.reduceSub, Array.replicate_succ, Array.replicate_zero, List.push_toArray, List.append_toArray, List.nil_append, List.cons_append]
  gi_wp2
  have hm1 : (w.alloc (.cells #[.slice none 0 0] 22)).cell? ⟨Bm, 0, none⟩ = some (.map (some m)) := by rw [World.cell?_of_block (heap_alloc_old w _ hBm)]; exact HM.out
  have hp1 : HoMap (w.alloc (.cells #[.slice none 0 0] 22)) m L := HP.out.alloc _
  have h00 : SeqI w [] (w.alloc (.cells #[.slice none 0 0] 22)) := ⟨(Kept.refl _ _).alloc _, _, Boxed.new _ _ _, World.ownsRow_nil _ _ _ _⟩
  have hsz : (w.alloc (.cells #[.slice none 0 0] 22)).heap.size = w.heap.size + 1 := by simp
  have hin : ∀ pre W, SeqI w pre W → (w.alloc (.cells #[.slice none 0 0] 22)).heap.size ≤ W.heap.size := fun pre W h => by
    obtain ⟨_, v, hb, _⟩ := h
    have := hb.lt
    omega
  have HSZ := Lib.hid hin
  clear hin
  generalize w.alloc (.cells #[.slice none 0 0] 22) = W0 at *
  refine wpIn_rangeFunc_ownH (α := HV) rfl (by decide) (gf := 55) (lb := #[.pointer (some ⟨Bm, 0, none⟩)]) rfl trivial (enters_of Tryz.func55 (by kernel_rfl) rfl)
    (Vals_stops Fence.wide (6 - 1) trivial rfl (by decide) Bm m L W0 (by omega) hm1 hp1) walksK_t walksK_b (Below.refl _ _) (fun _ => rfl)
    (SeqI w) (fun _ _ _ => False)
    (fun s W W' row hs hg hr => hs.grown hg fun r e => ⟨by have := (hr r e).1; omega, (hr r e).2⟩)
    (fun _ _ _ _ _ hs _ _ => hs)
    h00
    (fun x a' W => ∃ Bx, W0.heap.size ≤ Bx ∧ Blk W Bx 48 (hvC x).toArray ∧ a' = { tmps := #[.slice none 0 0, .func (.func 55) #[] #[.pointer (some ⟨Bm, 0, none⟩)], .pointer (some ⟨w.heap.size, 0, none⟩), undef, .slice none 0 0, .pointer (some ⟨Bx, 0, none⟩), .func (.func 55) #[] #[.pointer (some ⟨Bm, 0, none⟩)], hvV x, undef, undef, undef, undef, undef], defers := [] })
    (fun x a' s W W' row hs hg hr => by
      obtain ⟨Bx, h1, h2, h3⟩ := hs
      exact ⟨Bx, h1, h2.grownH hg fun r e => (hr r e).2, h3⟩) ?assign ?body ?done ?stop
  case assign =>
    rintro l pre ⟨x1, x2, x3, x4, x5, x6, x7, x8⟩ W K hI hK
    simp only [hvV]
    gi_wp2
    exact hK _ _ ((KeepsOthers.alloc _ _).from _) (KeepsWalks.alloc _ _) (hI.grown (World.grownBy_alloc W _ none) (fun r e => by cases e)) ⟨W.heap.size, by have := HSZ.out _ _ hI; omega, Blk.new _ _ _, rfl⟩
  case body =>
    rintro l pre x a' W hl ⟨r, hr⟩ ⟨hk, v, hv, hrow⟩ ⟨Bx, hBx, hbx, rfl⟩ hlt
    obtain ⟨x1, x2, x3, x4, x5, x6, x7, x8⟩ := x
    simp only [hvV, hvC] at hbx ⊢
    have y0 := hbx.cell 0
    have y1 := hbx.cell 1
    have y2 := hbx.cell 2
    have y3 := hbx.cell 3
    have y4 := hbx.cell 4
    simp only [List.getElem?_toArray, List.getElem?_cons_succ, List.getElem?_cons_zero] at y0 y1 y2 y3 y4
    have hc := hv.cell
    have hks := hk.size
    obtain ⟨i0, hi, hz0, hz1, hz2⟩ := info_parts hostInfo
    gi_wp2_with (gi_at_builtin; refine wpListIn_append_own _ rfl _ _ 22 rfl w.heap.size 48 i0 _ 5 80 hHsM hi hz0 hz1 hz2 rfl (by decide) _ _ _ rfl (hrow.alloc _) ⟨W.heap.size, 0, none⟩ 1 1 (hvC ⟨x1, x2, x3, x4, x5, x6, x7, x8⟩) rfl rfl ?b0 (by simp [hvC, Value.oneCell']) ?b1 ?b2 ?b3 ?_)
    case b0 =>
      intro j u hu
      have h1 := (Blk.new W 48 #[.string x1, .string x2, .string x3, .slice x4 x5 x6, .bool x8]).cell j
      rw [List.getElem?_toArray] at h1
      simp only [Addr.add, Nat.zero_add]
      by_cases hj : j = 0
      · subst hj; exact h1.trans hu
      · rw [if_neg hj]; exact h1.trans hu
    case b1 => unfold maxLen; omega
    case b2 => omega
    case b3 => show _ ≤ (W.alloc _).heap.size; rw [sz_alloc]; omega
    intro v' w1 hown' hgrow _
    obtain ⟨g', cap', rfl⟩ := ownsRow_succ hown'
    obtain ⟨hv1, hv2, hr2, hk2, hb2⟩ := hv.appended (by decide) hrow hks (Nat.le_refl _) hown' hgrow
    have hc1 := hv1.cell
    have hf1 := hv1.frozen
    gi_wp2
    refine ⟨hk2.from _, hk2.walks, hk.trans (T := fun i => w.heap.size ≤ i) ⟨hb2.os, hb2.tape, hb2.output, hb2.size, fun k hk hn => hb2.block k (by omega)⟩ (fun i hi e => by omega), _, hv2, by simpa using hr2⟩
  case stop =>
    rintro D c pre W _ _ h _
    exact h.elim
  case done =>
    rintro D xs W hD hS ⟨hk, v, hv, hrow⟩ hdef
    have hc := hv.cell
    gi_wp2
    have hD1 : w.heap.size < D := by omega
    have hg : W.grownBy (W.putObj D (.deferred none)) (some D) := ⟨rfl, rfl, rfl, by simp, fun k _ hk => World.putObj_heap_other (fun e => hk (by rw [e]))⟩
    have hfin : SeqI w xs (W.putObj D (.deferred none)) := SeqI.grown ⟨hk, v, hv, hrow⟩ hg fun r e => by cases e; exact ⟨by omega, _, hdef, rfl⟩
    refine ⟨by simp, .inl ⟨_, _, rfl, run_takeDeferred hdef, ?_⟩⟩
    obtain ⟨hk3, v3, hv3, ho3⟩ := hfin
    obtain rfl : v3 = v := by
      have e1 := (hv.kept hg (fun e => by cases e; omega)).symm.trans hv3
      cases e1
      rfl
    exact ⟨_, results_tmp rfl _ _ _, v3, xs, rfl, hS, ho3, hk3⟩
end Go.Proofs.YtepikngkbondgaaGreat
namespace Go.Proofs.YtepikngkbondgaaGreat
set_option linter.unusedVariables false
open Go.RowKit

section
variable {w w' W : World} {base : Nat} {S : Nat → Prop}
theorem own_base {B : Nat} {e : TypeId} {sz n : Nat} {v : Value} {xs : List Value} (h : w.ownsRow base e sz v n xs) (hB : B ≤ base) : w.ownsRow B e sz v n xs := by
  obtain ⟨hl, h⟩ := h
  refine ⟨hl, ?_⟩
  rcases h with h | ⟨g, cap, cur, rfl, hb, r⟩
  · exact .inl h
  · exact .inr ⟨g, cap, cur, rfl, Nat.le_trans hB hb, r⟩
theorem Fam.two {L : List Rw} {a b : Rw} (h : Fam w base L) (i j : Nat) (hij : i ≠ j) (hi : L[i]? = some a) (hj : L[j]? = some b) : Fam w base [a, b] := by
  refine ⟨fun m r hm => ?_, fun m n x y hmn hm hn k hk => ?_⟩
  · rcases m with _ | _ | m
    · cases hm; exact h.1 i a hi
    · cases hm; exact h.1 j b hj
    · simp at hm
  · rcases m with _ | _ | m <;> rcases n with _ | _ | n
    · exact absurd rfl hmn
    · cases hm; cases hn; exact h.2 i j a b hij hi hj k hk
    · simp at hn
    · cases hm; cases hn; exact h.2 j i b a (fun e => hij e.symm) hj hi k hk
    · exact absurd rfl hmn
    · simp at hn
    · simp at hm
    · simp at hm
    · simp at hm
/-- What a call has made stands beside what was there. -/
theorem Fam.join {L M : List Rw} {B : Nat} (h : Fam w B L) (hk : Kept noBlock w w') (hb : w.heap.size ≤ base) (hB : B ≤ base) (h2 : Fam w' base M) : Fam w' B (L ++ M) := by
  have h1 := h.keptN hk
  have key : ∀ (i : Nat) (r : Rw), (L ++ M)[i]? = some r → (i < L.length ∧ L[i]? = some r) ∨ (L.length ≤ i ∧ M[i - L.length]? = some r) := by
    intro i r hr
    by_cases hl : i < L.length
    · rw [List.getElem?_append_left hl] at hr; exact .inl ⟨hl, hr⟩
    · rw [List.getElem?_append_right (by omega)] at hr; exact .inr ⟨by omega, hr⟩
  have cross : ∀ (i j : Nat) (a b : Rw), L[i]? = some a → M[j]? = some b → ∀ k, a.v.ownBlock = some k → b.v.ownBlock ≠ some k := by
    intro i j a b ha hb' k e e2
    have h3 := own_lt (h.1 i a ha) e
    have h4 := (own_type (h2.1 j b hb') e2).1
    omega
  refine ⟨fun i r hr => ?_, fun i j a b hij ha hb' k hk' => ?_⟩
  · rcases key i r hr with ⟨_, e⟩ | ⟨_, e⟩
    · exact h1.1 i r e
    · exact own_base (h2.1 _ r e) hB
  · rcases key i a ha with ⟨l1, e1⟩ | ⟨l1, e1⟩ <;> rcases key j b hb' with ⟨l2, e2⟩ | ⟨l2, e2⟩
    · exact h1.2 i j a b hij e1 e2 k hk'
    · exact cross i _ a b e1 e2 k hk'
    · exact fun e => cross j _ b a e2 e1 k e hk'
    · exact h2.2 _ _ a b (by omega) e1 e2 k hk'
end
end Go.Proofs.YtepikngkbondgaaGreat
namespace Go.Proofs.YtepikngkbondgaaGreat
set_option linter.unusedVariables false
open Go.RowKit Go.Shelf

theorem hCollect_at {w : World} {Bm m : Nat} {L : List (ByteArray × HV)} (hm : w.cell? ⟨Bm, 0, none⟩ = some (.map (some m))) (hBm : Bm < w.heap.size) (hmap : HoMap w m L) (hL : L.length ≤ 100000) :
    Calls Tryz.prog 53 #[.func (.func 55) #[] #[.pointer (some ⟨Bm, 0, none⟩)]] w fun e w' =>
      ∃ (v : Value) (xs : List HV), e = .returned v ∧ xs.Perm (L.map (·.2)) ∧ w'.ownsRow w.heap.size 48 5 v xs.length (xs.flatMap hvC) ∧ Kept noBlock w w' := by
  have key := callsIn_wide.1 (hAppSeq_in hm hBm hmap hL)
  go_enter Tryz.func53, Tryz.ntmps53
  go_wp2_with (go_at_call 76; refine key.mono ?_; rintro e w' ⟨v, xs, rfl, hp, ho, hk⟩)
  go_ret
  exact ⟨v, xs, rfl, hp, ho, hk⟩

theorem hSortedF_at {w : World} {Bm m : Nat} {L : List (ByteArray × HV)} (hm : w.cell? ⟨Bm, 0, none⟩ = some (.map (some m))) (hBm : Bm < w.heap.size) (hmap : HoMap w m L) (hL : L.length ≤ 100000) :
    Calls Tryz.prog 36 #[.func (.func 55) #[] #[.pointer (some ⟨Bm, 0, none⟩)], .func (.func 38) #[] #[]] w fun e w' =>
      ∃ (v : Value) (S : List HV), e = .returned v ∧ S.Perm (L.map (·.2)) ∧ S.Pairwise (fun a b => ¬ nlt b.name a.name) ∧ w'.ownsRow w.heap.size 48 5 v S.length (S.flatMap hvC) ∧ Kept noBlock w w' := by
  have key := hCollect_at hm hBm hmap hL
  go_enter Tryz.func36, Tryz.ntmps36
  go_wp2_with (go_at_call 53; refine key.mono ?_; rintro e w1 ⟨v, xs, rfl, hp, ho, hk⟩)
  have hlen : xs.length ≤ 1000000 := by
    have := hp.length_eq
    rw [List.length_map] at this
    omega
  have hs := HSort_at ho hlen
  have HO := Lib.hid ho
  have HP := Lib.hid hp
  have HK := Lib.hid hk
  clear ho hp hk hlen key hm hmap hL
  go_wp2_with (go_at_call 54; refine hs.mono ?_; rintro e w2 ⟨rfl, S, hp2, hs2, ho2, hk2⟩)
  go_ret
  have e1 : S.length = xs.length := hp2.length_eq
  refine ⟨v, S, rfl, hp2.trans HP.out, hs2, by rw [e1]; exact ho2, HK.out.trans hk2 fun i hi e => ?_⟩
  exact absurd hi (Nat.not_lt.2 (own_type HO.out e).1)

theorem hostsT : SlT Tryz.prog 22 48 (.agg #[.string noStr, .string noStr, .string noStr, .slice none 0 0, .bool false]) 5 80 := ⟨hHsM, hostInfo, rfl, by decide, by decide⟩
theorem flat_setK {α : Type} {f : α → List Value} {k : Nat} (hf : ∀ a, (f a).length = k) {a' : α} {j : Nat} {u : Value} (hj : j < k) : ∀ (l : List α) (i : Nat) (a : α), l[i]? = some a → f a' = (f a).set j u → (l.flatMap f).set (i * k + j) u = (l.set i a').flatMap f
  | [], _, _, h, _ => by simp at h
  | b :: l, 0, a, h, e => by
    simp only [List.getElem?_cons_zero, Option.some.injEq] at h
    subst h
    rw [List.set_cons_zero, List.flatMap_cons, List.flatMap_cons, e, Nat.zero_mul, Nat.zero_add, List.set_append_left _ _ (by rw [hf]; exact hj)]
  | b :: l, i + 1, a, h, e => by
    simp only [List.getElem?_cons_succ] at h
    have ih := flat_setK hf hj l i a h e
    rw [List.set_cons_succ, List.flatMap_cons, List.flatMap_cons, ← ih, List.set_append_right _ _ (by rw [hf, Nat.succ_mul]; omega), hf]
    congr 2
    rw [Nat.succ_mul]
    omega
theorem ownH_at {w : World} {base : Nat} {v : Value} {L : List HV} {n i : Nat} {x : HV} (h : w.ownsRow base 48 5 v n (L.flatMap hvC)) (hi : L[i]? = some x) :
    ∃ g cap off, v = .slice (some ⟨g, 0, none⟩) n cap ∧ off = i * 5 ∧ base ≤ g ∧ (∃ cs, w.heap[g]? = some (.cells cs 48 (0, 0))) ∧ (∀ kd w', (Instr.indexAt 22 v (.int kd (i : Int))).run Tryz.prog w' = .ok (.pointer (some ⟨g, off, none⟩)) w') ∧
      w.cell? ⟨g, off, none⟩ = some (.string x.name) ∧ w.cell? ⟨g, off + 1, none⟩ = some (.string x.dc) ∧ w.cell? ⟨g, off + 2, none⟩ = some (.string x.rack) ∧ w.cell? ⟨g, off + 3, none⟩ = some (.slice x.ta x.tn x.tc) ∧ w.cell? ⟨g, off + 4, none⟩ = some (.bool x.up) := by
  have hs := Sl.of_own h
  have hlt : i < n := by
    have h1 := (List.getElem?_eq_some_iff.1 hi).1
    have h2 := h.1
    rw [hvC_len] at h2
    omega
  rcases h.2 with ⟨rfl, rfl⟩ | ⟨g, cap, cs, rfl, hb, hg, -⟩
  · omega
  refine ⟨g, cap, i * 5, rfl, rfl, hb, ⟨cs, hg⟩, fun kd w' => ?_, ?_, ?_, ?_, ?_, ?_⟩
  · have hi2 : (i : Int) < (n : Int) := by omega
    simp [Instr.indexAt, asIntOf, run_underlying hostsT.ht, hostsT.run_size, hlt, Addr.add_lit]
  · exact (h.cellAt (i * 5 + 0) (by omega)).trans ((flat_get (k := 5) (fun _ => rfl) L i 0 x hi (by decide)).trans rfl)
  · exact (h.cellAt (i * 5 + 1) (by omega)).trans ((flat_get (k := 5) (fun _ => rfl) L i 1 x hi (by decide)).trans rfl)
  · exact (h.cellAt (i * 5 + 2) (by omega)).trans ((flat_get (k := 5) (fun _ => rfl) L i 2 x hi (by decide)).trans rfl)
  · exact (h.cellAt (i * 5 + 3) (by omega)).trans ((flat_get (k := 5) (fun _ => rfl) L i 3 x hi (by decide)).trans rfl)
  · exact (h.cellAt (i * 5 + 4) (by omega)).trans ((flat_get (k := 5) (fun _ => rfl) L i 4 x hi (by decide)).trans rfl)

theorem SlK.of_ownB {w : World} {base : Nat} {e : TypeId} {sz n : Nat} {v : Value} {xs : List Value} (h : w.ownsRow base e sz v n xs) : SlK w (fun k e' => base ≤ k ∧ e' = e) sz v n xs := by
  obtain ⟨hl, h⟩ := h
  rcases h with ⟨rfl, rfl⟩ | ⟨g, cap, cur, rfl, hb, hh, hnc, hm, _, hx⟩
  · exact ⟨hl, none, 0, rfl, Nat.le_refl _, Nat.zero_le _, .inl ⟨rfl, rfl⟩⟩
  · refine ⟨hl, _, _, rfl, hnc, hm, .inr ⟨g, 0, cur, e, (0, 0), rfl, hh, ⟨hb, rfl⟩, fun j u hu => ?_⟩⟩
    rw [← hx] at hu
    have hj : j < n * sz := by
      have := (List.getElem?_eq_some_iff.1 hu).1
      simp at this; omega
    rw [List.getElem?_take_of_lt hj] at hu
    simpa using hu
/-- What stands behind i rounds of All: T, whose first i hosts have tokens of their own. -/
def AllR (w : World) (S : List HV) (v : Value) (i : Nat) (wr : World) : Prop :=
  ∃ T : List HV, T.map HV.abs = S.map HV.abs ∧ T.drop i = S.drop i ∧ wr.ownsRow w.heap.size 48 5 v T.length (T.flatMap hvC) ∧ (∀ x ∈ T.take i, wr.ownsRow w.heap.size 2 1 x.tv x.tn (x.toks.map (Value.int .i64))) ∧ Kept noBlock w wr

set_option maxRecDepth 100000 in
set_option maxHeartbeats 4000000 in
theorem hAll_at {w : World} {own : Nat → Prop} {g m : Nat} {dc : ByteArray} {rem : Int} {L : List (ByteArray × HV)} (hT : TabAt w own g m dc rem L) (hL : L.length ≤ 100000) (hk : ∀ p ∈ L, p.2.tn ≤ 1000000) :
    Calls Tryz.prog 17 #[.pointer (some ⟨g, 0, none⟩)] w fun e w' =>
      ∃ (v : Value) (T : List HV), e = .returned v ∧ (T.map HV.abs).Perm (L.map fun p => p.2.abs) ∧ T.Pairwise (fun a b => ¬ nlt b.name a.name) ∧ w'.ownsRow w.heap.size 48 5 v T.length (T.flatMap hvC) ∧
        (∀ x ∈ T, w'.ownsRow w.heap.size 2 1 x.tv x.tn (x.toks.map (Value.int .i64))) ∧ Kept noBlock w w' := by
  have c2 := hT.blk.cell 2
  simp only [List.getElem?_toArray, List.getElem?_cons_succ, List.getElem?_cons_zero] at c2
  have key := hSortedF_at (w := w.alloc (.cells #[.map (some m)] 91)) (Bm := w.heap.size) ((Boxed.new w 91 (.map (some m))).cell) (by simp) (hT.map.alloc _) hL
  have key2 : Calls Tryz.prog 36 #[.func (.func 55) #[] #[.pointer (some ⟨w.heap.size, 0, none⟩)], .func (.func 38) #[] #[]] (w.alloc (.cells #[.map (some m)] 91)) fun e w1 =>
      ∃ (A : Option Addr) (n c : Nat) (S : List HV), e = .returned (.slice A n c) ∧ (∀ ty w', (Builtin.len_ #[22] ty #[.slice A n c]).run Tryz.prog w' = .ok (.int .i64 n) w') ∧ Hid (n = S.length ∧ n ≤ 100000 ∧ S.Perm (L.map (·.2)) ∧ S.Pairwise (fun a b => ¬ nlt b.name a.name) ∧ w1.ownsRow w.heap.size 48 5 (.slice A n c) n (S.flatMap hvC) ∧ Kept noBlock w w1) := by
    refine key.mono ?_
    rintro e w1 ⟨v, S, rfl, hp, hs, ho, hk1⟩
    have ho1 : w1.ownsRow w.heap.size 48 5 v S.length (S.flatMap hvC) := own_base ho (by simp)
    obtain ⟨A, c, rfl, -, -⟩ := (Sl.of_own ho1).shape
    exact ⟨A, S.length, c, S, rfl, (Sl.of_own ho1).run_len hostsT, Lib.hid ⟨rfl, by have := hp.length_eq; rw [List.length_map] at this; omega, hp, hs, ho1, ((Kept.refl noBlock w).alloc _).trans hk1 fun _ _ e => e⟩⟩
  clear key
  have HT := Lib.hid hT
  have HKN := Lib.hid hk
  clear hT hk
  go_enter Tryz.func17, Tryz.ntmps17
  go_wp2_with (first | (go_at_call 37; refine (hVals_at _ _).mono ?_; rintro e w' ⟨rfl, rfl⟩) | (go_at_call 36; refine key2.mono ?_; rintro e w1 ⟨A, n, c, S, rfl, hlen, H⟩))
  clear key2
  obtain ⟨hn, hSl, hp, hs, ho1, hk0⟩ := H.out
  have HP := Lib.hid hp
  have HS := Lib.hid hs
  have H0 := Lib.hid hk0
  have HO := Lib.hid ho1
  have HN := Lib.hid hn
  have H1 : Hid (∀ x ∈ S, x.tn ≤ 1000000 ∧ SlK w (fun k e => (own k ∧ k ≠ g ∧ k ≠ m)) 1 x.tv x.tn (x.toks.map (Value.int .i64))) := Lib.hid (by
    intro x hx
    obtain ⟨p, hp1, rfl⟩ := List.mem_map.1 (hp.mem_iff.1 hx)
    exact ⟨HKN.out p hp1, HT.out.ot p hp1⟩)
  clear hp hs hk0 ho1 H hn
  go_loopg [16] n (fun j vi wr => ∃ i : Nat, i + j = n ∧ vi = .int .i64 i ∧ AllR w S (.slice A n c) i wr)
  case atStart => exact ⟨0, by omega, rfl, S, rfl, rfl, by rw [← HN.out]; exact HO.out, fun x hx => by simp at hx, H0.out⟩
  case round =>
    obtain ⟨i, hij, rfl, T, hTa, hTd, hTo, hTk, hTw⟩ := hrel
    by_cases hi : i < n
    · have hTn : T.length = n := by
        have := congrArg List.length hTa
        rw [List.length_map, List.length_map] at this
        rw [HN.out, this]
      obtain ⟨x, hx⟩ : ∃ x, T[i]? = some x := ⟨_, List.getElem?_eq_getElem (by omega)⟩
      have hTo' : wr.ownsRow w.heap.size 48 5 (.slice A n c) n (T.flatMap hvC) := by rw [hTn] at hTo; exact hTo
      obtain ⟨gr, cap, off, hv, hoff, hgr, ⟨cs, hcs⟩, hidx, y0, y1, y2, y3, y4⟩ := ownH_at hTo' hx
      cases hv
      have hxS : x ∈ S := by
        have h1 : (T.drop i)[0]? = some x := by rw [List.getElem?_drop]; exact hx
        rw [hTd] at h1
        exact List.mem_of_mem_drop (List.mem_of_getElem? h1)
      obtain ⟨x1, x2, x3, x4, x5, x6, x7, x8⟩ := x
      have hcl := KClone_at (w := wr.alloc (.cells #[.string x1, .string x2, .string x3, .slice x4 x5 x6, .bool x8] 48)) (((H1.out _ hxS).2.keptNone hTw).alloc _) (H1.out _ hxS).1
      simp only [HV.tv] at hcl
      have HX := Lib.hid hx
      have HTA := Lib.hid hTa
      have HTD := Lib.hid hTd
      have HTO := Lib.hid hTo'
      have HTK := Lib.hid hTk
      have HTW := Lib.hid hTw
      have HOF := Lib.hid hoff
      have HTN := Lib.hid hTn
      have HIJ := Lib.hid hij
      have HCS := Lib.hid hcs
      have HGR := Lib.hid hgr
      have hb : Blk (wr.alloc (.cells #[.string x1, .string x2, .string x3, .slice x4 x5 x6, .bool x8] 48)) wr.heap.size 48 #[.string x1, .string x2, .string x3, .slice x4 x5 x6, .bool x8] := Blk.new _ _ _
      have z3 := hb.cell 3
      simp only [List.getElem?_toArray, List.getElem?_cons_succ, List.getElem?_cons_zero] at z3 y0 y1 y2 y3 y4
      have key3 : Calls Tryz.prog 40 #[.slice x4 x5 x6] (wr.alloc (.cells #[.string x1, .string x2, .string x3, .slice x4 x5 x6, .bool x8] 48)) fun e w3 =>
          ∃ (A' : Option Addr) (n' c' : Nat), e = .returned (.slice A' n' c') ∧ w3.frozen? ⟨gr, off + 3, none⟩ = false ∧ w3.cell? ⟨gr, off + 3, none⟩ = some (.slice x4 x5 x6) ∧ Hid (w3.ownsRow w.heap.size 2 1 (.slice A' n' c') n' (x7.map eI) ∧ w3.ownsRow w.heap.size 48 5 (.slice (some ⟨gr, 0, none⟩) n c) n (T.flatMap hvC) ∧ Kept noBlock wr w3 ∧ n' = x5) := by
        refine hcl.mono ?_
        rintro e w3 ⟨v', rfl, ho3, hk3⟩
        obtain ⟨A', c', rfl, -, -⟩ := (Sl.of_own ho3).shape
        have hk4 : Kept noBlock wr w3 := ((Kept.refl noBlock wr).alloc _).trans hk3 fun _ _ e => e
        have hoT := own_keptB HTO.out hk4 (fun _ _ e => e)
        have hlt : i * 5 + 3 < n * 5 := by omega
        refine ⟨A', x5, c', rfl, hoT.frozenAt _, ?_, Lib.hid ⟨own_base ho3 (by have := hTw.size; simp; omega), hoT, hk4, rfl⟩⟩
        rw [HOF.out, hoT.cellAt _ hlt]
        exact (flat_get (k := 5) (fun _ => rfl) T i 3 _ hx (by decide)).trans rfl
      clear hcl hx hTa hTd hTo hTo' hTk hTw hoff hTn hij hcs hgr hb
      go_wp2_with fail
      refine key3.mono ?_
      rintro e w3 ⟨A', n', c', rfl, hf3, hc3, H3⟩
      clear key3
      go_wp2
      go_roundg (n - (i + 1))
      case measure => have := HIJ.out; omega
      case rel =>
        obtain ⟨h31, h32, h33, rfl⟩ := H3.out
        obtain ⟨s1, s2⟩ := h32.stored (off + 3) (.slice A' n' c')
        rw [HOF.out, flat_setK (k := 5) (f := hvC) (a' := ⟨x1, x2, x3, A', n', c', x7, x8⟩) (fun _ => rfl) (by decide) T i _ HX.out rfl] at s1
        rw [HOF.out] at s2 ⊢
        have hTl := HTN.out
        have hkw : Kept noBlock w (w3.setCell ⟨gr, i * 5 + 3, none⟩ (.slice A' n' c')) := (HTW.out.trans h33 fun _ _ e => e).grown s2 fun k e hlt => by
          cases e
          exact absurd HGR.out (Nat.not_le.2 hlt)
        have hkeep : ∀ {v' : Value} {m' : Nat} {ys : List Value}, w3.ownsRow w.heap.size 2 1 v' m' ys → (w3.setCell ⟨gr, i * 5 + 3, none⟩ (.slice A' n' c')).ownsRow w.heap.size 2 1 v' m' ys := fun h => by
          have hcs := HCS.out
          have hcs3 := (h33.block gr (lt_of_heap hcs) (fun e => e)).trans hcs
          refine own_kept h (Kept.of_grown (S := fun k => k = gr) s2 fun k e _ => by cases e; rfl) fun k cs' e _ hk => ?_
          subst e
          rw [hcs3] at hk
          injection hk with hk
          injection hk with _ h2
          exact absurd h2 (by decide)
        refine ⟨i + 1, by have := HIJ.out; omega, by go_num, T.set i ⟨x1, x2, x3, A', n', c', x7, x8⟩, ?_, ?_, ?_, ?_, hkw⟩
        · rw [← HTA.out, List.map_set]
          refine List.ext_getElem? fun j => ?_
          rw [List.getElem?_set]
          by_cases hj : i = j
          · subst hj
            rw [if_pos rfl, List.getElem?_map, HX.out]
            simp [HV.abs]
            omega
          · rw [if_neg hj]
        · rw [List.drop_set_of_lt (by omega)]
          have h1 := congrArg (List.drop 1) HTD.out
          rwa [List.drop_drop, List.drop_drop] at h1
        · rw [List.length_set, hTl]
          exact s1
        · intro y hy
          have e1 : (T.take i).length = i := by rw [List.length_take]; omega
          rw [List.take_set, List.take_add_one, HX.out, List.set_append_right _ _ (by omega), e1, Nat.sub_self] at hy
          rcases List.mem_append.1 hy with h1 | h1
          · exact hkeep (own_keptB (HTK.out y h1) h33 (fun _ _ e => e))
          · simp only [Option.toList, List.set_cons_zero, List.mem_singleton] at h1
            subst h1
            exact hkeep h31
    · obtain rfl : i = n := by omega
      have FIN := Lib.hid (⟨hTa, hTo, hTk, hTw⟩ : _ ∧ _ ∧ _ ∧ _)
      clear hTa hTd hTo hTk hTw
      go_wp2
      go_ret
      obtain ⟨hTa, hTo, hTk, hTw⟩ := FIN.out
      have hTl : T.length = i := by
        have := congrArg List.length hTa
        rw [List.length_map, List.length_map] at this
        rw [HN.out, this]
      refine ⟨_, T, rfl, ?_, ?_, hTo, ?_, hTw⟩
      · rw [hTa]
        have h1 := HP.out.map HV.abs
        rwa [List.map_map] at h1
      · have h1 : (S.map HV.abs).Pairwise (fun a b => ¬ nlt b.name a.name) := List.pairwise_map.2 HS.out
        rw [← hTa] at h1
        exact List.pairwise_map.1 h1
      · rwa [List.take_of_length_le (by omega)] at hTk
end Go.Proofs.YtepikngkbondgaaGreat
namespace Go.Proofs.YtepikngkbondgaaGreat
set_option linter.unusedVariables false
open Go.RowKit
open Go.ChangeMaps (setBlock)

/-- The table's own blocks in a call that began at world's end N: those it had, and the rows of tokens made since. -/
def ownI (w : World) (N : Nat) (own : Nat → Prop) (k : Nat) : Prop := own k ∨ (N ≤ k ∧ ∃ cs fz, w.heap[k]? = some (.cells cs 2 fz))
theorem ownI_kept {w w' : World} {N : Nat} {own : Nat → Prop} {S : Nat → Prop} {k : Nat} (h : ownI w N own k) (hk : Kept S w w') (hS : ∀ k cs fz, w.heap[k]? = some (.cells cs 2 fz) → ¬ S k) : ownI w' N own k := by
  rcases h with h | ⟨h1, cs, fz, h2⟩
  · exact .inl h
  · exact .inr ⟨h1, cs, fz, (hk.block k (lt_of_heap h2) (hS k cs fz h2)).trans h2⟩
/-- Behind the hosts l (of those that the call was handed): sm is the map of the names that were seen, va the row of the names added. -/
structure RefAt (w wr : World) (own : Nat → Prop) (g m sm : Nat) (dc : ByteArray) (rem : Int) (V : View) (l : List Ho) (va : Value) : Prop where
  tab : ∃ L, TabAt wr (ownI wr w.heap.size own) g m dc rem L ∧ ∀ x, (aget x L).map HV.abs = viewR V l x
  seen : ∃ K : List (ByteArray × Bool), KMap .string (fun s : ByteArray => Value.string s) Value.bool wr sm K ∧ ∀ x, (aget x K).getD false = true ↔ (x = noStr ∨ ∃ o ∈ l, o.name = x)
  adds : ∃ A : List ByteArray, addsR V l A ∧ wr.ownsRow w.heap.size 9 1 va A.length (A.map Value.string)
  new : w.heap.size ≤ sm
  kept : Kept (fun k => k = m) w wr
section
variable {w wr w' : World} {own : Nat → Prop} {g m sm : Nat} {dc : ByteArray} {rem : Int} {V : View} {l : List Ho} {va : Value}
theorem RefAt.keptN (h : RefAt w wr own g m sm dc rem V l va) (hk : Kept noBlock wr w') : RefAt w w' own g m sm dc rem V l va := by
  obtain ⟨⟨L, h1, h2⟩, ⟨K, h3, h4⟩, ⟨A, h5, h6⟩, h7, h8⟩ := h
  have hlt : ∀ k, ownI w' w.heap.size own k → k < w'.heap.size := fun k hk' => by
    rcases hk' with h | ⟨_, cs, fz, h⟩
    · exact Nat.lt_of_lt_of_le (h1.lt k (.inl h)) hk.size
    · exact lt_of_heap h
  exact ⟨⟨L, (h1.keptN hk).wide (fun k e => ownI_kept e hk fun _ _ _ _ e => e) hlt, h2⟩, ⟨K, h3.kept hk (fun e => e), h4⟩, ⟨A, h5, own_keptB h6 hk (fun _ _ e => e)⟩, h7, h8.trans hk fun _ _ e => e.elim⟩
/-- A host that was seen. -/
theorem RefAt.skip (h : RefAt w wr own g m sm dc rem V l va) {o : Ho} (hs : o.name = noStr ∨ ∃ p ∈ l, p.name = o.name) : RefAt w wr own g m sm dc rem V (l ++ [o]) va := by
  obtain ⟨⟨L, h1, h2⟩, ⟨K, h3, h4⟩, ⟨A, h5, h6⟩, h7, h8⟩ := h
  refine ⟨⟨L, h1, fun x => by rw [viewR_seen hs]; exact h2 x⟩, ⟨K, h3, fun x => ?_⟩, ⟨A, addsR_seen hs h5, h6⟩, h7, h8⟩
  rw [h4]
  simp only [List.mem_append, List.mem_singleton]
  constructor
  · rintro (h | ⟨p, hp, e⟩)
    · exact .inl h
    · exact .inr ⟨p, .inl hp, e⟩
  · rintro (h | ⟨p, hp | rfl, rfl⟩)
    · exact .inl h
    · exact .inr ⟨p, hp, rfl⟩
    · exact hs
theorem SlK.anyH {W : World} {ok ok' : Nat → TypeId → Prop} {sz n : Nat} {v : Value} {xs : List Value} (h : SlK W ok sz v n xs) (hk : ∀ g cs e fz, W.heap[g]? = some (.cells cs e fz) → ok g e → ok' g e) : SlK W ok' sz v n xs := by
  obtain ⟨hl, A, cap, hv, h1, h2, h3⟩ := h
  refine ⟨hl, A, cap, hv, h1, h2, ?_⟩
  rcases h3 with h3 | ⟨g, off, cs, e, fz, hA, hh, ho, hc⟩
  · exact .inl h3
  · exact .inr ⟨g, off, cs, e, fz, hA, hh, hk g cs e fz hh ho, hc⟩
/-- A new host is entered: from the world wr (behind l) to W the map of names has taken its name, the row of the added may have grown; then the table's map takes the host. -/
theorem ref_enter {W : World} {L : List (ByteArray × HV)} {K : List (ByteArray × Bool)} {A A' : List ByteArray} {va' : Value} {o : Ho} {v : HV} {es : Array MapEntry} {ck : Nat} (hown : ∀ k, own k → k < w.heap.size)
    (h1 : TabAt wr (ownI wr w.heap.size own) g m dc rem L) (h2 : ∀ x, (aget x L).map HV.abs = viewR V l x)
    (h3 : KMap .string (fun s : ByteArray => Value.string s) Value.bool wr sm K) (h4 : ∀ x, (aget x K).getD false = true ↔ (x = noStr ∨ ∃ o ∈ l, o.name = x))
    (h6 : wr.ownsRow w.heap.size 9 1 va A.length (A.map Value.string)) (h7 : w.heap.size ≤ sm) (h8 : Kept (fun k => k = m) w wr)
    (hk : Kept (fun k => k = sm ∨ va.ownBlock = some k) wr W) (hK : KMap .string (fun s : ByteArray => Value.string s) Value.bool W sm (aput o.name true K))
    (hA : addsR V (l ++ [o]) A') (hA' : W.ownsRow w.heap.size 9 1 va' A'.length (A'.map Value.string))
    (hn : o.name ≠ noStr) (hs : ¬ ∃ p ∈ l, p.name = o.name) (hv : v.abs = updH V o)
    (ht : SlK W (fun b e => w.heap.size ≤ b ∧ e = 2) 1 v.tv v.tn (v.toks.map (Value.int .i64)))
    (hm : HoMap (setBlock W m (.map es ck)) m (aput o.name v L)) : RefAt w (setBlock W m (.map es ck)) own g m sm dc rem V (l ++ [o]) va' := by
  have hsm : ∀ cs fz, wr.heap[sm]? ≠ some (.cells cs 2 fz) := fun cs fz e => by
    obtain ⟨es', ck', hh, _⟩ := h3
    rw [hh] at e; cases e
  have hnot : ∀ k, ownI wr w.heap.size own k → ¬ (k = sm ∨ va.ownBlock = some k) := by
    rintro k hk' (rfl | e)
    · rcases hk' with h | ⟨_, cs, fz, h⟩
      · have := hown _ h; omega
      · exact hsm _ _ h
    · obtain ⟨e1, cs', e2⟩ := own_type h6 e
      rcases hk' with h | ⟨_, cs, fz, h⟩
      · have := hown _ h; omega
      · rw [e2] at h; injection h with h; injection h with _ h; exact absurd h (by decide)
  have hgm : g ≠ m := fun e => h1.map.ne_blk h1.blk e
  have hTW : TabAt W (ownI wr w.heap.size own) g m dc rem L := h1.kept hk hnot
  have hmW : ∃ es0 ck0, W.heap[m]? = some (.map es0 ck0) := by
    obtain ⟨es0, ck0, hh, _⟩ := hTW.map
    exact ⟨es0, ck0, hh⟩
  obtain ⟨es0, ck0, hmW⟩ := hmW
  have hTW2 : TabAt W (ownI W w.heap.size own) g m dc rem L := by
    refine hTW.wide (fun k e => ?_) (fun k e => ?_)
    · rcases e with h | ⟨h, cs, fz, h'⟩
      · exact .inl h
      · exact .inr ⟨h, cs, fz, (hk.block k (lt_of_heap h') (hnot k (.inr ⟨h, cs, fz, h'⟩))).trans h'⟩
    · rcases e with h | ⟨_, cs, fz, h'⟩
      · have := hown _ h
        have := h8.size
        have := hk.size
        omega
      · exact lt_of_heap h'
  have hput := hTW2.put (v := v) (Kept.refl _ _) hm ⟨by have := congrArg Ho.name hv; exact this, hn⟩ (ht.anyH fun b cs e fz hh ho => by
    obtain ⟨h1', rfl⟩ := ho
    refine ⟨.inr ⟨h1', cs, fz, hh⟩, fun e => ?_, fun e => ?_⟩
    · subst e
      have hb := hTW.blk
      unfold Blk at hb
      rw [hb] at hh; injection hh with hh; injection hh with _ hh; exact absurd hh (by decide)
    · subst e
      rw [hmW] at hh; cases hh)
  have hk2 : Kept (fun k => k = m) W (setBlock W m (.map es ck)) := (Kept.refl (fun k => k = m) W).setBlock (m := m) (fun _ => rfl) _
  have hnm : ∀ k cs t fz, W.heap[k]? = some (.cells cs t fz) → k ≠ m := fun k cs t fz h e => by subst e; rw [hmW] at h; cases h
  have hsm2 : sm ≠ m := fun e => by
    have h9 := hnot m (.inl ?_)
    · exact h9 (.inl e.symm)
    · rcases h1.om with h | ⟨_, cs, fz, h⟩
      · exact h
      · obtain ⟨es', ck', hh⟩ := h1.map.heap
        rw [hh] at h; cases h
  refine ⟨⟨_, hput.wide (fun k e => ownI_kept e hk2 fun k cs fz h => hnm k cs _ fz h) (fun k e => ?_), fun x => ?_⟩, ⟨_, hK.setBlock hsm2 _, fun x => ?_⟩, ⟨A', hA, own_setBlock hA' hmW _⟩, h7, (h8.trans hk fun i hi e => ?_).trans hk2 fun i _ e => e⟩
  · rcases e with h | ⟨_, cs, fz, h'⟩
    · have := hown _ h
      have := h8.size
      have := hk.size
      have := hk2.size
      omega
    · exact lt_of_heap h'
  · rw [aget_aput, viewR_new hn hs]
    by_cases e : o.name = x
    · rw [if_pos e, if_pos e, Option.map_some, hv]
    · rw [if_neg e, if_neg e]; exact h2 x
  · rw [aget_aput]
    by_cases e : o.name = x
    · rw [if_pos e]
      simp only [Option.getD_some, true_iff]
      exact .inr ⟨o, by simp, e⟩
    · rw [if_neg e, h4]
      simp only [List.mem_append, List.mem_singleton]
      constructor
      · rintro (h | ⟨p, hp, e⟩)
        · exact .inl h
        · exact .inr ⟨p, .inl hp, e⟩
      · rintro (h | ⟨p, hp | rfl, rfl⟩)
        · exact .inl h
        · exact .inr ⟨p, hp, rfl⟩
        · exact absurd rfl e
  · exfalso
    rcases e with rfl | e
    · omega
    · have := (own_type h6 e).1; omega
end
end Go.Proofs.YtepikngkbondgaaGreat
namespace Go.Proofs.YtepikngkbondgaaGreat
set_option linter.unusedVariables false
open Go.RowKit Go.MapKept
open Go.ChangeMaps (setBlock)

section
variable {α β : Type} [DecidableEq α]
theorem adel_sub {k : α} : ∀ (l : List (α × β)), (adel k l).Sublist l
  | [] => .slnil
  | (a, b) :: t => by
    by_cases h : a = k
    · rw [adel, if_pos h]; exact List.sublist_cons_self _ _
    · rw [adel, if_neg h]; exact (adel_sub t).cons_cons _
theorem aget_adel {k y : α} : ∀ {l : List (α × β)}, (l.map (·.1)).Nodup → aget y (adel k l) = if k = y then none else aget y l
  | [], _ => by simp [adel, aget]
  | (a, b) :: t, hn => by
    have hn' : a ∉ t.map (·.1) ∧ (t.map (·.1)).Nodup := List.nodup_cons.1 hn
    by_cases h : a = k
    · subst h
      rw [adel, if_pos rfl]
      by_cases e : a = y
      · subst e
        rw [if_pos rfl]
        exact aget_none fun p hp e => hn'.1 (List.mem_map.2 ⟨p, hp, e⟩)
      · rw [if_neg e, aget, if_neg e]
    · rw [adel, if_neg h, aget, aget_adel hn'.2, aget]
      by_cases e : a = y
      · subst e
        rw [if_pos rfl, if_neg (Ne.symm h), if_pos rfl]
      · rw [if_neg e, if_neg e]
variable {d : TypeDesc} {key : α → Value} {val : β → Value} {w : World} {m ck : Nat} {es : Array MapEntry} {L : List (α × β)} {P : Program} {mt kt et : TypeId}
/-- A deletion, its entries known. -/
theorem run_delete_at (hh : w.heap[m]? = some (.map es ck)) (hst : Stamped es ck) (hL : es.toList.map (fun e => (e.key, e.val)) = L.map (fun p => (key p.1, val p.2))) (K : KeyEmb d key) (hm : P.underlying mt = some (.map kt et)) (hk : P.underlying kt = some d) (k : α) :
    ∃ es' : Array MapEntry, (∀ ty kt', (Builtin.delete_ #[mt, kt'] ty #[.map (some m), key k]).run P w = .ok (.tuple #[]) (setBlock w m (.map es' ck))) ∧ Stamped es' ck ∧ es'.toList.map (fun e => (e.key, e.val)) = (adel k L).map (fun p => (key p.1, val p.2)) ∧ es'.toList.Sublist es.toList := by
  rcases KMap.find es K hL k with ⟨h1, h2, h3⟩ | ⟨A, B, v', E, F, x, rfl, hA, he, hE, hx, hv, hEA, hFB, hf⟩
  · refine ⟨es, ?_, hst, ?_, List.Sublist.refl _⟩
    · intro ty kt'; simp [Builtin.delete_, run_underlying hm, MapKept.run_getObj_map hh, MapKept.run_checkKey hk (K.is k), MapKept.run_findKey hk h1, MapKept.run_setObj_map _ hh, Result.andThen, Go.ChangeMaps.setBlock]
    · rw [adel_none h3]; exact hL
  · have hlt : A.length < es.size := by
      have := congrArg List.length he
      simp at this; omega
    have e1 : (es.eraseIdxIfInBounds A.length).toList = E ++ F := by
      unfold Array.eraseIdxIfInBounds
      rw [dif_pos hlt, Array.toList_eraseIdx, he, ← hE]
      simp [List.eraseIdx_append_of_length_le]
    refine ⟨es.eraseIdxIfInBounds A.length, ?_, stamped_erase hst _, ?_, ?_⟩
    · intro ty kt'; simp [Builtin.delete_, run_underlying hm, MapKept.run_getObj_map hh, MapKept.run_checkKey hk (K.is k), MapKept.run_findKey hk hf, MapKept.run_setObj_map _ hh, Result.andThen, Go.ChangeMaps.setBlock]
    · rw [adel_mid hA, e1]
      simp [hEA, hFB]
    · rw [e1, he]
      exact (List.Sublist.refl E).append (List.sublist_cons_self x F)
end
theorem Fam.oneH {w : World} {base : Nat} {e : TypeId} {sz n : Nat} {v : Value} {xs : List Value} (h : w.ownsRow base e sz v n xs) : Fam w base [⟨e, sz, v, n, xs⟩] := by
  refine ⟨fun i r hr => ?_, fun i j a b hij ha hb k hk => ?_⟩
  · rcases i with _ | i
    · cases hr; exact h
    · simp at hr
  · rcases i with _ | i <;> rcases j with _ | j
    · exact absurd rfl hij
    · simp at hb
    · simp at ha
    · simp at ha
theorem left_sub {es es' : Array MapEntry} (h : es'.toList.Sublist es.toList) (seen : Array Nat) : (leftOf es' seen).size ≤ (leftOf es seen).size := by
  unfold leftOf
  have := (h.filter fun e => !seen.contains e.born).length_le
  have e1 : ∀ a : Array MapEntry, (Array.filter (fun e => !seen.contains e.born) a).size = (a.toList.filter fun e => !seen.contains e.born).length := fun a => by
    have h2 := congrArg List.length (Array.toList_filter (p := fun e : MapEntry => !seen.contains e.born) (xs := a))
    rwa [Array.length_toList] at h2
  rw [e1, e1]
  exact this
def gin (G : List ByteArray) (x : ByteArray) : Bool := G.any fun y => decide (y = x)
theorem gin_iff {G : List ByteArray} {x : ByteArray} : gin G x = true ↔ x ∈ G := by
  unfold gin
  rw [List.any_eq_true]
  exact ⟨fun ⟨y, h1, h2⟩ => by have := of_decide_eq_true h2; exact this ▸ h1, fun h => ⟨x, h, decide_eq_true rfl⟩⟩

/-- Behind so many rounds of the second loop: G are gone. -/
structure DelAt (w wr : World) (own : Nat → Prop) (g m sm Rr ck : Nat) (dc : ByteArray) (rem : Int) (V : View) (K : List (ByteArray × Bool)) (A : List ByteArray) (va vg : Value) (es : Array MapEntry) (L : List (ByteArray × HV)) (seen : Array Nat) (c0 : Nat) (G : List ByteArray) : Prop where
  hh : wr.heap[m]? = some (.map es ck)
  st : Stamped es ck
  hL : es.toList.map (fun e => (e.key, e.val)) = L.map (fun p => (Value.string p.1, hvV p.2))
  tab : TabAt wr (ownI wr w.heap.size own) g m dc rem L
  it : wr.heap[Rr]? = some (.mapIter (some m) ck seen c0)
  le : ck ≤ c0
  view : ∀ x, (aget x L).map HV.abs = if gin G x = true then none else V x
  nd : G.Nodup
  gone : ∀ x ∈ G, (aget x K).getD false = false ∧ (V x).isSome = true
  seen : ∀ e ∈ es.toList, seen.contains e.born = true → ∃ x, e.key = .string x ∧ (aget x K).getD false = true
  names : KMap .string (fun s : ByteArray => Value.string s) Value.bool wr sm K
  fam : Fam wr w.heap.size [⟨9, 1, va, A.length, A.map Value.string⟩, ⟨9, 1, vg, G.length, G.map Value.string⟩]
  kept : Kept (fun k => k = m) w wr
  new : w.heap.size ≤ sm ∧ w.heap.size ≤ Rr
section
variable {w wr w' : World} {own : Nat → Prop} {g m sm Rr ck : Nat} {dc : ByteArray} {rem : Int} {V : View} {K : List (ByteArray × Bool)} {A : List ByteArray} {va vg : Value} {es : Array MapEntry} {L : List (ByteArray × HV)} {seen : Array Nat} {c0 : Nat} {G : List ByteArray}
theorem DelAt.map (h : DelAt w wr own g m sm Rr ck dc rem V K A va vg es L seen c0 G) : HoMap wr m L := ⟨es, ck, h.hh, h.st, h.hL⟩
theorem ownI_lt (hown : ∀ k, own k → k < w.heap.size) (hs : w.heap.size ≤ wr.heap.size) {k : Nat} (h : ownI wr w.heap.size own k) : k < wr.heap.size := by
  rcases h with h | ⟨_, cs, fz, h⟩
  · exact Nat.lt_of_lt_of_le (hown k h) hs
  · exact lt_of_heap h
/-- At the start. -/
theorem DelAt.start (hown : ∀ k, own k → k < w.heap.size) {W : World} {V0 : View} {l : List Ho} (hR : RefAt w W own g m sm dc rem V0 l va) (hK : KMap .string (fun s : ByteArray => Value.string s) Value.bool W sm K) (hA : W.ownsRow w.heap.size 9 1 va A.length (A.map Value.string))
    (hT : TabAt W (ownI W w.heap.size own) g m dc rem L) (hV : ∀ x, (aget x L).map HV.abs = V x) (hh : W.heap[m]? = some (.map es ck)) (hst : Stamped es ck) (hL : es.toList.map (fun e => (e.key, e.val)) = L.map (fun p => (Value.string p.1, hvV p.2)))
    (hk : Kept noBlock W wr) (hi : wr.heap[W.heap.size]? = some (.mapIter (some m) ck #[] ck)) : DelAt w wr own g m sm W.heap.size ck dc rem V K A va (.slice none 0 0) es L #[] ck [] := by
  refine ⟨(hk.block m (lt_of_heap hh) (fun e => e)).trans hh, hst, hL, (hT.keptN hk).wide (fun k e => ownI_kept e hk fun _ _ _ _ e => e) (fun k e => ownI_lt hown (Nat.le_trans hR.kept.size hk.size) e), hi, Nat.le_refl _, fun x => by rw [hV]; rfl, List.nodup_nil, fun x hx => absurd hx List.not_mem_nil, fun e _ h => by simp at h, hK.kept hk (fun e => e), ?_, hR.kept.trans hk fun _ _ e => e.elim, hR.new, hR.kept.size⟩
  exact ((Fam.oneH hA).more 9 1).keptN hk
/-- The iterator has gone on: e's name is one that was seen. -/
theorem DelAt.pass (h : DelAt w wr own g m sm Rr ck dc rem V K A va vg es L seen c0 G) {e : MapEntry} {x : ByteArray} (he : e ∈ es.toList) (hx : e.key = .string x) (hs : (aget x K).getD false = true) (hk : Kept (fun k => k = Rr) wr w') (hi : w'.heap[Rr]? = some (.mapIter (some m) ck (seen.push e.born) ck)) (hown : ∀ k, own k → k < w.heap.size) :
    DelAt w w' own g m sm Rr ck dc rem V K A va vg es L (seen.push e.born) ck G := by
  have hRr : ∀ o, o.isCells = true → wr.heap[Rr]? ≠ some o := fun o ho e => by rw [h.it] at e; cases e; cases ho
  have hRm : m ≠ Rr := fun e => by have := h.hh; rw [e, h.it] at this; cases this
  have hRs : sm ≠ Rr := fun e => by obtain ⟨es', ck', hh'⟩ := h.names.heap; rw [e, h.it] at hh'; cases hh'
  have hno : ∀ k, ownI wr w.heap.size own k → k ≠ Rr := by
    rintro k (h1 | ⟨_, cs, fz, h1⟩) e
    · have := hown k h1; have := h.new.2; omega
    · subst e; exact hRr _ rfl h1
  refine ⟨(hk.block m (lt_of_heap h.hh) hRm).trans h.hh, h.st, h.hL, (h.tab.kept hk hno).wide (fun k e => ownI_kept e hk fun k cs fz h2 e => by subst e; exact hRr _ rfl h2) (fun k e => ownI_lt hown (Nat.le_trans h.kept.size hk.size) e), hi, Nat.le_refl _, h.view, h.nd, h.gone, fun e' he' hs' => ?_, h.names.kept hk hRs, ?_, h.kept.trans hk fun k hlt e => ?_, h.new⟩
  · by_cases hb : e'.born = e.born
    · have : e' = e := by
        have hp := List.pairwise_map.1 h.st.2.1
        exact Classical.byContradiction fun hne => by
          obtain ⟨i, hi', rfl⟩ := List.getElem_of_mem he'
          obtain ⟨j, hj', rfl⟩ := List.getElem_of_mem he
          have hij : i ≠ j := fun e => hne (by subst e; rfl)
          rcases Nat.lt_or_ge i j with hl | hl
          · exact (List.pairwise_iff_getElem.1 hp i j hi' hj' hl) hb
          · exact (List.pairwise_iff_getElem.1 hp j i hj' hi' (by omega)) hb.symm
      subst this
      exact ⟨x, hx, hs⟩
    · refine h.seen e' he' ?_
      simp only [Array.contains_eq_mem, Array.mem_push, decide_eq_true_eq] at hs' ⊢
      rcases hs' with h1 | h1
      · exact h1
      · exact absurd h1 hb
  · refine ⟨fun i r hr => own_keptB (h.fam.1 i r hr) hk fun k e1 e2 => ?_, h.fam.2⟩
    subst e2
    obtain ⟨_, cs, hc⟩ := own_type (h.fam.1 i r hr) e1
    exact hRr _ rfl hc
  · have := h.new.2; omega
/-- .. one that was not: it is told, and goes. -/
theorem DelAt.drop (h : DelAt w wr own g m sm Rr ck dc rem V K A va vg es L seen c0 G) {e : MapEntry} {x : ByteArray} {v : HV} {W : World} {vg' : Value} {es' : Array MapEntry} (he : e ∈ es.toList) (hx : e.key = .string x) (hs : (aget x K).getD false = false) (hk : Kept (fun k => k = Rr ∨ vg.ownBlock = some k) wr W)
    (hi : W.heap[Rr]? = some (.mapIter (some m) ck (seen.push e.born) ck)) (hf : Fam W w.heap.size [⟨9, 1, va, A.length, A.map Value.string⟩, ⟨9, 1, vg', G.length + 1, (G ++ [x]).map Value.string⟩])
    (hst : Stamped es' ck) (hL : es'.toList.map (fun e => (e.key, e.val)) = (adel x L).map (fun p => (Value.string p.1, hvV p.2))) (hsub : es'.toList.Sublist es.toList) (hown : ∀ k, own k → k < w.heap.size) :
    DelAt w (setBlock W m (.map es' ck)) own g m sm Rr ck dc rem V K A va vg' es' (adel x L) (seen.push e.born) ck (G ++ [x]) := by
  have hRr : ∀ o, o.isCells = true → wr.heap[Rr]? ≠ some o := fun o ho e => by rw [h.it] at e; cases e; cases ho
  have hRm : m ≠ Rr := fun e => by have := h.hh; rw [e, h.it] at this; cases this
  have hRs : sm ≠ Rr := fun e => by obtain ⟨es', ck', hh'⟩ := h.names.heap; rw [e, h.it] at hh'; cases hh'
  have hvg : ∀ k, vg.ownBlock = some k → w.heap.size ≤ k ∧ ∃ cs, wr.heap[k]? = some (.cells cs 9 (0, 0)) := fun k e => own_type (h.fam.get 1 rfl) e
  have hmb : ∀ k, vg.ownBlock = some k → m ≠ k := fun k e e2 => by obtain ⟨_, cs, hc⟩ := hvg k e; rw [← e2, h.hh] at hc; cases hc
  have hsb : ∀ k, vg.ownBlock = some k → sm ≠ k := fun k e e2 => by
    obtain ⟨_, cs, hc⟩ := hvg k e
    obtain ⟨es', ck', hh'⟩ := h.names.heap
    rw [← e2, hh'] at hc; cases hc
  have hno : ∀ k, ownI wr w.heap.size own k → ¬ (k = Rr ∨ vg.ownBlock = some k) := by
    rintro k hk' (rfl | e)
    · rcases hk' with h1 | ⟨_, cs, fz, h1⟩
      · have := hown k h1; have := h.new.2; omega
      · exact hRr _ rfl h1
    · obtain ⟨e1, cs', e2⟩ := hvg k e
      rcases hk' with h1 | ⟨_, cs, fz, h1⟩
      · have := hown k h1; omega
      · rw [e2] at h1; injection h1 with h1; injection h1 with _ h1; exact absurd h1 (by decide)
  have hmW : W.heap[m]? = some (.map es ck) := (hk.block m (lt_of_heap h.hh) (fun e => e.elim hRm fun e => hmb m e rfl)).trans h.hh
  have hk2 : Kept (fun k => k = m) W (setBlock W m (.map es' ck)) := (Kept.refl (fun k => k = m) W).setBlock (m := m) (fun _ => rfl) _
  have hTW : TabAt W (ownI wr w.heap.size own) g m dc rem L := h.tab.kept hk hno
  have hsm : sm ≠ m := fun e => by
    rcases h.tab.om with h1 | ⟨_, cs, fz, h1⟩
    · have := hown m h1; have := h.new.1; omega
    · rw [h.hh] at h1; cases h1
  have hgm : g ≠ m := fun e => h.tab.map.ne_blk h.tab.blk e
  have hxL : (aget x L).isSome = true := by
    obtain ⟨i, hi'⟩ := List.getElem?_of_mem he
    have h1 := congrArg (fun l => l[i]?) h.hL
    simp only [List.getElem?_map, hi', Option.map_some] at h1
    cases hp : L[i]? with
    | none => rw [hp] at h1; simp at h1
    | some p =>
      rw [hp, hx] at h1
      simp only [Option.map_some, Option.some.injEq, Prod.mk.injEq, Value.string.injEq] at h1
      have := aget_of_mem h.tab.nd (show (x, p.2) ∈ L by rw [h1.1]; exact List.mem_of_getElem? hp)
      rw [this]; rfl
  have hxG : x ∉ G := fun e => by
    have := h.view x
    rw [if_pos (gin_iff.2 e)] at this
    cases hg : aget x L with
    | none => rw [hg] at hxL; cases hxL
    | some v => rw [hg] at this; cases this
  have hVx : (V x).isSome = true := by
    have := h.view x
    rw [if_neg (fun e => hxG (gin_iff.1 e))] at this
    rw [← this, Option.isSome_map]
    exact hxL
  refine ⟨heap_setBlock_me (lt_of_heap hmW) _, hst, hL, ?_, (heap_setBlock _ _ _ _ (Ne.symm hRm)).trans hi, Nat.le_refl _, fun y => ?_, ?_, fun y hy => ?_, fun e' he' hs' => ?_, (h.names.kept hk (fun e => e.elim hRs fun e => hsb sm e rfl)).setBlock hsm _, ?_, (h.kept.trans hk fun i hi' e => ?_).trans hk2 fun i _ e => e, h.new⟩
  · have h1 : TabAt (setBlock W m (.map es' ck)) (ownI wr w.heap.size own) g m dc rem (adel x L) := by
      refine ⟨hTW.blk.kept hk2 hgm, ⟨es', ck, heap_setBlock_me (lt_of_heap hmW) _, hst, hL⟩, ?_, h.tab.og, h.tab.om, fun p hp => ?_, fun p hp => h.tab.nm p ((adel_sub L).subset hp), fun k e => Nat.lt_of_lt_of_le (hTW.lt k e) (by rw [size_setBlock]; exact Nat.le_refl _)⟩
      · exact ((adel_sub L).map _).nodup h.tab.nd
      · exact (hTW.ot p ((adel_sub L).subset hp)).keptAll hk2 fun k _ e e2 => e.2.2 e2
    refine h1.wide (fun k e => ?_) fun k e => ownI_lt hown (Nat.le_trans h.kept.size (Nat.le_trans hk.size hk2.size)) e
    refine ownI_kept (w := W) ?_ hk2 fun k cs fz h2 e => by subst e; rw [hmW] at h2; cases h2
    rcases e with e | ⟨h2, cs, fz, h3⟩
    · exact .inl e
    · exact .inr ⟨h2, cs, fz, (hk.block k (lt_of_heap h3) (hno k (.inr ⟨h2, cs, fz, h3⟩))).trans h3⟩
  · rw [aget_adel h.tab.nd]
    by_cases e : x = y
    · subst e
      rw [if_pos rfl, if_pos (gin_iff.2 (List.mem_append.2 (.inr (List.mem_singleton.2 rfl))))]; rfl
    · rw [if_neg e, h.view]
      have : gin (G ++ [x]) y = gin G y := by
        rw [Bool.eq_iff_iff, gin_iff, gin_iff, List.mem_append, List.mem_singleton]
        exact ⟨fun h => h.resolve_right (Ne.symm e), .inl⟩
      rw [this]
  · exact List.nodup_append.2 ⟨h.nd, by simp, fun a ha b hb => by simp only [List.mem_singleton] at hb; subst hb; exact fun e => hxG (e ▸ ha)⟩
  · rcases List.mem_append.1 hy with hy | hy
    · exact h.gone y hy
    · simp only [List.mem_singleton] at hy
      subst hy
      exact ⟨hs, hVx⟩
  · have he2 := hsub.subset he'
    by_cases hb : e'.born = e.born
    · exfalso
      have hin : e' = e := by
        have hp := List.pairwise_map.1 h.st.2.1
        exact Classical.byContradiction fun hne => by
          obtain ⟨i, hi', rfl⟩ := List.getElem_of_mem he2
          obtain ⟨j, hj', rfl⟩ := List.getElem_of_mem he
          have hij : i ≠ j := fun e => hne (by subst e; rfl)
          rcases Nat.lt_or_ge i j with hl | hl
          · exact (List.pairwise_iff_getElem.1 hp i j hi' hj' hl) hb
          · exact (List.pairwise_iff_getElem.1 hp j i hj' hi' (by omega)) hb.symm
      subst hin
      obtain ⟨i, hi'⟩ := List.getElem?_of_mem he'
      have h1 := congrArg (fun l => l[i]?) hL
      simp only [List.getElem?_map, hi', Option.map_some] at h1
      cases hp : (adel x L)[i]? with
      | none => rw [hp] at h1; simp at h1
      | some p =>
        rw [hp, hx] at h1
        simp only [Option.map_some, Option.some.injEq, Prod.mk.injEq, Value.string.injEq] at h1
        have hpm := List.mem_of_getElem? hp
        have hpe : p = (x, p.2) := by rw [h1.1]
        rw [hpe] at hpm
        have h4 := aget_of_mem (((adel_sub L).map (·.1)).nodup h.tab.nd) hpm
        rw [aget_adel h.tab.nd, if_pos rfl] at h4
        cases h4
    · refine h.seen e' he2 ?_
      simp only [Array.contains_eq_mem, Array.mem_push, decide_eq_true_eq] at hs' ⊢
      rcases hs' with h1 | h1
      · exact h1
      · exact absurd h1 hb
  · refine ⟨fun i r hr => ?_, fun i j a b hij ha hb k hk' => ?_⟩
    · have h5 : ∀ (i : Nat) (r : Rw), [(⟨9, 1, va, A.length, A.map Value.string⟩ : Rw), ⟨9, 1, vg', (G ++ [x]).length, (G ++ [x]).map Value.string⟩][i]? = some r → [(⟨9, 1, va, A.length, A.map Value.string⟩ : Rw), ⟨9, 1, vg', G.length + 1, (G ++ [x]).map Value.string⟩][i]? = some r := by
        intro i r h; rw [List.length_append] at h; exact h
      exact own_setBlock (hf.1 i r (h5 i r hr)) hmW _
    · rw [List.length_append] at ha hb
      exact hf.2 i j a b hij ha hb k hk'
  · rcases e with rfl | e
    · have := h.new.2; omega
    · have := (hvg i e).1; omega
/-- At the end. -/
theorem DelAt.done (h : DelAt w wr own g m sm Rr ck dc rem V K A va vg es L seen c0 G) (h0 : (leftOf es seen).size = 0) {V0 : View} {l : List Ho} (hV : ∀ x, V x = viewR V0 l x) (hV0 : V0 noStr = none) (hK : ∀ x, (aget x K).getD false = true ↔ (x = noStr ∨ ∃ o ∈ l, o.name = x)) :
    (∀ x, (aget x L).map HV.abs = refr V0 l x) ∧ ∀ x, x ∈ G ↔ (V0 x).isSome = true ∧ refr V0 l x = none := by
  have hall := all_seen es seen h0
  have hG : ∀ x, x ∈ G ↔ (aget x K).getD false = false ∧ (V x).isSome = true := by
    intro x
    refine ⟨h.gone x, fun ⟨h1, h2⟩ => Classical.byContradiction fun hn => ?_⟩
    have h3 := h.view x
    rw [if_neg (fun e => hn (gin_iff.1 e))] at h3
    cases hg : aget x L with
    | none => rw [hg] at h3; rw [← h3] at h2; cases h2
    | some v =>
      obtain ⟨i, hi'⟩ := List.getElem?_of_mem (aget_mem hg)
      have h4 := congrArg (fun l => l[i]?) h.hL
      simp only [List.getElem?_map, hi', Option.map_some] at h4
      cases hp : es.toList[i]? with
      | none => rw [hp] at h4; simp at h4
      | some e =>
        rw [hp] at h4
        simp only [Option.map_some, Option.some.injEq, Prod.mk.injEq] at h4
        have hm := List.mem_of_getElem? hp
        obtain ⟨y, hy, hy2⟩ := h.seen e hm (hall e hm)
        rw [h4.1] at hy
        injection hy with hy
        subst hy
        rw [h1] at hy2; cases hy2
  have hKf : ∀ x, (aget x K).getD false = false ↔ ¬ (x = noStr ∨ ∃ o ∈ l, o.name = x) := by
    intro x; rw [← hK]; cases (aget x K).getD false <;> simp
  have hre : ∀ x, ¬ (x = noStr ∨ ∃ o ∈ l, o.name = x) → refr V0 l x = none := by
    intro x hx
    cases hr : refr V0 l x with
    | none => rfl
    | some o => exact absurd ((refr_has (fun e => hx (.inl e))).1 (by rw [hr]; rfl)) fun e => hx (.inr e)
  have hvr : ∀ x, (x = noStr ∨ ∃ o ∈ l, o.name = x) → viewR V0 l x = refr V0 l x := by
    intro x hx
    by_cases e : x = noStr
    · subst e
      unfold viewR
      rw [refr_empty]
      exact hV0
    · have h2 := (refr_has (V := V0) e).2 (hx.resolve_left e)
      unfold viewR
      cases hr : refr V0 l x with
      | none => rw [hr] at h2; cases h2
      | some o => rfl
  refine ⟨fun x => ?_, fun x => ?_⟩
  · rw [h.view]
    by_cases hx : x = noStr ∨ ∃ o ∈ l, o.name = x
    · have : x ∉ G := fun e => ((hKf x).1 ((hG x).1 e).1) hx
      rw [if_neg (fun e => this (gin_iff.1 e)), hV, hvr x hx]
    · rw [hre x hx]
      by_cases e : x ∈ G
      · rw [if_pos (gin_iff.2 e)]
      · rw [if_neg (fun e2 => e (gin_iff.1 e2))]
        cases hv : V x with
        | none => rfl
        | some o => exact absurd ((hG x).2 ⟨(hKf x).2 hx, by rw [hv]; rfl⟩) e
  · rw [hG, hKf]
    constructor
    · rintro ⟨h1, h2⟩
      refine ⟨?_, hre x h1⟩
      rw [hV, viewR_old fun e => h1 (.inr e)] at h2
      exact h2
    · rintro ⟨h1, h2⟩
      have h3 : ¬ (x = noStr ∨ ∃ o ∈ l, o.name = x) := by
        rintro (e | e)
        · subst e; rw [hV0] at h1; cases h1
        · by_cases e2 : x = noStr
          · subst e2; rw [hV0] at h1; cases h1
          · have := (refr_has (V := V0) e2).2 e
            rw [h2] at this; cases this
      exact ⟨h3, by rw [hV, viewR_old fun e => h3 (.inr e)]; exact h1⟩
end
end Go.Proofs.YtepikngkbondgaaGreat

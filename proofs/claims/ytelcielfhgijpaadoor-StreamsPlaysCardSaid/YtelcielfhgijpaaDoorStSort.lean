/- Streams: slices.SortFunc at Due's own row. -/
import Derived.Test.YtelcielfhgijpaaDoorStCmp
import Derived.Test.YtelcielfhgijpaaDoorStShelf
namespace Go.Proofs.YtelcielfhgijpaaDoor
set_option linter.unusedVariables false
open Go.RowKit Go.Sort Go.Shelf

abbrev encI : Int → Value := Value.int .i64
theorem encI_one : OneCell encI := fun _ => rfl

section
variable {W : World} {blk m n cap : Nat} {cur : Array Value} {e : TypeId} {d : Array Int} {os : Array Obj}
theorem sw_block (h : W.heap[blk]? = some (.cells cur e (0, 0))) : (sortWorld encI W blk 0 m d os).heap[blk]? = some (.cells (putCells encI 0 d cur) e (0, 0)) := by
  have hlt : blk < W.heap.size := lt_of_heap h
  unfold sortWorld
  rw [heap_grow_old _ _ (by unfold putRow mapBlock; rw [Array.size_modify]; exact hlt)]
  unfold putRow mapBlock
  show (W.heap.modify blk _)[blk]? = _
  rw [Array.getElem?_modify, if_pos rfl, h]
  rfl
theorem sw_kept (h : W.heap[blk]? = some (.cells cur e (0, 0))) : Kept (fun i => i = blk) W (sortWorld encI W blk 0 m d os) := by
  have hsz : (putRow encI (Go.Sort.ahead W m) blk 0 d).heap.size = W.heap.size := by unfold putRow mapBlock; rw [Array.size_modify]; rfl
  refine ⟨rfl, rfl, rfl, by unfold sortWorld; rw [size_grow, hsz]; exact Nat.le_add_right _ _, fun k hk hn => ?_⟩
  unfold sortWorld
  rw [heap_grow_old _ _ (by rw [hsz]; exact hk)]
  unfold putRow mapBlock
  show (W.heap.modify blk _)[k]? = _
  rw [Array.getElem?_modify, if_neg (fun e => hn e.symm)]
end

def XS.le (s : XS) (x y : Int) : Bool := !Go.Proofs.ltOf s.cmp y x

theorem SortF_at {W : World} {n₀ bx g m1 : Nat} {s : XS} {v : Value} {xs : List Int} (hown : W.ownsRow n₀ 3 1 v xs.length (xs.map encI)) (hc : CmpAt W bx g m1 s) (hg : g < W.heap.size) (h1 : bx < n₀) (h2 : g < n₀) (h3 : m1 < n₀) (hlen : xs.length ≤ 1000000) :
    Calls Tryd.prog 22 #[v, .func (.func 23) #[] #[.pointer (some ⟨bx, 0, none⟩)]] W fun e w' => e = .returned (.tuple #[]) ∧ Sl w' 3 1 v xs.length ((xs.mergeSort s.le).map encI) ∧ Kept (fun i => v.ownBlock = some i) W w' := by
  obtain ⟨hl, hown⟩ := hown
  rcases hown with ⟨rfl, h0⟩ | ⟨g', cap, cur, rfl, hb, hh, hnc, hm, hcs, hx⟩
  · have : xs = [] := List.eq_nil_of_length_eq_zero h0
    subst this
    refine Calls.mono (AnyF.slices_SortFunc_none { Tryd.sortF with } none 0 _ W) ?_
    rintro e w' ⟨rfl, rfl⟩
    exact ⟨rfl, by rw [List.mergeSort_nil]; exact SlK.nil _ _ _, Kept.refl _ _⟩
  · have hsz : xs.toArray.size = xs.length := by simp
    have hcell : ∀ j, j < xs.length → cur[j]? = some (encI xs.toArray[j]!) := by
      intro j hj
      have : (cur.toList.take (xs.length * 1))[j]? = (xs.map encI)[j]? := by rw [hx]
      rw [List.getElem?_take_of_lt (by omega), Array.getElem?_toList] at this
      rw [this, List.getElem?_map, List.getElem?_eq_getElem hj]
      simp [getElem!_pos, hj]
    have hH : Holds encI W g' 0 xs.toArray := by
      intro j hj
      rw [hsz] at hj
      exact ⟨by rw [cell_of_row W g' (0 + j) cur _ _ hh, Nat.zero_add]; exact hcell j hj, by simp [World.frozen?, hh]⟩
    have hcmp : CmpLays1 Tryd.prog 23 #[.pointer (some ⟨bx, 0, none⟩)] encI s.cmp g' 0 xs.toArray.size W := by
      intro m os dk hs x y
      have hk := sw_kept (m := m) (d := dk) (os := os) hh
      have := Duef_at (hc.kept hk (by omega) (by omega) (by omega) hg) (Nat.lt_of_lt_of_le hg hk.size) x y
      exact this
    have hcon := Any.slices_SortFunc_total Tryd.sortF encI encI_one s.cmp s.swo 23 #[.pointer (some ⟨bx, 0, none⟩)] g' 0 cap xs.toArray W (enters_of Tryd.func23 (by kernel_rfl) rfl) hcmp hH (lt_of_heap hh) (by rw [hsz]; omega) s.tot
    rw [hsz] at hcon
    refine Calls.mono hcon ?_
    rintro e w' ⟨rfl, m, os, rfl⟩
    have hml : (xs.mergeSort s.le).length = xs.length := List.length_mergeSort _
    refine ⟨rfl, ⟨by rw [List.length_map, hml, Nat.mul_one], _, _, rfl, hnc, hm, .inr ⟨g', 0, _, _, _, rfl, sw_block hh, rfl, fun j u hu => ?_⟩⟩, (sw_kept hh).mono fun i _ e => by simp [Value.ownBlock, e]⟩
    have hj : j < xs.length := by have := (List.getElem?_eq_some_iff.1 hu).1; rw [List.length_map, hml] at this; exact this
    rw [Nat.zero_add]
    show (putCells encI 0 (xs.mergeSort s.le).toArray cur)[j]? = some u
    unfold putCells
    have hjc : j < cur.size := by omega
    rw [Array.getElem?_mapIdx, Array.getElem?_eq_getElem hjc]
    simp only [Option.map_some, Nat.zero_le, true_and, Nat.zero_add, Nat.sub_zero, List.size_toArray, hml, hj, if_true]
    rw [List.getElem?_map, List.getElem?_eq_getElem (by rw [hml]; exact hj)] at hu
    rw [← hu]
    simp [hml, hj]

theorem XS.le_eq (s : XS) (x y : Int) : s.le x y = decide (s.till x < s.till y ∨ s.till x = s.till y ∧ x ≤ y) := by
  unfold XS.le
  rw [s.cmp_lt]
  generalize s.till x = a
  generalize s.till y = b
  by_cases h : b < a ∨ b = a ∧ y < x
  · rw [decide_eq_true h, decide_eq_false (by omega)]; rfl
  · rw [decide_eq_false h, decide_eq_true (by omega)]; rfl
theorem XS.sort_perm (s : XS) {l l' : List Int} (h : l.Perm l') : l.mergeSort s.le = l'.mergeSort s.le := by
  have tr : ∀ a b c : Int, s.le a b = true → s.le b c = true → s.le a c = true := fun a b c h1 h2 => by
    rw [s.le_eq] at *; simp only [decide_eq_true_eq] at *; omega
  have to : ∀ a b : Int, (s.le a b || s.le b a) = true := fun a b => by
    rw [s.le_eq, s.le_eq, Bool.or_eq_true]; simp only [decide_eq_true_eq]; omega
  refine List.Perm.eq_of_pairwise (le := fun a b => s.le a b = true) (fun a b _ _ h1 h2 => ?_) (List.pairwise_mergeSort tr to l) (List.pairwise_mergeSort tr to l') (((List.mergeSort_perm l s.le).trans h).trans (List.mergeSort_perm l' s.le).symm)
  rw [s.le_eq] at h1 h2
  simp only [decide_eq_true_eq] at h1 h2
  omega
end Go.Proofs.YtelcielfhgijpaaDoor

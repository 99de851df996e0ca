/- slices.SortFunc at a ring's places: an own row of them. -/
import Derived.Test.YtjkmgpmknadhjaaGreatRgBase
import Derived.Test.YtjkmgpmknadhjaaGreatRgShelf
namespace Go.Proofs.YtjkmgpmknadhjaaGreat
set_option linter.unusedVariables false
open Go.RowKit Go.Sort Go.Shelf

theorem flatK_list {α : Type} [Inhabited α] {enc : α → List Value} {k : Nat} (hk : ∀ x, (enc x).length = k) (l : List α) : (flatK enc k l.toArray).toList = l.flatMap enc := by
  apply List.ext_getElem?
  intro t
  have hfl : (l.flatMap enc).length = l.length * k := flat_len hk l
  by_cases ht : t < l.length * k
  · have k0 : 0 < k := by rcases Nat.eq_zero_or_pos k with h | h; · subst h; simp at ht
                          · exact h
    have hi : t / k < l.length := (Nat.div_lt_iff_lt_mul k0).2 ht
    have hj : t % k < k := Nat.mod_lt _ k0
    have h1 := flat_get hk l (t / k) (t % k) l[t / k] (List.getElem?_eq_getElem hi) hj
    rw [show t / k * k + t % k = t by rw [Nat.mul_comm]; exact Nat.div_add_mod t k] at h1
    rw [h1]
    have h2 : (flatK enc k l.toArray).toList.length = l.length * k := by simp
    rw [List.getElem?_eq_getElem (by rw [h2]; exact ht), List.getElem?_eq_getElem (by rw [hk]; exact hj)]
    have h3 := get_flatK enc k l.toArray t (by simpa using ht)
    rw [getElem!_pos _ t (by simpa using ht)] at h3
    simp only [Array.getElem_toList]
    rw [h3]
    simp [getElem!_pos, hi, hk, hj]
  · rw [List.getElem?_eq_none (show (flatK enc k l.toArray).toList.length ≤ t by simp; omega), List.getElem?_eq_none (show (l.flatMap enc).length ≤ t by rw [hfl]; omega)]

section
variable {W : World} {blk m n cap : Nat} {cur : Array Value} {e : TypeId} {d : Array Value} {os : Array Obj}
theorem swv_block (h : W.heap[blk]? = some (.cells cur e (0, 0))) : (sortWorld id W blk 0 m d os).heap[blk]? = some (.cells (putCells id 0 d cur) e (0, 0)) := by
  have hlt : blk < W.heap.size := lt_of_heap h
  unfold sortWorld
  rw [heap_grow_old _ _ (by unfold putRow mapBlock; rw [Array.size_modify]; exact hlt)]
  unfold putRow mapBlock
  show (W.heap.modify blk _)[blk]? = _
  rw [Array.getElem?_modify, if_pos rfl, h]
  rfl
theorem swv_kept : Kept (fun i => i = blk) W (sortWorld id W blk 0 m d os) := by
  have hsz : (putRow id (Go.Sort.ahead W m) blk 0 d).heap.size = W.heap.size := by unfold putRow mapBlock; rw [Array.size_modify]; rfl
  refine ⟨rfl, rfl, rfl, by unfold sortWorld; rw [size_grow, hsz]; exact Nat.le_add_right _ _, fun k hk hn => ?_⟩
  unfold sortWorld
  rw [heap_grow_old _ _ (by rw [hsz]; exact hk)]
  unfold putRow mapBlock
  show (W.heap.modify blk _)[k]? = _
  rw [Array.getElem?_modify, if_neg (fun e => hn e.symm)]
end

def cmpP (a b : Pl) : Int := cmpZ a.1 b.1
theorem cmpP_lt (a b : Pl) : Go.Proofs.ltOf cmpP a b = decide (a.1 < b.1) := by
  unfold Go.Proofs.ltOf cmpP cmpZ
  by_cases h1 : a.1 < b.1
  · simp [h1]
  · by_cases h2 : b.1 < a.1 <;> simp [h1, h2]
theorem cmpP_swo : SWO (Go.Proofs.ltOf cmpP) where
  irrefl x := by rw [cmpP_lt]; simp
  trans x y z := by simp only [cmpP_lt, decide_eq_true_eq]; omega
  ntrans x y z := by simp only [cmpP_lt, decide_eq_false_iff_not]; omega

theorem PSort_at {W : World} {n₀ : Nat} {v : Value} {xs : List Pl} (hown : W.ownsRow n₀ 54 2 v xs.length (xs.flatMap pC)) (hlen : xs.length ≤ 1000000) :
    Calls Tryz.prog 38 #[v, .func (.func 39) #[] #[]] W fun e w' => e = .returned (.tuple #[]) ∧ ∃ S : List Pl, S.Perm xs ∧ S.Pairwise (fun a b => a.1 ≤ b.1) ∧ Sl w' 54 2 v xs.length (S.flatMap pC) ∧ Kept (fun i => v.ownBlock = some i) W w' := by
  have hown0 := hown
  obtain ⟨hl, hown⟩ := hown
  rcases hown with ⟨rfl, h0⟩ | ⟨g', cap, cur, rfl, hb, hh, hnc, hm, hcs, hx⟩
  · have : xs = [] := List.eq_nil_of_length_eq_zero h0
    subst this
    refine Calls.mono (AnyF.slices_SortFunc_none { Tryz.psort with } none 0 _ W) ?_
    rintro e w' ⟨rfl, rfl⟩
    exact ⟨rfl, [], .nil, .nil, SlK.nil _ _ _, Kept.refl _ _⟩
  · have hsz : xs.toArray.size = xs.length := by simp
    have hfz : (flatK pC 2 xs.toArray).size = xs.length * 2 := by simp
    have hcell : ∀ (d : List Pl) (j : Nat), j < d.length * 2 → some ((flatK pC 2 d.toArray)[j]!) = (d.flatMap pC)[j]? := by
      intro d j hj
      rw [← flatK_list (enc := pC) (k := 2) (fun _ => rfl) d, Array.getElem?_toList]
      have : j < (flatK pC 2 d.toArray).size := by simpa using hj
      rw [getElem!_pos _ j this, Array.getElem?_eq_getElem this]
    have hH : HoldsK pC 2 W g' 0 xs.toArray := by
      intro j hj
      rw [hfz] at hj
      refine ⟨?_, by simp [World.frozen?, hh]⟩
      rw [cell_of_row W g' (0 + j) cur _ _ hh, Nat.zero_add]
      have h1 : (cur.toList.take (xs.length * 2))[j]? = (xs.flatMap pC)[j]? := by rw [hx]
      rw [List.getElem?_take_of_lt hj, Array.getElem?_toList] at h1
      rw [h1, ← hcell xs j hj]
      rfl
    have hcmp : CmpLays Tryz.prog 39 #[] pC 2 cmpP g' 0 xs.toArray.size W := by
      intro m os dk hs x y
      exact Rnew1_at x y _
    have hcon := AnyQ.slices_SortFunc Tryz.psort 2 (Tryz.isAgg54) (Tryz.sizeOf54) pC (fun _ => rfl) (fun x v hv => by
      simp only [pC, List.mem_cons, List.not_mem_nil, or_false] at hv
      rcases hv with rfl | rfl <;> rfl) cmpP cmpP_swo 39 #[] g' 0 cap xs.toArray W (enters_of Tryz.func39 (by kernel_rfl) rfl) hcmp hH (lt_of_heap hh) (by rw [hsz]; omega)
    rw [hsz] at hcon
    refine Calls.mono hcon ?_
    rintro e w' ⟨rfl, d', m, os, hp, hs, rfl⟩
    obtain ⟨hp1, -, hp3⟩ := hp
    have hd : d'.size = xs.length := by rw [hp1, hsz]
    have hperm : d'.toList.Perm xs := by
      have e1 : (d'.extract 0 xs.length).toList = d'.toList := by rw [← hd]; simp
      have e2 : (xs.toArray.extract 0 xs.length).toList = xs := by simp
      rw [e1, e2] at hp3
      exact hp3
    have hdl : d'.toList.length = xs.length := by rw [Array.length_toList, hd]
    refine ⟨rfl, d'.toList, hperm, ?_, ⟨by rw [pC_len, hdl], _, _, rfl, hnc, hm, .inr ⟨g', 0, _, _, _, rfl, swv_block hh, rfl, fun j u hu => ?_⟩⟩, swv_kept.mono fun i _ e => by simp [Value.ownBlock, e]⟩
    · rw [List.pairwise_iff_getElem]
      intro i j hi hj hij
      rw [hdl] at hi hj
      have h1 := hs i j (Nat.zero_le _) hij hj
      rw [cmpP_lt, decide_eq_false_iff_not, getElem!_pos d' j (by omega), getElem!_pos d' i (by omega)] at h1
      simp only [Array.getElem_toList]
      omega
    · have hj : j < xs.length * 2 := by have := (List.getElem?_eq_some_iff.1 hu).1; rw [pC_len, hdl] at this; exact this
      rw [Nat.zero_add]
      show (putCells id 0 (flatK pC 2 d') cur)[j]? = some u
      unfold putCells
      have hjc : j < cur.size := by
        have : xs.length * 2 ≤ cap * 2 := Nat.mul_le_mul_right _ hnc
        omega
      rw [Array.getElem?_mapIdx, Array.getElem?_eq_getElem hjc]
      simp only [Option.map_some, Nat.zero_le, true_and, Nat.zero_add, Nat.sub_zero, size_flatK, hd, hj, if_true, id]
      rw [← hu]
      have := hcell d'.toList j (by rw [hdl]; exact hj)
      simpa using this
end Go.Proofs.YtjkmgpmknadhjaaGreat

/- plan, plainly: without a host that is down a plan is what it was, but for that host. No program is named. -/
import Derived.Test.YtepikngkbondgaaGreatMg08
namespace Go.Proofs.YtepikngkbondgaaGreat
set_option linter.unusedVariables false
open Go.RowKit

theorem mark_map (S : List Ho) (hS : risingH S) (x : ByteArray) (up : Bool) : (markP S x up).1 = S.map (setUp x up) := by
  unfold markP
  cases hg : getS x S with
  | none =>
    have h := getS_none.1 hg
    symm
    refine (List.map_congr_left (g := id) fun o ho => ?_).trans (List.map_id _)
    unfold setUp
    rw [if_neg (h o ho)]; rfl
  | some o =>
    simp only []
    by_cases e : o.up = up
    · rw [if_pos e]
      symm
      refine (List.map_congr_left (g := id) fun a ha => ?_).trans (List.map_id _)
      unfold setUp
      by_cases en : a.name = x
      · have h1 := getS_of_mem (rising_ne hS) ha
        rw [en, hg] at h1
        cases h1
        rw [if_pos en]
        show ({ o with up := up } : Ho) = o
        rw [← e]
      · rw [if_neg en]; rfl
    · rw [if_neg e]; rfl
section
variable {dc : ByteArray} {rem : Int} {S : List Ho} {x : ByteArray} {up : Bool}
theorem setUp_dc (x : ByteArray) (up : Bool) (o : Ho) : (setUp x up o).dc = o.dc := by unfold setUp; split <;> rfl
theorem setUp_rack (x : ByteArray) (up : Bool) (o : Ho) : (setUp x up o).rack = o.rack := by unfold setUp; split <;> rfl
theorem setUp_toks (x : ByteArray) (up : Bool) (o : Ho) : (setUp x up o).toks = o.toks := by unfold setUp; split <;> rfl
theorem mark_dist (y : ByteArray) : distP dc rem (S.map (setUp x up)) y = distP dc rem S y := by
  unfold distP
  rw [mark_get]
  cases getS y S with
  | none => rfl
  | some o =>
    simp only [Option.map_some]
    have h1 : aheadN (S.map (setUp x up)) o.dc y = aheadN S o.dc y := by
      unfold aheadN
      rw [List.filter_map, List.length_map]
      congr 2
      funext a
      simp only [Function.comp_def, setUp_dc, setUp_name]
    rw [setUp_dc, h1]
theorem mark_pairs : pairsH (S.map (setUp x up)) = pairsH S := by
  unfold pairsH
  rw [List.flatMap_map]
  congr 1
  funext o
  rw [setUp_toks, setUp_name]
theorem mark_sites : sitesS (S.map (setUp x up)) = sitesS S := by
  unfold sitesS
  rw [List.map_map]
  refine List.map_congr_left fun o _ => ?_
  show ((setUp x up o).name, (setUp x up o).dc, (setUp x up o).rack) = _
  rw [setUp_name, setUp_dc, setUp_rack]
theorem mark_repl (n : Int) (fs : List Fa) (t : Int) : replP (S.map (setUp x up)) n fs t = replP S n fs t := by
  have h1 : ringW (S.map (setUp x up)) t = ringW S t := by unfold ringW refRing; rw [mark_pairs]
  unfold replP
  rw [h1, mark_sites]
theorem mark_far (d : Int) : farL dc rem (S.map (setUp x up)) d = farL dc rem S d := by
  unfold farL
  rw [List.filter_map, List.map_map]
  have e1 : ((fun o : Ho => o.name) ∘ setUp x up) = fun o => o.name := by funext o; exact setUp_name _ _ _
  have e2 : ((fun o : Ho => decide (distP dc rem (S.map (setUp x up)) o.name = d)) ∘ setUp x up) = fun o => decide (distP dc rem S o.name = d) := by
    funext o
    simp only [Function.comp_def, setUp_name, mark_dist]
  rw [e1, e2]
theorem mark_up (y : ByteArray) : upS (S.map (setUp x false)) y = if y = x then false else upS S y := by
  unfold upS
  rw [mark_get]
  cases hg : getS y S with
  | none => simp
  | some o =>
    have hn := getS_name hg
    simp only [Option.map_some]
    unfold setUp
    by_cases e : y = x
    · rw [if_pos e, if_pos (hn.trans e)]
    · rw [if_neg e, if_neg (fun e2 => e (hn.symm.trans e2))]
theorem plan_names (hS : risingH S) {n : Int} {fs : List Fa} {routed : Bool} {t : Int} {k : Nat} {y : ByteArray} (h : y ∈ planP dc rem S n fs routed t k) : ∃ o ∈ S, o.name = y := by
  obtain ⟨A, B, C, h1, -, h2, h3, h4⟩ := plan_spec (dc := dc) (rem := rem) hS n fs routed t k
  rw [h1] at h
  have : distP dc rem S y ≠ 0 := by
    rcases List.mem_append.1 h with h | h
    · rcases List.mem_append.1 h with h | h
      · rw [((h2 y).1 h).2.2]; decide
      · rw [((h3 y).1 h).2.1]; decide
    · rw [((h4 y).1 h).2]; decide
  obtain ⟨o, ho⟩ := dist_some this
  exact ⟨o, getS_mem ho, getS_name ho⟩
theorem plan_len (hS : risingH S) {n : Int} {fs : List Fa} {routed : Bool} {t : Int} {k : Nat} : (planP dc rem S n fs routed t k).length ≤ S.length := by
  obtain ⟨A, B, C, h1, h0, -⟩ := plan_spec (dc := dc) (rem := rem) hS n fs routed t k
  have := nodup_le (a := planP dc rem S n fs routed t k) (b := S.map (·.name)) (by rw [h1]; exact h0) fun y hy => by
    obtain ⟨o, ho, e⟩ := plan_names hS hy
    exact List.mem_map.2 ⟨o, ho, e⟩
  rwa [List.length_map] at this
def butN (x : ByteArray) (l : List ByteArray) : List ByteArray := l.filter fun y => !decide (y = x)
theorem has_but {l : List ByteArray} {y : ByteArray} (h : y ≠ x) : has (butN x l) y = has l y := by
  have : has (butN x l) y = true ↔ has l y = true := by
    rw [has_iff, has_iff]
    unfold butN
    rw [List.mem_filter]
    exact ⟨fun h => h.1, fun h2 => ⟨h2, by simp [h]⟩⟩
  rw [Bool.eq_iff_iff]; exact this
theorem but_put (d : Int) : ∀ (l out : List ByteArray), l.foldl (putN dc rem (S.map (setUp x false)) d) (butN x out) = butN x (l.foldl (putN dc rem S d) out)
  | [], _ => rfl
  | y :: l, out => by
    rw [List.foldl_cons, List.foldl_cons]
    have e : putN dc rem (S.map (setUp x false)) d (butN x out) y = butN x (putN dc rem S d out y) := by
      unfold putN
      rw [mark_up, mark_dist]
      by_cases hy : y = x
      · rw [if_pos hy, if_neg fun h => by cases h.1]
        split
        · unfold butN; rw [List.filter_append]; simp [hy]
        · rfl
      · rw [if_neg hy, has_but hy]
        split
        · unfold butN; rw [List.filter_append]; simp [hy]
        · rfl
    rw [e]
    exact but_put d l _
/-- The plan without a host that is down. -/
theorem plan_down (n : Int) (fs : List Fa) (routed : Bool) (t : Int) (k : Nat) : planP dc rem (S.map (setUp x false)) n fs routed t k = butN x (planP dc rem S n fs routed t k) := by
  unfold planP
  rw [mark_repl, mark_far, mark_far]
  have e : ([] : List ByteArray) = butN x [] := rfl
  unfold putP
  conv => lhs; rw [e]
  cases routed with
  | true =>
    simp only [if_true]
    rw [but_put, but_put, but_put]
  | false =>
    simp only [Bool.false_eq_true, if_false]
    rw [but_put, but_put, but_put]
    rfl
theorem mark_again : ((S.map (setUp x true)).map (setUp x false)).map (setUp x true) = S.map (setUp x true) := by
  rw [List.map_map, List.map_map]
  refine List.map_congr_left fun o _ => ?_
  simp only [Function.comp_def]
  unfold setUp
  by_cases e : o.name = x <;> simp [e]
theorem but_step {l : List ByteArray} {i : Nat} {y : ByteArray} (h : l[i]? = some y) : butN x (l.take (i + 1)) = butN x (l.take i) ++ (if y = x then [] else [y]) := by
  unfold butN
  rw [List.take_add_one, h, List.filter_append]
  by_cases e : y = x <;> simp [e]
end
end Go.Proofs.YtepikngkbondgaaGreat

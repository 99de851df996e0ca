/- hosts: cmp.Compare at texts, the closure that compares hosts, slices.SortFunc at an own row of hosts. -/
import Derived.Test.YtjkmgpmknadhjaaGreatHoSort
import Derived.Test.YtjkmgpmknadhjaaGreatHoDist
namespace Go.Proofs.YtjkmgpmknadhjaaGreat
set_option linter.unusedVariables false
open Go.RowKit Go.Sort Go.Shelf

def cmpN (a b : ByteArray) : Int := if nlt a b then -1 else if nlt b a then 1 else 0
theorem nanS_at (a : ByteArray) (w : World) : Calls Tryz.prog 48 #[.string a] w fun e w' => e = .returned (.bool false) ∧ w' = w := by
  have hb := strEq_self a
  go_enter Tryz.func48, Tryz.ntmps48
  go_wp2
  go_ret
  exact ⟨by simp, rfl⟩
theorem cmpS_at (a b : ByteArray) (w : World) : Calls Tryz.prog 31 #[.string a, .string b] w fun e w' => e = .returned (.int .i64 (cmpN a b)) ∧ w' = w := by
  by_cases h1 : nlt a b
  · have hz : cmpN a b = -1 := by unfold cmpN; rw [if_pos h1]
    have hl : Op.bytesLess a.toList b.toList = true := by rw [less_nlt]; exact decide_eq_true h1
    rw [hz]
    clear hz h1
    go_enter Tryz.func31, Tryz.ntmps31
    go_wp2_with (go_at_call 48; refine (nanS_at _ _).mono ?_; rintro e w' ⟨rfl, rfl⟩)
    go_ret
    exact ⟨rfl, rfl⟩
  · have hl : Op.bytesLess a.toList b.toList = false := by rw [less_nlt]; exact decide_eq_false h1
    by_cases h2 : nlt b a
    · have hz : cmpN a b = 1 := by unfold cmpN; rw [if_neg h1, if_pos h2]
      have hbe := strEq_ne (show a ≠ b from fun e => nlt_irrefl b (by rw [e] at h2; exact h2))
      rw [hz]
      clear hz h1 h2
      go_enter Tryz.func31, Tryz.ntmps31
      go_wp2_with (go_at_call 48; refine (nanS_at _ _).mono ?_; rintro e w' ⟨rfl, rfl⟩)
      go_ret
      exact ⟨rfl, rfl⟩
    · have hz : cmpN a b = 0 := by unfold cmpN; rw [if_neg h1, if_neg h2]
      obtain rfl := nlt_tri h1 h2
      have hbe := strEq_self a
      rw [hz]
      clear hz h1 h2
      go_enter Tryz.func31, Tryz.ntmps31
      go_wp2_with (go_at_call 48; refine (nanS_at _ _).mono ?_; rintro e w' ⟨rfl, rfl⟩)
      go_ret
      exact ⟨rfl, rfl⟩
theorem hAll1_at (a b : HV) (w : World) : Calls Tryz.prog 30 #[.agg (hvC a).toArray, .agg (hvC b).toArray] w fun e w' => e = .returned (.int .i64 (cmpN a.name b.name)) ∧ Grew w w' := by
  obtain ⟨a1, a2, a3, a4, a5, a6, a7, a8⟩ := a
  obtain ⟨b1, b2, b3, b4, b5, b6, b7, b8⟩ := b
  unfold hvC
  simp only []
  go_enter Tryz.func30, Tryz.ntmps30
  go_wp2_with (go_at_call 31; refine (cmpS_at _ _ _).mono ?_; rintro e w' ⟨rfl, rfl⟩)
  go_ret
  exact ⟨rfl, ((Grew.refl _).alloc _).alloc _⟩
def cmpH (a b : HV) : Int := cmpN a.name b.name
theorem cmpH_lt (a b : HV) : Go.Proofs.ltOf cmpH a b = decide (nlt a.name b.name) := by
  unfold Go.Proofs.ltOf cmpH cmpN
  by_cases h1 : nlt a.name b.name
  · simp [h1]
  · by_cases h2 : nlt b.name a.name <;> simp [h1, h2]
theorem cmpH_swo : SWO (Go.Proofs.ltOf cmpH) where
  irrefl x := by rw [cmpH_lt]; exact decide_eq_false (nlt_irrefl _)
  trans x y z := by simp only [cmpH_lt, decide_eq_true_eq]; exact nlt_trans
  ntrans x y z := by
    simp only [cmpH_lt, decide_eq_false_iff_not]
    intro h1 h2 h3
    by_cases e : nlt y.name x.name
    · exact h2 (nlt_trans e h3)
    · have := nlt_tri h1 e
      rw [this] at h3
      exact h2 h3
instance : Inhabited HV := ⟨⟨noStr, noStr, noStr, none, 0, 0, [], false⟩⟩
theorem hvC_len (l : List HV) : (l.flatMap hvC).length = l.length * 5 := flat_len (k := 5) (fun _ => rfl) l
theorem HSort_at {W : World} {n₀ : Nat} {v : Value} {xs : List HV} (hown : W.ownsRow n₀ 59 5 v xs.length (xs.flatMap hvC)) (hlen : xs.length ≤ 1000000) :
    Calls Tryz.prog 46 #[v, .func (.func 30) #[] #[]] W fun e w' => e = .returned (.tuple #[]) ∧ ∃ S : List HV, S.Perm xs ∧ S.Pairwise (fun a b => ¬ nlt b.name a.name) ∧ w'.ownsRow n₀ 59 5 v xs.length (S.flatMap hvC) ∧ Kept (fun i => v.ownBlock = some i) W w' := by
  obtain ⟨hl, hown⟩ := hown
  rcases hown with ⟨rfl, h0⟩ | ⟨g', cap, cur, rfl, hb, hh, hnc, hm, hcs, hx⟩
  · have : xs = [] := List.eq_nil_of_length_eq_zero h0
    subst this
    refine Calls.mono (AnyF.slices_SortFunc_none { Tryz.hsort with } none 0 _ W) ?_
    rintro e w' ⟨rfl, rfl⟩
    exact ⟨rfl, [], .nil, .nil, World.ownsRow_nil _ _ _ _, Kept.refl _ _⟩
  · have hsz : xs.toArray.size = xs.length := by simp
    have hfz : (flatK hvC 5 xs.toArray).size = xs.length * 5 := by simp
    have hcell : ∀ (d : List HV) (j : Nat), j < d.length * 5 → some ((flatK hvC 5 d.toArray)[j]!) = (d.flatMap hvC)[j]? := by
      intro d j hj
      rw [← flatK_list (enc := hvC) (k := 5) (fun _ => rfl) d, Array.getElem?_toList]
      have : j < (flatK hvC 5 d.toArray).size := by simpa using hj
      rw [getElem!_pos _ j this, Array.getElem?_eq_getElem this]
    have hH : HoldsK hvC 5 W g' 0 xs.toArray := by
      intro j hj
      rw [hfz] at hj
      refine ⟨?_, by simp [World.frozen?, hh]⟩
      rw [cell_of_row W g' (0 + j) cur _ _ hh, Nat.zero_add]
      have h1 : (cur.toList.take (xs.length * 5))[j]? = (xs.flatMap hvC)[j]? := by rw [hx]
      rw [List.getElem?_take_of_lt hj, Array.getElem?_toList] at h1
      rw [h1, ← hcell xs j hj]
      rfl
    have hcmp : CmpLays Tryz.prog 30 #[] hvC 5 cmpH g' 0 xs.toArray.size W := by
      intro m os dk hs x y
      exact hAll1_at x y _
    have hcon := AnyQ.slices_SortFunc Tryz.hsort 5 (Tryz.isAgg59) (Tryz.sizeOf59) hvC (fun _ => rfl) (fun x v hv => by
      simp only [hvC, List.mem_cons, List.not_mem_nil, or_false] at hv
      rcases hv with rfl | rfl | rfl | rfl | rfl <;> rfl) cmpH cmpH_swo 30 #[] g' 0 cap xs.toArray W (enters_of Tryz.func30 (by kernel_rfl) rfl) hcmp hH (lt_of_heap hh) (by rw [hsz]; omega)
    rw [hsz] at hcon
    refine Calls.mono hcon ?_
    rintro e w' ⟨rfl, d', m, os, hp, hs, rfl⟩
    obtain ⟨hp1, -, hp3⟩ := hp
    have hd : d'.size = xs.length := by rw [hp1, hsz]
    have hperm : d'.toList.Perm xs := by
      have e1 : (d'.extract 0 xs.length).toList = d'.toList := by rw [← hd]; simp
      have e2 : (xs.toArray.extract 0 xs.length).toList = xs := by simp
      rw [e1, e2] at hp3
      exact hp3
    have hdl : d'.toList.length = xs.length := by rw [Array.length_toList, hd]
    refine ⟨rfl, d'.toList, hperm, ?_, ⟨by rw [hvC_len, hdl], .inr ⟨g', cap, _, rfl, hb, swv_block hh, hnc, hm, by rw [put_size]; exact hcs, ?_⟩⟩, swv_kept.mono fun i _ e => by simp [Value.ownBlock, e]⟩
    · rw [List.pairwise_iff_getElem]
      intro i j hi hj hij
      rw [hdl] at hi hj
      have h1 := hs i j (Nat.zero_le _) hij hj
      rw [cmpH_lt, decide_eq_false_iff_not, getElem!_pos d' j (by omega), getElem!_pos d' i (by omega)] at h1
      simp only [Array.getElem_toList]
      exact h1
    · have hpt := put_take (enc := (id : Value → Value)) (cur := cur) (l := d'.toList.flatMap hvC) (by rw [hvC_len, hdl]; have : xs.length * 5 ≤ cap * 5 := Nat.mul_le_mul_right _ hnc; omega)
      rw [List.map_id, hvC_len, hdl] at hpt
      have e1 : flatK hvC 5 d' = (d'.toList.flatMap hvC).toArray := by
        have := flatK_list (enc := hvC) (k := 5) (fun _ => rfl) d'.toList
        rw [← this]
      rw [e1]
      exact hpt
end Go.Proofs.YtjkmgpmknadhjaaGreat

/- pool's loads: how they are compared, and sorted. -/
import Derived.Test.YtfnjoceolcdeoaaGreatDoorLoShelf
import Derived.Test.YtfnjoceolcdeoaaGreatDoorMr07
import Derived.Test.YtfnjoceolcdeoaaGreatDoorMr11
import Derived.Test.YtfnjoceolcdeoaaGreatDoorMr45
import Derived.Deep.LoopGhost
import Derived.Shelf.SlSortCmp.Kit1
namespace Go.Proofs.YtfnjoceolcdeoaaGreatDoor
set_option linter.unusedVariables false
open Go.RowKit Go.Sort Go.Shelf

theorem nanI_at (a : Int) (w : World) : Calls Tryz.prog 73 #[.int .i64 a] w fun e w' => e = .returned (.bool false) ∧ w' = w := by
  go_enter Tryz.func73, Tryz.ntmps73
  go_wp2
  go_ret
  exact ⟨rfl, rfl⟩
theorem cmpI_at (a b : Int) (w : World) : Calls Tryz.prog 52 #[.int .i64 a, .int .i64 b] w fun e w' => e = .returned (.int .i64 (cmpZ a b)) ∧ w' = w := by
  by_cases h1 : a < b
  · have hz : cmpZ a b = -1 := by unfold cmpZ; rw [if_pos h1]
    rw [hz]
    clear hz
    go_enter Tryz.func52, Tryz.ntmps52
    go_wp2_with (go_at_call 73; refine (nanI_at _ _).mono ?_; rintro e w' ⟨rfl, rfl⟩)
    go_ret
    exact ⟨rfl, rfl⟩
  · by_cases h2 : b < a
    · have hz : cmpZ a b = 1 := by unfold cmpZ; rw [if_neg h1, if_pos h2]
      rw [hz]
      clear hz
      go_enter Tryz.func52, Tryz.ntmps52
      go_wp2_with (go_at_call 73; refine (nanI_at _ _).mono ?_; rintro e w' ⟨rfl, rfl⟩)
      go_ret
      exact ⟨rfl, rfl⟩
    · have hz : cmpZ a b = 0 := by unfold cmpZ; rw [if_neg h1, if_neg h2]
      rw [hz]
      clear hz
      go_enter Tryz.func52, Tryz.ntmps52
      go_wp2_with (go_at_call 73; refine (nanI_at _ _).mono ?_; rintro e w' ⟨rfl, rfl⟩)
      go_ret
      exact ⟨rfl, rfl⟩
def orZ (x y : Int) : Int := if x = 0 then y else x
theorem cmpOr_at (x y : Int) {g : Nat} {w : World} (h : Blk w g 3 #[.int .i64 x, .int .i64 y]) :
    Calls Tryz.prog 51 #[.slice (some ⟨g, 0, none⟩) 2 2] w fun e w' => e = .returned (.int .i64 (orZ x y)) ∧ w' = w := by
  have c0 := h.cell 0
  have c1 := h.cell 1
  simp only [List.getElem?_toArray, List.getElem?_cons_zero, List.getElem?_cons_succ] at c0 c1
  clear h
  have HX := Lib.hid (show orZ x y = if x = 0 then y else x from rfl)
  generalize orZ x y = r at *
  go_enter Tryz.func51, Tryz.ntmps51
  go_wp2
  go_loopg [2, 5, 8] 2 (fun j v2 v5 v8 wr => wr = w ∧ ∃ k : Nat, k + j = 2 ∧ v8 = .int .i64 k ∧ (k = 0 ∨ x = 0 ∧ (k = 1 ∨ y = 0)))
  case atStart => exact ⟨rfl, 0, rfl, rfl, .inl rfl⟩
  case round =>
    obtain ⟨rfl, k, hkj, rfl, hk⟩ := hrel
    have hk3 : k = 0 ∨ k = 1 ∨ k = 2 := by omega
    rcases hk3 with rfl | rfl | rfl
    · by_cases hx : x = 0
      · subst hx
        clear HX
        go_wp2
        go_roundg 1
        case measure => omega
        case rel => exact ⟨rfl, 1, rfl, rfl, .inr ⟨by trivial, .inl rfl⟩⟩
      · have e := HX.out
        rw [if_neg hx] at e
        subst e
        clear HX hk
        go_wp2
        go_ret
        exact ⟨rfl, rfl⟩
    · have hx : x = 0 := by rcases hk with h | h; exact absurd h (by decide); exact h.1
      subst hx
      have e := HX.out
      rw [if_pos rfl] at e
      subst e
      clear HX hk
      by_cases hy : r = 0
      · subst hy
        go_wp2
        go_roundg 0
        case measure => omega
        case rel => exact ⟨rfl, 2, rfl, rfl, .inr ⟨by trivial, .inr (by trivial)⟩⟩
      · go_wp2
        go_ret
        exact ⟨rfl, rfl⟩
    · have hxy : x = 0 ∧ y = 0 := by rcases hk with h | ⟨h1, h2 | h2⟩; exact absurd h (by decide); exact absurd h2 (by decide); exact ⟨h1, h2⟩
      obtain ⟨rfl, rfl⟩ := hxy
      have e := HX.out
      rw [if_pos rfl] at e
      subst e
      clear HX hk
      go_wp2
      go_ret
      exact ⟨rfl, rfl⟩

/-- Worlds that have only drawn, and grown. -/
def Ahead (w w' : World) : Prop := ∃ q os, w' = Go.Sort.grow (w.drewN q) os
theorem Ahead.refl (w : World) : Ahead w w := ⟨0, #[], by rw [Go.Sort.grow_empty]; rfl⟩
theorem Ahead.drew {w w' : World} (h : Ahead w w') : Ahead w w'.drew := by
  obtain ⟨q, os, rfl⟩ := h
  exact ⟨q + 1, os, rfl⟩
theorem Ahead.alloc {w w' : World} (h : Ahead w w') (o : Obj) : Ahead w (w'.alloc o) := by
  obtain ⟨q, os, rfl⟩ := h
  exact ⟨q, os ++ #[o], by rw [Go.Sort.alloc_eq_grow, Go.Sort.grow_grow]⟩
theorem Ahead.kept {w w' : World} (h : Ahead w w') : Kept noBlock w w' := by
  obtain ⟨q, os, rfl⟩ := h
  exact ⟨rfl, rfl, rfl, by rw [Go.Sort.size_grow]; exact Nat.le_add_right _ _, fun k hk _ => Go.Sort.heap_grow_old _ _ hk⟩

/-- A load: how much is owed, and whose it is. -/
abbrev Ld := Int × Int
def ldC (p : Ld) : List Value := [.int .i64 p.1, .int .i64 p.2]
theorem ldC_len (l : List Ld) : (l.flatMap ldC).length = l.length * 2 := flat_len (k := 2) (fun _ => rfl) l
def ldCmp (a b : Ld) : Int := orZ (cmpZ a.1 b.1) (cmpZ a.2 b.2)
theorem ldCmp_lt (a b : Ld) : Go.Proofs.ltOf ldCmp a b = decide (a.1 < b.1 ∨ a.1 = b.1 ∧ a.2 < b.2) := by
  unfold Go.Proofs.ltOf ldCmp orZ cmpZ
  apply decide_eq_decide.2
  generalize a.1 = x
  generalize b.1 = y
  generalize a.2 = z
  generalize b.2 = u
  repeat' split
  all_goals omega
theorem ldCmp_swo : SWO (Go.Proofs.ltOf ldCmp) where
  irrefl x := by rw [ldCmp_lt]; simp
  trans x y z h1 h2 := by rw [ldCmp_lt] at *; simp only [decide_eq_true_eq] at *; omega
  ntrans x y z h1 h2 := by rw [ldCmp_lt] at *; simp only [decide_eq_false_iff_not] at *; omega
set_option maxHeartbeats 2000000 in
set_option maxRecDepth 100000 in
theorem poUs1_at (a b : Ld) (w : World) : Calls Tryz.prog 50 #[.agg (ldC a).toArray, .agg (ldC b).toArray] w fun e w' => e = .returned (.int .i64 (ldCmp a b)) ∧ ∃ q os, w' = Go.Sort.grow (w.drewN q) os := by
  obtain ⟨a0, a1⟩ := a
  obtain ⟨b0, b1⟩ := b
  have HR := Lib.hid (show ldCmp (a0, a1) (b0, b1) = orZ (cmpZ a0 b0) (cmpZ a1 b1) from rfl)
  generalize ldCmp (a0, a1) (b0, b1) = r at *
  unfold ldC
  have HA := Lib.hid ((Blk.new w 93 #[.int .i64 a0, .int .i64 a1]).alloc (.cells #[.int .i64 b0, .int .i64 b1] 93))
  have HB := Lib.hid (Blk.new (w.alloc (.cells #[.int .i64 a0, .int .i64 a1] 93)) 93 #[.int .i64 b0, .int .i64 b1])
  have HW := Lib.hid (((Ahead.refl w).alloc (.cells #[.int .i64 a0, .int .i64 a1] 93)).alloc (.cells #[.int .i64 b0, .int .i64 b1] 93))
  rw [sz_alloc] at HB
  go_enter Tryz.func50, Tryz.ntmps50
  go_wp2
  generalize (w.alloc (.cells #[.int .i64 a0, .int .i64 a1] 93)).alloc (.cells #[.int .i64 b0, .int .i64 b1] 93) = W at *
  generalize w.heap.size = R at *
  refine wp_region_sch (fun w' => Ahead w w' ∧ Kept noBlock W w') (.take 0 (.take 1 (.take 2 (.take 3 (.take 5 (.take 6 (.take 7 (.take 8 (.one 4 (.one 9 (.one 10 (.one 11 (.take 12 .nil))))))))))))) (by kernel_rfl) (by kernel_rfl) (by kernel_rfl) ⟨HW.out.drew, (Kept.refl _ _).drew⟩ ?_
  repeat (first
    | (refine sch_takeE rfl rfl ?_
       apply Exists.intro
       refine ⟨fun w' hS => ?_, fun K hK => ?_⟩
       · (have q0 := (HA.out.kept hS.2 (fun e => e)).cell 0
          have q1 := (HA.out.kept hS.2 (fun e => e)).cell 1
          have q2 := (HB.out.kept hS.2 (fun e => e)).cell 0
          have q3 := (HB.out.kept hS.2 (fun e => e)).cell 1
          simp only [List.getElem?_toArray, List.getElem?_cons_zero, List.getElem?_cons_succ] at q0 q1 q2 q3
          unfold takesAt; go_simp; rfl)
       go_simp
       refine hK _ ?_
       clear hK K))
  refine sch_doK rfl rfl (fun K hK => ?_)
  go_simp
  go_at_call 52
  refine (cmpI_at _ _ _).mono ?_
  rintro e w1 ⟨rfl, rfl⟩
  refine hK _ _ ⟨HW.out.drew, (Kept.refl _ _).drew⟩ ?_
  clear hK K
  refine sch_doK rfl rfl (fun K hK => ?_)
  go_simp
  go_at_call 52
  refine (cmpI_at _ _ _).mono ?_
  rintro e w1 ⟨rfl, rfl⟩
  refine hK _ _ ⟨HW.out.drew, (Kept.refl _ _).drew⟩ ?_
  clear hK K
  refine sch_doK rfl rfl (fun K hK => ?_)
  go_simp
  refine hK _ _ ⟨HW.out.drew.alloc _, (Kept.refl _ _).drew.alloc _⟩ ?_
  clear hK K
  have hbl := Blk.new W.drew 3 #[.int .i64 (cmpZ a0 b0), .int .i64 (cmpZ a1 b1)]
  refine sch_doK rfl rfl (fun K hK => ?_)
  go_simp
  go_at_call 51
  refine (cmpOr_at _ _ hbl).mono ?_
  rintro e w1 ⟨rfl, rfl⟩
  refine hK _ _ ⟨HW.out.drew.alloc _, (Kept.refl _ _).drew.alloc _⟩ ?_
  clear hK K
  repeat (first
    | (refine sch_takeE rfl rfl ?_
       apply Exists.intro
       refine ⟨fun w' hS => ?_, fun K hK => ?_⟩
       · (unfold takesAt; go_simp; rfl)
       go_simp
       refine hK _ ?_
       clear hK K))
  refine sch_nil (NoPanic.normal ?_)
  go_wp2_with fail
  go_ret
  exact ⟨congrArg (fun x => Ending.returned (.int .i64 x)) HR.out.symm, HW.out.drew.alloc _⟩
theorem LSort_at {W : World} {n₀ : Nat} {v : Value} {xs : List Ld} (hown : W.ownsRow n₀ 93 2 v xs.length (xs.flatMap ldC)) (hlen : xs.length ≤ 1000000) :
    Calls Tryz.prog 49 #[v, .func (.func 50) #[] #[]] W fun e w' => e = .returned (.tuple #[]) ∧ ∃ S : List Ld, S.Perm xs ∧ S.Pairwise (fun a b => a.1 < b.1 ∨ a.1 = b.1 ∧ a.2 ≤ b.2) ∧ SlK w' (fun g _ => n₀ ≤ g) 2 v xs.length (S.flatMap ldC) ∧ Kept (fun i => v.ownBlock = some i) W w' := by
  have hown0 := hown
  obtain ⟨hl, hown⟩ := hown
  rcases hown with ⟨rfl, h0⟩ | ⟨g', cap, cur, rfl, hb, hh, hnc, hm, hcs, hx⟩
  · have : xs = [] := List.eq_nil_of_length_eq_zero h0
    subst this
    refine Calls.mono (AnyF.slices_SortFunc_none { Tryz.lsort with } none 0 _ W) ?_
    rintro e w' ⟨rfl, rfl⟩
    exact ⟨rfl, [], .nil, .nil, SlK.nil _ _ _, Kept.refl _ _⟩
  · have hsz : xs.toArray.size = xs.length := by simp
    have hfz : (flatK ldC 2 xs.toArray).size = xs.length * 2 := by simp
    have hcell : ∀ (d : List Ld) (j : Nat), j < d.length * 2 → some ((flatK ldC 2 d.toArray)[j]!) = (d.flatMap ldC)[j]? := by
      intro d j hj
      rw [← flatK_list (enc := ldC) (k := 2) (fun _ => rfl) d, Array.getElem?_toList]
      have : j < (flatK ldC 2 d.toArray).size := by simpa using hj
      rw [getElem!_pos _ j this, Array.getElem?_eq_getElem this]
    have hH : HoldsK ldC 2 W g' 0 xs.toArray := by
      intro j hj
      rw [hfz] at hj
      refine ⟨?_, by simp [World.frozen?, hh]⟩
      rw [cell_of_row W g' (0 + j) cur _ _ hh, Nat.zero_add]
      have h1 : (cur.toList.take (xs.length * 2))[j]? = (xs.flatMap ldC)[j]? := by rw [hx]
      rw [List.getElem?_take_of_lt hj, Array.getElem?_toList] at h1
      rw [h1, ← hcell xs j hj]
      rfl
    have hcmp : CmpLays Tryz.prog 50 #[] ldC 2 ldCmp g' 0 xs.toArray.size W := by
      intro m os dk hs x y
      exact poUs1_at x y _
    have hcon := AnyQ.slices_SortFunc Tryz.lsort 2 (Tryz.isAgg93) (Tryz.sizeOf93) ldC (fun _ => rfl) (fun x v hv => by
      simp only [ldC, List.mem_cons, List.not_mem_nil, or_false] at hv
      rcases hv with rfl | rfl <;> rfl) ldCmp ldCmp_swo 50 #[] g' 0 cap xs.toArray W (enters_of Tryz.func50 (by kernel_rfl) rfl) hcmp hH (lt_of_heap hh) (by rw [hsz]; omega)
    rw [hsz] at hcon
    refine Calls.mono hcon ?_
    rintro e w' ⟨rfl, d', m, os, hp, hs, rfl⟩
    obtain ⟨hp1, -, hp3⟩ := hp
    have hd : d'.size = xs.length := by rw [hp1, hsz]
    have hperm : d'.toList.Perm xs := by
      have e1 : (d'.extract 0 xs.length).toList = d'.toList := by rw [← hd]; simp
      have e2 : (xs.toArray.extract 0 xs.length).toList = xs := by simp
      rw [e1, e2] at hp3
      exact hp3
    have hdl : d'.toList.length = xs.length := by rw [Array.length_toList, hd]
    refine ⟨rfl, d'.toList, hperm, ?_, ⟨by rw [ldC_len, hdl], _, _, rfl, hnc, hm, .inr ⟨g', 0, _, _, _, rfl, swv_block hh, hb, fun j u hu => ?_⟩⟩, swv_kept.mono fun i _ e => by simp [Value.ownBlock, e]⟩
    · rw [List.pairwise_iff_getElem]
      intro i j hi hj hij
      rw [hdl] at hi hj
      have h1 := hs i j (Nat.zero_le _) hij hj
      rw [ldCmp_lt, decide_eq_false_iff_not, getElem!_pos d' j (by omega), getElem!_pos d' i (by omega)] at h1
      simp only [Array.getElem_toList]
      omega
    · have hj : j < xs.length * 2 := by have := (List.getElem?_eq_some_iff.1 hu).1; rw [ldC_len, hdl] at this; exact this
      rw [Nat.zero_add]
      show (putCells id 0 (flatK ldC 2 d') cur)[j]? = some u
      unfold putCells
      have hjc : j < cur.size := by
        have : xs.length * 2 ≤ cap * 2 := Nat.mul_le_mul_right _ hnc
        omega
      rw [Array.getElem?_mapIdx, Array.getElem?_eq_getElem hjc]
      simp only [Option.map_some, Nat.zero_le, true_and, Nat.zero_add, Nat.sub_zero, size_flatK, hd, hj, if_true, id]
      rw [← hu]
      have := hcell d'.toList j (by rw [hdl]; exact hj)
      simpa using this
end Go.Proofs.YtfnjoceolcdeoaaGreatDoor

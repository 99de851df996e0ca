/- Streams: how Due compares two streams. -/
import Derived.Test.YtelcielfhgijpaaDoorStTake
import Derived.Test.YtelcielfhgijpaaDoorSched2
import Derived.Deep.LoopGhost
import Derived.Shelf.SlSortCmp.Kit1
namespace Go.Proofs.YtelcielfhgijpaaDoor
set_option linter.unusedVariables false
open Go.RowKit
open Go.ChangeMaps (setBlock)

def cmpZ (a b : Int) : Int := if a < b then -1 else if b < a then 1 else 0

theorem nanU_at (a : Int) (w : World) : Calls Tryd.prog 33 #[.int .u64 a] w fun e w' => e = .returned (.bool false) ∧ w' = w := by
  go_enter Tryd.func33, Tryd.ntmps33
  go_wp2
  go_ret
  exact ⟨rfl, rfl⟩
theorem nanI_at (a : Int) (w : World) : Calls Tryd.prog 34 #[.int .i64 a] w fun e w' => e = .returned (.bool false) ∧ w' = w := by
  go_enter Tryd.func34, Tryd.ntmps34
  go_wp2
  go_ret
  exact ⟨rfl, rfl⟩
theorem cmpU_at (a b : Int) (w : World) : Calls Tryd.prog 25 #[.int .u64 a, .int .u64 b] w fun e w' => e = .returned (.int .i64 (cmpZ a b)) ∧ w' = w := by
  by_cases h1 : a < b
  · have hz : cmpZ a b = -1 := by unfold cmpZ; rw [if_pos h1]
    rw [hz]
    clear hz
    go_enter Tryd.func25, Tryd.ntmps25
    go_wp2_with (go_at_call 33; refine (nanU_at _ _).mono ?_; rintro e w' ⟨rfl, rfl⟩)
    go_ret
    exact ⟨rfl, rfl⟩
  · by_cases h2 : b < a
    · have hz : cmpZ a b = 1 := by unfold cmpZ; rw [if_neg h1, if_pos h2]
      rw [hz]
      clear hz
      go_enter Tryd.func25, Tryd.ntmps25
      go_wp2_with (go_at_call 33; refine (nanU_at _ _).mono ?_; rintro e w' ⟨rfl, rfl⟩)
      go_ret
      exact ⟨rfl, rfl⟩
    · have hz : cmpZ a b = 0 := by unfold cmpZ; rw [if_neg h1, if_neg h2]
      rw [hz]
      clear hz
      go_enter Tryd.func25, Tryd.ntmps25
      go_wp2_with (go_at_call 33; refine (nanU_at _ _).mono ?_; rintro e w' ⟨rfl, rfl⟩)
      go_ret
      exact ⟨rfl, rfl⟩
theorem cmpI_at (a b : Int) (w : World) : Calls Tryd.prog 26 #[.int .i64 a, .int .i64 b] w fun e w' => e = .returned (.int .i64 (cmpZ a b)) ∧ w' = w := by
  by_cases h1 : a < b
  · have hz : cmpZ a b = -1 := by unfold cmpZ; rw [if_pos h1]
    rw [hz]
    clear hz
    go_enter Tryd.func26, Tryd.ntmps26
    go_wp2_with (go_at_call 34; refine (nanI_at _ _).mono ?_; rintro e w' ⟨rfl, rfl⟩)
    go_ret
    exact ⟨rfl, rfl⟩
  · by_cases h2 : b < a
    · have hz : cmpZ a b = 1 := by unfold cmpZ; rw [if_neg h1, if_pos h2]
      rw [hz]
      clear hz
      go_enter Tryd.func26, Tryd.ntmps26
      go_wp2_with (go_at_call 34; refine (nanI_at _ _).mono ?_; rintro e w' ⟨rfl, rfl⟩)
      go_ret
      exact ⟨rfl, rfl⟩
    · have hz : cmpZ a b = 0 := by unfold cmpZ; rw [if_neg h1, if_neg h2]
      rw [hz]
      clear hz
      go_enter Tryd.func26, Tryd.ntmps26
      go_wp2_with (go_at_call 34; refine (nanI_at _ _).mono ?_; rintro e w' ⟨rfl, rfl⟩)
      go_ret
      exact ⟨rfl, rfl⟩
def orZ (x y : Int) : Int := if x = 0 then y else x
theorem cmpOr_at (x y : Int) {g : Nat} {w : World} (h : Blk w g 3 #[.int .i64 x, .int .i64 y]) :
    Calls Tryd.prog 24 #[.slice (some ⟨g, 0, none⟩) 2 2] w fun e w' => e = .returned (.int .i64 (orZ x y)) ∧ w' = w := by
  have c0 := h.cell 0
  have c1 := h.cell 1
  simp only [List.getElem?_toArray, List.getElem?_cons_zero, List.getElem?_cons_succ] at c0 c1
  clear h
  have HX := Lib.hid (show orZ x y = if x = 0 then y else x from rfl)
  generalize orZ x y = r at *
  go_enter Tryd.func24, Tryd.ntmps24
  go_wp2
  go_loopg [2, 5, 8] 2 (fun j v2 v5 v8 wr => wr = w ∧ ∃ k : Nat, k + j = 2 ∧ v8 = .int .i64 k ∧ (k = 0 ∨ x = 0 ∧ (k = 1 ∨ y = 0)))
  case atStart => exact ⟨rfl, 0, rfl, rfl, .inl rfl⟩
  case round =>
    obtain ⟨rfl, k, hkj, rfl, hk⟩ := hrel
    have hk3 : k = 0 ∨ k = 1 ∨ k = 2 := by omega
    rcases hk3 with rfl | rfl | rfl
    · by_cases hx : x = 0
      · subst hx
        clear HX
        go_wp2
        go_roundg 1
        case measure => omega
        case rel => exact ⟨rfl, 1, rfl, rfl, .inr ⟨by trivial, .inl rfl⟩⟩
      · have e := HX.out
        rw [if_neg hx] at e
        subst e
        clear HX hk
        go_wp2
        go_ret
        exact ⟨rfl, rfl⟩
    · have hx : x = 0 := by rcases hk with h | h; exact absurd h (by decide); exact h.1
      subst hx
      have e := HX.out
      rw [if_pos rfl] at e
      subst e
      clear HX hk
      by_cases hy : r = 0
      · subst hy
        go_wp2
        go_roundg 0
        case measure => omega
        case rel => exact ⟨rfl, 2, rfl, rfl, .inr ⟨by trivial, .inr (by trivial)⟩⟩
      · go_wp2
        go_ret
        exact ⟨rfl, rfl⟩
    · have hxy : x = 0 ∧ y = 0 := by rcases hk with h | ⟨h1, h2 | h2⟩; exact absurd h (by decide); exact absurd h2 (by decide); exact ⟨h1, h2⟩
      obtain ⟨rfl, rfl⟩ := hxy
      have e := HX.out
      rw [if_pos rfl] at e
      subst e
      clear HX hk
      go_wp2
      go_ret
      exact ⟨rfl, rfl⟩

/-- What a stream is asked for until, as Due reads it. -/
def XS.till (s : XS) (id : Int) : Int := (aget id s.asked).getD 0
def XS.cmp (s : XS) (a b : Int) : Int := orZ (cmpZ (s.till a) (s.till b)) (cmpZ a b)
/-- What the closure reads: a box with the streams, their map. -/
def CmpAt (w : World) (bx g m1 : Nat) (s : XS) : Prop := Blk w bx 25 #[.pointer (some ⟨g, 0, none⟩)] ∧ w.cell? ⟨g, 514, none⟩ = some (.map (some m1)) ∧ AMap w m1 s.asked
theorem CmpAt.kept {w w' : World} {bx g m1 : Nat} {s : XS} {S : Nat → Prop} (h : CmpAt w bx g m1 s) (hk : Kept S w w') (h1 : ¬ S bx) (h2 : ¬ S g) (h3 : ¬ S m1) (hg : g < w.heap.size) : CmpAt w' bx g m1 s :=
  ⟨h.1.kept hk h1, (hk.cell (p := ⟨g, 514, none⟩) hg h2).trans h.2.1, h.2.2.kept hk h3⟩
theorem CmpAt.look {w : World} {bx g m1 : Nat} {s : XS} (h : CmpAt w bx g m1 s) (id : Int) : (Instr.lookup 62 (.map (some m1)) (.int .i64 id) false).run Tryd.prog w = .ok (.int .u64 (s.till id)) w := by
  have := h.2.2.run_lookup i64K iuM intU (zero_u64 w) id false
  rw [this]
  unfold XS.till
  cases aget id s.asked <;> rfl

/-- Worlds that have only drawn, and grown. -/
def Ahead (w w' : World) : Prop := ∃ q os, w' = Go.Sort.grow (w.drewN q) os
theorem Ahead.refl (w : World) : Ahead w w := ⟨0, #[], by rw [Go.Sort.grow_empty]; rfl⟩
theorem Ahead.drew {w w' : World} (h : Ahead w w') : Ahead w w'.drew := by
  obtain ⟨q, os, rfl⟩ := h
  exact ⟨q + 1, os, rfl⟩
theorem Ahead.alloc {w w' : World} (h : Ahead w w') (o : Obj) : Ahead w (w'.alloc o) := by
  obtain ⟨q, os, rfl⟩ := h
  exact ⟨q, os ++ #[o], by rw [Go.Sort.alloc_eq_grow, Go.Sort.grow_grow]⟩
theorem Ahead.kept {w w' : World} (h : Ahead w w') : Kept noBlock w w' := by
  obtain ⟨q, os, rfl⟩ := h
  exact ⟨rfl, rfl, rfl, by rw [Go.Sort.size_grow]; exact Nat.le_add_right _ _, fun k hk _ => Go.Sort.heap_grow_old _ _ hk⟩

set_option maxHeartbeats 2000000 in
set_option maxRecDepth 100000 in
theorem Duef_at {w : World} {bx g m1 : Nat} {s : XS} (h : CmpAt w bx g m1 s) (hg : g < w.heap.size) (a b : Int) :
    Calls Tryd.prog 23 #[.int .i64 a, .int .i64 b, .pointer (some ⟨bx, 0, none⟩)] w fun e w' => e = .returned (.int .i64 (s.cmp a b)) ∧ Ahead w w' := by
  have H := Lib.hid h
  have HR := Lib.hid (show s.cmp a b = orZ (cmpZ (s.till a) (s.till b)) (cmpZ a b) from rfl)
  generalize hu : s.till a = ua at *
  generalize hv : s.till b = ub at *
  have HU := Lib.hid hu
  have HV := Lib.hid hv
  clear h hu hv
  go_enter Tryd.func23, Tryd.ntmps23
  go_wp2
  refine wp_region_sch (fun w' => Ahead w w') (.take 0 (.take 1 (.take 2 (.take 3 (.take 4 (.take 5 (.take 6 (.take 7 (.take 8 (.take 9 (.take 10 (.take 11 (.take 13 (.take 14 (.one 12 (.one 15 (.one 16 (.one 17 (.take 18 .nil))))))))))))))))))) (by kernel_rfl) (by kernel_rfl) (by kernel_rfl) (Ahead.refl _).drew ?_
  repeat (first
    | (refine sch_takeE rfl rfl ?_
       apply Exists.intro
       refine ⟨fun w' hS => ?_, fun K hK => ?_⟩
       · (have hq := H.out.kept hS.kept id id id hg
          have q0 := hq.1.cell 0
          have q1 := hq.2.1
          have q2 := hq.look a
          have q3 := hq.look b
          rw [HU.out] at q2
          rw [HV.out] at q3
          clear hq
          unfold takesAt; go_simp; rfl)
       go_simp
       refine hK _ ?_
       clear hK K))
  refine sch_doK rfl rfl (fun K hK => ?_)
  go_simp
  go_at_call 25
  refine (cmpU_at _ _ _).mono ?_
  rintro e w1 ⟨rfl, rfl⟩
  refine hK _ _ (Ahead.refl _).drew ?_
  clear hK K
  refine sch_doK rfl rfl (fun K hK => ?_)
  go_simp
  go_at_call 26
  refine (cmpI_at _ _ _).mono ?_
  rintro e w1 ⟨rfl, rfl⟩
  refine hK _ _ (Ahead.refl _).drew ?_
  clear hK K
  refine sch_doK rfl rfl (fun K hK => ?_)
  go_simp
  refine hK _ _ ((Ahead.refl _).drew.alloc _) ?_
  clear hK K
  have hbl := Blk.new w.drew 3 #[.int .i64 (cmpZ ua ub), .int .i64 (cmpZ a b)]
  refine sch_doK rfl rfl (fun K hK => ?_)
  go_simp
  go_at_call 24
  refine (cmpOr_at _ _ hbl).mono ?_
  rintro e w1 ⟨rfl, rfl⟩
  refine hK _ _ ((Ahead.refl _).drew.alloc _) ?_
  clear hK K
  repeat (first
    | (refine sch_takeE rfl rfl ?_
       apply Exists.intro
       refine ⟨fun w' hS => ?_, fun K hK => ?_⟩
       · (unfold takesAt; go_simp; rfl)
       go_simp
       refine hK _ ?_
       clear hK K))
  refine sch_nil (NoPanic.normal ?_)
  go_wp2_with fail
  go_ret
  exact ⟨congrArg (fun x => Ending.returned (.int .i64 x)) HR.out.symm, (Ahead.refl _).drew.alloc _⟩

theorem XS.cmp_lt (s : XS) (a b : Int) : Go.Proofs.ltOf s.cmp a b = decide (s.till a < s.till b ∨ s.till a = s.till b ∧ a < b) := by
  unfold Go.Proofs.ltOf XS.cmp orZ cmpZ
  apply decide_eq_decide.2
  generalize s.till a = x
  generalize s.till b = y
  repeat' split
  all_goals omega
theorem XS.swo (s : XS) : Go.Sort.SWO (Go.Proofs.ltOf s.cmp) where
  irrefl x := by rw [s.cmp_lt]; simp
  trans x y z h1 h2 := by rw [s.cmp_lt] at *; simp only [decide_eq_true_eq] at *; omega
  ntrans x y z h1 h2 := by rw [s.cmp_lt] at *; simp only [decide_eq_false_iff_not] at *; omega
theorem XS.tot (s : XS) (x y : Int) (h1 : Go.Proofs.ltOf s.cmp x y = false) (h2 : Go.Proofs.ltOf s.cmp y x = false) : x = y := by
  rw [s.cmp_lt] at *; simp only [decide_eq_false_iff_not] at *; omega
end Go.Proofs.YtelcielfhgijpaaDoor

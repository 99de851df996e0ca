/- Streams: how they lie in memory; New, Counts. -/
import Derived.Test.YtfnjoceolcdeoaaGreatDoorMg16
import Derived.Test.YtfnjoceolcdeoaaGreatDoorProg
import Derived.Deep.QuietTactic
import Derived.Great.BuildSlice
namespace Go.Proofs.YtfnjoceolcdeoaaGreatDoor
set_option linter.unusedVariables false
open Go.RowKit
open Go.ChangeMaps (setBlock)

structure SCells (cs : Array Value) (s : XS) (h m1 m2 : Nat) : Prop where
  c0 : cs[0]? = some (.int .i64 s.n)
  cw : ∀ i, i < 512 → ∃ x : Nat, x < 18446744073709551616 ∧ cs[1 + i]? = some (.int .u64 (x : Int)) ∧ ∀ b : Nat, b < 64 → x.testBit b = s.owed ((64 * i + b : Nat) : Int)
  ch : cs[513]? = some (.int .i64 (h : Int))
  ca : cs[514]? = some (.map (some m1))
  co : cs[515]? = some (.map (some m2))
  hh : h ≤ 512
  hf : ∀ j : Nat, j < 64 * h → s.owed (j : Int) = true

abbrev AMap := KMap (β := Int) (.int .i64) (Value.int .i64) (Value.int .u64)
abbrev OMap := KMap (β := Bool) (.int .i64) (Value.int .i64) Value.bool

def SAt (w : World) (g m1 m2 : Nat) (s : XS) : Prop :=
  ∃ cs h, Blk w g 135 cs ∧ SCells cs s h m1 m2 ∧ AMap w m1 s.asked ∧ OMap w m2 s.orph ∧ m1 ≠ m2 ∧ s.Ok

section
variable {w w' : World} {g m1 m2 : Nat} {s : XS} {S : Nat → Prop}
theorem SAt.ok (h : SAt w g m1 m2 s) : s.Ok := by obtain ⟨_, _, _, _, _, _, _, h⟩ := h; exact h
theorem SAt.kept (h : SAt w g m1 m2 s) (hk : Kept S w w') (hg : ¬ S g) (h1 : ¬ S m1) (h2 : ¬ S m2) : SAt w' g m1 m2 s := by
  obtain ⟨cs, k, hb, hc, ha, ho, hne, hok⟩ := h
  exact ⟨cs, k, hb.kept hk hg, hc, ha.kept hk h1, ho.kept hk h2, hne, hok⟩
theorem SAt.keptNone (h : SAt w g m1 m2 s) (hk : Kept noBlock w w') : SAt w' g m1 m2 s := h.kept hk id id id
theorem SAt.alloc (h : SAt w g m1 m2 s) (o : Obj) : SAt (w.alloc o) g m1 m2 s := h.keptNone ((Kept.refl _ w).alloc o)
theorem SAt.drew (h : SAt w g m1 m2 s) : SAt w.drew g m1 m2 s := h
theorem SAt.drewN (h : SAt w g m1 m2 s) (n : Nat) : SAt (w.drewN n) g m1 m2 s := h
theorem SAt.lts (h : SAt w g m1 m2 s) : g < w.heap.size ∧ m1 < w.heap.size ∧ m2 < w.heap.size ∧ g ≠ m1 ∧ g ≠ m2 := by
  obtain ⟨cs, k, hb, hc, ha, ho, hne, hok⟩ := h
  exact ⟨hb.lt, ha.lt, ho.lt, ha.ne_blk hb, ho.ne_blk hb⟩
end
def three (a b c : Nat) : Nat → Prop := fun i => i = a ∨ i = b ∨ i = c

def zeroCells : Array Value := (Value.int .i64 0 :: (List.replicate 512 (Value.int .u64 0) ++ [.int .i64 0, .map none, .map none])).toArray
set_option maxRecDepth 100000 in
theorem zero_st : (Tryz.prog.info? 135).bind (·.zero) = some (.agg zeroCells) := by kernel_rfl
theorem run_zero {P : Program} {t : TypeId} {v : Value} (h : (P.info? t).bind (·.zero) = some v) (w : World) : (zeroValue t).run P w = .ok v w := by
  cases hi : P.info? t with
  | none => simp [hi] at h
  | some it =>
    rw [hi] at h
    simp only [Option.bind_some] at h
    simp [zeroValue, typeInfo, hi, h]
theorem cells_gen {z a b c d : Value} (k : Nat) : (d :: (List.replicate k z ++ [a, b, c]))[k + 1]? = some a ∧ (d :: (List.replicate k z ++ [a, b, c]))[k + 2]? = some b ∧ (d :: (List.replicate k z ++ [a, b, c]))[k + 3]? = some c ∧ ∀ i, i < k → (d :: (List.replicate k z ++ [a, b, c]))[1 + i]? = some z := by
  refine ⟨?_, ?_, ?_, fun i hi => ?_⟩
  · rw [List.getElem?_cons_succ, List.getElem?_append_right (by simp)]; simp
  · rw [List.getElem?_cons_succ, List.getElem?_append_right (by simp)]; simp
  · rw [List.getElem?_cons_succ, List.getElem?_append_right (by simp)]; simp
  · rw [Nat.add_comm, List.getElem?_cons_succ, List.getElem?_append_left (by simp; exact hi), List.getElem?_replicate, if_pos hi]
theorem newCells_ok (n : Int) (m1 m2 : Nat) : SCells (((zeroCells.setIfInBounds 0 (.int .i64 n)).setIfInBounds 514 (.map (some m1))).setIfInBounds 515 (.map (some m2))) (XS.fresh n) 0 m1 m2 := by
  have hg := cells_gen (z := Value.int .u64 0) (a := .int .i64 0) (b := .map none) (c := .map none) (d := Value.int .i64 0) 512
  have hsz : zeroCells.size = 516 := by rw [zeroCells, List.size_toArray, List.length_cons, List.length_append, List.length_replicate]; rfl
  obtain ⟨h1, h2, h3, h4⟩ := hg
  refine ⟨?_, fun i hi => ⟨0, by decide, ?_, fun b hb => ?_⟩, ?_, ?_, ?_, by decide, fun j hj => by omega⟩
  · rw [Array.getElem?_setIfInBounds_ne (by decide), Array.getElem?_setIfInBounds_ne (by decide), Array.getElem?_setIfInBounds_self_of_lt (by omega)]; rfl
  · rw [Array.getElem?_setIfInBounds_ne (by omega), Array.getElem?_setIfInBounds_ne (by omega), Array.getElem?_setIfInBounds_ne (by omega), zeroCells, List.getElem?_toArray]; exact h4 i hi
  · rw [Nat.zero_testBit]; rfl
  · rw [Array.getElem?_setIfInBounds_ne (by decide), Array.getElem?_setIfInBounds_ne (by decide), Array.getElem?_setIfInBounds_ne (by decide), zeroCells, List.getElem?_toArray]; exact h1
  · rw [Array.getElem?_setIfInBounds_ne (by decide), Array.getElem?_setIfInBounds_self_of_lt (by simp only [Array.size_setIfInBounds]; omega)]
  · rw [Array.getElem?_setIfInBounds_self_of_lt (by simp only [Array.size_setIfInBounds]; omega)]

set_option maxHeartbeats 2000000 in
theorem New_at {n : Int} (w : World) (h1 : 1 ≤ n) (h2 : n ≤ 32768) :
    Calls Tryz.prog 33 #[.int .i64 n] w fun e w' => ∃ g m1 m2, e = .returned (.tuple #[.pointer (some ⟨g, 0, none⟩), .int .i64 0]) ∧ SAt w' g m1 m2 (XS.fresh n) ∧ Kept noBlock w w' ∧ w.heap.size ≤ g ∧ w.heap.size ≤ m1 ∧ w.heap.size ≤ m2 := by
  have hmm := @run_makeMap Tryz.prog
  obtain ⟨zs, hz, hsz, hne, hok⟩ : ∃ zs : Array Value, (∀ w, (zeroValue 135).run Tryz.prog w = .ok (.agg zs) w) ∧ zs.size = 516 ∧ (zs = #[]) = False ∧ ∀ m1 m2, SCells (((zs.setIfInBounds 0 (.int .i64 n)).setIfInBounds 514 (.map (some m1))).setIfInBounds 515 (.map (some m2))) (XS.fresh n) 0 m1 m2 := by
    have hsz : zeroCells.size = 516 := by rw [zeroCells, List.size_toArray, List.length_cons, List.length_append, List.length_replicate]; rfl
    refine ⟨zeroCells, run_zero zero_st, hsz, eq_false fun e => ?_, newCells_ok n⟩
    rw [e] at hsz; cases hsz
  have HOK := Lib.hid hok
  clear hok
  go_enter Tryz.func33, Tryz.ntmps33
  go_wp2_with (fail)
  go_ret2
  have hm2 := KMap.new (α := Int) (β := Bool) (d := .int .i64) (key := Value.int .i64) (val := Value.bool) (w.alloc (.map #[] 0))
  rw [sz_alloc] at hm2
  exact ⟨w.heap.size + 1 + 1, w.heap.size, w.heap.size + 1, rfl, ⟨_, 0, Blk.new_at _ _ _ (by simp), HOK.out _ _, ((KMap.new w).alloc _).alloc _, hm2.alloc _, by omega, XS.Ok.fresh h1 h2⟩, (((Kept.refl _ w).alloc _).alloc _).alloc _, by omega, by omega, by omega⟩
theorem New_bad {n : Int} (w : World) (h : ¬ (1 ≤ n ∧ n ≤ 32768)) :
    Calls Tryz.prog 33 #[.int .i64 n] w fun e w' => e = .returned (.tuple #[.pointer none, .int .i64 1]) ∧ w' = w := by
  go_enter Tryz.func33, Tryz.ntmps33
  by_cases hn : n < 1
  · go_wp2
    go_ret2
    exact ⟨rfl, rfl⟩
  · have hn2 : 32768 < n := by omega
    clear h
    go_wp2
    go_ret2
    exact ⟨rfl, rfl⟩
end Go.Proofs.YtfnjoceolcdeoaaGreatDoor

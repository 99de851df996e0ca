/- Streams: the operations, by what they answer. -/
import Derived.Test.YtelcielfhgijpaaDoorStDue
import Derived.Test.YtelcielfhgijpaaDoorStAnswer
import Derived.Test.YtelcielfhgijpaaDoorStTake2
namespace Go.Proofs.YtelcielfhgijpaaDoor
set_option linter.unusedVariables false
open Go.RowKit

/-- Streams made behind w0. -/
structure SW (w0 w : World) (g m1 m2 : Nat) (s : XS) : Prop where
  at_ : SAt w g m1 m2 s
  kept : Kept noBlock w0 w
  hg : w0.heap.size ≤ g
  h1 : w0.heap.size ≤ m1
  h2 : w0.heap.size ≤ m2
  tab : Tab w0

section
variable {w0 w w' : World} {g m1 m2 : Nat} {s s' : XS} {S : Nat → Prop}
theorem SW.quiet (h : SW w0 w g m1 m2 s) (hk : Kept noBlock w w') : SW w0 w' g m1 m2 s := ⟨h.at_.keptNone hk, h.kept.trans hk (fun _ _ h => h), h.hg, h.h1, h.h2, h.tab⟩
theorem SW.step (h : SW w0 w g m1 m2 s) (hs : SAt w' g m1 m2 s') (hk : Kept (three g m1 m2) w w') : SW w0 w' g m1 m2 s' :=
  ⟨hs, h.kept.trans hk (fun i hi e => by have := h.hg; have := h.h1; have := h.h2; rcases e with e | e | e <;> omega), h.hg, h.h1, h.h2, h.tab⟩
theorem SW.apart (h : SW w0 w g m1 m2 s) (hk : Kept S w w') (hS : ∀ i, S i → i ≠ g ∧ i ≠ m1 ∧ i ≠ m2 ∧ w0.heap.size ≤ i) : SW w0 w' g m1 m2 s :=
  ⟨h.at_.kept hk (fun e => (hS _ e).1 rfl) (fun e => (hS _ e).2.1 rfl) (fun e => (hS _ e).2.2.1 rfl), h.kept.trans hk (fun i hi e => by have := (hS _ e).2.2.2; omega), h.hg, h.h1, h.h2, h.tab⟩
theorem SW.alloc (h : SW w0 w g m1 m2 s) (o : Obj) : SW w0 (w.alloc o) g m1 m2 s := h.quiet ((Kept.refl _ w).alloc o)
theorem SW.drewN (h : SW w0 w g m1 m2 s) (n : Nat) : SW w0 (w.drewN n) g m1 m2 s := h.quiet ((Kept.refl _ w).drewN n)
theorem SW.drew (h : SW w0 w g m1 m2 s) : SW w0 w.drew g m1 m2 s := h.quiet ((Kept.refl _ w).drew)
theorem SW.ok (h : SW w0 w g m1 m2 s) : s.Ok := h.at_.ok
theorem SW.ne0 (h : SW w0 w g m1 m2 s) : g ≠ 0 ∧ m1 ≠ 0 ∧ m2 ≠ 0 := by
  have := h.tab.pos; have := h.hg; have := h.h1; have := h.h2
  exact ⟨by omega, by omega, by omega⟩
theorem SW.tabw (h : SW w0 w g m1 m2 s) : Tab w := h.tab.kept h.kept id

theorem SW.take_ok (h : SW w0 w g m1 m2 s) (u : Int) (hu : 0 ≤ u ∧ u < 18446744073709551616) {id : Nat} (h1 : (id : Int) < s.n) (h2 : s.owed (id : Int) = false) (h3 : ∀ j : Nat, j < id → s.owed (j : Int) = true) :
    Calls Tryd.prog 10 #[.pointer (some ⟨g, 0, none⟩), .int .u64 u] w fun e w' => e = .returned (.tuple #[.int .i64 (id : Int), .int .i64 0]) ∧ SW w0 w' g m1 m2 (s.take (id : Int) u) ∧ Kept (three g m1 m2) w w' := by
  refine (Take_at h.at_ h.tabw h.ne0 u hu).mono ?_
  rintro e w' (⟨k, a1, a2, a3, rfl, hs, hk⟩ | ⟨hall, -, -, -⟩)
  · have : k = id := by
      rcases Nat.lt_trichotomy k id with hl | he | hl
      · rw [h3 k hl] at a2; cases a2
      · exact he
      · rw [a3 id hl] at h2; cases h2
    subst this
    exact ⟨rfl, h.step hs hk, hk⟩
  · rw [hall id h1] at h2; cases h2
theorem SW.take_busy (h : SW w0 w g m1 m2 s) (u : Int) (hu : 0 ≤ u ∧ u < 18446744073709551616) (hall : ∀ j : Nat, (j : Int) < s.n → s.owed (j : Int) = true) :
    Calls Tryd.prog 10 #[.pointer (some ⟨g, 0, none⟩), .int .u64 u] w fun e w' => e = .returned (.tuple #[.int .i64 0, .int .i64 30]) ∧ SW w0 w' g m1 m2 s ∧ Kept (three g m1 m2) w w' := by
  refine (Take_at h.at_ h.tabw h.ne0 u hu).mono ?_
  rintro e w' (⟨k, a1, a2, a3, rfl, hs, hk⟩ | ⟨-, rfl, hs, hk⟩)
  · rw [hall k a1] at a2; cases a2
  · exact ⟨rfl, h.step hs hk, hk⟩
theorem SW.answer_ok (h : SW w0 w g m1 m2 s) (id : Int) (hi : s.owed id = true) :
    Calls Tryd.prog 13 #[.pointer (some ⟨g, 0, none⟩), .int .i64 id] w fun e w' => e = .returned (.tuple #[.bool (aget id s.asked).isSome, .int .i64 0]) ∧ SW w0 w' g m1 m2 (s.answer id) ∧ Kept (three g m1 m2) w w' := by
  refine (Answer_at h.at_ id hi).mono ?_
  rintro e w' ⟨rfl, hs, hk⟩
  exact ⟨rfl, h.step hs hk, hk⟩
theorem SW.orphan_ok (h : SW w0 w g m1 m2 s) (id : Int) (hi : (aget id s.asked).isSome = true) :
    Calls Tryd.prog 12 #[.pointer (some ⟨g, 0, none⟩), .int .i64 id] w fun e w' => e = .returned (.int .i64 0) ∧ SW w0 w' g m1 m2 (s.orphan id) ∧ Kept (three g m1 m2) w w' := by
  refine (Orphan_at h.at_ id hi).mono ?_
  rintro e w' ⟨rfl, hs, hk⟩
  exact ⟨rfl, h.step hs hk, hk⟩
theorem SW.due (h : SW w0 w g m1 m2 s) (now : Int) :
    Calls Tryd.prog 11 #[.pointer (some ⟨g, 0, none⟩), .int .u64 now] w fun e w' => ∃ A c, e = .returned (.slice A (s.due now).length c) ∧ Sl w' 3 1 (.slice A (s.due now).length c) (s.due now).length ((s.due now).map encI) ∧ SW w0 w' g m1 m2 s ∧ Kept noBlock w w' := by
  refine (Due_at h.at_ now).mono ?_
  rintro e w' ⟨A, c, rfl, hs, hk⟩
  exact ⟨A, c, rfl, hs, h.quiet hk, hk⟩
end
theorem New_sw {n : Int} {w0 w : World} (hk0 : Kept noBlock w0 w) (hT : Tab w0) (h1 : 1 ≤ n) (h2 : n ≤ 32768) :
    Calls Tryd.prog 9 #[.int .i64 n] w fun e w' => ∃ g m1 m2, e = .returned (.tuple #[.pointer (some ⟨g, 0, none⟩), .int .i64 0]) ∧ SW w0 w' g m1 m2 (XS.fresh n) ∧ Kept noBlock w w' ∧ w.heap.size ≤ g ∧ w.heap.size ≤ m1 ∧ w.heap.size ≤ m2 := by
  refine (New_at w h1 h2).mono ?_
  rintro e w' ⟨g, m1, m2, rfl, hs, hk, a1, a2, a3⟩
  have := hk0.size
  exact ⟨g, m1, m2, rfl, ⟨hs, hk0.trans hk (fun _ _ h => h), by omega, by omega, by omega, hT⟩, hk, a1, a2, a3⟩

end Go.Proofs.YtelcielfhgijpaaDoor

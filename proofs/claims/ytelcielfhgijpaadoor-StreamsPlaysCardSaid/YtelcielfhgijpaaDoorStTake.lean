/- Streams: Take, Answer. -/
import Derived.Test.YtelcielfhgijpaaDoorStWalk
import Derived.Shelf.Spec.TrailingZeros
import Derived.BigRegion
import Derived.RegionTactic
import Derived.Deep.LoopGhost
namespace Go.Proofs.YtelcielfhgijpaaDoor
set_option linter.unusedVariables false
open Go.RowKit
open Go.ChangeMaps (setBlock)

/-- The library's table, where the program starts. -/
abbrev Tab (w : World) : Prop := TabAt 0 Lib.deBruijn64tab w
theorem Tab.pos {w : World} (h : Tab w) : 0 < w.heap.size := by
  have := h 0 (by decide)
  unfold World.cell? at this
  rcases Nat.lt_or_ge 0 w.heap.size with hlt | hge
  · exact hlt
  · rw [Array.getElem?_eq_none hge] at this; cases this
theorem Tab.kept {w w' : World} {S : Nat → Prop} (h : Tab w) (hk : Kept S w w') (hS : ¬ S 0) : Tab w' := fun j hj => (hk.cell (p := ⟨0, j, none⟩) h.pos hS).trans (h j hj)
theorem Tab.drewN {w : World} (h : Tab w) (n : Nat) : Tab (w.drewN n) := h

theorem ctz_core (x k idx : Nat) (w : World) (hx0 : ((x : Int) == 0) = false)
    (key : IntKind.u64.wrap (bits BinOp.and IntKind.u64 (x : Int) (IntKind.u64.wrap (-(x : Int))) * 285870213051353865) / 288230376151711744 = (idx : Int))
    (hi : idx < 64) (hk : k < 64) (hcell : w.cell? ⟨0, idx, none⟩ = some (.int .u8 k)) :
    Calls Tryd.prog 20 #[.int .u64 x] w fun e w' => e = .returned (.int .i64 k) ∧ w' = w := by
  go_enter Tryd.func20, Tryd.ntmps20
  go_wp2_with (simp only [key])
  go_ret
  exact ⟨rfl, rfl⟩
theorem ctz_zero (w : World) : Calls Tryd.prog 20 #[.int .u64 0] w fun e w' => e = .returned (.int .i64 64) ∧ w' = w := by
  go_enter Tryd.func20, Tryd.ntmps20
  go_wp2
  go_ret
  exact ⟨rfl, rfl⟩
theorem ctz_at (x : Nat) (hx : x < 18446744073709551616) (w : World) (hT : Tab w) :
    Calls Tryd.prog 20 #[.int .u64 x] w fun e w' => e = .returned (.int .i64 (Lib.ctz 64 x)) ∧ w' = w := by
  by_cases hx0 : x = 0
  · subst hx0
    exact ctz_zero w
  · obtain ⟨hlow, hk⟩ := Lib.lowest_bit 64 x hx0 hx
    obtain ⟨hi, htab⟩ := Lib.deBruijn64_at _ hk
    have hcell := hT _ hi
    rw [htab] at hcell
    exact ctz_core x _ _ w (by simp; omega) (tz64_key x _ hx hx0 hlow) hi hk hcell

/-! ## The cells behind a change -/
section
variable {cs : Array Value} {s : XS} {h m1 m2 : Nat}
theorem get_set_self {cs : Array Value} {i : Nat} {u v : Value} (h : cs[i]? = some u) : (cs.setIfInBounds i v)[i]? = some v :=
  Array.getElem?_setIfInBounds_self_of_lt (Array.getElem?_eq_some_iff.1 h).1
theorem SCells.hint_ (hc : SCells cs s h m1 m2) {k : Nat} (hk : k ≤ 512) (hf : ∀ j : Nat, j < 64 * k → s.owed (j : Int) = true) : SCells (cs.setIfInBounds 513 (.int .i64 (k : Int))) s k m1 m2 :=
  ⟨(Array.getElem?_setIfInBounds_ne (by decide)).trans hc.c0, fun i hi => by
    obtain ⟨x, h1, h2, h3⟩ := hc.cw i hi
    exact ⟨x, h1, (Array.getElem?_setIfInBounds_ne (by omega)).trans h2, h3⟩,
   get_set_self hc.ch, (Array.getElem?_setIfInBounds_ne (by decide)).trans hc.ca, (Array.getElem?_setIfInBounds_ne (by decide)).trans hc.co, hk, hf⟩
theorem SCells.word_ (hc : SCells cs s h m1 m2) {s' : XS} {i y : Nat} (hi : i < 512) (hy : y < 18446744073709551616) (hn : s'.n = s.n) (hin : ∀ b : Nat, b < 64 → y.testBit b = s'.owed ((64 * i + b : Nat) : Int)) (hout : ∀ j : Nat, j / 64 ≠ i → s'.owed (j : Int) = s.owed (j : Int))
    {k : Nat} (hk : k ≤ 512) (hkk : k = h) (hf : ∀ j : Nat, j < 64 * k → s'.owed (j : Int) = true) : SCells (cs.setIfInBounds (1 + i) (.int .u64 (y : Int))) s' k m1 m2 := by
  subst hkk
  refine ⟨?_, fun i' hi' => ?_, (Array.getElem?_setIfInBounds_ne (by omega)).trans hc.ch, (Array.getElem?_setIfInBounds_ne (by omega)).trans hc.ca, (Array.getElem?_setIfInBounds_ne (by omega)).trans hc.co, hk, hf⟩
  · rw [hn]; exact (Array.getElem?_setIfInBounds_ne (by omega)).trans hc.c0
  · by_cases e : i' = i
    · subst e
      obtain ⟨x, _, h2, _⟩ := hc.cw i' hi'
      exact ⟨y, hy, get_set_self h2, hin⟩
    · obtain ⟨x, h1, h2, h3⟩ := hc.cw i' hi'
      exact ⟨x, h1, (Array.getElem?_setIfInBounds_ne (by omega)).trans h2, fun b hb => (h3 b hb).trans (hout _ (by omega)).symm⟩
end

end Go.Proofs.YtelcielfhgijpaaDoor

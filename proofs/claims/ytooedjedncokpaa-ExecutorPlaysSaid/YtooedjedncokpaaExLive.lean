/- The executor's Live: the numbers of the tries under way, ascending. -/
import Derived.Test.YtooedjedncokpaaExWalk1
import Derived.Test.YtooedjedncokpaaKeys
import Derived.Test.YtooedjedncokpaaShelf
namespace Go.Proofs.Ytooedjedncokpaa
set_option linter.unusedVariables false
open Go.RowKit Go.Maps Go.Sort Go.Shelf

theorem sorts_in (m : Nat) : AnyZI.SortsIn Try.prog Try.sortedA_ren Fence.wide m :=
  ⟨fun blk off cap ss W hH hblk hsz => callsIn_wide.2 (AnyM.slices_Sort_int Try.sortA blk off cap ss W hH hblk hsz),
   fun p cap W => callsIn_wide.2 (AnyM.slices_Sort_int_none Try.sortA p cap W)⟩

/-- maps.Keys: a function that gives the keys. -/
theorem Keys_at (mb : Option Nat) (W : World) : Calls Try.prog 31 #[.map mb] W fun e w' => e = .returned (.func (.func 46) #[] #[.pointer (some ⟨W.heap.size, 0, none⟩)]) ∧ w' = W.alloc (.cells #[.map mb] 71) :=
  (callsIn_wide (n := 5)).1 (AnyZI.keys_in Try.keysA Fence.wide 5 trivial rfl mb W)

/-- slices.Sorted of it: the keys, ascending, in a row of the call's own. -/
theorem Sorted_at {H : Type} (b nn : Nat) (D0 : DataW H) (R : Value → Option (DataW H × List MemPlace)) (w : World) (hown : w.ownsMap Try.prog 3 R b nn D0) (hmax : Maps.size D0 ≤ maxLen) (hbytes : Maps.size D0 * 8 ≤ 140737488355328) :
    Calls Try.prog 30 #[.func (.func 46) #[] #[.pointer (some ⟨w.heap.size, 0, none⟩)]] (w.alloc (.cells #[.map (some b)] 71)) fun e w' => ∃ (v : Value) (ss : List Int), e = .returned v ∧ ss.Perm (intKeys D0) ∧
      w'.ownsRow (w.heap.size + 1) 3 1 v ss.length ((ss.mergeSort (fun x y => decide (x ≤ y))).map encZ) ∧ (v = .slice none 0 0 ↔ ss = []) ∧ Below (w.heap.size + 1) (w.alloc (.cells #[.map (some b)] 71)) w' := by
  have hbl := hown.lt
  have hseq : SeqGives Fence.wide 2 Try.prog 46 #[.pointer (some ⟨w.heap.size, 0, none⟩)] encZ (fun ss => ss.Perm (intKeys D0)) (Maps.size D0) (w.alloc (.cells #[.map (some b)] 71)) :=
    AnyZI.keys_gives (ρ := Try.keysA_ren) { Try.keysA with } Fence.wide _ trivial rfl (by omega) w.heap.size b nn D0 _ (by simp) (by simp) (by
      obtain ⟨es, clock, hb, Ft, hs, hD⟩ := hown
      exact ⟨es, clock, (Below.heap_alloc _ _ b hbl).trans hb, Ft, hs, hD⟩)
  have cS := AnyZI.sorted_in Try.sortedA Fence.wide 5 trivial trivial trivial trivial rfl (by omega) (sorts_in _) (enters_of Try.func45 (by kernel_rfl) rfl) 46 #[.pointer (some ⟨w.heap.size, 0, none⟩)] trivial (enters_of Try.func46 (by kernel_rfl) rfl) _ _ hmax hbytes _ hseq
  change CallsIn _ _ Try.prog 30 _ _ _ at cS
  refine ((callsIn_wide).1 cS).mono ?_
  rintro e w' ⟨v, ss, rfl, hS, hrow, hnil, hb⟩
  rw [sz_alloc] at hrow hb
  exact ⟨v, ss, rfl, hS, hrow, hnil, hb⟩

/-- The tries under way are told in the order of their numbers. -/
def liveOk (r : XReq) : Prop := (r.live.map (·.1)).Pairwise (· < ·) ∧ (∀ p ∈ r.live, 0 ≤ p.1 ∧ p.1 < 4611686018427387904) ∧ r.live.length ≤ 1000000000000

theorem wf_of {n : Int} (h0 : 0 ≤ n) (h1 : n < 4611686018427387904) : (Lit.int .i64 n).wf = true := WalkArith.wf_i64 (by omega)

set_option maxHeartbeats 400000 in
theorem Live_at {b m : Nat} {r : XReq} {w : World} (h : ReqAt w b m r) (hl : liveOk r) :
    Calls Try.prog 15 #[.pointer (some ⟨b, 0, none⟩)] w fun e w' => ∃ v, e = .returned v ∧ Sl w' 3 1 v r.live.length (r.live.map fun p => Value.int .i64 p.1) ∧ Kept noBlock w w' := by
  obtain ⟨hv, hb, hs, hm⟩ := id h
  obtain ⟨-, -, -, -, -, -, -, -, c8, -⟩ := cells14 hb
  obtain ⟨D0, hown, hperm, hsz⟩ := hm.owns (H := Unit) (P := Try.prog) (k := 3) Try.underlying3 (fun p hp => wf_of (hl.2.1 p hp).1 (hl.2.1 p hp).2) (by have := hl.2.2; unfold maxLen; omega)
  have cS := Sorted_at m _ D0 _ w hown (by rw [hsz]; have := hl.2.2; unfold maxLen; omega) (by rw [hsz]; have := hl.2.2; omega)
  have CS := Lib.hid cS
  have HP := Lib.hid hperm
  clear hb hs hm hown cS hperm hsz h
  go_enter Try.func15, Try.ntmps15
  go_wp2_with (first
    | (go_at_call 31; refine (Keys_at _ _).mono ?_; rintro e w' ⟨rfl, rfl⟩)
    | (go_at_call 30; refine CS.out.mono ?_; rintro e w' ⟨v, ss, rfl, hS, hrow, hnil, hbl⟩))
  go_ret
  have hp2 := hS.trans HP.out
  have e1 : ss.mergeSort leI = r.live.map (·.1) := (mergeSort_of_perm_i hp2).trans (sorted_keys hl.1)
  have e2 : ss.length = r.live.length := by simpa using hp2.length_eq
  have e3 : (ss.mergeSort (fun x y => decide (x ≤ y))).map encZ = r.live.map fun p => Value.int .i64 p.1 := by
    rw [show ss.mergeSort (fun x y => decide (x ≤ y)) = r.live.map (·.1) from e1, List.map_map]; rfl
  rw [e2, e3] at hrow
  refine ⟨v, rfl, Sl.of_own hrow, ((Kept.refl noBlock w).alloc _).trans (T := noBlock) ⟨hbl.os, hbl.tape, hbl.output, hbl.size, fun k hk _ => hbl.block k (by rw [sz_alloc] at hk; exact hk)⟩ (fun _ _ h => h)⟩
theorem Live_is {b m n : Nat} {r : XReq} {w : World} (h : ReqAt w b m r) (hl : liveOk r ∧ r.live.length = n) :
    Calls Try.prog 15 #[.pointer (some ⟨b, 0, none⟩)] w fun e w' => ∃ A c, e = .returned (.slice A n c) ∧ Kept noBlock w w' := by
  refine (Live_at h hl.1).mono ?_
  rintro e w' ⟨v, rfl, hs, hk⟩
  rw [hl.2] at hs
  obtain ⟨A, c, rfl, -, -⟩ := hs.shape
  exact ⟨A, c, rfl, hk⟩

end Go.Proofs.Ytooedjedncokpaa

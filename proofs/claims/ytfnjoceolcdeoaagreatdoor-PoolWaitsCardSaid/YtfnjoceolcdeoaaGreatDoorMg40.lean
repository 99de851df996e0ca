/- A pool's Live, while none of its connections is open. -/
import Derived.Test.YtfnjoceolcdeoaaGreatDoorMg30
import Derived.Laws.IdiomRangeMap
import Derived.Maps.RangeRun
namespace Go.Proofs.YtfnjoceolcdeoaaGreatDoor
set_option linter.unusedVariables false
open Go.RowKit
open Go.ChangeMaps (setBlock)

theorem iterSeen_eqP {w : World} {r : Nat} {a : Option Nat} {b c : Nat} {s : Array Nat} (h : w.heap[r]? = some (.mapIter a b s c)) : w.iterSeen r = s := by
  unfold World.iterSeen; rw [h]
theorem heap_setBlock_selfP {w : World} {r : Nat} (h : r < w.heap.size) (o : Obj) : (setBlock w r o).heap[r]? = some o := by
  simp [setBlock, h]
set_option maxHeartbeats 4000000 in
set_option maxRecDepth 100000 in
theorem poLive_none {w : World} {p m : Nat} {x : XP} {L : List (Int × CN)} (h : PoolAt w p m x L) (hn : ∀ q ∈ L, q.2.x.state ≠ 6) :
    Calls Tryz.prog 16 #[.pointer (some ⟨p, 0, none⟩)] w fun e w' => ∃ A n c, e = .returned (.tuple #[.slice A n c, .int .i64 0]) ∧ n = L.length ∧ Sl w' 3 1 (.slice A n c) n (L.map fun q => Value.int .i64 q.1) ∧ Kept noBlock w w' := by
  have c13 : w.cell? ⟨p, 13, none⟩ = some (.map (some m)) := h.blk.cell 13
  obtain ⟨es, ck, hh, hst, hL⟩ := id h.map
  have hlt := lt_of_heap hh
  have hrg := run_range_map (P := Tryz.prog) w 76 3 71 m es ck imcM hh
  have H := Lib.hid h
  have HL := Lib.hid hL
  have HST := Lib.hid hst
  clear hL hst h
  go_enter Tryz.func16, Tryz.ntmps16
  go_wp2
  generalize hR : w.heap.size = R at *
  go_loopw [4] (fun v4 wr => v4 = .int .i64 0 ∧ Kept noBlock w wr ∧ ∃ seen c0, wr.heap[R]? = some (.mapIter (some m) ck seen c0) ∧ ck ≤ c0) (fun _ wr => (leftOf es (wr.iterSeen R)).size)
  case atStart => exact ⟨rfl, (Kept.refl _ _).alloc _, #[], ck, by subst hR; exact heap_alloc_new w _, Nat.le_refl _⟩
  case round =>
    obtain ⟨rfl, hk, seen, c0, hr, hc0⟩ := hrel
    have hb1 : wr.heap[m]? = some (.map es ck) := (hk.block m (by rw [hR]; exact hlt) (fun h => h)).trans hh
    have law := run_next_at (P := Tryz.prog) wr 0 R m ck c0 seen es ck hr hb1 HST.out.1 hc0
    have HK := Lib.hid hk
    rcases law with ⟨h0, hrun⟩ | ⟨e, he, w1, hw1, hrun⟩
    · have hnx : ∀ ty, (Instr.next (.pointer (some ⟨R, 0, none⟩)) false ty).run Tryz.prog wr = _ := fun _ => hrun
      have HI := Lib.hid (poIds_at (H.out.keptN hk))
      clear hk hr hb1 hrg c13
      go_wp2_with fail
      go_at_call 21
      refine HI.out.mono ?_
      rintro e w5 ⟨A, n, c, rfl, hn5, hs5, hk5⟩
      have HF : Hid (n = L.length ∧ Sl w5 3 1 (.slice A n c) n (L.map fun q => Value.int .i64 q.1) ∧ Kept noBlock w w5) := Lib.hid ⟨hn5, hs5, HK.out.trans hk5 fun _ _ e => e⟩
      clear hn5 hs5 hk5
      go_wp2
      go_ret2
      exact ⟨A, n, c, rfl, HF.out⟩
    · have hem := mem_left he
      obtain ⟨q, hq, hv⟩ : ∃ q ∈ L, e.val = cnV q.2 := by
        have : (e.key, e.val) ∈ L.map (fun q => (Value.int .i64 q.1, cnV q.2)) := HL.out ▸ List.mem_map.2 ⟨e, hem.1, rfl⟩
        obtain ⟨q, hq, e2⟩ := List.mem_map.1 this
        exact ⟨q, hq, (Prod.mk.inj e2).2.symm⟩
      unfold cnV at hv
      rw [hv] at hrun
      have hnx : ∀ ty, (Instr.next (.pointer (some ⟨R, 0, none⟩)) false ty).run Tryz.prog wr = _ := fun _ => hrun
      have hk1 : Kept noBlock w w1 := by
        rcases hw1 with rfl | rfl
        · exact hk
        · exact hk.drew
      have hr1 : w1.heap[R]? = some (.mapIter (some m) ck seen c0) := by rcases hw1 with rfl | rfl <;> exact hr
      have hk2 : Kept noBlock w (setBlock w1 R (.mapIter (some m) ck (seen.push e.born) ck)) := hk1.setBlock (fun h => absurd h (by rw [hR]; exact Nat.lt_irrefl _)) _
      have hr2 : (setBlock w1 R (.mapIter (some m) ck (seen.push e.born) ck)).heap[R]? = some (.mapIter (some m) ck (seen.push e.born) ck) := heap_setBlock_selfP (lt_of_heap hr1) _
      have hb2 := (hk2.block m (by rw [hR]; exact hlt) (fun h => h)).trans hh
      have hen := run_entry_at (P := Tryz.prog) (setBlock w1 R (.mapIter (some m) ck (seen.push e.born) ck)) R m ck seen es ck e hr2 hb2 hem.1 HST.out.2.1
      rw [hv] at hen
      have HK2 := Lib.hid hk2
      have HR2 := Lib.hid hr2
      have HR := Lib.hid hr
      clear hk hk1 hk2 hr1 hr2 hb2 hb1 hr hrg c13
      generalize setBlock w1 R (.mapIter (some m) ck (seen.push e.born) ck) = w2 at *
      have HS := Lib.hid (cnState_at ((H.out.keptN HK2.out).con q hq))
      have h6 : (q.2.x.state == 6) = false := by rw [beq_eq_false_iff_ne]; exact hn q hq
      generalize q.2.x.state = s6 at *
      generalize q.2.x.drain = d6 at *
      go_wp2_with fail
      go_at_call 30
      refine HS.out.mono ?_
      rintro e3 w5 ⟨rfl, hk5⟩
      have HK5 := Lib.hid hk5
      clear hk5
      go_wp2_with fail
      go_roundw
      case rel =>
        have hR5 : w5.heap[R]? = some (.mapIter (some m) ck (seen.push e.born) ck) := (HK5.out.block R (lt_of_heap HR2.out) (fun e => e)).trans HR2.out
        exact ⟨rfl, HK2.out.trans HK5.out fun _ _ e => e, seen.push e.born, ck, hR5, Nat.le_refl _⟩
      case measure =>
        have hR5 : w5.heap[R]? = some (.mapIter (some m) ck (seen.push e.born) ck) := (HK5.out.block R (lt_of_heap HR2.out) (fun e => e)).trans HR2.out
        rw [iterSeen_eqP hR5, iterSeen_eqP HR.out]
        exact left_shrinks es seen e he
end Go.Proofs.YtfnjoceolcdeoaaGreatDoor

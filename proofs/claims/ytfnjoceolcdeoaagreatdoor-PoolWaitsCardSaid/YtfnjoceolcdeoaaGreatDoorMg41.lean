/- A pool's Send, while none of its connections is open. -/
import Derived.Test.YtfnjoceolcdeoaaGreatDoorMg40
import Derived.Test.YtfnjoceolcdeoaaGreatDoorLoShelf
namespace Go.Proofs.YtfnjoceolcdeoaaGreatDoor
set_option linter.unusedVariables false
open Go.RowKit
open Go.ChangeMaps (setBlock)

set_option maxHeartbeats 4000000 in
set_option maxRecDepth 100000 in
theorem poUsable_none {w : World} {p m : Nat} {x : XP} {L : List (Int × CN)} (h : PoolAt w p m x L) (hn : ∀ q ∈ L, q.2.x.state ≠ 6) :
    Calls Tryz.prog 28 #[.pointer (some ⟨p, 0, none⟩)] w fun e w' => e = .returned (.slice none 0 0) ∧ Kept noBlock w w' := by
  have c13 : w.cell? ⟨p, 13, none⟩ = some (.map (some m)) := h.blk.cell 13
  obtain ⟨es, ck, hh, hst, hL⟩ := id h.map
  have hlt := lt_of_heap hh
  have hrg := run_range_map (P := Tryz.prog) w 76 3 71 m es ck imcM hh
  have H := Lib.hid h
  have HL := Lib.hid hL
  have HST := Lib.hid hst
  clear hL hst h
  go_enter Tryz.func28, Tryz.ntmps28
  go_wp2
  generalize hR : w.heap.size = R at *
  go_loopw [3] (fun v3 wr => v3 = .slice none 0 0 ∧ Kept noBlock w wr ∧ ∃ seen c0, wr.heap[R]? = some (.mapIter (some m) ck seen c0) ∧ ck ≤ c0) (fun _ wr => (leftOf es (wr.iterSeen R)).size)
  case atStart => exact ⟨rfl, (Kept.refl _ _).alloc _, #[], ck, by subst hR; exact heap_alloc_new w _, Nat.le_refl _⟩
  case round =>
    obtain ⟨rfl, hk, seen, c0, hr, hc0⟩ := hrel
    have hb1 : wr.heap[m]? = some (.map es ck) := (hk.block m (by rw [hR]; exact hlt) (fun h => h)).trans hh
    have law := run_next_at (P := Tryz.prog) wr 0 R m ck c0 seen es ck hr hb1 HST.out.1 hc0
    have HK := Lib.hid hk
    rcases law with ⟨h0, hrun⟩ | ⟨e, he, w1, hw1, hrun⟩
    · have hnx : ∀ ty, (Instr.next (.pointer (some ⟨R, 0, none⟩)) false ty).run Tryz.prog wr = _ := fun _ => hrun
      clear hk hr hb1 hrg c13
      go_wp2_with fail
      go_at_call 49
      refine Calls.mono (AnyF.slices_SortFunc_none { Tryz.lsort with } none 0 _ wr) ?_
      rintro e w' ⟨rfl, rfl⟩
      go_wp2
      go_ret
      exact ⟨rfl, HK.out⟩
    · have hem := mem_left he
      obtain ⟨q, hq, hkv, hv⟩ : ∃ q ∈ L, e.key = Value.int .i64 q.1 ∧ e.val = cnV q.2 := by
        have : (e.key, e.val) ∈ L.map (fun q => (Value.int .i64 q.1, cnV q.2)) := HL.out ▸ List.mem_map.2 ⟨e, hem.1, rfl⟩
        obtain ⟨q, hq, e2⟩ := List.mem_map.1 this
        exact ⟨q, hq, (Prod.mk.inj e2).1.symm, (Prod.mk.inj e2).2.symm⟩
      unfold cnV at hv
      rw [hv, hkv] at hrun
      have hnx : ∀ ty, (Instr.next (.pointer (some ⟨R, 0, none⟩)) false ty).run Tryz.prog wr = _ := fun _ => hrun
      have hk1 : Kept noBlock w w1 := by
        rcases hw1 with rfl | rfl
        · exact hk
        · exact hk.drew
      have hr1 : w1.heap[R]? = some (.mapIter (some m) ck seen c0) := by rcases hw1 with rfl | rfl <;> exact hr
      have hk2 : Kept noBlock w (setBlock w1 R (.mapIter (some m) ck (seen.push e.born) ck)) := hk1.setBlock (fun h => absurd h (by rw [hR]; exact Nat.lt_irrefl _)) _
      have hr2 : (setBlock w1 R (.mapIter (some m) ck (seen.push e.born) ck)).heap[R]? = some (.mapIter (some m) ck (seen.push e.born) ck) := heap_setBlock_selfP (lt_of_heap hr1) _
      have hb2 := (hk2.block m (by rw [hR]; exact hlt) (fun h => h)).trans hh
      have hen := run_entry_at (P := Tryz.prog) (setBlock w1 R (.mapIter (some m) ck (seen.push e.born) ck)) R m ck seen es ck e hr2 hb2 hem.1 HST.out.2.1
      rw [hv, hkv] at hen
      have HK2 := Lib.hid hk2
      have HR2 := Lib.hid hr2
      have HR := Lib.hid hr
      clear hk hk1 hk2 hr1 hr2 hb2 hb1 hr hrg c13
      generalize setBlock w1 R (.mapIter (some m) ck (seen.push e.born) ck) = w2 at *
      have HS := Lib.hid (cnState_at ((H.out.keptN HK2.out).con q hq))
      have h6 : (q.2.x.state == 6) = false := by rw [beq_eq_false_iff_ne]; exact hn q hq
      have h6n : (q.2.x.state != 6) = true := by simp [bne, h6]
      generalize q.2.x.state = s6 at *
      generalize q.2.x.drain = d6 at *
      go_wp2_with fail
      go_at_call 30
      refine HS.out.mono ?_
      rintro e3 w5 ⟨rfl, hk5⟩
      have HK5 := Lib.hid hk5
      clear hk5
      go_wp2_with fail
      go_roundw
      case rel =>
        have hR5 : w5.heap[R]? = some (.mapIter (some m) ck (seen.push e.born) ck) := (HK5.out.block R (lt_of_heap HR2.out) (fun e => e)).trans HR2.out
        exact ⟨rfl, HK2.out.trans HK5.out fun _ _ e => e, seen.push e.born, ck, hR5, Nat.le_refl _⟩
      case measure =>
        have hR5 : w5.heap[R]? = some (.mapIter (some m) ck (seen.push e.born) ck) := (HK5.out.block R (lt_of_heap HR2.out) (fun e => e)).trans HR2.out
        rw [iterSeen_eqP hR5, iterSeen_eqP HR.out]
        exact left_shrinks es seen e he

set_option maxHeartbeats 4000000 in
set_option maxRecDepth 100000 in
theorem poSend_none {w : World} {p m : Nat} {x : XP} {L : List (Int × CN)} (h : PoolAt w p m x L) (hn : ∀ q ∈ L, q.2.x.state ≠ 6) (op : Int) (b : Value) (now until_ : Int) :
    Calls Tryz.prog 15 #[.pointer (some ⟨p, 0, none⟩), .int .u8 op, b, .int .u64 now, .int .u64 until_] w fun e w' => e = .returned (.tuple #[.int .i64 0, .int .i64 0, .slice none 0 0, .int .i64 40]) ∧ Kept noBlock w w' := by
  have HU := Lib.hid (poUsable_none h hn)
  clear h
  go_enter Tryz.func15, Tryz.ntmps15
  go_wp2_with fail
  go_at_call 28
  refine HU.out.mono ?_
  rintro e w1 ⟨rfl, hk1⟩
  have HK1 := Lib.hid hk1
  clear hk1
  go_wp2_with fail
  (try simp only [Exit.inBlock, Exit.then])
  refine bodyPost_ret (v := .tuple #[.int .i64 0, .int .i64 0, .slice none 0 0, .int .i64 40]) (by simp [results, Tryz.results15, go_sem]) rfl ?_
  exact ⟨rfl, HK1.out⟩
end Go.Proofs.YtfnjoceolcdeoaaGreatDoor

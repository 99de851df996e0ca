/- replica: (*center).all, (*chooser).take. -/
import Derived.Test.YtjdjfikeiphgpaaRpBase
import Derived.Laws.IdiomRangeMap
import Derived.Maps.RangeRun
namespace Go.Proofs.Ytjdjfikeiphgpaa
set_option linter.unusedVariables false
open Go.RowKit
open Go.ChangeMaps (setBlock)

theorem iterSeen_eq {w : World} {r : Nat} {a : Option Nat} {b c : Nat} {s : Array Nat} (h : w.heap[r]? = some (.mapIter a b s c)) : w.iterSeen r = s := by
  unfold World.iterSeen; rw [h]
theorem heap_setBlock_self {w : World} {r : Nat} (h : r < w.heap.size) (o : Obj) : (setBlock w r o).heap[r]? = some o := by
  simp [setBlock, h]
section
variable {w : World} {mr : Nat} {L : List (ByteArray × Bool)} {es : Array MapEntry}
theorem all_val (hL : es.toList.map (fun e => (e.key, e.val)) = L.map (fun p => (Value.string p.1, Value.bool p.2))) {x : MapEntry} (hx : x ∈ es.toList) : ∃ p ∈ L, x.val = .bool p.2 := by
  have : (x.key, x.val) ∈ L.map (fun p => (Value.string p.1, Value.bool p.2)) := hL ▸ List.mem_map.2 ⟨x, hx, rfl⟩
  obtain ⟨p, hp, e⟩ := List.mem_map.1 this
  exact ⟨p, hp, (Prod.mk.inj e).2.symm⟩
theorem val_all (hL : es.toList.map (fun e => (e.key, e.val)) = L.map (fun p => (Value.string p.1, Value.bool p.2))) {p : ByteArray × Bool} (hp : p ∈ L) : ∃ x ∈ es.toList, x.val = .bool p.2 := by
  have : (Value.string p.1, Value.bool p.2) ∈ es.toList.map (fun e => (e.key, e.val)) := hL ▸ List.mem_map.2 ⟨p, hp, rfl⟩
  obtain ⟨x, hx, e⟩ := List.mem_map.1 this
  exact ⟨x, hx, (Prod.mk.inj e).2⟩

set_option maxHeartbeats 1000000 in
set_option maxRecDepth 100000 in
theorem rall_at {g : Nat} {a b vw : Value} (hb : Blk w g 81 #[a, b, .map (some mr), vw]) (hm : SMap w mr L) :
    Calls Try.prog 40 #[.pointer (some ⟨g, 0, none⟩)] w fun e w' => e = .returned (.bool (L.all (·.2))) ∧ Kept noBlock w w' := by
  obtain ⟨es, ck, hh, hst, hL⟩ := hm
  have hlt := lt_of_heap hh
  have hrg := run_range_map (P := Try.prog) w 79 9 4 mr es ck msbM hh
  have z2 := hb.cell 2
  simp only [List.getElem?_toArray, List.getElem?_cons_succ, List.getElem?_cons_zero] at z2
  have HL := Lib.hid hL
  clear hL hb
  go_enter Try.func40, Try.ntmps40
  go_wp2
  go_loopw [] (fun wr => Kept noBlock w wr ∧ ∃ seen c0, wr.heap[w.heap.size]? = some (.mapIter (some mr) ck seen c0) ∧ ck ≤ c0 ∧ ∀ x ∈ es.toList, seen.contains x.born = true → x.val = .bool true) (fun wr => (leftOf es (wr.iterSeen w.heap.size)).size)
  case atStart => exact ⟨(Kept.refl _ _).alloc _, #[], ck, heap_alloc_new w _, Nat.le_refl _, fun x _ h => by simp at h⟩
  case round =>
    obtain ⟨hk, seen, c0, hr, hc0, hno⟩ := hrel
    have hb1 : wr.heap[mr]? = some (.map es ck) := (hk.block mr hlt (fun h => h)).trans hh
    have law := run_next_at (P := Try.prog) wr 0 w.heap.size mr ck c0 seen es ck hr hb1 hst.1 hc0
    have HK := Lib.hid hk
    rcases law with ⟨h0, hrun⟩ | ⟨e, he, w1, hw1, hrun⟩
    · have hnx : ∀ ty, (Instr.next (.pointer (some ⟨w.heap.size, 0, none⟩)) false ty).run Try.prog wr = _ := fun _ => hrun
      clear hk
      go_wp2
      go_ret
      have hall : L.all (·.2) = true := by
        rw [List.all_eq_true]
        intro p hp
        obtain ⟨x, hx, e1⟩ := val_all HL.out hp
        have e2 := hno x hx (all_seen es seen h0 x hx)
        rw [e1] at e2
        exact Value.bool.inj e2
      rw [hall]
      exact ⟨rfl, HK.out⟩
    · have hem := mem_left he
      obtain ⟨p, hp, hv⟩ := all_val HL.out hem.1
      rw [hv] at hrun
      have hnx : ∀ ty, (Instr.next (.pointer (some ⟨w.heap.size, 0, none⟩)) false ty).run Try.prog wr = _ := fun _ => hrun
      have hk1 : Kept noBlock w w1 := by
        rcases hw1 with rfl | rfl
        · exact hk
        · exact hk.drew
      have hr1 : w1.heap[w.heap.size]? = some (.mapIter (some mr) ck seen c0) := by rcases hw1 with rfl | rfl <;> exact hr
      have hk2 : Kept noBlock w (setBlock w1 w.heap.size (.mapIter (some mr) ck (seen.push e.born) ck)) := hk1.setBlock (fun h => absurd h (Nat.lt_irrefl _)) _
      have hr2 : (setBlock w1 w.heap.size (.mapIter (some mr) ck (seen.push e.born) ck)).heap[w.heap.size]? = some (.mapIter (some mr) ck (seen.push e.born) ck) := heap_setBlock_self (lt_of_heap hr1) _
      have hb2 := (hk2.block mr hlt (fun h => h)).trans hh
      have hen := run_entry_at (P := Try.prog) (setBlock w1 w.heap.size (.mapIter (some mr) ck (seen.push e.born) ck)) w.heap.size mr ck seen es ck e hr2 hb2 hem.1 hst.2.1
      rw [hv] at hen
      have HK2 := Lib.hid hk2
      have HR2 := Lib.hid hr2
      have HR := Lib.hid hr
      clear hk hk1 hk2 hr1 hr2 hb2 hb1 hr
      generalize setBlock w1 w.heap.size (.mapIter (some mr) ck (seen.push e.born) ck) = w2 at *
      cases hp2 : p.2 with
      | true =>
        rw [hp2] at hv hnx hen hrun
        go_wp2
        go_roundw
        case rel =>
          refine ⟨HK2.out, seen.push e.born, ck, HR2.out, Nat.le_refl _, fun x hx hc => ?_⟩
          rw [contains_push] at hc
          rcases Bool.or_eq_true _ _ ▸ hc with h1 | h1
          · exact hno x hx h1
          · have : x = e := born_inj hst.2.1 hx hem.1 (beq_iff_eq.1 h1)
            subst this
            exact hv
        case measure =>
          rw [iterSeen_eq HR2.out, iterSeen_eq HR.out]
          exact left_shrinks es seen e he
      | false =>
        rw [hp2] at hv hnx hen hrun
        go_wp2
        go_ret
        have hall : L.all (·.2) = false := by
          rw [List.all_eq_false]
          exact ⟨p, hp, by simp [hp2]⟩
        rw [hall]
        exact ⟨rfl, HK2.out⟩
end
end Go.Proofs.Ytjdjfikeiphgpaa

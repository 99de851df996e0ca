/- hosts: maps.Values over a table's map: the iterator's contract. -/
import Derived.Test.YtdcdefkloibfnaaGreatDoorMg02
import Derived.Laws.IdiomRangeMap
import Derived.Maps.RangeRun
import Derived.RangeFuncNested
import Derived.RangeFuncBound
import Derived.RangeFuncCalls
import Derived.RangeFuncLeaves
import Derived.Shelf.Abstract
import Derived.Shelf.RegionOpen
import Derived.OwnWalkIn
import Derived.TacticsInMore
import Derived.LoopNIn
import Derived.LoopIn
namespace Go.Proofs.YtdcdefkloibfnaaGreatDoor
set_option linter.unusedVariables false
open Go.RowKit Go.Shelf
open Go.ChangeMaps (setBlock)

/-- What has come of the map's values. -/
def vis (seen : Array Nat) : List MapEntry → List HV → List HV
  | e :: es, v :: vs => if seen.contains e.born = true then v :: vis seen es vs else vis seen es vs
  | _, _ => []
theorem vis_none : ∀ (es : List MapEntry) (vs : List HV), vis #[] es vs = []
  | [], _ => rfl
  | _ :: _, [] => rfl
  | e :: es, v :: vs => by rw [vis, if_neg (by simp)]; exact vis_none es vs
theorem vis_all {seen : Array Nat} : ∀ (es : List MapEntry) (vs : List HV), es.length = vs.length → (∀ e ∈ es, seen.contains e.born = true) → vis seen es vs = vs
  | [], [], _, _ => rfl
  | [], _ :: _, h, _ => by simp at h
  | _ :: _, [], h, _ => by simp at h
  | e :: es, v :: vs, h, ha => by
    rw [vis, if_pos (ha e (List.mem_cons_self ..)), vis_all es vs (by simpa using h) fun x hx => ha x (List.mem_cons_of_mem _ hx)]
theorem vis_other {seen : Array Nat} {b : Nat} : ∀ (es : List MapEntry) (vs : List HV), (∀ e ∈ es, e.born ≠ b) → vis (seen.push b) es vs = vis seen es vs
  | [], _, _ => rfl
  | _ :: _, [], _ => rfl
  | e :: es, v :: vs, h => by
    have h1 := h e (List.mem_cons_self ..)
    have h2 : (seen.push b).contains e.born = seen.contains e.born := by
      rw [contains_push]
      simp [h1]
    rw [vis, vis, h2, vis_other es vs fun x hx => h x (List.mem_cons_of_mem _ hx)]
theorem vis_step {seen : Array Nat} {e : MapEntry} {v : HV} : ∀ (es : List MapEntry) (vs : List HV) (i : Nat), (es.map (·.born)).Nodup → es[i]? = some e → vs[i]? = some v → seen.contains e.born = false → (vis (seen.push e.born) es vs).Perm (vis seen es vs ++ [v])
  | [], _, _, _, h, _, _ => by simp at h
  | _ :: _, [], _, _, _, h, _ => by simp at h
  | a :: es, w :: vs, 0, hn, he, hv, hs => by
    simp only [List.getElem?_cons_zero, Option.some.injEq] at he hv
    subst he hv
    have hn' : a.born ∉ es.map (·.born) ∧ (es.map (·.born)).Nodup := List.nodup_cons.1 hn
    rw [vis, vis, if_pos (by rw [contains_push]; simp), if_neg (by rw [hs]; simp), vis_other es vs (fun x hx (e : x.born = a.born) => hn'.1 (e ▸ List.mem_map.2 ⟨x, hx, rfl⟩))]
    exact (List.perm_append_comm (l₁ := [w]) (l₂ := vis seen es vs))
  | a :: es, w :: vs, i + 1, hn, he, hv, hs => by
    simp only [List.getElem?_cons_succ] at he hv
    have hn' : a.born ∉ es.map (·.born) ∧ (es.map (·.born)).Nodup := List.nodup_cons.1 hn
    have hne : a.born ≠ e.born := fun e2 => hn'.1 (e2 ▸ List.mem_map.2 ⟨e, List.mem_of_getElem? he, rfl⟩)
    have h2 : (seen.push e.born).contains a.born = seen.contains a.born := by
      rw [contains_push]
      simp [hne]
    have ih := vis_step es vs i hn'.2 he hv hs
    rw [vis, vis, h2]
    by_cases h3 : seen.contains a.born = true
    · rw [if_pos h3, if_pos h3]; exact ih.cons w
    · rw [if_neg h3, if_neg h3]; exact ih
theorem vis_len {seen : Array Nat} : ∀ (es : List MapEntry) (vs : List HV), (vis seen es vs).length ≤ vs.length
  | [], _ => Nat.zero_le _
  | _ :: _, [] => Nat.le_refl _
  | e :: es, v :: vs => by
    have ih := vis_len (seen := seen) es vs
    rw [vis]
    split
    · simp only [List.length_cons]; omega
    · simp only [List.length_cons]; omega
theorem grown_iter {w w1 : World} {r : Nat} {o : Obj} (h : w1 = w ∨ w1 = w.drew) : w.grownBy (setBlock w1 r o) (some r) := by
  rcases h with rfl | rfl
  · exact ⟨rfl, rfl, rfl, by rw [size_setBlock]; exact Nat.le_refl _, fun k _ hk => heap_setBlock _ r o k (fun e => hk (by rw [e]))⟩
  · exact ⟨rfl, rfl, rfl, by rw [size_setBlock]; exact Nat.le_refl _, fun k _ hk => heap_setBlock _ r o k (fun e => hk (by rw [e]))⟩
theorem heap_setBlock_me {w : World} {r : Nat} (h : r < w.heap.size) (o : Obj) : (setBlock w r o).heap[r]? = some o := by simp [setBlock, h]
theorem iterSeen_is {w : World} {r : Nat} {a : Option Nat} {b c : Nat} {s : Array Nat} (h : w.heap[r]? = some (.mapIter a b s c)) : w.iterSeen r = s := by
  unfold World.iterSeen; rw [h]

set_option maxRecDepth 100000 in
set_option maxHeartbeats 2000000 in
theorem Vals1_in (F : Fence) (n : Nat) (hF : F.fn 70) (hro : F.round = none) (hn : 1 ≤ n) (l Bm m : Nat) (L : List (ByteArray × HV)) (J Jx : List HV → World → Prop)
    (hY : ∀ pre x W, J pre W → pre.length < L.length → YieldAt F (n - 1) Tryz.prog l #[hvV x] W fun e W' =>
      (e = .returned (.bool true) ∧ J (pre ++ [x]) W' ∧ KeepsWalks W W') ∨ (e = .returned (.bool false) ∧ Jx (pre ++ [x]) W'))
    (W : World) (hJ : AbidesFrom W.heap.size J) (hm : W.cell? ⟨Bm, 0, none⟩ = some (.map (some m))) (hmap : HoMap W m L) (h0 : J [] W) :
    CallsIn F n Tryz.prog 70 #[.func (.yield l) #[] #[], .pointer (some ⟨Bm, 0, none⟩)] W fun e W' => (∃ v, e = .returned v) ∧
      ((∃ xs, xs.Perm (L.map (·.2)) ∧ J xs W') ∨ (∃ pre, True ∧ Jx pre W')) := by
  obtain ⟨es, ck, hh, hst, hL⟩ := hmap
  have hlt := lt_of_heap hh
  have hrg := run_range_map (P := Tryz.prog) W 133 9 94 m es ck mshM hh
  have hlen : es.toList.length = (L.map (·.2)).length := by
    have := congrArg List.length hL
    simpa using this
  have hent : ∀ e ∈ es.toList, ∃ (i : Nat) (p : ByteArray × HV), es.toList[i]? = some e ∧ (L.map (·.2))[i]? = some p.2 ∧ e.val = hvV p.2 := by
    intro e he
    obtain ⟨i, hi⟩ := List.getElem?_of_mem he
    have h1 := congrArg (fun l => l[i]?) hL
    simp only [List.getElem?_map, hi, Option.map_some] at h1
    cases hp : L[i]? with
    | none => rw [hp] at h1; simp at h1
    | some p =>
      rw [hp] at h1
      simp only [Option.map_some, Option.some.injEq, Prod.mk.injEq] at h1
      exact ⟨i, p, hi, by rw [List.getElem?_map, hp]; rfl, h1.2⟩
  have HENT := Lib.hid hent
  have HLEN := Lib.hid hlen
  have HST := Lib.hid hst
  have HY := Lib.hid hY
  have HJ := Lib.hid hJ
  have h0w : J [] (W.alloc (.mapIter (some m) ck #[] ck)) := hJ [] W _ none h0 (World.grownBy_alloc W _ none) (fun r e => by cases e)
  have H0 := Lib.hid h0w
  clear hL hent hlen hst hY hJ h0w
  refine callsIn_of_wp Tryz.func70 rfl hF ?_ hro
  simp only [Tryz.ntmps70, List.size_toArray, List.length_cons, List.length_nil, Nat.reduceAdd, Nat.reduceSub, Array.replicate_succ, Array.replicate_zero, List.push_toArray, List.append_toArray, List.nil_append, List.cons_append]
  gi_wp2
  gi_loopw [] (fun wr => ∃ seen c0 xs, wr.heap[W.heap.size]? = some (.mapIter (some m) ck seen c0) ∧ ck ≤ c0 ∧ wr.heap[m]? = some (.map es ck) ∧ xs.Perm (vis seen es.toList (L.map (·.2))) ∧ J xs wr) (fun wr => (leftOf es (wr.iterSeen W.heap.size)).size)
  case atStart => exact ⟨#[], ck, [], heap_alloc_new W _, Nat.le_refl _, (heap_alloc_old W _ hlt).trans hh, by rw [vis_none], H0.out⟩
  case round =>
    obtain ⟨seen, c0, xs, hr, hc0, hb1, hp, hJs⟩ := hrel
    have law := run_next_at (P := Tryz.prog) wr 0 W.heap.size m ck c0 seen es ck hr hb1 HST.out.1 hc0
    rcases law with ⟨h0, hrun⟩ | ⟨e, he, w1, hw1, hrun⟩
    · have hnx : ∀ ty, (Instr.next (.pointer (some ⟨W.heap.size, 0, none⟩)) false ty).run Tryz.prog wr = _ := fun _ => hrun
      have HFIN : Hid (xs.Perm (L.map (·.2))) := Lib.hid (by rw [vis_all es.toList (L.map (·.2)) HLEN.out (all_seen es seen h0)] at hp; exact hp)
      clear hp
      gi_wp2
      go_end0
      exact ⟨⟨_, rfl⟩, .inl ⟨xs, HFIN.out, hJs⟩⟩
    · have hem := mem_left he
      obtain ⟨i, p, hei, hpi, hv⟩ := HENT.out e hem.1
      rw [hv] at hrun
      have hnx : ∀ ty, (Instr.next (.pointer (some ⟨W.heap.size, 0, none⟩)) false ty).run Tryz.prog wr = _ := fun _ => hrun
      have hst1 := vis_step es.toList (L.map (·.2)) i HST.out.2.1 hei hpi hem.2
      have hg : wr.grownBy (setBlock w1 W.heap.size (.mapIter (some m) ck (seen.push e.born) ck)) (some W.heap.size) := grown_iter hw1
      have hJ2 := HJ.out xs wr _ (some W.heap.size) hJs hg (fun r e => by cases e; exact ⟨Nat.le_refl _, ⟨_, hr, rfl⟩⟩)
      have hr2 : (setBlock w1 W.heap.size (.mapIter (some m) ck (seen.push e.born) ck)).heap[W.heap.size]? = some (.mapIter (some m) ck (seen.push e.born) ck) := heap_setBlock_me (by rcases hw1 with rfl | rfl <;> exact lt_of_heap hr) _
      have hb2 : (setBlock w1 W.heap.size (.mapIter (some m) ck (seen.push e.born) ck)).heap[m]? = some (.map es ck) := (hg.block m (lt_of_heap hb1) (fun e => by cases e; exact absurd hlt (Nat.lt_irrefl _))).trans hb1
      have hen := run_entry_at (P := Tryz.prog) (setBlock w1 W.heap.size (.mapIter (some m) ck (seen.push e.born) ck)) W.heap.size m ck seen es ck e hr2 hb2 hem.1 HST.out.2.1
      rw [hv] at hen
      have hlt2 : xs.length < L.length := by
        have h1 := hp.length_eq
        have h2 := hst1.length_eq
        have h3 := vis_len (seen := seen.push e.born) es.toList (L.map (·.2))
        rw [List.length_map] at h3
        rw [List.length_append] at h2
        simp only [List.length_singleton] at h2
        omega
      have HP2 : Hid ((xs ++ [p.2]).Perm (vis (seen.push e.born) es.toList (L.map (·.2)))) := Lib.hid ((hp.append_right [p.2]).trans hst1.symm)
      have HMS := Lib.hid (left_shrinks es seen e he)
      have HR := Lib.hid hr
      clear hp hst1 hg hJs hei hpi
      generalize setBlock w1 W.heap.size (.mapIter (some m) ck (seen.push e.born) ck) = w2 at *
      obtain ⟨key, n1, n2, n3, ta, tn, tc, tk, up⟩ := p
      simp only [hvV] at hrun hnx hen
      have hg3 : w2.grownBy (w2.alloc (.cells #[.string n1, .string n2, .string n3, .slice ta tn tc, .bool up] 94)) none := World.grownBy_alloc w2 _ none
      have hJ3 := HJ.out xs w2 _ none hJ2 hg3 (fun r e => by cases e)
      have hb : Blk (w2.alloc (.cells #[.string n1, .string n2, .string n3, .slice ta tn tc, .bool up] 94)) w2.heap.size 94 #[.string n1, .string n2, .string n3, .slice ta tn tc, .bool up] := Blk.new _ _ _
      have y0 := hb.cell 0
      have y1 := hb.cell 1
      have y2 := hb.cell 2
      have y3 := hb.cell 3
      have y4 := hb.cell 4
      simp only [List.getElem?_toArray, List.getElem?_cons_succ, List.getElem?_cons_zero] at y0 y1 y2 y3 y4
      obtain ⟨fn, tmps, assign, body, hy, hR⟩ := HY.out xs ⟨n1, n2, n3, ta, tn, tc, tk, up⟩ _ hJ3 hlt2
      simp only [hvV] at hy
      have hr3 := (heap_alloc_old w2 (.cells #[.string n1, .string n2, .string n3, .slice ta tn tc, .bool up] 94) (lt_of_heap hr2)).trans hr2
      have hb3 := (heap_alloc_old w2 (.cells #[.string n1, .string n2, .string n3, .slice ta tn tc, .bool up] 94) (lt_of_heap hb2)).trans hb2
      have HR3 := Lib.hid hr3
      have HB3 := Lib.hid hb3
      clear hJ2 hg3 hJ3 hb hr2 hb2 hr3 hb3
      gi_wp2
      refine hR.mono ?_
      rintro e' W3 (⟨rfl, hJ4, hk4⟩ | ⟨rfl, hJx4⟩)
      · have hr4 := hk4.same _ _ HR3.out rfl
        have hb4 := hk4.same _ _ HB3.out rfl
        gi_wp2
        go_roundw
        case rel => exact ⟨_, ck, _, hr4, Nat.le_refl _, hb4, HP2.out, hJ4⟩
        case measure =>
          rw [iterSeen_is hr4, iterSeen_is HR.out]
          exact HMS.out
      · gi_wp2
        refine bodyPost_ret (results_none rfl _ _ _) rfl ?_
        exact ⟨⟨_, rfl⟩, .inr ⟨_, trivial, hJx4⟩⟩
end Go.Proofs.YtdcdefkloibfnaaGreatDoor

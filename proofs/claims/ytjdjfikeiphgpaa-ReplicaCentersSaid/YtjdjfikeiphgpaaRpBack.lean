/- slices.Backward over a row of sites: the iterator's contract. -/
import Derived.Test.YtjdjfikeiphgpaaRpBase
import Derived.RangeFuncNested
import Derived.RangeFuncBound
import Derived.RangeFuncCalls
import Derived.RangeFuncLeaves
import Derived.Shelf.Abstract
import Derived.Shelf.RegionOpen
import Derived.OwnWalkIn
import Derived.TacticsInMore
import Derived.LoopNIn
import Derived.LoopIn
namespace Go.Proofs.Ytjdjfikeiphgpaa
set_option linter.unusedVariables false
open Go.RowKit Go.Shelf
attribute [local go_sem] Oper.semAt_some

theorem sC_len (l : List Si) : (l.flatMap sC).length = l.length * 3 := flat_len (k := 3) (fun _ => rfl) l
theorem si_at {w : World} {ok : Nat → TypeId → Prop} {v : Value} {L : List Si} {n : Nat} (h : SlK w ok 3 v n (L.flatMap sC)) {i : Nat} {s : Si} (hi : L[i]? = some s) :
    ∃ g off, (∀ kd w', (Instr.indexAt 37 v (.int kd (i : Int))).run Try.prog w' = .ok (.pointer (some ⟨g, off, none⟩)) w') ∧ g < w.heap.size ∧ w.cell? ⟨g, off, none⟩ = some (.string s.1) ∧ w.cell? ⟨g, off + 1, none⟩ = some (.string s.2.1) ∧ w.cell? ⟨g, off + 2, none⟩ = some (.string s.2.2) := by
  have hlt : i < n := by
    have h1 := (List.getElem?_eq_some_iff.1 hi).1
    have h2 := h.len
    rw [sC_len] at h2
    omega
  obtain ⟨g, off, h1, h2, h4, h3⟩ := h.run_index sitesT (i := (i : Int)) (k := i) rfl hlt
  refine ⟨g, off, h1, h2, h3 0 _ ?_, h3 1 _ ?_, h3 2 _ ?_⟩
  · rw [flat_get (k := 3) (fun _ => rfl) L i 0 s hi (by decide)]; rfl
  · rw [flat_get (k := 3) (fun _ => rfl) L i 1 s hi (by decide)]; rfl
  · rw [flat_get (k := 3) (fun _ => rfl) L i 2 s hi (by decide)]; rfl

/-- What a round must keep: what lay below n, and the slice's box. -/
def BackK (n Bs : Nat) (W W' : World) : Prop := Below n W W' ∧ Bs < W.heap.size ∧ W'.heap[Bs]? = W.heap[Bs]?
def sitesOf (pre : List (Int × Si)) : List Si := pre.map (·.2)
abbrev encB (x : Int × Si) : Array Value := #[.int .i64 x.1, .agg #[.string x.2.1, .string x.2.2.1, .string x.2.2.2]]

set_option maxRecDepth 100000 in
set_option maxHeartbeats 2000000 in
theorem Backw1_in (F : Fence) (n : Nat) (hF : F.fn 39) (hro : F.round = none) (hn : 1 ≤ n) (l Bs n₀ len cap : Nat) (A : Option Addr) (zs : List Si) (hlen : zs.length = len) (hmax : len ≤ 1000000) (J Jx : List (Int × Si) → World → Prop)
    (hY : ∀ pre x W, J pre W → pre.length < len → YieldAt F (n - 1) Try.prog l (encB x) W fun e W' =>
      (e = .returned (.bool true) ∧ J (pre ++ [x]) W' ∧ BackK n₀ Bs W W') ∨ (e = .returned (.bool false) ∧ Jx (pre ++ [x]) W'))
    (W : World) (hBs : W.cell? ⟨Bs, 0, none⟩ = some (.slice A len cap)) (hs : Lo W n₀ 3 (.slice A len cap) len (zs.flatMap sC)) (h0 : J [] W) :
    CallsIn F n Try.prog 39 #[.func (.yield l) #[] #[], .pointer (some ⟨Bs, 0, none⟩)] W fun e W' => (∃ v, e = .returned v) ∧
      ((∃ ys, sitesOf ys = zs.reverse ∧ J ys W') ∨ (∃ pre, True ∧ Jx pre W')) := by
  have hBl : Bs < W.heap.size := World.block_lt_of_cell? _ ⟨Bs, 0, none⟩ hBs
  have hrl := hs.run_len sitesT
  have HS := Lib.hid hs
  have hw0 : IntKind.i64.wrap ((len : Int) - 1) = (len : Int) - 1 := by rw [IntKind.wrap_i64]; omega
  have hw0' : IntKind.i64.wrap (-1 + (len : Int)) = (len : Int) - 1 := by rw [IntKind.wrap_i64]; omega
  clear hs
  refine callsIn_of_wp Try.func39 rfl hF ?_ hro
  simp only [Try.ntmps39, List.size_toArray, List.length_cons, List.length_nil, Nat.reduceAdd, Nat.reduceSub, Array.replicate_succ, Array.replicate_zero, List.push_toArray, List.append_toArray, List.nil_append, List.cons_append]
  gi_wp2
  gi_loopw [3] (fun i wr => ∃ (m : Nat) (pre : List (Int × Si)), m + pre.length = len ∧ i = .int .i64 ((m : Int) - 1) ∧ sitesOf pre = zs.reverse.take pre.length ∧ J pre wr ∧ Below n₀ W wr ∧ Bs < wr.heap.size ∧ wr.heap[Bs]? = W.heap[Bs]?)
    (fun i _ => (intOf i + 1).toNat)
  case atStart => exact ⟨len, [], by simp, rfl, by simp [sitesOf], h0, Below.refl _ _, hBl, rfl⟩
  case round =>
    obtain ⟨m, pre, hmk, rfl, hpre, hJs, hbw, hbl, hbs⟩ := hrel
    have hbc : wr.cell? ⟨Bs, 0, none⟩ = some (.slice A len cap) := (World.cell?_of_block (a := ⟨Bs, 0, none⟩) hbs).trans hBs
    have hsl : Lo wr n₀ 3 (.slice A len cap) len (zs.flatMap sC) := HS.out.keep fun g cs e fz hg hh => (hbw.block g hg).trans hh
    cases m with
    | zero =>
      have HP := Lib.hid hpre
      clear hsl hpre
      have hm1 : ((0 : Nat) : Int) - 1 = -1 := rfl
      gi_wp2
      go_end0
      refine ⟨⟨_, rfl⟩, .inl ⟨pre, ?_, hJs⟩⟩
      have := HP.out
      rw [this]
      exact List.take_of_length_le (by rw [List.length_reverse]; omega)
    | succ m =>
      obtain ⟨x, hx⟩ : ∃ x, zs[m]? = some x := ⟨_, List.getElem?_eq_getElem (by omega)⟩
      obtain ⟨g, off, hidx, hgl, c0, c1, c2⟩ := si_at hsl hx
      obtain ⟨fn, tmps, assign, body, hy, hR⟩ := hY pre ((m : Int), x) wr hJs (by omega)
      have hm1 : (((m + 1 : Nat) : Nat) : Int) - 1 = (m : Int) := by omega
      have hxr : sitesOf (pre ++ [((m : Int), x)]) = zs.reverse.take (pre.length + 1) := by
        have h1 : zs.reverse[pre.length]? = some x := by
          rw [List.getElem?_reverse (by omega)]
          rw [← hx]; congr 1; omega
        rw [List.take_add_one, h1, ← hpre]
        simp [sitesOf]
      have HXR := Lib.hid hxr
      have hwm : IntKind.i64.wrap ((m : Int) - 1) = (m : Int) - 1 := by rw [IntKind.wrap_i64]; omega
      have HBW := Lib.hid hbw
      have HBL := Lib.hid hbl
      have HBS := Lib.hid hbs
      have HMK := Lib.hid hmk
      clear hsl hxr hpre hx hbw hbl hbs hmk
      rw [hm1]
      gi_wp2
      refine hR.mono ?_
      rintro e W3 (⟨rfl, hJ3, hk3⟩ | ⟨rfl, hJx3⟩)
      · gi_wp2
        go_roundw
        case rel => exact ⟨m, pre ++ [((m : Int), x)], by rw [List.length_append]; have := HMK.out; simp; omega, by go_num, by rw [List.length_append]; exact HXR.out, hJ3, HBW.out.trans hk3.1, by have := hk3.1.size; have := hk3.2.1; omega, hk3.2.2.trans HBS.out⟩
        case measure => simp [intOf]
      · gi_wp2
        refine bodyPost_ret (results_none rfl _ _ _) rfl ?_
        exact ⟨⟨_, rfl⟩, .inr ⟨_, trivial, hJx3⟩⟩

/-- slices.Backward's value: all of them, from the last one on. -/
theorem Backw_stops (F : Fence) (n : Nat) (hF : F.fn 39) (hro : F.round = none) (hn : 1 ≤ n) (Bs n₀ len cap : Nat) (A : Option Addr) (zs : List Si) (hlen : zs.length = len) (hmax : len ≤ 1000000) (w : World) (hBs : Bs < w.heap.size) (hn₀ : n₀ ≤ w.heap.size)
    (hc : w.cell? ⟨Bs, 0, none⟩ = some (.slice A len cap)) (hs : Lo w n₀ 3 (.slice A len cap) len (zs.flatMap sC)) :
    SeqStopsK F n Try.prog 39 #[.pointer (some ⟨Bs, 0, none⟩)] encB (BackK n₀ Bs) (fun ys => sitesOf ys = zs.reverse) (fun _ => True) len w := fun l J Jx W hW _ _ hY h0 =>
  Backw1_in F n hF hro hn l Bs n₀ len cap A zs hlen hmax J Jx hY W ((hW.cell (p := ⟨Bs, 0, none⟩) hBs).trans hc) (hs.keep fun g cs e fz hg hh => (hW.block g (Nat.lt_of_lt_of_le hg hn₀)).trans hh) h0

set_option maxHeartbeats 1000000 in
theorem Backw_in (F : Fence) (n : Nat) (hF : F.fn 28) (hro : F.round = none) (a : Option Addr) (len cap : Nat) (w : World) :
    CallsIn F n Try.prog 28 #[.slice a len cap] w fun e w' => e = .returned (.func (.func 39) #[] #[.pointer (some ⟨w.heap.size, 0, none⟩)]) ∧ w' = w.alloc (.cells #[.slice a len cap] 37) := by
  refine callsIn_of_wp Try.func28 rfl hF ?_ hro
  simp only [Try.ntmps28, List.size_toArray, List.length_cons, List.length_nil, Nat.reduceAdd, Nat.reduceSub, Array.replicate_succ, Array.replicate_zero, List.push_toArray, List.append_toArray, List.nil_append, List.cons_append]
  gi_wp2
  go_ret
  exact ⟨rfl, rfl⟩
theorem backK_t {n Bs : Nat} {A B C : World} (h : BackK n Bs A B) (k : BackK n Bs B C) : BackK n Bs A C := ⟨h.1.trans k.1, h.2.1, k.2.2.trans h.2.2⟩
theorem backK_b {n Bs : Nat} {w : World} (hn : n ≤ w.heap.size) (hB : Bs < w.heap.size) (W : World) (l : Nat) (o o' : Obj) (hl : w.heap.size ≤ l) (h : W.heap[l]? = some o) (h1 : o.isCells = false) (h2 : o.isWalk = false) : BackK n Bs W (W.putObj l o') :=
  ⟨belowK_b hn W l o o' hl h h1 h2, by have := lt_of_heap h; omega, World.putObj_heap_other (by omega)⟩
end Go.Proofs.Ytjdjfikeiphgpaa

/- A map with int keys that reads as a list of pairs, in the words that the library's contracts on maps.Keys want; its keys, sorted. No program is named · A pool as it lies in memory · A pool's ids; Next; Conn · A pool's events of what comes of nothing. -/
import Derived.Test.YtfnjoceolcdeoaaGreatDoorMr02
import Derived.Maps.Own
import Derived.Shelf.SlIterI.Sorted
import Derived.Test.YtfnjoceolcdeoaaGreatDoorMr15
import Derived.Test.YtfnjoceolcdeoaaGreatDoorMr17
import Derived.BigQuiet
import Derived.Deep.LoopGhost
namespace Go.Proofs.YtfnjoceolcdeoaaGreatDoor
set_option linter.unusedVariables false
open Go.RowKit Go.MapKept
open Go.WideElems (Fit rd rg)

theorem KMap.owns {H β : Type} {val : β → Value} {w : World} {m : Nat} {L : List (Int × β)} {P : Program} {k : TypeId} (h : KMap (.int .i64) (Value.int .i64) val w m L) (hk : P.underlying k = some (.int .i64))
    (hwf : ∀ p ∈ L, (Lit.int .i64 p.1).wf = true) (hsz : L.length ≤ maxLen) :
    ∃ D0 : DataW H, w.ownsMap P k (fun _ => some (.nil, [])) m L.length D0 ∧ (intKeys D0).Perm (L.map (·.1)) ∧ Maps.size D0 = L.length := by
  obtain ⟨es, ck, hh, hst, hL⟩ := h
  have hlen : es.toList.length = L.length := by simpa using congrArg List.length hL
  have hkey : ∀ x ∈ es.toList, ∃ p ∈ L, x.key = .int .i64 p.1 := by
    intro x hx
    have : (x.key, x.val) ∈ L.map (fun p => (Value.int .i64 p.1, val p.2)) := by rw [← hL]; exact List.mem_map.2 ⟨x, hx, rfl⟩
    obtain ⟨p, hp, e⟩ := List.mem_map.1 this
    injection e with e1 _
    exact ⟨p, hp, e1.symm⟩
  have hrd : ∀ x ∈ es.toList, ∃ n, x.key = .int .i64 n ∧ rd (H := H) P k (fun _ => some (.nil, [])) x = some (.int .i64 n, .nil) := by
    intro x hx
    obtain ⟨p, hp, e⟩ := hkey x hx
    refine ⟨p.1, e, ?_⟩
    unfold rd
    rw [e, Maps.keyOf_int_mk hk (hwf p hp)]
    rfl
  refine ⟨.map ((es.toList.map (rg P k (fun _ => some (.nil, [])))).foldr DataW.insert []), ⟨es, ck, hh, ⟨by rw [← Array.length_toList, hlen]; exact hsz, hst, fun x hx => ?_⟩, by rw [← Array.length_toList, hlen]; exact Nat.le_refl _, rfl⟩, ?_, ?_⟩
  · obtain ⟨n, _, e⟩ := hrd x hx; exact ⟨_, e⟩
  · have hp := (Go.WideShapes.sorted_perm (es.toList.map (rg (H := H) P k (fun _ => some (.nil, []))))).map (fun p => Go.intOf p.1)
    refine (show (intKeys (DataW.map _)).Perm _ from hp).trans (List.Perm.of_eq ?_)
    rw [List.map_map]
    have e1 : es.toList.map ((fun p => Go.intOf p.1) ∘ rg (H := H) P k (fun _ => some (.nil, []))) = es.toList.map (fun x => RowKit.intOf x.key) := by
      apply List.map_congr_left
      intro x hx
      obtain ⟨n, e2, e3⟩ := hrd x hx
      simp only [Function.comp, rg, e3, Option.getD_some, e2]
      rfl
    rw [e1]
    have := congrArg (List.map (fun q : Value × Value => RowKit.intOf q.1)) hL
    rw [List.map_map, List.map_map] at this
    exact this
  · rw [Maps.size_eq, Go.length_sorted, List.length_map, hlen]

/-- Ascending keys stay as they are. -/
theorem sorted_keys {l : List Int} (h : l.Pairwise (· < ·)) : l.mergeSort leI = l := by
  apply List.mergeSort_of_pairwise
  exact h.imp fun hab => by simp only [leI, decide_eq_true_eq]; omega
end Go.Proofs.YtfnjoceolcdeoaaGreatDoor
namespace Go.Proofs.YtfnjoceolcdeoaaGreatDoor
set_option linter.unusedVariables false
open Go.RowKit

/-- A connection, and the blocks that are its own. -/
structure CN where
  lo : Nat
  hi : Nat
  c : Nat
  x : XC
def cnV (q : CN) : Value := .pointer (some ⟨q.c, 0, none⟩)
abbrev CMap := KMap (β := CN) (.int .i64) (Value.int .i64) cnV
theorem imcM : Tryz.prog.underlying 76 = some (.map 3 71) := by kernel_rfl
/-- A pool's config and what it is about. -/
structure XP where
  core : Int
  most : Int
  base : Nat
  longest : Nat
  percent : Nat
  st : Int
  ks : ByteArray
  hs : Nat
  idle : Nat
  beat : Nat
  orph : Int
  opened : Int
  wanted : Int
  failed : Nat
  next : Nat
  stopped : Bool
def XP.C (x : XP) (m : Nat) : Array Value := #[.int .i64 x.core, .int .i64 x.most, .int .u64 x.base, .int .u64 x.longest, .int .u64 x.percent, .int .i64 x.st, .string x.ks, .slice none 0 0, .slice none 0 0, .int .u64 x.hs, .int .u64 x.idle, .int .u64 x.beat, .int .i64 x.orph, .map (some m), .int .i64 x.opened, .int .i64 x.wanted, .int .u64 x.failed, .int .u64 x.next, .bool x.stopped]
def GLow (k : Nat) : Prop := 3 < k ∧ 2 < k
structure PoolAt (w : World) (p m : Nat) (x : XP) (L : List (Int × CN)) : Prop where
  blk : Blk w p 78 (x.C m)
  map : CMap w m L
  con : ∀ q ∈ L, ConnAt w q.2.lo q.2.hi q.2.c q.2.x
  low : ∀ q ∈ L, p < q.2.lo ∧ m < q.2.lo
  dis : L.Pairwise fun a b => a.2.hi ≤ b.2.lo
  asc : (L.map (·.1)).Pairwise (· < ·)
  rng : ∀ q ∈ L, 0 ≤ q.1 ∧ q.1 < x.opened
  few : x.opened ≤ 1000000 ∧ L.length ≤ 1000000
  glp : GLow p
  glm : GLow m
  mxl : MaxL w
  tab : Tab w
/-- The blocks that are a pool's own. -/
def poolS (p m : Nat) (L : List (Int × CN)) : Nat → Prop := fun k => k = p ∨ k = m ∨ ∃ q ∈ L, q.2.lo ≤ k ∧ k < q.2.hi
section
variable {w w' : World} {p m : Nat} {x : XP} {L : List (Int × CN)} {S : Nat → Prop}
theorem PoolAt.kept (h : PoolAt w p m x L) (hk : Kept S w w') (hS : ∀ k, S k → ¬ poolS p m L k) (hG : ¬ S 3 ∧ ¬ S 2) : PoolAt w' p m x L :=
  ⟨h.blk.kept hk fun e => hS _ e (.inl rfl), h.map.kept hk fun e => hS _ e (.inr (.inl rfl)), fun q hq => (h.con q hq).kept hk fun k e e2 => hS k e (.inr (.inr ⟨q, hq, e2⟩)), h.low, h.dis, h.asc, h.rng, h.few, h.glp, h.glm, h.mxl.kept hk hG.1, h.tab.kept hk hG.2⟩
theorem PoolAt.keptN (h : PoolAt w p m x L) (hk : Kept noBlock w w') : PoolAt w' p m x L := h.kept hk (fun _ e => e.elim) ⟨fun e => e, fun e => e⟩
theorem PoolAt.ne (h : PoolAt w p m x L) : p ≠ m := (h.map.ne_blk h.blk)
theorem PoolAt.hiLt (h : PoolAt w p m x L) {q : Int × CN} (hq : q ∈ L) : q.2.hi ≤ w.heap.size := (h.con q hq).rc.2.2
theorem poolS_lt (h : PoolAt w p m x L) {k : Nat} (hk : poolS p m L k) : k < w.heap.size := by
  rcases hk with rfl | rfl | ⟨q, hq, h1, h2⟩
  · exact h.blk.lt
  · exact h.map.lt
  · have := h.hiLt hq; omega
end

theorem sorts_in (m : Nat) : AnyZI.SortsIn Tryz.prog Tryz.sortedA_ren Fence.wide m :=
  ⟨fun blk off cap ss W hH hblk hsz => callsIn_wide.2 (AnyM.slices_Sort_int Tryz.sortA blk off cap ss W hH hblk hsz),
   fun p cap W => callsIn_wide.2 (AnyM.slices_Sort_int_none Tryz.sortA p cap W)⟩
end Go.Proofs.YtfnjoceolcdeoaaGreatDoor
namespace Go.Proofs.YtfnjoceolcdeoaaGreatDoor
set_option linter.unusedVariables false
open Go.RowKit Go.Maps Go.Sort Go.Shelf

/-- maps.Keys: a function that gives the keys. -/
theorem KeysC_at (mb : Option Nat) (W : World) : Calls Tryz.prog 41 #[.map mb] W fun e w' => e = .returned (.func (.func 60) #[] #[.pointer (some ⟨W.heap.size, 0, none⟩)]) ∧ w' = W.alloc (.cells #[.map mb] 76) :=
  (callsIn_wide (n := 5)).1 (AnyZI.keys_in Tryz.keysA Fence.wide 5 trivial rfl mb W)

/-- slices.Sorted of it: the keys, ascending, in a row of the call's own. -/
theorem SortedC_at {H : Type} (b nn : Nat) (D0 : DataW H) (R : Value → Option (DataW H × List MemPlace)) (w : World) (hown : w.ownsMap Tryz.prog 3 R b nn D0) (hmax : Maps.size D0 ≤ maxLen) (hbytes : Maps.size D0 * 8 ≤ 140737488355328) :
    Calls Tryz.prog 40 #[.func (.func 60) #[] #[.pointer (some ⟨w.heap.size, 0, none⟩)]] (w.alloc (.cells #[.map (some b)] 76)) fun e w' => ∃ (v : Value) (ss : List Int), e = .returned v ∧ ss.Perm (intKeys D0) ∧
      w'.ownsRow (w.heap.size + 1) 3 1 v ss.length ((ss.mergeSort (fun x y => decide (x ≤ y))).map encZ) ∧ (v = .slice none 0 0 ↔ ss = []) ∧ Below (w.heap.size + 1) (w.alloc (.cells #[.map (some b)] 76)) w' := by
  have hbl := hown.lt
  have hseq : SeqGives Fence.wide 2 Tryz.prog 60 #[.pointer (some ⟨w.heap.size, 0, none⟩)] encZ (fun ss => ss.Perm (intKeys D0)) (Maps.size D0) (w.alloc (.cells #[.map (some b)] 76)) :=
    AnyZI.keys_gives (ρ := Tryz.keysA_ren) { Tryz.keysA with } Fence.wide _ trivial rfl (by omega) w.heap.size b nn D0 _ (by simp) (by simp) (by
      obtain ⟨es, clock, hb, Ft, hs, hD⟩ := hown
      exact ⟨es, clock, (Below.heap_alloc _ _ b hbl).trans hb, Ft, hs, hD⟩)
  have cS := AnyZI.sorted_in Tryz.sortedA Fence.wide 5 trivial trivial trivial trivial rfl (by omega) (sorts_in _) (enters_of Tryz.func59 (by kernel_rfl) rfl) 60 #[.pointer (some ⟨w.heap.size, 0, none⟩)] trivial (enters_of Tryz.func60 (by kernel_rfl) rfl) _ _ hmax hbytes _ hseq
  change CallsIn _ _ Tryz.prog 40 _ _ _ at cS
  refine ((callsIn_wide).1 cS).mono ?_
  rintro e w' ⟨v, ss, rfl, hS, hrow, hnil, hb⟩
  rw [sz_alloc] at hrow hb
  exact ⟨v, ss, rfl, hS, hrow, hnil, hb⟩


theorem wf_of {n : Int} (h0 : 0 ≤ n) (h1 : n < 4611686018427387904) : (Lit.int .i64 n).wf = true := WalkArith.wf_i64 (by omega)
set_option maxHeartbeats 1000000 in
set_option maxRecDepth 100000 in
theorem poIds_at {w : World} {p m : Nat} {x : XP} {L : List (Int × CN)} (h : PoolAt w p m x L) :
    Calls Tryz.prog 21 #[.pointer (some ⟨p, 0, none⟩)] w fun e w' => ∃ A n c, e = .returned (.slice A n c) ∧ n = L.length ∧ Sl w' 3 1 (.slice A n c) n (L.map fun q => Value.int .i64 q.1) ∧ Kept noBlock w w' := by
  have hfew := h.few
  obtain ⟨D0, hown, hperm, hsz⟩ := h.map.owns (H := Unit) (P := Tryz.prog) (k := 3) Tryz.underlying3 (fun q hq => wf_of (h.rng q hq).1 (by have := (h.rng q hq).2; omega)) (by unfold maxLen; omega)
  have CS := Lib.hid (SortedC_at m _ D0 _ w hown (by rw [hsz]; unfold maxLen; omega) (by rw [hsz]; omega))
  have c13 : w.cell? ⟨p, 13, none⟩ = some (.map (some m)) := h.blk.cell 13
  have HP := Lib.hid hperm
  have HASC := Lib.hid h.asc
  clear hown hperm hsz h
  go_enter Tryz.func21, Tryz.ntmps21
  go_wp2_with (first
    | (go_at_call 41; refine (KeysC_at _ _).mono ?_; rintro e w' ⟨rfl, rfl⟩)
    | (go_at_call 40; refine CS.out.mono ?_; rintro e w' ⟨v, ss, rfl, hS, hrow, hnil, hbl⟩))
  go_ret
  have hp2 := hS.trans HP.out
  have e1 : ss.mergeSort leI = L.map (·.1) := (mergeSort_of_perm_i hp2).trans (sorted_keys HASC.out)
  have e2 : ss.length = L.length := by simpa using hp2.length_eq
  have e3 : (ss.mergeSort (fun x y => decide (x ≤ y))).map encZ = L.map fun q => Value.int .i64 q.1 := by
    rw [show ss.mergeSort (fun x y => decide (x ≤ y)) = L.map (·.1) from e1, List.map_map]; rfl
  rw [e2, e3] at hrow
  obtain ⟨A, c, rfl, -, -⟩ := (Sl.of_own hrow).shape
  exact ⟨A, L.length, c, rfl, rfl, Sl.of_own hrow, ((Kept.refl noBlock w).alloc _).trans (T := noBlock) ⟨hbl.os, hbl.tape, hbl.output, hbl.size, fun k hk _ => hbl.block k (by rw [sz_alloc] at hk; exact hk)⟩ (fun _ _ h => h)⟩

set_option maxHeartbeats 1000000 in
set_option maxRecDepth 100000 in
theorem poNext_at {w : World} {p m : Nat} {x : XP} {L : List (Int × CN)} (h : PoolAt w p m x L) :
    Calls Tryz.prog 13 #[.pointer (some ⟨p, 0, none⟩)] w fun e w' => e = .returned (.tuple #[.int .u64 x.next, .int .u64 x.failed]) ∧ Kept noBlock w w' := by
  have c16 : w.cell? ⟨p, 16, none⟩ = some (.int .u64 x.failed) := h.blk.cell 16
  have c17 : w.cell? ⟨p, 17, none⟩ = some (.int .u64 x.next) := h.blk.cell 17
  clear h
  go_enter Tryz.func13, Tryz.ntmps13
  go_wp2
  go_quiet (fail)
  go_wp2
  go_ret2
  exact ⟨rfl, (Kept.refl _ _).drewN _⟩

theorem zero_ptr (w : World) : (zeroValue 71).run Tryz.prog w = .ok (.pointer none) w := Tryz.zeroValue71 w
set_option maxHeartbeats 1000000 in
set_option maxRecDepth 100000 in
theorem poConn_at {w : World} {p m : Nat} {x : XP} {L : List (Int × CN)} (h : PoolAt w p m x L) (id : Int) :
    Calls Tryz.prog 19 #[.pointer (some ⟨p, 0, none⟩), .int .i64 id] w fun e w' => e = .returned (((aget id L).map cnV).getD (.pointer none)) ∧ w = w' := by
  have c13 : w.cell? ⟨p, 13, none⟩ = some (.map (some m)) := h.blk.cell 13
  have hl := h.map.run_lookup i64K imcM intU (zero_ptr w) id false
  simp only [Bool.false_eq_true, if_false] at hl
  clear h
  go_enter Tryz.func19, Tryz.ntmps19
  go_wp2
  go_ret
  exact ⟨rfl, rfl⟩
set_option maxHeartbeats 1000000 in
set_option maxRecDepth 100000 in
theorem cnState_at {w : World} {lo hi c : Nat} {x : XC} (h : ConnAt w lo hi c x) :
    Calls Tryz.prog 30 #[.pointer (some ⟨c, 0, none⟩)] w fun e w' => e = .returned (.tuple #[.int .i64 x.state, .bool x.drain]) ∧ Kept noBlock w w' := by
  obtain ⟨gs, g, m1, m2, mo, h⟩ := h
  have c8 : w.cell? ⟨c, 8, none⟩ = some (.int .i64 x.state) := h.blk.cell 8
  have c18 : w.cell? ⟨c, 18, none⟩ = some (.bool x.drain) := h.blk.cell 18
  clear h
  go_enter Tryz.func30, Tryz.ntmps30
  go_wp2
  go_quiet (fail)
  go_wp2
  go_ret2
  exact ⟨rfl, (Kept.refl _ _).drewN _⟩
end Go.Proofs.YtfnjoceolcdeoaaGreatDoor
namespace Go.Proofs.YtfnjoceolcdeoaaGreatDoor
set_option linter.unusedVariables false
open Go.RowKit

set_option maxHeartbeats 2000000 in
set_option maxRecDepth 100000 in
theorem poEvents_none (p : Nat) (id : Int) (now draw : Int) (w : World) :
    Calls Tryz.prog 22 #[.pointer (some ⟨p, 0, none⟩), .int .i64 id, outV none 0 0 (.slice none 0 0) (.slice none 0 0) false 0 (.slice none 0 0), .int .u64 now, .int .u64 draw] w fun e w' => e = .returned (.slice none 0 0) ∧ Kept noBlock w w' := by
  unfold outV
  have HB0 := Lib.hid (Blk.new w 84 #[.slice none 0 0, .slice none 0 0, .slice none 0 0, .bool false, .int .i64 0, .slice none 0 0])
  have HK0 := Lib.hid ((Kept.refl noBlock w).alloc (.cells #[.slice none 0 0, .slice none 0 0, .slice none 0 0, .bool false, .int .i64 0, .slice none 0 0] 84))
  go_enter Tryz.func22, Tryz.ntmps22
  go_wp2_with fail
  generalize hw1 : w.alloc (.cells #[.slice none 0 0, .slice none 0 0, .slice none 0 0, .bool false, .int .i64 0, .slice none 0 0] 84) = w1 at *
  clear hw1
  obtain ⟨z0, z1, z2, z3, z4, z5⟩ := cells6o HB0.out
  go_loopg [11, 30] 0 (fun j v11 v30 wr => v11 = .slice none 0 0 ∧ v30 = .int .i64 0 ∧ wr = w1)
  case atStart => exact ⟨rfl, rfl, rfl⟩
  case round =>
    obtain ⟨rfl, rfl, hwr⟩ := hrel
    rw [hwr]
    clear hwr
    go_wp2_with fail
    go_loopg [11, 44] 0 (fun j v11 v44 wx => v11 = .slice none 0 0 ∧ v44 = .int .i64 0 ∧ wx = w1)
    case atStart => exact ⟨rfl, rfl, rfl⟩
    case round =>
      obtain ⟨rfl, rfl, hwx⟩ := hrel
      rw [hwx]
      clear hwx
      go_wp2
      go_ret
      exact ⟨rfl, HK0.out⟩
end Go.Proofs.YtfnjoceolcdeoaaGreatDoor

/- Rows of events: how they are read, and kept · A pool as it begins · A pool's Live, while none of its connections is open. -/
import Derived.Test.YtfnjoceolcdeoaaGreatDoorMr22
import Derived.Test.YtfnjoceolcdeoaaGreatDoorMr18
import Derived.Laws.IdiomRangeMap
import Derived.Maps.RangeRun
namespace Go.Proofs.YtfnjoceolcdeoaaGreatDoor
set_option linter.unusedVariables false
open Go.RowKit

/-- A row of events stays, whatever a pool does with its own. -/
theorem evs_kept {w w' : World} {p m B : Nat} {L N : List (Int × CN)} {v : Value} {n : Nat} {xs : List Value} (h : SlK w (fun g _ => B ≤ g ∧ ∀ r ∈ N, ¬ (r.2.lo ≤ g ∧ g < r.2.hi)) 21 v n xs) (hk : Kept (poolS p m L) w w') (hp : p < B) (hm : m < B) (hL : ∀ q ∈ L, q ∈ N ∨ q.2.hi ≤ B) : SlK w' (fun g _ => B ≤ g ∧ ∀ r ∈ N, ¬ (r.2.lo ≤ g ∧ g < r.2.hi)) 21 v n xs :=
  h.keptAll hk fun g _ hg e => by
    rcases e with e | e | ⟨q, hq, h1, h2⟩
    · omega
    · omega
    · rcases hL q hq with h3 | h3
      · exact hg.2 q h3 ⟨h1, h2⟩
      · omega
theorem ev_at {w : World} {ok : Nat → TypeId → Prop} {v : Value} {n : Nat} {E : List (List Value)} (h : SlK w ok 21 v n E.flatten) (hE : E.length = n) (hl : ∀ l ∈ E, l.length = 21) {i : Nat} {id kind why : Int} {wv ls : Value} (hi : E[i]? = some (evC id kind wv why ls)) :
    ∃ g off, (∀ kd w', (Instr.indexAt 36 v (.int kd (i : Int))).run Tryz.prog w' = .ok (.pointer (some ⟨g, off, none⟩)) w') ∧ w.cell? ⟨g, off, none⟩ = some (.int .i64 id) ∧ w.cell? ⟨g, off + 1, none⟩ = some (.int .i64 kind) ∧ w.cell? ⟨g, off + 19, none⟩ = some (.int .i64 why) := by
  have hlt : i < n := by have := (List.getElem?_eq_some_iff.1 hi).1; omega
  obtain ⟨g, off, h1, -, -, h3⟩ := h.run_index evT (i := (i : Int)) (k := i) rfl hlt
  have hfl : ∀ (E : List (List Value)) (i j : Nat) (l : List Value) (u : Value), (∀ l ∈ E, l.length = 21) → E[i]? = some l → l[j]? = some u → E.flatten[i * 21 + j]? = some u := by
    intro E
    induction E with
    | nil => intro i j l u _ h; simp at h
    | cons a t ih =>
      intro i j l u hl h hj
      have ha : a.length = 21 := hl a (.head _)
      cases i with
      | zero =>
        simp only [List.getElem?_cons_zero, Option.some.injEq] at h
        subst h
        have hjl := (List.getElem?_eq_some_iff.1 hj).1
        rw [List.flatten_cons, Nat.zero_mul, Nat.zero_add, List.getElem?_append_left hjl]
        exact hj
      | succ i =>
        rw [List.getElem?_cons_succ] at h
        rw [List.flatten_cons, List.getElem?_append_right (by omega), show (i + 1) * 21 + j - a.length = i * 21 + j by omega]
        exact ih i j l u (fun l hm => hl l (.tail _ hm)) h hj
  exact ⟨g, off, h1, h3 0 _ (hfl E i 0 _ _ hl hi rfl), h3 1 _ (hfl E i 1 _ _ hl hi rfl), h3 19 _ (hfl E i 19 _ _ hl hi rfl)⟩
theorem pool_zero {w : World} {p m : Nat} {x : XP} {L : List (Int × CN)} (h : PoolAt w p m { x with opened := x.opened + ((0 : Nat) : Int) } (L ++ [])) : PoolAt w p m x L := by
  have e : ({ x with opened := x.opened + ((0 : Nat) : Int) } : XP) = x := by
    have : x.opened + ((0 : Nat) : Int) = x.opened := by omega
    rw [this]
  rw [e, List.append_nil] at h
  exact h
end Go.Proofs.YtfnjoceolcdeoaaGreatDoor
namespace Go.Proofs.YtfnjoceolcdeoaaGreatDoor
set_option linter.unusedVariables false
open Go.RowKit

/-- A pool that was made of a config. -/
def XP.fresh (core most : Int) (base longest percent : Nat) (st : Int) (ks : ByteArray) (hs idle beat : Nat) (orph : Int) : XP := ⟨core, most, base, longest, percent, st, ks, hs, idle, beat, orph, 0, core, 0, 0, false⟩
def poCfgC (core most : Int) (base longest percent : Nat) (st : Int) (ks : ByteArray) (hs idle beat : Nat) (orph : Int) : Array Value := #[.int .i64 core, .int .i64 most, .int .u64 base, .int .u64 longest, .int .u64 percent, .int .i64 st, .string ks, .slice none 0 0, .slice none 0 0, .int .u64 hs, .int .u64 idle, .int .u64 beat, .int .i64 orph]
theorem MaxL.pos {w : World} (h : MaxL w) : 3 < w.heap.size := by
  obtain ⟨m, hm⟩ := h
  unfold World.cell? at hm
  rcases Nat.lt_or_ge 3 w.heap.size with hlt | hge
  · exact hlt
  · rw [Array.getElem?_eq_none hge] at hm; cases hm
def PoNewPost (w : World) (x : XP) (e : Ending) (w' : World) : Prop := ∃ p m, e = .returned (.tuple #[.pointer (some ⟨p, 0, none⟩), .int .i64 0]) ∧ PoolAt w' p m x [] ∧ Kept noBlock w w' ∧ w.heap.size ≤ p ∧ w.heap.size ≤ m
set_option maxHeartbeats 4000000 in
set_option maxRecDepth 100000 in
theorem poNew_at {w : World} (core most : Int) (h1 : 0 ≤ core) (h2 : core ≤ most) (h3 : most ≤ 1000) (base longest percent : Nat) (st : Int) (s1 : 1 ≤ st) (s2 : st ≤ 32768) (ks : ByteArray) (hk : ksOk ks) (hs idle beat : Nat) (hhs : hs < 18446744073709551616) (orph : Int) (ho : 1 ≤ orph) (hm : MaxL w) (hT : Tab w) :
    Calls Tryz.prog 9 #[.agg (poCfgC core most base longest percent st ks hs idle beat orph)] w (PoNewPost w (XP.fresh core most base longest percent st ks hs idle beat orph)) := by
  have HGL : Hid (GLow w.heap.size) := Lib.hid ⟨hm.pos, hT.pos⟩
  have hmm := @run_makeMap Tryz.prog
  have HB0 := Lib.hid (Blk.new w 35 (poCfgC core most base longest percent st ks hs idle beat orph))
  have HK0 := Lib.hid ((Kept.refl noBlock w).alloc (.cells (poCfgC core most base longest percent st ks hs idle beat orph) 35))
  have HM := Lib.hid hm
  have HT := Lib.hid hT
  unfold poCfgC at HB0 HK0 ⊢
  clear hm hT
  go_enter Tryz.func9, Tryz.ntmps9
  go_wp2_with fail
  generalize hw0 : w.alloc (.cells #[.int .i64 core, .int .i64 most, .int .u64 base, .int .u64 longest, .int .u64 percent, .int .i64 st, .string ks, .slice none 0 0, .slice none 0 0, .int .u64 hs, .int .u64 idle, .int .u64 beat, .int .i64 orph] 35) = w0 at *
  generalize hg : w.heap.size = g at *
  clear hw0
  have HNEW := Lib.hid (cnNew_nil (w := w0) st s1 s2 ks hk hs idle beat hhs orph ho 0 (by decide) (HM.out.keptN HK0.out) (HT.out.kept HK0.out (fun e => e)))
  unfold cfgC at HNEW
  go_at_call 20
  refine HNEW.out.mono ?_
  rintro e w3 ⟨lo, hi, c9, A9, n9, k9, rfl, hc3, hlo, hn9, hs3, hk3⟩
  have hb3 := HB0.out.kept hk3 (fun e => e)
  have b0 := hb3.cell 0
  have b1 := hb3.cell 1
  have b2 := hb3.cell 2
  have b3 := hb3.cell 3
  have b4 := hb3.cell 4
  have b5 := hb3.cell 5
  have b6 := hb3.cell 6
  have b7 := hb3.cell 7
  have b8 := hb3.cell 8
  have b9 := hb3.cell 9
  have b10 := hb3.cell 10
  have b11 := hb3.cell 11
  have b12 := hb3.cell 12
  simp only [List.getElem?_toArray, List.getElem?_cons_zero, List.getElem?_cons_succ] at b0 b1 b2 b3 b4 b5 b6 b7 b8 b9 b10 b11 b12
  have HK3 := Lib.hid (HK0.out.trans hk3 fun _ _ e => e)
  have bb : (w3.alloc (.map #[] 0)).cell? ⟨g, 0, none⟩ = some (.int .i64 core) := (hb3.alloc (.map #[] 0)).cell 0
  clear hc3 hlo hn9 hs3 hk3 hb3
  go_wp2_with fail
  go_ret2
  have hkf := (HK3.out.alloc (.map #[] 0)).alloc (.cells #[.int .i64 core, .int .i64 most, .int .u64 base, .int .u64 longest, .int .u64 percent, .int .i64 st, .string ks, .slice none 0 0, .slice none 0 0, .int .u64 hs, .int .u64 idle, .int .u64 beat, .int .i64 orph, .map (some w3.heap.size), .int .i64 0, .int .i64 core, .int .u64 0, .int .u64 0, .bool false] 78)
  have hsz := HK3.out.size
  have hgl := HGL.out
  refine ⟨w3.heap.size + 1, w3.heap.size, rfl, ⟨Blk.new_at _ _ _ (by rw [sz_alloc]), (KMap.new w3).alloc _, fun _ hq => absurd hq List.not_mem_nil, fun _ hq => absurd hq List.not_mem_nil, List.Pairwise.nil, List.Pairwise.nil, fun _ hq => absurd hq List.not_mem_nil, ⟨by show (0 : Int) ≤ 1000000; decide, by simp⟩, ⟨by have := hgl.1; omega, by have := hgl.2; omega⟩, ⟨by have := hgl.1; omega, by have := hgl.2; omega⟩, HM.out.keptN hkf, HT.out.kept hkf (fun e => e)⟩, hkf, by omega, by omega⟩
end Go.Proofs.YtfnjoceolcdeoaaGreatDoor
namespace Go.Proofs.YtfnjoceolcdeoaaGreatDoor
set_option linter.unusedVariables false
open Go.RowKit
open Go.ChangeMaps (setBlock)

theorem iterSeen_eqP {w : World} {r : Nat} {a : Option Nat} {b c : Nat} {s : Array Nat} (h : w.heap[r]? = some (.mapIter a b s c)) : w.iterSeen r = s := by
  unfold World.iterSeen; rw [h]
theorem heap_setBlock_selfP {w : World} {r : Nat} (h : r < w.heap.size) (o : Obj) : (setBlock w r o).heap[r]? = some o := by
  simp [setBlock, h]
set_option maxHeartbeats 4000000 in
set_option maxRecDepth 100000 in
theorem poLive_none {w : World} {p m : Nat} {x : XP} {L : List (Int × CN)} (h : PoolAt w p m x L) (hn : ∀ q ∈ L, q.2.x.state ≠ 6) :
    Calls Tryz.prog 16 #[.pointer (some ⟨p, 0, none⟩)] w fun e w' => ∃ A n c, e = .returned (.tuple #[.slice A n c, .int .i64 0]) ∧ n = L.length ∧ Sl w' 3 1 (.slice A n c) n (L.map fun q => Value.int .i64 q.1) ∧ Kept noBlock w w' := by
  have c13 : w.cell? ⟨p, 13, none⟩ = some (.map (some m)) := h.blk.cell 13
  obtain ⟨es, ck, hh, hst, hL⟩ := id h.map
  have hlt := lt_of_heap hh
  have hrg := run_range_map (P := Tryz.prog) w 76 3 71 m es ck imcM hh
  have H := Lib.hid h
  have HL := Lib.hid hL
  have HST := Lib.hid hst
  clear hL hst h
  go_enter Tryz.func16, Tryz.ntmps16
  go_wp2
  generalize hR : w.heap.size = R at *
  go_loopw [4] (fun v4 wr => v4 = .int .i64 0 ∧ Kept noBlock w wr ∧ ∃ seen c0, wr.heap[R]? = some (.mapIter (some m) ck seen c0) ∧ ck ≤ c0) (fun _ wr => (leftOf es (wr.iterSeen R)).size)
  case atStart => exact ⟨rfl, (Kept.refl _ _).alloc _, #[], ck, by subst hR; exact heap_alloc_new w _, Nat.le_refl _⟩
  case round =>
    obtain ⟨rfl, hk, seen, c0, hr, hc0⟩ := hrel
    have hb1 : wr.heap[m]? = some (.map es ck) := (hk.block m (by rw [hR]; exact hlt) (fun h => h)).trans hh
    have law := run_next_at (P := Tryz.prog) wr 0 R m ck c0 seen es ck hr hb1 HST.out.1 hc0
    have HK := Lib.hid hk
    rcases law with ⟨h0, hrun⟩ | ⟨e, he, w1, hw1, hrun⟩
    · have hnx : ∀ ty, (Instr.next (.pointer (some ⟨R, 0, none⟩)) false ty).run Tryz.prog wr = _ := fun _ => hrun
      have HI := Lib.hid (poIds_at (H.out.keptN hk))
      clear hk hr hb1 hrg c13
      go_wp2_with fail
      go_at_call 21
      refine HI.out.mono ?_
      rintro e w5 ⟨A, n, c, rfl, hn5, hs5, hk5⟩
      have HF : Hid (n = L.length ∧ Sl w5 3 1 (.slice A n c) n (L.map fun q => Value.int .i64 q.1) ∧ Kept noBlock w w5) := Lib.hid ⟨hn5, hs5, HK.out.trans hk5 fun _ _ e => e⟩
      clear hn5 hs5 hk5
      go_wp2
      go_ret2
      exact ⟨A, n, c, rfl, HF.out⟩
    · have hem := mem_left he
      obtain ⟨q, hq, hv⟩ : ∃ q ∈ L, e.val = cnV q.2 := by
        have : (e.key, e.val) ∈ L.map (fun q => (Value.int .i64 q.1, cnV q.2)) := HL.out ▸ List.mem_map.2 ⟨e, hem.1, rfl⟩
        obtain ⟨q, hq, e2⟩ := List.mem_map.1 this
        exact ⟨q, hq, (Prod.mk.inj e2).2.symm⟩
      unfold cnV at hv
      rw [hv] at hrun
      have hnx : ∀ ty, (Instr.next (.pointer (some ⟨R, 0, none⟩)) false ty).run Tryz.prog wr = _ := fun _ => hrun
      have hk1 : Kept noBlock w w1 := by
        rcases hw1 with rfl | rfl
        · exact hk
        · exact hk.drew
      have hr1 : w1.heap[R]? = some (.mapIter (some m) ck seen c0) := by rcases hw1 with rfl | rfl <;> exact hr
      have hk2 : Kept noBlock w (setBlock w1 R (.mapIter (some m) ck (seen.push e.born) ck)) := hk1.setBlock (fun h => absurd h (by rw [hR]; exact Nat.lt_irrefl _)) _
      have hr2 : (setBlock w1 R (.mapIter (some m) ck (seen.push e.born) ck)).heap[R]? = some (.mapIter (some m) ck (seen.push e.born) ck) := heap_setBlock_selfP (lt_of_heap hr1) _
      have hb2 := (hk2.block m (by rw [hR]; exact hlt) (fun h => h)).trans hh
      have hen := run_entry_at (P := Tryz.prog) (setBlock w1 R (.mapIter (some m) ck (seen.push e.born) ck)) R m ck seen es ck e hr2 hb2 hem.1 HST.out.2.1
      rw [hv] at hen
      have HK2 := Lib.hid hk2
      have HR2 := Lib.hid hr2
      have HR := Lib.hid hr
      clear hk hk1 hk2 hr1 hr2 hb2 hb1 hr hrg c13
      generalize setBlock w1 R (.mapIter (some m) ck (seen.push e.born) ck) = w2 at *
      have HS := Lib.hid (cnState_at ((H.out.keptN HK2.out).con q hq))
      have h6 : (q.2.x.state == 6) = false := by rw [beq_eq_false_iff_ne]; exact hn q hq
      generalize q.2.x.state = s6 at *
      generalize q.2.x.drain = d6 at *
      go_wp2_with fail
      go_at_call 30
      refine HS.out.mono ?_
      rintro e3 w5 ⟨rfl, hk5⟩
      have HK5 := Lib.hid hk5
      clear hk5
      go_wp2_with fail
      go_roundw
      case rel =>
        have hR5 : w5.heap[R]? = some (.mapIter (some m) ck (seen.push e.born) ck) := (HK5.out.block R (lt_of_heap HR2.out) (fun e => e)).trans HR2.out
        exact ⟨rfl, HK2.out.trans HK5.out fun _ _ e => e, seen.push e.born, ck, hR5, Nat.le_refl _⟩
      case measure =>
        have hR5 : w5.heap[R]? = some (.mapIter (some m) ck (seen.push e.born) ck) := (HK5.out.block R (lt_of_heap HR2.out) (fun e => e)).trans HR2.out
        rw [iterSeen_eqP hR5, iterSeen_eqP HR.out]
        exact left_shrinks es seen e he
end Go.Proofs.YtfnjoceolcdeoaaGreatDoor

/- A connection dies on which nothing is asked for · A connection's Close; Tick while nothing is due; State · conn.Config.body, of the states 3, 5. -/
import Derived.Test.YtfnjoceolcdeoaaGreatDoorMr14
import Derived.Test.YtfnjoceolcdeoaaGreatDoorPoShelf
import Derived.Laws.IdiomRangeMap
import Derived.Maps.RangeRun
import Derived.BigQuiet
import Derived.Test.YtfnjoceolcdeoaaGreatDoorMr09
namespace Go.Proofs.YtfnjoceolcdeoaaGreatDoor
set_option linter.unusedVariables false
open Go.RowKit
open Go.ChangeMaps (setBlock)

/-- A connection that is dead. -/
def XC.dead (x : XC) : XC := { x with state := 7, oth := none }
set_option maxHeartbeats 4000000 in
set_option maxRecDepth 100000 in
theorem cnDie_none {w : World} {lo hi c : Nat} {x : XC} (h : ConnAt w lo hi c x) (hs : x.state ≠ 7) (ho : x.oth = some []) {o B : Nat} {X : List UInt8} {an nt : Value} {rd : Bool} {dd : Int} (hO : OutAt w o B X an nt rd dd (.slice none 0 0)) (hoB : ¬ (lo ≤ o ∧ o < hi)) (hB : hi ≤ B) (why : Int) :
    Calls Tryz.prog 44 #[.pointer (some ⟨c, 0, none⟩), .int .i64 why, .pointer (some ⟨o, 0, none⟩)] w fun e w' => e = .returned (.tuple #[]) ∧ ConnAt w' lo hi c x.dead ∧ OutAt w' o B X an nt rd why (.slice none 0 0) ∧ Kept (outS lo hi o B) w w' := by
  obtain ⟨gs, g, m1, m2, mo, h⟩ := h
  obtain ⟨A, n, k, hn, hb, hr, hlt⟩ := hO
  have h7 : (x.state == 7) = false := by rw [beq_eq_false_iff_ne]; exact hs
  have c8 : w.cell? ⟨c, 8, none⟩ = some (.int .i64 x.state) := h.blk.cell 8
  have f8 := h.blk.frozen 8
  have hoc : o ≠ c := fun e => hoB (by rw [e]; exact h.rc)
  have h1 := h.setc 8 (.int .i64 7) { x with state := 7 } rfl rfl (fun _ e => e) rfl rfl
  have hk1 : Kept (outS lo hi o B) w (w.setCell ⟨c, 8, none⟩ (.int .i64 7)) := (Kept.refl _ w).setCell (p := ⟨c, 8, none⟩) (fun _ => .inl h.rc) _
  have hb1 := hb.far (p := ⟨c, 8, none⟩) hoc (.int .i64 7)
  have z4 := hb1.cell 4
  have g4 := hb1.frozen 4
  simp only [List.getElem?_toArray, List.getElem?_cons_zero, List.getElem?_cons_succ] at z4
  have hr1 : (w.setCell ⟨c, 8, none⟩ (.int .i64 7)).ownsRow B 5 1 (.slice A n k) n (Lib.byteCells X) := own_far hr h.blk (by decide) 8 _
  have hk2 := hk1.setCell (p := ⟨o, 4, none⟩) (fun _ => .inr (.inl rfl)) (.int .i64 why)
  have hb2 := hb1.set_ 4 (.int .i64 why)
  have hr2 := own_far hr1 hb1 (by decide) 4 (.int .i64 why)
  have h2 : ConnIn ((w.setCell ⟨c, 8, none⟩ (.int .i64 7)).setCell ⟨o, 4, none⟩ (.int .i64 why)) lo hi c gs g m1 m2 mo { x with state := 7 } := h1.kept ((Kept.refl (fun k => k = o) _).setCell (p := ⟨o, 4, none⟩) (fun _ => rfl) _) fun k e => by rw [e]; exact hoB
  have HN := Lib.hid hn
  have HB2 : Hid (Blk ((w.setCell ⟨c, 8, none⟩ (.int .i64 7)).setCell ⟨o, 4, none⟩ (.int .i64 why)) o 84 #[.slice A n k, an, nt, .bool rd, .int .i64 why, .slice none 0 0]) := Lib.hid hb2
  have HR2 := Lib.hid hr2
  have HK2 := Lib.hid hk2
  have H2 := Lib.hid h2
  have c11 : ((w.setCell ⟨c, 8, none⟩ (.int .i64 7)).setCell ⟨o, 4, none⟩ (.int .i64 why)).cell? ⟨c, 11, none⟩ = some (.map (some mo)) := by
    have := h2.blk.cell 11
    rw [this]
    show some (Value.map (x.oth.map fun _ => mo)) = _
    rw [ho]; rfl
  obtain ⟨es, ck, hh, hst, hL⟩ := h2.oth [] ho
  have hes : es.toList = [] := by
    have := congrArg List.length hL
    simpa using this
  have hrg := run_range_map (P := Tryz.prog) ((w.setCell ⟨c, 8, none⟩ (.int .i64 7)).setCell ⟨o, 4, none⟩ (.int .i64 why)) 108 3 4 mo es ck ibM hh
  have HH := Lib.hid hh
  have HST := Lib.hid hst
  have HES := Lib.hid hes
  have HLT := Lib.hid hlt
  have HOC := Lib.hid hoc
  clear hn hb hr h h1 hk1 hr1 hk2 hb2 hr2 h2 hst hL hes hlt hb1 hoc hh
  go_enter Tryz.func44, Tryz.ntmps44
  go_wp2_with fail
  have hsz2 : ((w.setCell ⟨c, 8, none⟩ (.int .i64 7)).setCell ⟨o, 4, none⟩ (.int .i64 why)).heap.size = w.heap.size := by rw [sz_setCell, sz_setCell]
  generalize hw2 : ((w.setCell ⟨c, 8, none⟩ (.int .i64 7)).setCell ⟨o, 4, none⟩ (.int .i64 why)) = W2 at *
  clear hw2 hrg c8 f8 z4 g4 c11
  generalize hR : w.heap.size = R at *
  go_loopw [] (fun wr => Kept noBlock W2 wr ∧ ∃ seen c0, wr.heap[R]? = some (.mapIter (some mo) ck seen c0) ∧ ck ≤ c0) (fun wr => (leftOf es (wr.iterSeen R)).size)
  case atStart => exact ⟨(Kept.refl _ _).alloc _, #[], ck, by rw [← hsz2]; exact heap_alloc_new W2 _, Nat.le_refl _⟩
  case round =>
    obtain ⟨hk, seen, c0, hr, hc0⟩ := hrel
    have hb1 : wr.heap[mo]? = some (.map es ck) := (hk.block mo (lt_of_heap HH.out) (fun h => h)).trans HH.out
    have law := run_next_at (P := Tryz.prog) wr 0 R mo ck c0 seen es ck hr hb1 HST.out.1 hc0
    rcases law with ⟨h0, hrun⟩ | ⟨e, he, w1, hw1, hrun⟩
    · have hnx : ∀ ty, (Instr.next (.pointer (some ⟨R, 0, none⟩)) false ty).run Tryz.prog wr = _ := fun _ => hrun
      have hbo := HB2.out.kept hk (fun e => e)
      have hci := H2.out.kept hk (fun _ e => e.elim)
      have z5 := hbo.cell 5
      simp only [List.getElem?_toArray, List.getElem?_cons_zero, List.getElem?_cons_succ] at z5
      have c11 : wr.cell? ⟨c, 11, none⟩ = some (.map (some mo)) := by
        rw [hci.blk.cell 11]
        show some (Value.map (x.oth.map fun _ => mo)) = _
        rw [ho]; rfl
      have f11 := hci.blk.frozen 11
      have HC3 := Lib.hid (hci.setc 11 (.map none) x.dead rfl rfl (fun L e => by cases e) rfl rfl)
      have HB3 := Lib.hid (hbo.far (p := ⟨c, 11, none⟩) HOC.out (.map none))
      have HR3 := Lib.hid (own_far (own_keptB HR2.out hk fun _ _ e => e) hci.blk (by decide) 11 (.map none))
      have HK3 := Lib.hid ((outS_trans HK2.out hk.of_none).setCell (p := ⟨c, 11, none⟩) (fun _ => .inl hci.rc) (.map none))
      clear hk hr hb1 hbo hci
      go_wp2_with fail
      go_at_call 59
      refine (AnyM.slices_Sort_int_none Tryz.sortA none 0 wr).mono ?_
      rintro e w3 ⟨rfl, hw3⟩
      subst hw3
      go_wp2_with fail
      go_end0
      exact ⟨rfl, ⟨gs, g, m1, m2, mo, HC3.out⟩, ⟨A, n, k, HN.out, HB3.out, HR3.out, HLT.out⟩, HK3.out⟩
    · exact absurd (mem_left he).1 (by rw [HES.out]; simp)
end Go.Proofs.YtfnjoceolcdeoaaGreatDoor
namespace Go.Proofs.YtfnjoceolcdeoaaGreatDoor
set_option linter.unusedVariables false
open Go.RowKit

/-- What comes of something: its value. -/
def outV (A : Option Addr) (n k : Nat) (an nt : Value) (rd : Bool) (dd : Int) (ls : Value) : Value := .agg #[.slice A n k, an, nt, .bool rd, .int .i64 dd, ls]
theorem cells6o {w : World} {g : Nat} {t : TypeId} {a0 a1 a2 a3 a4 a5 : Value} (h : Blk w g t #[a0, a1, a2, a3, a4, a5]) :
    w.cell? ⟨g, 0, none⟩ = some a0 ∧ w.cell? ⟨g, 1, none⟩ = some a1 ∧ w.cell? ⟨g, 2, none⟩ = some a2 ∧ w.cell? ⟨g, 3, none⟩ = some a3 ∧ w.cell? ⟨g, 4, none⟩ = some a4 ∧ w.cell? ⟨g, 5, none⟩ = some a5 :=
  ⟨h.cell 0, h.cell 1, h.cell 2, h.cell 3, h.cell 4, h.cell 5⟩
set_option maxHeartbeats 4000000 in
set_option maxRecDepth 100000 in
theorem cnClose_none {w : World} {lo hi c : Nat} {x : XC} (h : ConnAt w lo hi c x) (hs : x.state ≠ 7) (ho : x.oth = some []) (why : Int) (hw : why ≠ 0) :
    Calls Tryz.prog 24 #[.pointer (some ⟨c, 0, none⟩), .int .i64 why] w fun e w' => ∃ A k, e = .returned (outV A 0 k (.slice none 0 0) (.slice none 0 0) false why (.slice none 0 0)) ∧ ConnAt w' lo hi c x.dead ∧ Kept (fun k => lo ≤ k ∧ k < hi) w w' := by
  have hrc := h.rc
  have hw0 : (why == 0) = false := by rw [beq_eq_false_iff_ne]; exact hw
  have HB0 := Lib.hid ((Blk.new w 84 #[.slice none 0 0, .slice none 0 0, .slice none 0 0, .bool false, .int .i64 0, .slice none 0 0]).alloc (.cells #[.slice none 0 0, .slice none 0 0, .slice none 0 0, .bool false, .int .i64 0, .slice none 0 0] 84))
  have HB1 := Lib.hid (Blk.new_at (k := w.heap.size + 1) (w.alloc (.cells #[.slice none 0 0, .slice none 0 0, .slice none 0 0, .bool false, .int .i64 0, .slice none 0 0] 84)) 84 #[.slice none 0 0, .slice none 0 0, .slice none 0 0, .bool false, .int .i64 0, .slice none 0 0] (by rw [sz_alloc]))
  have HK0 := Lib.hid (((Kept.refl noBlock w).alloc (.cells #[.slice none 0 0, .slice none 0 0, .slice none 0 0, .bool false, .int .i64 0, .slice none 0 0] 84)).alloc (.cells #[.slice none 0 0, .slice none 0 0, .slice none 0 0, .bool false, .int .i64 0, .slice none 0 0] 84))
  have H := Lib.hid h
  clear h
  go_enter Tryz.func24, Tryz.ntmps24
  go_wp2_with fail
  generalize hw1 : (w.alloc (.cells #[.slice none 0 0, .slice none 0 0, .slice none 0 0, .bool false, .int .i64 0, .slice none 0 0] 84)).alloc (.cells #[.slice none 0 0, .slice none 0 0, .slice none 0 0, .bool false, .int .i64 0, .slice none 0 0] 84) = w1 at *
  generalize hg : w.heap.size = g at *
  clear hw1
  have HD := Lib.hid (cnDie_none (w := w1) (H.out.keptN HK0.out) hs ho (o := g + 1) (B := g + 2) (X := []) (an := .slice none 0 0) (nt := .slice none 0 0) (rd := false) (dd := 0) ⟨none, 0, 0, rfl, HB1.out, World.ownsRow_nil _ _ _ _, by omega⟩ (by omega) (by omega) why)
  go_at_call 44
  refine HD.out.mono ?_
  rintro e w2 ⟨rfl, hc2, ⟨A2, n2, k2, hn2, hb2, -, -⟩, hk2⟩
  obtain rfl : n2 = 0 := hn2
  have hb0 := HB0.out.kept hk2 (fun e => by unfold outS at e; omega)
  obtain ⟨y0, y1, y2, y3, y4, y5⟩ := cells6o hb2
  obtain ⟨z0, z1, z2, z3, z4, z5⟩ := cells6o hb0
  have f0 := hb0.frozen 0
  have f1 := hb0.frozen 1
  have f2 := hb0.frozen 2
  have f3 := hb0.frozen 3
  have f4 := hb0.frozen 4
  have f5 := hb0.frozen 5
  have HB0 := Lib.hid hb0
  have HC2 := Lib.hid hc2
  have HK2 := Lib.hid (show Kept (fun k => lo ≤ k ∧ k < hi) w w2 from (HK0.out.of_none (S := fun k => lo ≤ k ∧ k < hi)).trans hk2 fun k hlt e => by
    have hlt : k < w.heap.size := hlt
    unfold outS at e; omega)
  clear hb0 hb2 hc2 hk2
  go_wp2_with fail
  refine bodyPost_ret (results_cell_row rfl _ _ g 84 #[.slice A2 0 k2, .slice none 0 0, .slice none 0 0, .bool false, .int .i64 why, .slice none 0 0] (0, 0) _ rfl ((((((HB0.out.set_ 0 (.slice A2 0 k2)).set_ 1 (.slice none 0 0)).set_ 2 (.slice none 0 0)).set_ 3 (.bool false)).set_ 4 (.int .i64 why)).set_ 5 (.slice none 0 0)) Tryz.underlying84 rfl (by kernel_rfl)) rfl ?_
  have hkg := ((((((Kept.refl (fun k => k = g) w2).setCell (p := ⟨g, 0, none⟩) (fun _ => rfl) (.slice A2 0 k2)).setCell (p := ⟨g, 1, none⟩) (fun _ => rfl) (.slice none 0 0)).setCell (p := ⟨g, 2, none⟩) (fun _ => rfl) (.slice none 0 0)).setCell (p := ⟨g, 3, none⟩) (fun _ => rfl) (.bool false)).setCell (p := ⟨g, 4, none⟩) (fun _ => rfl) (.int .i64 why)).setCell (p := ⟨g, 5, none⟩) (fun _ => rfl) (.slice none 0 0)
  exact ⟨A2, k2, rfl, HC2.out.kept hkg fun k e => by omega, HK2.out.trans hkg fun k hlt e => by have hlt : k < w.heap.size := hlt; omega⟩

set_option maxHeartbeats 4000000 in
set_option maxRecDepth 100000 in
theorem cnTick_idle {w : World} {lo hi c : Nat} {x : XC} (h : ConnAt w lo hi c x) (h6 : x.state ≠ 6) (h7 : x.state ≠ 7) (hb : x.beat = -1) (hd : x.drain = false) (now : Int) (hn : now < x.til) :
    Calls Tryz.prog 23 #[.pointer (some ⟨c, 0, none⟩), .int .u64 now] w fun e w' => e = .returned (outV none 0 0 (.slice none 0 0) (.slice none 0 0) false 0 (.slice none 0 0)) ∧ Kept noBlock w w' := by
  have HB0 := Lib.hid ((Blk.new w 84 #[.slice none 0 0, .slice none 0 0, .slice none 0 0, .bool false, .int .i64 0, .slice none 0 0]).alloc (.cells #[.slice none 0 0, .slice none 0 0, .slice none 0 0, .bool false, .int .i64 0, .slice none 0 0] 84))
  have HB1 := Lib.hid (Blk.new_at (k := w.heap.size + 1) (w.alloc (.cells #[.slice none 0 0, .slice none 0 0, .slice none 0 0, .bool false, .int .i64 0, .slice none 0 0] 84)) 84 #[.slice none 0 0, .slice none 0 0, .slice none 0 0, .bool false, .int .i64 0, .slice none 0 0] (by rw [sz_alloc]))
  have HK0 := Lib.hid (((Kept.refl noBlock w).alloc (.cells #[.slice none 0 0, .slice none 0 0, .slice none 0 0, .bool false, .int .i64 0, .slice none 0 0] 84)).alloc (.cells #[.slice none 0 0, .slice none 0 0, .slice none 0 0, .bool false, .int .i64 0, .slice none 0 0] 84))
  have h6' : (x.state == 6) = false := by rw [beq_eq_false_iff_ne]; exact h6
  have h7' : (x.state == 7) = false := by rw [beq_eq_false_iff_ne]; exact h7
  have hdn : decide (x.til ≤ now) = false := decide_eq_false (by omega)
  obtain ⟨gs, g1, m1, m2, mo, h⟩ := h.keptN HK0.out
  have c8 : (((w.alloc (.cells #[.slice none 0 0, .slice none 0 0, .slice none 0 0, .bool false, .int .i64 0, .slice none 0 0] 84)).alloc (.cells #[.slice none 0 0, .slice none 0 0, .slice none 0 0, .bool false, .int .i64 0, .slice none 0 0] 84))).cell? ⟨c, 8, none⟩ = some (.int .i64 x.state) := h.blk.cell 8
  have c13 : (((w.alloc (.cells #[.slice none 0 0, .slice none 0 0, .slice none 0 0, .bool false, .int .i64 0, .slice none 0 0] 84)).alloc (.cells #[.slice none 0 0, .slice none 0 0, .slice none 0 0, .bool false, .int .i64 0, .slice none 0 0] 84))).cell? ⟨c, 13, none⟩ = some (.int .u64 x.til) := h.blk.cell 13
  have c15 : (((w.alloc (.cells #[.slice none 0 0, .slice none 0 0, .slice none 0 0, .bool false, .int .i64 0, .slice none 0 0] 84)).alloc (.cells #[.slice none 0 0, .slice none 0 0, .slice none 0 0, .bool false, .int .i64 0, .slice none 0 0] 84))).cell? ⟨c, 15, none⟩ = some (.int .i64 (-1)) := by rw [← hb]; exact h.blk.cell 15
  have c18 : (((w.alloc (.cells #[.slice none 0 0, .slice none 0 0, .slice none 0 0, .bool false, .int .i64 0, .slice none 0 0] 84)).alloc (.cells #[.slice none 0 0, .slice none 0 0, .slice none 0 0, .bool false, .int .i64 0, .slice none 0 0] 84))).cell? ⟨c, 18, none⟩ = some (.bool false) := (h.blk.cell 18).trans (by show some (Value.bool x.drain) = _; rw [hd])
  clear h hb hd hn
  go_enter Tryz.func23, Tryz.ntmps23
  go_wp2_with fail
  go_quiet (fail)
  go_wp2_with fail
  go_quiet (fail)
  go_wp2_with fail
  refine bodyPost_ret (results_cell_row rfl _ _ w.heap.size 84 #[.slice none 0 0, .slice none 0 0, .slice none 0 0, .bool false, .int .i64 0, .slice none 0 0] (0, 0) _ rfl (((((((HB0.out.drewN _).set_ 0 (.slice none 0 0)).set_ 1 (.slice none 0 0)).set_ 2 (.slice none 0 0)).set_ 3 (.bool false)).set_ 4 (.int .i64 0)).set_ 5 (.slice none 0 0)) Tryz.underlying84 rfl (by kernel_rfl)) rfl ?_
  exact ⟨rfl, (((((((HK0.out.drewN _).setCell (p := ⟨w.heap.size, 0, none⟩) (fun h => absurd h (Nat.lt_irrefl _)) _).setCell (p := ⟨w.heap.size, 1, none⟩) (fun h => absurd h (Nat.lt_irrefl _)) _).setCell (p := ⟨w.heap.size, 2, none⟩) (fun h => absurd h (Nat.lt_irrefl _)) _).setCell (p := ⟨w.heap.size, 3, none⟩) (fun h => absurd h (Nat.lt_irrefl _)) _).setCell (p := ⟨w.heap.size, 4, none⟩) (fun h => absurd h (Nat.lt_irrefl _)) _).setCell (p := ⟨w.heap.size, 5, none⟩) (fun h => absurd h (Nat.lt_irrefl _)) _)⟩
end Go.Proofs.YtfnjoceolcdeoaaGreatDoor
namespace Go.Proofs.YtfnjoceolcdeoaaGreatDoor
set_option linter.unusedVariables false
open Go.RowKit

set_option maxHeartbeats 4000000 in
set_option maxRecDepth 100000 in
theorem cnBody_3 (st : Int) (ks : ByteArray) (hs idle beat : Int) (orph : Int) {w : World} {A : Option Addr} {n c : Nat} {l : List UInt8} (h : Sl w 5 1 (.slice A n c) n (Lib.byteCells l)) (hn : n ≤ 10000000000000) (ev : Value) :
    Calls Tryz.prog 34 #[.agg (cfgC st ks (.slice A n c) (ev) hs idle beat orph), .int .i64 3] w (BodyPost w 15 (bodyFin (wrFin (valB l, 0)))) := by
  have HQ : Hid (∀ W : World, Kept noBlock w W → Calls Tryz.prog 57 #[.agg (reqC 15 (.slice none 0 0) noStr 0 (.slice none 0 0) 2 (.slice A n c))] W (PutPost W (wrFin (valB l, 0)))) := Lib.hid fun W hW => rqPut_token (SlK.keptNone h hW) hn
  clear h hn
  obtain ⟨s, hs⟩ : ∃ s : List UInt8 × Int, s = wrFin (valB l, 0) := ⟨_, rfl⟩
  rw [← hs] at HQ ⊢
  clear hs
  unfold cfgC
  go_enter Tryz.func34, Tryz.ntmps34
  go_wp2_with (first
    | (refine wpList_rd rfl (d := 24) rfl (.agg (reqC 15 (.slice none 0 0) noStr 0 (.slice none 0 0) 2 (.slice A n c))) (by kernel_rfl) ?_)
    | (refine wpList_store_row rfl 144 (.tmp 7) (.tmp 24) rfl (w.heap.size + 1) (reqC 15 (.slice none 0 0) noStr 0 (.slice none 0 0) 2 (.slice A n c)) rfl rfl 144 (reqC 0 (.slice none 0 0) noStr 0 (.slice none 0 0) 0 (.slice none 0 0)) (Blk.new_at _ _ _ (by rw [sz_alloc])) (req_info _ _ _ _ _ _ _) rfl (req_one _ _ _ _ _ _ _ _ _ _ _ _ _) ?_)
    | (refine wpList_load_row rfl 144 (.tmp 7) rfl (w.heap.size + 1) rfl 144 (reqC 15 (.slice none 0 0) noStr 0 (.slice none 0 0) 2 (.slice A n c)) (0, 0) _ (setRow_heap _ _ _ _ _ _ (Blk.new_at _ _ _ (by rw [sz_alloc]))) Tryz.underlying144 rfl (req_info _ _ _ _ _ _ _) ?_)
)
  go_at_call 57
  refine (HQ.out _ (Kept.setRow (S := noBlock) (g := w.heap.size + 1) (((Kept.refl noBlock w).alloc _).alloc _) (fun h => absurd h (by omega)) _)).mono ?_
  rintro e w3 ⟨A3, n3, c3, rfl, hn3, hs3, hk3⟩
  have hb3 := Blk.kept (show Blk _ (w.heap.size + 1) 144 (reqC 15 (.slice none 0 0) noStr 0 (.slice none 0 0) 2 (.slice A n c)) from (setRow_heap _ _ _ _ _ _ (Blk.new_at _ _ _ (by rw [sz_alloc])))) hk3 (fun e => e)
  have y0 : w3.cell? ⟨w.heap.size + 1, 0, none⟩ = some (.int .u8 15) := hb3.cell 0
  have HK3 := Lib.hid (Kept.trans (Kept.setRow (S := noBlock) (g := w.heap.size + 1) (((Kept.refl noBlock w).alloc _).alloc _) (fun h => absurd h (by omega)) _) hk3 fun _ _ e => e)
  have HN3 := Lib.hid hn3
  have HS3 := Lib.hid hs3
  have hn0 : n3 ≤ 9223372036854775807 := by obtain ⟨_, _, hv, h1, h2⟩ := hs3.shape; cases hv; unfold maxLen at h2; omega
  have hl3 := hs3.run_len bytesQT
  clear hb3 hk3 hs3 hn3
  generalize w.heap.size + 1 = gb at *
  by_cases h0 : s.2 = 0
  · rw [h0]
    by_cases hl : 1048576 < n3
    · have HF : Hid (bodyFin s = (s.1, 12)) := Lib.hid (bodyFin_long h0 (by rw [← HN3.out]; exact hl))
      clear h0
      go_wp2
      go_ret3
      rw [HF.out]
      exact ⟨A3, n3, c3, rfl, HN3.out, HS3.out, HK3.out⟩
    · have HF : Hid (bodyFin s = s) := Lib.hid (bodyFin_ok fun h => hl (by rw [HN3.out]; exact h.2))
      have HZ := Lib.hid h0
      clear h0
      go_wp2
      go_ret3
      rw [HF.out]
      exact ⟨A3, n3, c3, by rw [HZ.out]; rfl, HN3.out, HS3.out, HK3.out⟩
  · have HF : Hid (bodyFin s = s) := Lib.hid (bodyFin_ok fun h => h0 h.1)
    have h0' : (s.2 == 0) = false := by rw [beq_eq_false_iff_ne]; exact h0
    obtain ⟨e5, he5⟩ : ∃ e5, e5 = s.2 := ⟨_, rfl⟩
    rw [← he5] at h0' ⊢
    have HE := Lib.hid he5
    clear h0 he5
    go_wp2
    go_ret3
    rw [HF.out]
    exact ⟨A3, n3, c3, by rw [← HE.out]; rfl, HN3.out, HS3.out, HK3.out⟩

set_option maxHeartbeats 4000000 in
set_option maxRecDepth 100000 in
theorem cnBody_5 (st : Int) (ks : ByteArray) (hs idle beat : Int) (orph : Int) {w : World} (tok : Value) {A : Option Addr} {n c : Nat} {L : List ByteArray} (h : Lo w w.heap.size 1 (.slice A n c) n (L.map Value.string)) (hm : ∀ s ∈ L, s.size ≤ 9223372036854775807) (hb : (textsP L).1.length ≤ 10000000000000) :
    Calls Tryz.prog 34 #[.agg (cfgC st ks (tok) (.slice A n c) hs idle beat orph), .int .i64 5] w (BodyPost w 11 (bodyFin (wrFin (textsP L)))) := by
  have HQ : Hid (∀ W : World, Kept noBlock w W → Calls Tryz.prog 57 #[.agg (reqC 11 (.slice none 0 0) noStr 0 (.slice A n c) 0 (.slice none 0 0))] W (PutPost W (wrFin (textsP L)))) := Lib.hid fun W hW => rqPut_events (SlK.lo (SlK.keptNone h hW)) hm hb
  clear h hm hb
  obtain ⟨s, hs⟩ : ∃ s : List UInt8 × Int, s = wrFin (textsP L) := ⟨_, rfl⟩
  rw [← hs] at HQ ⊢
  clear hs
  unfold cfgC
  go_enter Tryz.func34, Tryz.ntmps34
  go_wp2_with (first
    | (refine wpList_rd rfl (d := 36) rfl (.agg (reqC 11 (.slice none 0 0) noStr 0 (.slice A n c) 0 (.slice none 0 0))) (by kernel_rfl) ?_)
    | (refine wpList_store_row rfl 144 (.tmp 7) (.tmp 36) rfl (w.heap.size + 1) (reqC 11 (.slice none 0 0) noStr 0 (.slice A n c) 0 (.slice none 0 0)) rfl rfl 144 (reqC 0 (.slice none 0 0) noStr 0 (.slice none 0 0) 0 (.slice none 0 0)) (Blk.new_at _ _ _ (by rw [sz_alloc])) (req_info _ _ _ _ _ _ _) rfl (req_one _ _ _ _ _ _ _ _ _ _ _ _ _) ?_)
    | (refine wpList_load_row rfl 144 (.tmp 7) rfl (w.heap.size + 1) rfl 144 (reqC 11 (.slice none 0 0) noStr 0 (.slice A n c) 0 (.slice none 0 0)) (0, 0) _ (setRow_heap _ _ _ _ _ _ (Blk.new_at _ _ _ (by rw [sz_alloc]))) Tryz.underlying144 rfl (req_info _ _ _ _ _ _ _) ?_)
)
  go_at_call 57
  refine (HQ.out _ (Kept.setRow (S := noBlock) (g := w.heap.size + 1) (((Kept.refl noBlock w).alloc _).alloc _) (fun h => absurd h (by omega)) _)).mono ?_
  rintro e w3 ⟨A3, n3, c3, rfl, hn3, hs3, hk3⟩
  have hb3 := Blk.kept (show Blk _ (w.heap.size + 1) 144 (reqC 11 (.slice none 0 0) noStr 0 (.slice A n c) 0 (.slice none 0 0)) from (setRow_heap _ _ _ _ _ _ (Blk.new_at _ _ _ (by rw [sz_alloc])))) hk3 (fun e => e)
  have y0 : w3.cell? ⟨w.heap.size + 1, 0, none⟩ = some (.int .u8 11) := hb3.cell 0
  have HK3 := Lib.hid (Kept.trans (Kept.setRow (S := noBlock) (g := w.heap.size + 1) (((Kept.refl noBlock w).alloc _).alloc _) (fun h => absurd h (by omega)) _) hk3 fun _ _ e => e)
  have HN3 := Lib.hid hn3
  have HS3 := Lib.hid hs3
  have hn0 : n3 ≤ 9223372036854775807 := by obtain ⟨_, _, hv, h1, h2⟩ := hs3.shape; cases hv; unfold maxLen at h2; omega
  have hl3 := hs3.run_len bytesQT
  clear hb3 hk3 hs3 hn3
  generalize w.heap.size + 1 = gb at *
  by_cases h0 : s.2 = 0
  · rw [h0]
    by_cases hl : 1048576 < n3
    · have HF : Hid (bodyFin s = (s.1, 12)) := Lib.hid (bodyFin_long h0 (by rw [← HN3.out]; exact hl))
      clear h0
      go_wp2
      go_ret3
      rw [HF.out]
      exact ⟨A3, n3, c3, rfl, HN3.out, HS3.out, HK3.out⟩
    · have HF : Hid (bodyFin s = s) := Lib.hid (bodyFin_ok fun h => hl (by rw [HN3.out]; exact h.2))
      have HZ := Lib.hid h0
      clear h0
      go_wp2
      go_ret3
      rw [HF.out]
      exact ⟨A3, n3, c3, by rw [HZ.out]; rfl, HN3.out, HS3.out, HK3.out⟩
  · have HF : Hid (bodyFin s = s) := Lib.hid (bodyFin_ok fun h => h0 h.1)
    have h0' : (s.2 == 0) = false := by rw [beq_eq_false_iff_ne]; exact h0
    obtain ⟨e5, he5⟩ : ∃ e5, e5 = s.2 := ⟨_, rfl⟩
    rw [← he5] at h0' ⊢
    have HE := Lib.hid he5
    clear h0 he5
    go_wp2
    go_ret3
    rw [HF.out]
    exact ⟨A3, n3, c3, by rw [← HE.out]; rfl, HN3.out, HS3.out, HK3.out⟩

end Go.Proofs.YtfnjoceolcdeoaaGreatDoor

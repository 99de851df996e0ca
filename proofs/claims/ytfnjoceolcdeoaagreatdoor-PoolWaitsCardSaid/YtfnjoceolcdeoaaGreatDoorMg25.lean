/- A connection dies on which nothing is asked for. -/
import Derived.Test.YtfnjoceolcdeoaaGreatDoorMg24
import Derived.Test.YtfnjoceolcdeoaaGreatDoorPoShelf
import Derived.Laws.IdiomRangeMap
import Derived.Maps.RangeRun
namespace Go.Proofs.YtfnjoceolcdeoaaGreatDoor
set_option linter.unusedVariables false
open Go.RowKit
open Go.ChangeMaps (setBlock)

/-- A connection that is dead. -/
def XC.dead (x : XC) : XC := { x with state := 7, oth := none }
set_option maxHeartbeats 4000000 in
set_option maxRecDepth 100000 in
theorem cnDie_none {w : World} {lo hi c : Nat} {x : XC} (h : ConnAt w lo hi c x) (hs : x.state ≠ 7) (ho : x.oth = some []) {o B : Nat} {X : List UInt8} {an nt : Value} {rd : Bool} {dd : Int} (hO : OutAt w o B X an nt rd dd (.slice none 0 0)) (hoB : ¬ (lo ≤ o ∧ o < hi)) (hB : hi ≤ B) (why : Int) :
    Calls Tryz.prog 44 #[.pointer (some ⟨c, 0, none⟩), .int .i64 why, .pointer (some ⟨o, 0, none⟩)] w fun e w' => e = .returned (.tuple #[]) ∧ ConnAt w' lo hi c x.dead ∧ OutAt w' o B X an nt rd why (.slice none 0 0) ∧ Kept (outS lo hi o B) w w' := by
  obtain ⟨gs, g, m1, m2, mo, h⟩ := h
  obtain ⟨A, n, k, hn, hb, hr, hlt⟩ := hO
  have h7 : (x.state == 7) = false := by rw [beq_eq_false_iff_ne]; exact hs
  have c8 : w.cell? ⟨c, 8, none⟩ = some (.int .i64 x.state) := h.blk.cell 8
  have f8 := h.blk.frozen 8
  have hoc : o ≠ c := fun e => hoB (by rw [e]; exact h.rc)
  have h1 := h.setc 8 (.int .i64 7) { x with state := 7 } rfl rfl (fun _ e => e) rfl rfl
  have hk1 : Kept (outS lo hi o B) w (w.setCell ⟨c, 8, none⟩ (.int .i64 7)) := (Kept.refl _ w).setCell (p := ⟨c, 8, none⟩) (fun _ => .inl h.rc) _
  have hb1 := hb.far (p := ⟨c, 8, none⟩) hoc (.int .i64 7)
  have z4 := hb1.cell 4
  have g4 := hb1.frozen 4
  simp only [List.getElem?_toArray, List.getElem?_cons_zero, List.getElem?_cons_succ] at z4
  have hr1 : (w.setCell ⟨c, 8, none⟩ (.int .i64 7)).ownsRow B 5 1 (.slice A n k) n (Lib.byteCells X) := own_far hr h.blk (by decide) 8 _
  have hk2 := hk1.setCell (p := ⟨o, 4, none⟩) (fun _ => .inr (.inl rfl)) (.int .i64 why)
  have hb2 := hb1.set_ 4 (.int .i64 why)
  have hr2 := own_far hr1 hb1 (by decide) 4 (.int .i64 why)
  have h2 : ConnIn ((w.setCell ⟨c, 8, none⟩ (.int .i64 7)).setCell ⟨o, 4, none⟩ (.int .i64 why)) lo hi c gs g m1 m2 mo { x with state := 7 } := h1.kept ((Kept.refl (fun k => k = o) _).setCell (p := ⟨o, 4, none⟩) (fun _ => rfl) _) fun k e => by rw [e]; exact hoB
  have HN := Lib.hid hn
  have HB2 : Hid (Blk ((w.setCell ⟨c, 8, none⟩ (.int .i64 7)).setCell ⟨o, 4, none⟩ (.int .i64 why)) o 84 #[.slice A n k, an, nt, .bool rd, .int .i64 why, .slice none 0 0]) := Lib.hid hb2
  have HR2 := Lib.hid hr2
  have HK2 := Lib.hid hk2
  have H2 := Lib.hid h2
  have c11 : ((w.setCell ⟨c, 8, none⟩ (.int .i64 7)).setCell ⟨o, 4, none⟩ (.int .i64 why)).cell? ⟨c, 11, none⟩ = some (.map (some mo)) := by
    have := h2.blk.cell 11
    rw [this]
    show some (Value.map (x.oth.map fun _ => mo)) = _
    rw [ho]; rfl
  obtain ⟨es, ck, hh, hst, hL⟩ := h2.oth [] ho
  have hes : es.toList = [] := by
    have := congrArg List.length hL
    simpa using this
  have hrg := run_range_map (P := Tryz.prog) ((w.setCell ⟨c, 8, none⟩ (.int .i64 7)).setCell ⟨o, 4, none⟩ (.int .i64 why)) 108 3 4 mo es ck ibM hh
  have HH := Lib.hid hh
  have HST := Lib.hid hst
  have HES := Lib.hid hes
  have HLT := Lib.hid hlt
  have HOC := Lib.hid hoc
  clear hn hb hr h h1 hk1 hr1 hk2 hb2 hr2 h2 hst hL hes hlt hb1 hoc hh
  go_enter Tryz.func44, Tryz.ntmps44
  go_wp2_with fail
  have hsz2 : ((w.setCell ⟨c, 8, none⟩ (.int .i64 7)).setCell ⟨o, 4, none⟩ (.int .i64 why)).heap.size = w.heap.size := by rw [sz_setCell, sz_setCell]
  generalize hw2 : ((w.setCell ⟨c, 8, none⟩ (.int .i64 7)).setCell ⟨o, 4, none⟩ (.int .i64 why)) = W2 at *
  clear hw2 hrg c8 f8 z4 g4 c11
  generalize hR : w.heap.size = R at *
  go_loopw [] (fun wr => Kept noBlock W2 wr ∧ ∃ seen c0, wr.heap[R]? = some (.mapIter (some mo) ck seen c0) ∧ ck ≤ c0) (fun wr => (leftOf es (wr.iterSeen R)).size)
  case atStart => exact ⟨(Kept.refl _ _).alloc _, #[], ck, by rw [← hsz2]; exact heap_alloc_new W2 _, Nat.le_refl _⟩
  case round =>
    obtain ⟨hk, seen, c0, hr, hc0⟩ := hrel
    have hb1 : wr.heap[mo]? = some (.map es ck) := (hk.block mo (lt_of_heap HH.out) (fun h => h)).trans HH.out
    have law := run_next_at (P := Tryz.prog) wr 0 R mo ck c0 seen es ck hr hb1 HST.out.1 hc0
    rcases law with ⟨h0, hrun⟩ | ⟨e, he, w1, hw1, hrun⟩
    · have hnx : ∀ ty, (Instr.next (.pointer (some ⟨R, 0, none⟩)) false ty).run Tryz.prog wr = _ := fun _ => hrun
      have hbo := HB2.out.kept hk (fun e => e)
      have hci := H2.out.kept hk (fun _ e => e.elim)
      have z5 := hbo.cell 5
      simp only [List.getElem?_toArray, List.getElem?_cons_zero, List.getElem?_cons_succ] at z5
      have c11 : wr.cell? ⟨c, 11, none⟩ = some (.map (some mo)) := by
        rw [hci.blk.cell 11]
        show some (Value.map (x.oth.map fun _ => mo)) = _
        rw [ho]; rfl
      have f11 := hci.blk.frozen 11
      have HC3 := Lib.hid (hci.setc 11 (.map none) x.dead rfl rfl (fun L e => by cases e) rfl rfl)
      have HB3 := Lib.hid (hbo.far (p := ⟨c, 11, none⟩) HOC.out (.map none))
      have HR3 := Lib.hid (own_far (own_keptB HR2.out hk fun _ _ e => e) hci.blk (by decide) 11 (.map none))
      have HK3 := Lib.hid ((outS_trans HK2.out hk.of_none).setCell (p := ⟨c, 11, none⟩) (fun _ => .inl hci.rc) (.map none))
      clear hk hr hb1 hbo hci
      go_wp2_with fail
      go_at_call 59
      refine (AnyM.slices_Sort_int_none Tryz.sortA none 0 wr).mono ?_
      rintro e w3 ⟨rfl, hw3⟩
      subst hw3
      go_wp2_with fail
      go_end0
      exact ⟨rfl, ⟨gs, g, m1, m2, mo, HC3.out⟩, ⟨A, n, k, HN.out, HB3.out, HR3.out, HLT.out⟩, HK3.out⟩
    · exact absurd (mem_left he).1 (by rw [HES.out]; simp)
end Go.Proofs.YtfnjoceolcdeoaaGreatDoor

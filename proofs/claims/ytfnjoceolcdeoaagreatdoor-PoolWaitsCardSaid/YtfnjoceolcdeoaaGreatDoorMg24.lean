/- A connection goes to a state of the handshake. -/
import Derived.Test.YtfnjoceolcdeoaaGreatDoorMg23
namespace Go.Proofs.YtfnjoceolcdeoaaGreatDoor
set_option linter.unusedVariables false
open Go.RowKit

theorem ConnIn.setc {w : World} {lo hi c gs g m1 m2 mo : Nat} {x : XC} (h : ConnIn w lo hi c gs g m1 m2 mo x) (i : Nat) (u : Value) (x' : XC) (hC : (x.C gs g mo).setIfInBounds i u = x'.C gs g mo) (h1 : x'.ss = x.ss) (h2 : ∀ L, x'.oth = some L → x.oth = some L) (h3 : x'.sv = x.sv) (h4 : x'.se = x.se) : ConnIn (w.setCell ⟨c, i, none⟩ u) lo hi c gs g m1 m2 mo x' := by
  have hk : Kept (fun k => k = c) w (w.setCell ⟨c, i, none⟩ u) := (Kept.refl (fun k => k = c) w).setCell (p := ⟨c, i, none⟩) (fun _ => rfl) u
  have hsep : ¬ three g m1 m2 c := h.str.sep h.blk (by decide)
  refine ⟨by rw [← hC]; exact h.blk.set_ i u, by rw [h3, h4]; exact h.spl.kept hk fun e => Blk.ne_ h.blk h.spl (by decide) e.symm, ?_, fun L hL => (h.oth L (h2 L hL)).kept hk h.nc.1, h.n1, h.n2, h.nc, h.rc, h.rs, h.rg, h.r1, h.r2, h.ro, Nat.le_trans h.hs hk.size⟩
  rw [h1]
  exact h.str.kept hk (fun e => hsep (.inl e.symm)) (fun e => hsep (.inr (.inl e.symm))) (fun e => hsep (.inr (.inr e.symm)))
theorem ConnIn.cells8 {w : World} {lo hi c gs g m1 m2 mo : Nat} {x : XC} (h : ConnIn w lo hi c gs g m1 m2 mo x) :
    w.cell? ⟨c, 0, none⟩ = some (.int .i64 x.st) ∧ w.cell? ⟨c, 1, none⟩ = some (.string x.ks) ∧ w.cell? ⟨c, 2, none⟩ = some x.tok ∧ w.cell? ⟨c, 3, none⟩ = some x.ev ∧ w.cell? ⟨c, 4, none⟩ = some (.int .u64 x.hs) ∧ w.cell? ⟨c, 5, none⟩ = some (.int .u64 x.idle) ∧ w.cell? ⟨c, 6, none⟩ = some (.int .u64 x.beatD) ∧ w.cell? ⟨c, 7, none⟩ = some (.int .i64 x.orph) :=
  ⟨h.blk.cell 0, h.blk.cell 1, h.blk.cell 2, h.blk.cell 3, h.blk.cell 4, h.blk.cell 5, h.blk.cell 6, h.blk.cell 7⟩
/-- Where a connection is behind a step of the handshake, but for what is written. -/
def XC.to (x : XC) (st : Int) : XC := { x with state := st, shake := -1 }
def StepPost (w : World) (lo hi c : Nat) (x : XC) (st : Int) (o B : Nat) (X : List UInt8) (an nt : Value) (rd : Bool) (dd : Int) (ls : Value) (op : UInt8) (l : List UInt8) (e : Ending) (w' : World) : Prop :=
  ∃ (id : Int) (ok : Bool) (x' : XC) (X' : List UInt8), e = .returned (.tuple #[]) ∧ ConnAt w' lo hi c { x' with shake := id } ∧ OutAt w' o B X' an nt rd dd ls ∧ Kept (outS lo hi o B) w w' ∧ WrCase (x.to st) X op l x.til id ok x' X'

set_option maxHeartbeats 4000000 in
set_option maxRecDepth 100000 in
theorem cnStep_at {w : World} {lo hi c : Nat} {x : XC} (h : ConnAt w lo hi c x) (hT : Tab w) (hG : 2 < lo) {o B : Nat} {X : List UInt8} {an nt : Value} {rd : Bool} {dd : Int} {ls : Value} (hO : OutAt w o B X an nt rd dd ls) (hoB : ¬ (lo ≤ o ∧ o < hi)) (hB : hi ≤ B) (hBs : B ≤ w.heap.size)
    (st : Int) (hst : st ≠ 6) (op : UInt8) (hop : op ∈ reqOps) {l : List UInt8} (hbd : ∀ W, Kept (fun k => k = c) w W → Calls Tryz.prog 34 #[.agg (cfgC x.st x.ks x.tok x.ev x.hs x.idle x.beatD x.orph), .int .i64 st] W (BodyPost W (op.toNat : Int) (l, 0))) (hn : l.length ≤ 1048576) (hX : X.length ≤ 100000000) (hu : 0 ≤ x.til ∧ x.til < 18446744073709551616) :
    Calls Tryz.prog 39 #[.pointer (some ⟨c, 0, none⟩), .int .i64 st, .pointer (some ⟨o, 0, none⟩)] w (StepPost w lo hi c x st o B X an nt rd dd ls op l) := by
  obtain ⟨gs, g, m1, m2, mo, h⟩ := h
  have h6 : (st == 6) = false := by rw [beq_eq_false_iff_ne]; exact hst
  have c8 : w.cell? ⟨c, 8, none⟩ = some (.int .i64 x.state) := h.blk.cell 8
  have c12 : w.cell? ⟨c, 12, none⟩ = some (.int .i64 x.shake) := h.blk.cell 12
  have f8 := h.blk.frozen 8
  have f12 := h.blk.frozen 12
  have h1 := (h.setc 8 (.int .i64 st) { x with state := st } rfl rfl (fun _ e => e) rfl rfl).setc 12 (.int .i64 (-1)) (x.to st) rfl rfl (fun _ e => e) rfl rfl
  have hk1 : Kept (fun k => k = c) w ((w.setCell ⟨c, 8, none⟩ (.int .i64 st)).setCell ⟨c, 12, none⟩ (.int .i64 (-1))) := ((Kept.refl (fun k => k = c) w).setCell (p := ⟨c, 8, none⟩) (fun _ => rfl) _).setCell (p := ⟨c, 12, none⟩) (fun _ => rfl) _
  have HBD := Lib.hid (hbd _ hk1)
  have HRC := Lib.hid h.rc
  have HT1 := Lib.hid (hT.kept hk1 (by have := h.rc; omega))
  have HO1 := Lib.hid (hO.kept hk1 (fun e => hoB (by rw [e]; exact h.rc)) fun k hk e => by have := h.rc; omega)
  have HK1 := Lib.hid hk1
  have H1 := Lib.hid h1
  obtain ⟨y0, y1, y2, y3, y4, y5, y6, y7⟩ := h1.cells8
  simp only [XC.to] at y0 y1 y2 y3 y4 y5 y6 y7
  clear hbd hk1 h1 h hO hT
  go_enter Tryz.func39, Tryz.ntmps39
  go_wp2_with fail
  go_at_call 34
  refine HBD.out.mono ?_
  rintro e w2 ⟨A2, n2, k2, rfl, hn2, hs2, hk2⟩
  have h2 := H1.out.kept hk2 (fun _ e => e.elim)
  have hsz := HK1.out.size
  have HK2 := Lib.hid ((HK1.out.mono (T := outS lo hi o B) fun k _ e => .inl (by subst e; exact HRC.out)).trans hk2.of_none fun _ _ e => e)
  have hn2' : n2 = l.length := hn2
  have HW := Lib.hid (cnWrite_at (w := w2) ⟨gs, g, m1, m2, mo, h2⟩ (HT1.out.kept hk2 (fun e => e)) hG (HO1.out.keptN hk2) hoB hB (Nat.le_trans hBs HK2.out.size) op hop hs2 (by omega) hX x.til hu)
  have c13 : w2.cell? ⟨c, 13, none⟩ = some (.int .u64 x.til) := h2.blk.cell 13
  clear h2 hn2 hs2 hk2 y0 y1 y2 y3 y4 y5 y6 y7 c8 c12 f8 f12 hn2' hsz
  go_wp2_with fail
  go_at_call 45
  refine HW.out.mono ?_
  rintro e w3 ⟨id, ok, x', X', rfl, ⟨gs', g', m1', m2', mo', h3⟩, ho3, hk3, hcase⟩
  have c12 : w3.cell? ⟨c, 12, none⟩ = some (.int .i64 x'.shake) := h3.blk.cell 12
  have f12 := h3.blk.frozen 12
  have HC3 := Lib.hid (h3.setc 12 (.int .i64 id) { x' with shake := id } rfl rfl (fun _ e => e) rfl rfl)
  have HO3 := Lib.hid (ho3.kept ((Kept.refl (fun k => k = c) w3).setCell (p := ⟨c, 12, none⟩) (fun _ => rfl) (.int .i64 id)) (fun e => hoB (by rw [e]; exact HRC.out)) fun k hk e => by have := HRC.out; omega)
  have HK3 := Lib.hid ((outS_trans HK2.out hk3).setCell (p := ⟨c, 12, none⟩) (fun _ => .inl HRC.out) (.int .i64 id))
  have HCA := Lib.hid hcase
  clear h3 ho3 hk3 hcase
  go_wp2
  go_end0
  exact ⟨id, ok, x', X', rfl, ⟨gs', g', m1', m2', mo', HC3.out⟩, HO3.out, HK3.out, HCA.out⟩
end Go.Proofs.YtfnjoceolcdeoaaGreatDoor

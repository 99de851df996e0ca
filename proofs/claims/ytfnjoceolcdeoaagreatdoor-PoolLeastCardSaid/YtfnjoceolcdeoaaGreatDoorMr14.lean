/- A connection writes a request on a stream that is free · A connection goes to a state of the handshake. -/
import Derived.Test.YtfnjoceolcdeoaaGreatDoorMr13
namespace Go.Proofs.YtfnjoceolcdeoaaGreatDoor
set_option linter.unusedVariables false
open Go.RowKit

/-- What a write comes to: the stream that was taken, or that there is none. -/
def WrCase (x : XC) (X : List UInt8) (op : UInt8) (l : List UInt8) (u : Int) (id : Int) (ok : Bool) (x' : XC) (X' : List UInt8) : Prop :=
  (ok = true ∧ (∃ i : Nat, id = (i : Int) ∧ id < x.ss.n ∧ x.ss.owed id = false ∧ (∀ j : Nat, j < i → x.ss.owed (j : Int) = true) ∧ x' = { x with ss := x.ss.take id u } ∧ X' = X ++ (hdrB i op l.length ++ l))) ∨
  (ok = false ∧ id = -1 ∧ x' = x ∧ X' = X ∧ ∀ j : Nat, (j : Int) < x.ss.n → x.ss.owed (j : Int) = true)
def WritePost (w : World) (lo hi c : Nat) (x : XC) (o B : Nat) (X : List UInt8) (an nt : Value) (rd : Bool) (dd : Int) (ls : Value) (op : UInt8) (l : List UInt8) (u : Int) (e : Ending) (w' : World) : Prop :=
  ∃ (id : Int) (ok : Bool) (x' : XC) (X' : List UInt8), e = .returned (.tuple #[.int .i64 id, .bool ok]) ∧ ConnAt w' lo hi c x' ∧ OutAt w' o B X' an nt rd dd ls ∧ Kept (outS lo hi o B) w w' ∧ WrCase x X op l u id ok x' X'

theorem SAt.sep {w : World} {g m1 m2 : Nat} {s : XS} (h : SAt w g m1 m2 s) {t : TypeId} {b : Nat} {cs : Array Value} (hb : Blk w b t cs) (ht : t ≠ 135) : ¬ three g m1 m2 b := by
  obtain ⟨cs', k0, hg, hc, ha, ho, hne, hok⟩ := h
  rintro (e | e | e)
  · exact Blk.ne_ hb hg ht e
  · exact ha.ne_blk hb e
  · exact ho.ne_blk hb e
theorem Sl.keptSt {w w' : World} {g m1 m2 : Nat} {s : XS} (h : SAt w g m1 m2 s) {v : Value} {n : Nat} {xs : List Value} (hs : Sl w 5 1 v n xs) (hk : Kept (three g m1 m2) w w') : Sl w' 5 1 v n xs := SlK.kept hs hk (by
  obtain ⟨cs', k0, hg, hc, ha, ho, hne, hok⟩ := h
  rintro b cs fz (rfl | rfl | rfl) hh
  · unfold Blk at hg
    rw [hg] at hh
    injection hh with hh
    injection hh with _ h3 _
    exact absurd h3 (by decide)
  · obtain ⟨es, ck, h2⟩ := ha.heap
    rw [h2] at hh; cases hh
  · obtain ⟨es, ck, h2⟩ := ho.heap
    rw [h2] at hh; cases hh)
theorem ConnIn.take {w w1 : World} {lo hi c gs g m1 m2 mo : Nat} {x : XC} (h : ConnIn w lo hi c gs g m1 m2 mo x) {s' : XS} (hst : SAt w1 g m1 m2 s') (hk : Kept (three g m1 m2) w w1) : ConnIn w1 lo hi c gs g m1 m2 mo { x with ss := s' } :=
  ⟨h.blk.kept hk (h.str.sep h.blk (by decide)), h.spl.kept hk (h.str.sep h.spl (by decide)), hst, fun L hL => (h.oth L hL).kept hk (by
    rintro (e | e | e)
    · exact h.nc.2.2 e
    · exact h.n1 e
    · exact h.n2 e), h.n1, h.n2, h.nc, h.rc, h.rs, h.rg, h.r1, h.r2, h.ro, Nat.le_trans h.hs hk.size⟩
theorem ConnIn.inThree {w : World} {lo hi c gs g m1 m2 mo : Nat} {x : XC} (h : ConnIn w lo hi c gs g m1 m2 mo x) {k : Nat} (hk : three g m1 m2 k) : lo ≤ k ∧ k < hi := by
  rcases hk with rfl | rfl | rfl
  · exact h.rg
  · exact h.r1
  · exact h.r2
set_option maxHeartbeats 4000000 in
set_option maxRecDepth 100000 in
theorem cnWrite_at {w : World} {lo hi c : Nat} {x : XC} (h : ConnAt w lo hi c x) (hT : Tab w) (hG : 2 < lo) {o B : Nat} {X : List UInt8} {an nt : Value} {rd : Bool} {dd : Int} {ls : Value} (hO : OutAt w o B X an nt rd dd ls) (hoB : ¬ (lo ≤ o ∧ o < hi)) (hB : hi ≤ B) (hBs : B ≤ w.heap.size)
    (op : UInt8) (hop : op ∈ reqOps) {A : Option Addr} {n k : Nat} {l : List UInt8} (hs : Sl w 5 1 (.slice A n k) n (Lib.byteCells l)) (hn : n ≤ 1048576) (hX : X.length ≤ 100000000) (u : Int) (hu : 0 ≤ u ∧ u < 18446744073709551616) :
    Calls Tryz.prog 45 #[.pointer (some ⟨c, 0, none⟩), .int .u8 (op.toNat : Int), .slice A n k, .int .u64 u, .pointer (some ⟨o, 0, none⟩)] w (WritePost w lo hi c x o B X an nt rd dd ls op l u) := by
  obtain ⟨gs, g, m1, m2, mo, h⟩ := h
  have y10 := h.blk.cell 10
  simp only [XC.C, List.getElem?_toArray, List.getElem?_cons_zero, List.getElem?_cons_succ] at y10
  have HT := Lib.hid (Take_at h.str hT ⟨by have := h.rg; omega, by have := h.r1; omega, by have := h.r2; omega⟩ u hu)
  have H := Lib.hid h
  have HO := Lib.hid hO
  have HS := Lib.hid hs
  clear h hO hs
  go_enter Tryz.func45, Tryz.ntmps45
  go_wp2_with fail
  go_at_call 65
  refine HT.out.mono ?_
  intro e w1 hp
  have hnn := H.out.str.ok.n2
  have hbl := HS.out.run_len bytesQT
  have hll : l.length = n := by have := HS.out.len; unfold Lib.byteCells at this; rw [List.length_map, Nat.mul_one] at this; exact this
  have HLL := Lib.hid hll
  rcases hp with ⟨id, hid, how, hlow, rfl, hst, hk1⟩ | ⟨hall, rfl, hst, hk1⟩
  · have h16 : IntKind.i16.wrap (id : Int) = (id : Int) := by simp [IntKind.wrap, IntKind.bits, IntKind.signed]; omega
    have h32 : IntKind.u32.wrap (n : Int) = (n : Int) := by rw [IntKind.wrap_u32]; omega
    have HJ := Lib.hid (spJoin_at id (by omega) op hop (Sl.keptSt H.out.str HS.out hk1) hn)
    have HC1 := Lib.hid (H.out.take hst hk1)
    have HK1 : Hid (Kept (outS lo hi o B) w w1) := Lib.hid (hk1.mono fun k _ e => .inl (H.out.inThree e))
    have HO1 := Lib.hid (HO.out.kept hk1 (fun e => hoB (H.out.inThree e)) fun k hk e => by have := H.out.inThree e; omega)
    have HID := Lib.hid (⟨hid, how, hlow⟩ : (id : Int) < x.ss.n ∧ x.ss.owed (id : Int) = false ∧ ∀ j : Nat, j < id → x.ss.owed (j : Int) = true)
    have hid2 : id < 32768 := by omega
    clear hid how hlow hst hk1 hll
    go_wp2_with fail
    go_at_call 66
    refine HJ.out.mono ?_
    rintro e w2 ⟨v2, rfl, ho2, hk2⟩
    obtain ⟨A2, k2, rfl, -, -⟩ := (Sl.of_own ho2).shape
    obtain ⟨Ao, no, ko, hno, hbo, hro, hlt⟩ := HO1.out.keptN hk2
    have HK2 := Lib.hid (outS_trans HK1.out (hk2.of_none (S := outS lo hi o B)))
    have HK12 : Hid (Kept (fun k => k = o ∨ B ≤ k) w1 w2) := Lib.hid hk2.of_none
    have HBO := Lib.hid hbo
    have HRO := Lib.hid hro
    have HO2 := Lib.hid ho2
    have HNO := Lib.hid hno
    have z0 := hbo.cell 0
    simp only [List.getElem?_toArray, List.getElem?_cons_zero] at z0
    have hsz2 : B ≤ w2.heap.size := Nat.le_trans hBs HK2.out.size
    have hnb : no ≤ 100000000 := by omega
    clear hk2 hno hbo hro ho2
    go_wp2_with (at_builtin; go_must (refine wpList_append_sl _ bytesQT rfl (.tmp 44) (.tmp 45) rfl B _ no (Lib.byteCells X) rfl HRO.out _ (9 + n) (Lib.byteCells (hdrB id op n ++ l)) rfl (Sl.of_own HO2.out) (fun u hu => byteCells_one hu) ?c1 ?c2 ?_))
    case c1 => omega
    case c2 => exact hsz2
    intro v' w3 hap
    have hB3 : ∀ k, (Value.slice Ao no ko).ownBlock = some k → B ≤ k := fun k e => (own_type HRO.out e).1
    have hbo3 := HBO.out.kept hap.kept (fun e => by have := hB3 _ e; omega)
    have hown := hap.own
    obtain ⟨A3, k3, rfl, -, -⟩ := (Sl.of_own hown).shape
    have HBO3 := Lib.hid hbo3
    have HRO3 := Lib.hid hown
    have HK3 := Lib.hid (outS_trans HK2.out (hap.kept.mono fun k _ e => .inr (.inr (hB3 k e))))
    have HK23 := Lib.hid ((hap.kept.mono (T := fun k => k = o ∨ B ≤ k) fun k _ e => .inr (hB3 k e)))
    have y0 := hbo3.cell 0
    simp only [List.getElem?_toArray, List.getElem?_cons_zero] at y0
    have f0 := hbo3.frozen 0
    clear z0 hap hbo3 hown hB3
    go_wp2
    go_ret2
    have HKE := Lib.hid ((HK12.out.trans HK23.out fun _ _ e => e).setCell (p := ⟨o, 0, none⟩) (fun _ => .inl rfl) (.slice A3 (no + (9 + n)) k3))
    refine ⟨id, true, { x with ss := x.ss.take id u }, X ++ (hdrB id op n ++ l), rfl, ⟨gs, g, m1, m2, mo, HC1.out.kept HKE.out fun k e => by rcases e with rfl | e <;> omega⟩, ⟨A3, no + (9 + n), k3, ?_, HBO3.out.set_ 0 _, ?_, hlt⟩, HK3.out.setCell (p := ⟨o, 0, none⟩) (fun _ => .inr (.inl rfl)) _, .inl ⟨rfl, id, rfl, HID.out.1, HID.out.2.1, HID.out.2.2, rfl, by rw [HLL.out]⟩⟩
    · rw [List.length_append, List.length_append, hdrB_len, HLL.out, HNO.out]
    · rw [byteCells_app]
      exact own_far HRO3.out HBO3.out (by decide) 0 _
  · have HC1 := Lib.hid (H.out.take hst hk1)
    have HK1 : Hid (Kept (outS lo hi o B) w w1) := Lib.hid (hk1.mono fun k _ e => .inl (H.out.inThree e))
    have HO1 := Lib.hid (HO.out.kept hk1 (fun e => hoB (H.out.inThree e)) fun k hk e => by have := H.out.inThree e; omega)
    have HALL := Lib.hid hall
    clear hst hk1 hall
    go_wp2
    go_ret2
    exact ⟨-1, false, x, X, rfl, ⟨gs, g, m1, m2, mo, HC1.out⟩, HO1.out, HK1.out, .inr ⟨rfl, rfl, rfl, rfl, HALL.out⟩⟩
end Go.Proofs.YtfnjoceolcdeoaaGreatDoor
namespace Go.Proofs.YtfnjoceolcdeoaaGreatDoor
set_option linter.unusedVariables false
open Go.RowKit

theorem ConnIn.setc {w : World} {lo hi c gs g m1 m2 mo : Nat} {x : XC} (h : ConnIn w lo hi c gs g m1 m2 mo x) (i : Nat) (u : Value) (x' : XC) (hC : (x.C gs g mo).setIfInBounds i u = x'.C gs g mo) (h1 : x'.ss = x.ss) (h2 : ∀ L, x'.oth = some L → x.oth = some L) (h3 : x'.sv = x.sv) (h4 : x'.se = x.se) : ConnIn (w.setCell ⟨c, i, none⟩ u) lo hi c gs g m1 m2 mo x' := by
  have hk : Kept (fun k => k = c) w (w.setCell ⟨c, i, none⟩ u) := (Kept.refl (fun k => k = c) w).setCell (p := ⟨c, i, none⟩) (fun _ => rfl) u
  have hsep : ¬ three g m1 m2 c := h.str.sep h.blk (by decide)
  refine ⟨by rw [← hC]; exact h.blk.set_ i u, by rw [h3, h4]; exact h.spl.kept hk fun e => Blk.ne_ h.blk h.spl (by decide) e.symm, ?_, fun L hL => (h.oth L (h2 L hL)).kept hk h.nc.1, h.n1, h.n2, h.nc, h.rc, h.rs, h.rg, h.r1, h.r2, h.ro, Nat.le_trans h.hs hk.size⟩
  rw [h1]
  exact h.str.kept hk (fun e => hsep (.inl e.symm)) (fun e => hsep (.inr (.inl e.symm))) (fun e => hsep (.inr (.inr e.symm)))
theorem ConnIn.cells8 {w : World} {lo hi c gs g m1 m2 mo : Nat} {x : XC} (h : ConnIn w lo hi c gs g m1 m2 mo x) :
    w.cell? ⟨c, 0, none⟩ = some (.int .i64 x.st) ∧ w.cell? ⟨c, 1, none⟩ = some (.string x.ks) ∧ w.cell? ⟨c, 2, none⟩ = some x.tok ∧ w.cell? ⟨c, 3, none⟩ = some x.ev ∧ w.cell? ⟨c, 4, none⟩ = some (.int .u64 x.hs) ∧ w.cell? ⟨c, 5, none⟩ = some (.int .u64 x.idle) ∧ w.cell? ⟨c, 6, none⟩ = some (.int .u64 x.beatD) ∧ w.cell? ⟨c, 7, none⟩ = some (.int .i64 x.orph) :=
  ⟨h.blk.cell 0, h.blk.cell 1, h.blk.cell 2, h.blk.cell 3, h.blk.cell 4, h.blk.cell 5, h.blk.cell 6, h.blk.cell 7⟩
/-- Where a connection is behind a step of the handshake, but for what is written. -/
def XC.to (x : XC) (st : Int) : XC := { x with state := st, shake := -1 }
def StepPost (w : World) (lo hi c : Nat) (x : XC) (st : Int) (o B : Nat) (X : List UInt8) (an nt : Value) (rd : Bool) (dd : Int) (ls : Value) (op : UInt8) (l : List UInt8) (e : Ending) (w' : World) : Prop :=
  ∃ (id : Int) (ok : Bool) (x' : XC) (X' : List UInt8), e = .returned (.tuple #[]) ∧ ConnAt w' lo hi c { x' with shake := id } ∧ OutAt w' o B X' an nt rd dd ls ∧ Kept (outS lo hi o B) w w' ∧ WrCase (x.to st) X op l x.til id ok x' X'

set_option maxHeartbeats 4000000 in
set_option maxRecDepth 100000 in
theorem cnStep_at {w : World} {lo hi c : Nat} {x : XC} (h : ConnAt w lo hi c x) (hT : Tab w) (hG : 2 < lo) {o B : Nat} {X : List UInt8} {an nt : Value} {rd : Bool} {dd : Int} {ls : Value} (hO : OutAt w o B X an nt rd dd ls) (hoB : ¬ (lo ≤ o ∧ o < hi)) (hB : hi ≤ B) (hBs : B ≤ w.heap.size)
    (st : Int) (hst : st ≠ 6) (op : UInt8) (hop : op ∈ reqOps) {l : List UInt8} (hbd : ∀ W, Kept (fun k => k = c) w W → Calls Tryz.prog 34 #[.agg (cfgC x.st x.ks x.tok x.ev x.hs x.idle x.beatD x.orph), .int .i64 st] W (BodyPost W (op.toNat : Int) (l, 0))) (hn : l.length ≤ 1048576) (hX : X.length ≤ 100000000) (hu : 0 ≤ x.til ∧ x.til < 18446744073709551616) :
    Calls Tryz.prog 39 #[.pointer (some ⟨c, 0, none⟩), .int .i64 st, .pointer (some ⟨o, 0, none⟩)] w (StepPost w lo hi c x st o B X an nt rd dd ls op l) := by
  obtain ⟨gs, g, m1, m2, mo, h⟩ := h
  have h6 : (st == 6) = false := by rw [beq_eq_false_iff_ne]; exact hst
  have c8 : w.cell? ⟨c, 8, none⟩ = some (.int .i64 x.state) := h.blk.cell 8
  have c12 : w.cell? ⟨c, 12, none⟩ = some (.int .i64 x.shake) := h.blk.cell 12
  have f8 := h.blk.frozen 8
  have f12 := h.blk.frozen 12
  have h1 := (h.setc 8 (.int .i64 st) { x with state := st } rfl rfl (fun _ e => e) rfl rfl).setc 12 (.int .i64 (-1)) (x.to st) rfl rfl (fun _ e => e) rfl rfl
  have hk1 : Kept (fun k => k = c) w ((w.setCell ⟨c, 8, none⟩ (.int .i64 st)).setCell ⟨c, 12, none⟩ (.int .i64 (-1))) := ((Kept.refl (fun k => k = c) w).setCell (p := ⟨c, 8, none⟩) (fun _ => rfl) _).setCell (p := ⟨c, 12, none⟩) (fun _ => rfl) _
  have HBD := Lib.hid (hbd _ hk1)
  have HRC := Lib.hid h.rc
  have HT1 := Lib.hid (hT.kept hk1 (by have := h.rc; omega))
  have HO1 := Lib.hid (hO.kept hk1 (fun e => hoB (by rw [e]; exact h.rc)) fun k hk e => by have := h.rc; omega)
  have HK1 := Lib.hid hk1
  have H1 := Lib.hid h1
  obtain ⟨y0, y1, y2, y3, y4, y5, y6, y7⟩ := h1.cells8
  simp only [XC.to] at y0 y1 y2 y3 y4 y5 y6 y7
  clear hbd hk1 h1 h hO hT
  go_enter Tryz.func39, Tryz.ntmps39
  go_wp2_with fail
  go_at_call 34
  refine HBD.out.mono ?_
  rintro e w2 ⟨A2, n2, k2, rfl, hn2, hs2, hk2⟩
  have h2 := H1.out.kept hk2 (fun _ e => e.elim)
  have hsz := HK1.out.size
  have HK2 := Lib.hid ((HK1.out.mono (T := outS lo hi o B) fun k _ e => .inl (by subst e; exact HRC.out)).trans hk2.of_none fun _ _ e => e)
  have hn2' : n2 = l.length := hn2
  have HW := Lib.hid (cnWrite_at (w := w2) ⟨gs, g, m1, m2, mo, h2⟩ (HT1.out.kept hk2 (fun e => e)) hG (HO1.out.keptN hk2) hoB hB (Nat.le_trans hBs HK2.out.size) op hop hs2 (by omega) hX x.til hu)
  have c13 : w2.cell? ⟨c, 13, none⟩ = some (.int .u64 x.til) := h2.blk.cell 13
  clear h2 hn2 hs2 hk2 y0 y1 y2 y3 y4 y5 y6 y7 c8 c12 f8 f12 hn2' hsz
  go_wp2_with fail
  go_at_call 45
  refine HW.out.mono ?_
  rintro e w3 ⟨id, ok, x', X', rfl, ⟨gs', g', m1', m2', mo', h3⟩, ho3, hk3, hcase⟩
  have c12 : w3.cell? ⟨c, 12, none⟩ = some (.int .i64 x'.shake) := h3.blk.cell 12
  have f12 := h3.blk.frozen 12
  have HC3 := Lib.hid (h3.setc 12 (.int .i64 id) { x' with shake := id } rfl rfl (fun _ e => e) rfl rfl)
  have HO3 := Lib.hid (ho3.kept ((Kept.refl (fun k => k = c) w3).setCell (p := ⟨c, 12, none⟩) (fun _ => rfl) (.int .i64 id)) (fun e => hoB (by rw [e]; exact HRC.out)) fun k hk e => by have := HRC.out; omega)
  have HK3 := Lib.hid ((outS_trans HK2.out hk3).setCell (p := ⟨c, 12, none⟩) (fun _ => .inl HRC.out) (.int .i64 id))
  have HCA := Lib.hid hcase
  clear h3 ho3 hk3 hcase
  go_wp2
  go_end0
  exact ⟨id, ok, x', X', rfl, ⟨gs', g', m1', m2', mo', HC3.out⟩, HO3.out, HK3.out, HCA.out⟩
end Go.Proofs.YtfnjoceolcdeoaaGreatDoor

/- A connection as it lies in memory; what comes of something (Out) · A connection writes a request on a stream that is free. -/
import Derived.Test.YtfnjoceolcdeoaaGreatDoorMg15
import Derived.Test.YtfnjoceolcdeoaaGreatDoorMg19
import Derived.Test.YtfnjoceolcdeoaaGreatDoorMg22
namespace Go.Proofs.YtfnjoceolcdeoaaGreatDoor
set_option linter.unusedVariables false
open Go.RowKit

/-- A connection. -/
structure XC where
  st : Int
  ks : ByteArray
  tok : Value
  ev : Value
  hs : Int
  idle : Int
  beatD : Int
  orph : Int
  state : Int
  shake : Int
  til : Int
  asked : Int
  beat : Int
  beatAt : Int
  last : Int
  drain : Bool
  drained : Int
  ss : XS
  oth : Option (List (Int × Bool))
  sv : Value
  se : Int
/-- Its cells. -/
def XC.C (x : XC) (gs g mo : Nat) : Array Value := #[.int .i64 x.st, .string x.ks, x.tok, x.ev, .int .u64 x.hs, .int .u64 x.idle, .int .u64 x.beatD, .int .i64 x.orph, .int .i64 x.state, .pointer (some ⟨gs, 0, none⟩), .pointer (some ⟨g, 0, none⟩), .map (x.oth.map fun _ => mo), .int .i64 x.shake, .int .u64 x.til, .int .i64 x.asked, .int .i64 x.beat, .int .u64 x.beatAt, .int .u64 x.last, .bool x.drain, .int .u64 x.drained]
/-- The blocks that are a connection's own lie from lo on, ahead of hi. -/
structure ConnIn (w : World) (lo hi c gs g m1 m2 mo : Nat) (x : XC) : Prop where
  blk : Blk w c 110 (x.C gs g mo)
  spl : Blk w gs 151 #[.int .u8 132, x.sv, .int .i64 x.se]
  str : SAt w g m1 m2 x.ss
  oth : ∀ L, x.oth = some L → OMap w mo L
  n1 : mo ≠ m1
  n2 : mo ≠ m2
  nc : mo ≠ c ∧ mo ≠ gs ∧ mo ≠ g
  rc : lo ≤ c ∧ c < hi
  rs : lo ≤ gs ∧ gs < hi
  rg : lo ≤ g ∧ g < hi
  r1 : lo ≤ m1 ∧ m1 < hi
  r2 : lo ≤ m2 ∧ m2 < hi
  ro : lo ≤ mo ∧ mo < hi
  hs : hi ≤ w.heap.size
def ConnAt (w : World) (lo hi c : Nat) (x : XC) : Prop := ∃ gs g m1 m2 mo, ConnIn w lo hi c gs g m1 m2 mo x
section
variable {w w' : World} {lo hi c gs g m1 m2 mo : Nat} {x : XC} {S : Nat → Prop}
theorem ConnIn.kept (h : ConnIn w lo hi c gs g m1 m2 mo x) (hk : Kept S w w') (hS : ∀ k, S k → ¬ (lo ≤ k ∧ k < hi)) : ConnIn w' lo hi c gs g m1 m2 mo x :=
  ⟨h.blk.kept hk fun e => hS _ e h.rc, h.spl.kept hk fun e => hS _ e h.rs, h.str.kept hk (fun e => hS _ e h.rg) (fun e => hS _ e h.r1) (fun e => hS _ e h.r2), fun L hL => (h.oth L hL).kept hk fun e => hS _ e h.ro, h.n1, h.n2, h.nc, h.rc, h.rs, h.rg, h.r1, h.r2, h.ro, Nat.le_trans h.hs hk.size⟩
theorem ConnAt.kept (h : ConnAt w lo hi c x) (hk : Kept S w w') (hS : ∀ k, S k → ¬ (lo ≤ k ∧ k < hi)) : ConnAt w' lo hi c x := by
  obtain ⟨gs, g, m1, m2, mo, h⟩ := h
  exact ⟨gs, g, m1, m2, mo, h.kept hk hS⟩
theorem ConnAt.keptN (h : ConnAt w lo hi c x) (hk : Kept noBlock w w') : ConnAt w' lo hi c x := h.kept hk fun _ e => e.elim
theorem ConnAt.rc (h : ConnAt w lo hi c x) : lo ≤ c ∧ c < hi ∧ hi ≤ w.heap.size := by
  obtain ⟨gs, g, m1, m2, mo, h⟩ := h
  exact ⟨h.rc.1, h.rc.2, h.hs⟩
end
/-- What comes of something: what is written, and the rest of its cells. -/
def OutAt (w : World) (o B : Nat) (X : List UInt8) (an nt : Value) (rd : Bool) (dd : Int) (ls : Value) : Prop :=
  ∃ A n k, n = X.length ∧ Blk w o 84 #[.slice A n k, an, nt, .bool rd, .int .i64 dd, ls] ∧ w.ownsRow B 5 1 (.slice A n k) n (Lib.byteCells X) ∧ o < B
theorem OutAt.kept {w w' : World} {o B : Nat} {X : List UInt8} {an nt : Value} {rd : Bool} {dd : Int} {ls : Value} {S : Nat → Prop} (h : OutAt w o B X an nt rd dd ls) (hk : Kept S w w') (ho : ¬ S o) (hB : ∀ k, B ≤ k → ¬ S k) : OutAt w' o B X an nt rd dd ls := by
  obtain ⟨A, n, k, hn, hb, hr, hl⟩ := h
  exact ⟨A, n, k, hn, hb.kept hk ho, own_keptB hr hk fun i hi e => hB i (own_type hr hi).1 e, hl⟩
theorem OutAt.keptN {w w' : World} {o B : Nat} {X : List UInt8} {an nt : Value} {rd : Bool} {dd : Int} {ls : Value} (h : OutAt w o B X an nt rd dd ls) (hk : Kept noBlock w w') : OutAt w' o B X an nt rd dd ls := h.kept hk (fun e => e) fun _ _ e => e
/-- What a step of a connection may touch. -/
def outS (lo hi o B : Nat) : Nat → Prop := fun k => (lo ≤ k ∧ k < hi) ∨ k = o ∨ B ≤ k
theorem outS_trans {lo hi o B : Nat} {a b c : World} (h : Kept (outS lo hi o B) a b) (k : Kept (outS lo hi o B) b c) : Kept (outS lo hi o B) a c := h.trans k fun _ _ e => e
end Go.Proofs.YtfnjoceolcdeoaaGreatDoor
namespace Go.Proofs.YtfnjoceolcdeoaaGreatDoor
set_option linter.unusedVariables false
open Go.RowKit

/-- What a write comes to: the stream that was taken, or that there is none. -/
def WrCase (x : XC) (X : List UInt8) (op : UInt8) (l : List UInt8) (u : Int) (id : Int) (ok : Bool) (x' : XC) (X' : List UInt8) : Prop :=
  (ok = true ∧ (∃ i : Nat, id = (i : Int) ∧ id < x.ss.n ∧ x.ss.owed id = false ∧ (∀ j : Nat, j < i → x.ss.owed (j : Int) = true) ∧ x' = { x with ss := x.ss.take id u } ∧ X' = X ++ (hdrB i op l.length ++ l))) ∨
  (ok = false ∧ id = -1 ∧ x' = x ∧ X' = X ∧ ∀ j : Nat, (j : Int) < x.ss.n → x.ss.owed (j : Int) = true)
def WritePost (w : World) (lo hi c : Nat) (x : XC) (o B : Nat) (X : List UInt8) (an nt : Value) (rd : Bool) (dd : Int) (ls : Value) (op : UInt8) (l : List UInt8) (u : Int) (e : Ending) (w' : World) : Prop :=
  ∃ (id : Int) (ok : Bool) (x' : XC) (X' : List UInt8), e = .returned (.tuple #[.int .i64 id, .bool ok]) ∧ ConnAt w' lo hi c x' ∧ OutAt w' o B X' an nt rd dd ls ∧ Kept (outS lo hi o B) w w' ∧ WrCase x X op l u id ok x' X'

theorem SAt.sep {w : World} {g m1 m2 : Nat} {s : XS} (h : SAt w g m1 m2 s) {t : TypeId} {b : Nat} {cs : Array Value} (hb : Blk w b t cs) (ht : t ≠ 135) : ¬ three g m1 m2 b := by
  obtain ⟨cs', k0, hg, hc, ha, ho, hne, hok⟩ := h
  rintro (e | e | e)
  · exact Blk.ne_ hb hg ht e
  · exact ha.ne_blk hb e
  · exact ho.ne_blk hb e
theorem Sl.keptSt {w w' : World} {g m1 m2 : Nat} {s : XS} (h : SAt w g m1 m2 s) {v : Value} {n : Nat} {xs : List Value} (hs : Sl w 5 1 v n xs) (hk : Kept (three g m1 m2) w w') : Sl w' 5 1 v n xs := SlK.kept hs hk (by
  obtain ⟨cs', k0, hg, hc, ha, ho, hne, hok⟩ := h
  rintro b cs fz (rfl | rfl | rfl) hh
  · unfold Blk at hg
    rw [hg] at hh
    injection hh with hh
    injection hh with _ h3 _
    exact absurd h3 (by decide)
  · obtain ⟨es, ck, h2⟩ := ha.heap
    rw [h2] at hh; cases hh
  · obtain ⟨es, ck, h2⟩ := ho.heap
    rw [h2] at hh; cases hh)
theorem ConnIn.take {w w1 : World} {lo hi c gs g m1 m2 mo : Nat} {x : XC} (h : ConnIn w lo hi c gs g m1 m2 mo x) {s' : XS} (hst : SAt w1 g m1 m2 s') (hk : Kept (three g m1 m2) w w1) : ConnIn w1 lo hi c gs g m1 m2 mo { x with ss := s' } :=
  ⟨h.blk.kept hk (h.str.sep h.blk (by decide)), h.spl.kept hk (h.str.sep h.spl (by decide)), hst, fun L hL => (h.oth L hL).kept hk (by
    rintro (e | e | e)
    · exact h.nc.2.2 e
    · exact h.n1 e
    · exact h.n2 e), h.n1, h.n2, h.nc, h.rc, h.rs, h.rg, h.r1, h.r2, h.ro, Nat.le_trans h.hs hk.size⟩
theorem ConnIn.inThree {w : World} {lo hi c gs g m1 m2 mo : Nat} {x : XC} (h : ConnIn w lo hi c gs g m1 m2 mo x) {k : Nat} (hk : three g m1 m2 k) : lo ≤ k ∧ k < hi := by
  rcases hk with rfl | rfl | rfl
  · exact h.rg
  · exact h.r1
  · exact h.r2
set_option maxHeartbeats 4000000 in
set_option maxRecDepth 100000 in
theorem cnWrite_at {w : World} {lo hi c : Nat} {x : XC} (h : ConnAt w lo hi c x) (hT : Tab w) (hG : 2 < lo) {o B : Nat} {X : List UInt8} {an nt : Value} {rd : Bool} {dd : Int} {ls : Value} (hO : OutAt w o B X an nt rd dd ls) (hoB : ¬ (lo ≤ o ∧ o < hi)) (hB : hi ≤ B) (hBs : B ≤ w.heap.size)
    (op : UInt8) (hop : op ∈ reqOps) {A : Option Addr} {n k : Nat} {l : List UInt8} (hs : Sl w 5 1 (.slice A n k) n (Lib.byteCells l)) (hn : n ≤ 1048576) (hX : X.length ≤ 100000000) (u : Int) (hu : 0 ≤ u ∧ u < 18446744073709551616) :
    Calls Tryz.prog 45 #[.pointer (some ⟨c, 0, none⟩), .int .u8 (op.toNat : Int), .slice A n k, .int .u64 u, .pointer (some ⟨o, 0, none⟩)] w (WritePost w lo hi c x o B X an nt rd dd ls op l u) := by
  obtain ⟨gs, g, m1, m2, mo, h⟩ := h
  have y10 := h.blk.cell 10
  simp only [XC.C, List.getElem?_toArray, List.getElem?_cons_zero, List.getElem?_cons_succ] at y10
  have HT := Lib.hid (Take_at h.str hT ⟨by have := h.rg; omega, by have := h.r1; omega, by have := h.r2; omega⟩ u hu)
  have H := Lib.hid h
  have HO := Lib.hid hO
  have HS := Lib.hid hs
  clear h hO hs
  go_enter Tryz.func45, Tryz.ntmps45
  go_wp2_with fail
  go_at_call 65
  refine HT.out.mono ?_
  intro e w1 hp
  have hnn := H.out.str.ok.n2
  have hbl := HS.out.run_len bytesQT
  have hll : l.length = n := by have := HS.out.len; unfold Lib.byteCells at this; rw [List.length_map, Nat.mul_one] at this; exact this
  have HLL := Lib.hid hll
  rcases hp with ⟨id, hid, how, hlow, rfl, hst, hk1⟩ | ⟨hall, rfl, hst, hk1⟩
  · have h16 : IntKind.i16.wrap (id : Int) = (id : Int) := by simp [IntKind.wrap, IntKind.bits, IntKind.signed]; omega
    have h32 : IntKind.u32.wrap (n : Int) = (n : Int) := by rw [IntKind.wrap_u32]; omega
    have HJ := Lib.hid (spJoin_at id (by omega) op hop (Sl.keptSt H.out.str HS.out hk1) hn)
    have HC1 := Lib.hid (H.out.take hst hk1)
    have HK1 : Hid (Kept (outS lo hi o B) w w1) := Lib.hid (hk1.mono fun k _ e => .inl (H.out.inThree e))
    have HO1 := Lib.hid (HO.out.kept hk1 (fun e => hoB (H.out.inThree e)) fun k hk e => by have := H.out.inThree e; omega)
    have HID := Lib.hid (⟨hid, how, hlow⟩ : (id : Int) < x.ss.n ∧ x.ss.owed (id : Int) = false ∧ ∀ j : Nat, j < id → x.ss.owed (j : Int) = true)
    have hid2 : id < 32768 := by omega
    clear hid how hlow hst hk1 hll
    go_wp2_with fail
    go_at_call 66
    refine HJ.out.mono ?_
    rintro e w2 ⟨v2, rfl, ho2, hk2⟩
    obtain ⟨A2, k2, rfl, -, -⟩ := (Sl.of_own ho2).shape
    obtain ⟨Ao, no, ko, hno, hbo, hro, hlt⟩ := HO1.out.keptN hk2
    have HK2 := Lib.hid (outS_trans HK1.out (hk2.of_none (S := outS lo hi o B)))
    have HK12 : Hid (Kept (fun k => k = o ∨ B ≤ k) w1 w2) := Lib.hid hk2.of_none
    have HBO := Lib.hid hbo
    have HRO := Lib.hid hro
    have HO2 := Lib.hid ho2
    have HNO := Lib.hid hno
    have z0 := hbo.cell 0
    simp only [List.getElem?_toArray, List.getElem?_cons_zero] at z0
    have hsz2 : B ≤ w2.heap.size := Nat.le_trans hBs HK2.out.size
    have hnb : no ≤ 100000000 := by omega
    clear hk2 hno hbo hro ho2
    go_wp2_with (at_builtin; go_must (refine wpList_append_sl _ bytesQT rfl (.tmp 44) (.tmp 45) rfl B _ no (Lib.byteCells X) rfl HRO.out _ (9 + n) (Lib.byteCells (hdrB id op n ++ l)) rfl (Sl.of_own HO2.out) (fun u hu => byteCells_one hu) ?c1 ?c2 ?_))
    case c1 => omega
    case c2 => exact hsz2
    intro v' w3 hap
    have hB3 : ∀ k, (Value.slice Ao no ko).ownBlock = some k → B ≤ k := fun k e => (own_type HRO.out e).1
    have hbo3 := HBO.out.kept hap.kept (fun e => by have := hB3 _ e; omega)
    have hown := hap.own
    obtain ⟨A3, k3, rfl, -, -⟩ := (Sl.of_own hown).shape
    have HBO3 := Lib.hid hbo3
    have HRO3 := Lib.hid hown
    have HK3 := Lib.hid (outS_trans HK2.out (hap.kept.mono fun k _ e => .inr (.inr (hB3 k e))))
    have HK23 := Lib.hid ((hap.kept.mono (T := fun k => k = o ∨ B ≤ k) fun k _ e => .inr (hB3 k e)))
    have y0 := hbo3.cell 0
    simp only [List.getElem?_toArray, List.getElem?_cons_zero] at y0
    have f0 := hbo3.frozen 0
    clear z0 hap hbo3 hown hB3
    go_wp2
    go_ret2
    have HKE := Lib.hid ((HK12.out.trans HK23.out fun _ _ e => e).setCell (p := ⟨o, 0, none⟩) (fun _ => .inl rfl) (.slice A3 (no + (9 + n)) k3))
    refine ⟨id, true, { x with ss := x.ss.take id u }, X ++ (hdrB id op n ++ l), rfl, ⟨gs, g, m1, m2, mo, HC1.out.kept HKE.out fun k e => by rcases e with rfl | e <;> omega⟩, ⟨A3, no + (9 + n), k3, ?_, HBO3.out.set_ 0 _, ?_, hlt⟩, HK3.out.setCell (p := ⟨o, 0, none⟩) (fun _ => .inr (.inl rfl)) _, .inl ⟨rfl, id, rfl, HID.out.1, HID.out.2.1, HID.out.2.2, rfl, by rw [HLL.out]⟩⟩
    · rw [List.length_append, List.length_append, hdrB_len, HLL.out, HNO.out]
    · rw [byteCells_app]
      exact own_far HRO3.out HBO3.out (by decide) 0 _
  · have HC1 := Lib.hid (H.out.take hst hk1)
    have HK1 : Hid (Kept (outS lo hi o B) w w1) := Lib.hid (hk1.mono fun k _ e => .inl (H.out.inThree e))
    have HO1 := Lib.hid (HO.out.kept hk1 (fun e => hoB (H.out.inThree e)) fun k hk e => by have := H.out.inThree e; omega)
    have HALL := Lib.hid hall
    clear hst hk1 hall
    go_wp2
    go_ret2
    exact ⟨-1, false, x, X, rfl, ⟨gs, g, m1, m2, mo, HC1.out⟩, HO1.out, HK1.out, .inr ⟨rfl, rfl, rfl, rfl, HALL.out⟩⟩
end Go.Proofs.YtfnjoceolcdeoaaGreatDoor

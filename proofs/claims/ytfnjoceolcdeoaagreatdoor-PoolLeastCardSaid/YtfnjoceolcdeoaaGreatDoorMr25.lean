/- A pool's events of what is written · A pool's events of a connection that is ready · What comes of something (Out), with its rows: what is written, answers, events, streams that are lost · A connection writes a request on a stream that is free, whatever else came · A connection goes to a state of the handshake, whatever else came. -/
import Derived.Test.YtfnjoceolcdeoaaGreatDoorMr24
import Derived.Test.YtfnjoceolcdeoaaGreatDoorMr14
namespace Go.Proofs.YtfnjoceolcdeoaaGreatDoor
set_option linter.unusedVariables false
open Go.RowKit

set_option maxHeartbeats 8000000 in
set_option maxRecDepth 100000 in
/-- Something was written. -/
theorem poEvents_wrote (p : Nat) (id : Int) (A A1 A2 A3 : Option Addr) (n k k1 k2 n3 k3 : Nat) (hn : 0 < n) (now draw : Int) (w : World) :
    Calls Tryz.prog 22 #[.pointer (some ⟨p, 0, none⟩), .int .i64 id, .agg #[.slice A n k, .slice A1 0 k1, .slice A2 0 k2, .bool false, .int .i64 0, .slice A3 n3 k3], .int .u64 now, .int .u64 draw] w fun e w' => ∃ A' c', e = .returned (.slice A' 1 c') ∧ Kept noBlock w w' := by
  have HB0 := Lib.hid (Blk.new w 84 #[.slice A n k, .slice A1 0 k1, .slice A2 0 k2, .bool false, .int .i64 0, .slice A3 n3 k3])
  have HK0 := Lib.hid ((Kept.refl noBlock w).alloc (.cells #[.slice A n k, .slice A1 0 k1, .slice A2 0 k2, .bool false, .int .i64 0, .slice A3 n3 k3] 84))
  go_enter Tryz.func22, Tryz.ntmps22
  go_upto_region 2 with (fail)
  generalize hw1 : w.alloc (.cells #[.slice A n k, .slice A1 0 k1, .slice A2 0 k2, .bool false, .int .i64 0, .slice A3 n3 k3] 84) = w1 at *
  generalize hg : w.heap.size = g at *
  clear hw1
  have hgt : decide ((0 : Int) < (n : Int)) = true := by simpa using hn
  have hg1 := HB0.out.lt
  obtain ⟨z0, z1, z2, z3, z4, z5⟩ := cells6o HB0.out
  go_wp2_with (first
    | (refine wpList_rd rfl (d := 24) rfl (.agg #[.int .i64 id, .int .i64 2, .slice A n k, .int .i64 0, .int .u8 0, .int .u8 0, .int .i16 0, .int .u8 0, .int .u32 0, .slice none 0 0, .string noStr, .string noStr, .slice none 0 0, .int .u32 0, .string noStr, .string noStr, .string noStr, .string noStr, .slice none 0 0, .int .i64 0, .slice none 0 0]) (by kernel_rfl) ?_)
    | (at_builtin; go_must (refine wpList_append_sl _ evT rfl (.tmp 20) (.tmp 25) rfl g _ 0 [] rfl (World.ownsRow_nil _ _ _ _) _ 1 (evC id 2 (.slice A n k) 0 (.slice none 0 0)) rfl (Sl.made_at (sz := 21) (n := 1) (Blk.new w1 51 #[.int .i64 id, .int .i64 2, .slice A n k, .int .i64 0, .int .u8 0, .int .u8 0, .int .i16 0, .int .u8 0, .int .u32 0, .slice none 0 0, .string noStr, .string noStr, .slice none 0 0, .int .u32 0, .string noStr, .string noStr, .string noStr, .string noStr, .slice none 0 0, .int .i64 0, .slice none 0 0]) _ rfl rfl (by decide)) evC_one ?c1 ?c2 ?_)))
  case c1 => decide
  case c2 => rw [sz_alloc]; omega
  intro v' W6 hap
  have hk6 : Kept noBlock w1 W6 := ((Kept.refl noBlock w1).alloc _).trans hap.keptNil fun _ _ e => e
  obtain ⟨A6, c6, rfl, -, -⟩ := (Sl.of_own hap.own).shape
  obtain ⟨z0, z1, z2, z3, z4, z5⟩ := cells6o (HB0.out.kept hk6 fun e => e)
  have HK6 := Lib.hid (HK0.out.trans hk6 fun _ _ e => e)
  clear hap hk6
  go_wp2_with fail
  go_loopg [11, 30] 0 (fun j v11 v30 wr => v11 = .slice A6 (0 + 1) c6 ∧ v30 = .int .i64 0 ∧ wr = W6)
  case atStart => exact ⟨rfl, rfl, rfl⟩
  case round =>
    obtain ⟨rfl, rfl, hwr⟩ := hrel
    rw [hwr]
    clear hwr
    go_wp2_with fail
    go_loopg [11, 44] 0 (fun j v11 v44 wx => v11 = .slice A6 (0 + 1) c6 ∧ v44 = .int .i64 0 ∧ wx = W6)
    case atStart => exact ⟨rfl, rfl, rfl⟩
    case round =>
      obtain ⟨rfl, rfl, hwx⟩ := hrel
      rw [hwx]
      clear hwx
      go_wp2
      go_ret
      exact ⟨A6, c6, rfl, HK6.out⟩

end Go.Proofs.YtfnjoceolcdeoaaGreatDoor
namespace Go.Proofs.YtfnjoceolcdeoaaGreatDoor
set_option linter.unusedVariables false
open Go.RowKit

set_option maxHeartbeats 8000000 in
set_option maxRecDepth 100000 in
/-- It is ready now. -/
theorem poEvents_ready {w : World} {p m : Nat} {x : XP} {L : List (Int × CN)} (h : PoolAt w p m x L) (id : Int) (A A1 A2 A3 : Option Addr) (k k1 k2 n3 k3 : Nat) (now draw : Int) :
    Calls Tryz.prog 22 #[.pointer (some ⟨p, 0, none⟩), .int .i64 id, .agg #[.slice A 0 k, .slice A1 0 k1, .slice A2 0 k2, .bool true, .int .i64 0, .slice A3 n3 k3], .int .u64 now, .int .u64 draw] w fun e w' => ∃ A' c', e = .returned (.slice A' 1 c') ∧ PoolAt w' p m { x with failed := 0 } L ∧ Kept (fun k => k = p) w w' := by
  have HB0 := Lib.hid (Blk.new w 84 #[.slice A 0 k, .slice A1 0 k1, .slice A2 0 k2, .bool true, .int .i64 0, .slice A3 n3 k3])
  have HK0 := Lib.hid ((Kept.refl noBlock w).alloc (.cells #[.slice A 0 k, .slice A1 0 k1, .slice A2 0 k2, .bool true, .int .i64 0, .slice A3 n3 k3] 84))
  have H := Lib.hid h
  have hpl := h.blk.lt
  clear h
  go_enter Tryz.func22, Tryz.ntmps22
  go_upto_region 2 with (fail)
  generalize hw1 : w.alloc (.cells #[.slice A 0 k, .slice A1 0 k1, .slice A2 0 k2, .bool true, .int .i64 0, .slice A3 n3 k3] 84) = w1 at *
  generalize hg : w.heap.size = g at *
  clear hw1
  have hg1 := HB0.out.lt
  obtain ⟨z0, z1, z2, z3, z4, z5⟩ := cells6o HB0.out
  have H1 := Lib.hid (H.out.keptN HK0.out)
  go_wp2_with fail
  go_loopg [11, 30] 0 (fun j v11 v30 wr => v11 = .slice none 0 0 ∧ v30 = .int .i64 0 ∧ wr = w1)
  case atStart => exact ⟨rfl, rfl, rfl⟩
  case round =>
    obtain ⟨rfl, rfl, hwr⟩ := hrel
    rw [hwr]
    clear hwr
    go_wp2_with fail
    go_loopg [11, 44] 0 (fun j v11 v44 wx => v11 = .slice none 0 0 ∧ v44 = .int .i64 0 ∧ wx = w1)
    case atStart => exact ⟨rfl, rfl, rfl⟩
    case round =>
      obtain ⟨rfl, rfl, hwx⟩ := hrel
      rw [hwx]
      clear hwx
      have hb1 := H1.out.blk
      have y16 : w1.cell? ⟨p, 16, none⟩ = some (.int .u64 x.failed) := hb1.cell 16
      have f16 := hb1.frozen 16
      have HBP := Lib.hid (hb1.set_ 16 (.int .u64 0))
      have HKP := Lib.hid ((Kept.refl (fun k => k = p) w1).setCell (p := ⟨p, 16, none⟩) (fun _ => rfl) (.int .u64 0))
      have HBO := Lib.hid (HB0.out.far (p := ⟨p, 16, none⟩) (show g ≠ p by omega) (.int .u64 0))
      clear hb1
      go_upto_region 16 with (fail)
      generalize w1.setCell ⟨p, 16, none⟩ (.int .u64 0) = W5 at *
      obtain ⟨z0, z1, z2, z3, z4, z5⟩ := cells6o HBO.out
      have hsz5 : g ≤ W5.heap.size := by have := HBO.out.lt; omega
      clear y16 f16
      go_wp2_with (first
        | (refine wpList_rd rfl (d := 62) rfl (.agg #[.int .i64 id, .int .i64 5, .slice none 0 0, .int .i64 0, .int .u8 0, .int .u8 0, .int .i16 0, .int .u8 0, .int .u32 0, .slice none 0 0, .string noStr, .string noStr, .slice none 0 0, .int .u32 0, .string noStr, .string noStr, .string noStr, .string noStr, .slice none 0 0, .int .i64 0, .slice none 0 0]) (by kernel_rfl) ?_)
        | (at_builtin; go_must (refine wpList_append_sl _ evT rfl (.tmp 60) (.tmp 63) rfl g _ 0 [] rfl (World.ownsRow_nil _ _ _ _) _ 1 (evC id 5 (.slice none 0 0) 0 (.slice none 0 0)) rfl (Sl.made_at (sz := 21) (n := 1) (Blk.new W5 51 #[.int .i64 id, .int .i64 5, .slice none 0 0, .int .i64 0, .int .u8 0, .int .u8 0, .int .i16 0, .int .u8 0, .int .u32 0, .slice none 0 0, .string noStr, .string noStr, .slice none 0 0, .int .u32 0, .string noStr, .string noStr, .string noStr, .string noStr, .slice none 0 0, .int .i64 0, .slice none 0 0]) _ rfl rfl (by decide)) evC_one ?c1 ?c2 ?_)))
      case c1 => decide
      case c2 => rw [sz_alloc]; omega
      intro v' W6 hap
      have hk6 : Kept noBlock W5 W6 := ((Kept.refl noBlock W5).alloc _).trans hap.keptNil fun _ _ e => e
      obtain ⟨A6, c6, rfl, -, -⟩ := (Sl.of_own hap.own).shape
      obtain ⟨z0, z1, z2, z3, z4, z5⟩ := cells6o (HBO.out.kept hk6 fun e => e)
      have HK6 := Lib.hid (HKP.out.trans hk6 fun _ _ e => e.elim)
      have HBF := Lib.hid (HBP.out.kept hk6 fun e => e)
      clear hap hk6
      go_wp2_with fail
      go_ret
      exact ⟨A6, c6, rfl, H1.out.setp (x' := { x with failed := 0 }) HK6.out HBF.out rfl, HK0.out.of_none.trans HK6.out fun _ _ e => e⟩

end Go.Proofs.YtfnjoceolcdeoaaGreatDoor
namespace Go.Proofs.YtfnjoceolcdeoaaGreatDoor
set_option linter.unusedVariables false
open Go.RowKit

/-- A row: how many, and their cells. -/
abbrev RwN := Nat × List Value
def rwN0 : RwN := (0, [])
def OutB (w : World) (o B : Nat) (X : List UInt8) (an nt : RwN) (rd : Bool) (dd : Int) (ls : RwN) : Prop :=
  ∃ A n k va vn vl, n = X.length ∧ Blk w o 84 #[.slice A n k, va, vn, .bool rd, .int .i64 dd, vl] ∧ w.ownsRow B 5 1 (.slice A n k) n (Lib.byteCells X) ∧ w.ownsRow B 42 7 va an.1 an.2 ∧ w.ownsRow B 48 9 vn nt.1 nt.2 ∧ w.ownsRow B 3 1 vl ls.1 ls.2 ∧ o < B
section
variable {w w' : World} {o B : Nat} {X : List UInt8} {an nt : RwN} {rd : Bool} {dd : Int} {ls : RwN} {S : Nat → Prop}
theorem OutB.kept (h : OutB w o B X an nt rd dd ls) (hk : Kept S w w') (ho : ¬ S o) (hB : ∀ k, B ≤ k → ¬ S k) : OutB w' o B X an nt rd dd ls := by
  obtain ⟨A, n, k, va, vn, vl, hn, hb, hr, ha, ht, hs, hl⟩ := h
  exact ⟨A, n, k, va, vn, vl, hn, hb.kept hk ho, own_keptB hr hk fun i hi e => hB i (own_type hr hi).1 e, own_keptB ha hk fun i hi e => hB i (own_type ha hi).1 e, own_keptB ht hk fun i hi e => hB i (own_type ht hi).1 e, own_keptB hs hk fun i hi e => hB i (own_type hs hi).1 e, hl⟩
theorem OutB.keptN (h : OutB w o B X an nt rd dd ls) (hk : Kept noBlock w w') : OutB w' o B X an nt rd dd ls := h.kept hk (fun e => e) fun _ _ e => e
theorem OutB.oB (h : OutB w o B X an nt rd dd ls) : o < B := by
  obtain ⟨A, n, k, va, vn, vl, hn, hb, hr, ha, ht, hs, hl⟩ := h
  exact hl
/-- A row of another type stays, where a block of one type changes. -/
theorem own_other {B' : Nat} {t e : TypeId} {sz n : Nat} {v u : Value} {xs ys : List Value} {sz' n' : Nat} (h : w.ownsRow B e sz v n xs) (ho : w.ownsRow B' t sz' u n' ys) (hne : t ≠ e) (hk : Kept (fun i => u.ownBlock = some i) w w') : w'.ownsRow B e sz v n xs :=
  own_kept h hk fun g cs hg _ hh => by
    obtain ⟨_, cs', h2⟩ := own_type ho hg
    rw [hh] at h2
    injection h2 with h2
    injection h2 with _ h3
    exact hne h3.symm
end
/-- Blocks of one type, from B on. -/
def tyS (w : World) (B : Nat) (t : TypeId) (k : Nat) : Prop := B ≤ k ∧ ∃ cs fz, w.heap[k]? = some (.cells cs t fz)
/-- What a step may touch, told by types. -/
def tyO (w : World) (lo hi o B : Nat) (t : TypeId) : Nat → Prop := fun k => (lo ≤ k ∧ k < hi) ∨ k = o ∨ tyS w B t k
theorem tyO_trans {lo hi o B : Nat} {t : TypeId} {a b c : World} (h : Kept (tyO a lo hi o B t) a b) (k : Kept (tyO b lo hi o B t) b c) : Kept (tyO a lo hi o B t) a c :=
  h.trans k fun i hlt e => by
    by_cases hS : tyO a lo hi o B t i
    · exact hS
    · rcases e with e | e | ⟨e1, cs, fz, e2⟩
      · exact .inl e
      · exact .inr (.inl e)
      · exact .inr (.inr ⟨e1, cs, fz, (h.block i hlt hS) ▸ e2⟩)
theorem tyO_out {lo hi o B : Nat} {t : TypeId} {a b : World} (h : Kept (tyO a lo hi o B t) a b) : Kept (outS lo hi o B) a b :=
  h.mono fun k _ e => by
    rcases e with e | e | ⟨e1, _⟩
    · exact .inl e
    · exact .inr (.inl e)
    · exact .inr (.inr e1)
end Go.Proofs.YtfnjoceolcdeoaaGreatDoor
namespace Go.Proofs.YtfnjoceolcdeoaaGreatDoor
set_option linter.unusedVariables false
open Go.RowKit

def WritePost2 (w : World) (lo hi c : Nat) (x : XC) (o B : Nat) (X : List UInt8) (an nt : RwN) (rd : Bool) (dd : Int) (ls : RwN) (op : UInt8) (l : List UInt8) (u : Int) (e : Ending) (w' : World) : Prop :=
  ∃ (id : Int) (ok : Bool) (x' : XC) (X' : List UInt8), e = .returned (.tuple #[.int .i64 id, .bool ok]) ∧ ConnAt w' lo hi c x' ∧ OutB w' o B X' an nt rd dd ls ∧ Kept (outS lo hi o B) w w' ∧ WrCase x X op l u id ok x' X'
set_option maxHeartbeats 4000000 in
set_option maxRecDepth 100000 in
theorem cnWrite2_at {w : World} {lo hi c : Nat} {x : XC} (h : ConnAt w lo hi c x) (hT : Tab w) (hG : 2 < lo) {o B : Nat} {X : List UInt8} {an nt : RwN} {rd : Bool} {dd : Int} {ls : RwN} (hO : OutB w o B X an nt rd dd ls) (hoB : ¬ (lo ≤ o ∧ o < hi)) (hB : hi ≤ B) (hBs : B ≤ w.heap.size)
    (op : UInt8) (hop : op ∈ reqOps) {A : Option Addr} {n k : Nat} {l : List UInt8} (hs : Sl w 5 1 (.slice A n k) n (Lib.byteCells l)) (hn : n ≤ 1048576) (hX : X.length ≤ 100000000) (u : Int) (hu : 0 ≤ u ∧ u < 18446744073709551616) :
    Calls Tryz.prog 45 #[.pointer (some ⟨c, 0, none⟩), .int .u8 (op.toNat : Int), .slice A n k, .int .u64 u, .pointer (some ⟨o, 0, none⟩)] w (WritePost2 w lo hi c x o B X an nt rd dd ls op l u) := by
  obtain ⟨gs, g, m1, m2, mo, h⟩ := h
  have y10 := h.blk.cell 10
  simp only [XC.C, List.getElem?_toArray, List.getElem?_cons_zero, List.getElem?_cons_succ] at y10
  have HT := Lib.hid (Take_at h.str hT ⟨by have := h.rg; omega, by have := h.r1; omega, by have := h.r2; omega⟩ u hu)
  have H := Lib.hid h
  have HO := Lib.hid hO
  have HS := Lib.hid hs
  clear h hO hs
  go_enter Tryz.func45, Tryz.ntmps45
  go_wp2_with fail
  go_at_call 65
  refine HT.out.mono ?_
  intro e w1 hp
  have hnn := H.out.str.ok.n2
  have hbl := HS.out.run_len bytesQT
  have hll : l.length = n := by have := HS.out.len; unfold Lib.byteCells at this; rw [List.length_map, Nat.mul_one] at this; exact this
  have HLL := Lib.hid hll
  rcases hp with ⟨id, hid, how, hlow, rfl, hst, hk1⟩ | ⟨hall, rfl, hst, hk1⟩
  · have h16 : IntKind.i16.wrap (id : Int) = (id : Int) := by simp [IntKind.wrap, IntKind.bits, IntKind.signed]; omega
    have h32 : IntKind.u32.wrap (n : Int) = (n : Int) := by rw [IntKind.wrap_u32]; omega
    have HJ := Lib.hid (spJoin_at id (by omega) op hop (Sl.keptSt H.out.str HS.out hk1) hn)
    have HC1 := Lib.hid (H.out.take hst hk1)
    have HK1 : Hid (Kept (outS lo hi o B) w w1) := Lib.hid (hk1.mono fun k _ e => .inl (H.out.inThree e))
    have HO1 := Lib.hid (HO.out.kept hk1 (fun e => hoB (H.out.inThree e)) fun k hk e => by have := H.out.inThree e; omega)
    have HID := Lib.hid (⟨hid, how, hlow⟩ : (id : Int) < x.ss.n ∧ x.ss.owed (id : Int) = false ∧ ∀ j : Nat, j < id → x.ss.owed (j : Int) = true)
    have hid2 : id < 32768 := by omega
    clear hid how hlow hst hk1 hll
    go_wp2_with fail
    go_at_call 66
    refine HJ.out.mono ?_
    rintro e w2 ⟨v2, rfl, ho2, hk2⟩
    obtain ⟨A2, k2, rfl, -, -⟩ := (Sl.of_own ho2).shape
    obtain ⟨Ao, no, ko, va, vn, vl, hno, hbo, hro, hra, hrn, hrl, hlt⟩ := HO1.out.keptN hk2
    have HK2 := Lib.hid (outS_trans HK1.out (hk2.of_none (S := outS lo hi o B)))
    have HK12 : Hid (Kept (fun k => k = o ∨ B ≤ k) w1 w2) := Lib.hid hk2.of_none
    have HBO := Lib.hid hbo
    have HRO := Lib.hid hro
    have HRR := Lib.hid (⟨hra, hrn, hrl⟩ : w2.ownsRow B 42 7 va an.1 an.2 ∧ w2.ownsRow B 48 9 vn nt.1 nt.2 ∧ w2.ownsRow B 3 1 vl ls.1 ls.2)
    have HO2 := Lib.hid ho2
    have HNO := Lib.hid hno
    have z0 := hbo.cell 0
    simp only [List.getElem?_toArray, List.getElem?_cons_zero] at z0
    have hsz2 : B ≤ w2.heap.size := Nat.le_trans hBs HK2.out.size
    have hnb : no ≤ 100000000 := by omega
    clear hk2 hno hbo hro ho2 hra hrn hrl
    go_wp2_with (at_builtin; go_must (refine wpList_append_sl _ bytesQT rfl (.tmp 44) (.tmp 45) rfl B _ no (Lib.byteCells X) rfl HRO.out _ (9 + n) (Lib.byteCells (hdrB id op n ++ l)) rfl (Sl.of_own HO2.out) (fun u hu => byteCells_one hu) ?c1 ?c2 ?_))
    case c1 => omega
    case c2 => exact hsz2
    intro v' w3 hap
    have hB3 : ∀ k, (Value.slice Ao no ko).ownBlock = some k → B ≤ k := fun k e => (own_type HRO.out e).1
    have hbo3 := HBO.out.kept hap.kept (fun e => by have := hB3 _ e; omega)
    have hown := hap.own
    have HRR3 := Lib.hid (⟨own_other HRR.out.1 HRO.out (by decide) hap.kept, own_other HRR.out.2.1 HRO.out (by decide) hap.kept, own_other HRR.out.2.2 HRO.out (by decide) hap.kept⟩ : w3.ownsRow B 42 7 va an.1 an.2 ∧ w3.ownsRow B 48 9 vn nt.1 nt.2 ∧ w3.ownsRow B 3 1 vl ls.1 ls.2)
    obtain ⟨A3, k3, rfl, -, -⟩ := (Sl.of_own hown).shape
    have HBO3 := Lib.hid hbo3
    have HRO3 := Lib.hid hown
    have HK3 := Lib.hid (outS_trans HK2.out (hap.kept.mono fun k _ e => .inr (.inr (hB3 k e))))
    have HK23 := Lib.hid ((hap.kept.mono (T := fun k => k = o ∨ B ≤ k) fun k _ e => .inr (hB3 k e)))
    have y0 := hbo3.cell 0
    simp only [List.getElem?_toArray, List.getElem?_cons_zero] at y0
    have f0 := hbo3.frozen 0
    clear z0 hap hbo3 hown hB3
    go_wp2
    go_ret2
    have HKE := Lib.hid ((HK12.out.trans HK23.out fun _ _ e => e).setCell (p := ⟨o, 0, none⟩) (fun _ => .inl rfl) (.slice A3 (no + (9 + n)) k3))
    refine ⟨id, true, { x with ss := x.ss.take id u }, X ++ (hdrB id op n ++ l), rfl, ⟨gs, g, m1, m2, mo, HC1.out.kept HKE.out fun k e => by rcases e with rfl | e <;> omega⟩, ⟨A3, no + (9 + n), k3, va, vn, vl, ?_, HBO3.out.set_ 0 _, ?_, own_far HRR3.out.1 HBO3.out (by decide) 0 _, own_far HRR3.out.2.1 HBO3.out (by decide) 0 _, own_far HRR3.out.2.2 HBO3.out (by decide) 0 _, hlt⟩, HK3.out.setCell (p := ⟨o, 0, none⟩) (fun _ => .inr (.inl rfl)) _, .inl ⟨rfl, id, rfl, HID.out.1, HID.out.2.1, HID.out.2.2, rfl, by rw [HLL.out]⟩⟩
    · rw [List.length_append, List.length_append, hdrB_len, HLL.out, HNO.out]
    · rw [byteCells_app]
      exact own_far HRO3.out HBO3.out (by decide) 0 _
  · have HC1 := Lib.hid (H.out.take hst hk1)
    have HK1 : Hid (Kept (outS lo hi o B) w w1) := Lib.hid (hk1.mono fun k _ e => .inl (H.out.inThree e))
    have HO1 := Lib.hid (HO.out.kept hk1 (fun e => hoB (H.out.inThree e)) fun k hk e => by have := H.out.inThree e; omega)
    have HALL := Lib.hid hall
    clear hst hk1 hall
    go_wp2
    go_ret2
    exact ⟨-1, false, x, X, rfl, ⟨gs, g, m1, m2, mo, HC1.out⟩, HO1.out, HK1.out, .inr ⟨rfl, rfl, rfl, rfl, HALL.out⟩⟩
end Go.Proofs.YtfnjoceolcdeoaaGreatDoor
namespace Go.Proofs.YtfnjoceolcdeoaaGreatDoor
set_option linter.unusedVariables false
open Go.RowKit

def StepPost2 (w : World) (lo hi c : Nat) (x : XC) (st : Int) (o B : Nat) (X : List UInt8) (an nt : RwN) (rd : Bool) (dd : Int) (ls : RwN) (op : UInt8) (l : List UInt8) (e : Ending) (w' : World) : Prop :=
  ∃ (id : Int) (ok : Bool) (x' : XC) (X' : List UInt8), e = .returned (.tuple #[]) ∧ ConnAt w' lo hi c { x' with shake := id } ∧ OutB w' o B X' an nt rd dd ls ∧ Kept (outS lo hi o B) w w' ∧ WrCase (x.to st) X op l x.til id ok x' X'

set_option maxHeartbeats 4000000 in
set_option maxRecDepth 100000 in
theorem cnStep2_at {w : World} {lo hi c : Nat} {x : XC} (h : ConnAt w lo hi c x) (hT : Tab w) (hG : 2 < lo) {o B : Nat} {X : List UInt8} {an nt : RwN} {rd : Bool} {dd : Int} {ls : RwN} (hO : OutB w o B X an nt rd dd ls) (hoB : ¬ (lo ≤ o ∧ o < hi)) (hB : hi ≤ B) (hBs : B ≤ w.heap.size)
    (st : Int) (hst : st ≠ 6) (op : UInt8) (hop : op ∈ reqOps) {l : List UInt8} (hbd : ∀ W, Kept (fun k => k = c) w W → Calls Tryz.prog 34 #[.agg (cfgC x.st x.ks x.tok x.ev x.hs x.idle x.beatD x.orph), .int .i64 st] W (BodyPost W (op.toNat : Int) (l, 0))) (hn : l.length ≤ 1048576) (hX : X.length ≤ 100000000) (hu : 0 ≤ x.til ∧ x.til < 18446744073709551616) :
    Calls Tryz.prog 39 #[.pointer (some ⟨c, 0, none⟩), .int .i64 st, .pointer (some ⟨o, 0, none⟩)] w (StepPost2 w lo hi c x st o B X an nt rd dd ls op l) := by
  obtain ⟨gs, g, m1, m2, mo, h⟩ := h
  have h6 : (st == 6) = false := by rw [beq_eq_false_iff_ne]; exact hst
  have c8 : w.cell? ⟨c, 8, none⟩ = some (.int .i64 x.state) := h.blk.cell 8
  have c12 : w.cell? ⟨c, 12, none⟩ = some (.int .i64 x.shake) := h.blk.cell 12
  have f8 := h.blk.frozen 8
  have f12 := h.blk.frozen 12
  have h1 := (h.setc 8 (.int .i64 st) { x with state := st } rfl rfl (fun _ e => e) rfl rfl).setc 12 (.int .i64 (-1)) (x.to st) rfl rfl (fun _ e => e) rfl rfl
  have hk1 : Kept (fun k => k = c) w ((w.setCell ⟨c, 8, none⟩ (.int .i64 st)).setCell ⟨c, 12, none⟩ (.int .i64 (-1))) := ((Kept.refl (fun k => k = c) w).setCell (p := ⟨c, 8, none⟩) (fun _ => rfl) _).setCell (p := ⟨c, 12, none⟩) (fun _ => rfl) _
  have HBD := Lib.hid (hbd _ hk1)
  have HRC := Lib.hid h.rc
  have HT1 := Lib.hid (hT.kept hk1 (by have := h.rc; omega))
  have HO1 := Lib.hid (hO.kept hk1 (fun e => hoB (by rw [e]; exact h.rc)) fun k hk e => by have := h.rc; omega)
  have HK1 := Lib.hid hk1
  have H1 := Lib.hid h1
  obtain ⟨y0, y1, y2, y3, y4, y5, y6, y7⟩ := h1.cells8
  simp only [XC.to] at y0 y1 y2 y3 y4 y5 y6 y7
  clear hbd hk1 h1 h hO hT
  go_enter Tryz.func39, Tryz.ntmps39
  go_wp2_with fail
  go_at_call 34
  refine HBD.out.mono ?_
  rintro e w2 ⟨A2, n2, k2, rfl, hn2, hs2, hk2⟩
  have h2 := H1.out.kept hk2 (fun _ e => e.elim)
  have hsz := HK1.out.size
  have HK2 := Lib.hid ((HK1.out.mono (T := outS lo hi o B) fun k _ e => .inl (by subst e; exact HRC.out)).trans hk2.of_none fun _ _ e => e)
  have hn2' : n2 = l.length := hn2
  have HW := Lib.hid (cnWrite2_at (w := w2) ⟨gs, g, m1, m2, mo, h2⟩ (HT1.out.kept hk2 (fun e => e)) hG (HO1.out.keptN hk2) hoB hB (Nat.le_trans hBs HK2.out.size) op hop hs2 (by omega) hX x.til hu)
  have c13 : w2.cell? ⟨c, 13, none⟩ = some (.int .u64 x.til) := h2.blk.cell 13
  clear h2 hn2 hs2 hk2 y0 y1 y2 y3 y4 y5 y6 y7 c8 c12 f8 f12 hn2' hsz
  go_wp2_with fail
  go_at_call 45
  refine HW.out.mono ?_
  rintro e w3 ⟨id, ok, x', X', rfl, ⟨gs', g', m1', m2', mo', h3⟩, ho3, hk3, hcase⟩
  have c12 : w3.cell? ⟨c, 12, none⟩ = some (.int .i64 x'.shake) := h3.blk.cell 12
  have f12 := h3.blk.frozen 12
  have HC3 := Lib.hid (h3.setc 12 (.int .i64 id) { x' with shake := id } rfl rfl (fun _ e => e) rfl rfl)
  have HO3 := Lib.hid (ho3.kept ((Kept.refl (fun k => k = c) w3).setCell (p := ⟨c, 12, none⟩) (fun _ => rfl) (.int .i64 id)) (fun e => hoB (by rw [e]; exact HRC.out)) fun k hk e => by have := HRC.out; omega)
  have HK3 := Lib.hid ((outS_trans HK2.out hk3).setCell (p := ⟨c, 12, none⟩) (fun _ => .inl HRC.out) (.int .i64 id))
  have HCA := Lib.hid hcase
  clear h3 ho3 hk3 hcase
  go_wp2
  go_end0
  exact ⟨id, ok, x', X', rfl, ⟨gs', g', m1', m2', mo', HC3.out⟩, HO3.out, HK3.out, HCA.out⟩
end Go.Proofs.YtfnjoceolcdeoaaGreatDoor

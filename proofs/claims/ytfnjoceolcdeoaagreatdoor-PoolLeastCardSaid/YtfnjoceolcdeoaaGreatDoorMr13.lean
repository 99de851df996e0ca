/- header.Put, of a request's header without flags · splitter.New, splitter.Join of a request's frame · A connection as it lies in memory; what comes of something (Out). -/
import Derived.Test.YtfnjoceolcdeoaaGreatDoorMr12
import Derived.Test.YtfnjoceolcdeoaaGreatDoorMr08
import Derived.Test.YtfnjoceolcdeoaaGreatDoorMr06
import Derived.Test.YtfnjoceolcdeoaaGreatDoorMr09
import Derived.Test.YtfnjoceolcdeoaaGreatDoorMr11
namespace Go.Proofs.YtfnjoceolcdeoaaGreatDoor
set_option linter.unusedVariables false
open Go.RowKit

/-- The nine bytes ahead of a request's body. -/
def hdrB (st : Nat) (op : UInt8) (len : Nat) : List UInt8 := [4, 0] ++ (putB st 2 ++ (op :: putB len 4))
theorem hdrB_len (st : Nat) (op : UInt8) (len : Nat) : (hdrB st op len).length = 9 := by
  simp [hdrB, putB_len]
/-- What the parts of it hold, by their operations. -/
def hdP (st : Nat) (op : UInt8) (len : Nat) : Nat → List UInt8 := fun i => if i = 4 then [4, 0] else if i = 9 then putB st 2 else if i = 12 then [op] else putB len 4

set_option maxHeartbeats 4000000 in
set_option maxRecDepth 100000 in
theorem hdPut_req (st : Nat) (hst : st < 32768) (op : UInt8) (hop : op ∈ reqOps) (len : Nat) (hl : len ≤ 1048576) (w : World) :
    Calls Tryz.prog 88 #[.agg #[.int .u8 4, .int .u8 0, .int .i16 st, .int .u8 (op.toNat : Int), .int .u32 len]] w fun e w' => ∃ v, e = .returned (.tuple #[v, .int .i64 0]) ∧ w'.ownsRow w.heap.size 5 1 v 9 (Lib.byteCells (hdrB st op len)) ∧ Kept noBlock w w' := by
  have hE : opE op = 0 := by unfold opE; rw [if_pos hop]
  go_enter Tryz.func88, Tryz.ntmps88
  go_wp2_with fail
  have HB := Lib.hid (Blk.new w 40 #[.int .u8 4, .int .u8 0, .int .i16 st, .int .u8 (op.toNat : Int), .int .u32 len])
  have HK0 := Lib.hid ((Kept.refl noBlock w).alloc (.cells #[.int .u8 4, .int .u8 0, .int .i16 st, .int .u8 (op.toNat : Int), .int .u32 len] 40))
  generalize hw0 : w.alloc (.cells #[.int .u8 4, .int .u8 0, .int .i16 st, .int .u8 (op.toNat : Int), .int .u32 len] 40) = w0 at *
  generalize hg : w.heap.size = g at *
  go_at_call 74
  refine (hdCheck_req st op len hl _).mono ?_
  rintro e w1 ⟨rfl, hk⟩
  rw [hE]
  have hb1 := HB.out.kept hk (fun h => h)
  have y0 := hb1.cell 0
  have y1 := hb1.cell 1
  have y2 := hb1.cell 2
  have y3 := hb1.cell 3
  have y4 := hb1.cell 4
  simp only [List.getElem?_toArray, List.getElem?_cons_zero, List.getElem?_cons_succ] at y0 y1 y2 y3 y4
  have HK1 := Lib.hid (HK0.out.trans hk fun i _ h => h)
  have HB1 := Lib.hid hb1
  clear hk hb1
  go_wp2_with fail
  refine wp_region_mix (fun w' => Kept noBlock w1 w') [0, 1, 2, 3, 5, 6, 7, 8, 10, 11, 13, 14, 15] [4, 9, 12, 16] (fun i => if i = 16 then [9] else []) (.one 17 (.one 18 (.take 19 (.take 20 .nil)))) (by kernel_rfl) (by kernel_rfl) (by kernel_rfl) (Kept.refl _ _).drew ?_
  repeat (first
    | (refine takes_takeE rfl rfl ?_
       apply Exists.intro
       refine ⟨fun w' hS => ?_, fun K hK => ?_⟩
       · (have r0 := hS.cellN y0
          have r1 := hS.cellN y1
          have r2 := hS.cellN y2
          have r3 := hS.cellN y3
          have r4 := hS.cellN y4
          clear hS
          unfold takesAt; go_simp; rfl)
       go_simp
       refine hK _ ?_
       clear hK K))
  have hw16 : IntKind.u16.wrap (st : Int) = (st : Int) := by rw [IntKind.wrap_u16]; omega
  have hw64 : IntKind.u64.wrap (st : Int) = (st : Int) := by rw [IntKind.wrap_u64]; omega
  have hl64 : IntKind.u64.wrap (len : Int) = (len : Int) := by rw [IntKind.wrap_u64]; omega
  rw [hw16, hw64, hl64]
  refine takes_nil ?_
  have H0 := Lib.hid ((Kept.refl noBlock w1).drew)
  refine ⟨fun val => { tmps := #[.agg #[.int .u8 4, .int .u8 0, .int .i16 st, .int .u8 (op.toNat : Int), .int .u32 len], .pointer (some ⟨g, 0, none⟩), .slice none 0 0, .int .i64 0, .int .i64 0,
      .agg #[.int .u8 4, .int .u8 0, .int .i16 st, .int .u8 (op.toNat : Int), .int .u32 len], .int .i64 0, .int .i64 0, .bool false, undef, .pointer (some ⟨g, 0, none⟩), .int .u8 4, .pointer (some ⟨g, 1, none⟩), .int .u8 0, val 4,
      .pointer (some ⟨g, 2, none⟩), .int .i16 st, .int .u16 st, .int .u64 st, val 9, .pointer (some ⟨g, 3, none⟩), .int .u8 (op.toNat : Int), val 12, .pointer (some ⟨g, 4, none⟩), .int .u32 len, .int .u64 len, val 16, undef, undef], defers := [] },
    fun _ => undef, fun i v W => Sl W 5 1 v (hdP st op len i).length (Lib.byteCells (hdP st op len i)), rfl, ?_, ?_⟩
  · intro i hi val W hS hF
    simp only [List.mem_cons, List.not_mem_nil, or_false] at hi
    rcases hi with rfl | rfl | rfl | rfl
    · refine ⟨_, rfl, rfl, op_K fun K hK => ?_⟩
      go_simp
      exact hK _ _ ⟨hS.alloc _, .slice (some ⟨W.heap.size, 0, none⟩) 2 2, rfl, Sl.made_at (Blk.new W 5 #[.int .u8 4, .int .u8 0]) _ rfl rfl (by decide), fun j _ u h => h.alloc _⟩
    · refine ⟨_, rfl, rfl, op_K fun K hK => ?_⟩
      go_simp
      go_at_call 111
      refine (oPut_at st 2 (by omega) (by decide) (by decide) W).mono ?_
      rintro e w2 ⟨v, rfl, ho, hk⟩
      exact hK _ _ ⟨hS.trans hk fun _ _ e => e, v, rfl, by show Sl w2 5 1 v (putB st 2).length (Lib.byteCells (putB st 2)); rw [putB_len]; exact Sl.of_own ho, fun j _ u h => h.keptNone hk⟩
    · refine ⟨_, rfl, rfl, op_K fun K hK => ?_⟩
      go_simp
      exact hK _ _ ⟨hS.alloc _, .slice (some ⟨W.heap.size, 0, none⟩) 1 1, rfl, Sl.made_at (Blk.new W 5 #[.int .u8 (op.toNat : Int)]) _ rfl rfl (by decide), fun j _ u h => h.alloc _⟩
    · refine ⟨_, rfl, rfl, op_K fun K hK => ?_⟩
      go_simp
      go_at_call 111
      refine (oPut_at len 4 (by omega) (by decide) (by decide) W).mono ?_
      rintro e w2 ⟨v, rfl, ho, hk⟩
      exact hK _ _ ⟨hS.trans hk fun _ _ e => e, v, rfl, by show Sl w2 5 1 v (putB len 4).length (Lib.byteCells (putB len 4)); rw [putB_len]; exact Sl.of_own ho, fun j _ u h => h.keptNone hk⟩
  · intro val W hS hF
    dsimp only
    have h4 : Sl W 5 1 (val 4) 2 (Lib.byteCells [4, 0]) := hF 4 (by decide)
    have h9 : Sl W 5 1 (val 9) (putB st 2).length (Lib.byteCells (putB st 2)) := hF 9 (by decide)
    have h12 : Sl W 5 1 (val 12) 1 (Lib.byteCells [op]) := hF 12 (by decide)
    have h16 : Sl W 5 1 (val 16) (putB len 4).length (Lib.byteCells (putB len 4)) := hF 16 (by decide)
    clear hF
    generalize val 4 = v4 at *
    generalize val 9 = v9 at *
    generalize val 12 = v12 at *
    generalize val 16 = v16 at *
    rw [putB_len] at h9 h16
    obtain ⟨A4, c4, rfl, -, -⟩ := h4.shape
    obtain ⟨A9, c9, rfl, -, -⟩ := h9.shape
    obtain ⟨A12, c12, rfl, -, -⟩ := h12.shape
    obtain ⟨A16, c16, rfl, -, -⟩ := h16.shape
    refine sch_doK rfl rfl (fun K hK => ?_)
    go_simp
    refine hK _ _ (hS.alloc _) ?_
    clear hK K
    refine sch_doK rfl rfl (fun K hK => ?_)
    go_simp
    go_at_call 128
    refine (BConcat_at (L := [(.slice A4 2 c4, [4, 0]), (.slice A9 2 c9, putB st 2), (.slice A12 1 c12, [op]), (.slice A16 4 c16, putB len 4)]) (Sl.made_at (Blk.new W 30 #[.slice A4 2 c4, .slice A9 2 c9, .slice A12 1 c12, .slice A16 4 c16]) _ rfl rfl (by decide)) ?_ ?_).mono ?_
    · intro i p hp
      have hp := List.mem_of_getElem? hp
      simp only [List.mem_cons, List.not_mem_nil, or_false] at hp
      rcases hp with rfl | rfl | rfl | rfl
      · exact h4.alloc _
      · show Sl _ _ _ _ (putB st 2).length _; rw [putB_len]; exact h9.alloc _
      · exact h12.alloc _
      · show Sl _ _ _ _ (putB len 4).length _; rw [putB_len]; exact h16.alloc _
    · simp [bsTot, putB_len]
    rintro e w3 ⟨v, rfl, ho, hk⟩
    have hS3 := (hS.alloc (.cells #[.slice A4 2 c4, .slice A9 2 c9, .slice A12 1 c12, .slice A16 4 c16] 30)).trans hk fun _ _ e => e
    have HO : Hid (w3.ownsRow g 5 1 v 9 (Lib.byteCells (hdrB st op len))) := Lib.hid (by
      have e1 : bsTot [(.slice A4 2 c4, [4, 0]), (.slice A9 2 c9, putB st 2), (.slice A12 1 c12, [op]), (.slice A16 4 c16, putB len 4)] 4 = 9 := by simp [bsTot, putB_len]
      have e2 : bsAll [(.slice A4 2 c4, [4, 0]), (.slice A9 2 c9, putB st 2), (.slice A12 1 c12, [op]), (.slice A16 4 c16, putB len 4)] 4 = hdrB st op len := by simp [bsAll, hdrB]
      rw [e1, e2] at ho
      refine own_base ho ?_
      have h1 := HK1.out.size
      have h2 := hS.size
      rw [sz_alloc]; omega)
    have HK3 := Lib.hid (HK1.out.trans hS3 fun _ _ e => e)
    refine hK _ _ hS3 ?_
    clear hK K h4 h9 h12 h16 hk ho hS3 hS
    repeat (first
      | (refine sch_takeE rfl rfl ?_
         apply Exists.intro
         refine ⟨fun w' hS => ?_, fun K hK => ?_⟩
         · (clear hS
            unfold takesAt; go_simp; rfl)
         go_simp
         refine hK _ ?_
         clear hK K))
    refine sch_nil (NoPanic.normal ?_)
    go_wp2
    go_ret2
    exact ⟨v, rfl, by rw [hg]; exact HO.out, HK3.out⟩
end Go.Proofs.YtfnjoceolcdeoaaGreatDoor
namespace Go.Proofs.YtfnjoceolcdeoaaGreatDoor
set_option linter.unusedVariables false
open Go.RowKit

set_option maxHeartbeats 1000000 in
set_option maxRecDepth 100000 in
theorem spNew_at (w : World) : Calls Tryz.prog 37 #[.int .u8 132] w fun e w' => e = .returned (.pointer (some ⟨w.heap.size, 0, none⟩)) ∧ w' = w.alloc (.cells #[.int .u8 132, .slice none 0 0, .int .i64 0] 151) := by
  go_enter Tryz.func37, Tryz.ntmps37
  go_wp2
  go_ret
  exact ⟨rfl, rfl⟩

set_option maxHeartbeats 2000000 in
set_option maxRecDepth 100000 in
theorem spJoin_at {w : World} (st : Nat) (hst : st < 32768) (op : UInt8) (hop : op ∈ reqOps) {A : Option Addr} {n c : Nat} {l : List UInt8} (h : Sl w 5 1 (.slice A n c) n (Lib.byteCells l)) (hn : n ≤ 1048576) :
    Calls Tryz.prog 66 #[.agg #[.int .u8 4, .int .u8 0, .int .i16 st, .int .u8 (op.toNat : Int), .int .u32 n, .slice A n c]] w fun e w' => ∃ v, e = .returned (.tuple #[v, .int .i64 0]) ∧ w'.ownsRow w.heap.size 5 1 v (9 + n) (Lib.byteCells (hdrB st op n ++ l)) ∧ Kept noBlock w w' := by
  have hlen := h.run_len bytesQT
  have H := Lib.hid h
  clear h
  go_enter Tryz.func66, Tryz.ntmps66
  go_wp2_with fail
  have HB := Lib.hid (Blk.new w 123 #[.int .u8 4, .int .u8 0, .int .i16 st, .int .u8 (op.toNat : Int), .int .u32 n, .slice A n c])
  have HK0 := Lib.hid ((Kept.refl noBlock w).alloc (.cells #[.int .u8 4, .int .u8 0, .int .i16 st, .int .u8 (op.toNat : Int), .int .u32 n, .slice A n c] 123))
  have HZ := Lib.hid (sz_alloc w (.cells #[.int .u8 4, .int .u8 0, .int .i16 st, .int .u8 (op.toNat : Int), .int .u32 n, .slice A n c] 123))
  generalize hw0 : w.alloc (.cells #[.int .u8 4, .int .u8 0, .int .i16 st, .int .u8 (op.toNat : Int), .int .u32 n, .slice A n c] 123) = w0 at *
  clear hw0
  go_at_call 88
  refine (hdPut_req st hst op hop n hn _).mono ?_
  rintro e w1 ⟨v1, rfl, ho, hk⟩
  obtain ⟨A1, c1, rfl, -, -⟩ := (Sl.of_own ho).shape
  have hb1 := HB.out.kept hk (fun h => h)
  have y5 := hb1.cell 5
  simp only [List.getElem?_toArray, List.getElem?_cons_zero, List.getElem?_cons_succ] at y5
  have HK1 := Lib.hid (HK0.out.trans hk fun i _ h => h)
  have HO := Lib.hid (own_base ho (show w.heap.size ≤ w0.heap.size from HK0.out.size))
  have HS := Lib.hid (SlK.keptNone H.out HK1.out)
  clear hk hb1 ho
  go_wp2_with (at_builtin; go_must (refine wpList_append_sl _ bytesQT rfl (.tmp 24) (.tmp 26) rfl w.heap.size _ 9 (Lib.byteCells (hdrB st op n)) rfl HO.out _ n (Lib.byteCells l) rfl HS.out (fun u hu => byteCells_one hu) ?c1 ?c2 ?_))
  case c1 => omega
  case c2 => exact HK1.out.size
  intro v' w3 hap
  have HK3 := Lib.hid (hap.below HO.out HK1.out (Nat.le_refl _))
  have HO3 := Lib.hid hap.own
  clear hap
  go_wp2
  go_ret2
  exact ⟨_, rfl, by rw [byteCells_app]; exact HO3.out, HK3.out⟩
end Go.Proofs.YtfnjoceolcdeoaaGreatDoor
namespace Go.Proofs.YtfnjoceolcdeoaaGreatDoor
set_option linter.unusedVariables false
open Go.RowKit

/-- A connection. -/
structure XC where
  st : Int
  ks : ByteArray
  tok : Value
  ev : Value
  hs : Int
  idle : Int
  beatD : Int
  orph : Int
  state : Int
  shake : Int
  til : Int
  asked : Int
  beat : Int
  beatAt : Int
  last : Int
  drain : Bool
  drained : Int
  ss : XS
  oth : Option (List (Int × Bool))
  sv : Value
  se : Int
/-- Its cells. -/
def XC.C (x : XC) (gs g mo : Nat) : Array Value := #[.int .i64 x.st, .string x.ks, x.tok, x.ev, .int .u64 x.hs, .int .u64 x.idle, .int .u64 x.beatD, .int .i64 x.orph, .int .i64 x.state, .pointer (some ⟨gs, 0, none⟩), .pointer (some ⟨g, 0, none⟩), .map (x.oth.map fun _ => mo), .int .i64 x.shake, .int .u64 x.til, .int .i64 x.asked, .int .i64 x.beat, .int .u64 x.beatAt, .int .u64 x.last, .bool x.drain, .int .u64 x.drained]
/-- The blocks that are a connection's own lie from lo on, ahead of hi. -/
structure ConnIn (w : World) (lo hi c gs g m1 m2 mo : Nat) (x : XC) : Prop where
  blk : Blk w c 110 (x.C gs g mo)
  spl : Blk w gs 151 #[.int .u8 132, x.sv, .int .i64 x.se]
  str : SAt w g m1 m2 x.ss
  oth : ∀ L, x.oth = some L → OMap w mo L
  n1 : mo ≠ m1
  n2 : mo ≠ m2
  nc : mo ≠ c ∧ mo ≠ gs ∧ mo ≠ g
  rc : lo ≤ c ∧ c < hi
  rs : lo ≤ gs ∧ gs < hi
  rg : lo ≤ g ∧ g < hi
  r1 : lo ≤ m1 ∧ m1 < hi
  r2 : lo ≤ m2 ∧ m2 < hi
  ro : lo ≤ mo ∧ mo < hi
  hs : hi ≤ w.heap.size
def ConnAt (w : World) (lo hi c : Nat) (x : XC) : Prop := ∃ gs g m1 m2 mo, ConnIn w lo hi c gs g m1 m2 mo x
section
variable {w w' : World} {lo hi c gs g m1 m2 mo : Nat} {x : XC} {S : Nat → Prop}
theorem ConnIn.kept (h : ConnIn w lo hi c gs g m1 m2 mo x) (hk : Kept S w w') (hS : ∀ k, S k → ¬ (lo ≤ k ∧ k < hi)) : ConnIn w' lo hi c gs g m1 m2 mo x :=
  ⟨h.blk.kept hk fun e => hS _ e h.rc, h.spl.kept hk fun e => hS _ e h.rs, h.str.kept hk (fun e => hS _ e h.rg) (fun e => hS _ e h.r1) (fun e => hS _ e h.r2), fun L hL => (h.oth L hL).kept hk fun e => hS _ e h.ro, h.n1, h.n2, h.nc, h.rc, h.rs, h.rg, h.r1, h.r2, h.ro, Nat.le_trans h.hs hk.size⟩
theorem ConnAt.kept (h : ConnAt w lo hi c x) (hk : Kept S w w') (hS : ∀ k, S k → ¬ (lo ≤ k ∧ k < hi)) : ConnAt w' lo hi c x := by
  obtain ⟨gs, g, m1, m2, mo, h⟩ := h
  exact ⟨gs, g, m1, m2, mo, h.kept hk hS⟩
theorem ConnAt.keptN (h : ConnAt w lo hi c x) (hk : Kept noBlock w w') : ConnAt w' lo hi c x := h.kept hk fun _ e => e.elim
theorem ConnAt.rc (h : ConnAt w lo hi c x) : lo ≤ c ∧ c < hi ∧ hi ≤ w.heap.size := by
  obtain ⟨gs, g, m1, m2, mo, h⟩ := h
  exact ⟨h.rc.1, h.rc.2, h.hs⟩
end
/-- What comes of something: what is written, and the rest of its cells. -/
def OutAt (w : World) (o B : Nat) (X : List UInt8) (an nt : Value) (rd : Bool) (dd : Int) (ls : Value) : Prop :=
  ∃ A n k, n = X.length ∧ Blk w o 84 #[.slice A n k, an, nt, .bool rd, .int .i64 dd, ls] ∧ w.ownsRow B 5 1 (.slice A n k) n (Lib.byteCells X) ∧ o < B
theorem OutAt.kept {w w' : World} {o B : Nat} {X : List UInt8} {an nt : Value} {rd : Bool} {dd : Int} {ls : Value} {S : Nat → Prop} (h : OutAt w o B X an nt rd dd ls) (hk : Kept S w w') (ho : ¬ S o) (hB : ∀ k, B ≤ k → ¬ S k) : OutAt w' o B X an nt rd dd ls := by
  obtain ⟨A, n, k, hn, hb, hr, hl⟩ := h
  exact ⟨A, n, k, hn, hb.kept hk ho, own_keptB hr hk fun i hi e => hB i (own_type hr hi).1 e, hl⟩
theorem OutAt.keptN {w w' : World} {o B : Nat} {X : List UInt8} {an nt : Value} {rd : Bool} {dd : Int} {ls : Value} (h : OutAt w o B X an nt rd dd ls) (hk : Kept noBlock w w') : OutAt w' o B X an nt rd dd ls := h.kept hk (fun e => e) fun _ _ e => e
/-- What a step of a connection may touch. -/
def outS (lo hi o B : Nat) : Nat → Prop := fun k => (lo ≤ k ∧ k < hi) ∨ k = o ∨ B ≤ k
theorem outS_trans {lo hi o B : Nat} {a b c : World} (h : Kept (outS lo hi o B) a b) (k : Kept (outS lo hi o B) b c) : Kept (outS lo hi o B) a c := h.trans k fun _ _ e => e
end Go.Proofs.YtfnjoceolcdeoaaGreatDoor

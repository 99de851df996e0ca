/- Streams: Take · header.of, of a request's version · header.Check, of a request's header without flags. -/
import Derived.Test.YtfnjoceolcdeoaaGreatDoorMg18
import Derived.Test.YtfnjoceolcdeoaaGreatDoorMg05
namespace Go.Proofs.YtfnjoceolcdeoaaGreatDoor
set_option linter.unusedVariables false
open Go.RowKit
open Go.ChangeMaps (setBlock)

theorem ctz_turned {x c : Nat} {w : World} (hx : x < 18446744073709551616) (hT : Tab w) (hc : Lib.ctz 64 (18446744073709551615 - x) = c) :
    Calls Tryz.prog 87 #[.int .u64 (bits .xor .u64 (if IntKind.u64.signed = true then -1 else IntKind.u64.max) (x : Int))] w fun e w' => e = .returned (.int .i64 (c : Int)) ∧ w = w' := by
  have h1 := ctz_at (18446744073709551615 - x) (by omega) w hT
  rw [hc] at h1
  rw [word_not hx]
  exact h1.mono fun e w' h => ⟨h.1, h.2.symm⟩

/-- Streams whose hint is known. -/
def SAtH (w : World) (g m1 m2 : Nat) (s : XS) (h : Nat) : Prop := ∃ cs, Blk w g 135 cs ∧ SCells cs s h m1 m2 ∧ AMap w m1 s.asked ∧ OMap w m2 s.orph ∧ m1 ≠ m2 ∧ s.Ok
def TakePost (w : World) (g m1 m2 : Nat) (s : XS) (u : Int) (e : Ending) (w' : World) : Prop :=
  (∃ id : Nat, (id : Int) < s.n ∧ s.owed (id : Int) = false ∧ (∀ j : Nat, j < id → s.owed (j : Int) = true) ∧ e = .returned (.tuple #[.int .i64 (id : Int), .int .i64 0]) ∧ SAt w' g m1 m2 (s.take (id : Int) u) ∧ Kept (three g m1 m2) w w') ∨
  ((∀ j : Nat, (j : Int) < s.n → s.owed (j : Int) = true) ∧ e = .returned (.tuple #[.int .i64 0, .int .i64 30]) ∧ SAt w' g m1 m2 s ∧ Kept (three g m1 m2) w w')

set_option maxHeartbeats 2000000 in
set_option maxRecDepth 100000 in
theorem Take_at {w : World} {g m1 m2 : Nat} {s : XS} (h : SAt w g m1 m2 s) (hT : Tab w) (hg : g ≠ 2 ∧ m1 ≠ 2 ∧ m2 ≠ 2) (u : Int) (hu : 0 ≤ u ∧ u < 18446744073709551616) :
    Calls Tryz.prog 65 #[.pointer (some ⟨g, 0, none⟩), .int .u64 u] w (TakePost w g m1 m2 s u) := by
  obtain ⟨cs, k0, hb, hc, ha, ho, hne, hok⟩ := h
  have hk0 := hc.hh
  have START := Lib.hid (⟨⟨cs, hb, hc, ha, ho, hne, hok⟩, Kept.refl _ w⟩ : SAtH w g m1 m2 s k0 ∧ Kept (three g m1 m2) w w)
  clear hb hc ha ho hne hok
  go_enter Tryz.func65, Tryz.ntmps65
  go_wp2
  go_loopg [6] (512 - k0) (fun j v wr => ∃ k : Nat, k + j = 512 ∧ SAtH wr g m1 m2 s k ∧ Kept (three g m1 m2) w wr)
  case atStart => exact ⟨k0, by omega, START.out⟩
  case round =>
    obtain ⟨k, hkj, hS, hkr⟩ := hrel
    obtain ⟨cs, hb, hc, ha, ho, hne, hok⟩ := hS
    have n1 := hok.n1
    have n2 := hok.n2
    have hTr : Tab wr := hT.kept hkr (by intro h; rcases h with h | h | h <;> simp_all)
    have f0 := (hb.cell 0).trans hc.c0
    have f3 := (hb.cell 513).trans hc.ch
    have ff := hb.frozen
    by_cases hk : k < 512
    · obtain ⟨x, hx, hcx, hbits⟩ := hc.cw k hk
      have fx := (hb.cell (1 + k)).trans hcx
      have HB := Lib.hid hb
      have HC := Lib.hid hc
      have HA := Lib.hid ha
      have HO := Lib.hid ho
      have HOK := Lib.hid hok
      have HBI := Lib.hid hbits
      have HK := Lib.hid hkr
      have HT := Lib.hid hTr
      clear START hb hc ha ho hok hbits hkr hTr hcx hT
      have hct := fun (c : Nat) (h : Lib.ctz 64 (18446744073709551615 - x) = c) (n : Nat) => ctz_turned (w := wr.drewN n) hx HT.out h
      rcases ctz_not hx with ⟨hc64, hall⟩ | ⟨hclt, hcf, hcl⟩
      · have HCT := Lib.hid (hct 64 hc64)
        have HAL := Lib.hid hall
        clear hct hc64 hall
        go_wp2
        go_quiet ((go_at_call 87; exact quiet_same (HCT.out _)))
        go_wp2
        go_roundg (512 - (k + 1))
        case measure => omega
        case rel =>
          rw [show ((k : Int) + 1) = ((k + 1 : Nat) : Int) by omega]
          have hc1 := HC.out.hint_ (k := k + 1) (by omega) (fun j hj => by
            by_cases hjk : j < 64 * k
            · exact HC.out.hf j hjk
            · have h1 := HBI.out (j - 64 * k) (by omega)
              rw [HAL.out _ (by omega), show 64 * k + (j - 64 * k) = j by omega] at h1
              exact h1.symm)
          have hg1 : m1 ≠ g := fun e => HA.out.ne_blk HB.out e.symm
          have hg2 : m2 ≠ g := fun e => HO.out.ne_blk HB.out e.symm
          exact ⟨k + 1, by omega, ⟨_, (HB.out.drewN nq).set_ 513 _, hc1, (HA.out.drewN nq).setCell (p := ⟨g, 513, none⟩) hg1 _, (HO.out.drewN nq).setCell (p := ⟨g, 513, none⟩) hg2 _, hne, HOK.out⟩, (HK.out.drewN nq).setCell (p := ⟨g, 513, none⟩) (fun _ => .inl rfl) _⟩
      · generalize Lib.ctz 64 (18446744073709551615 - x) = c at *
        have HCT := Lib.hid (hct c rfl)
        have HCF := Lib.hid hcf
        have HCL := Lib.hid hcl
        clear hct hcf hcl
        by_cases hn : s.n ≤ 64 * (k : Int) + c
        · go_wp2
          go_quiet ((go_at_call 87; exact quiet_same (HCT.out _)))
          go_wp2
          go_ret2
          refine .inr ⟨fun j hj => ?_, rfl, ⟨cs, k, HB.out.drewN nq, HC.out, HA.out.drewN nq, HO.out.drewN nq, hne, HOK.out⟩, HK.out.drewN nq⟩
          by_cases hjk : j < 64 * k
          · exact HC.out.hf j hjk
          · have h1 := HBI.out (j - 64 * k) (by omega)
            rw [HCL.out _ (by omega), show 64 * k + (j - 64 * k) = j by omega] at h1
            exact h1.symm
        · have f4 := (HB.out.cell 514).trans HC.out.ca
          obtain ⟨hset, hsy, hsb⟩ := word_set hx hclt
          have HSB := Lib.hid hsb
          have hg1 : m1 ≠ g := fun e => HA.out.ne_blk HB.out e.symm
          have hg2 : m2 ≠ g := fun e => HO.out.ne_blk HB.out e.symm
          clear hsb
          go_wp2
          go_quiet ((go_at_call 87; exact quiet_same (HCT.out _)))
          go_wp2
          go_region
          obtain ⟨es, ck, hup, ha2⟩ := ((HA.out.drewN (nq + 1)).setCell (p := ⟨g, 1 + k, none⟩) hg1 (.int .u64 ((x ||| 2 ^ c : Nat) : Int))).run_update i64K iuM intU (64 * (k : Int) + c) u
          have hfree : s.owed ((64 * k + c : Nat) : Int) = false := (HBI.out c hclt).symm.trans HCF.out
          have hid : (64 * (k : Int) + c) = ((64 * k + c : Nat) : Int) := by omega
          have hok' := HOK.out.take (id := ((64 * k + c : Nat) : Int)) (u := u) (by omega) (by omega) hu hfree
          have hc1 := HC.out.word_ (s' := s.take ((64 * k + c : Nat) : Int) u) (i := k) (k := k) hk hsy rfl (fun b hb => by
              rw [HSB.out b, HBI.out b hb, XS.owed_take]
              congr 1
              apply decide_eq_decide.2
              omega) (fun j hj => by
              rw [XS.owed_take]
              have : ¬ ((j : Int) = ((64 * k + c : Nat) : Int)) := by omega
              rw [decide_eq_false this, Bool.or_false]) HC.out.hh rfl (fun j hj => by
              rw [XS.owed_take, HC.out.hf j hj]; rfl)
          have ho2 := ((HO.out.drewN (nq + 1)).setCell (p := ⟨g, 1 + k, none⟩) hg2 (.int .u64 ((x ||| 2 ^ c : Nat) : Int))).setBlock (Ne.symm hne) (.map es ck)
          have hb2 := ((HB.out.drewN (nq + 1)).set_ (1 + k) (.int .u64 ((x ||| 2 ^ c : Nat) : Int))).setBlock (Ne.symm hg1) (.map es ck)
          have hk2 := ((HK.out.drewN (nq + 1)).setCell (p := ⟨g, 1 + k, none⟩) (fun _ => .inl rfl) (.int .u64 ((x ||| 2 ^ c : Nat) : Int))).setBlock (m := m1) (fun _ => .inr (.inl rfl)) (.map es ck)
          rw [aput_none (aget_eq_none.1 (XS.not_asked (by rw [hid]; exact hfree)).1), hid] at ha2
          have FIN := Lib.hid (⟨⟨_, k, hb2, hc1, ha2, ho2, hne, hok'⟩, hk2⟩ : SAt _ g m1 m2 (s.take ((64 * k + c : Nat) : Int) u) ∧ Kept (three g m1 m2) w _)
          have HFREE := Lib.hid hfree
          have HID := Lib.hid hid
          clear ha2 hfree hok' hc1 ho2 hb2 hk2 hid
          go_wp2
          go_ret2
          rw [HID.out]
          refine .inl ⟨64 * k + c, by omega, HFREE.out, fun j hj => ?_, rfl, FIN.out⟩
          by_cases hjk : j < 64 * k
          · exact HC.out.hf j hjk
          · have h1 := HBI.out (j - 64 * k) (by omega)
            rw [HCL.out _ (by omega), show 64 * k + (j - 64 * k) = j by omega] at h1
            exact h1.symm
    · have hk5 : k = 512 := by have := hc.hh; omega
      subst hk5
      have HF := Lib.hid hc.hf
      have FIN := Lib.hid (⟨⟨cs, 512, hb, hc, ha, ho, hne, hok⟩, hkr⟩ : SAt wr g m1 m2 s ∧ Kept (three g m1 m2) w wr)
      clear START hb hc ha ho hok hkr hTr hT
      go_wp2
      go_ret2
      exact .inr ⟨fun j hj => HF.out j (by omega), rfl, FIN.out⟩
end Go.Proofs.YtfnjoceolcdeoaaGreatDoor
namespace Go.Proofs.YtfnjoceolcdeoaaGreatDoor
set_option linter.unusedVariables false
open Go.RowKit

/-- The opcodes of requests. -/
def reqOps : List UInt8 := [1, 5, 7, 9, 10, 11, 13, 15]
theorem hdOf_ret {W : World} {T : Array Value} {M : Nat} {u v b : Value} {R : Ending → World → Prop} (h2 : T.getD 2 undef = .pointer (some ⟨M, 0, none⟩)) (h3 : T.getD 3 undef = b) (d0 : W.cell? ⟨M, 0, none⟩ = some u) (d1 : W.cell? ⟨M, 1, none⟩ = some v)
    (hR : R (.returned (.tuple #[.agg #[u, v], b])) W) : bodyPost Tryz.prog Tryz.f104 R .ret { tmps := T, defers := [] } W := by
  have h2' : T[2]?.getD undef = .pointer (some ⟨M, 0, none⟩) := by simpa using h2
  have h3' : T[3]?.getD undef = b := by simpa using h3
  exact bodyPost_ret (v := .tuple #[.agg #[u, v], b]) (by simp [results, Tryz.results104, go_sem, h2', h3', d0, d1]) rfl hR
set_option maxHeartbeats 1000000 in
set_option maxRecDepth 100000 in
theorem hdOf_req (w : World) : Calls Tryz.prog 104 #[.int .u8 4] w fun e w' => ∃ A c, e = .returned (.tuple #[.agg #[.int .u8 6, .slice A 8 c], .bool true]) ∧ SlK w' (fun g _ => g < w'.heap.size) 1 (.slice A 8 c) 8 (Lib.byteCells reqOps) ∧ Kept noBlock w w' := by
  go_enter Tryz.func104, Tryz.ntmps104
  go_wp2
  have B1 := Blk.new w 206 #[.int .u8 6, .slice (some ⟨w.heap.size + 1, 0, none⟩) 8 8]
  have B2 := B1.alloc (.cells #[.int .u8 1, .int .u8 5, .int .u8 7, .int .u8 9, .int .u8 10, .int .u8 11, .int .u8 13, .int .u8 15] 5)
  have B3 := Blk.new_at (k := w.heap.size + 1) (w.alloc (.cells #[.int .u8 6, .slice (some ⟨w.heap.size + 1, 0, none⟩) 8 8] 206)) 5 #[.int .u8 1, .int .u8 5, .int .u8 7, .int .u8 9, .int .u8 10, .int .u8 11, .int .u8 13, .int .u8 15] (by rw [sz_alloc])
  have hS := (Sl.made_at (sz := 1) (n := 8) B3 _ rfl rfl (by decide)).lo
  refine hdOf_ret (M := w.heap.size) (u := .int .u8 6) (v := .slice (some ⟨w.heap.size + 1, 0, none⟩) 8 8) (b := .bool true) rfl rfl (B2.cell 0) (B2.cell 1) ?_
  exact ⟨_, _, rfl, hS, ((Kept.refl noBlock w).alloc _).alloc _⟩
end Go.Proofs.YtfnjoceolcdeoaaGreatDoor
namespace Go.Proofs.YtfnjoceolcdeoaaGreatDoor
set_option linter.unusedVariables false
open Go.RowKit

/-- What is wrong with a request's opcode. -/
def opE (op : UInt8) : Int := if op ∈ reqOps then 0 else 22
set_option maxHeartbeats 1000000 in
set_option maxRecDepth 100000 in
theorem hdCheck_req (st : Int) (op : UInt8) (len : Nat) (hl : len ≤ 1048576) (w : World) :
    Calls Tryz.prog 74 #[.agg #[.int .u8 4, .int .u8 0, .int .i16 st, .int .u8 (op.toNat : Int), .int .u32 len]] w fun e w' => e = .returned (.int .i64 (opE op)) ∧ Kept noBlock w w' := by
  have hand : bits BinOp.andNot IntKind.u8 0 6 = 0 := by decide
  go_enter Tryz.func74, Tryz.ntmps74
  go_wp2_with fail
  have HB := Lib.hid (Blk.new w 40 #[.int .u8 4, .int .u8 0, .int .i16 st, .int .u8 (op.toNat : Int), .int .u32 len])
  have HK0 := Lib.hid ((Kept.refl noBlock w).alloc (.cells #[.int .u8 4, .int .u8 0, .int .i16 st, .int .u8 (op.toNat : Int), .int .u32 len] 40))
  generalize hw0 : w.alloc (.cells #[.int .u8 4, .int .u8 0, .int .i16 st, .int .u8 (op.toNat : Int), .int .u32 len] 40) = w0 at *
  generalize hg : w.heap.size = g at *
  go_at_call 104
  refine (hdOf_req _).mono ?_
  rintro e w1 ⟨A, c, rfl, hs, hk⟩
  have hb1 := (HB.out.kept hk (fun h => h)).alloc (.cells #[.int .u8 6, .slice A 8 c] 206)
  have y0 := hb1.cell 0
  have y1 := hb1.cell 1
  have y2 := hb1.cell 2
  have y3 := hb1.cell 3
  have y4 := hb1.cell 4
  simp only [List.getElem?_toArray, List.getElem?_cons_zero, List.getElem?_cons_succ] at y0 y1 y2 y3 y4
  have HS := Lib.hid (hs.alloc (.cells #[.int .u8 6, .slice A 8 c] 206))
  have HK := Lib.hid ((HK0.out.trans hk fun i _ h => h).alloc (.cells #[.int .u8 6, .slice A 8 c] 206))
  clear hs hk hb1
  go_wp2_with fail
  go_at_call 105
  refine (BContains_at HS.out op).mono ?_
  rintro e w2 ⟨rfl, hw2⟩
  subst hw2
  by_cases hop : op ∈ reqOps
  · have HE : Hid (opE op = 0) := Lib.hid (by unfold opE; rw [if_pos hop])
    rw [decide_eq_true hop]
    go_wp2
    go_ret
    rw [HE.out]
    exact ⟨rfl, HK.out⟩
  · have HE : Hid (opE op = 22) := Lib.hid (by unfold opE; rw [if_neg hop])
    rw [decide_eq_false hop]
    go_wp2
    go_ret
    rw [HE.out]
    exact ⟨rfl, HK.out⟩
end Go.Proofs.YtfnjoceolcdeoaaGreatDoor

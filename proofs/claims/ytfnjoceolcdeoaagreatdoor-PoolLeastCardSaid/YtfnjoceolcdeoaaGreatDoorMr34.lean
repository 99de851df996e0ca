/- reply.Get, where the body is as it should be · prefix.Response of a frame without flags · header.of, header.Check of any header. -/
import Derived.Test.YtfnjoceolcdeoaaGreatDoorMr33
import Derived.Test.YtfnjoceolcdeoaaGreatDoorMr09
import Derived.Test.YtfnjoceolcdeoaaGreatDoorMr26
import Derived.Deep.LoopGhost
import Derived.Test.YtfnjoceolcdeoaaGreatDoorMr12
import Derived.Test.YtfnjoceolcdeoaaGreatDoorMr27
namespace Go.Proofs.YtfnjoceolcdeoaaGreatDoor
set_option linter.unusedVariables false
open Go.RowKit

theorem rpGet_ret {W : World} {T : Array Value} {M : Nat} {cs : Array Value} {b : Value} {R : Ending → World → Prop} (h4 : T.getD 4 undef = .pointer (some ⟨M, 0, none⟩)) (h5 : T.getD 5 undef = b) (hb : Blk W M 191 cs) (hsz : cs.size = 34)
    (hR : R (.returned (.tuple #[.agg cs, b])) W) : bodyPost Tryz.prog Tryz.f131 R .ret { tmps := T, defers := [] } W := by
  have h4' : T[4]?.getD undef = .pointer (some ⟨M, 0, none⟩) := by simpa using h4
  have h5' : T[5]?.getD undef = b := by simpa using h5
  have hl := run_loadVar_row (P := Tryz.prog) W M 191 191 cs (0, 0) _ hb Tryz.underlying191 rfl (rep_info.trans (by rw [hsz]))
  exact bodyPost_ret (v := .tuple #[.agg cs, b]) (by simp [results, Tryz.results131, asAddr, h4', h5', hl]) rfl hR
theorem strm_nil {w : World} {g : Nat} (h : StrmAt w g (some [])) : ∃ A c, Blk w g 267 #[.bool false, .slice A 0 c, .int .i64 0] := by
  rcases h with ⟨l, A, n, c, hr, hn, hm, hb, hs⟩ | ⟨v, e, hr, he, hb⟩
  · injection hr with hr
    subst hr
    obtain rfl : n = 0 := hn
    exact ⟨A, c, hb⟩
  · cases hr
set_option maxHeartbeats 4000000 in
set_option maxRecDepth 100000 in
theorem rpGet_ok {w : World} {op : UInt8} {A : Option Addr} {n c : Nat} {l : List UInt8} (hs : Sl w 5 1 (.slice A n c) n (bsC l)) (hn : n ≤ 1000000) (R : Array Value → World → Prop)
    (hR : ∀ cs W W', R cs W → Kept (fun k => k < w.heap.size + 3) W W' → R cs W')
    (hparts : ∀ W, w.heap.size + 3 ≤ W.heap.size → StrmAt W (w.heap.size + 1) (some l) → Blk W (w.heap.size + 1 + 1) 191 (rep0 op) → Calls Tryz.prog 152 #[.pointer (some ⟨w.heap.size + 1, 0, none⟩), .pointer (some ⟨w.heap.size + 1 + 1, 0, none⟩)] W (PartsOk W (w.heap.size + 1) (w.heap.size + 1 + 1) R)) :
    Calls Tryz.prog 131 #[.int .u8 (op.toNat : Int), .slice A n c] w fun e w' => ∃ cs, e = .returned (.tuple #[.agg cs, .int .i64 0]) ∧ cs.size = 34 ∧ cs.all (·.oneCell') = true ∧ R cs w' ∧ Kept noBlock w w' := by
  have hln : l.length = n := by have := hs.len; rw [bsC_len] at this; omega
  -- the blocks: what is handed back, the stream, the reply
  have B0 := Blk.new w 191 (rep0 0)
  have B1 := Blk.new_at (k := w.heap.size + 1) (w.alloc (.cells (rep0 0) 191)) 267 #[.bool false, .slice A n c, .int .i64 0] (by rw [sz_alloc])
  have B2 := Blk.new_at (k := w.heap.size + 1 + 1) ((w.alloc (.cells (rep0 0) 191)).alloc (.cells #[.bool false, .slice A n c, .int .i64 0] 267)) 191 (rep0 0) (by rw [sz_alloc, sz_alloc])
  have K2 := (((Kept.refl noBlock w).alloc (.cells (rep0 0) 191)).alloc (.cells #[.bool false, .slice A n c, .int .i64 0] 267)).alloc (.cells (rep0 0) 191)
  have HB02 := Lib.hid ((B0.alloc (.cells #[.bool false, .slice A n c, .int .i64 0] 267)).alloc (.cells (rep0 0) 191))
  have HB12 := Lib.hid (B1.alloc (.cells (rep0 0) 191))
  have HB22 := Lib.hid B2
  have HK2 := Lib.hid K2
  have HS2 := Lib.hid (SlK.keptNone hs K2)
  have HP := Lib.hid hparts
  have HRR := Lib.hid hR
  have HLN := Lib.hid hln
  clear B0 B1 B2 K2 hs hparts hR hln
  go_enter Tryz.func131, Tryz.ntmps131
  go_wp2_with (first
    | (refine wpList_rd rfl (d := 12) rfl (.agg (rep0 op)) (by kernel_rfl) ?_)
    | (refine wpList_store_row rfl 191 (.tmp 7) (.tmp 12) rfl (w.heap.size + 1 + 1) (rep0 op) rfl rfl 191 (rep0 0) HB22.out rep_info rfl (rep0_all op) ?_))
  go_at_call 152
  have HKR := Lib.hid ((Kept.refl (fun k => k = w.heap.size + 1 + 1) (((w.alloc (.cells (rep0 0) 191)).alloc (.cells #[.bool false, .slice A n c, .int .i64 0] 267)).alloc (.cells (rep0 0) 191))).setRow (g := w.heap.size + 1 + 1) (fun _ => rfl) (rep0 op))
  have HB0R := Lib.hid (HB02.out.kept HKR.out (show ¬ w.heap.size = w.heap.size + 1 + 1 by omega))
  have HB1R := Lib.hid (HB12.out.kept HKR.out (show ¬ w.heap.size + 1 = w.heap.size + 1 + 1 by omega))
  have HSR := Lib.hid (Sl.setRow HS2.out HB22.out (by decide) (rep0 op))
  refine (HP.out _ (by simp only [size_setRow, sz_alloc]; omega) (.inl ⟨l, A, n, c, rfl, HLN.out.symm, hn, HB1R.out, HSR.out⟩) (setRow_heap _ _ _ _ _ _ HB22.out)).mono ?_
  rintro e W ⟨rfl, hk, cs, hst, hb, hsz, hall, hr⟩
  obtain ⟨A', c', hbg⟩ := strm_nil hst
  obtain ⟨y0, y1, y2⟩ := cells3 hbg
  have HBW := Lib.hid hb
  have HB0W := Lib.hid (HB0R.out.kept hk (show ¬ (w.heap.size = w.heap.size + 1 ∨ w.heap.size = w.heap.size + 1 + 1) by omega))
  have h23 : Kept (fun k => w.heap.size ≤ k) _ _ := HKR.out.mono (T := fun k => w.heap.size ≤ k) fun k _ e => by rw [e]; omega
  have h34 : Kept (fun k => w.heap.size ≤ k) _ W := hk.mono (T := fun k => w.heap.size ≤ k) fun k _ e => by rcases e with e | e <;> omega
  have HKW : Hid (Kept noBlock w W) := Lib.hid (HK2.out.trans (T := fun k => w.heap.size ≤ k) (h23.trans h34 fun i _ e => e) fun i hi e => by omega)
  have HSZ := Lib.hid hsz
  have HAL := Lib.hid hall
  have HR := Lib.hid hr
  clear h23 h34 hk hst hb hsz hall hr hbg
  go_wp2_with (first
    | (refine wpList_load_row rfl 191 (.tmp 7) rfl (w.heap.size + 1 + 1) rfl 191 cs (0, 0) _ HBW.out Tryz.underlying191 rfl (rep_info.trans (by rw [HSZ.out])) ?_)
    | (refine wpList_store_row rfl 191 (.tmp 4) (.tmp 34) rfl w.heap.size cs rfl rfl 191 (rep0 0) HB0W.out (rep_info.trans (by rw [HSZ.out])) (by rw [HSZ.out]; rfl) HAL.out ?_))
  refine rpGet_ret (M := w.heap.size) (cs := cs) (b := .int .i64 0) rfl rfl (setRow_heap _ _ _ _ _ _ HB0W.out) HSZ.out ?_
  exact ⟨cs, rfl, HSZ.out, HAL.out, HRR.out cs W _ HR.out ((Kept.refl _ W).setRow (fun _ => by show w.heap.size < w.heap.size + 3; omega) cs), HKW.out.setRow (fun h => absurd h (Nat.lt_irrefl _)) cs⟩
end Go.Proofs.YtfnjoceolcdeoaaGreatDoor
namespace Go.Proofs.YtfnjoceolcdeoaaGreatDoor
set_option linter.unusedVariables false
open Go.RowKit

def pxC0 : Array Value := #[.slice none 0 0, .slice none 0 0, .slice none 0 0]
theorem partT : SlT Tryz.prog 277 264 (.agg #[.int .u8 0, .nilFunc]) 2 16 := ⟨Tryz.underlying277, by kernel_rfl, rfl, by decide, by decide⟩
theorem run_store_fn {P : Program} (w : World) (a : Addr) (m : Mode) (f : FuncId) : (store a (.func (.func f) #[] #[]) m).run P w = stored P w a (.func (.func f) #[] #[]) m := run_store P w a _ m rfl
def pxL : List Value := [.int .u8 2, .func (.func 149) #[] #[], .int .u8 8, .func (.func 150) #[] #[], .int .u8 4, .func (.func 151) #[] #[]]
theorem pxL_at {i : Nat} (h : i < 3) : ∃ (fl : Int) (f : FuncId), pxL[i * 2 + 0]? = some (.int .u8 fl) ∧ pxL[i * 2 + 1]? = some (.func (.func f) #[] #[]) ∧ bits BinOp.and IntKind.u8 0 fl = 0 := by
  match i, h with
  | 0, _ => exact ⟨2, _, rfl, rfl, by decide⟩
  | 1, _ => exact ⟨8, _, rfl, rfl, by decide⟩
  | 2, _ => exact ⟨4, _, rfl, rfl, by decide⟩
  | n + 3, h => omega
theorem pxRead_ret {W : World} {T : Array Value} {M : Nat} {a0 a1 a2 b c : Value} {R : Ending → World → Prop} (h6 : T.getD 6 undef = .pointer (some ⟨M, 0, none⟩)) (h7 : T.getD 7 undef = b) (h8 : T.getD 8 undef = c) (d0 : W.cell? ⟨M, 0, none⟩ = some a0) (d1 : W.cell? ⟨M, 1, none⟩ = some a1) (d2 : W.cell? ⟨M, 2, none⟩ = some a2)
    (hR : R (.returned (.tuple #[.agg #[a0, a1, a2], b, c])) W) : bodyPost Tryz.prog Tryz.f148 R .ret { tmps := T, defers := [] } W := by
  have h6' : T[6]?.getD undef = .pointer (some ⟨M, 0, none⟩) := by simpa using h6
  have h7' : T[7]?.getD undef = b := by simpa using h7
  have h8' : T[8]?.getD undef = c := by simpa using h8
  exact bodyPost_ret (v := .tuple #[.agg #[a0, a1, a2], b, c]) (by simp [results, Tryz.results148, go_sem, h6', h7', h8', d0, d1, d2]) rfl hR
theorem pxResp_ret {W : World} {T : Array Value} {M : Nat} {a0 a1 a2 b c : Value} {R : Ending → World → Prop} (h4 : T.getD 4 undef = .pointer (some ⟨M, 0, none⟩)) (h5 : T.getD 5 undef = b) (h6 : T.getD 6 undef = c) (d0 : W.cell? ⟨M, 0, none⟩ = some a0) (d1 : W.cell? ⟨M, 1, none⟩ = some a1) (d2 : W.cell? ⟨M, 2, none⟩ = some a2)
    (hR : R (.returned (.tuple #[.agg #[a0, a1, a2], b, c])) W) : bodyPost Tryz.prog Tryz.f130 R .ret { tmps := T, defers := [] } W := by
  have h4' : T[4]?.getD undef = .pointer (some ⟨M, 0, none⟩) := by simpa using h4
  have h5' : T[5]?.getD undef = b := by simpa using h5
  have h6' : T[6]?.getD undef = c := by simpa using h6
  exact bodyPost_ret (v := .tuple #[.agg #[a0, a1, a2], b, c]) (by simp [results, Tryz.results130, go_sem, h4', h5', h6', d0, d1, d2]) rfl hR
theorem blk3 {w : World} {g : Nat} {t : TypeId} {a0 a1 a2 : Value} (h : Blk w g t #[a0, a1, a2]) : w.cell? ⟨g, 0, none⟩ = some a0 ∧ w.cell? ⟨g, 1, none⟩ = some a1 ∧ w.cell? ⟨g, 2, none⟩ = some a2 := ⟨h.cell 0, h.cell 1, h.cell 2⟩
set_option maxHeartbeats 2000000 in
set_option maxRecDepth 100000 in
theorem pxRead_0 {w : World} {ok : Nat → TypeId → Prop} {A Ab : Option Addr} {c nb cb : Nat} (hP : SlK w ok 2 (.slice A 3 c) 3 pxL) :
    Calls Tryz.prog 148 #[.int .u8 0, .slice Ab nb cb, .slice A 3 c] w fun e w' => e = .returned (.tuple #[.agg pxC0, .slice Ab nb cb, .int .i64 0]) ∧ Kept noBlock w w' := by
  have HB0 := Lib.hid ((Blk.new w 235 #[.slice none 0 0, .slice none 0 0, .slice none 0 0]).alloc (.cells #[.slice none 0 0, .slice none 0 0, .slice none 0 0] 235))
  have HB1 := Lib.hid (Blk.new_at (k := w.heap.size + 1) (w.alloc (.cells #[.slice none 0 0, .slice none 0 0, .slice none 0 0] 235)) 235 #[.slice none 0 0, .slice none 0 0, .slice none 0 0] (by rw [sz_alloc]))
  have HK0 := Lib.hid (((Kept.refl noBlock w).alloc (.cells #[.slice none 0 0, .slice none 0 0, .slice none 0 0] 235)).alloc (.cells #[.slice none 0 0, .slice none 0 0, .slice none 0 0] 235))
  have HP := Lib.hid hP
  clear hP
  have hsf := @run_store_fn Tryz.prog
  unfold pxC0
  go_enter Tryz.func148, Tryz.ntmps148
  go_wp2_with fail
  generalize hw0 : (w.alloc (.cells #[.slice none 0 0, .slice none 0 0, .slice none 0 0] 235)).alloc (.cells #[.slice none 0 0, .slice none 0 0, .slice none 0 0] 235) = w0 at *
  generalize hg : w.heap.size = g at *
  clear hw0
  go_loopg [1, 16] 3 (fun j v1 v16 wr => ∃ i : Nat, i + j = 3 ∧ v16 = .int .i64 i ∧ v1 = .slice Ab nb cb ∧ Kept noBlock w0 wr)
  case atStart => exact ⟨0, rfl, rfl, rfl, Kept.refl _ _⟩
  case round =>
    obtain ⟨i, hij, rfl, rfl, hk⟩ := hrel
    have HIJ := Lib.hid hij
    have HK := Lib.hid hk
    by_cases hi : i < 3
    · have h3 : i = 0 ∨ i = 1 ∨ i = 2 := by omega
      clear hi
      rcases h3 with rfl | rfl | rfl
      · obtain ⟨gp, off, hidx, hgl, -, hc⟩ := (HP.out.keptNone (HK0.out.trans hk fun _ _ e => e)).run_index partT (i := (0 : Int)) (k := 0) rfl (by decide)
        have c0 : wr.cell? ⟨gp, off, none⟩ = some (.int .u8 2) := hc 0 _ rfl
        have c1 : wr.cell? ⟨gp, off + 1, none⟩ = some (.func (.func 149) #[] #[]) := hc 1 _ rfl
        have hand : bits BinOp.and IntKind.u8 0 2 = 0 := by decide
        clear hij hk hc
        have HKA := Lib.hid (HK.out.alloc (.cells #[.int .u8 2, .func (.func 149) #[] #[]] 264))
        go_wp2_with fail
        go_roundg (3 - (0 + 1))
        case measure => have := HIJ.out; omega
        case rel => exact ⟨0 + 1, by have := HIJ.out; omega, by go_num, rfl, HKA.out⟩
      · obtain ⟨gp, off, hidx, hgl, -, hc⟩ := (HP.out.keptNone (HK0.out.trans hk fun _ _ e => e)).run_index partT (i := (1 : Int)) (k := 1) rfl (by decide)
        have c0 : wr.cell? ⟨gp, off, none⟩ = some (.int .u8 8) := hc 0 _ rfl
        have c1 : wr.cell? ⟨gp, off + 1, none⟩ = some (.func (.func 150) #[] #[]) := hc 1 _ rfl
        have hand : bits BinOp.and IntKind.u8 0 8 = 0 := by decide
        clear hij hk hc
        have HKA := Lib.hid (HK.out.alloc (.cells #[.int .u8 8, .func (.func 150) #[] #[]] 264))
        go_wp2_with fail
        go_roundg (3 - (1 + 1))
        case measure => have := HIJ.out; omega
        case rel => exact ⟨1 + 1, by have := HIJ.out; omega, by go_num, rfl, HKA.out⟩
      · obtain ⟨gp, off, hidx, hgl, -, hc⟩ := (HP.out.keptNone (HK0.out.trans hk fun _ _ e => e)).run_index partT (i := (2 : Int)) (k := 2) rfl (by decide)
        have c0 : wr.cell? ⟨gp, off, none⟩ = some (.int .u8 4) := hc 0 _ rfl
        have c1 : wr.cell? ⟨gp, off + 1, none⟩ = some (.func (.func 151) #[] #[]) := hc 1 _ rfl
        have hand : bits BinOp.and IntKind.u8 0 4 = 0 := by decide
        clear hij hk hc
        have HKA := Lib.hid (HK.out.alloc (.cells #[.int .u8 4, .func (.func 151) #[] #[]] 264))
        go_wp2_with fail
        go_roundg (3 - (2 + 1))
        case measure => have := HIJ.out; omega
        case rel => exact ⟨2 + 1, by have := HIJ.out; omega, by go_num, rfl, HKA.out⟩
    · have hi3 : i = 3 := by have := HIJ.out; omega
      subst hi3
      have hb0 := HB0.out.kept hk fun e => e
      have hb1 := HB1.out.kept hk fun e => e
      obtain ⟨x0, x1, x2⟩ := blk3 hb0
      obtain ⟨y0, y1, y2⟩ := blk3 hb1
      have f0 := hb0.frozen 0
      have f1 := hb0.frozen 1
      have f2 := hb0.frozen 2
      have HB := Lib.hid hb0
      clear hij hk hb0 hb1
      go_wp2
      have hbe := ((HB.out.set_ 0 (.slice none 0 0)).set_ 1 (.slice none 0 0)).set_ 2 (.slice none 0 0)
      have hn : ¬ g < w.heap.size := by rw [hg]; exact Nat.lt_irrefl _
      refine pxRead_ret (M := g) (a0 := .slice none 0 0) (a1 := .slice none 0 0) (a2 := .slice none 0 0) (b := .slice Ab nb cb) (c := .int .i64 0) rfl rfl rfl (hbe.cell 0) (hbe.cell 1) (hbe.cell 2) ?_
      exact ⟨rfl, ((((HK0.out.trans HK.out fun _ _ e => e).setCell (p := ⟨g, 0, none⟩) (fun h => absurd h hn) _).setCell (p := ⟨g, 1, none⟩) (fun h => absurd h hn) _).setCell (p := ⟨g, 2, none⟩) (fun h => absurd h hn) _)⟩
set_option maxHeartbeats 2000000 in
set_option maxRecDepth 100000 in
theorem pxResp_0 (Ab : Option Addr) (nb cb : Nat) (w : World) :
    Calls Tryz.prog 130 #[.int .u8 0, .slice Ab nb cb] w fun e w' => e = .returned (.tuple #[.agg pxC0, .slice Ab nb cb, .int .i64 0]) ∧ Kept noBlock w w' := by
  have HB0 := Lib.hid ((Blk.new w 235 #[.slice none 0 0, .slice none 0 0, .slice none 0 0]).alloc (.cells #[.int .u8 2, .func (.func 149) #[] #[], .int .u8 8, .func (.func 150) #[] #[], .int .u8 4, .func (.func 151) #[] #[]] 264))
  have HB1 := Lib.hid (Blk.new_at (k := w.heap.size + 1) (w.alloc (.cells #[.slice none 0 0, .slice none 0 0, .slice none 0 0] 235)) 264 #[.int .u8 2, .func (.func 149) #[] #[], .int .u8 8, .func (.func 150) #[] #[], .int .u8 4, .func (.func 151) #[] #[]] (by rw [sz_alloc]))
  have HK0 := Lib.hid (((Kept.refl noBlock w).alloc (.cells #[.slice none 0 0, .slice none 0 0, .slice none 0 0] 235)).alloc (.cells #[.int .u8 2, .func (.func 149) #[] #[], .int .u8 8, .func (.func 150) #[] #[], .int .u8 4, .func (.func 151) #[] #[]] 264))
  have HR := Lib.hid (pxRead_0 (Ab := Ab) (nb := nb) (cb := cb) (SlK.lo (Sl.made_at (n := 3) (sz := 2) HB1.out pxL rfl rfl (by decide))))
  unfold pxC0 at *
  go_enter Tryz.func130, Tryz.ntmps130
  go_wp2_with fail
  go_at_call 148
  refine HR.out.mono ?_
  rintro e w2 ⟨rfl, hk⟩
  have hb0 := HB0.out.kept hk fun e => e
  obtain ⟨x0, x1, x2⟩ := blk3 hb0
  have f0 := hb0.frozen 0
  have f1 := hb0.frozen 1
  have f2 := hb0.frozen 2
  have HB := Lib.hid hb0
  have HK := Lib.hid (HK0.out.trans hk fun _ _ e => e)
  clear hk hb0
  go_wp2
  have hbe := ((HB.out.set_ 0 (.slice none 0 0)).set_ 1 (.slice none 0 0)).set_ 2 (.slice none 0 0)
  have hn : ¬ w.heap.size < w.heap.size := Nat.lt_irrefl _
  refine pxResp_ret (M := w.heap.size) (a0 := .slice none 0 0) (a1 := .slice none 0 0) (a2 := .slice none 0 0) (b := .slice Ab nb cb) (c := .int .i64 0) rfl rfl rfl (hbe.cell 0) (hbe.cell 1) (hbe.cell 2) ?_
  exact ⟨rfl, ((HK.out.setCell (p := ⟨w.heap.size, 0, none⟩) (fun h => absurd h hn) _).setCell (p := ⟨w.heap.size, 1, none⟩) (fun h => absurd h hn) _).setCell (p := ⟨w.heap.size, 2, none⟩) (fun h => absurd h hn) _⟩
end Go.Proofs.YtfnjoceolcdeoaaGreatDoor
namespace Go.Proofs.YtfnjoceolcdeoaaGreatDoor
set_option linter.unusedVariables false
open Go.RowKit

set_option maxHeartbeats 1000000 in
set_option maxRecDepth 100000 in
theorem hdOf_res (w : World) : Calls Tryz.prog 104 #[.int .u8 132] w fun e w' => ∃ A c, e = .returned (.tuple #[.agg #[.int .u8 14, .slice A 8 c], .bool true]) ∧ SlK w' (fun g _ => g < w'.heap.size) 1 (.slice A 8 c) 8 (Lib.byteCells resOps) ∧ Kept noBlock w w' := by
  go_enter Tryz.func104, Tryz.ntmps104
  go_wp2
  have B1 := Blk.new w 206 #[.int .u8 14, .slice (some ⟨w.heap.size + 1, 0, none⟩) 8 8]
  have B2 := B1.alloc (.cells #[.int .u8 0, .int .u8 2, .int .u8 3, .int .u8 6, .int .u8 8, .int .u8 12, .int .u8 14, .int .u8 16] 5)
  have B3 := Blk.new_at (k := w.heap.size + 1) (w.alloc (.cells #[.int .u8 14, .slice (some ⟨w.heap.size + 1, 0, none⟩) 8 8] 206)) 5 #[.int .u8 0, .int .u8 2, .int .u8 3, .int .u8 6, .int .u8 8, .int .u8 12, .int .u8 14, .int .u8 16] (by rw [sz_alloc])
  have hS := (Sl.made_at (sz := 1) (n := 8) B3 _ rfl rfl (by decide)).lo
  refine hdOf_ret (M := w.heap.size) (u := .int .u8 14) (v := .slice (some ⟨w.heap.size + 1, 0, none⟩) 8 8) (b := .bool true) rfl rfl (B2.cell 0) (B2.cell 1) ?_
  exact ⟨_, _, rfl, hS, ((Kept.refl noBlock w).alloc _).alloc _⟩
set_option maxHeartbeats 1000000 in
set_option maxRecDepth 100000 in
theorem hdOf_none (v : Int) (h4 : v ≠ 4) (h132 : v ≠ 132) (w : World) : Calls Tryz.prog 104 #[.int .u8 v] w fun e w' => e = .returned (.tuple #[.agg #[.int .u8 0, .slice none 0 0], .bool false]) ∧ Kept noBlock w w' := by
  have q4 : (v == 4) = false := by rw [beq_eq_false_iff_ne]; exact h4
  have q1 : (v == 132) = false := by rw [beq_eq_false_iff_ne]; exact h132
  clear h4 h132
  go_enter Tryz.func104, Tryz.ntmps104
  go_wp2
  have B1 := Blk.new w 206 #[.int .u8 0, .slice none 0 0]
  refine hdOf_ret (M := w.heap.size) (u := .int .u8 0) (v := .slice none 0 0) (b := .bool false) rfl rfl (B1.cell 0) (B1.cell 1) ?_
  exact ⟨rfl, (Kept.refl noBlock w).alloc _⟩

def chkE (q : Int) (ops : List UInt8) (op : UInt8) (len : Nat) : Int := if q ≠ 0 then 21 else if op ∉ ops then 22 else if 1048576 < len then 12 else 0
/-- header.Check, once 'of' is known. -/
theorem hdCheck_of {v : Int} {kf : Int} {ops : List UInt8} (fl : UInt8) (st : Int) (op : UInt8) (len : Nat)
    (hof : ∀ w, Calls Tryz.prog 104 #[.int .u8 v] w fun e w' => ∃ A c, e = .returned (.tuple #[.agg #[.int .u8 kf, .slice A 8 c], .bool true]) ∧ SlK w' (fun g _ => g < w'.heap.size) 1 (.slice A 8 c) 8 (Lib.byteCells ops) ∧ Kept noBlock w w') (w : World) :
    Calls Tryz.prog 74 #[.agg #[.int .u8 v, .int .u8 (fl.toNat : Int), .int .i16 st, .int .u8 (op.toNat : Int), .int .u32 len]] w fun e w' => e = .returned (.int .i64 (chkE (bits BinOp.andNot IntKind.u8 (fl.toNat : Int) kf) ops op len)) ∧ Kept noBlock w w' := by
  obtain ⟨q, hq⟩ : ∃ q, q = bits BinOp.andNot IntKind.u8 (fl.toNat : Int) kf := ⟨_, rfl⟩
  rw [← hq]
  have hqq := hq.symm
  clear hq
  go_enter Tryz.func74, Tryz.ntmps74
  go_wp2_with fail
  have HB := Lib.hid (Blk.new w 40 #[.int .u8 v, .int .u8 (fl.toNat : Int), .int .i16 st, .int .u8 (op.toNat : Int), .int .u32 len])
  have HK0 := Lib.hid ((Kept.refl noBlock w).alloc (.cells #[.int .u8 v, .int .u8 (fl.toNat : Int), .int .i16 st, .int .u8 (op.toNat : Int), .int .u32 len] 40))
  generalize hw0 : w.alloc (.cells #[.int .u8 v, .int .u8 (fl.toNat : Int), .int .i16 st, .int .u8 (op.toNat : Int), .int .u32 len] 40) = w0 at *
  generalize hg : w.heap.size = g at *
  go_at_call 104
  refine (hof _).mono ?_
  rintro e w1 ⟨A, c, rfl, hs, hk⟩
  have hb1 := (HB.out.kept hk (fun h => h)).alloc (.cells #[.int .u8 kf, .slice A 8 c] 206)
  have y0 := hb1.cell 0
  have y1 := hb1.cell 1
  have y2 := hb1.cell 2
  have y3 := hb1.cell 3
  have y4 := hb1.cell 4
  simp only [List.getElem?_toArray, List.getElem?_cons_zero, List.getElem?_cons_succ] at y0 y1 y2 y3 y4
  have HS := Lib.hid (hs.alloc (.cells #[.int .u8 kf, .slice A 8 c] 206))
  have HK := Lib.hid ((HK0.out.trans hk fun i _ h => h).alloc (.cells #[.int .u8 kf, .slice A 8 c] 206))
  clear hs hk hb1
  by_cases h0 : q = 0
  · subst h0
    go_wp2_with fail
    go_at_call 105
    refine (BContains_at HS.out op).mono ?_
    rintro e w2 ⟨rfl, hw2⟩
    subst hw2
    by_cases hop : op ∈ ops
    · rw [decide_eq_true hop]
      by_cases hl : 1048576 < len
      · have HE : Hid (chkE 0 ops op len = 12) := Lib.hid (by unfold chkE; rw [if_neg (fun h => h rfl), if_neg (fun h => h hop), if_pos hl])
        go_wp2
        go_ret
        rw [HE.out]
        exact ⟨rfl, HK.out⟩
      · have HE : Hid (chkE 0 ops op len = 0) := Lib.hid (by unfold chkE; rw [if_neg (fun h => h rfl), if_neg (fun h => h hop), if_neg hl])
        go_wp2
        go_ret
        rw [HE.out]
        exact ⟨rfl, HK.out⟩
    · have HE : Hid (chkE 0 ops op len = 22) := Lib.hid (by unfold chkE; rw [if_neg (fun h => h rfl), if_pos hop])
      rw [decide_eq_false hop]
      go_wp2
      go_ret
      rw [HE.out]
      exact ⟨rfl, HK.out⟩
  · have hq0 : (q == 0) = false := by rw [beq_eq_false_iff_ne]; exact h0
    have HE : Hid (chkE q ops op len = 21) := Lib.hid (by unfold chkE; rw [if_pos h0])
    clear h0
    go_wp2
    go_ret
    rw [HE.out]
    exact ⟨rfl, HK.out⟩
set_option maxHeartbeats 1000000 in
set_option maxRecDepth 100000 in
theorem hdCheck_none (v : Int) (h4 : v ≠ 4) (h132 : v ≠ 132) (fl st op len : Int) (w : World) :
    Calls Tryz.prog 74 #[.agg #[.int .u8 v, .int .u8 fl, .int .i16 st, .int .u8 op, .int .u32 len]] w fun e w' => e = .returned (.int .i64 20) ∧ Kept noBlock w w' := by
  go_enter Tryz.func74, Tryz.ntmps74
  go_wp2_with fail
  have HB := Lib.hid (Blk.new w 40 #[.int .u8 v, .int .u8 fl, .int .i16 st, .int .u8 op, .int .u32 len])
  have HK0 := Lib.hid ((Kept.refl noBlock w).alloc (.cells #[.int .u8 v, .int .u8 fl, .int .i16 st, .int .u8 op, .int .u32 len] 40))
  generalize hw0 : w.alloc (.cells #[.int .u8 v, .int .u8 fl, .int .i16 st, .int .u8 op, .int .u32 len] 40) = w0 at *
  go_at_call 104
  refine (hdOf_none v h4 h132 _).mono ?_
  rintro e w1 ⟨rfl, hk⟩
  have HK := Lib.hid ((HK0.out.trans hk fun i _ h => h).alloc (.cells #[.int .u8 0, .slice none 0 0] 206))
  clear hk
  go_wp2
  go_ret
  exact ⟨rfl, HK.out⟩
end Go.Proofs.YtfnjoceolcdeoaaGreatDoor

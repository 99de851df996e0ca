/- conn.read of a frame without flags, where its body is as it should be. -/
import Derived.Test.YtfnjoceolcdeoaaGreatDoorMr34
import Derived.Test.YtfnjoceolcdeoaaGreatDoorMr36
import Derived.Deep.DeepCutAuto
namespace Go.Proofs.YtfnjoceolcdeoaaGreatDoor
set_option linter.unusedVariables false
open Go.RowKit

/-- What is known of a reply, from some block on: it stays. -/
def Stays (R : Nat → Array Value → World → Prop) : Prop := ∀ B B' cs W W', R B cs W → B' ≤ B → Kept (fun k => k < B) W W' → R B' cs W'
/-- The parts of a body can be read. -/
def CanRead (op : UInt8) (l : List UInt8) (R : Nat → Array Value → World → Prop) : Prop := ∀ W g G, StrmAt W g (some l) → Blk W G 191 (rep0 op) → Calls Tryz.prog 152 #[.pointer (some ⟨g, 0, none⟩), .pointer (some ⟨G, 0, none⟩)] W (PartsOk W g G (R W.heap.size))
theorem rpGet_can {w : World} {op : UInt8} {A : Option Addr} {n c : Nat} {l : List UInt8} (hs : Sl w 5 1 (.slice A n c) n (bsC l)) (hn : n ≤ 1000000) (R : Nat → Array Value → World → Prop) (hR : Stays R) (hc : CanRead op l R) :
    Calls Tryz.prog 131 #[.int .u8 (op.toNat : Int), .slice A n c] w fun e w' => ∃ cs, e = .returned (.tuple #[.agg cs, .int .i64 0]) ∧ cs.size = 34 ∧ cs.all (·.oneCell') = true ∧ R (w.heap.size + 3) cs w' ∧ Kept noBlock w w' :=
  rpGet_ok hs hn (R (w.heap.size + 3)) (fun cs W W' h hk => hR _ _ cs W W' h (Nat.le_refl _) hk) fun W hW hst hb => (hc W _ _ hst hb).mono fun e W' hp => by
    obtain ⟨he, hk, cs, h1, h2, h3, h4, h5⟩ := hp
    exact ⟨he, hk, cs, h1, h2, h3, h4, hR _ _ cs W' W' h5 hW (Kept.refl _ _)⟩
theorem cnRead_ret {W : World} {T : Array Value} {M : Nat} {cs : Array Value} {b : Value} {R : Ending → World → Prop} (h4 : T.getD 2 undef = .pointer (some ⟨M, 0, none⟩)) (h5 : T.getD 3 undef = b) (hb : Blk W M 191 cs) (hsz : cs.size = 34)
    (hR : R (.returned (.tuple #[.agg cs, b])) W) : bodyPost Tryz.prog Tryz.f90 R .ret { tmps := T, defers := [] } W := by
  have h4' : T[2]?.getD undef = .pointer (some ⟨M, 0, none⟩) := by simpa using h4
  have h5' : T[3]?.getD undef = b := by simpa using h5
  have hl := run_loadVar_row (P := Tryz.prog) W M 191 191 cs (0, 0) _ hb Tryz.underlying191 rfl (rep_info.trans (by rw [hsz]))
  exact bodyPost_ret (v := .tuple #[.agg cs, b]) (by simp [results, Tryz.results90, asAddr, h4', h5', hl]) rfl hR
/-- A frame's value. -/
def frV (st : Int) (op : UInt8) (len : Nat) (A : Option Addr) (n c : Nat) : Array Value := #[.int .u8 132, .int .u8 0, .int .i16 st, .int .u8 (op.toNat : Int), .int .u32 len, .slice A n c]
set_option maxHeartbeats 4000000 in
set_option maxRecDepth 100000 in
theorem cnRead_ok {w : World} (st : Int) {op : UInt8} {len : Nat} {A : Option Addr} {n c : Nat} {l : List UInt8} (hs : Sl w 5 1 (.slice A n c) n (bsC l)) (hn : n ≤ 1000000) (R : Nat → Array Value → World → Prop) (hR : Stays R) (hc : CanRead op l R) :
    Calls Tryz.prog 90 #[.agg (frV st op len A n c)] w fun e w' => ∃ cs, e = .returned (.tuple #[.agg cs, .int .i64 0]) ∧ cs.size = 34 ∧ cs.all (·.oneCell') = true ∧ R w.heap.size cs w' ∧ Kept noBlock w w' := by
  have HBF := Lib.hid ((Blk.new w 123 (frV st op len A n c)).alloc (.cells (rep0 0) 191))
  have HBR := Lib.hid (Blk.new_at (k := w.heap.size + 1) (w.alloc (.cells (frV st op len A n c) 123)) 191 (rep0 0) (by rw [sz_alloc]))
  have HK0 := Lib.hid (((Kept.refl noBlock w).alloc (.cells (frV st op len A n c) 123)).alloc (.cells (rep0 0) 191))
  have HS := Lib.hid hs
  have HRR := Lib.hid hR
  have HCC := Lib.hid hc
  have HPX := Lib.hid (fun W => pxResp_0 A n c W)
  clear hs hR hc
  unfold frV pxC0 at *
  go_enter Tryz.func90, Tryz.ntmps90
  go_wp2_with fail
  go_at_call 130
  refine (HPX.out _).mono ?_
  rintro e w3 ⟨rfl, hk3⟩
  have hbf := HBF.out.kept hk3 fun e => e
  have y3 := hbf.cell 3
  simp only [List.getElem?_toArray, List.getElem?_cons_zero, List.getElem?_cons_succ] at y3
  have HK3 := Lib.hid ((HK0.out.trans hk3 fun _ _ e => e).alloc (.cells #[.slice none 0 0, .slice none 0 0, .slice none 0 0] 235))
  have HBR3 := Lib.hid ((HBR.out.kept hk3 fun e => e).alloc (.cells #[.slice none 0 0, .slice none 0 0, .slice none 0 0] 235))
  have hgl := hbf.lt
  have hbf4 := hbf.alloc (.cells #[.slice none 0 0, .slice none 0 0, .slice none 0 0] 235)
  have z3 := hbf4.cell 3
  simp only [List.getElem?_toArray, List.getElem?_cons_zero, List.getElem?_cons_succ] at z3
  clear hk3 hbf hbf4
  go_upto_region 4 with (fail)
  generalize w3.alloc (.cells #[.slice none 0 0, .slice none 0 0, .slice none 0 0] 235) = w4 at *
  have HG := Lib.hid (rpGet_can (SlK.keptNone HS.out HK3.out) hn R HRR.out HCC.out)
  clear y3 hgl
  go_wp2_with fail
  go_at_call 131
  refine HG.out.mono ?_
  rintro e W ⟨cs, rfl, hsz, hall, hr, hk⟩
  have HBW := Lib.hid (HBR3.out.kept hk fun e => e)
  have HKW := Lib.hid (HK3.out.trans hk fun _ _ e => e)
  have HSZ := Lib.hid hsz
  have HAL := Lib.hid hall
  have HR := Lib.hid hr
  have h43 := HK3.out.size
  clear hk hsz hall hr z3
  go_wp2_with (refine wpList_store_row rfl 191 (.tmp 2) (.tmp 26) rfl (w.heap.size + 1) cs rfl rfl 191 (rep0 0) HBW.out (rep_info.trans (by rw [HSZ.out])) (by rw [HSZ.out]; rfl) HAL.out ?_)
  have hn : ¬ w.heap.size + 1 < w.heap.size := by omega
  have h44 : w.heap.size + 1 < w4.heap.size := HBR3.out.lt
  refine cnRead_ret (M := w.heap.size + 1) (cs := cs) (b := .int .i64 0) rfl rfl (setRow_heap _ _ _ _ _ _ HBW.out) HSZ.out ?_
  exact ⟨cs, rfl, HSZ.out, HAL.out, HRR.out _ _ cs W _ HR.out (by omega) ((Kept.refl (fun k => k < w4.heap.size + 3) W).setRow (g := w.heap.size + 1) (fun _ => by show w.heap.size + 1 < w4.heap.size + 3; omega) cs), HKW.out.setRow (fun h => absurd h hn) cs⟩
end Go.Proofs.YtfnjoceolcdeoaaGreatDoor

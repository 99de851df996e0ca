/- conn.Data: the walk · Maps whose keys are two numbers: a store, a look-up. -/
import Derived.Test.YtfnjoceolcdeoaaGreatDoorMr39
import Derived.Deep.DeepCutAuto
import Derived.Test.YtfnjoceolcdeoaaGreatDoorMr02
import Derived.Test.YtfnjoceolcdeoaaGreatDoorProg
import Derived.DeepKeys4
namespace Go.Proofs.YtfnjoceolcdeoaaGreatDoor
set_option linter.unusedVariables false
open Go.RowKit

set_option maxHeartbeats 8000000 in
set_option maxRecDepth 100000 in
theorem cnData_run {w : World} {lo hi c : Nat} {x : XC} (h : ConnAt w lo hi c x) (h7 : x.state ≠ 7) (hcalm : Calm x) {A : Option Addr} {n cA : Nat} {bl : List UInt8} (hs : Sl w 5 1 (.slice A n cA) n (bsC bl)) (hn0 : 0 < n) (hn : n ≤ 1000000) (now : Int)
    {fs : List Fr} (hadd : addP reqOps bl.length bl = (fs, [], 0)) (J : Nat → XC → XO → World → Prop) (F : XC → XO → World → Prop)
    (hJ0 : ∀ W A' c', c' ≤ maxLen → Kept (fun k => lo ≤ k ∧ k < hi) w W → J 0 { x with last := now, sv := .slice A' 0 c', se := 0 } xo0 W)
    (hJk : ∀ i y Y W W', J i y Y W → Kept noBlock W W' → J i y Y W')
    (hJ7 : ∀ i y Y W, J i y Y W → y.state ≠ 7)
    (hfr : ∀ i f v W y Y o B, fs[i]? = some f → J i y Y W → ConnAt W lo hi c y → OutY W o B Y → ¬ (lo ≤ o ∧ o < hi) → hi ≤ B → B ≤ W.heap.size → BodyOk W hi (f, v) → Calls Tryz.prog 47 #[.pointer (some ⟨c, 0, none⟩), .agg (frC (f, v)).toArray, .pointer (some ⟨o, 0, none⟩)] W fun e W' => e = .returned (.tuple #[]) ∧ ∃ y' Y', ConnAt W' lo hi c y' ∧ OutY W' o B Y' ∧ Kept (outS lo hi o B) W W' ∧ ((y'.state = 7 ∧ F y' Y' W') ∨ J (i + 1) y' Y' W'))
    (hJF : ∀ y Y W, J fs.length y Y W → F y Y W)
    (hFk : ∀ y Y W W', F y Y W → Kept (fun k => k = w.heap.size) W W' → F y Y W') :
    Calls Tryz.prog 27 #[.pointer (some ⟨c, 0, none⟩), .slice A n cA, .int .u64 now] w (DataPost w lo hi c F) := by
  obtain ⟨gs, g, m1, m2, mo, h⟩ := h
  obtain ⟨hse, As, cs0, hsv, hcs⟩ := hcalm
  have hbl : bl.length = n := by have := hs.len; rw [bsC_len] at this; omega
  have hhi := h.hs
  have HB0 := Lib.hid ((Blk.new w 84 #[.slice none 0 0, .slice none 0 0, .slice none 0 0, .bool false, .int .i64 0, .slice none 0 0]).alloc (.cells #[.slice none 0 0, .slice none 0 0, .slice none 0 0, .bool false, .int .i64 0, .slice none 0 0] 84))
  have HB1 := Lib.hid (Blk.new_at (k := w.heap.size + 1) (w.alloc (.cells #[.slice none 0 0, .slice none 0 0, .slice none 0 0, .bool false, .int .i64 0, .slice none 0 0] 84)) 84 #[.slice none 0 0, .slice none 0 0, .slice none 0 0, .bool false, .int .i64 0, .slice none 0 0] (by rw [sz_alloc]))
  have HK0 := Lib.hid (((Kept.refl noBlock w).alloc (.cells #[.slice none 0 0, .slice none 0 0, .slice none 0 0, .bool false, .int .i64 0, .slice none 0 0] 84)).alloc (.cells #[.slice none 0 0, .slice none 0 0, .slice none 0 0, .bool false, .int .i64 0, .slice none 0 0] 84))
  have HSZ := Lib.hid (show ((w.alloc (.cells #[.slice none 0 0, .slice none 0 0, .slice none 0 0, .bool false, .int .i64 0, .slice none 0 0] 84)).alloc (.cells #[.slice none 0 0, .slice none 0 0, .slice none 0 0, .bool false, .int .i64 0, .slice none 0 0] 84)).heap.size = w.heap.size + 2 by rw [sz_alloc, sz_alloc])
  have HS := Lib.hid hs
  have H := Lib.hid h
  have HADD := Lib.hid hadd
  have HJ0 := Lib.hid hJ0
  have HJK := Lib.hid hJk
  have HJ7 := Lib.hid hJ7
  have HFR := Lib.hid hfr
  have HJF := Lib.hid hJF
  have HFK := Lib.hid hFk
  have HBL := Lib.hid hbl
  have HSV := Lib.hid (⟨hse, hsv⟩ : x.se = 0 ∧ x.sv = .slice As 0 cs0)
  clear hs h hadd hJ0 hJk hJ7 hfr hJF hFk hbl hse hsv
  go_enter Tryz.func27, Tryz.ntmps27
  go_upto_region 2 with (fail)
  generalize hw0 : (w.alloc (.cells #[.slice none 0 0, .slice none 0 0, .slice none 0 0, .bool false, .int .i64 0, .slice none 0 0] 84)).alloc (.cells #[.slice none 0 0, .slice none 0 0, .slice none 0 0, .bool false, .int .i64 0, .slice none 0 0] 84) = w0 at *
  generalize hg : w.heap.size = r at *
  clear hw0
  have h0 := H.out.kept HK0.out (fun _ e => e.elim)
  have c8 : w0.cell? ⟨c, 8, none⟩ = some (.int .i64 x.state) := h0.blk.cell 8
  have c9 : w0.cell? ⟨c, 9, none⟩ = some (.pointer (some ⟨gs, 0, none⟩)) := h0.blk.cell 9
  have c17 : w0.cell? ⟨c, 17, none⟩ = some (.int .u64 x.last) := h0.blk.cell 17
  have f17 := h0.blk.frozen 17
  have h7' : (x.state == 7) = false := by rw [beq_eq_false_iff_ne]; exact h7
  have hcr : lo ≤ c ∧ c < hi := h0.rc
  have hcs' := c9
  have HC1 := Lib.hid (h0.setc 17 (.int .u64 now) { x with last := now } rfl rfl (fun _ e => e) rfl rfl)
  have hk1 : Kept (fun k => k = c) w0 (w0.setCell ⟨c, 17, none⟩ (.int .u64 now)) := (Kept.refl (fun k => k = c) w0).setCell (p := ⟨c, 17, none⟩) (fun _ => rfl) _
  have HK1 := Lib.hid hk1
  have hspl : Blk (w0.setCell ⟨c, 17, none⟩ (.int .u64 now)) gs 151 #[.int .u8 132, .slice As 0 cs0, .int .i64 0] := by
    have := HC1.out.spl
    rw [show ({ x with last := now } : XC).sv = x.sv from rfl, show ({ x with last := now } : XC).se = x.se from rfl, HSV.out.1, HSV.out.2] at this
    exact this
  have hs1 : Sl (w0.setCell ⟨c, 17, none⟩ (.int .u64 now)) 5 1 (.slice A n cA) n (bsC bl) := SlK.far (SlK.keptNone HS.out HK0.out) h0.blk (by decide) 17 _
  have hadd := spAdd_at hspl (PendAt.nil _ _ hcs) hs1 (by show 0 + n ≤ _; omega)
  rw [List.nil_append] at hadd
  unfold SpPost at hadd
  rw [HADD.out] at hadd
  have HA := Lib.hid hadd
  have c9' : (w0.setCell ⟨c, 17, none⟩ (.int .u64 now)).cell? ⟨c, 9, none⟩ = some (.pointer (some ⟨gs, 0, none⟩)) := HC1.out.blk.cell 9
  clear h0 hk1 hspl hs1 hadd hcs'
  go_wp2_with fail
  go_at_call 46
  refine HA.out.mono ?_
  rintro e w3 ⟨fv, Af, nf, cf, sv, rfl, hnf, hfv, hsl, hbody, hspl3, hpend, hk3⟩
  obtain ⟨Av, cv, rfl, -, hcv, -⟩ := hpend
  have hcg : gs ≠ c := Ne.symm (Blk.ne_ HC1.out.blk HC1.out.spl (by decide))
  have hsz1 : (w0.setCell ⟨c, 17, none⟩ (.int .u64 now)).heap.size = r + 2 := by rw [sz_setCell]; exact HSZ.out
  have HC3 := Lib.hid (show ConnAt w3 lo hi c { x with last := now, sv := .slice Av 0 cv, se := 0 } from ⟨gs, g, m1, m2, mo, HC1.out.split hspl3 hk3⟩)
  have HKL : Hid (Kept (fun k => lo ≤ k ∧ k < hi) w w3) := Lib.hid (((HK0.out.of_none (S := fun k => lo ≤ k ∧ k < hi)).trans (HK1.out.mono (T := fun k => lo ≤ k ∧ k < hi) fun k _ e => by rw [e]; exact hcr) fun _ _ e => e).trans (hk3.mono (T := fun k => lo ≤ k ∧ k < hi) fun k _ e => by rw [e]; exact HC1.out.rs) fun _ _ e => e)
  have hor : ¬ (r = gs) ∧ ¬ (r + 1 = gs) ∧ ¬ (r = c) ∧ ¬ (r + 1 = c) := by have := HC1.out.rs; omega
  have HBR3 := Lib.hid ((HB0.out.kept HK1.out (fun e => hor.2.2.1 e)).kept hk3 (fun e => hor.1 e))
  have HBO3 := Lib.hid ((HB1.out.kept HK1.out (fun e => hor.2.2.2 e)).kept hk3 (fun e => hor.2.1 e))
  have h3s : r + 2 ≤ w3.heap.size := by rw [← hsz1]; exact hk3.size
  have HO3 := Lib.hid (outY0 (B := w3.heap.size) HBO3.out (by omega))
  have HJS := Lib.hid (HJ0.out w3 Av cv hcv HKL.out)
  have HFS : Hid (SlK w3 (fun g e => r + 2 ≤ g ∧ g < w3.heap.size ∧ e = 123) 6 (.slice Af nf cf) nf (fv.flatMap frC)) := Lib.hid (hsl.any fun g e hlt ho => ⟨by rw [← hsz1]; exact ho.1, hlt, ho.2⟩)
  have HBD : Hid (∀ p ∈ fv, ∃ Ab cb, p.2 = .slice Ab p.1.body.length cb ∧ SlK w3 (fun g e => r + 2 ≤ g ∧ g < w3.heap.size ∧ e = 5) 1 p.2 p.1.body.length (bsC p.1.body)) := Lib.hid fun p hp => by
    obtain ⟨Ab, cb, hv, hb⟩ := hbody p hp
    exact ⟨Ab, cb, hv, hb.any fun g e hlt ho => ⟨by rw [← hsz1]; exact ho.1, hlt, ho.2⟩⟩
  have HNF := Lib.hid hnf
  have HFV := Lib.hid hfv
  have HFL : Hid (fs.length = nf) := Lib.hid (by rw [← hfv, List.length_map, hnf])
  have hnfm : nf ≤ 9223372036854775807 := by obtain ⟨_, _, hv, q1, q2⟩ := hsl.shape; cases hv; unfold maxLen at q2; omega
  clear hnf hfv hsl hbody hspl3 hk3 c8 c9 c9' c17 f17 hcg hsz1
  generalize hB : w3.heap.size = B at *
  go_wp2_with fail
  go_loopg [40] nf (fun j v40 wr => ∃ (i : Nat) (y : XC) (Y : XO), i + j = nf ∧ v40 = .int .i64 i ∧ ConnAt wr lo hi c y ∧ OutY wr (r + 1) B Y ∧ J i y Y wr ∧ Kept (outS lo hi (r + 1) B) w3 wr)
  case atStart => exact ⟨0, _, _, by omega, rfl, HC3.out, HO3.out, HJS.out, Kept.refl _ _⟩
  case round =>
    obtain ⟨i, y, Y, hij, rfl, hc, ho, hj, hk⟩ := hrel
    have HIJ := Lib.hid hij
    have HC := Lib.hid hc
    have HO := Lib.hid ho
    have HJ := Lib.hid hj
    have HK := Lib.hid hk
    clear hij hc ho hj hk
    by_cases hi' : i < nf
    · obtain ⟨p, hp⟩ : ∃ p, fv[i]? = some p := ⟨_, List.getElem?_eq_getElem (by rw [← HNF.out]; exact hi')⟩
      obtain ⟨Ab, cb, hpv, hpb⟩ := HBD.out p (List.mem_of_getElem? hp)
      have hfsr : SlK wr (fun g e => r + 2 ≤ g ∧ g < B ∧ e = 123) 6 (.slice Af nf cf) nf (fv.flatMap frC) := HFS.out.keptAll HK.out fun g e hg e2 => by
        unfold outS at e2
        have := hg.1; have := hg.2.1
        omega
      obtain ⟨gp, off, hidx, hgl, -, hcell⟩ := hfsr.run_index frmT (i := (i : Int)) (k := i) rfl hi'
      have hcc : ∀ j u, j < 6 → (frC p)[j]? = some u → wr.cell? ⟨gp, off + j, none⟩ = some u := fun j u hj hu => hcell j u (by rw [flat_get (k := 6) (fun _ => rfl) fv i j p hp hj]; exact hu)
      obtain ⟨f, v⟩ := p
      have hpv : v = .slice Ab f.body.length cb := hpv
      subst hpv
      have d0 := hcc 0 _ (by decide) rfl
      have d1 := hcc 1 _ (by decide) rfl
      have d2 := hcc 2 _ (by decide) rfl
      have d3 := hcc 3 _ (by decide) rfl
      have d4 := hcc 4 _ (by decide) rfl
      have d5 := hcc 5 _ (by decide) rfl
      rw [Nat.add_zero] at d0
      have hfi : fs[i]? = some f := by rw [← HFV.out, List.getElem?_map, hp]; rfl
      have hka : Kept noBlock wr (wr.alloc (.cells #[.int .u8 132, .int .u8 (f.fl.toNat : Int), .int .i16 f.st, .int .u8 (f.op.toNat : Int), .int .u32 (f.body.length : Int), .slice Ab f.body.length cb] 123)) := (Kept.refl noBlock wr).alloc _
      have HFRM := Lib.hid (HFR.out i f (.slice Ab f.body.length cb) _ y Y (r + 1) B hfi (HJK.out _ _ _ _ _ HJ.out hka) (HC.out.keptN hka) (HO.out.keptN hka) (by omega) (by omega) (by have := HK.out.size; have := hka.size; omega) ⟨Ab, cb, rfl, ((hpb.keptAll HK.out fun g e hg e2 => by
        unfold outS at e2
        have := hg.1; have := hg.2.1
        omega).keptNone hka).any fun g e _ hg => ⟨by have := hg.1; omega, hg.2.2⟩⟩)
      have HKA := Lib.hid (outS_trans HK.out (hka.of_none (S := outS lo hi (r + 1) B)))
      clear hp hpb hfsr hcell hcc hfi hka
      go_wp2_with fail
      go_at_call 47
      refine HFRM.out.mono ?_
      rintro e w5 ⟨rfl, y', Y', hc', ho', hk', hcase⟩
      have HC5 := Lib.hid hc'
      have HO5 := Lib.hid ho'
      have HK5 := Lib.hid (outS_trans HKA.out hk')
      have c8 : w5.cell? ⟨c, 8, none⟩ = some (.int .i64 y'.state) := by
        obtain ⟨gs', g', m1', m2', mo', hci⟩ := hc'
        exact hci.blk.cell 8
      clear hc' ho' hk' d0 d1 d2 d3 d4 d5 hidx hgl
      rcases hcase with ⟨h7y, hF⟩ | hJ'
      · rw [h7y] at c8
        have hbr5 : Blk w5 r 84 #[.slice none 0 0, .slice none 0 0, .slice none 0 0, .bool false, .int .i64 0, .slice none 0 0] := HBR3.out.kept HK5.out (fun e => by unfold outS at e; omega)
        obtain ⟨A5, k5, va, vn, vl, -, hbo5, ⟨A1, k1, rfl⟩, ⟨A2, k2, rfl⟩, ⟨A3, k3, rfl⟩, hfin⟩ := data_fin (w := w) (W := w5) (o := r + 1) hg (by omega) (by omega) (by omega) hbr5 HO5.out HC5.out hF (fun y Y W W' h hk => HFK.out _ _ _ _ h (by rw [hg] at hk; exact hk)) (HKL.out.trans HK5.out fun i hlt e => by have hlt : i < w.heap.size := hlt; rw [hg] at hlt; unfold outS at e; omega)
        obtain ⟨z0, z1, z2, z3, z4, z5⟩ := cells6o hbo5
        obtain ⟨x0, x1, x2, x3, x4, x5⟩ := cells6o hbr5
        have f0 := hbr5.frozen 0
        have f1 := hbr5.frozen 1
        have f2 := hbr5.frozen 2
        have f3 := hbr5.frozen 3
        have f4 := hbr5.frozen 4
        have f5 := hbr5.frozen 5
        have HBR5 := Lib.hid hbr5
        have HFIN := Lib.hid hfin
        clear hbr5 hbo5 hfin
        go_wp2_with fail
        refine bodyPost_ret (results_cell_row rfl _ _ r 84 #[.slice A5 Y'.X.length k5, .slice A1 Y'.an.1 k1, .slice A2 Y'.nt.1 k2, .bool Y'.rd, .int .i64 Y'.dd, .slice A3 Y'.ls.1 k3] (0, 0) _ rfl ((((((HBR5.out.set_ 0 (.slice A5 Y'.X.length k5)).set_ 1 (.slice A1 Y'.an.1 k1)).set_ 2 (.slice A2 Y'.nt.1 k2)).set_ 3 (.bool Y'.rd)).set_ 4 (.int .i64 Y'.dd)).set_ 5 (.slice A3 Y'.ls.1 k3)) Tryz.underlying84 rfl (by kernel_rfl)) rfl ?_
        exact HFIN.out _ (((((((Kept.refl (fun k => k = r) w5).setCell (p := ⟨r, 0, none⟩) (fun _ => rfl) _).setCell (p := ⟨r, 1, none⟩) (fun _ => rfl) _).setCell (p := ⟨r, 2, none⟩) (fun _ => rfl) _).setCell (p := ⟨r, 3, none⟩) (fun _ => rfl) _).setCell (p := ⟨r, 4, none⟩) (fun _ => rfl) _).setCell (p := ⟨r, 5, none⟩) (fun _ => rfl) _)
      · have hy7 : (y'.state == 7) = false := by rw [beq_eq_false_iff_ne]; exact HJ7.out _ _ _ _ hJ'
        have HJ5 := Lib.hid hJ'
        clear hJ'
        go_wp2_with fail
        go_roundg (nf - (i + 1))
        case measure => have := HIJ.out; omega
        case rel => exact ⟨i + 1, y', Y', by have := HIJ.out; omega, by go_num, HC5.out, HO5.out, HJ5.out, HK5.out⟩
    · have hin : i = fs.length := by have := HIJ.out; have := HFL.out; omega
      have hF := HJF.out y Y wr (by rw [← hin]; exact HJ.out)
      have hnf' : ¬ (i : Int) < (nf : Int) := by omega
      have hbr5 : Blk wr r 84 #[.slice none 0 0, .slice none 0 0, .slice none 0 0, .bool false, .int .i64 0, .slice none 0 0] := HBR3.out.kept HK.out (fun e => by unfold outS at e; omega)
      obtain ⟨A5, k5, va, vn, vl, -, hbo5, ⟨A1, k1, rfl⟩, ⟨A2, k2, rfl⟩, ⟨A3, k3, rfl⟩, hfin⟩ := data_fin (w := w) (W := wr) (o := r + 1) hg (by omega) (by omega) (by omega) hbr5 HO.out HC.out hF (fun y Y W W' h hk => HFK.out _ _ _ _ h (by rw [hg] at hk; exact hk)) (HKL.out.trans HK.out fun i hlt e => by have hlt : i < w.heap.size := hlt; rw [hg] at hlt; unfold outS at e; omega)
      obtain ⟨z0, z1, z2, z3, z4, z5⟩ := cells6o hbo5
      obtain ⟨x0, x1, x2, x3, x4, x5⟩ := cells6o hbr5
      have f0 := hbr5.frozen 0
      have f1 := hbr5.frozen 1
      have f2 := hbr5.frozen 2
      have f3 := hbr5.frozen 3
      have f4 := hbr5.frozen 4
      have f5 := hbr5.frozen 5
      have HBR5 := Lib.hid hbr5
      have HFIN := Lib.hid hfin
      clear hbr5 hbo5 hfin
      go_wp2_with fail
      refine bodyPost_ret (results_cell_row rfl _ _ r 84 #[.slice A5 Y.X.length k5, .slice A1 Y.an.1 k1, .slice A2 Y.nt.1 k2, .bool Y.rd, .int .i64 Y.dd, .slice A3 Y.ls.1 k3] (0, 0) _ rfl ((((((HBR5.out.set_ 0 (.slice A5 Y.X.length k5)).set_ 1 (.slice A1 Y.an.1 k1)).set_ 2 (.slice A2 Y.nt.1 k2)).set_ 3 (.bool Y.rd)).set_ 4 (.int .i64 Y.dd)).set_ 5 (.slice A3 Y.ls.1 k3)) Tryz.underlying84 rfl (by kernel_rfl)) rfl ?_
      exact HFIN.out _ (((((((Kept.refl (fun k => k = r) wr).setCell (p := ⟨r, 0, none⟩) (fun _ => rfl) _).setCell (p := ⟨r, 1, none⟩) (fun _ => rfl) _).setCell (p := ⟨r, 2, none⟩) (fun _ => rfl) _).setCell (p := ⟨r, 3, none⟩) (fun _ => rfl) _).setCell (p := ⟨r, 4, none⟩) (fun _ => rfl) _).setCell (p := ⟨r, 5, none⟩) (fun _ => rfl) _)
end Go.Proofs.YtfnjoceolcdeoaaGreatDoor
namespace Go.Proofs.YtfnjoceolcdeoaaGreatDoor
set_option linter.unusedVariables false
open Go.RowKit
open Go.ChangeMaps (setBlock)

def ek (p : Int × Int) : Value := .agg #[.int .i64 p.1, .int .i64 p.2]
theorem ek_inj {a b : Int × Int} (h : ek a = ek b) : a = b := by
  unfold ek at h
  injection h with h
  have h1 := congrArg (fun x : Array Value => x[0]?) h
  have h2 := congrArg (fun x : Array Value => x[1]?) h
  simp at h1 h2
  exact Prod.ext h1 h2
theorem i2law : WideMaps.KeyLaw Tryz.prog 92 := Go.deep_law (m := 2) (by decide) (by kernel_rfl) (by kernel_rfl) (by kernel_rfl)
theorem i2U : Tryz.prog.underlying 92 = some (.array 2 3) := by kernel_rfl
theorem iU : Tryz.prog.underlying 3 = some (.int .i64) := by kernel_rfl
theorem i2cells : Tryz.prog.cellsOf 92 = 2 := by kernel_rfl
theorem icells : Tryz.prog.cellsOf 3 = 1 := by kernel_rfl
theorem i2type : Tryz.prog.keyType 92 = true := by kernel_rfl
theorem tpos : decide (0 < Tryz.prog.types.size) = true := by kernel_rfl
theorem tsize : ∃ n, Tryz.prog.types.size + 1 = n + 2 := ⟨Tryz.prog.types.size - 1, by have := of_decide_eq_true tpos; omega⟩
def sml (p : Int × Int) : Prop := (0 ≤ p.1 ∧ p.1 < 1000) ∧ 0 ≤ p.2 ∧ p.2 < 1000
theorem ek_key (p : Int × Int) (hp : sml p) : ∃ l, keyOf Tryz.prog 92 (ek p) = some l := by
  obtain ⟨a, b⟩ := p
  obtain ⟨⟨h1, h2⟩, h3, h4⟩ := hp
  have wa : (Lit.int .i64 a).wf = true := by simp [Lit.wf, IntKind.min, IntKind.max, IntKind.signed, IntKind.bits]; omega
  have wb : (Lit.int .i64 b).wf = true := by simp [Lit.wf, IntKind.min, IntKind.max, IntKind.signed, IntKind.bits]; omega
  have hf : (ek (a, b)).formed Tryz.prog 92 = true := by kernel_rfl
  obtain ⟨n, hn⟩ := tsize
  refine ⟨.string (keyBytes [.int .i64 a, .int .i64 b]), ?_⟩
  unfold keyOf
  simp only [i2U, i2type, hf, Bool.and_self, if_true, hn]
  simp [ek, Value.cells, Program.keyLits, i2cells, icells, wa, wb, List.range_succ]
theorem i2mU : Tryz.prog.underlying 194 = some (.map 92 3) := by kernel_rfl
theorem i2zero (w : World) : (zeroValue 3).run Tryz.prog w = .ok (.int .i64 0) w := by
  have h : (Tryz.prog.info? 3).map (·.zero) = some (some (.int .i64 0)) := by kernel_rfl
  cases hq : Tryz.prog.info? 3 with
  | none => rw [hq] at h; cases h
  | some i =>
    rw [hq] at h
    have hz : i.zero = some (.int .i64 0) := by simpa using h
    simp [zeroValue, typeInfo, hq, hz]
/-- A map of such keys, as a list. -/
def M2 (w : World) (m : Nat) (L : List ((Int × Int) × Int)) : Prop := (∀ p ∈ L, sml p.1) ∧ ∃ es ck, w.heap[m]? = some (.map es ck) ∧ es.toList.map (fun e => (e.key, e.val)) = L.map (fun p => (ek p.1, Value.int .i64 p.2))
section
variable {w w' : World} {m : Nat} {L : List ((Int × Int) × Int)}
theorem M2.kept {S : Nat → Prop} (h : M2 w m L) (hk : Kept S w w') (hm : ¬ S m) : M2 w' m L := by
  obtain ⟨hsm, es, ck, hh, hL⟩ := h
  exact ⟨hsm, es, ck, (hk.block m (lt_of_heap hh) hm).trans hh, hL⟩
theorem M2.keys (h : M2 w m L) {es : Array MapEntry} {ck : Nat} (hh : w.heap[m]? = some (.map es ck)) : ∀ e ∈ es.toList, ∃ l, keyOf Tryz.prog 92 e.key = some l := by
  obtain ⟨hsm, es', ck', hh', hL⟩ := h
  rw [hh] at hh'
  cases hh'
  intro e he
  have : (e.key, e.val) ∈ es.toList.map (fun e => (e.key, e.val)) := List.mem_map.2 ⟨e, he, rfl⟩
  rw [hL] at this
  obtain ⟨p, hpm, hp⟩ := List.mem_map.1 this
  injection hp with h1 h2
  rw [← h1]; exact ek_key p.1 (hsm p hpm)
theorem M2.find (h : M2 w m L) (w1 : World) (k : Int × Int) (hsk : sml k) : ∃ es ck, w.heap[m]? = some (.map es ck) ∧ es.toList.map (fun e => (e.key, e.val)) = L.map (fun p => (ek p.1, Value.int .i64 p.2)) ∧
    (((Instr.findKey 92 (ek k) es.toList).run Tryz.prog w1 = .ok none w1 ∧ ∀ p ∈ L, p.1 ≠ k) ∨ ∃ (j : Nat) (e : MapEntry) (v : Int), (Instr.findKey 92 (ek k) es.toList).run Tryz.prog w1 = .ok (some (j, .int .i64 v)) w1 ∧ es.toList[j]? = some e ∧ e.key = ek k ∧ e.val = .int .i64 v ∧ L[j]? = some (k, v)) := by
  have hkeys := fun es ck hh => h.keys (es := es) (ck := ck) hh
  obtain ⟨hsm, es, ck, hh, hL⟩ := h
  obtain ⟨l, hl⟩ := ek_key k hsk
  refine ⟨es, ck, hh, hL, ?_⟩
  rcases i2law.find w1 hl es.toList (hkeys es ck hh) with ⟨h1, h2⟩ | ⟨j, e, h1, h2, h3⟩
  · refine .inl ⟨h1, fun p hp e => ?_⟩
    have : (ek p.1, Value.int .i64 p.2) ∈ es.toList.map (fun e => (e.key, e.val)) := by rw [hL]; exact List.mem_map.2 ⟨p, hp, rfl⟩
    obtain ⟨x, hx, hxe⟩ := List.mem_map.1 this
    injection hxe with hx1 hx2
    exact h2 x hx (by rw [hx1, e])
  · have hj : (es.toList.map (fun e => (e.key, e.val)))[j]? = some (e.key, e.val) := by rw [List.getElem?_map, h2]; rfl
    rw [hL, List.getElem?_map] at hj
    cases hLj : L[j]? with
    | none => rw [hLj] at hj; cases hj
    | some p =>
      rw [hLj] at hj
      injection hj with hj
      injection hj with hj1 hj2
      have hpk : p.1 = k := ek_inj (hj1.trans h3)
      refine .inr ⟨j, e, p.2, ?_, h2, h3, hj2.symm, ?_⟩
      · rw [hj2]; exact h1
      · rw [hLj, ← hpk]
/-- A look-up. -/
theorem M2.run_lookup (h : M2 w m L) (k : Int × Int) (hsk : sml k) : ∃ v, (Instr.lookup 194 (.map (some m)) (ek k) false).run Tryz.prog w = .ok (.int .i64 v) w ∧ ((v = 0 ∧ ∀ p ∈ L, p.1 ≠ k) ∨ (k, v) ∈ L) := by
  obtain ⟨l, hl⟩ := ek_key k hsk
  obtain ⟨es, ck, hh, hL, hf⟩ := h.find w k hsk
  have hc := fun em => i2law.check w em hl
  rcases hf with ⟨h1, h2⟩ | ⟨j, e, v, h1, h2, h3, h4, h5⟩
  · exact ⟨0, by simp [Instr.lookup, run_underlying i2mU, MapKept.run_getObj_map hh, hc, h1], .inl ⟨rfl, h2⟩⟩
  · exact ⟨v, by simp [Instr.lookup, run_underlying i2mU, MapKept.run_getObj_map hh, hc, h1], .inr (List.mem_of_getElem? h5)⟩
/-- A store, of what may stand there already. -/
theorem M2.run_put (h : M2 w m L) (k : Int × Int) (v : Int) (hsk : sml k) (hv : ∀ u, (k, u) ∈ L → u = v) : ∃ es ck, (Instr.mapUpdate 194 (.map (some m)) (ek k) (.int .i64 v)).run Tryz.prog w = .ok () (setBlock w m (.map es ck)) ∧ ∃ L', M2 (setBlock w m (.map es ck)) m L' ∧ ∀ p, p ∈ L' ↔ p ∈ L ∨ p = (k, v) := by
  obtain ⟨l, hl⟩ := ek_key k hsk
  obtain ⟨es, ck, hh, hL, hf⟩ := h.find w k hsk
  have hc := fun em => i2law.check w em hl
  rcases hf with ⟨h1, h2⟩ | ⟨j, e, u, h1, h2, h3, h4, h5⟩
  · refine ⟨es.push { key := ek k, val := .int .i64 v, born := ck }, ck + 1, ?_, L ++ [(k, v)], ⟨fun p hp => by rcases List.mem_append.1 hp with hp | hp; exact h.1 p hp; obtain rfl : p = (k, v) := (by simpa using hp); exact hsk, _, _, Go.ChangeMaps.heap_setBlock_same hh _, by simp [hL]⟩, fun p => by simp⟩
    simp [Instr.mapUpdate, run_underlying i2mU, MapKept.run_getObj_map hh, hc, h1, MapKept.run_setObj_map _ hh, Result.andThen, Go.ChangeMaps.setBlock]
  · have hu : u = v := hv u (List.mem_of_getElem? h5)
    subst hu
    have hj : es[j]? = some e := by simpa using h2
    refine ⟨es.modify j (fun e' => { e' with key := ek k, val := .int .i64 u }), ck, ?_, L, ⟨h.1, _, _, Go.ChangeMaps.heap_setBlock_same hh _, ?_⟩, fun p => ⟨.inl, fun hp => ?_⟩⟩
    · have hst := i2law.stays w hl
      simp [Instr.mapUpdate, run_underlying i2mU, MapKept.run_getObj_map hh, hc, h1, hj, h3, hst, MapKept.run_setObj_map _ hh, Result.andThen, Go.ChangeMaps.setBlock]
    · rw [← hL, Array.toList_modify]
      apply List.ext_getElem?
      intro i
      rw [List.getElem?_map, List.getElem?_map, List.getElem?_modify]
      by_cases hij : j = i
      · subst hij
        rw [h2]
        simp [h3, h4]
      · simp [hij]
    · rcases hp with h | h
      · exact h
      · subst h; exact List.mem_of_getElem? h5
end
end Go.Proofs.YtfnjoceolcdeoaaGreatDoor

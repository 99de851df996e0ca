/- ControlPlays: a step, Note. -/
import Derived.Test.YtdcdefkloibfnaaGreatDoorCtStepD
import Derived.Test.YtdcdefkloibfnaaGreatDoorMg02
import Derived.Deep.DeepCutAuto
namespace Go.Proofs.YtdcdefkloibfnaaGreatDoor
set_option linter.unusedVariables false
open Go.RowKit

/-- What the statement leaves that calls the reference's Note. -/
def N0Cut (w4 : World) (okx : Nat → Prop) (dc : ByteArray) (rem wait : Int) (r : NoteR) (s13 s14 s15 s16 : Value) (wx : World) : Prop :=
  ∃ (b : Nat) (A' : Option Addr) (n' c' : Nat) (l' : List HV), s13 = .pointer (some ⟨b, 0, none⟩) ∧ s14 = .string r.name ∧ s15 = .bool r.up ∧ s16 = .bool r.told ∧ Blk wx b 59 #[.string dc, .int .i64 rem, .slice A' n' c', .int .u64 wait, .bool r.asks, .int .u64 r.at_] ∧
    RL wx (fun k => okx k ∨ w4.heap.size ≤ k) A' n' c' l' r.S ∧ Kept noBlock w4 wx
set_option maxHeartbeats 8000000 in
set_option maxRecDepth 100000 in
theorem step0_at {w : World} {ok own : Nat → Prop} {c g : Nat} {dc : ByteArray} {rem : Int} {S : List Ho} {wait at_ : Int} {asks : Bool} {A : Option Addr} {n cc : Nat} {l : List HV} {B : Nat} {x : AV3} (h : CtAt w own c g dc rem S wait asks at_) (hr : RL w ok A n cc l S) (hok : ∀ k, ok k → ¬ own k ∧ k ≠ c) (hS : HOk S)
    (hB : ∀ k, own k ∨ k = c → B ≤ k) (hx : ActIn3 w B x) (now : Int) (hw : 0 ≤ wait ∧ wait ≤ 18446744073709551615) (hnow : 0 ≤ now ∧ now ≤ 18446744073709551615) (hd : Doors w) (hgn : x.note.gn ≤ 20) (hm : bits .and .i64 x.kind 3 = 0) :
    Calls Tryz.prog 19 #[.pointer (some ⟨c, 0, none⟩), .agg (c23C dc rem A n cc wait asks at_), .agg x.C, .int .u64 now] w fun e w' => StepPost w ok own c g dc rem wait e w' := by
  have HBC : Hid (Blk (((w.alloc (.cells #[.string dc, .int .i64 rem, .slice A n cc, .int .u64 wait, .bool asks, .int .u64 at_] 59)).alloc (.cells #[.int .i64 x.kind, .string x.note.kind, .string x.note.what, .slice x.note.a x.note.n x.note.c, .int .u32 x.note.port, .string x.note.sw, .string x.note.target, .string x.note.ss, .string x.note.sn, .slice x.note.ga x.note.gn x.note.gc, .int .i64 x.own.cnt, .slice x.own.ca x.own.cn x.own.cc, .bool x.own.more, .int .i64 x.own.sk, .slice x.own.sa x.own.sn x.own.sc, .slice x.own.ra x.own.rn x.own.rc, .int .i64 x.oth.cnt, .slice x.oth.ca x.oth.cn x.oth.cc, .bool x.oth.more, .int .i64 x.oth.sk, .slice x.oth.sa x.oth.sn x.oth.sc, .slice x.oth.ra x.oth.rn x.oth.rc, .int .u64 x.span] 69)).alloc (.cells #[.string ⟨#[]⟩, .int .i64 0, .slice none 0 0, .int .u64 0, .bool false, .int .u64 0] 59)) w.heap.size 59 #[.string dc, .int .i64 rem, .slice A n cc, .int .u64 wait, .bool asks, .int .u64 at_]) := Lib.hid (((Blk.new w 59 _).alloc _).alloc _)
  have HBA : Hid (Blk (((w.alloc (.cells #[.string dc, .int .i64 rem, .slice A n cc, .int .u64 wait, .bool asks, .int .u64 at_] 59)).alloc (.cells #[.int .i64 x.kind, .string x.note.kind, .string x.note.what, .slice x.note.a x.note.n x.note.c, .int .u32 x.note.port, .string x.note.sw, .string x.note.target, .string x.note.ss, .string x.note.sn, .slice x.note.ga x.note.gn x.note.gc, .int .i64 x.own.cnt, .slice x.own.ca x.own.cn x.own.cc, .bool x.own.more, .int .i64 x.own.sk, .slice x.own.sa x.own.sn x.own.sc, .slice x.own.ra x.own.rn x.own.rc, .int .i64 x.oth.cnt, .slice x.oth.ca x.oth.cn x.oth.cc, .bool x.oth.more, .int .i64 x.oth.sk, .slice x.oth.sa x.oth.sn x.oth.sc, .slice x.oth.ra x.oth.rn x.oth.rc, .int .u64 x.span] 69)).alloc (.cells #[.string ⟨#[]⟩, .int .i64 0, .slice none 0 0, .int .u64 0, .bool false, .int .u64 0] 59)) (w.heap.size + 1) 69 #[.int .i64 x.kind, .string x.note.kind, .string x.note.what, .slice x.note.a x.note.n x.note.c, .int .u32 x.note.port, .string x.note.sw, .string x.note.target, .string x.note.ss, .string x.note.sn, .slice x.note.ga x.note.gn x.note.gc, .int .i64 x.own.cnt, .slice x.own.ca x.own.cn x.own.cc, .bool x.own.more, .int .i64 x.own.sk, .slice x.own.sa x.own.sn x.own.sc, .slice x.own.ra x.own.rn x.own.rc, .int .i64 x.oth.cnt, .slice x.oth.ca x.oth.cn x.oth.cc, .bool x.oth.more, .int .i64 x.oth.sk, .slice x.oth.sa x.oth.sn x.oth.sc, .slice x.oth.ra x.oth.rn x.oth.rc, .int .u64 x.span]) := Lib.hid (Blk.alloc (Blk.new_at _ _ _ (by rw [sz_alloc])) _)
  have HBR : Hid (Blk (((w.alloc (.cells #[.string dc, .int .i64 rem, .slice A n cc, .int .u64 wait, .bool asks, .int .u64 at_] 59)).alloc (.cells #[.int .i64 x.kind, .string x.note.kind, .string x.note.what, .slice x.note.a x.note.n x.note.c, .int .u32 x.note.port, .string x.note.sw, .string x.note.target, .string x.note.ss, .string x.note.sn, .slice x.note.ga x.note.gn x.note.gc, .int .i64 x.own.cnt, .slice x.own.ca x.own.cn x.own.cc, .bool x.own.more, .int .i64 x.own.sk, .slice x.own.sa x.own.sn x.own.sc, .slice x.own.ra x.own.rn x.own.rc, .int .i64 x.oth.cnt, .slice x.oth.ca x.oth.cn x.oth.cc, .bool x.oth.more, .int .i64 x.oth.sk, .slice x.oth.sa x.oth.sn x.oth.sc, .slice x.oth.ra x.oth.rn x.oth.rc, .int .u64 x.span] 69)).alloc (.cells #[.string ⟨#[]⟩, .int .i64 0, .slice none 0 0, .int .u64 0, .bool false, .int .u64 0] 59)) (w.heap.size + 1 + 1) 59 #[.string ⟨#[]⟩, .int .i64 0, .slice none 0 0, .int .u64 0, .bool false, .int .u64 0]) := Lib.hid (Blk.new_at _ _ _ (by rw [sz_alloc, sz_alloc]))
  have HK3 : Hid (Kept noBlock w (((w.alloc (.cells #[.string dc, .int .i64 rem, .slice A n cc, .int .u64 wait, .bool asks, .int .u64 at_] 59)).alloc (.cells #[.int .i64 x.kind, .string x.note.kind, .string x.note.what, .slice x.note.a x.note.n x.note.c, .int .u32 x.note.port, .string x.note.sw, .string x.note.target, .string x.note.ss, .string x.note.sn, .slice x.note.ga x.note.gn x.note.gc, .int .i64 x.own.cnt, .slice x.own.ca x.own.cn x.own.cc, .bool x.own.more, .int .i64 x.own.sk, .slice x.own.sa x.own.sn x.own.sc, .slice x.own.ra x.own.rn x.own.rc, .int .i64 x.oth.cnt, .slice x.oth.ca x.oth.cn x.oth.cc, .bool x.oth.more, .int .i64 x.oth.sk, .slice x.oth.sa x.oth.sn x.oth.sc, .slice x.oth.ra x.oth.rn x.oth.rc, .int .u64 x.span] 69)).alloc (.cells #[.string ⟨#[]⟩, .int .i64 0, .slice none 0 0, .int .u64 0, .bool false, .int .u64 0] 59))) := Lib.hid (((Kept.refl noBlock w).alloc _).alloc _ |>.alloc _)
  have HZ3 : Hid ((((w.alloc (.cells #[.string dc, .int .i64 rem, .slice A n cc, .int .u64 wait, .bool asks, .int .u64 at_] 59)).alloc (.cells #[.int .i64 x.kind, .string x.note.kind, .string x.note.what, .slice x.note.a x.note.n x.note.c, .int .u32 x.note.port, .string x.note.sw, .string x.note.target, .string x.note.ss, .string x.note.sn, .slice x.note.ga x.note.gn x.note.gc, .int .i64 x.own.cnt, .slice x.own.ca x.own.cn x.own.cc, .bool x.own.more, .int .i64 x.own.sk, .slice x.own.sa x.own.sn x.own.sc, .slice x.own.ra x.own.rn x.own.rc, .int .i64 x.oth.cnt, .slice x.oth.ca x.oth.cn x.oth.cc, .bool x.oth.more, .int .i64 x.oth.sk, .slice x.oth.sa x.oth.sn x.oth.sc, .slice x.oth.ra x.oth.rn x.oth.rc, .int .u64 x.span] 69)).alloc (.cells #[.string ⟨#[]⟩, .int .i64 0, .slice none 0 0, .int .u64 0, .bool false, .int .u64 0] 59)).heap.size = w.heap.size + 3) := Lib.hid (by rw [sz_alloc, sz_alloc, sz_alloc])
  have hlt := h.lt
  have HLT := Lib.hid hlt
  have H := Lib.hid h
  have HR : Hid (RL w (fun k => ok k ∧ k < w.heap.size) A n cc l S) := Lib.hid (hr.wide fun k hlt e => ⟨e, hlt⟩)
  have HOKK := Lib.hid hok
  have HB := Lib.hid hB
  have HX := Lib.hid hx
  clear h hr hok hB hx hlt
  unfold AV3.C act3C c23C
  generalize hw3 : (((w.alloc (.cells #[.string dc, .int .i64 rem, .slice A n cc, .int .u64 wait, .bool asks, .int .u64 at_] 59)).alloc (.cells #[.int .i64 x.kind, .string x.note.kind, .string x.note.what, .slice x.note.a x.note.n x.note.c, .int .u32 x.note.port, .string x.note.sw, .string x.note.target, .string x.note.ss, .string x.note.sn, .slice x.note.ga x.note.gn x.note.gc, .int .i64 x.own.cnt, .slice x.own.ca x.own.cn x.own.cc, .bool x.own.more, .int .i64 x.own.sk, .slice x.own.sa x.own.sn x.own.sc, .slice x.own.ra x.own.rn x.own.rc, .int .i64 x.oth.cnt, .slice x.oth.ca x.oth.cn x.oth.cc, .bool x.oth.more, .int .i64 x.oth.sk, .slice x.oth.sa x.oth.sn x.oth.sc, .slice x.oth.ra x.oth.rn x.oth.rc, .int .u64 x.span] 69)).alloc (.cells #[.string ⟨#[]⟩, .int .i64 0, .slice none 0 0, .int .u64 0, .bool false, .int .u64 0] 59)) = W3 at *
  have HW3 := Lib.hid hw3
  clear hw3
  have HCN := Lib.hid (cNote_at (H.out.keptN HK3.out) hw x.note ((HX.out.keptN HK3.out).note.ad.2) (hd.keptN HK3.out) now hnow)
  unfold NV.v at HCN
  go_enter Tryz.func19, Tryz.ntmps19
  go_wp2_with fail
  rw [HW3.out]
  go_at_call 23
  refine HCN.out.mono ?_
  rintro e w4 ⟨rfl, hc4, hk4⟩
  have HOKN : Hid (HOk (noteP S wait asks at_ x.note now).S) := Lib.hid (hS.note _ _ _ _ _)
  have HC4 := Lib.hid hc4
  have HK4 := Lib.hid (show Kept (fun k => own k ∨ k = c) w w4 from (HK3.out.of_none (S := fun k => own k ∨ k = c)).trans hk4 fun k _ e => e)
  have hlc := HLT.out
  have hnb : ∀ k, w.heap.size ≤ k → ¬ (own k ∨ k = c) := fun k hk e => by
    rcases e with e | e
    · have := hlc.1 k e; omega
    · have := hlc.2; omega
  have hbc := HBC.out.kept hk4 (hnb _ (by omega))
  have hba := HBA.out.kept hk4 (hnb _ (by omega))
  have hbr := HBR.out.kept hk4 (hnb _ (by omega))
  have HBR4 := Lib.hid hbr
  have hz4 := hk4.size
  rw [HZ3.out] at hz4
  have HZ4 := Lib.hid hz4
  have HRL4 : Hid (RL w4 (fun k => ok k ∧ k < w.heap.size) A n cc l S) := Lib.hid ((HR.out.keptN HK3.out).kept hk4 fun k e e2 => by
    have := HOKK.out k e.1
    rcases e2 with e2 | e2
    · exact this.1 e2
    · exact this.2 e2)
  have hni : NoteIn w4 B x.note := ((HX.out.keptN HK3.out).note).kept hk4 fun k hlt e => by have := HB.out k e; omega
  have HNO := Lib.hid (fun (W : World) (hW : Kept noBlock w4 W) => noteOf_at (hni.keptN hW) hgn)
  have HXN := Lib.hid (fun (W : World) (hW : Kept noBlock w4 W) (ga : Option Addr) (gn gc : Nat) => x3Note_at dc rem wait asks at_ (HRL4.out.keptN hW) hS.ok.ris (Nat.le_trans hS.ok.len (by decide)) hw x.note ga gn gc now hnow)
  unfold c23C at HXN
  unfold NV.v at HNO
  generalize noteP S wait asks at_ x.note now = r at *
  obtain ⟨c0, c1, c2, c3, c4, c5⟩ := cells6 hbc
  have a1 := hba.cell 1
  have a2 := hba.cell 2
  have a3 := hba.cell 3
  have a4 := hba.cell 4
  have a5 := hba.cell 5
  have a6 := hba.cell 6
  have a7 := hba.cell 7
  have a8 := hba.cell 8
  have a9 := hba.cell 9
  simp only [List.getElem?_toArray, List.getElem?_cons_succ, List.getElem?_cons_zero] at a1 a2 a3 a4 a5 a6 a7 a8 a9
  clear hc4 hk4 hbc hba hbr hz4 HCN hni hnb hlc
  go_upto_region 4 with (fail)
  go_cut [13, 14, 15, 16] (fun s13 s14 s15 s16 wx => N0Cut w4 (fun k => ok k ∧ k < w.heap.size) dc rem wait r s13 s14 s15 s16 wx)
  case first =>
    refine wp_region_sch (fun w' => Kept noBlock w4 w') (.take 0 (.take 1 (.take 2 (.take 4 (.two 3 (.two 5 (.take 6 (.take 7 (.take 8 (.take 9 (.take 10 (.one 11 (.one 12 (.take 13 (.take 14 (.take 15 .nil)))))))))) 11 (.one 5 (.take 6 (.take 7 (.take 8 (.take 9 (.take 10 (.one 12 (.take 13 (.take 14 (.take 15 .nil))))))))))) 11 (.one 3 (.one 5 (.take 6 (.take 7 (.take 8 (.take 9 (.take 10 (.one 12 (.take 13 (.take 14 (.take 15 .nil)))))))))))))))) (by kernel_rfl) (by kernel_rfl) (by kernel_rfl) ((Kept.refl noBlock w4).drew) ?_
    repeat (first
      | (refine sch_takeE rfl rfl ?_
         apply Exists.intro
         refine ⟨fun w' hS => ?_, fun K hK => ?_⟩
         · (have r0 := hS.cellOf c0
            have r1 := hS.cellOf c1
            have r2 := hS.cellOf c2
            have r3 := hS.cellOf c3
            have r4 := hS.cellOf c4
            have r5 := hS.cellOf c5
            have t1 := hS.cellOf a1
            have t2 := hS.cellOf a2
            have t3 := hS.cellOf a3
            have t4 := hS.cellOf a4
            have t5 := hS.cellOf a5
            have t6 := hS.cellOf a6
            have t7 := hS.cellOf a7
            have t8 := hS.cellOf a8
            have t9 := hS.cellOf a9
            clear hS
            unfold takesAt; go_simp; rfl)
         go_simp
         refine hK _ ?_
         clear hK K))
    have H0 := Lib.hid ((Kept.refl noBlock w4).drew)
    refine sch_two ?_ ?_
    · refine do_doK rfl rfl (fun K hK => ?_)
      go_simp
      go_at_call 39
      refine (HNO.out _ H0.out).mono ?_
      rintro e wh ⟨ga, gn, gc, rfl, hkh⟩
      have Hh := Lib.hid (H0.out.trans hkh fun _ _ e => e)
      have HZh := Lib.hid hkh.size
      refine hK _ _ Hh.out ?_
      clear hK K hkh
      refine sch_two ?_ ?_
      · refine do_doK rfl rfl (fun K hK => ?_)
        go_simp
        go_at_call 38
        refine (HXN.out _ Hh.out ga gn gc).mono ?_
        rintro e wf ⟨A', n', c', l', rfl, hrf, hkf⟩
        have Hf := Lib.hid (Hh.out.trans hkf fun _ _ e => e)
        have HRF := Lib.hid (hrf.wide (ok' := fun k => ((ok k ∧ k < w.heap.size) ∨ w4.heap.size ≤ k) ∧ k ≠ wf.heap.size) fun k hlt e => ⟨e.imp id fun e => Nat.le_trans Hh.out.size e, by omega⟩)
        unfold c23C
        refine hK _ _ Hf.out ?_
        clear hK K hrf hkf
        repeat (first
          | (refine sch_takeE rfl rfl ?_
             apply Exists.intro
             refine ⟨fun w' hS => ?_, fun K hK => ?_⟩
             · (clear hS
                unfold takesAt; go_simp; rfl)
             go_simp
             refine hK _ ?_
             clear hK K))
        refine sch_doK rfl rfl (fun K hK => ?_)
        go_simp
        have HB9 : Hid (Blk (wf.alloc (.cells #[.string ⟨#[]⟩, .int .i64 0, .slice none 0 0, .int .u64 0, .bool false, .int .u64 0] 59)) wf.heap.size 59 #[.string ⟨#[]⟩, .int .i64 0, .slice none 0 0, .int .u64 0, .bool false, .int .u64 0]) := Lib.hid (Blk.new _ _ _)
        have Hwz1 : Hid (Kept noBlock w4 (wf.alloc (.cells #[.string ⟨#[]⟩, .int .i64 0, .slice none 0 0, .int .u64 0, .bool false, .int .u64 0] 59))) := Lib.hid (Hf.out.alloc _)
        have HBL : Hid (w4.heap.size ≤ wf.heap.size) := Lib.hid (Hf.out.size)
        have HKA : Hid (Kept noBlock wf (wf.alloc (.cells #[.string ⟨#[]⟩, .int .i64 0, .slice none 0 0, .int .u64 0, .bool false, .int .u64 0] 59))) := Lib.hid ((Kept.refl noBlock wf).alloc _)
        refine hK _ _ Hwz1.out ?_
        clear hK K
        obtain ⟨wz1, hwz⟩ : ∃ wz, wz = (wf.alloc (.cells #[.string ⟨#[]⟩, .int .i64 0, .slice none 0 0, .int .u64 0, .bool false, .int .u64 0] 59)) := ⟨_, rfl⟩
        rw [← hwz] at HB9 HKA Hwz1 ⊢
        clear hwz
        have HRF := Lib.hid (show RL wz1 _ _ _ _ _ _ from HRF.out.keptN HKA.out)
        refine sch_doK rfl rfl (fun K hK => ?_)
        have hb0 := HB9.out
        obtain ⟨e0, e1, e2, e3, e4, e5⟩ := cells6 hb0
        obtain ⟨g0, g1, g2, g3, g4, g5⟩ := frozen6 hb0
        have HBF := Lib.hid (blk6 (M := wf.heap.size) (u0 := .string dc) (u1 := .int .i64 rem) (u2 := (.slice A' n' c')) (u3 := (.int .u64 wait)) (u4 := (.bool r.asks)) (u5 := (.int .u64 r.at_)) hb0)
        have HKB := Lib.hid (kept6 (M := wf.heap.size) (u0 := .string dc) (u1 := .int .i64 rem) (u2 := (.slice A' n' c')) (u3 := (.int .u64 wait)) (u4 := (.bool r.asks)) (u5 := (.int .u64 r.at_)) (Kept.refl (fun k => k = wf.heap.size) wz1) fun _ => rfl)
        have HKK := Lib.hid (kept6 (M := wf.heap.size) (u0 := .string dc) (u1 := .int .i64 rem) (u2 := (.slice A' n' c')) (u3 := (.int .u64 wait)) (u4 := (.bool r.asks)) (u5 := (.int .u64 r.at_)) Hwz1.out fun hlt => absurd hlt (by have := HBL.out; omega))
        go_simp
        refine hK _ _ HKK.out ?_
        clear hK K e0 e1 e2 e3 e4 e5 g0 g1 g2 g3 g4 g5 hb0
        repeat (first
          | (refine sch_takeE rfl rfl ?_
             apply Exists.intro
             refine ⟨fun w' hS => ?_, fun K hK => ?_⟩
             · (clear hS
                unfold takesAt; go_simp; rfl)
             go_simp
             refine hK _ ?_
             clear hK K))
        refine sch_nil (NoPanic.normal ?_)
        go_wp2_with fail
        go_meet
        exact ⟨wf.heap.size, A', n', c', l', rfl, rfl, rfl, rfl, HBF.out, (HRF.out.kept HKB.out fun k e e2 => e.2 e2).wide fun k _ e => e.1, HKK.out⟩
      · refine do_doK rfl rfl (fun K hK => ?_)
        go_simp
        have HB9 : Hid (Blk (wh.alloc (.cells #[.string ⟨#[]⟩, .int .i64 0, .slice none 0 0, .int .u64 0, .bool false, .int .u64 0] 59)) wh.heap.size 59 #[.string ⟨#[]⟩, .int .i64 0, .slice none 0 0, .int .u64 0, .bool false, .int .u64 0]) := Lib.hid (Blk.new _ _ _)
        have Hwz2 : Hid (Kept noBlock w4 (wh.alloc (.cells #[.string ⟨#[]⟩, .int .i64 0, .slice none 0 0, .int .u64 0, .bool false, .int .u64 0] 59))) := Lib.hid (Hh.out.alloc _)
        have HBL : Hid (w4.heap.size ≤ wh.heap.size) := Lib.hid (Hh.out.size)
        have HKA : Hid (Kept noBlock wh (wh.alloc (.cells #[.string ⟨#[]⟩, .int .i64 0, .slice none 0 0, .int .u64 0, .bool false, .int .u64 0] 59))) := Lib.hid ((Kept.refl noBlock wh).alloc _)
        refine hK _ _ Hwz2.out ?_
        clear hK K
        obtain ⟨wz2, hwz⟩ : ∃ wz, wz = (wh.alloc (.cells #[.string ⟨#[]⟩, .int .i64 0, .slice none 0 0, .int .u64 0, .bool false, .int .u64 0] 59)) := ⟨_, rfl⟩
        rw [← hwz] at HB9 HKA Hwz2 ⊢
        clear hwz
        refine sch_doK rfl rfl (fun K hK => ?_)
        go_simp
        go_at_call 38
        refine (HXN.out _ Hwz2.out ga gn gc).mono ?_
        rintro e wf ⟨A', n', c', l', rfl, hrf, hkf⟩
        have Hf := Lib.hid (Hwz2.out.trans hkf fun _ _ e => e)
        have HRF := Lib.hid (hrf.wide (ok' := fun k => ((ok k ∧ k < w.heap.size) ∨ w4.heap.size ≤ k) ∧ k ≠ wh.heap.size) fun k _ e => ⟨e.imp id fun e => Nat.le_trans Hwz2.out.size e, fun e2 => by have := HB9.out.lt; have := HBL.out; have := HZ4.out; rcases e with e | e <;> omega⟩)
        have HB9 := Lib.hid (HB9.out.kept hkf fun e => e)
        unfold c23C
        refine hK _ _ Hf.out ?_
        clear hK K hrf hkf
        repeat (first
          | (refine sch_takeE rfl rfl ?_
             apply Exists.intro
             refine ⟨fun w' hS => ?_, fun K hK => ?_⟩
             · (clear hS
                unfold takesAt; go_simp; rfl)
             go_simp
             refine hK _ ?_
             clear hK K))
        refine sch_doK rfl rfl (fun K hK => ?_)
        have hb0 := HB9.out
        obtain ⟨e0, e1, e2, e3, e4, e5⟩ := cells6 hb0
        obtain ⟨g0, g1, g2, g3, g4, g5⟩ := frozen6 hb0
        have HBF := Lib.hid (blk6 (M := wh.heap.size) (u0 := .string dc) (u1 := .int .i64 rem) (u2 := (.slice A' n' c')) (u3 := (.int .u64 wait)) (u4 := (.bool r.asks)) (u5 := (.int .u64 r.at_)) hb0)
        have HKB := Lib.hid (kept6 (M := wh.heap.size) (u0 := .string dc) (u1 := .int .i64 rem) (u2 := (.slice A' n' c')) (u3 := (.int .u64 wait)) (u4 := (.bool r.asks)) (u5 := (.int .u64 r.at_)) (Kept.refl (fun k => k = wh.heap.size) wf) fun _ => rfl)
        have HKK := Lib.hid (kept6 (M := wh.heap.size) (u0 := .string dc) (u1 := .int .i64 rem) (u2 := (.slice A' n' c')) (u3 := (.int .u64 wait)) (u4 := (.bool r.asks)) (u5 := (.int .u64 r.at_)) Hf.out fun hlt => absurd hlt (by have := HBL.out; omega))
        go_simp
        refine hK _ _ HKK.out ?_
        clear hK K e0 e1 e2 e3 e4 e5 g0 g1 g2 g3 g4 g5 hb0
        repeat (first
          | (refine sch_takeE rfl rfl ?_
             apply Exists.intro
             refine ⟨fun w' hS => ?_, fun K hK => ?_⟩
             · (clear hS
                unfold takesAt; go_simp; rfl)
             go_simp
             refine hK _ ?_
             clear hK K))
        refine sch_nil (NoPanic.normal ?_)
        go_wp2_with fail
        go_meet
        exact ⟨wh.heap.size, A', n', c', l', rfl, rfl, rfl, rfl, HBF.out, (HRF.out.kept HKB.out fun k e e2 => e.2 e2).wide fun k _ e => e.1, HKK.out⟩
    · refine do_doK rfl rfl (fun K hK => ?_)
      go_simp
      have HB9 : Hid (Blk ((w4.alloc (.cells #[.string ⟨#[]⟩, .int .i64 0, .slice none 0 0, .int .u64 0, .bool false, .int .u64 0] 59)).drew) w4.heap.size 59 #[.string ⟨#[]⟩, .int .i64 0, .slice none 0 0, .int .u64 0, .bool false, .int .u64 0]) := Lib.hid (Blk.new _ _ _).drew
      have Hwz3 : Hid (Kept noBlock w4 ((w4.alloc (.cells #[.string ⟨#[]⟩, .int .i64 0, .slice none 0 0, .int .u64 0, .bool false, .int .u64 0] 59)).drew)) := Lib.hid (((Kept.refl noBlock w4).alloc _).drew)
      have HBL : Hid (w4.heap.size ≤ w4.heap.size) := Lib.hid (Nat.le_refl _)
      have HKA : Hid (Kept noBlock w4 ((w4.alloc (.cells #[.string ⟨#[]⟩, .int .i64 0, .slice none 0 0, .int .u64 0, .bool false, .int .u64 0] 59)).drew)) := Lib.hid (((Kept.refl noBlock w4).alloc _).drew)
      refine hK _ _ Hwz3.out ?_
      clear hK K
      obtain ⟨wz3, hwz⟩ : ∃ wz, wz = ((w4.alloc (.cells #[.string ⟨#[]⟩, .int .i64 0, .slice none 0 0, .int .u64 0, .bool false, .int .u64 0] 59)).drew) := ⟨_, rfl⟩
      rw [← hwz] at HB9 HKA Hwz3 ⊢
      clear hwz
      refine sch_doK rfl rfl (fun K hK => ?_)
      go_simp
      go_at_call 39
      refine (HNO.out _ Hwz3.out).mono ?_
      rintro e wh ⟨ga, gn, gc, rfl, hkh⟩
      have Hh := Lib.hid (Hwz3.out.trans hkh fun _ _ e => e)
      have HB9 := Lib.hid (HB9.out.kept hkh fun e => e)
      have HZh := Lib.hid hkh.size
      refine hK _ _ Hh.out ?_
      clear hK K hkh
      refine sch_doK rfl rfl (fun K hK => ?_)
      go_simp
      go_at_call 38
      refine (HXN.out _ Hh.out ga gn gc).mono ?_
      rintro e wf ⟨A', n', c', l', rfl, hrf, hkf⟩
      have Hf := Lib.hid (Hh.out.trans hkf fun _ _ e => e)
      have HRF := Lib.hid (hrf.wide (ok' := fun k => ((ok k ∧ k < w.heap.size) ∨ w4.heap.size ≤ k) ∧ k ≠ w4.heap.size) fun k _ e => ⟨e.imp id fun e => Nat.le_trans Hh.out.size e, fun e2 => by have := HB9.out.lt; have := HBL.out; have := HZ4.out; rcases e with e | e <;> omega⟩)
      have HB9 := Lib.hid (HB9.out.kept hkf fun e => e)
      unfold c23C
      refine hK _ _ Hf.out ?_
      clear hK K hrf hkf
      repeat (first
        | (refine sch_takeE rfl rfl ?_
           apply Exists.intro
           refine ⟨fun w' hS => ?_, fun K hK => ?_⟩
           · (clear hS
              unfold takesAt; go_simp; rfl)
           go_simp
           refine hK _ ?_
           clear hK K))
      refine sch_doK rfl rfl (fun K hK => ?_)
      have hb0 := HB9.out
      obtain ⟨e0, e1, e2, e3, e4, e5⟩ := cells6 hb0
      obtain ⟨g0, g1, g2, g3, g4, g5⟩ := frozen6 hb0
      have HBF := Lib.hid (blk6 (M := w4.heap.size) (u0 := .string dc) (u1 := .int .i64 rem) (u2 := (.slice A' n' c')) (u3 := (.int .u64 wait)) (u4 := (.bool r.asks)) (u5 := (.int .u64 r.at_)) hb0)
      have HKB := Lib.hid (kept6 (M := w4.heap.size) (u0 := .string dc) (u1 := .int .i64 rem) (u2 := (.slice A' n' c')) (u3 := (.int .u64 wait)) (u4 := (.bool r.asks)) (u5 := (.int .u64 r.at_)) (Kept.refl (fun k => k = w4.heap.size) wf) fun _ => rfl)
      have HKK := Lib.hid (kept6 (M := w4.heap.size) (u0 := .string dc) (u1 := .int .i64 rem) (u2 := (.slice A' n' c')) (u3 := (.int .u64 wait)) (u4 := (.bool r.asks)) (u5 := (.int .u64 r.at_)) Hf.out fun hlt => absurd hlt (by have := HBL.out; omega))
      go_simp
      refine hK _ _ HKK.out ?_
      clear hK K e0 e1 e2 e3 e4 e5 g0 g1 g2 g3 g4 g5 hb0
      repeat (first
        | (refine sch_takeE rfl rfl ?_
           apply Exists.intro
           refine ⟨fun w' hS => ?_, fun K hK => ?_⟩
           · (clear hS
              unfold takesAt; go_simp; rfl)
           go_simp
           refine hK _ ?_
           clear hK K))
      refine sch_nil (NoPanic.normal ?_)
      go_wp2_with fail
      go_meet
      exact ⟨w4.heap.size, A', n', c', l', rfl, rfl, rfl, rfl, HBF.out, (HRF.out.kept HKB.out fun k e e2 => e.2 e2).wide fun k _ e => e.1, HKK.out⟩
  case rest =>
    obtain ⟨b, A', n', c', l', rfl, rfl, rfl, rfl, hb, hrl, hk⟩ := hcut
    have hbr := HBR4.out.kept hk fun e => e
    obtain ⟨s0, s1, s2, s3, s4, s5⟩ := cells6 hb
    obtain ⟨r0, r1, r2, r3, r4, r5⟩ := cells6 hbr
    obtain ⟨g0, g1, g2, g3, g4, g5⟩ := frozen6 hbr
    have HBR5 := Lib.hid hbr
    have HRL := Lib.hid hrl
    have HKX := Lib.hid hk
    have HC5 := Lib.hid (HC4.out.keptN hk)
    have q1 := strEq_self r.name
    have q2 : (r.up == r.up) = true := beq_self_eq_true _
    have q3 : (r.told == r.told) = true := beq_self_eq_true _
    have hzz := HZ4.out
    clear hb hbr hrl hk c0 c1 c2 c3 c4 c5 a1 a2 a3 a4 a5 a6 a7 a8 a9
    go_wp2
    have hkb := kept6 (M := w.heap.size + 1 + 1) (u0 := .string dc) (u1 := .int .i64 rem) (u2 := .slice A' n' c') (u3 := .int .u64 wait) (u4 := .bool r.asks) (u5 := .int .u64 r.at_) (Kept.refl (fun k => k = w.heap.size + 1 + 1) wc) fun _ => rfl
    have hlt := HLT.out
    refine step_ret rfl rfl (blk6 HBR5.out) ⟨own, A', n', c', l', r.S, r.asks, r.at_, rfl, HC5.out.keptS hkb fun k e e2 => ?_, (HRL.out.kept hkb fun k e e2 => ?_).wide fun k _ e => ?_, HOKN.out, fun k e => .inl e, kept6 (M := w.heap.size + 1 + 1) (HK4.out.trans HKX.out fun _ _ e => e.elim) fun h => by omega⟩
    · rcases e with e | e
      · have := hlt.1 k e; omega
      · have := hlt.2; omega
    · rcases e with e | e
      · have := e.2; omega
      · omega
    · rcases e with e | e
      · exact ⟨.inl e.1, HOKK.out k e.1⟩
      · exact ⟨.inr (by omega), fun e2 => by have := hlt.1 k e2; omega, fun e2 => by have := hlt.2; omega⟩
end Go.Proofs.YtdcdefkloibfnaaGreatDoor

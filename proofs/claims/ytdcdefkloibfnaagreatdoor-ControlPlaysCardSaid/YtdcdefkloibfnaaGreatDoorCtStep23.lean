/- ControlPlays: a step, Ask and Due. -/
import Derived.Test.YtdcdefkloibfnaaGreatDoorCtStepD
namespace Go.Proofs.YtdcdefkloibfnaaGreatDoor
set_option linter.unusedVariables false
open Go.RowKit

set_option maxHeartbeats 8000000 in
set_option maxRecDepth 100000 in
theorem step2_at {w : World} {ok own : Nat → Prop} {c g : Nat} {dc : ByteArray} {rem : Int} {S : List Ho} {wait at_ : Int} {asks : Bool} {A : Option Addr} {n cc : Nat} {l : List HV} {B : Nat} {x : AV3} (h : CtAt w own c g dc rem S wait asks at_) (hr : RL w ok A n cc l S) (hok : ∀ k, ok k → ¬ own k ∧ k ≠ c) (hS : HOk S)
    (hB : ∀ k, own k ∨ k = c → B ≤ k) (hx : ActIn3 w B x) (now : Int) (hm : bits .and .i64 x.kind 3 = 2) :
    Calls Tryz.prog 19 #[.pointer (some ⟨c, 0, none⟩), .agg (c23C dc rem A n cc wait asks at_), .agg x.C, .int .u64 now] w fun e w' => StepPost w ok own c g dc rem wait e w' := by
  have HBC : Hid (Blk (((w.alloc (.cells #[.string dc, .int .i64 rem, .slice A n cc, .int .u64 wait, .bool asks, .int .u64 at_] 59)).alloc (.cells #[.int .i64 x.kind, .string x.note.kind, .string x.note.what, .slice x.note.a x.note.n x.note.c, .int .u32 x.note.port, .string x.note.sw, .string x.note.target, .string x.note.ss, .string x.note.sn, .slice x.note.ga x.note.gn x.note.gc, .int .i64 x.own.cnt, .slice x.own.ca x.own.cn x.own.cc, .bool x.own.more, .int .i64 x.own.sk, .slice x.own.sa x.own.sn x.own.sc, .slice x.own.ra x.own.rn x.own.rc, .int .i64 x.oth.cnt, .slice x.oth.ca x.oth.cn x.oth.cc, .bool x.oth.more, .int .i64 x.oth.sk, .slice x.oth.sa x.oth.sn x.oth.sc, .slice x.oth.ra x.oth.rn x.oth.rc, .int .u64 x.span] 69)).alloc (.cells #[.string ⟨#[]⟩, .int .i64 0, .slice none 0 0, .int .u64 0, .bool false, .int .u64 0] 59)) w.heap.size 59 #[.string dc, .int .i64 rem, .slice A n cc, .int .u64 wait, .bool asks, .int .u64 at_]) := Lib.hid (((Blk.new w 59 _).alloc _).alloc _)
  have HBA : Hid (Blk (((w.alloc (.cells #[.string dc, .int .i64 rem, .slice A n cc, .int .u64 wait, .bool asks, .int .u64 at_] 59)).alloc (.cells #[.int .i64 x.kind, .string x.note.kind, .string x.note.what, .slice x.note.a x.note.n x.note.c, .int .u32 x.note.port, .string x.note.sw, .string x.note.target, .string x.note.ss, .string x.note.sn, .slice x.note.ga x.note.gn x.note.gc, .int .i64 x.own.cnt, .slice x.own.ca x.own.cn x.own.cc, .bool x.own.more, .int .i64 x.own.sk, .slice x.own.sa x.own.sn x.own.sc, .slice x.own.ra x.own.rn x.own.rc, .int .i64 x.oth.cnt, .slice x.oth.ca x.oth.cn x.oth.cc, .bool x.oth.more, .int .i64 x.oth.sk, .slice x.oth.sa x.oth.sn x.oth.sc, .slice x.oth.ra x.oth.rn x.oth.rc, .int .u64 x.span] 69)).alloc (.cells #[.string ⟨#[]⟩, .int .i64 0, .slice none 0 0, .int .u64 0, .bool false, .int .u64 0] 59)) (w.heap.size + 1) 69 #[.int .i64 x.kind, .string x.note.kind, .string x.note.what, .slice x.note.a x.note.n x.note.c, .int .u32 x.note.port, .string x.note.sw, .string x.note.target, .string x.note.ss, .string x.note.sn, .slice x.note.ga x.note.gn x.note.gc, .int .i64 x.own.cnt, .slice x.own.ca x.own.cn x.own.cc, .bool x.own.more, .int .i64 x.own.sk, .slice x.own.sa x.own.sn x.own.sc, .slice x.own.ra x.own.rn x.own.rc, .int .i64 x.oth.cnt, .slice x.oth.ca x.oth.cn x.oth.cc, .bool x.oth.more, .int .i64 x.oth.sk, .slice x.oth.sa x.oth.sn x.oth.sc, .slice x.oth.ra x.oth.rn x.oth.rc, .int .u64 x.span]) := Lib.hid (Blk.alloc (Blk.new_at _ _ _ (by rw [sz_alloc])) _)
  have HBR : Hid (Blk (((w.alloc (.cells #[.string dc, .int .i64 rem, .slice A n cc, .int .u64 wait, .bool asks, .int .u64 at_] 59)).alloc (.cells #[.int .i64 x.kind, .string x.note.kind, .string x.note.what, .slice x.note.a x.note.n x.note.c, .int .u32 x.note.port, .string x.note.sw, .string x.note.target, .string x.note.ss, .string x.note.sn, .slice x.note.ga x.note.gn x.note.gc, .int .i64 x.own.cnt, .slice x.own.ca x.own.cn x.own.cc, .bool x.own.more, .int .i64 x.own.sk, .slice x.own.sa x.own.sn x.own.sc, .slice x.own.ra x.own.rn x.own.rc, .int .i64 x.oth.cnt, .slice x.oth.ca x.oth.cn x.oth.cc, .bool x.oth.more, .int .i64 x.oth.sk, .slice x.oth.sa x.oth.sn x.oth.sc, .slice x.oth.ra x.oth.rn x.oth.rc, .int .u64 x.span] 69)).alloc (.cells #[.string ⟨#[]⟩, .int .i64 0, .slice none 0 0, .int .u64 0, .bool false, .int .u64 0] 59)) (w.heap.size + 1 + 1) 59 #[.string ⟨#[]⟩, .int .i64 0, .slice none 0 0, .int .u64 0, .bool false, .int .u64 0]) := Lib.hid (Blk.new_at _ _ _ (by rw [sz_alloc, sz_alloc]))
  have HK3 : Hid (Kept noBlock w (((w.alloc (.cells #[.string dc, .int .i64 rem, .slice A n cc, .int .u64 wait, .bool asks, .int .u64 at_] 59)).alloc (.cells #[.int .i64 x.kind, .string x.note.kind, .string x.note.what, .slice x.note.a x.note.n x.note.c, .int .u32 x.note.port, .string x.note.sw, .string x.note.target, .string x.note.ss, .string x.note.sn, .slice x.note.ga x.note.gn x.note.gc, .int .i64 x.own.cnt, .slice x.own.ca x.own.cn x.own.cc, .bool x.own.more, .int .i64 x.own.sk, .slice x.own.sa x.own.sn x.own.sc, .slice x.own.ra x.own.rn x.own.rc, .int .i64 x.oth.cnt, .slice x.oth.ca x.oth.cn x.oth.cc, .bool x.oth.more, .int .i64 x.oth.sk, .slice x.oth.sa x.oth.sn x.oth.sc, .slice x.oth.ra x.oth.rn x.oth.rc, .int .u64 x.span] 69)).alloc (.cells #[.string ⟨#[]⟩, .int .i64 0, .slice none 0 0, .int .u64 0, .bool false, .int .u64 0] 59))) := Lib.hid (((Kept.refl noBlock w).alloc _).alloc _ |>.alloc _)
  have HZ3 : Hid ((((w.alloc (.cells #[.string dc, .int .i64 rem, .slice A n cc, .int .u64 wait, .bool asks, .int .u64 at_] 59)).alloc (.cells #[.int .i64 x.kind, .string x.note.kind, .string x.note.what, .slice x.note.a x.note.n x.note.c, .int .u32 x.note.port, .string x.note.sw, .string x.note.target, .string x.note.ss, .string x.note.sn, .slice x.note.ga x.note.gn x.note.gc, .int .i64 x.own.cnt, .slice x.own.ca x.own.cn x.own.cc, .bool x.own.more, .int .i64 x.own.sk, .slice x.own.sa x.own.sn x.own.sc, .slice x.own.ra x.own.rn x.own.rc, .int .i64 x.oth.cnt, .slice x.oth.ca x.oth.cn x.oth.cc, .bool x.oth.more, .int .i64 x.oth.sk, .slice x.oth.sa x.oth.sn x.oth.sc, .slice x.oth.ra x.oth.rn x.oth.rc, .int .u64 x.span] 69)).alloc (.cells #[.string ⟨#[]⟩, .int .i64 0, .slice none 0 0, .int .u64 0, .bool false, .int .u64 0] 59)).heap.size = w.heap.size + 3) := Lib.hid (by rw [sz_alloc, sz_alloc, sz_alloc])
  have hlt := h.lt
  have HLT := Lib.hid hlt
  have H := Lib.hid h
  have HR : Hid (RL w (fun k => ok k ∧ k < w.heap.size) A n cc l S) := Lib.hid (hr.wide fun k hlt e => ⟨e, hlt⟩)
  have HOKK := Lib.hid hok
  have HB := Lib.hid hB
  have HX := Lib.hid hx
  clear h hr hok hB hx hlt
  unfold AV3.C act3C c23C
  generalize hw3 : (((w.alloc (.cells #[.string dc, .int .i64 rem, .slice A n cc, .int .u64 wait, .bool asks, .int .u64 at_] 59)).alloc (.cells #[.int .i64 x.kind, .string x.note.kind, .string x.note.what, .slice x.note.a x.note.n x.note.c, .int .u32 x.note.port, .string x.note.sw, .string x.note.target, .string x.note.ss, .string x.note.sn, .slice x.note.ga x.note.gn x.note.gc, .int .i64 x.own.cnt, .slice x.own.ca x.own.cn x.own.cc, .bool x.own.more, .int .i64 x.own.sk, .slice x.own.sa x.own.sn x.own.sc, .slice x.own.ra x.own.rn x.own.rc, .int .i64 x.oth.cnt, .slice x.oth.ca x.oth.cn x.oth.cc, .bool x.oth.more, .int .i64 x.oth.sk, .slice x.oth.sa x.oth.sn x.oth.sc, .slice x.oth.ra x.oth.rn x.oth.rc, .int .u64 x.span] 69)).alloc (.cells #[.string ⟨#[]⟩, .int .i64 0, .slice none 0 0, .int .u64 0, .bool false, .int .u64 0] 59)) = W3 at *
  have HW3 := Lib.hid hw3
  clear hw3
  go_enter Tryz.func19, Tryz.ntmps19
  go_wp2_with fail
  rw [HW3.out]
  go_at_call 24
  refine (cAsk_at (H.out.keptN HK3.out) x.span).mono ?_
  rintro e w4 ⟨⟨v, rfl⟩, hc4, hk4⟩
  have HC4 := Lib.hid hc4
  have HK4 := Lib.hid (show Kept (fun k => own k ∨ k = c) w w4 from (HK3.out.of_none (S := fun k => own k ∨ k = c)).trans hk4 fun k _ e => .inr e)
  have hlc := HLT.out.2
  have hbc := HBC.out.kept hk4 (by omega)
  have hba := HBA.out.kept hk4 (by omega)
  have hbr := HBR.out.kept hk4 (by omega)
  have HBR4 := Lib.hid hbr
  have HKC := Lib.hid hk4
  obtain ⟨c0, c1, c2, c3, c4, c5⟩ := cells6 hbc
  have a22 := hba.cell 22
  simp only [List.getElem?_toArray, List.getElem?_cons_succ, List.getElem?_cons_zero] at a22
  clear hc4 hk4 hbc hba hbr
  go_wp2_with fail
  go_at_call 42
  refine (x3Ask_at dc rem A n cc wait asks at_ x.span w4).mono ?_
  unfold c23C
  rintro e w5 ⟨rfl, hk5⟩
  have hbr := HBR4.out.kept hk5 fun e => e
  obtain ⟨r0, r1, r2, r3, r4, r5⟩ := cells6 hbr
  obtain ⟨g0, g1, g2, g3, g4, g5⟩ := frozen6 hbr
  have HBR5 := Lib.hid hbr
  have HK5 := Lib.hid (HK4.out.trans hk5 fun _ _ e => e.elim)
  have HC5 := Lib.hid (HC4.out.keptN hk5)
  have HRL5 := Lib.hid ((((HR.out.keptN HK3.out).kept HKC.out fun k e e2 => (HOKK.out k e.1).2 e2)).keptN hk5)
  clear hk5 hbr c0 c1 c2 c3 c4 c5 a22
  have hzz := HZ3.out
  go_wp2
  have hkb := kept6 (u0 := .string dc) (u1 := .int .i64 rem) (u2 := .slice A n cc) (u3 := .int .u64 wait) (u4 := .bool true) (u5 := .int .u64 (askA asks at_ x.span)) (Kept.refl (fun k => k = w.heap.size + 1 + 1) w5) fun _ => rfl
  refine step_ret rfl rfl (blk6 HBR5.out) ⟨own, A, n, cc, l, S, true, _, rfl, HC5.out.keptS hkb fun k e e2 => ?_, (HRL5.out.kept hkb fun k e e2 => ?_).wide fun k _ e => ⟨.inl e.1, HOKK.out k e.1⟩, hS, fun k e => .inl e, kept6 HK5.out fun h => by omega⟩
  · rcases e with e | e
    · have := HLT.out.1 k e; omega
    · have := HLT.out.2; omega
  · have := e.2; omega
set_option maxHeartbeats 8000000 in
set_option maxRecDepth 100000 in
theorem step3_at {w : World} {ok own : Nat → Prop} {c g : Nat} {dc : ByteArray} {rem : Int} {S : List Ho} {wait at_ : Int} {asks : Bool} {A : Option Addr} {n cc : Nat} {l : List HV} {B : Nat} {x : AV3} (h : CtAt w own c g dc rem S wait asks at_) (hr : RL w ok A n cc l S) (hok : ∀ k, ok k → ¬ own k ∧ k ≠ c) (hS : HOk S)
    (hB : ∀ k, own k ∨ k = c → B ≤ k) (hx : ActIn3 w B x) (now : Int) (hm : bits .and .i64 x.kind 3 = 3) :
    Calls Tryz.prog 19 #[.pointer (some ⟨c, 0, none⟩), .agg (c23C dc rem A n cc wait asks at_), .agg x.C, .int .u64 now] w fun e w' => StepPost w ok own c g dc rem wait e w' := by
  have HBC : Hid (Blk (((w.alloc (.cells #[.string dc, .int .i64 rem, .slice A n cc, .int .u64 wait, .bool asks, .int .u64 at_] 59)).alloc (.cells #[.int .i64 x.kind, .string x.note.kind, .string x.note.what, .slice x.note.a x.note.n x.note.c, .int .u32 x.note.port, .string x.note.sw, .string x.note.target, .string x.note.ss, .string x.note.sn, .slice x.note.ga x.note.gn x.note.gc, .int .i64 x.own.cnt, .slice x.own.ca x.own.cn x.own.cc, .bool x.own.more, .int .i64 x.own.sk, .slice x.own.sa x.own.sn x.own.sc, .slice x.own.ra x.own.rn x.own.rc, .int .i64 x.oth.cnt, .slice x.oth.ca x.oth.cn x.oth.cc, .bool x.oth.more, .int .i64 x.oth.sk, .slice x.oth.sa x.oth.sn x.oth.sc, .slice x.oth.ra x.oth.rn x.oth.rc, .int .u64 x.span] 69)).alloc (.cells #[.string ⟨#[]⟩, .int .i64 0, .slice none 0 0, .int .u64 0, .bool false, .int .u64 0] 59)) w.heap.size 59 #[.string dc, .int .i64 rem, .slice A n cc, .int .u64 wait, .bool asks, .int .u64 at_]) := Lib.hid (((Blk.new w 59 _).alloc _).alloc _)
  have HBA : Hid (Blk (((w.alloc (.cells #[.string dc, .int .i64 rem, .slice A n cc, .int .u64 wait, .bool asks, .int .u64 at_] 59)).alloc (.cells #[.int .i64 x.kind, .string x.note.kind, .string x.note.what, .slice x.note.a x.note.n x.note.c, .int .u32 x.note.port, .string x.note.sw, .string x.note.target, .string x.note.ss, .string x.note.sn, .slice x.note.ga x.note.gn x.note.gc, .int .i64 x.own.cnt, .slice x.own.ca x.own.cn x.own.cc, .bool x.own.more, .int .i64 x.own.sk, .slice x.own.sa x.own.sn x.own.sc, .slice x.own.ra x.own.rn x.own.rc, .int .i64 x.oth.cnt, .slice x.oth.ca x.oth.cn x.oth.cc, .bool x.oth.more, .int .i64 x.oth.sk, .slice x.oth.sa x.oth.sn x.oth.sc, .slice x.oth.ra x.oth.rn x.oth.rc, .int .u64 x.span] 69)).alloc (.cells #[.string ⟨#[]⟩, .int .i64 0, .slice none 0 0, .int .u64 0, .bool false, .int .u64 0] 59)) (w.heap.size + 1) 69 #[.int .i64 x.kind, .string x.note.kind, .string x.note.what, .slice x.note.a x.note.n x.note.c, .int .u32 x.note.port, .string x.note.sw, .string x.note.target, .string x.note.ss, .string x.note.sn, .slice x.note.ga x.note.gn x.note.gc, .int .i64 x.own.cnt, .slice x.own.ca x.own.cn x.own.cc, .bool x.own.more, .int .i64 x.own.sk, .slice x.own.sa x.own.sn x.own.sc, .slice x.own.ra x.own.rn x.own.rc, .int .i64 x.oth.cnt, .slice x.oth.ca x.oth.cn x.oth.cc, .bool x.oth.more, .int .i64 x.oth.sk, .slice x.oth.sa x.oth.sn x.oth.sc, .slice x.oth.ra x.oth.rn x.oth.rc, .int .u64 x.span]) := Lib.hid (Blk.alloc (Blk.new_at _ _ _ (by rw [sz_alloc])) _)
  have HBR : Hid (Blk (((w.alloc (.cells #[.string dc, .int .i64 rem, .slice A n cc, .int .u64 wait, .bool asks, .int .u64 at_] 59)).alloc (.cells #[.int .i64 x.kind, .string x.note.kind, .string x.note.what, .slice x.note.a x.note.n x.note.c, .int .u32 x.note.port, .string x.note.sw, .string x.note.target, .string x.note.ss, .string x.note.sn, .slice x.note.ga x.note.gn x.note.gc, .int .i64 x.own.cnt, .slice x.own.ca x.own.cn x.own.cc, .bool x.own.more, .int .i64 x.own.sk, .slice x.own.sa x.own.sn x.own.sc, .slice x.own.ra x.own.rn x.own.rc, .int .i64 x.oth.cnt, .slice x.oth.ca x.oth.cn x.oth.cc, .bool x.oth.more, .int .i64 x.oth.sk, .slice x.oth.sa x.oth.sn x.oth.sc, .slice x.oth.ra x.oth.rn x.oth.rc, .int .u64 x.span] 69)).alloc (.cells #[.string ⟨#[]⟩, .int .i64 0, .slice none 0 0, .int .u64 0, .bool false, .int .u64 0] 59)) (w.heap.size + 1 + 1) 59 #[.string ⟨#[]⟩, .int .i64 0, .slice none 0 0, .int .u64 0, .bool false, .int .u64 0]) := Lib.hid (Blk.new_at _ _ _ (by rw [sz_alloc, sz_alloc]))
  have HK3 : Hid (Kept noBlock w (((w.alloc (.cells #[.string dc, .int .i64 rem, .slice A n cc, .int .u64 wait, .bool asks, .int .u64 at_] 59)).alloc (.cells #[.int .i64 x.kind, .string x.note.kind, .string x.note.what, .slice x.note.a x.note.n x.note.c, .int .u32 x.note.port, .string x.note.sw, .string x.note.target, .string x.note.ss, .string x.note.sn, .slice x.note.ga x.note.gn x.note.gc, .int .i64 x.own.cnt, .slice x.own.ca x.own.cn x.own.cc, .bool x.own.more, .int .i64 x.own.sk, .slice x.own.sa x.own.sn x.own.sc, .slice x.own.ra x.own.rn x.own.rc, .int .i64 x.oth.cnt, .slice x.oth.ca x.oth.cn x.oth.cc, .bool x.oth.more, .int .i64 x.oth.sk, .slice x.oth.sa x.oth.sn x.oth.sc, .slice x.oth.ra x.oth.rn x.oth.rc, .int .u64 x.span] 69)).alloc (.cells #[.string ⟨#[]⟩, .int .i64 0, .slice none 0 0, .int .u64 0, .bool false, .int .u64 0] 59))) := Lib.hid (((Kept.refl noBlock w).alloc _).alloc _ |>.alloc _)
  have HZ3 : Hid ((((w.alloc (.cells #[.string dc, .int .i64 rem, .slice A n cc, .int .u64 wait, .bool asks, .int .u64 at_] 59)).alloc (.cells #[.int .i64 x.kind, .string x.note.kind, .string x.note.what, .slice x.note.a x.note.n x.note.c, .int .u32 x.note.port, .string x.note.sw, .string x.note.target, .string x.note.ss, .string x.note.sn, .slice x.note.ga x.note.gn x.note.gc, .int .i64 x.own.cnt, .slice x.own.ca x.own.cn x.own.cc, .bool x.own.more, .int .i64 x.own.sk, .slice x.own.sa x.own.sn x.own.sc, .slice x.own.ra x.own.rn x.own.rc, .int .i64 x.oth.cnt, .slice x.oth.ca x.oth.cn x.oth.cc, .bool x.oth.more, .int .i64 x.oth.sk, .slice x.oth.sa x.oth.sn x.oth.sc, .slice x.oth.ra x.oth.rn x.oth.rc, .int .u64 x.span] 69)).alloc (.cells #[.string ⟨#[]⟩, .int .i64 0, .slice none 0 0, .int .u64 0, .bool false, .int .u64 0] 59)).heap.size = w.heap.size + 3) := Lib.hid (by rw [sz_alloc, sz_alloc, sz_alloc])
  have hlt := h.lt
  have HLT := Lib.hid hlt
  have H := Lib.hid h
  have HR : Hid (RL w (fun k => ok k ∧ k < w.heap.size) A n cc l S) := Lib.hid (hr.wide fun k hlt e => ⟨e, hlt⟩)
  have HOKK := Lib.hid hok
  have HB := Lib.hid hB
  have HX := Lib.hid hx
  clear h hr hok hB hx hlt
  unfold AV3.C act3C c23C
  generalize hw3 : (((w.alloc (.cells #[.string dc, .int .i64 rem, .slice A n cc, .int .u64 wait, .bool asks, .int .u64 at_] 59)).alloc (.cells #[.int .i64 x.kind, .string x.note.kind, .string x.note.what, .slice x.note.a x.note.n x.note.c, .int .u32 x.note.port, .string x.note.sw, .string x.note.target, .string x.note.ss, .string x.note.sn, .slice x.note.ga x.note.gn x.note.gc, .int .i64 x.own.cnt, .slice x.own.ca x.own.cn x.own.cc, .bool x.own.more, .int .i64 x.own.sk, .slice x.own.sa x.own.sn x.own.sc, .slice x.own.ra x.own.rn x.own.rc, .int .i64 x.oth.cnt, .slice x.oth.ca x.oth.cn x.oth.cc, .bool x.oth.more, .int .i64 x.oth.sk, .slice x.oth.sa x.oth.sn x.oth.sc, .slice x.oth.ra x.oth.rn x.oth.rc, .int .u64 x.span] 69)).alloc (.cells #[.string ⟨#[]⟩, .int .i64 0, .slice none 0 0, .int .u64 0, .bool false, .int .u64 0] 59)) = W3 at *
  have HW3 := Lib.hid hw3
  clear hw3
  go_enter Tryz.func19, Tryz.ntmps19
  go_wp2_with fail
  rw [HW3.out]
  go_at_call 25
  refine (cDue_at (H.out.keptN HK3.out) now).mono ?_
  rintro e w4 ⟨rfl, hc4, hk4⟩
  have HC4 := Lib.hid hc4
  have HK4 := Lib.hid (show Kept (fun k => own k ∨ k = c) w w4 from (HK3.out.of_none (S := fun k => own k ∨ k = c)).trans hk4 fun k _ e => .inr e)
  have hlc := HLT.out.2
  have hbc := HBC.out.kept hk4 (by omega)
  have hbr := HBR.out.kept hk4 (by omega)
  have HBR4 := Lib.hid hbr
  have HKC := Lib.hid hk4
  obtain ⟨c0, c1, c2, c3, c4, c5⟩ := cells6 hbc
  clear hc4 hk4 hbc hbr
  go_wp2_with fail
  go_at_call 43
  refine (x3Due_at dc rem A n cc wait asks at_ now w4).mono ?_
  unfold c23C
  rintro e w5 ⟨rfl, hk5⟩
  have HK5 := Lib.hid (HK4.out.trans hk5 fun _ _ e => e.elim)
  have HK45 := Lib.hid hk5
  have HRL5 := Lib.hid ((((HR.out.keptN HK3.out).kept HKC.out fun k e e2 => (HOKK.out k e.1).2 e2)).keptN hk5)
  clear hk5 c0 c1 c2 c3 c4 c5
  have HD := Lib.hid (show (asks && !dueB asks at_ now) = (asks && !dueB asks at_ now) from rfl)
  generalize (asks && !dueB asks at_ now) = asks' at *
  generalize dueB asks at_ now = db at *
  have hbb : (db == db) = true := beq_self_eq_true db
  have hka := HK45.out.alloc (.cells #[.string dc, .int .i64 rem, .slice A n cc, .int .u64 wait, .bool asks', .int .u64 at_] 59)
  have hbn := Blk.new w5 59 #[.string dc, .int .i64 rem, .slice A n cc, .int .u64 wait, .bool asks', .int .u64 at_]
  have hbr := HBR4.out.kept hka fun e => e
  obtain ⟨r0, r1, r2, r3, r4, r5⟩ := cells6 hbr
  obtain ⟨g0, g1, g2, g3, g4, g5⟩ := frozen6 hbr
  obtain ⟨c0, c1, c2, c3, c4, c5⟩ := cells6 hbn
  have HBR5 := Lib.hid hbr
  have HC5 := Lib.hid (HC4.out.keptN hka)
  have HKA := Lib.hid ((Kept.refl noBlock w5).alloc (.cells #[.string dc, .int .i64 rem, .slice A n cc, .int .u64 wait, .bool asks', .int .u64 at_] 59))
  clear hbn hbr hka
  go_wp2
  have hkb := kept6 (u0 := .string dc) (u1 := .int .i64 rem) (u2 := .slice A n cc) (u3 := .int .u64 wait) (u4 := .bool asks') (u5 := .int .u64 at_) (Kept.refl (fun k => k = w.heap.size + 1 + 1) (w5.alloc (.cells #[.string dc, .int .i64 rem, .slice A n cc, .int .u64 wait, .bool asks', .int .u64 at_] 59))) fun _ => rfl
  refine step_ret rfl rfl (blk6 HBR5.out) ⟨own, A, n, cc, l, S, asks', _, rfl, HC5.out.keptS hkb fun k e e2 => ?_, ((HRL5.out.keptN HKA.out).kept hkb fun k e e2 => ?_).wide fun k _ e => ⟨.inl e.1, HOKK.out k e.1⟩, hS, fun k e => .inl e, kept6 (HK5.out.trans HKA.out fun _ _ e => e.elim) fun h => by omega⟩
  · rcases e with e | e
    · have := HLT.out.1 k e; omega
    · have := HLT.out.2; omega
  · have := e.2; omega
end Go.Proofs.YtdcdefkloibfnaaGreatDoor

/- The law's model at an error. -/
import Derived.Test.YtooedjedncokpaaRefI
namespace Go.Proofs.Ytooedjedncokpaa
set_option linter.unusedVariables false
open Go.RowKit

set_option maxHeartbeats 1000000 in
set_option maxRecDepth 100000 in
theorem model_1 {r : XReq} {B : Nat} {hv lv : Value} (e : XEv) (now : Int) {w : World} (hb : bits BinOp.and IntKind.i64 e.kind 7 = 1) (h : RefAt w B r hv lv) (hB : B ≤ w.heap.size) (hO : ROk r) (hA : okAg r) (hp0 : 0 ≤ r.prepared) (hp1 : r.prepared < 4611686018427387904) :
    Calls Try.prog 22 #[rVal r hv lv, .agg #[.int .i64 e.kind, .int .i64 e.try_, .int .u32 e.f.code, .string e.f.text, .int .u16 e.f.level, .int .i32 e.f.recv, .int .i32 e.f.need, .int .i32 e.f.fail, .int .u8 e.f.data, .string e.f.write, .string e.f.space, .string e.f.name, e.f.args, e.f.id, .bool e.well, .int .i64 e.why, .int .u64 e.span], .int .u64 now] w (RefPost w B (r.failed e.try_ (e.f.what r))) := by
  obtain ⟨A1, c1, rfl, -, -⟩ := h.1.shape
  obtain ⟨A2, c2, rfl, -, -⟩ := h.2.shape
  have HF := Lib.hid (fun w (hr : RefAt w B r (.slice A1 r.hosts.length c1) (.slice A2 r.live.length c2)) (hB : B ≤ w.heap.size) => rFailed_op e.try_ e.f hr hB hO hA hp0 hp1)
  generalize r.failed e.try_ (e.f.what r) = z at *
  have HFB := Lib.hid (((Blk.new_at (k := w.heap.size + 1) (w.alloc (.cells (rCells r (.slice A1 r.hosts.length c1) (.slice A2 r.live.length c2)) 53)) 62 #[.int .i64 e.kind, .int .i64 e.try_, .int .u32 e.f.code, .string e.f.text, .int .u16 e.f.level, .int .i32 e.f.recv, .int .i32 e.f.need, .int .i32 e.f.fail, .int .u8 e.f.data, .string e.f.write, .string e.f.space, .string e.f.name, e.f.args, e.f.id, .bool e.well, .int .i64 e.why, .int .u64 e.span] (by simp))).alloc (.cells rZero 53))
  have F := Fr.start2 h hB (.cells #[.int .i64 e.kind, .int .i64 e.try_, .int .u32 e.f.code, .string e.f.text, .int .u16 e.f.level, .int .i32 e.f.recv, .int .i32 e.f.need, .int .i32 e.f.fail, .int .u8 e.f.data, .string e.f.write, .string e.f.space, .string e.f.name, e.f.args, e.f.id, .bool e.well, .int .i64 e.why, .int .u64 e.span] 62)
  have hfb := HFB.out
  obtain ⟨u0, u1, u2, u3, u4, u5, u6, u7, u8, u9, u10, u11, u12, u13, u14, u15, u16⟩ := cells17 hfb
  obtain ⟨a0, a1, a2, a3, a4, a5, a6, a7, a8, a9, a10, a11, a12, a13⟩ := cells14 F.box
  obtain ⟨b0, b1, b2, b3, b4, b5, b6, b7, b8, b9, b10, b11, b12, b13⟩ := cells14 F.res
  have fx := F.box.frozen
  have fr := F.res.frozen
  have lx := F.box.lt
  have lr := F.res.lt
  clear hfb
  go_enter Try.func22, Try.ntmps22
  go_wp2_with fail
  refine wp_region_order (fun w' => Blk w' w.heap.size 53 (rCells r (.slice A1 r.hosts.length c1) (.slice A2 r.live.length c2)) ∧ Blk w' (w.heap.size + 1) 62 #[.int .i64 e.kind, .int .i64 e.try_, .int .u32 e.f.code, .string e.f.text, .int .u16 e.f.level, .int .i32 e.f.recv, .int .i32 e.f.need, .int .i32 e.f.fail, .int .u8 e.f.data, .string e.f.write, .string e.f.space, .string e.f.name, e.f.args, e.f.id, .bool e.well, .int .i64 e.why, .int .u64 e.span]) [(0, true), (1, true), (2, true), (3, true), (4, true), (5, false), (6, false), (7, true), (8, true), (9, false), (10, false)] (by kernel_rfl) (by kernel_rfl) (by kernel_rfl) ⟨F.box, HFB.out⟩ ?_
  repeat (first
    | (refine sched_takeE rfl rfl ?_
       apply Exists.intro
       refine ⟨fun w' hS => ?_, fun K hK => ?_⟩
       · (obtain ⟨SB, SE⟩ := hS; obtain ⟨S0, S1, S2, S3, S4, S5, S6, S7, S8, S9, S10, S11, S12, S13⟩ := cells14 SB; obtain ⟨T0, T1, T2, T3, T4, T5, T6, T7, T8, T9, T10, T11, T12, T13, T14, T15, T16⟩ := cells17 SE; unfold takesAt; go_simp; rfl)
       go_simp
       refine hK _ ?_
       clear hK K))
  clear u0 u1 u2 u3 u4 u5 u6 u7 u8 u9 u10 u11 u12 u13 u14 u15 u16
  replace F := F.next (Kept.refl noBlock _).drew
  have hfd := (Kept.refl noBlock _).drew.block _ HFB.out.lt id
  refine sched_doK rfl rfl (fun K hK => ?_)
  go_simp
  go_at_call 37
  refine (faultOf_at e.f _).mono ?_
  rintro e2 w2 ⟨rfl, hk2⟩
  replace F := F.next hk2
  have hfb2 := HFB.out.drew.kept hk2 id
  clear hk2 hfd
  refine hK _ _ ⟨F.box, hfb2⟩ ?_
  clear hK K
  refine sched_doK rfl rfl (fun K hK => ?_)
  go_simp
  go_at_call 36
  refine (HF.out _ F.ref F.leB).mono ?_
  rintro e3 w3 ⟨hv3, lv3, av, rfl, hr3, ha3, hk3⟩
  replace F := F.next hk3
  have hfb3 := hfb2.kept hk3 id
  clear hk3
  obtain ⟨A3, c3, rfl, -, -⟩ := hr3.1.shape
  obtain ⟨A4, c4, rfl, -, -⟩ := hr3.2.shape
  refine hK _ _ ⟨F.box, hfb3⟩ ?_
  clear hK K
  repeat (first
    | (refine sched_takeE rfl rfl ?_
       apply Exists.intro
       refine ⟨fun w' hS => ?_, fun K hK => ?_⟩
       · (obtain ⟨SB, SE⟩ := hS; obtain ⟨S0, S1, S2, S3, S4, S5, S6, S7, S8, S9, S10, S11, S12, S13⟩ := cells14 SB; obtain ⟨T0, T1, T2, T3, T4, T5, T6, T7, T8, T9, T10, T11, T12, T13, T14, T15, T16⟩ := cells17 SE; unfold takesAt; go_simp; rfl)
       go_simp
       refine hK _ ?_
       clear hK K))
  clear a0 a1 a2 a3 a4 a5 a6 a7 a8 a9 a10 a11 a12 a13 b0 b1 b2 b3 b4 b5 b6 b7 b8 b9 b10 b11 b12 b13 fx fr lx lr
  obtain ⟨a0, a1, a2, a3, a4, a5, a6, a7, a8, a9, a10, a11, a12, a13⟩ := cells14 F.box
  obtain ⟨b0, b1, b2, b3, b4, b5, b6, b7, b8, b9, b10, b11, b12, b13⟩ := cells14 F.res
  have fx := F.box.frozen
  have fr := F.res.frozen
  have lx := F.box.lt
  have lr := F.res.lt
  refine sched_doK rfl rfl (fun K hK => ?_)
  go_simp
  have hkp := rStored_kept w3 (w.heap.size + 1 + 1) z.1 (.slice A3 z.1.hosts.length c3) (.slice A4 z.1.live.length c4)
  refine hK _ _ ⟨F.box.kept hkp (by omega), hfb3.kept hkp (by omega)⟩ ?_
  clear hK K hkp
  refine sched_doK rfl rfl (fun K hK => ?_)
  go_simp
  have hkp := rStored_kept w3 (w.heap.size + 1 + 1) z.1 (.slice A3 z.1.hosts.length c3) (.slice A4 z.1.live.length c4)
  refine hK _ _ ⟨F.box.kept hkp (by omega), hfb3.kept hkp (by omega)⟩ ?_
  clear hK K hkp
  refine sched_nil (NoPanic.normal ?_)
  go_wp2
  exact F.tail (t := 6) (s := 7) hr3 ha3 rfl rfl rfl rfl

set_option maxHeartbeats 1000000 in
set_option maxRecDepth 100000 in
theorem model_2 {r : XReq} {B : Nat} {hv lv : Value} (e : XEv) (now : Int) {w : World} (hb : bits BinOp.and IntKind.i64 e.kind 7 = 2) (h : RefAt w B r hv lv) (hB : B ≤ w.heap.size) (hO : ROk r) (hA : okAg r) (hp0 : 0 ≤ r.prepared) (hp1 : r.prepared < 4611686018427387904) :
    Calls Try.prog 22 #[rVal r hv lv, .agg #[.int .i64 e.kind, .int .i64 e.try_, .int .u32 e.f.code, .string e.f.text, .int .u16 e.f.level, .int .i32 e.f.recv, .int .i32 e.f.need, .int .i32 e.f.fail, .int .u8 e.f.data, .string e.f.write, .string e.f.space, .string e.f.name, e.f.args, e.f.id, .bool e.well, .int .i64 e.why, .int .u64 e.span], .int .u64 now] w (RefPost w B (r.failed e.try_ (e.f.what r))) := by
  obtain ⟨A1, c1, rfl, -, -⟩ := h.1.shape
  obtain ⟨A2, c2, rfl, -, -⟩ := h.2.shape
  have HF := Lib.hid (fun w (hr : RefAt w B r (.slice A1 r.hosts.length c1) (.slice A2 r.live.length c2)) (hB : B ≤ w.heap.size) => rFailed_op e.try_ e.f hr hB hO hA hp0 hp1)
  generalize r.failed e.try_ (e.f.what r) = z at *
  have HFB := Lib.hid (((Blk.new_at (k := w.heap.size + 1) (w.alloc (.cells (rCells r (.slice A1 r.hosts.length c1) (.slice A2 r.live.length c2)) 53)) 62 #[.int .i64 e.kind, .int .i64 e.try_, .int .u32 e.f.code, .string e.f.text, .int .u16 e.f.level, .int .i32 e.f.recv, .int .i32 e.f.need, .int .i32 e.f.fail, .int .u8 e.f.data, .string e.f.write, .string e.f.space, .string e.f.name, e.f.args, e.f.id, .bool e.well, .int .i64 e.why, .int .u64 e.span] (by simp))).alloc (.cells rZero 53))
  have F := Fr.start2 h hB (.cells #[.int .i64 e.kind, .int .i64 e.try_, .int .u32 e.f.code, .string e.f.text, .int .u16 e.f.level, .int .i32 e.f.recv, .int .i32 e.f.need, .int .i32 e.f.fail, .int .u8 e.f.data, .string e.f.write, .string e.f.space, .string e.f.name, e.f.args, e.f.id, .bool e.well, .int .i64 e.why, .int .u64 e.span] 62)
  have hfb := HFB.out
  obtain ⟨u0, u1, u2, u3, u4, u5, u6, u7, u8, u9, u10, u11, u12, u13, u14, u15, u16⟩ := cells17 hfb
  obtain ⟨a0, a1, a2, a3, a4, a5, a6, a7, a8, a9, a10, a11, a12, a13⟩ := cells14 F.box
  obtain ⟨b0, b1, b2, b3, b4, b5, b6, b7, b8, b9, b10, b11, b12, b13⟩ := cells14 F.res
  have fx := F.box.frozen
  have fr := F.res.frozen
  have lx := F.box.lt
  have lr := F.res.lt
  clear hfb
  go_enter Try.func22, Try.ntmps22
  go_wp2_with fail
  refine wp_region_order (fun w' => Blk w' w.heap.size 53 (rCells r (.slice A1 r.hosts.length c1) (.slice A2 r.live.length c2)) ∧ Blk w' (w.heap.size + 1) 62 #[.int .i64 e.kind, .int .i64 e.try_, .int .u32 e.f.code, .string e.f.text, .int .u16 e.f.level, .int .i32 e.f.recv, .int .i32 e.f.need, .int .i32 e.f.fail, .int .u8 e.f.data, .string e.f.write, .string e.f.space, .string e.f.name, e.f.args, e.f.id, .bool e.well, .int .i64 e.why, .int .u64 e.span]) [(0, true), (1, true), (2, true), (3, true), (4, true), (5, false), (6, false), (7, true), (8, true), (9, false), (10, false)] (by kernel_rfl) (by kernel_rfl) (by kernel_rfl) ⟨F.box, HFB.out⟩ ?_
  repeat (first
    | (refine sched_takeE rfl rfl ?_
       apply Exists.intro
       refine ⟨fun w' hS => ?_, fun K hK => ?_⟩
       · (obtain ⟨SB, SE⟩ := hS; obtain ⟨S0, S1, S2, S3, S4, S5, S6, S7, S8, S9, S10, S11, S12, S13⟩ := cells14 SB; obtain ⟨T0, T1, T2, T3, T4, T5, T6, T7, T8, T9, T10, T11, T12, T13, T14, T15, T16⟩ := cells17 SE; unfold takesAt; go_simp; rfl)
       go_simp
       refine hK _ ?_
       clear hK K))
  clear u0 u1 u2 u3 u4 u5 u6 u7 u8 u9 u10 u11 u12 u13 u14 u15 u16
  replace F := F.next (Kept.refl noBlock _).drew
  have hfd := (Kept.refl noBlock _).drew.block _ HFB.out.lt id
  refine sched_doK rfl rfl (fun K hK => ?_)
  go_simp
  go_at_call 37
  refine (faultOf_at e.f _).mono ?_
  rintro e2 w2 ⟨rfl, hk2⟩
  replace F := F.next hk2
  have hfb2 := HFB.out.drew.kept hk2 id
  clear hk2 hfd
  refine hK _ _ ⟨F.box, hfb2⟩ ?_
  clear hK K
  refine sched_doK rfl rfl (fun K hK => ?_)
  go_simp
  go_at_call 36
  refine (HF.out _ F.ref F.leB).mono ?_
  rintro e3 w3 ⟨hv3, lv3, av, rfl, hr3, ha3, hk3⟩
  replace F := F.next hk3
  have hfb3 := hfb2.kept hk3 id
  clear hk3
  obtain ⟨A3, c3, rfl, -, -⟩ := hr3.1.shape
  obtain ⟨A4, c4, rfl, -, -⟩ := hr3.2.shape
  refine hK _ _ ⟨F.box, hfb3⟩ ?_
  clear hK K
  repeat (first
    | (refine sched_takeE rfl rfl ?_
       apply Exists.intro
       refine ⟨fun w' hS => ?_, fun K hK => ?_⟩
       · (obtain ⟨SB, SE⟩ := hS; obtain ⟨S0, S1, S2, S3, S4, S5, S6, S7, S8, S9, S10, S11, S12, S13⟩ := cells14 SB; obtain ⟨T0, T1, T2, T3, T4, T5, T6, T7, T8, T9, T10, T11, T12, T13, T14, T15, T16⟩ := cells17 SE; unfold takesAt; go_simp; rfl)
       go_simp
       refine hK _ ?_
       clear hK K))
  clear a0 a1 a2 a3 a4 a5 a6 a7 a8 a9 a10 a11 a12 a13 b0 b1 b2 b3 b4 b5 b6 b7 b8 b9 b10 b11 b12 b13 fx fr lx lr
  obtain ⟨a0, a1, a2, a3, a4, a5, a6, a7, a8, a9, a10, a11, a12, a13⟩ := cells14 F.box
  obtain ⟨b0, b1, b2, b3, b4, b5, b6, b7, b8, b9, b10, b11, b12, b13⟩ := cells14 F.res
  have fx := F.box.frozen
  have fr := F.res.frozen
  have lx := F.box.lt
  have lr := F.res.lt
  refine sched_doK rfl rfl (fun K hK => ?_)
  go_simp
  have hkp := rStored_kept w3 (w.heap.size + 1 + 1) z.1 (.slice A3 z.1.hosts.length c3) (.slice A4 z.1.live.length c4)
  refine hK _ _ ⟨F.box.kept hkp (by omega), hfb3.kept hkp (by omega)⟩ ?_
  clear hK K hkp
  refine sched_doK rfl rfl (fun K hK => ?_)
  go_simp
  have hkp := rStored_kept w3 (w.heap.size + 1 + 1) z.1 (.slice A3 z.1.hosts.length c3) (.slice A4 z.1.live.length c4)
  refine hK _ _ ⟨F.box.kept hkp (by omega), hfb3.kept hkp (by omega)⟩ ?_
  clear hK K hkp
  refine sched_nil (NoPanic.normal ?_)
  go_wp2
  exact F.tail (t := 6) (s := 7) hr3 ha3 rfl rfl rfl rfl

end Go.Proofs.Ytooedjedncokpaa

/- The reference's New; the law's model. -/
import Derived.Test.YtooedjedncokpaaRefH
namespace Go.Proofs.Ytooedjedncokpaa
set_option linter.unusedVariables false
open Go.RowKit

set_option maxHeartbeats 1000000 in
set_option maxRecDepth 100000 in
theorem rNew_at {B : Nat} {v : Value} {l : List ByteArray} (c0 c1 c2 c3 : Int) (idem : Bool) (now till : Int) {w : World} (h : Lo w B 1 v l.length (l.map Value.string)) (hB : B ≤ w.heap.size) :
    Calls Try.prog 16 #[.agg #[.int .i64 c0, .int .i64 c1, .int .u64 c2, .int .i64 c3], v, .bool idem, .int .u64 now, .int .u64 till] w (RefPost w B ((XReq.fresh c0 c1 c2 c3 l idem now till).begin 40 (-1))) := by
  obtain ⟨A1, c, rfl, -, -⟩ := h.shape
  have hb := Blk.new (w.alloc (.cells #[.int .i64 c0, .int .i64 c1, .int .u64 c2, .int .i64 c3] 50)) 53 rZero
  have hk := ((Kept.refl noBlock w).alloc (.cells #[.int .i64 c0, .int .i64 c1, .int .u64 c2, .int .i64 c3] 50)).alloc (.cells rZero 53)
  have h2 : RefAt ((w.alloc (.cells #[.int .i64 c0, .int .i64 c1, .int .u64 c2, .int .i64 c3] 50)).alloc (.cells rZero 53)) B (XReq.fresh c0 c1 c2 c3 l idem now till) (.slice A1 l.length c) (.slice none 0 0) := ⟨(h.alloc _).alloc _, Sl.nil _ _ _⟩
  have hF := rbegin_at 40 (-1) h2 (by simp; omega) ⟨Int.le_refl 0, show (0 : Int) < 4611686018427387904 by decide, by simp [XReq.fresh], by simp [XReq.fresh]⟩
  have HK := Lib.hid hk
  have HB := Lib.hid hb
  have HF := Lib.hid hF
  generalize (XReq.fresh c0 c1 c2 c3 l idem now till).begin 40 (-1) = z at *
  clear hb hk h2 hF h
  go_enter Try.func16, Try.ntmps16
  go_wp2_with fail
  refine HF.out.mono ?_
  rintro e w1 ⟨hv1, lv1, av, rfl, hr1, ha1, hk1⟩
  obtain ⟨A3, c3', rfl, -, -⟩ := hr1.1.shape
  obtain ⟨A4, c4', rfl, -, -⟩ := hr1.2.shape
  have hb1 := HB.out.kept hk1 id
  rw [sz_alloc] at hb1
  obtain ⟨d0, d1, d2, d3, d4, d5, d6, d7, d8, d9, d10, d11, d12, d13⟩ := cells14 hb1
  have f := hb1.frozen
  have HK1 := Lib.hid hk1
  have HB1 := Lib.hid hb1
  clear hk1 hb1
  go_wp2_with fail
  exact rtail (t := 10) (s := 11) rfl rfl rfl rfl HB1.out hr1 ha1 (HK.out.trans HK1.out fun _ _ h => h) (by omega) (by omega)

theorem cells17 {w : World} {b : Nat} {t : TypeId} {c0 c1 c2 c3 c4 c5 c6 c7 c8 c9 c10 c11 c12 c13 c14 c15 c16 : Value} (h : Blk w b t #[c0, c1, c2, c3, c4, c5, c6, c7, c8, c9, c10, c11, c12, c13, c14, c15, c16]) :
    w.cell? ⟨b, 0, none⟩ = some c0 ∧ w.cell? ⟨b, 1, none⟩ = some c1 ∧ w.cell? ⟨b, 2, none⟩ = some c2 ∧ w.cell? ⟨b, 3, none⟩ = some c3 ∧ w.cell? ⟨b, 4, none⟩ = some c4 ∧ w.cell? ⟨b, 5, none⟩ = some c5 ∧ w.cell? ⟨b, 6, none⟩ = some c6 ∧ w.cell? ⟨b, 7, none⟩ = some c7 ∧ w.cell? ⟨b, 8, none⟩ = some c8 ∧ w.cell? ⟨b, 9, none⟩ = some c9 ∧ w.cell? ⟨b, 10, none⟩ = some c10 ∧ w.cell? ⟨b, 11, none⟩ = some c11 ∧ w.cell? ⟨b, 12, none⟩ = some c12 ∧ w.cell? ⟨b, 13, none⟩ = some c13 ∧ w.cell? ⟨b, 14, none⟩ = some c14 ∧ w.cell? ⟨b, 15, none⟩ = some c15 ∧ w.cell? ⟨b, 16, none⟩ = some c16 :=
  ⟨h.cell 0, h.cell 1, h.cell 2, h.cell 3, h.cell 4, h.cell 5, h.cell 6, h.cell 7, h.cell 8, h.cell 9, h.cell 10, h.cell 11, h.cell 12, h.cell 13, h.cell 14, h.cell 15, h.cell 16⟩

theorem rAnswered_op {r : XReq} {B : Nat} {hv lv : Value} (n : Int) {w : World} (h : RefAt w B r hv lv) (hB : B ≤ w.heap.size) (hO : ROk r) :
    Calls Try.prog 35 #[rVal r hv lv, .int .i64 n] w (RefPost w B (r.answered n)) := by
  unfold XReq.answered
  cases hg : aget n r.live with
  | none => exact rAnswered_none n h hB hO hg
  | some v => exact rAnswered_some n h hB hO hg
theorem rRefused_op {r : XReq} {B : Nat} {hv lv : Value} (n why : Int) {w : World} (h : RefAt w B r hv lv) (hB : B ≤ w.heap.size) (hO : ROk r) :
    Calls Try.prog 40 #[rVal r hv lv, .int .i64 n, .int .i64 why] w (RefPost w B (r.refused n why)) := by
  unfold XReq.refused
  cases hg : aget n r.live with
  | none => exact rRefused_none n why h hB hO hg
  | some v => exact rRefused_some n why h hB hO hg

set_option maxHeartbeats 1000000 in
set_option maxRecDepth 100000 in
theorem model_0 {r : XReq} {B : Nat} {hv lv : Value} (e : XEv) (now : Int) {w : World} (hb : bits BinOp.and IntKind.i64 e.kind 7 = 0) (h : RefAt w B r hv lv) (hB : B ≤ w.heap.size) (hO : ROk r) :
    Calls Try.prog 22 #[rVal r hv lv, .agg #[.int .i64 e.kind, .int .i64 e.try_, .int .u32 e.f.code, .string e.f.text, .int .u16 e.f.level, .int .i32 e.f.recv, .int .i32 e.f.need, .int .i32 e.f.fail, .int .u8 e.f.data, .string e.f.write, .string e.f.space, .string e.f.name, e.f.args, e.f.id, .bool e.well, .int .i64 e.why, .int .u64 e.span], .int .u64 now] w (RefPost w B (r.answered e.try_)) := by
  obtain ⟨A1, c1, rfl, -, -⟩ := h.1.shape
  obtain ⟨A2, c2, rfl, -, -⟩ := h.2.shape
  have HF := Lib.hid (fun w (hr : RefAt w B r (.slice A1 r.hosts.length c1) (.slice A2 r.live.length c2)) (hB : B ≤ w.heap.size) => rAnswered_op e.try_ hr hB hO)
  generalize r.answered e.try_ = z at *
  have HFB := Lib.hid (((Blk.new_at (k := w.heap.size + 1) (w.alloc (.cells (rCells r (.slice A1 r.hosts.length c1) (.slice A2 r.live.length c2)) 53)) 62 #[.int .i64 e.kind, .int .i64 e.try_, .int .u32 e.f.code, .string e.f.text, .int .u16 e.f.level, .int .i32 e.f.recv, .int .i32 e.f.need, .int .i32 e.f.fail, .int .u8 e.f.data, .string e.f.write, .string e.f.space, .string e.f.name, e.f.args, e.f.id, .bool e.well, .int .i64 e.why, .int .u64 e.span] (by simp))).alloc (.cells rZero 53))
  have F := Fr.start2 h hB (.cells #[.int .i64 e.kind, .int .i64 e.try_, .int .u32 e.f.code, .string e.f.text, .int .u16 e.f.level, .int .i32 e.f.recv, .int .i32 e.f.need, .int .i32 e.f.fail, .int .u8 e.f.data, .string e.f.write, .string e.f.space, .string e.f.name, e.f.args, e.f.id, .bool e.well, .int .i64 e.why, .int .u64 e.span] 62)
  have hfb := HFB.out
  obtain ⟨u0, u1, u2, u3, u4, u5, u6, u7, u8, u9, u10, u11, u12, u13, u14, u15, u16⟩ := cells17 hfb
  obtain ⟨a0, a1, a2, a3, a4, a5, a6, a7, a8, a9, a10, a11, a12, a13⟩ := cells14 F.box
  obtain ⟨b0, b1, b2, b3, b4, b5, b6, b7, b8, b9, b10, b11, b12, b13⟩ := cells14 F.res
  have fx := F.box.frozen
  have fr := F.res.frozen
  have lx := F.box.lt
  have lr := F.res.lt
  clear hfb
  go_enter Try.func22, Try.ntmps22
  go_wp2_with fail
  clear u0 u1 u2 u3 u4 u5 u6 u7 u8 u9 u10 u11 u12 u13 u14 u15 u16
  refine (HF.out _ F.ref F.leB).mono ?_
  rintro e w4 ⟨hv4, lv4, av, rfl, hr4, ha4, hk4⟩
  replace F := F.next hk4
  clear hk4
  obtain ⟨A9, c9, rfl, -, -⟩ := hr4.1.shape
  obtain ⟨A10, c10, rfl, -, -⟩ := hr4.2.shape
  clear a0 a1 a2 a3 a4 a5 a6 a7 a8 a9 a10 a11 a12 a13 b0 b1 b2 b3 b4 b5 b6 b7 b8 b9 b10 b11 b12 b13 fx fr lx lr
  obtain ⟨a0, a1, a2, a3, a4, a5, a6, a7, a8, a9, a10, a11, a12, a13⟩ := cells14 F.box
  obtain ⟨b0, b1, b2, b3, b4, b5, b6, b7, b8, b9, b10, b11, b12, b13⟩ := cells14 F.res
  have fx := F.box.frozen
  have fr := F.res.frozen
  have lx := F.box.lt
  have lr := F.res.lt
  go_wp2_with fail
  exact F.tail (t := 6) (s := 7) hr4 ha4 rfl rfl rfl rfl

set_option maxHeartbeats 1000000 in
set_option maxRecDepth 100000 in
theorem model_3 {r : XReq} {B : Nat} {hv lv : Value} (e : XEv) (now : Int) {w : World} (hb : bits BinOp.and IntKind.i64 e.kind 7 = 3) (h : RefAt w B r hv lv) (hB : B ≤ w.heap.size) (hO : ROk r) (hA : okAg r) :
    Calls Try.prog 22 #[rVal r hv lv, .agg #[.int .i64 e.kind, .int .i64 e.try_, .int .u32 e.f.code, .string e.f.text, .int .u16 e.f.level, .int .i32 e.f.recv, .int .i32 e.f.need, .int .i32 e.f.fail, .int .u8 e.f.data, .string e.f.write, .string e.f.space, .string e.f.name, e.f.args, e.f.id, .bool e.well, .int .i64 e.why, .int .u64 e.span], .int .u64 now] w (RefPost w B (r.prepared_ e.try_ e.well)) := by
  obtain ⟨A1, c1, rfl, -, -⟩ := h.1.shape
  obtain ⟨A2, c2, rfl, -, -⟩ := h.2.shape
  have HF := Lib.hid (fun w (hr : RefAt w B r (.slice A1 r.hosts.length c1) (.slice A2 r.live.length c2)) (hB : B ≤ w.heap.size) => rPrepared_op e.try_ e.well hr hB hO hA)
  generalize r.prepared_ e.try_ e.well = z at *
  have HFB := Lib.hid (((Blk.new_at (k := w.heap.size + 1) (w.alloc (.cells (rCells r (.slice A1 r.hosts.length c1) (.slice A2 r.live.length c2)) 53)) 62 #[.int .i64 e.kind, .int .i64 e.try_, .int .u32 e.f.code, .string e.f.text, .int .u16 e.f.level, .int .i32 e.f.recv, .int .i32 e.f.need, .int .i32 e.f.fail, .int .u8 e.f.data, .string e.f.write, .string e.f.space, .string e.f.name, e.f.args, e.f.id, .bool e.well, .int .i64 e.why, .int .u64 e.span] (by simp))).alloc (.cells rZero 53))
  have F := Fr.start2 h hB (.cells #[.int .i64 e.kind, .int .i64 e.try_, .int .u32 e.f.code, .string e.f.text, .int .u16 e.f.level, .int .i32 e.f.recv, .int .i32 e.f.need, .int .i32 e.f.fail, .int .u8 e.f.data, .string e.f.write, .string e.f.space, .string e.f.name, e.f.args, e.f.id, .bool e.well, .int .i64 e.why, .int .u64 e.span] 62)
  have hfb := HFB.out
  obtain ⟨u0, u1, u2, u3, u4, u5, u6, u7, u8, u9, u10, u11, u12, u13, u14, u15, u16⟩ := cells17 hfb
  obtain ⟨a0, a1, a2, a3, a4, a5, a6, a7, a8, a9, a10, a11, a12, a13⟩ := cells14 F.box
  obtain ⟨b0, b1, b2, b3, b4, b5, b6, b7, b8, b9, b10, b11, b12, b13⟩ := cells14 F.res
  have fx := F.box.frozen
  have fr := F.res.frozen
  have lx := F.box.lt
  have lr := F.res.lt
  clear hfb
  go_enter Try.func22, Try.ntmps22
  go_wp2_with fail
  clear u0 u1 u2 u3 u4 u5 u6 u7 u8 u9 u10 u11 u12 u13 u14 u15 u16
  refine (HF.out _ F.ref F.leB).mono ?_
  rintro e w4 ⟨hv4, lv4, av, rfl, hr4, ha4, hk4⟩
  replace F := F.next hk4
  clear hk4
  obtain ⟨A9, c9, rfl, -, -⟩ := hr4.1.shape
  obtain ⟨A10, c10, rfl, -, -⟩ := hr4.2.shape
  clear a0 a1 a2 a3 a4 a5 a6 a7 a8 a9 a10 a11 a12 a13 b0 b1 b2 b3 b4 b5 b6 b7 b8 b9 b10 b11 b12 b13 fx fr lx lr
  obtain ⟨a0, a1, a2, a3, a4, a5, a6, a7, a8, a9, a10, a11, a12, a13⟩ := cells14 F.box
  obtain ⟨b0, b1, b2, b3, b4, b5, b6, b7, b8, b9, b10, b11, b12, b13⟩ := cells14 F.res
  have fx := F.box.frozen
  have fr := F.res.frozen
  have lx := F.box.lt
  have lr := F.res.lt
  go_wp2_with fail
  exact F.tail (t := 6) (s := 7) hr4 ha4 rfl rfl rfl rfl

set_option maxHeartbeats 1000000 in
set_option maxRecDepth 100000 in
theorem model_4 {r : XReq} {B : Nat} {hv lv : Value} (e : XEv) (now : Int) {w : World} (hb : bits BinOp.and IntKind.i64 e.kind 7 = 4) (h : RefAt w B r hv lv) (hB : B ≤ w.heap.size) (hO : ROk r) (hA : okAg r) :
    Calls Try.prog 22 #[rVal r hv lv, .agg #[.int .i64 e.kind, .int .i64 e.try_, .int .u32 e.f.code, .string e.f.text, .int .u16 e.f.level, .int .i32 e.f.recv, .int .i32 e.f.need, .int .i32 e.f.fail, .int .u8 e.f.data, .string e.f.write, .string e.f.space, .string e.f.name, e.f.args, e.f.id, .bool e.well, .int .i64 e.why, .int .u64 e.span], .int .u64 now] w (RefPost w B (r.lost e.try_)) := by
  obtain ⟨A1, c1, rfl, -, -⟩ := h.1.shape
  obtain ⟨A2, c2, rfl, -, -⟩ := h.2.shape
  have HF := Lib.hid (fun w (hr : RefAt w B r (.slice A1 r.hosts.length c1) (.slice A2 r.live.length c2)) (hB : B ≤ w.heap.size) => rrLost_op e.try_ hr hB hO hA)
  generalize r.lost e.try_ = z at *
  have HFB := Lib.hid (((Blk.new_at (k := w.heap.size + 1) (w.alloc (.cells (rCells r (.slice A1 r.hosts.length c1) (.slice A2 r.live.length c2)) 53)) 62 #[.int .i64 e.kind, .int .i64 e.try_, .int .u32 e.f.code, .string e.f.text, .int .u16 e.f.level, .int .i32 e.f.recv, .int .i32 e.f.need, .int .i32 e.f.fail, .int .u8 e.f.data, .string e.f.write, .string e.f.space, .string e.f.name, e.f.args, e.f.id, .bool e.well, .int .i64 e.why, .int .u64 e.span] (by simp))).alloc (.cells rZero 53))
  have F := Fr.start2 h hB (.cells #[.int .i64 e.kind, .int .i64 e.try_, .int .u32 e.f.code, .string e.f.text, .int .u16 e.f.level, .int .i32 e.f.recv, .int .i32 e.f.need, .int .i32 e.f.fail, .int .u8 e.f.data, .string e.f.write, .string e.f.space, .string e.f.name, e.f.args, e.f.id, .bool e.well, .int .i64 e.why, .int .u64 e.span] 62)
  have hfb := HFB.out
  obtain ⟨u0, u1, u2, u3, u4, u5, u6, u7, u8, u9, u10, u11, u12, u13, u14, u15, u16⟩ := cells17 hfb
  obtain ⟨a0, a1, a2, a3, a4, a5, a6, a7, a8, a9, a10, a11, a12, a13⟩ := cells14 F.box
  obtain ⟨b0, b1, b2, b3, b4, b5, b6, b7, b8, b9, b10, b11, b12, b13⟩ := cells14 F.res
  have fx := F.box.frozen
  have fr := F.res.frozen
  have lx := F.box.lt
  have lr := F.res.lt
  clear hfb
  go_enter Try.func22, Try.ntmps22
  go_wp2_with fail
  clear u0 u1 u2 u3 u4 u5 u6 u7 u8 u9 u10 u11 u12 u13 u14 u15 u16
  refine (HF.out _ F.ref F.leB).mono ?_
  rintro e w4 ⟨hv4, lv4, av, rfl, hr4, ha4, hk4⟩
  replace F := F.next hk4
  clear hk4
  obtain ⟨A9, c9, rfl, -, -⟩ := hr4.1.shape
  obtain ⟨A10, c10, rfl, -, -⟩ := hr4.2.shape
  clear a0 a1 a2 a3 a4 a5 a6 a7 a8 a9 a10 a11 a12 a13 b0 b1 b2 b3 b4 b5 b6 b7 b8 b9 b10 b11 b12 b13 fx fr lx lr
  obtain ⟨a0, a1, a2, a3, a4, a5, a6, a7, a8, a9, a10, a11, a12, a13⟩ := cells14 F.box
  obtain ⟨b0, b1, b2, b3, b4, b5, b6, b7, b8, b9, b10, b11, b12, b13⟩ := cells14 F.res
  have fx := F.box.frozen
  have fr := F.res.frozen
  have lx := F.box.lt
  have lr := F.res.lt
  go_wp2_with fail
  exact F.tail (t := 6) (s := 7) hr4 ha4 rfl rfl rfl rfl

set_option maxHeartbeats 1000000 in
set_option maxRecDepth 100000 in
theorem model_5 {r : XReq} {B : Nat} {hv lv : Value} (e : XEv) (now : Int) {w : World} (hb : bits BinOp.and IntKind.i64 e.kind 7 = 5) (h : RefAt w B r hv lv) (hB : B ≤ w.heap.size) (hO : ROk r) :
    Calls Try.prog 22 #[rVal r hv lv, .agg #[.int .i64 e.kind, .int .i64 e.try_, .int .u32 e.f.code, .string e.f.text, .int .u16 e.f.level, .int .i32 e.f.recv, .int .i32 e.f.need, .int .i32 e.f.fail, .int .u8 e.f.data, .string e.f.write, .string e.f.space, .string e.f.name, e.f.args, e.f.id, .bool e.well, .int .i64 e.why, .int .u64 e.span], .int .u64 now] w (RefPost w B (r.refused e.try_ e.why)) := by
  obtain ⟨A1, c1, rfl, -, -⟩ := h.1.shape
  obtain ⟨A2, c2, rfl, -, -⟩ := h.2.shape
  have HF := Lib.hid (fun w (hr : RefAt w B r (.slice A1 r.hosts.length c1) (.slice A2 r.live.length c2)) (hB : B ≤ w.heap.size) => rRefused_op e.try_ e.why hr hB hO)
  generalize r.refused e.try_ e.why = z at *
  have HFB := Lib.hid (((Blk.new_at (k := w.heap.size + 1) (w.alloc (.cells (rCells r (.slice A1 r.hosts.length c1) (.slice A2 r.live.length c2)) 53)) 62 #[.int .i64 e.kind, .int .i64 e.try_, .int .u32 e.f.code, .string e.f.text, .int .u16 e.f.level, .int .i32 e.f.recv, .int .i32 e.f.need, .int .i32 e.f.fail, .int .u8 e.f.data, .string e.f.write, .string e.f.space, .string e.f.name, e.f.args, e.f.id, .bool e.well, .int .i64 e.why, .int .u64 e.span] (by simp))).alloc (.cells rZero 53))
  have F := Fr.start2 h hB (.cells #[.int .i64 e.kind, .int .i64 e.try_, .int .u32 e.f.code, .string e.f.text, .int .u16 e.f.level, .int .i32 e.f.recv, .int .i32 e.f.need, .int .i32 e.f.fail, .int .u8 e.f.data, .string e.f.write, .string e.f.space, .string e.f.name, e.f.args, e.f.id, .bool e.well, .int .i64 e.why, .int .u64 e.span] 62)
  have hfb := HFB.out
  obtain ⟨u0, u1, u2, u3, u4, u5, u6, u7, u8, u9, u10, u11, u12, u13, u14, u15, u16⟩ := cells17 hfb
  obtain ⟨a0, a1, a2, a3, a4, a5, a6, a7, a8, a9, a10, a11, a12, a13⟩ := cells14 F.box
  obtain ⟨b0, b1, b2, b3, b4, b5, b6, b7, b8, b9, b10, b11, b12, b13⟩ := cells14 F.res
  have fx := F.box.frozen
  have fr := F.res.frozen
  have lx := F.box.lt
  have lr := F.res.lt
  clear hfb
  go_enter Try.func22, Try.ntmps22
  go_wp2_with fail
  clear u0 u1 u2 u3 u4 u5 u6 u7 u8 u9 u10 u11 u12 u13 u14 u15 u16
  refine (HF.out _ F.ref F.leB).mono ?_
  rintro e w4 ⟨hv4, lv4, av, rfl, hr4, ha4, hk4⟩
  replace F := F.next hk4
  clear hk4
  obtain ⟨A9, c9, rfl, -, -⟩ := hr4.1.shape
  obtain ⟨A10, c10, rfl, -, -⟩ := hr4.2.shape
  clear a0 a1 a2 a3 a4 a5 a6 a7 a8 a9 a10 a11 a12 a13 b0 b1 b2 b3 b4 b5 b6 b7 b8 b9 b10 b11 b12 b13 fx fr lx lr
  obtain ⟨a0, a1, a2, a3, a4, a5, a6, a7, a8, a9, a10, a11, a12, a13⟩ := cells14 F.box
  obtain ⟨b0, b1, b2, b3, b4, b5, b6, b7, b8, b9, b10, b11, b12, b13⟩ := cells14 F.res
  have fx := F.box.frozen
  have fr := F.res.frozen
  have lx := F.box.lt
  have lr := F.res.lt
  go_wp2_with fail
  exact F.tail (t := 6) (s := 7) hr4 ha4 rfl rfl rfl rfl

set_option maxHeartbeats 1000000 in
set_option maxRecDepth 100000 in
theorem model_6 {r : XReq} {B : Nat} {hv lv : Value} (e : XEv) (now : Int) {w : World} (hb : bits BinOp.and IntKind.i64 e.kind 7 = 6) (h : RefAt w B r hv lv) (hB : B ≤ w.heap.size) (N : Nat) (hT : r.done = false → RTick r now N) (hnow : 0 ≤ now) :
    Calls Try.prog 22 #[rVal r hv lv, .agg #[.int .i64 e.kind, .int .i64 e.try_, .int .u32 e.f.code, .string e.f.text, .int .u16 e.f.level, .int .i32 e.f.recv, .int .i32 e.f.need, .int .i32 e.f.fail, .int .u8 e.f.data, .string e.f.write, .string e.f.space, .string e.f.name, e.f.args, e.f.id, .bool e.well, .int .i64 e.why, .int .u64 e.span], .int .u64 now] w (RefPost w B (r.tick now)) := by
  obtain ⟨A1, c1, rfl, -, -⟩ := h.1.shape
  obtain ⟨A2, c2, rfl, -, -⟩ := h.2.shape
  have HF := Lib.hid (fun w (hr : RefAt w B r (.slice A1 r.hosts.length c1) (.slice A2 r.live.length c2)) (hB : B ≤ w.heap.size) => rTick_op now N hr hB hT hnow)
  generalize r.tick now = z at *
  have HFB := Lib.hid (((Blk.new_at (k := w.heap.size + 1) (w.alloc (.cells (rCells r (.slice A1 r.hosts.length c1) (.slice A2 r.live.length c2)) 53)) 62 #[.int .i64 e.kind, .int .i64 e.try_, .int .u32 e.f.code, .string e.f.text, .int .u16 e.f.level, .int .i32 e.f.recv, .int .i32 e.f.need, .int .i32 e.f.fail, .int .u8 e.f.data, .string e.f.write, .string e.f.space, .string e.f.name, e.f.args, e.f.id, .bool e.well, .int .i64 e.why, .int .u64 e.span] (by simp))).alloc (.cells rZero 53))
  have F := Fr.start2 h hB (.cells #[.int .i64 e.kind, .int .i64 e.try_, .int .u32 e.f.code, .string e.f.text, .int .u16 e.f.level, .int .i32 e.f.recv, .int .i32 e.f.need, .int .i32 e.f.fail, .int .u8 e.f.data, .string e.f.write, .string e.f.space, .string e.f.name, e.f.args, e.f.id, .bool e.well, .int .i64 e.why, .int .u64 e.span] 62)
  have hfb := HFB.out
  obtain ⟨u0, u1, u2, u3, u4, u5, u6, u7, u8, u9, u10, u11, u12, u13, u14, u15, u16⟩ := cells17 hfb
  obtain ⟨a0, a1, a2, a3, a4, a5, a6, a7, a8, a9, a10, a11, a12, a13⟩ := cells14 F.box
  obtain ⟨b0, b1, b2, b3, b4, b5, b6, b7, b8, b9, b10, b11, b12, b13⟩ := cells14 F.res
  have fx := F.box.frozen
  have fr := F.res.frozen
  have lx := F.box.lt
  have lr := F.res.lt
  clear hfb
  go_enter Try.func22, Try.ntmps22
  go_wp2_with fail
  clear u0 u1 u2 u3 u4 u5 u6 u7 u8 u9 u10 u11 u12 u13 u14 u15 u16
  refine (HF.out _ F.ref F.leB).mono ?_
  rintro e w4 ⟨hv4, lv4, av, rfl, hr4, ha4, hk4⟩
  replace F := F.next hk4
  clear hk4
  obtain ⟨A9, c9, rfl, -, -⟩ := hr4.1.shape
  obtain ⟨A10, c10, rfl, -, -⟩ := hr4.2.shape
  clear a0 a1 a2 a3 a4 a5 a6 a7 a8 a9 a10 a11 a12 a13 b0 b1 b2 b3 b4 b5 b6 b7 b8 b9 b10 b11 b12 b13 fx fr lx lr
  obtain ⟨a0, a1, a2, a3, a4, a5, a6, a7, a8, a9, a10, a11, a12, a13⟩ := cells14 F.box
  obtain ⟨b0, b1, b2, b3, b4, b5, b6, b7, b8, b9, b10, b11, b12, b13⟩ := cells14 F.res
  have fx := F.box.frozen
  have fr := F.res.frozen
  have lx := F.box.lt
  have lr := F.res.lt
  go_wp2_with fail
  exact F.tail (t := 6) (s := 7) hr4 ha4 rfl rfl rfl rfl

set_option maxHeartbeats 1000000 in
set_option maxRecDepth 100000 in
theorem model_7 {r : XReq} {B : Nat} {hv lv : Value} (e : XEv) (now : Int) {w : World} (hb : bits BinOp.and IntKind.i64 e.kind 7 = 7) (h : RefAt w B r hv lv) (hB : B ≤ w.heap.size) (N : Nat) (hT : r.done = false → RTick r now N) (hnow : 0 ≤ now) :
    Calls Try.prog 22 #[rVal r hv lv, .agg #[.int .i64 e.kind, .int .i64 e.try_, .int .u32 e.f.code, .string e.f.text, .int .u16 e.f.level, .int .i32 e.f.recv, .int .i32 e.f.need, .int .i32 e.f.fail, .int .u8 e.f.data, .string e.f.write, .string e.f.space, .string e.f.name, e.f.args, e.f.id, .bool e.well, .int .i64 e.why, .int .u64 e.span], .int .u64 now] w (RefPost w B (r.tick now)) := by
  obtain ⟨A1, c1, rfl, -, -⟩ := h.1.shape
  obtain ⟨A2, c2, rfl, -, -⟩ := h.2.shape
  have HF := Lib.hid (fun w (hr : RefAt w B r (.slice A1 r.hosts.length c1) (.slice A2 r.live.length c2)) (hB : B ≤ w.heap.size) => rTick_op now N hr hB hT hnow)
  generalize r.tick now = z at *
  have HFB := Lib.hid (((Blk.new_at (k := w.heap.size + 1) (w.alloc (.cells (rCells r (.slice A1 r.hosts.length c1) (.slice A2 r.live.length c2)) 53)) 62 #[.int .i64 e.kind, .int .i64 e.try_, .int .u32 e.f.code, .string e.f.text, .int .u16 e.f.level, .int .i32 e.f.recv, .int .i32 e.f.need, .int .i32 e.f.fail, .int .u8 e.f.data, .string e.f.write, .string e.f.space, .string e.f.name, e.f.args, e.f.id, .bool e.well, .int .i64 e.why, .int .u64 e.span] (by simp))).alloc (.cells rZero 53))
  have F := Fr.start2 h hB (.cells #[.int .i64 e.kind, .int .i64 e.try_, .int .u32 e.f.code, .string e.f.text, .int .u16 e.f.level, .int .i32 e.f.recv, .int .i32 e.f.need, .int .i32 e.f.fail, .int .u8 e.f.data, .string e.f.write, .string e.f.space, .string e.f.name, e.f.args, e.f.id, .bool e.well, .int .i64 e.why, .int .u64 e.span] 62)
  have hfb := HFB.out
  obtain ⟨u0, u1, u2, u3, u4, u5, u6, u7, u8, u9, u10, u11, u12, u13, u14, u15, u16⟩ := cells17 hfb
  obtain ⟨a0, a1, a2, a3, a4, a5, a6, a7, a8, a9, a10, a11, a12, a13⟩ := cells14 F.box
  obtain ⟨b0, b1, b2, b3, b4, b5, b6, b7, b8, b9, b10, b11, b12, b13⟩ := cells14 F.res
  have fx := F.box.frozen
  have fr := F.res.frozen
  have lx := F.box.lt
  have lr := F.res.lt
  clear hfb
  go_enter Try.func22, Try.ntmps22
  go_wp2_with fail
  clear u0 u1 u2 u3 u4 u5 u6 u7 u8 u9 u10 u11 u12 u13 u14 u15 u16
  refine (HF.out _ F.ref F.leB).mono ?_
  rintro e w4 ⟨hv4, lv4, av, rfl, hr4, ha4, hk4⟩
  replace F := F.next hk4
  clear hk4
  obtain ⟨A9, c9, rfl, -, -⟩ := hr4.1.shape
  obtain ⟨A10, c10, rfl, -, -⟩ := hr4.2.shape
  clear a0 a1 a2 a3 a4 a5 a6 a7 a8 a9 a10 a11 a12 a13 b0 b1 b2 b3 b4 b5 b6 b7 b8 b9 b10 b11 b12 b13 fx fr lx lr
  obtain ⟨a0, a1, a2, a3, a4, a5, a6, a7, a8, a9, a10, a11, a12, a13⟩ := cells14 F.box
  obtain ⟨b0, b1, b2, b3, b4, b5, b6, b7, b8, b9, b10, b11, b12, b13⟩ := cells14 F.res
  have fx := F.box.frozen
  have fr := F.res.frozen
  have lx := F.box.lt
  have lr := F.res.lt
  go_wp2_with fail
  exact F.tail (t := 6) (s := 7) hr4 ha4 rfl rfl rfl rfl

end Go.Proofs.Ytooedjedncokpaa

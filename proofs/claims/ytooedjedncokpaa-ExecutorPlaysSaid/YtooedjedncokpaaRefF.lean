/- The reference's Failed. -/
import Derived.Test.YtooedjedncokpaaRefE
namespace Go.Proofs.Ytooedjedncokpaa
set_option linter.unusedVariables false
open Go.RowKit
theorem rDecide_is {x : Int} (f : XFault) (again most : Int) (idem : Bool) (w : World) (hx : Hid (decide17 f.code f.recv f.need f.data f.write again most idem = x)) :
    Calls Try.prog 52 #[.agg #[.int .u32 f.code, .int .i32 f.recv, .int .i32 f.need, .int .u8 f.data, .string f.write], .int .i64 again, .int .i64 most, .bool idem] w fun e w' => e = .returned (.int .i64 x) ∧ Kept noBlock w w' := by
  have := rDecide_at f.code f.recv f.need f.data again most f.write idem w; rw [hx.out] at this; exact this

theorem decide17_or (code recv need data : Int) (s : ByteArray) (again most : Int) (idem : Bool) : decide17 code recv need data s again most idem = 1 ∨ decide17 code recv need data s again most idem = 2 ∨ decide17 code recv need data s again most idem = 3 ∨ decide17 code recv need data s again most idem = 4 := by
  unfold decide17
  repeat' split
  all_goals simp
theorem cells5 {w : World} {b : Nat} {t : TypeId} {c0 c1 c2 c3 c4 : Value} (h : Blk w b t #[c0, c1, c2, c3, c4]) : w.cell? ⟨b, 0, none⟩ = some c0 ∧ w.cell? ⟨b, 1, none⟩ = some c1 ∧ w.cell? ⟨b, 2, none⟩ = some c2 ∧ w.cell? ⟨b, 3, none⟩ = some c3 ∧ w.cell? ⟨b, 4, none⟩ = some c4 := ⟨h.cell 0, h.cell 1, h.cell 2, h.cell 3, h.cell 4⟩

set_option maxHeartbeats 1000000 in
set_option maxRecDepth 100000 in
theorem rFailed_none {r : XReq} {B : Nat} {hv lv : Value} (n : Int) (f : XFault) {w : World} (h : RefAt w B r hv lv) (hB : B ≤ w.heap.size) (hO : ROk r) (hg : aget n r.live = none) :
    Calls Try.prog 36 #[rVal r hv lv, .int .i64 n, .agg #[.int .u32 f.code, .int .i32 f.recv, .int .i32 f.need, .int .u8 f.data, .string f.write]] w (RefPost w B (r, [])) := by
  obtain ⟨A1, c1, rfl, -, -⟩ := h.1.shape
  obtain ⟨A2, c2, rfl, -, -⟩ := h.2.shape
  have F := Fr.start2 h hB (.cells #[.int .u32 f.code, .int .i32 f.recv, .int .i32 f.need, .int .u8 f.data, .string f.write] 89)
  have HG := Lib.hid hg
  have HL := Lib.hid hO.live
  clear hg
  obtain ⟨a0, a1, a2, a3, a4, a5, a6, a7, a8, a9, a10, a11, a12, a13⟩ := cells14 F.box
  obtain ⟨b0, b1, b2, b3, b4, b5, b6, b7, b8, b9, b10, b11, b12, b13⟩ := cells14 F.res
  have fx := F.box.frozen
  have fr := F.res.frozen
  have lx := F.box.lt
  have lr := F.res.lt
  go_enter Try.func36, Try.ntmps36
  go_wp2_with (go_at_call 50; refine (rfind_none n F.ref.2 HG.out HL.out).mono ?_; rintro e w1 ⟨rfl, hk1⟩; replace F := F.next hk1; clear hk1; (clear a0 a1 a2 a3 a4 a5 a6 a7 a8 a9 a10 a11 a12 a13 b0 b1 b2 b3 b4 b5 b6 b7 b8 b9 b10 b11 b12 b13 fx fr lx lr); obtain ⟨a0, a1, a2, a3, a4, a5, a6, a7, a8, a9, a10, a11, a12, a13⟩ := cells14 F.box; obtain ⟨b0, b1, b2, b3, b4, b5, b6, b7, b8, b9, b10, b11, b12, b13⟩ := cells14 F.res; have fx := F.box.frozen; have fr := F.res.frozen; have lx := F.box.lt; have lr := F.res.lt)
  exact F.self (t := 6) (s := 7) rfl rfl rfl rfl

set_option maxHeartbeats 1000000 in
set_option maxRecDepth 100000 in
theorem rFailed_four {r : XReq} {B : Nat} {hv lv : Value} (n : Int) (f : XFault) {w : World} (h : RefAt w B r hv lv) (hB : B ≤ w.heap.size) (hO : ROk r) {v : ByteArray} (hg : aget n r.live = some v) (hX : decide17 f.code f.recv f.need f.data f.write r.again r.retries r.idem = 4) (hp : r.prepared < r.prepares) (hp0 : 0 ≤ r.prepared) (hp1 : r.prepared < 4611686018427387904) :
    Calls Try.prog 36 #[rVal r hv lv, .int .i64 n, .agg #[.int .u32 f.code, .int .i32 f.recv, .int .i32 f.need, .int .u8 f.data, .string f.write]] w (RefPost w B ({ r with prepared := r.prepared + 1 }, [⟨2, n, v, 0⟩])) := by
  obtain ⟨C, D, hL, hC, hdel⟩ := adel_split hg
  obtain ⟨A1, c1, rfl, -, -⟩ := h.1.shape
  obtain ⟨A2, c2, rfl, -, -⟩ := h.2.shape
  have F := Fr.start2 h hB (.cells #[.int .u32 f.code, .int .i32 f.recv, .int .i32 f.need, .int .u8 f.data, .string f.write] 89)
  have HS := Lib.hid hL
  have HC := Lib.hid hC
  have HL := Lib.hid hO.live
  have HT := Lib.hid (t_get hL)
  have HX := Lib.hid hX
  have hcl : C.length ≤ 1000 := by have := hO.live; rw [hL] at this; simp at this; omega
  have hcl2 : C.length < r.live.length := by rw [hL]; simp
  have HFB := Lib.hid (((Blk.new_at (k := w.heap.size + 1) (w.alloc (.cells (rCells r (.slice A1 r.hosts.length c1) (.slice A2 r.live.length c2)) 53)) 89 #[.int .u32 f.code, .int .i32 f.recv, .int .i32 f.need, .int .u8 f.data, .string f.write] (by simp))).alloc (.cells rZero 53))
  clear hX hg hL hC hdel
  obtain ⟨a0, a1, a2, a3, a4, a5, a6, a7, a8, a9, a10, a11, a12, a13⟩ := cells14 F.box
  obtain ⟨b0, b1, b2, b3, b4, b5, b6, b7, b8, b9, b10, b11, b12, b13⟩ := cells14 F.res
  have fx := F.box.frozen
  have fr := F.res.frozen
  have lx := F.box.lt
  have lr := F.res.lt
  go_enter Try.func36, Try.ntmps36
  go_wp2_with (go_at_call 50; refine (rfind_some n HS.out HC.out F.ref.2 HL.out).mono ?_; rintro e w1 ⟨rfl, hk1⟩; replace F := F.next hk1; have hfb := HFB.out.kept hk1 id; obtain ⟨u0, u1, u2, u3, u4⟩ := cells5 hfb; clear hfb; clear hk1; (clear a0 a1 a2 a3 a4 a5 a6 a7 a8 a9 a10 a11 a12 a13 b0 b1 b2 b3 b4 b5 b6 b7 b8 b9 b10 b11 b12 b13 fx fr lx lr); obtain ⟨a0, a1, a2, a3, a4, a5, a6, a7, a8, a9, a10, a11, a12, a13⟩ := cells14 F.box; obtain ⟨b0, b1, b2, b3, b4, b5, b6, b7, b8, b9, b10, b11, b12, b13⟩ := cells14 F.res; have fx := F.box.frozen; have fr := F.res.frozen; have lx := F.box.lt; have lr := F.res.lt)
  obtain ⟨g, off, hidx, -, -, hc1, hty⟩ := t_at F.ref.2 HT.out
  clear hty
  go_wp2_with fail
  refine (rDecide_is f _ _ _ _ HX).mono ?_
  rintro e w2 ⟨rfl, hk2⟩
  replace F := F.next hk2
  clear hk2 hc1 hidx u0 u1 u2 u3 u4
  clear a0 a1 a2 a3 a4 a5 a6 a7 a8 a9 a10 a11 a12 a13 b0 b1 b2 b3 b4 b5 b6 b7 b8 b9 b10 b11 b12 b13 fx fr lx lr
  obtain ⟨a0, a1, a2, a3, a4, a5, a6, a7, a8, a9, a10, a11, a12, a13⟩ := cells14 F.box
  obtain ⟨b0, b1, b2, b3, b4, b5, b6, b7, b8, b9, b10, b11, b12, b13⟩ := cells14 F.res
  have fx := F.box.frozen
  have fr := F.res.frozen
  have lx := F.box.lt
  have lr := F.res.lt
  go_wp2
  exact (F.prepared_ (r.prepared + 1)).selfA (t := 6) (s := 7) rfl rfl rfl rfl (by simp only [sz_setCell])

set_option maxHeartbeats 1000000 in
set_option maxRecDepth 100000 in
theorem rFailed_two {r : XReq} {B : Nat} {hv lv : Value} (n : Int) (f : XFault) {w : World} (h : RefAt w B r hv lv) (hB : B ≤ w.heap.size) (hO : ROk r) {v : ByteArray} (hg : aget n r.live = some v) (hA : okAg r) (hX : decide17 f.code f.recv f.need f.data f.write r.again r.retries r.idem = 2) :
    Calls Try.prog 36 #[rVal r hv lv, .int .i64 n, .agg #[.int .u32 f.code, .int .i32 f.recv, .int .i32 f.need, .int .u8 f.data, .string f.write]] w (RefPost w B ({ r with again := r.again + 1 }, [⟨1, n, v, 0⟩])) := by
  obtain ⟨C, D, hL, hC, hdel⟩ := adel_split hg
  obtain ⟨A1, c1, rfl, -, -⟩ := h.1.shape
  obtain ⟨A2, c2, rfl, -, -⟩ := h.2.shape
  have F := Fr.start2 h hB (.cells #[.int .u32 f.code, .int .i32 f.recv, .int .i32 f.need, .int .u8 f.data, .string f.write] 89)
  have HS := Lib.hid hL
  have HC := Lib.hid hC
  have HL := Lib.hid hO.live
  have HT := Lib.hid (t_get hL)
  have HX := Lib.hid hX
  have hcl : C.length ≤ 1000 := by have := hO.live; rw [hL] at this; simp at this; omega
  have hcl2 : C.length < r.live.length := by rw [hL]; simp
  have HFB := Lib.hid (((Blk.new_at (k := w.heap.size + 1) (w.alloc (.cells (rCells r (.slice A1 r.hosts.length c1) (.slice A2 r.live.length c2)) 53)) 89 #[.int .u32 f.code, .int .i32 f.recv, .int .i32 f.need, .int .u8 f.data, .string f.write] (by simp))).alloc (.cells rZero 53))
  have hA1 := hA.1
  have hA2 := hA.2
  clear hX hg hL hC hdel
  obtain ⟨a0, a1, a2, a3, a4, a5, a6, a7, a8, a9, a10, a11, a12, a13⟩ := cells14 F.box
  obtain ⟨b0, b1, b2, b3, b4, b5, b6, b7, b8, b9, b10, b11, b12, b13⟩ := cells14 F.res
  have fx := F.box.frozen
  have fr := F.res.frozen
  have lx := F.box.lt
  have lr := F.res.lt
  go_enter Try.func36, Try.ntmps36
  go_wp2_with (go_at_call 50; refine (rfind_some n HS.out HC.out F.ref.2 HL.out).mono ?_; rintro e w1 ⟨rfl, hk1⟩; replace F := F.next hk1; have hfb := HFB.out.kept hk1 id; obtain ⟨u0, u1, u2, u3, u4⟩ := cells5 hfb; clear hfb; clear hk1; (clear a0 a1 a2 a3 a4 a5 a6 a7 a8 a9 a10 a11 a12 a13 b0 b1 b2 b3 b4 b5 b6 b7 b8 b9 b10 b11 b12 b13 fx fr lx lr); obtain ⟨a0, a1, a2, a3, a4, a5, a6, a7, a8, a9, a10, a11, a12, a13⟩ := cells14 F.box; obtain ⟨b0, b1, b2, b3, b4, b5, b6, b7, b8, b9, b10, b11, b12, b13⟩ := cells14 F.res; have fx := F.box.frozen; have fr := F.res.frozen; have lx := F.box.lt; have lr := F.res.lt)
  obtain ⟨g, off, hidx, -, -, hc1, hty⟩ := t_at F.ref.2 HT.out
  clear hty
  go_wp2_with fail
  refine (rDecide_is f _ _ _ _ HX).mono ?_
  rintro e w2 ⟨rfl, hk2⟩
  replace F := F.next hk2
  clear hk2 hc1 hidx u0 u1 u2 u3 u4
  clear a0 a1 a2 a3 a4 a5 a6 a7 a8 a9 a10 a11 a12 a13 b0 b1 b2 b3 b4 b5 b6 b7 b8 b9 b10 b11 b12 b13 fx fr lx lr
  obtain ⟨a0, a1, a2, a3, a4, a5, a6, a7, a8, a9, a10, a11, a12, a13⟩ := cells14 F.box
  obtain ⟨b0, b1, b2, b3, b4, b5, b6, b7, b8, b9, b10, b11, b12, b13⟩ := cells14 F.res
  have fx := F.box.frozen
  have fr := F.res.frozen
  have lx := F.box.lt
  have lr := F.res.lt
  go_wp2
  exact (F.again_ (r.again + 1)).selfA (t := 6) (s := 7) rfl rfl rfl rfl (by simp only [sz_setCell])

set_option maxHeartbeats 1000000 in
set_option maxRecDepth 100000 in
theorem rFailed_one {r : XReq} {B : Nat} {hv lv : Value} (n : Int) (f : XFault) {w : World} (h : RefAt w B r hv lv) (hB : B ≤ w.heap.size) (hO : ROk r) {v : ByteArray} (hg : aget n r.live = some v) (hX : decide17 f.code f.recv f.need f.data f.write r.again r.retries r.idem = 1) :
    Calls Try.prog 36 #[rVal r hv lv, .int .i64 n, .agg #[.int .u32 f.code, .int .i32 f.recv, .int .i32 f.need, .int .u8 f.data, .string f.write]] w (RefPost w B (r.finish 42 n)) := by
  obtain ⟨C, D, hL, hC, hdel⟩ := adel_split hg
  obtain ⟨A1, c1, rfl, -, -⟩ := h.1.shape
  obtain ⟨A2, c2, rfl, -, -⟩ := h.2.shape
  have F := Fr.start2 h hB (.cells #[.int .u32 f.code, .int .i32 f.recv, .int .i32 f.need, .int .u8 f.data, .string f.write] 89)
  have HS := Lib.hid hL
  have HC := Lib.hid hC
  have HL := Lib.hid hO.live
  have HT := Lib.hid (t_get hL)
  have HX := Lib.hid hX
  have hcl : C.length ≤ 1000 := by have := hO.live; rw [hL] at this; simp at this; omega
  have hcl2 : C.length < r.live.length := by rw [hL]; simp
  have HFB := Lib.hid (((Blk.new_at (k := w.heap.size + 1) (w.alloc (.cells (rCells r (.slice A1 r.hosts.length c1) (.slice A2 r.live.length c2)) 53)) 89 #[.int .u32 f.code, .int .i32 f.recv, .int .i32 f.need, .int .u8 f.data, .string f.write] (by simp))).alloc (.cells rZero 53))
  have HF := Lib.hid (fun w (hr : RefAt w B r (.slice A1 r.hosts.length c1) (.slice A2 r.live.length c2)) => rfinish_at (r := r) (B := B) 42 n hr)
  generalize r.finish 42 n = z at *
  clear hX hg hL hC hdel
  obtain ⟨a0, a1, a2, a3, a4, a5, a6, a7, a8, a9, a10, a11, a12, a13⟩ := cells14 F.box
  obtain ⟨b0, b1, b2, b3, b4, b5, b6, b7, b8, b9, b10, b11, b12, b13⟩ := cells14 F.res
  have fx := F.box.frozen
  have fr := F.res.frozen
  have lx := F.box.lt
  have lr := F.res.lt
  go_enter Try.func36, Try.ntmps36
  go_wp2_with (go_at_call 50; refine (rfind_some n HS.out HC.out F.ref.2 HL.out).mono ?_; rintro e w1 ⟨rfl, hk1⟩; replace F := F.next hk1; have hfb := HFB.out.kept hk1 id; obtain ⟨u0, u1, u2, u3, u4⟩ := cells5 hfb; clear hfb; clear hk1; (clear a0 a1 a2 a3 a4 a5 a6 a7 a8 a9 a10 a11 a12 a13 b0 b1 b2 b3 b4 b5 b6 b7 b8 b9 b10 b11 b12 b13 fx fr lx lr); obtain ⟨a0, a1, a2, a3, a4, a5, a6, a7, a8, a9, a10, a11, a12, a13⟩ := cells14 F.box; obtain ⟨b0, b1, b2, b3, b4, b5, b6, b7, b8, b9, b10, b11, b12, b13⟩ := cells14 F.res; have fx := F.box.frozen; have fr := F.res.frozen; have lx := F.box.lt; have lr := F.res.lt)
  obtain ⟨g, off, hidx, -, -, hc1, hty⟩ := t_at F.ref.2 HT.out
  clear hty
  go_wp2_with fail
  refine (rDecide_is f _ _ _ _ HX).mono ?_
  rintro e w2 ⟨rfl, hk2⟩
  replace F := F.next hk2
  clear hk2 hc1 hidx u0 u1 u2 u3 u4
  clear a0 a1 a2 a3 a4 a5 a6 a7 a8 a9 a10 a11 a12 a13 b0 b1 b2 b3 b4 b5 b6 b7 b8 b9 b10 b11 b12 b13 fx fr lx lr
  obtain ⟨a0, a1, a2, a3, a4, a5, a6, a7, a8, a9, a10, a11, a12, a13⟩ := cells14 F.box
  obtain ⟨b0, b1, b2, b3, b4, b5, b6, b7, b8, b9, b10, b11, b12, b13⟩ := cells14 F.res
  have fx := F.box.frozen
  have fr := F.res.frozen
  have lx := F.box.lt
  have lr := F.res.lt
  go_wp2_with fail
  refine (HF.out _ F.ref).mono ?_
  rintro e w4 ⟨hv4, lv4, av, rfl, hr4, ha4, hk4⟩
  replace F := F.next hk4
  clear hk4
  obtain ⟨A9, c9, rfl, -, -⟩ := hr4.1.shape
  obtain ⟨A10, c10, rfl, -, -⟩ := hr4.2.shape
  clear a0 a1 a2 a3 a4 a5 a6 a7 a8 a9 a10 a11 a12 a13 b0 b1 b2 b3 b4 b5 b6 b7 b8 b9 b10 b11 b12 b13 fx fr lx lr
  obtain ⟨a0, a1, a2, a3, a4, a5, a6, a7, a8, a9, a10, a11, a12, a13⟩ := cells14 F.box
  obtain ⟨b0, b1, b2, b3, b4, b5, b6, b7, b8, b9, b10, b11, b12, b13⟩ := cells14 F.res
  have fx := F.box.frozen
  have fr := F.res.frozen
  have lx := F.box.lt
  have lr := F.res.lt
  go_wp2_with fail
  exact F.tail (t := 6) (s := 7) hr4 ha4 rfl rfl rfl rfl

set_option maxHeartbeats 1000000 in
set_option maxRecDepth 100000 in
theorem rFailed_late {r : XReq} {B : Nat} {hv lv : Value} (n : Int) (f : XFault) {w : World} (h : RefAt w B r hv lv) (hB : B ≤ w.heap.size) (hO : ROk r) {v : ByteArray} (hg : aget n r.live = some v) (hX : decide17 f.code f.recv f.need f.data f.write r.again r.retries r.idem = 4) (hp : r.prepares ≤ r.prepared) :
    Calls Try.prog 36 #[rVal r hv lv, .int .i64 n, .agg #[.int .u32 f.code, .int .i32 f.recv, .int .i32 f.need, .int .u8 f.data, .string f.write]] w (RefPost w B (r.finish 42 n)) := by
  obtain ⟨C, D, hL, hC, hdel⟩ := adel_split hg
  obtain ⟨A1, c1, rfl, -, -⟩ := h.1.shape
  obtain ⟨A2, c2, rfl, -, -⟩ := h.2.shape
  have F := Fr.start2 h hB (.cells #[.int .u32 f.code, .int .i32 f.recv, .int .i32 f.need, .int .u8 f.data, .string f.write] 89)
  have HS := Lib.hid hL
  have HC := Lib.hid hC
  have HL := Lib.hid hO.live
  have HT := Lib.hid (t_get hL)
  have HX := Lib.hid hX
  have hcl : C.length ≤ 1000 := by have := hO.live; rw [hL] at this; simp at this; omega
  have hcl2 : C.length < r.live.length := by rw [hL]; simp
  have HFB := Lib.hid (((Blk.new_at (k := w.heap.size + 1) (w.alloc (.cells (rCells r (.slice A1 r.hosts.length c1) (.slice A2 r.live.length c2)) 53)) 89 #[.int .u32 f.code, .int .i32 f.recv, .int .i32 f.need, .int .u8 f.data, .string f.write] (by simp))).alloc (.cells rZero 53))
  have HF := Lib.hid (fun w (hr : RefAt w B r (.slice A1 r.hosts.length c1) (.slice A2 r.live.length c2)) => rfinish_at (r := r) (B := B) 42 n hr)
  generalize r.finish 42 n = z at *
  clear hX hg hL hC hdel
  obtain ⟨a0, a1, a2, a3, a4, a5, a6, a7, a8, a9, a10, a11, a12, a13⟩ := cells14 F.box
  obtain ⟨b0, b1, b2, b3, b4, b5, b6, b7, b8, b9, b10, b11, b12, b13⟩ := cells14 F.res
  have fx := F.box.frozen
  have fr := F.res.frozen
  have lx := F.box.lt
  have lr := F.res.lt
  go_enter Try.func36, Try.ntmps36
  go_wp2_with (go_at_call 50; refine (rfind_some n HS.out HC.out F.ref.2 HL.out).mono ?_; rintro e w1 ⟨rfl, hk1⟩; replace F := F.next hk1; have hfb := HFB.out.kept hk1 id; obtain ⟨u0, u1, u2, u3, u4⟩ := cells5 hfb; clear hfb; clear hk1; (clear a0 a1 a2 a3 a4 a5 a6 a7 a8 a9 a10 a11 a12 a13 b0 b1 b2 b3 b4 b5 b6 b7 b8 b9 b10 b11 b12 b13 fx fr lx lr); obtain ⟨a0, a1, a2, a3, a4, a5, a6, a7, a8, a9, a10, a11, a12, a13⟩ := cells14 F.box; obtain ⟨b0, b1, b2, b3, b4, b5, b6, b7, b8, b9, b10, b11, b12, b13⟩ := cells14 F.res; have fx := F.box.frozen; have fr := F.res.frozen; have lx := F.box.lt; have lr := F.res.lt)
  obtain ⟨g, off, hidx, -, -, hc1, hty⟩ := t_at F.ref.2 HT.out
  clear hty
  go_wp2_with fail
  refine (rDecide_is f _ _ _ _ HX).mono ?_
  rintro e w2 ⟨rfl, hk2⟩
  replace F := F.next hk2
  clear hk2 hc1 hidx u0 u1 u2 u3 u4
  clear a0 a1 a2 a3 a4 a5 a6 a7 a8 a9 a10 a11 a12 a13 b0 b1 b2 b3 b4 b5 b6 b7 b8 b9 b10 b11 b12 b13 fx fr lx lr
  obtain ⟨a0, a1, a2, a3, a4, a5, a6, a7, a8, a9, a10, a11, a12, a13⟩ := cells14 F.box
  obtain ⟨b0, b1, b2, b3, b4, b5, b6, b7, b8, b9, b10, b11, b12, b13⟩ := cells14 F.res
  have fx := F.box.frozen
  have fr := F.res.frozen
  have lx := F.box.lt
  have lr := F.res.lt
  go_wp2_with fail
  refine (HF.out _ F.ref).mono ?_
  rintro e w4 ⟨hv4, lv4, av, rfl, hr4, ha4, hk4⟩
  replace F := F.next hk4
  clear hk4
  obtain ⟨A9, c9, rfl, -, -⟩ := hr4.1.shape
  obtain ⟨A10, c10, rfl, -, -⟩ := hr4.2.shape
  clear a0 a1 a2 a3 a4 a5 a6 a7 a8 a9 a10 a11 a12 a13 b0 b1 b2 b3 b4 b5 b6 b7 b8 b9 b10 b11 b12 b13 fx fr lx lr
  obtain ⟨a0, a1, a2, a3, a4, a5, a6, a7, a8, a9, a10, a11, a12, a13⟩ := cells14 F.box
  obtain ⟨b0, b1, b2, b3, b4, b5, b6, b7, b8, b9, b10, b11, b12, b13⟩ := cells14 F.res
  have fx := F.box.frozen
  have fr := F.res.frozen
  have lx := F.box.lt
  have lr := F.res.lt
  go_wp2_with fail
  exact F.tail (t := 6) (s := 7) hr4 ha4 rfl rfl rfl rfl

set_option maxHeartbeats 1000000 in
set_option maxRecDepth 100000 in
theorem rFailed_three {r : XReq} {B : Nat} {hv lv : Value} (n : Int) (f : XFault) {w : World} (h : RefAt w B r hv lv) (hB : B ≤ w.heap.size) (hO : ROk r) {v : ByteArray} (hg : aget n r.live = some v) (hA : okAg r) (hX : decide17 f.code f.recv f.need f.data f.write r.again r.retries r.idem = 3) :
    Calls Try.prog 36 #[rVal r hv lv, .int .i64 n, .agg #[.int .u32 f.code, .int .i32 f.recv, .int .i32 f.need, .int .u8 f.data, .string f.write]] w (RefPost w B (XReq.begin { r with live := adel n r.live, again := r.again + 1 } 42 n)) := by
  obtain ⟨C, D, hL, hC, hdel⟩ := adel_split hg
  obtain ⟨A1, c1, rfl, -, -⟩ := h.1.shape
  obtain ⟨A2, c2, rfl, -, -⟩ := h.2.shape
  have F := Fr.start2 h hB (.cells #[.int .u32 f.code, .int .i32 f.recv, .int .i32 f.need, .int .u8 f.data, .string f.write] 89)
  have HS := Lib.hid hL
  have HC := Lib.hid hC
  have HL := Lib.hid hO.live
  have HT := Lib.hid (t_get hL)
  have HX := Lib.hid hX
  have hcl : C.length ≤ 1000 := by have := hO.live; rw [hL] at this; simp at this; omega
  have hcl2 : C.length < r.live.length := by rw [hL]; simp
  have HFB := Lib.hid (((Blk.new_at (k := w.heap.size + 1) (w.alloc (.cells (rCells r (.slice A1 r.hosts.length c1) (.slice A2 r.live.length c2)) 53)) 89 #[.int .u32 f.code, .int .i32 f.recv, .int .i32 f.need, .int .u8 f.data, .string f.write] (by simp))).alloc (.cells rZero 53))
  rw [hdel]
  have hA1 := hA.1
  have hA2 := hA.2
  have hGo := fun w (hr : RefAt w B r (.slice A1 r.hosts.length c1) (.slice A2 r.live.length c2)) (hB : B ≤ w.heap.size) => rgone_at (r := r) hr hB hL hO.live
  have hF := fun w hv lv (hr : RefAt w B { r with live := C ++ D, again := r.again + 1 } hv lv) (hB : B ≤ w.heap.size) => rbegin_at 42 n hr hB (show ROk { r with live := C ++ D, again := r.again + 1 } from ⟨(hO.gone hL).tries0, (hO.gone hL).tries1, (hO.gone hL).live, (hO.gone hL).keys⟩)
  have hq : ∃ q : XReq, q = { r with live := C ++ D } := ⟨_, rfl⟩
  obtain ⟨q, hq⟩ := hq
  have e1 : q.again = r.again := by rw [hq]
  have e4 : ({ r with live := C ++ D, again := r.again + 1 } : XReq) = { q with again := q.again + 1 } := by rw [hq]
  rw [← hq] at hGo
  rw [← e1] at hA1 hA2
  rw [e4] at hF ⊢
  clear e1 e4 hq
  generalize XReq.begin { q with again := q.again + 1 } 42 n = z at *
  have HGo := Lib.hid hGo
  have HF := Lib.hid hF
  clear hGo hF hA
  clear hX hg hL hC hdel
  obtain ⟨a0, a1, a2, a3, a4, a5, a6, a7, a8, a9, a10, a11, a12, a13⟩ := cells14 F.box
  obtain ⟨b0, b1, b2, b3, b4, b5, b6, b7, b8, b9, b10, b11, b12, b13⟩ := cells14 F.res
  have fx := F.box.frozen
  have fr := F.res.frozen
  have lx := F.box.lt
  have lr := F.res.lt
  go_enter Try.func36, Try.ntmps36
  go_wp2_with (go_at_call 50; refine (rfind_some n HS.out HC.out F.ref.2 HL.out).mono ?_; rintro e w1 ⟨rfl, hk1⟩; replace F := F.next hk1; have hfb := HFB.out.kept hk1 id; obtain ⟨u0, u1, u2, u3, u4⟩ := cells5 hfb; clear hfb; clear hk1; (clear a0 a1 a2 a3 a4 a5 a6 a7 a8 a9 a10 a11 a12 a13 b0 b1 b2 b3 b4 b5 b6 b7 b8 b9 b10 b11 b12 b13 fx fr lx lr); obtain ⟨a0, a1, a2, a3, a4, a5, a6, a7, a8, a9, a10, a11, a12, a13⟩ := cells14 F.box; obtain ⟨b0, b1, b2, b3, b4, b5, b6, b7, b8, b9, b10, b11, b12, b13⟩ := cells14 F.res; have fx := F.box.frozen; have fr := F.res.frozen; have lx := F.box.lt; have lr := F.res.lt)
  obtain ⟨g, off, hidx, -, -, hc1, hty⟩ := t_at F.ref.2 HT.out
  clear hty
  go_wp2_with fail
  refine (rDecide_is f _ _ _ _ HX).mono ?_
  rintro e w2 ⟨rfl, hk2⟩
  replace F := F.next hk2
  clear hk2 hc1 hidx u0 u1 u2 u3 u4
  clear a0 a1 a2 a3 a4 a5 a6 a7 a8 a9 a10 a11 a12 a13 b0 b1 b2 b3 b4 b5 b6 b7 b8 b9 b10 b11 b12 b13 fx fr lx lr
  obtain ⟨a0, a1, a2, a3, a4, a5, a6, a7, a8, a9, a10, a11, a12, a13⟩ := cells14 F.box
  obtain ⟨b0, b1, b2, b3, b4, b5, b6, b7, b8, b9, b10, b11, b12, b13⟩ := cells14 F.res
  have fx := F.box.frozen
  have fr := F.res.frozen
  have lx := F.box.lt
  have lr := F.res.lt
  go_wp2_with fail
  refine (HGo.out _ F.ref F.leB).mono ?_
  rintro e w3 ⟨hv3, lv3, rfl, hr3, hk3⟩
  replace F := F.next hk3
  clear hk3
  obtain ⟨A7, c7, rfl, -, -⟩ := hr3.1.shape
  obtain ⟨A8, c8, rfl, -, -⟩ := hr3.2.shape
  clear a0 a1 a2 a3 a4 a5 a6 a7 a8 a9 a10 a11 a12 a13 b0 b1 b2 b3 b4 b5 b6 b7 b8 b9 b10 b11 b12 b13 fx fr lx lr
  obtain ⟨a0, a1, a2, a3, a4, a5, a6, a7, a8, a9, a10, a11, a12, a13⟩ := cells14 F.box
  obtain ⟨b0, b1, b2, b3, b4, b5, b6, b7, b8, b9, b10, b11, b12, b13⟩ := cells14 F.res
  have fx := F.box.frozen
  have fr := F.res.frozen
  have lx := F.box.lt
  have lr := F.res.lt
  go_upto_region 15 with (fail)
  rw [← rStored_def w3 w.heap.size q]
  replace F := F.stored hr3
  clear hr3
  generalize rStored w3 w.heap.size q _ _ = w4 at *
  clear a0 a1 a2 a3 a4 a5 a6 a7 a8 a9 a10 a11 a12 a13 b0 b1 b2 b3 b4 b5 b6 b7 b8 b9 b10 b11 b12 b13 fx fr lx lr
  obtain ⟨a0, a1, a2, a3, a4, a5, a6, a7, a8, a9, a10, a11, a12, a13⟩ := cells14 F.box
  obtain ⟨b0, b1, b2, b3, b4, b5, b6, b7, b8, b9, b10, b11, b12, b13⟩ := cells14 F.res
  have fx := F.box.frozen
  have fr := F.res.frozen
  have lx := F.box.lt
  have lr := F.res.lt
  go_wp2_with fail
  replace F := F.again_ (q.again + 1)
  refine (HF.out _ _ _ F.ref F.leB).mono ?_
  rintro e w5 ⟨hv5, lv5, av, rfl, hr5, ha5, hk5⟩
  replace F := F.next hk5
  clear hk5
  obtain ⟨A11, c11, rfl, -, -⟩ := hr5.1.shape
  obtain ⟨A12, c12, rfl, -, -⟩ := hr5.2.shape
  clear a0 a1 a2 a3 a4 a5 a6 a7 a8 a9 a10 a11 a12 a13 b0 b1 b2 b3 b4 b5 b6 b7 b8 b9 b10 b11 b12 b13 fx fr lx lr
  obtain ⟨a0, a1, a2, a3, a4, a5, a6, a7, a8, a9, a10, a11, a12, a13⟩ := cells14 F.box
  obtain ⟨b0, b1, b2, b3, b4, b5, b6, b7, b8, b9, b10, b11, b12, b13⟩ := cells14 F.res
  have fx := F.box.frozen
  have fr := F.res.frozen
  have lx := F.box.lt
  have lr := F.res.lt
  go_wp2_with fail
  exact F.tail (t := 6) (s := 7) hr5 ha5 rfl rfl rfl rfl

theorem rFailed_op {r : XReq} {B : Nat} {hv lv : Value} (n : Int) (f : XFault) {w : World} (h : RefAt w B r hv lv) (hB : B ≤ w.heap.size) (hO : ROk r) (hA : okAg r) (hp0 : 0 ≤ r.prepared) (hp1 : r.prepared < 4611686018427387904) :
    Calls Try.prog 36 #[rVal r hv lv, .int .i64 n, .agg #[.int .u32 f.code, .int .i32 f.recv, .int .i32 f.need, .int .u8 f.data, .string f.write]] w (RefPost w B (r.failed n (f.what r))) := by
  unfold XReq.failed
  cases hg : aget n r.live with
  | none => exact rFailed_none n f h hB hO hg
  | some v =>
    dsimp only
    have e : f.what r = decide17 f.code f.recv f.need f.data f.write r.again r.retries r.idem := rfl
    rw [e]
    by_cases h4 : decide17 f.code f.recv f.need f.data f.write r.again r.retries r.idem = 4
    · by_cases hp : r.prepared < r.prepares
      · rw [if_pos ⟨h4, hp⟩]; exact rFailed_four n f h hB hO hg h4 hp hp0 hp1
      · rw [if_neg (fun h => hp h.2), if_neg (by rw [h4]; decide), if_neg (by rw [h4]; decide)]; exact rFailed_late n f h hB hO hg h4 (by omega)
    · rw [if_neg (fun h => h4 h.1)]
      by_cases h2 : decide17 f.code f.recv f.need f.data f.write r.again r.retries r.idem = 2
      · rw [if_pos h2]; exact rFailed_two n f h hB hO hg hA h2
      · rw [if_neg h2]
        by_cases h3 : decide17 f.code f.recv f.need f.data f.write r.again r.retries r.idem = 3
        · rw [if_pos h3]; exact rFailed_three n f h hB hO hg hA h3
        · rw [if_neg h3]
          refine rFailed_one n f h hB hO hg ?_
          have := decide17_or f.code f.recv f.need f.data f.write r.again r.retries r.idem
          omega
end Go.Proofs.Ytooedjedncokpaa

/- The executor's Failed: what a server's error leads to. -/
import Derived.Test.YtooedjedncokpaaExWalk2
namespace Go.Proofs.Ytooedjedncokpaa
set_option linter.unusedVariables false
open Go.RowKit
open Go.ChangeMaps (setBlock)
structure XFault where
  code : Int
  level : Int
  recv : Int
  need : Int
  fail : Int
  data : Int
  text : ByteArray
  write : ByteArray
  space : ByteArray
  name : ByteArray
  args : Value
  id : Value
def XFault.cells (f : XFault) : Array Value := #[.int .u32 f.code, .string f.text, .int .u16 f.level, .int .i32 f.recv, .int .i32 f.need, .int .i32 f.fail, .int .u8 f.data, .string f.write, .string f.space, .string f.name, f.args, f.id]
def XFault.what (f : XFault) (r : XReq) : Int := decide17 f.code f.recv f.need f.data f.write r.again r.retries r.idem
theorem Decide_is {x : Int} (f : XFault) (again most : Int) (idem : Bool) (w : World) (hx : Hid (decide17 f.code f.recv f.need f.data f.write again most idem = x)) :
    Calls Try.prog 27 #[.agg #[.int .u32 f.code, .string f.text, .int .u16 f.level, .int .i32 f.recv, .int .i32 f.need, .int .i32 f.fail, .int .u8 f.data, .string f.write, .string f.space, .string f.name, f.args, f.id], .int .i64 again, .int .i64 most, .bool idem] w fun e w' => e = .returned (.int .i64 x) ∧ Below w.heap.size w w' := by
  have h := Decide_at f.code f.level f.recv f.need f.fail f.data again most f.text f.write f.space f.name f.args f.id idem w
  rw [hx.out] at h
  exact h.mono fun e w' ⟨h1, h2⟩ => ⟨h1, h2 ▸ (Below.refl _ _).alloc (Nat.le_refl _) _⟩

set_option maxHeartbeats 400000 in
set_option maxRecDepth 100000 in
theorem Failed_4 {b m : Nat} {r : XReq} (k : Int) (f : XFault) {w : World} (h : ReqAt w b m r) (hT : okT r) (hA : okA r) (s : ByteArray) (hg : aget k r.live = some s) (hd : f.what r = 4) (hp : r.prepared < r.prepares) (hp0 : 0 ≤ r.prepared) (hp1 : r.prepared < 4611686018427387904) :
    Calls Try.prog 13 #[.pointer (some ⟨b, 0, none⟩), .int .i64 k, .agg f.cells] w (ReqPost w b m ({ r with prepared := r.prepared + 1 }, [⟨2, k, s, 0⟩])) := by
  have h1 := h.alloc (.cells #[.int .u32 f.code, .string f.text, .int .u16 f.level, .int .i32 f.recv, .int .i32 f.need, .int .i32 f.fail, .int .u8 f.data, .string f.write, .string f.space, .string f.name, f.args, f.id] 43)
  have hk1 := (Kept.refl (two b m) w).alloc (.cells #[.int .u32 f.code, .string f.text, .int .u16 f.level, .int .i32 f.recv, .int .i32 f.need, .int .i32 f.fail, .int .u8 f.data, .string f.write, .string f.space, .string f.name, f.args, f.id] 43)
  obtain ⟨hv, hb, hs, hm⟩ := id h
  obtain ⟨c0, -, -, -, -, c5, -, -, c8, -, c10, -⟩ := cells14 hb
  have HG := Lib.hid hg
  have HD := Lib.hid hd
  have hbl := hb.lt
  clear hb hs hm hg hd
  unfold XFault.cells
  go_enter Try.func13, Try.ntmps13
  go_wp2_with (go_at_call 26; refine (under_some k h1 HG.out).mono ?_; rintro e w' ⟨rfl, rfl⟩)
  refine still_tail 14 (by kernel_rfl) (by kernel_rfl) ?_
  simp only [List.take_succ_cons, List.take_zero, List.drop_succ_cons, List.drop_zero]
  repeat still_step
  refine wpStill_nil ?_
  go_wp2_with (go_at_call 27; refine (Decide_is f r.again r.retries r.idem _ HD).mono ?_; rintro e w1 ⟨rfl, hb1⟩)
  have hk2 := hk1.drew.trans (T := noBlock) (Kept.of_below hb1) (fun _ _ h => h.elim)
  have h2 := h1.drew.kept (Kept.of_below hb1)
  clear hb1 h1 hk1 c0 c5 c8 c10 hbl
  obtain ⟨hv2, hb2, hs2, hm2⟩ := id h2
  obtain ⟨c0, -, -, c3, -, c5, -, -, c8, -, c10, -, c12, -⟩ := cells14 hb2
  have f10 := hb2.frozen 10
  have f12 := hb2.frozen 12
  have h3 : ReqAt (w1.setCell ⟨b, 12, none⟩ (.int .i64 (r.prepared + 1))) b m { r with prepared := r.prepared + 1 } :=
    ⟨hv2, hb2.set_ 12 _, hs2.far hb2 (by decide) 12 _, hm2.setCell (hm2.ne_blk hb2).symm _⟩
  have hk3 := hk2.setCell (p := ⟨b, 12, none⟩) (fun _ => .inl rfl) (.int .i64 (r.prepared + 1))
  clear hb2 hs2 hm2 h2 h HD HG
  go_quiet (fail)
  have h4 := h3.drewN nq
  have hk4 := hk3.drewN nq
  go_wp2
  go_ret
  exact ⟨_, rfl, Sl.made (Blk.new_at _ _ _ (by simp only [sz_drewN, sz_setCell])) rfl one_max, h4.alloc _, hk4.alloc _⟩

set_option maxHeartbeats 400000 in
set_option maxRecDepth 100000 in
theorem Failed_2 {b m : Nat} {r : XReq} (k : Int) (f : XFault) {w : World} (h : ReqAt w b m r) (hT : okT r) (hA : okA r) (s : ByteArray) (hg : aget k r.live = some s) (hd : f.what r = 2) :
    Calls Try.prog 13 #[.pointer (some ⟨b, 0, none⟩), .int .i64 k, .agg f.cells] w (ReqPost w b m ({ r with again := r.again + 1 }, [⟨1, k, s, 0⟩])) := by
  have h1 := h.alloc (.cells #[.int .u32 f.code, .string f.text, .int .u16 f.level, .int .i32 f.recv, .int .i32 f.need, .int .i32 f.fail, .int .u8 f.data, .string f.write, .string f.space, .string f.name, f.args, f.id] 43)
  have hk1 := (Kept.refl (two b m) w).alloc (.cells #[.int .u32 f.code, .string f.text, .int .u16 f.level, .int .i32 f.recv, .int .i32 f.need, .int .i32 f.fail, .int .u8 f.data, .string f.write, .string f.space, .string f.name, f.args, f.id] 43)
  obtain ⟨hv, hb, hs, hm⟩ := id h
  obtain ⟨c0, -, -, -, -, c5, -, -, c8, -, c10, -⟩ := cells14 hb
  have HG := Lib.hid hg
  have HD := Lib.hid hd
  have hbl := hb.lt
  clear hb hs hm hg hd
  unfold XFault.cells
  go_enter Try.func13, Try.ntmps13
  go_wp2_with (go_at_call 26; refine (under_some k h1 HG.out).mono ?_; rintro e w' ⟨rfl, rfl⟩)
  refine still_tail 14 (by kernel_rfl) (by kernel_rfl) ?_
  simp only [List.take_succ_cons, List.take_zero, List.drop_succ_cons, List.drop_zero]
  repeat still_step
  refine wpStill_nil ?_
  go_wp2_with (go_at_call 27; refine (Decide_is f r.again r.retries r.idem _ HD).mono ?_; rintro e w1 ⟨rfl, hb1⟩)
  have hk2 := hk1.drew.trans (T := noBlock) (Kept.of_below hb1) (fun _ _ h => h.elim)
  have h2 := h1.drew.kept (Kept.of_below hb1)
  clear hb1 h1 hk1 c0 c5 c8 c10 hbl
  obtain ⟨hv2, hb2, hs2, hm2⟩ := id h2
  obtain ⟨c0, -, -, c3, -, c5, -, -, c8, -, c10, -, c12, -⟩ := cells14 hb2
  have f10 := hb2.frozen 10
  have f12 := hb2.frozen 12
  have h3 : ReqAt (w1.setCell ⟨b, 10, none⟩ (.int .i64 (r.again + 1))) b m { r with again := r.again + 1 } :=
    ⟨hv2, hb2.set_ 10 _, hs2.far hb2 (by decide) 10 _, hm2.setCell (hm2.ne_blk hb2).symm _⟩
  have hk3 := hk2.setCell (p := ⟨b, 10, none⟩) (fun _ => .inl rfl) (.int .i64 (r.again + 1))
  have hA1 := hA.1
  have hA2 := hA.2
  have hd4 : ((2 : Int) == 4) = false := rfl
  clear hb2 hs2 hm2 h2 h HD HG
  go_quiet (fail)
  have h4 := h3.drewN nq
  have hk4 := hk3.drewN nq
  go_wp2
  go_ret
  exact ⟨_, rfl, Sl.made (Blk.new_at _ _ _ (by simp only [sz_drewN, sz_setCell])) rfl one_max, h4.alloc _, hk4.alloc _⟩
set_option maxHeartbeats 400000 in
set_option maxRecDepth 100000 in
theorem Failed_3 {b m : Nat} {r : XReq} (k : Int) (f : XFault) {w : World} (h : ReqAt w b m r) (hT : okT r) (hA : okA r) (s : ByteArray) (hg : aget k r.live = some s) (hd : f.what r = 3) :
    Calls Try.prog 13 #[.pointer (some ⟨b, 0, none⟩), .int .i64 k, .agg f.cells] w (ReqPost w b m (XReq.begin { r with live := adel k r.live, again := r.again + 1 } 42 k)) := by
  have h1 := h.alloc (.cells #[.int .u32 f.code, .string f.text, .int .u16 f.level, .int .i32 f.recv, .int .i32 f.need, .int .i32 f.fail, .int .u8 f.data, .string f.write, .string f.space, .string f.name, f.args, f.id] 43)
  have hk1 := (Kept.refl (two b m) w).alloc (.cells #[.int .u32 f.code, .string f.text, .int .u16 f.level, .int .i32 f.recv, .int .i32 f.need, .int .i32 f.fail, .int .u8 f.data, .string f.write, .string f.space, .string f.name, f.args, f.id] 43)
  obtain ⟨hv, hb, hs, hm⟩ := id h
  obtain ⟨c0, -, -, -, -, c5, -, -, c8, -, c10, -⟩ := cells14 hb
  have HG := Lib.hid hg
  have HD := Lib.hid hd
  have hbl := hb.lt
  clear hb hs hm hg hd
  unfold XFault.cells
  go_enter Try.func13, Try.ntmps13
  go_wp2_with (go_at_call 26; refine (under_some k h1 HG.out).mono ?_; rintro e w' ⟨rfl, rfl⟩)
  refine still_tail 14 (by kernel_rfl) (by kernel_rfl) ?_
  simp only [List.take_succ_cons, List.take_zero, List.drop_succ_cons, List.drop_zero]
  repeat still_step
  refine wpStill_nil ?_
  go_wp2_with (go_at_call 27; refine (Decide_is f r.again r.retries r.idem _ HD).mono ?_; rintro e w1 ⟨rfl, hb1⟩)
  have hk2 := hk1.drew.trans (T := noBlock) (Kept.of_below hb1) (fun _ _ h => h.elim)
  have h2 := h1.drew.kept (Kept.of_below hb1)
  clear hb1 h1 hk1 c0 c5 c8 c10 hbl
  obtain ⟨hv2, hb2, hs2, hm2⟩ := id h2
  obtain ⟨c0, -, -, c3, -, c5, -, -, c8, -, c10, -, c12, -⟩ := cells14 hb2
  have f10 := hb2.frozen 10
  have f12 := hb2.frozen 12
  have hA1 := hA.1
  have hA2 := hA.2
  have hd4 : ((3 : Int) == 4) = false := rfl
  clear HG HD
  go_quiet (fail)
  have h4 := h2.drewN nq
  have hk4 := hk2.drewN nq
  clear c0 c3 c5 c8 c10 c12 hb2 hs2 hm2 f10 f12 h2
  generalize w1.drewN nq = W at *
  obtain ⟨es, ck, hrun, h5, hk5⟩ := struck h4 k
  obtain ⟨hv2, hb2, hs2, hm2⟩ := id h4
  obtain ⟨hx1, hx2, hx3⟩ := hm2.rules es ck
  obtain ⟨-, -, -, -, -, -, -, -, c8, -, c10, -⟩ := cells14 hb2
  have f10 := hb2.frozen 10
  obtain ⟨hv3, hb3, hs3, hm3⟩ := id h5
  have h6 : ReqAt ((setBlock W m (.map es ck)).setCell ⟨b, 10, none⟩ (.int .i64 (r.again + 1))) b m { r with live := adel k r.live, again := r.again + 1 } :=
    ⟨hv3, hb3.set_ 10 _, hs3.far hb3 (by decide) 10 _, hm3.setCell (hm3.ne_blk hb3).symm _⟩
  have hk6 := (hk4.trans hk5 fun _ _ h => h).setCell (p := ⟨b, 10, none⟩) (fun _ => .inl rfl) (.int .i64 (r.again + 1))
  clear hb2 hs2 hm2 hb3 hs3 hm3
  go_wp2_with (go_at_call 25; refine (begin_at 42 k h6 hT.1 hT.2).mono ?_; rintro e w' ⟨v, rfl, ha, hr, hk⟩)
  go_ret
  exact ⟨v, rfl, ha, hr, hk6.trans hk fun _ _ h => h⟩

set_option maxHeartbeats 400000 in
set_option maxRecDepth 100000 in
theorem Failed_1 {b m : Nat} {r : XReq} (k : Int) (f : XFault) {w : World} (h : ReqAt w b m r) (hT : okT r) (hA : okA r) (s : ByteArray) (hg : aget k r.live = some s) (hd : f.what r = 1) :
    Calls Try.prog 13 #[.pointer (some ⟨b, 0, none⟩), .int .i64 k, .agg f.cells] w (ReqPost w b m (r.finish 42 k)) := by
  have h1 := h.alloc (.cells #[.int .u32 f.code, .string f.text, .int .u16 f.level, .int .i32 f.recv, .int .i32 f.need, .int .i32 f.fail, .int .u8 f.data, .string f.write, .string f.space, .string f.name, f.args, f.id] 43)
  have hk1 := (Kept.refl (two b m) w).alloc (.cells #[.int .u32 f.code, .string f.text, .int .u16 f.level, .int .i32 f.recv, .int .i32 f.need, .int .i32 f.fail, .int .u8 f.data, .string f.write, .string f.space, .string f.name, f.args, f.id] 43)
  obtain ⟨hv, hb, hs, hm⟩ := id h
  obtain ⟨c0, -, -, -, -, c5, -, -, c8, -, c10, -⟩ := cells14 hb
  have HG := Lib.hid hg
  have HD := Lib.hid hd
  have hbl := hb.lt
  clear hb hs hm hg hd
  unfold XFault.cells
  go_enter Try.func13, Try.ntmps13
  go_wp2_with (go_at_call 26; refine (under_some k h1 HG.out).mono ?_; rintro e w' ⟨rfl, rfl⟩)
  refine still_tail 14 (by kernel_rfl) (by kernel_rfl) ?_
  simp only [List.take_succ_cons, List.take_zero, List.drop_succ_cons, List.drop_zero]
  repeat still_step
  refine wpStill_nil ?_
  go_wp2_with (go_at_call 27; refine (Decide_is f r.again r.retries r.idem _ HD).mono ?_; rintro e w1 ⟨rfl, hb1⟩)
  have hk2 := hk1.drew.trans (T := noBlock) (Kept.of_below hb1) (fun _ _ h => h.elim)
  have h2 := h1.drew.kept (Kept.of_below hb1)
  clear hb1 h1 hk1 c0 c5 c8 c10 hbl
  obtain ⟨hv2, hb2, hs2, hm2⟩ := id h2
  obtain ⟨c0, -, -, c3, -, c5, -, -, c8, -, c10, -, c12, -⟩ := cells14 hb2
  have f10 := hb2.frozen 10
  have f12 := hb2.frozen 12
  have hd4 : ((1 : Int) == 4) = false := rfl
  clear hb2 hs2 hm2 h HG HD
  go_quiet (fail)
  have h4 := h2.drewN nq
  have hk4 := hk2.drewN nq
  clear c0 c3 c5 c8 c10 c12 f10 f12 h2
  generalize w1.drewN nq = W at *
  go_wp2_with (go_at_call 28; refine (finish_at 42 k h4).mono ?_; rintro e w' ⟨v, rfl, ha, hr, hk⟩)
  go_ret
  exact ⟨v, rfl, ha, hr, hk4.trans hk fun _ _ h => h⟩

set_option maxHeartbeats 400000 in
set_option maxRecDepth 100000 in
theorem Failed_4n {b m : Nat} {r : XReq} (k : Int) (f : XFault) {w : World} (h : ReqAt w b m r) (hT : okT r) (hA : okA r) (s : ByteArray) (hg : aget k r.live = some s) (hd : f.what r = 4) (hp : ¬ r.prepared < r.prepares) :
    Calls Try.prog 13 #[.pointer (some ⟨b, 0, none⟩), .int .i64 k, .agg f.cells] w (ReqPost w b m (r.finish 42 k)) := by
  have h1 := h.alloc (.cells #[.int .u32 f.code, .string f.text, .int .u16 f.level, .int .i32 f.recv, .int .i32 f.need, .int .i32 f.fail, .int .u8 f.data, .string f.write, .string f.space, .string f.name, f.args, f.id] 43)
  have hk1 := (Kept.refl (two b m) w).alloc (.cells #[.int .u32 f.code, .string f.text, .int .u16 f.level, .int .i32 f.recv, .int .i32 f.need, .int .i32 f.fail, .int .u8 f.data, .string f.write, .string f.space, .string f.name, f.args, f.id] 43)
  obtain ⟨hv, hb, hs, hm⟩ := id h
  obtain ⟨c0, -, -, -, -, c5, -, -, c8, -, c10, -⟩ := cells14 hb
  have HG := Lib.hid hg
  have HD := Lib.hid hd
  have hbl := hb.lt
  clear hb hs hm hg hd
  unfold XFault.cells
  go_enter Try.func13, Try.ntmps13
  go_wp2_with (go_at_call 26; refine (under_some k h1 HG.out).mono ?_; rintro e w' ⟨rfl, rfl⟩)
  refine still_tail 14 (by kernel_rfl) (by kernel_rfl) ?_
  simp only [List.take_succ_cons, List.take_zero, List.drop_succ_cons, List.drop_zero]
  repeat still_step
  refine wpStill_nil ?_
  go_wp2_with (go_at_call 27; refine (Decide_is f r.again r.retries r.idem _ HD).mono ?_; rintro e w1 ⟨rfl, hb1⟩)
  have hk2 := hk1.drew.trans (T := noBlock) (Kept.of_below hb1) (fun _ _ h => h.elim)
  have h2 := h1.drew.kept (Kept.of_below hb1)
  clear hb1 h1 hk1 c0 c5 c8 c10 hbl
  obtain ⟨hv2, hb2, hs2, hm2⟩ := id h2
  obtain ⟨c0, -, -, c3, -, c5, -, -, c8, -, c10, -, c12, -⟩ := cells14 hb2
  have f10 := hb2.frozen 10
  have f12 := hb2.frozen 12
  have hp2 : r.prepares ≤ r.prepared := by omega
  clear hb2 hs2 hm2 h HG HD hp
  go_quiet (fail)
  have h4 := h2.drewN nq
  have hk4 := hk2.drewN nq
  clear c0 c3 c5 c8 c10 c12 f10 f12 h2
  generalize w1.drewN nq = W at *
  go_wp2_with (go_at_call 28; refine (finish_at 42 k h4).mono ?_; rintro e w' ⟨v, rfl, ha, hr, hk⟩)
  go_ret
  exact ⟨v, rfl, ha, hr, hk4.trans hk fun _ _ h => h⟩


set_option maxHeartbeats 400000 in
set_option maxRecDepth 100000 in
theorem Failed_none {b m : Nat} {r : XReq} (k : Int) (f : XFault) {w : World} (h : ReqAt w b m r) (hg : aget k r.live = none) :
    Calls Try.prog 13 #[.pointer (some ⟨b, 0, none⟩), .int .i64 k, .agg f.cells] w (ReqPost w b m (r, [])) := by
  have h1 := h.alloc (.cells #[.int .u32 f.code, .string f.text, .int .u16 f.level, .int .i32 f.recv, .int .i32 f.need, .int .i32 f.fail, .int .u8 f.data, .string f.write, .string f.space, .string f.name, f.args, f.id] 43)
  have hk1 := (Kept.refl (two b m) w).alloc (.cells #[.int .u32 f.code, .string f.text, .int .u16 f.level, .int .i32 f.recv, .int .i32 f.need, .int .i32 f.fail, .int .u8 f.data, .string f.write, .string f.space, .string f.name, f.args, f.id] 43)
  have FIN := Lib.hid ((same_post h1).from hk1)
  have HG := Lib.hid hg
  clear hk1 hg
  unfold XFault.cells
  go_enter Try.func13, Try.ntmps13
  go_wp2_with (go_at_call 26; refine (under_none k h1 HG.out).mono ?_; rintro e w' ⟨rfl, rfl⟩)
  go_ret
  exact FIN.out

theorem what_cases (f : XFault) (r : XReq) : f.what r = 1 ∨ f.what r = 2 ∨ f.what r = 3 ∨ f.what r = 4 := by
  unfold XFault.what decide17
  repeat' split
  all_goals simp

theorem Failed_at {b m : Nat} {r : XReq} (k : Int) (f : XFault) {w : World} (h : ReqAt w b m r) (hT : okT r) (hA : okA r) (hp0 : 0 ≤ r.prepared) (hp1 : r.prepared < 4611686018427387904) :
    Calls Try.prog 13 #[.pointer (some ⟨b, 0, none⟩), .int .i64 k, .agg f.cells] w (ReqPost w b m (r.failed k (f.what r))) := by
  unfold XReq.failed
  cases hg : aget k r.live with
  | none => exact Failed_none k f h hg
  | some s =>
    dsimp only
    rcases what_cases f r with hd | hd | hd | hd
    · have := Failed_1 k f h hT hA s hg hd; rw [hd]; simpa using this
    · have := Failed_2 k f h hT hA s hg hd; rw [hd]; simpa using this
    · have := Failed_3 k f h hT hA s hg hd; rw [hd]; simpa using this
    · by_cases hp : r.prepared < r.prepares
      · have := Failed_4 k f h hT hA s hg hd hp hp0 hp1; rw [hd]; simpa [hp] using this
      · have := Failed_4n k f h hT hA s hg hd hp; rw [hd]; simpa [hp] using this
end Go.Proofs.Ytooedjedncokpaa

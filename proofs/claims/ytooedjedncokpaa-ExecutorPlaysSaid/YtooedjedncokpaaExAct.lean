/- The executor's operations at a request that is none; what happens to a request, by its kind. -/
import Derived.Test.YtooedjedncokpaaExFail
import Derived.Test.YtooedjedncokpaaExTick
import Derived.Test.YtooedjedncokpaaExLive
import Derived.Test.YtooedjedncokpaaBits
namespace Go.Proofs.Ytooedjedncokpaa
set_option linter.unusedVariables false
open Go.RowKit

def NilPost (w : World) (e : Ending) (w' : World) : Prop := e = .returned (.slice none 0 0) ∧ Kept noBlock w w'

set_option maxHeartbeats 400000 in
set_option maxRecDepth 100000 in
theorem Answered_nil (k : Int) (w : World) : Calls Try.prog 23 #[.pointer none, .int .i64 k] w (NilPost w) := by
  go_enter Try.func23, Try.ntmps23
  go_wp2_with ((go_at_call 26; refine (under_nil k _).mono ?_; rintro e w' ⟨rfl, rfl⟩))
  go_ret
  exact ⟨rfl, by repeat (first | exact Kept.refl _ _ | apply Kept.alloc)⟩

set_option maxHeartbeats 400000 in
set_option maxRecDepth 100000 in
theorem Refused_nil (k why : Int) (w : World) : Calls Try.prog 11 #[.pointer none, .int .i64 k, .int .i64 why] w (NilPost w) := by
  go_enter Try.func11, Try.ntmps11
  go_wp2_with ((go_at_call 26; refine (under_nil k _).mono ?_; rintro e w' ⟨rfl, rfl⟩))
  go_ret
  exact ⟨rfl, by repeat (first | exact Kept.refl _ _ | apply Kept.alloc)⟩

set_option maxHeartbeats 400000 in
set_option maxRecDepth 100000 in
theorem Lost_nil (k : Int) (w : World) : Calls Try.prog 34 #[.pointer none, .int .i64 k] w (NilPost w) := by
  go_enter Try.func34, Try.ntmps34
  go_wp2_with ((go_at_call 26; refine (under_nil k _).mono ?_; rintro e w' ⟨rfl, rfl⟩))
  go_ret
  exact ⟨rfl, by repeat (first | exact Kept.refl _ _ | apply Kept.alloc)⟩

set_option maxHeartbeats 400000 in
set_option maxRecDepth 100000 in
theorem Prepared_nil (k : Int) (well : Bool) (w : World) : Calls Try.prog 33 #[.pointer none, .int .i64 k, .bool well] w (NilPost w) := by
  go_enter Try.func33, Try.ntmps33
  go_wp2_with ((go_at_call 26; refine (under_nil k _).mono ?_; rintro e w' ⟨rfl, rfl⟩))
  go_ret
  exact ⟨rfl, by repeat (first | exact Kept.refl _ _ | apply Kept.alloc)⟩

set_option maxHeartbeats 400000 in
set_option maxRecDepth 100000 in
theorem Failed_nil (k : Int) (f : XFault) (w : World) : Calls Try.prog 13 #[.pointer none, .int .i64 k, .agg #[.int .u32 f.code, .string f.text, .int .u16 f.level, .int .i32 f.recv, .int .i32 f.need, .int .i32 f.fail, .int .u8 f.data, .string f.write, .string f.space, .string f.name, f.args, f.id]] w (NilPost w) := by
  go_enter Try.func13, Try.ntmps13
  go_wp2_with ((go_at_call 26; refine (under_nil k _).mono ?_; rintro e w' ⟨rfl, rfl⟩))
  go_ret
  exact ⟨rfl, by repeat (first | exact Kept.refl _ _ | apply Kept.alloc)⟩

set_option maxHeartbeats 400000 in
set_option maxRecDepth 100000 in
theorem Tick_nil (now : Int) (w : World) : Calls Try.prog 14 #[.pointer none, .int .u64 now] w (NilPost w) := by
  go_enter Try.func14, Try.ntmps14
  go_wp2_with (fail)
  go_ret
  exact ⟨rfl, by repeat (first | exact Kept.refl _ _ | apply Kept.alloc)⟩

set_option maxHeartbeats 400000 in
set_option maxRecDepth 100000 in
theorem Live_nil  (w : World) : Calls Try.prog 15 #[.pointer none] w (NilPost w) := by
  go_enter Try.func15, Try.ntmps15
  go_wp2_with (fail)
  go_ret
  exact ⟨rfl, by repeat (first | exact Kept.refl _ _ | apply Kept.alloc)⟩

set_option maxHeartbeats 400000 in
theorem Done_nil (w : World) : Calls Try.prog 10 #[.pointer none] w fun e w' => e = .returned (.bool true) ∧ w = w' := by
  go_enter Try.func10, Try.ntmps10
  go_wp2
  go_ret
  exact ⟨rfl, rfl⟩
set_option maxHeartbeats 400000 in
theorem Counts_nil (w : World) : Calls Try.prog 12 #[.pointer none] w fun e w' => e = .returned (.tuple #[.int .i64 0, .int .i64 0, .int .i64 0]) ∧ w = w' := by
  go_enter Try.func12, Try.ntmps12
  go_wp2
  go_ret3
  exact ⟨rfl, rfl⟩

/-- Something that happens. -/
structure XEv where
  kind : Int
  try_ : Int
  f : XFault
  well : Bool
  why : Int
  span : Int
def XEv.val (e : XEv) : Value := .agg #[.int .i64 e.kind, .int .i64 e.try_, .int .u32 e.f.code, .string e.f.text, .int .u16 e.f.level, .int .i32 e.f.recv, .int .i32 e.f.need, .int .i32 e.f.fail, .int .u8 e.f.data, .string e.f.write, .string e.f.space, .string e.f.name, e.f.args, e.f.id, .bool e.well, .int .i64 e.why, .int .u64 e.span]

def XReq.act (r : XReq) (e : XEv) (now : Int) : XReq × List XAct :=
  if e.kind % 8 = 0 then r.answered e.try_ else if e.kind % 8 = 1 ∨ e.kind % 8 = 2 then r.failed e.try_ (e.f.what r) else if e.kind % 8 = 3 then r.prepared_ e.try_ e.well
  else if e.kind % 8 = 4 then r.lost e.try_ else if e.kind % 8 = 5 then r.refused e.try_ e.why else r.tick now


set_option maxHeartbeats 400000 in
theorem act_0 {b m : Nat} {r : XReq} (e : XEv) (now : Int) (N : Nat) {w : World} (hb : bits BinOp.and IntKind.i64 e.kind 7 = 0) (h : ReqAt w b m r) (hT : okT r) (hA : okA r) (hp0 : 0 ≤ r.prepared) (hp1 : r.prepared < 4611686018427387904) (hK : r.done = false → TickOk r now N) :
    Calls Try.prog 21 #[.pointer (some ⟨b, 0, none⟩), e.val, .int .u64 now] w (ReqPost w b m (r.answered e.try_)) := by
  unfold XEv.val
  have HC := Lib.hid hp1
  clear hp1
  go_enter Try.func21, Try.ntmps21
  go_wp2_with (go_at_call 23; refine (Answered_at e.try_ (h.alloc _)).mono ?_; rintro e w' ⟨v, rfl, ha, hr, hk⟩)
  go_ret
  exact ⟨v, rfl, ha, hr, ((Kept.refl _ w).alloc _).trans hk fun _ _ h => h⟩
set_option maxHeartbeats 400000 in
theorem actnil_0 (e : XEv) (now : Int) (w : World) (hb : bits BinOp.and IntKind.i64 e.kind 7 = 0) :
    Calls Try.prog 21 #[.pointer none, e.val, .int .u64 now] w (NilPost w) := by
  unfold XEv.val
  go_enter Try.func21, Try.ntmps21
  go_wp2_with (go_at_call 23; refine (Answered_nil e.try_ _).mono ?_; rintro e w' ⟨rfl, hk⟩)
  go_ret
  exact ⟨rfl, ((Kept.refl _ w).alloc _).trans hk fun _ _ h => h⟩

set_option maxHeartbeats 400000 in
theorem act_1 {b m : Nat} {r : XReq} (e : XEv) (now : Int) (N : Nat) {w : World} (hb : bits BinOp.and IntKind.i64 e.kind 7 = 1) (h : ReqAt w b m r) (hT : okT r) (hA : okA r) (hp0 : 0 ≤ r.prepared) (hp1 : r.prepared < 4611686018427387904) (hK : r.done = false → TickOk r now N) :
    Calls Try.prog 21 #[.pointer (some ⟨b, 0, none⟩), e.val, .int .u64 now] w (ReqPost w b m (r.failed e.try_ (e.f.what r))) := by
  unfold XEv.val
  have HC := Lib.hid hp1
  clear hp1
  go_enter Try.func21, Try.ntmps21
  go_wp2_with (go_at_call 13; refine (Failed_at e.try_ e.f (h.alloc _) hT hA hp0 HC.out).mono ?_; rintro e w' ⟨v, rfl, ha, hr, hk⟩)
  go_ret
  exact ⟨v, rfl, ha, hr, ((Kept.refl _ w).alloc _).trans hk fun _ _ h => h⟩
set_option maxHeartbeats 400000 in
theorem actnil_1 (e : XEv) (now : Int) (w : World) (hb : bits BinOp.and IntKind.i64 e.kind 7 = 1) :
    Calls Try.prog 21 #[.pointer none, e.val, .int .u64 now] w (NilPost w) := by
  unfold XEv.val
  go_enter Try.func21, Try.ntmps21
  go_wp2_with (go_at_call 13; refine (Failed_nil e.try_ e.f _).mono ?_; rintro e w' ⟨rfl, hk⟩)
  go_ret
  exact ⟨rfl, ((Kept.refl _ w).alloc _).trans hk fun _ _ h => h⟩

set_option maxHeartbeats 400000 in
theorem act_2 {b m : Nat} {r : XReq} (e : XEv) (now : Int) (N : Nat) {w : World} (hb : bits BinOp.and IntKind.i64 e.kind 7 = 2) (h : ReqAt w b m r) (hT : okT r) (hA : okA r) (hp0 : 0 ≤ r.prepared) (hp1 : r.prepared < 4611686018427387904) (hK : r.done = false → TickOk r now N) :
    Calls Try.prog 21 #[.pointer (some ⟨b, 0, none⟩), e.val, .int .u64 now] w (ReqPost w b m (r.failed e.try_ (e.f.what r))) := by
  unfold XEv.val
  have HC := Lib.hid hp1
  clear hp1
  go_enter Try.func21, Try.ntmps21
  go_wp2_with (go_at_call 13; refine (Failed_at e.try_ e.f (h.alloc _) hT hA hp0 HC.out).mono ?_; rintro e w' ⟨v, rfl, ha, hr, hk⟩)
  go_ret
  exact ⟨v, rfl, ha, hr, ((Kept.refl _ w).alloc _).trans hk fun _ _ h => h⟩
set_option maxHeartbeats 400000 in
theorem actnil_2 (e : XEv) (now : Int) (w : World) (hb : bits BinOp.and IntKind.i64 e.kind 7 = 2) :
    Calls Try.prog 21 #[.pointer none, e.val, .int .u64 now] w (NilPost w) := by
  unfold XEv.val
  go_enter Try.func21, Try.ntmps21
  go_wp2_with (go_at_call 13; refine (Failed_nil e.try_ e.f _).mono ?_; rintro e w' ⟨rfl, hk⟩)
  go_ret
  exact ⟨rfl, ((Kept.refl _ w).alloc _).trans hk fun _ _ h => h⟩

set_option maxHeartbeats 400000 in
theorem act_3 {b m : Nat} {r : XReq} (e : XEv) (now : Int) (N : Nat) {w : World} (hb : bits BinOp.and IntKind.i64 e.kind 7 = 3) (h : ReqAt w b m r) (hT : okT r) (hA : okA r) (hp0 : 0 ≤ r.prepared) (hp1 : r.prepared < 4611686018427387904) (hK : r.done = false → TickOk r now N) :
    Calls Try.prog 21 #[.pointer (some ⟨b, 0, none⟩), e.val, .int .u64 now] w (ReqPost w b m (r.prepared_ e.try_ e.well)) := by
  unfold XEv.val
  have HC := Lib.hid hp1
  clear hp1
  go_enter Try.func21, Try.ntmps21
  go_wp2_with (go_at_call 33; refine (Prepared_at e.try_ e.well (h.alloc _) hT hA).mono ?_; rintro e w' ⟨v, rfl, ha, hr, hk⟩)
  go_ret
  exact ⟨v, rfl, ha, hr, ((Kept.refl _ w).alloc _).trans hk fun _ _ h => h⟩
set_option maxHeartbeats 400000 in
theorem actnil_3 (e : XEv) (now : Int) (w : World) (hb : bits BinOp.and IntKind.i64 e.kind 7 = 3) :
    Calls Try.prog 21 #[.pointer none, e.val, .int .u64 now] w (NilPost w) := by
  unfold XEv.val
  go_enter Try.func21, Try.ntmps21
  go_wp2_with (go_at_call 33; refine (Prepared_nil e.try_ e.well _).mono ?_; rintro e w' ⟨rfl, hk⟩)
  go_ret
  exact ⟨rfl, ((Kept.refl _ w).alloc _).trans hk fun _ _ h => h⟩

set_option maxHeartbeats 400000 in
theorem act_4 {b m : Nat} {r : XReq} (e : XEv) (now : Int) (N : Nat) {w : World} (hb : bits BinOp.and IntKind.i64 e.kind 7 = 4) (h : ReqAt w b m r) (hT : okT r) (hA : okA r) (hp0 : 0 ≤ r.prepared) (hp1 : r.prepared < 4611686018427387904) (hK : r.done = false → TickOk r now N) :
    Calls Try.prog 21 #[.pointer (some ⟨b, 0, none⟩), e.val, .int .u64 now] w (ReqPost w b m (r.lost e.try_)) := by
  unfold XEv.val
  have HC := Lib.hid hp1
  clear hp1
  go_enter Try.func21, Try.ntmps21
  go_wp2_with (go_at_call 34; refine (Lost_at e.try_ (h.alloc _) hT hA).mono ?_; rintro e w' ⟨v, rfl, ha, hr, hk⟩)
  go_ret
  exact ⟨v, rfl, ha, hr, ((Kept.refl _ w).alloc _).trans hk fun _ _ h => h⟩
set_option maxHeartbeats 400000 in
theorem actnil_4 (e : XEv) (now : Int) (w : World) (hb : bits BinOp.and IntKind.i64 e.kind 7 = 4) :
    Calls Try.prog 21 #[.pointer none, e.val, .int .u64 now] w (NilPost w) := by
  unfold XEv.val
  go_enter Try.func21, Try.ntmps21
  go_wp2_with (go_at_call 34; refine (Lost_nil e.try_ _).mono ?_; rintro e w' ⟨rfl, hk⟩)
  go_ret
  exact ⟨rfl, ((Kept.refl _ w).alloc _).trans hk fun _ _ h => h⟩

set_option maxHeartbeats 400000 in
theorem act_5 {b m : Nat} {r : XReq} (e : XEv) (now : Int) (N : Nat) {w : World} (hb : bits BinOp.and IntKind.i64 e.kind 7 = 5) (h : ReqAt w b m r) (hT : okT r) (hA : okA r) (hp0 : 0 ≤ r.prepared) (hp1 : r.prepared < 4611686018427387904) (hK : r.done = false → TickOk r now N) :
    Calls Try.prog 21 #[.pointer (some ⟨b, 0, none⟩), e.val, .int .u64 now] w (ReqPost w b m (r.refused e.try_ e.why)) := by
  unfold XEv.val
  have HC := Lib.hid hp1
  clear hp1
  go_enter Try.func21, Try.ntmps21
  go_wp2_with (go_at_call 11; refine (Refused_at e.try_ e.why (h.alloc _) hT).mono ?_; rintro e w' ⟨v, rfl, ha, hr, hk⟩)
  go_ret
  exact ⟨v, rfl, ha, hr, ((Kept.refl _ w).alloc _).trans hk fun _ _ h => h⟩
set_option maxHeartbeats 400000 in
theorem actnil_5 (e : XEv) (now : Int) (w : World) (hb : bits BinOp.and IntKind.i64 e.kind 7 = 5) :
    Calls Try.prog 21 #[.pointer none, e.val, .int .u64 now] w (NilPost w) := by
  unfold XEv.val
  go_enter Try.func21, Try.ntmps21
  go_wp2_with (go_at_call 11; refine (Refused_nil e.try_ e.why _).mono ?_; rintro e w' ⟨rfl, hk⟩)
  go_ret
  exact ⟨rfl, ((Kept.refl _ w).alloc _).trans hk fun _ _ h => h⟩

set_option maxHeartbeats 400000 in
theorem act_6 {b m : Nat} {r : XReq} (e : XEv) (now : Int) (N : Nat) {w : World} (hb : bits BinOp.and IntKind.i64 e.kind 7 = 6) (h : ReqAt w b m r) (hT : okT r) (hA : okA r) (hp0 : 0 ≤ r.prepared) (hp1 : r.prepared < 4611686018427387904) (hK : r.done = false → TickOk r now N) :
    Calls Try.prog 21 #[.pointer (some ⟨b, 0, none⟩), e.val, .int .u64 now] w (ReqPost w b m (r.tick now)) := by
  unfold XEv.val
  have HC := Lib.hid hp1
  clear hp1
  go_enter Try.func21, Try.ntmps21
  go_wp2_with (go_at_call 14; refine (Tick_at now N (h.alloc _) hK).mono ?_; rintro e w' ⟨v, rfl, ha, hr, hk⟩)
  go_ret
  exact ⟨v, rfl, ha, hr, ((Kept.refl _ w).alloc _).trans hk fun _ _ h => h⟩
set_option maxHeartbeats 400000 in
theorem actnil_6 (e : XEv) (now : Int) (w : World) (hb : bits BinOp.and IntKind.i64 e.kind 7 = 6) :
    Calls Try.prog 21 #[.pointer none, e.val, .int .u64 now] w (NilPost w) := by
  unfold XEv.val
  go_enter Try.func21, Try.ntmps21
  go_wp2_with (go_at_call 14; refine (Tick_nil now _).mono ?_; rintro e w' ⟨rfl, hk⟩)
  go_ret
  exact ⟨rfl, ((Kept.refl _ w).alloc _).trans hk fun _ _ h => h⟩

set_option maxHeartbeats 400000 in
theorem act_7 {b m : Nat} {r : XReq} (e : XEv) (now : Int) (N : Nat) {w : World} (hb : bits BinOp.and IntKind.i64 e.kind 7 = 7) (h : ReqAt w b m r) (hT : okT r) (hA : okA r) (hp0 : 0 ≤ r.prepared) (hp1 : r.prepared < 4611686018427387904) (hK : r.done = false → TickOk r now N) :
    Calls Try.prog 21 #[.pointer (some ⟨b, 0, none⟩), e.val, .int .u64 now] w (ReqPost w b m (r.tick now)) := by
  unfold XEv.val
  have HC := Lib.hid hp1
  clear hp1
  go_enter Try.func21, Try.ntmps21
  go_wp2_with (go_at_call 14; refine (Tick_at now N (h.alloc _) hK).mono ?_; rintro e w' ⟨v, rfl, ha, hr, hk⟩)
  go_ret
  exact ⟨v, rfl, ha, hr, ((Kept.refl _ w).alloc _).trans hk fun _ _ h => h⟩
set_option maxHeartbeats 400000 in
theorem actnil_7 (e : XEv) (now : Int) (w : World) (hb : bits BinOp.and IntKind.i64 e.kind 7 = 7) :
    Calls Try.prog 21 #[.pointer none, e.val, .int .u64 now] w (NilPost w) := by
  unfold XEv.val
  go_enter Try.func21, Try.ntmps21
  go_wp2_with (go_at_call 14; refine (Tick_nil now _).mono ?_; rintro e w' ⟨rfl, hk⟩)
  go_ret
  exact ⟨rfl, ((Kept.refl _ w).alloc _).trans hk fun _ _ h => h⟩

theorem kinds (e : XEv) : e.kind % 8 = 0 ∨ e.kind % 8 = 1 ∨ e.kind % 8 = 2 ∨ e.kind % 8 = 3 ∨ e.kind % 8 = 4 ∨ e.kind % 8 = 5 ∨ e.kind % 8 = 6 ∨ e.kind % 8 = 7 := by omega
theorem act_nil (e : XEv) (now : Int) (w : World) : Calls Try.prog 21 #[.pointer none, e.val, .int .u64 now] w (NilPost w) := by
  have hb := i64_and7 e.kind
  rcases kinds e with h | h | h | h | h | h | h | h <;> rw [h] at hb
  · exact actnil_0 e now w hb
  · exact actnil_1 e now w hb
  · exact actnil_2 e now w hb
  · exact actnil_3 e now w hb
  · exact actnil_4 e now w hb
  · exact actnil_5 e now w hb
  · exact actnil_6 e now w hb
  · exact actnil_7 e now w hb
theorem act_at {b m : Nat} {r : XReq} (e : XEv) (now : Int) (N : Nat) {w : World} (h : ReqAt w b m r) (hT : okT r) (hA : okA r) (hp0 : 0 ≤ r.prepared) (hp1 : r.prepared < 4611686018427387904) (hK : r.done = false → TickOk r now N) :
    Calls Try.prog 21 #[.pointer (some ⟨b, 0, none⟩), e.val, .int .u64 now] w (ReqPost w b m (r.act e now)) := by
  have hb := i64_and7 e.kind
  unfold XReq.act
  rcases kinds e with h1 | h1 | h1 | h1 | h1 | h1 | h1 | h1 <;> rw [h1] at hb ⊢
  · simpa using act_0 e now N hb h hT hA hp0 hp1 hK
  · simpa using act_1 e now N hb h hT hA hp0 hp1 hK
  · simpa using act_2 e now N hb h hT hA hp0 hp1 hK
  · simpa using act_3 e now N hb h hT hA hp0 hp1 hK
  · simpa using act_4 e now N hb h hT hA hp0 hp1 hK
  · simpa using act_5 e now N hb h hT hA hp0 hp1 hK
  · simpa using act_6 e now N hb h hT hA hp0 hp1 hK
  · simpa using act_7 e now N hb h hT hA hp0 hp1 hK
end Go.Proofs.Ytooedjedncokpaa

/- The reference's Lost and Prepared. -/
import Derived.Test.YtooedjedncokpaaRefC
import Derived.Test.YtooedjedncokpaaRefR
namespace Go.Proofs.Ytooedjedncokpaa
set_option linter.unusedVariables false
open Go.RowKit
theorem rrLost_is {x : Int} (again most : Int) (idem : Bool) (w : World) (hx : Hid (lost17 again most idem = x)) :
    Calls Try.prog 54 #[.int .i64 again, .int .i64 most, .bool idem] w fun e w' => e = .returned (.int .i64 x) ∧ w = w' := by
  have := rrLost_at again most idem w; rw [hx.out] at this; exact this
theorem rStored_def (w : World) (g : Nat) (q : XReq) (hv lv : Value) : rStored w g q hv lv =
  ((((((((((((((w.setCell ⟨g, 0, none⟩ (.int .i64 q.retries)).setCell ⟨g, 1, none⟩ (.int .i64 q.extraMax)).setCell ⟨g, 2, none⟩ (.int .u64 q.wait)).setCell ⟨g, 3, none⟩ (.int .i64 q.prepares)).setCell ⟨g, 4, none⟩ hv).setCell ⟨g, 5, none⟩ (.bool q.idem)).setCell ⟨g, 6, none⟩ (.int .u64 q.frm)).setCell ⟨g, 7, none⟩ (.int .u64 q.till)).setCell ⟨g, 8, none⟩ lv).setCell ⟨g, 9, none⟩ (.int .i64 q.tries)).setCell ⟨g, 10, none⟩ (.int .i64 q.again)).setCell ⟨g, 11, none⟩ (.int .i64 q.extra)).setCell ⟨g, 12, none⟩ (.int .i64 q.prepared)).setCell ⟨g, 13, none⟩ (.bool q.done)) := rfl
/-- What again may be. -/
def okAg (r : XReq) : Prop := -4611686018427387904 ≤ r.again ∧ r.again < 4611686018427387904
theorem lost_or (again most : Int) (idem : Bool) : lost17 again most idem = 3 ∨ lost17 again most idem = 1 := by unfold lost17; split <;> simp

set_option maxHeartbeats 1000000 in
set_option maxRecDepth 100000 in
theorem rrLost_none {r : XReq} {B : Nat} {hv lv : Value} (n : Int)  {w : World} (h : RefAt w B r hv lv) (hB : B ≤ w.heap.size) (hO : ROk r) (hg : aget n r.live = none) :
    Calls Try.prog 39 #[rVal r hv lv, .int .i64 n] w (RefPost w B (r, [])) := by
  obtain ⟨A1, c1, rfl, -, -⟩ := h.1.shape
  obtain ⟨A2, c2, rfl, -, -⟩ := h.2.shape
  have F := Fr.start h hB
  have HG := Lib.hid hg
  have HL := Lib.hid hO.live
  clear hg
  obtain ⟨a0, a1, a2, a3, a4, a5, a6, a7, a8, a9, a10, a11, a12, a13⟩ := cells14 F.box
  obtain ⟨b0, b1, b2, b3, b4, b5, b6, b7, b8, b9, b10, b11, b12, b13⟩ := cells14 F.res
  have fx := F.box.frozen
  have fr := F.res.frozen
  have lx := F.box.lt
  have lr := F.res.lt
  go_enter Try.func39, Try.ntmps39
  go_wp2_with (go_at_call 50; refine (rfind_none n F.ref.2 HG.out HL.out).mono ?_; rintro e w1 ⟨rfl, hk1⟩; replace F := F.next hk1; clear hk1; (clear a0 a1 a2 a3 a4 a5 a6 a7 a8 a9 a10 a11 a12 a13 b0 b1 b2 b3 b4 b5 b6 b7 b8 b9 b10 b11 b12 b13 fx fr lx lr); obtain ⟨a0, a1, a2, a3, a4, a5, a6, a7, a8, a9, a10, a11, a12, a13⟩ := cells14 F.box; obtain ⟨b0, b1, b2, b3, b4, b5, b6, b7, b8, b9, b10, b11, b12, b13⟩ := cells14 F.res; have fx := F.box.frozen; have fr := F.res.frozen; have lx := F.box.lt; have lr := F.res.lt)
  exact F.self (t := 4) (s := 5) rfl rfl rfl rfl

set_option maxHeartbeats 1000000 in
set_option maxRecDepth 100000 in
theorem rrLost_three {r : XReq} {B : Nat} {hv lv : Value} (n : Int)  {w : World} (h : RefAt w B r hv lv) (hB : B ≤ w.heap.size) (hO : ROk r) {v : ByteArray} (hg : aget n r.live = some v) (hA : okAg r) (hX : lost17 r.again r.retries r.idem = 3) :
    Calls Try.prog 39 #[rVal r hv lv, .int .i64 n] w (RefPost w B (XReq.begin { r with live := adel n r.live, again := r.again + 1 } 33 n)) := by
  obtain ⟨C, D, hL, hC, hdel⟩ := adel_split hg
  obtain ⟨A1, c1, rfl, -, -⟩ := h.1.shape
  obtain ⟨A2, c2, rfl, -, -⟩ := h.2.shape
  have F := Fr.start h hB
  have HS := Lib.hid hL
  have HC := Lib.hid hC
  have HL := Lib.hid hO.live
  rw [hdel]
  have hA1 := hA.1
  have hA2 := hA.2
  have hGo := fun w (hr : RefAt w B r (.slice A1 r.hosts.length c1) (.slice A2 r.live.length c2)) (hB : B ≤ w.heap.size) => rgone_at (r := r) hr hB hL hO.live
  have hF := fun w hv lv (hr : RefAt w B { r with live := C ++ D, again := r.again + 1 } hv lv) (hB : B ≤ w.heap.size) => rbegin_at 33 n hr hB (show ROk { r with live := C ++ D, again := r.again + 1 } from ⟨(hO.gone hL).tries0, (hO.gone hL).tries1, (hO.gone hL).live, (hO.gone hL).keys⟩)
  have hcl : C.length ≤ 1000 := by have := hO.live; rw [hL] at this; simp at this; omega
  have hq : ∃ q : XReq, q = { r with live := C ++ D } := ⟨_, rfl⟩
  obtain ⟨q, hq⟩ := hq
  have e1 : q.again = r.again := by rw [hq]
  have e2 : q.retries = r.retries := by rw [hq]
  have e3 : q.idem = r.idem := by rw [hq]
  have e4 : ({ r with live := C ++ D, again := r.again + 1 } : XReq) = { q with again := q.again + 1 } := by rw [hq]
  rw [← hq] at hGo
  rw [← e1, ← e2, ← e3] at hX
  rw [← e1] at hA1 hA2
  rw [e4] at hF ⊢
  clear e1 e2 e3 e4 hq
  generalize XReq.begin { q with again := q.again + 1 } 33 n = z at *
  have HGo := Lib.hid hGo
  have HF := Lib.hid hF
  have HX := Lib.hid hX
  clear hg hL hC hdel hGo hF hX hA
  obtain ⟨a0, a1, a2, a3, a4, a5, a6, a7, a8, a9, a10, a11, a12, a13⟩ := cells14 F.box
  obtain ⟨b0, b1, b2, b3, b4, b5, b6, b7, b8, b9, b10, b11, b12, b13⟩ := cells14 F.res
  have fx := F.box.frozen
  have fr := F.res.frozen
  have lx := F.box.lt
  have lr := F.res.lt
  go_enter Try.func39, Try.ntmps39
  go_wp2_with (go_at_call 50; refine (rfind_some n HS.out HC.out F.ref.2 HL.out).mono ?_; rintro e w1 ⟨rfl, hk1⟩; replace F := F.next hk1; clear hk1; (clear a0 a1 a2 a3 a4 a5 a6 a7 a8 a9 a10 a11 a12 a13 b0 b1 b2 b3 b4 b5 b6 b7 b8 b9 b10 b11 b12 b13 fx fr lx lr); obtain ⟨a0, a1, a2, a3, a4, a5, a6, a7, a8, a9, a10, a11, a12, a13⟩ := cells14 F.box; obtain ⟨b0, b1, b2, b3, b4, b5, b6, b7, b8, b9, b10, b11, b12, b13⟩ := cells14 F.res; have fx := F.box.frozen; have fr := F.res.frozen; have lx := F.box.lt; have lr := F.res.lt)
  refine (HGo.out _ F.ref F.leB).mono ?_
  rintro e w2 ⟨hv2, lv2, rfl, hr2, hk2⟩
  replace F := F.next hk2
  clear hk2
  obtain ⟨A5, c5, rfl, -, -⟩ := hr2.1.shape
  obtain ⟨A6, c6, rfl, -, -⟩ := hr2.2.shape
  clear a0 a1 a2 a3 a4 a5 a6 a7 a8 a9 a10 a11 a12 a13 b0 b1 b2 b3 b4 b5 b6 b7 b8 b9 b10 b11 b12 b13 fx fr lx lr
  obtain ⟨a0, a1, a2, a3, a4, a5, a6, a7, a8, a9, a10, a11, a12, a13⟩ := cells14 F.box
  obtain ⟨b0, b1, b2, b3, b4, b5, b6, b7, b8, b9, b10, b11, b12, b13⟩ := cells14 F.res
  have fx := F.box.frozen
  have fr := F.res.frozen
  have lx := F.box.lt
  have lr := F.res.lt
  go_wp2_with fail
  refine (rrLost_is _ _ _ _ HX).mono ?_
  rintro e w3 ⟨rfl, rfl⟩
  rw [← rStored_def w2 w.heap.size q]
  replace F := F.stored hr2
  clear hr2
  generalize rStored w2 w.heap.size q _ _ = w3 at *
  clear a0 a1 a2 a3 a4 a5 a6 a7 a8 a9 a10 a11 a12 a13 b0 b1 b2 b3 b4 b5 b6 b7 b8 b9 b10 b11 b12 b13 fx fr lx lr
  obtain ⟨a0, a1, a2, a3, a4, a5, a6, a7, a8, a9, a10, a11, a12, a13⟩ := cells14 F.box
  obtain ⟨b0, b1, b2, b3, b4, b5, b6, b7, b8, b9, b10, b11, b12, b13⟩ := cells14 F.res
  have fx := F.box.frozen
  have fr := F.res.frozen
  have lx := F.box.lt
  have lr := F.res.lt
  go_wp2_with fail
  replace F := F.again_ (q.again + 1)
  refine (HF.out _ _ _ F.ref F.leB).mono ?_
  rintro e w4 ⟨hv4, lv4, av, rfl, hr4, ha4, hk4⟩
  replace F := F.next hk4
  clear hk4
  obtain ⟨A9, c9, rfl, -, -⟩ := hr4.1.shape
  obtain ⟨A10, c10, rfl, -, -⟩ := hr4.2.shape
  clear a0 a1 a2 a3 a4 a5 a6 a7 a8 a9 a10 a11 a12 a13 b0 b1 b2 b3 b4 b5 b6 b7 b8 b9 b10 b11 b12 b13 fx fr lx lr
  obtain ⟨a0, a1, a2, a3, a4, a5, a6, a7, a8, a9, a10, a11, a12, a13⟩ := cells14 F.box
  obtain ⟨b0, b1, b2, b3, b4, b5, b6, b7, b8, b9, b10, b11, b12, b13⟩ := cells14 F.res
  have fx := F.box.frozen
  have fr := F.res.frozen
  have lx := F.box.lt
  have lr := F.res.lt
  go_wp2_with fail
  exact F.tail (t := 4) (s := 5) hr4 ha4 rfl rfl rfl rfl

set_option maxHeartbeats 1000000 in
set_option maxRecDepth 100000 in
theorem rrLost_one {r : XReq} {B : Nat} {hv lv : Value} (n : Int)  {w : World} (h : RefAt w B r hv lv) (hB : B ≤ w.heap.size) (hO : ROk r) {v : ByteArray} (hg : aget n r.live = some v) (hA : okAg r) (hX : lost17 r.again r.retries r.idem = 1) :
    Calls Try.prog 39 #[rVal r hv lv, .int .i64 n] w (RefPost w B (XReq.over { r with live := adel n r.live } 33 n)) := by
  obtain ⟨C, D, hL, hC, hdel⟩ := adel_split hg
  obtain ⟨A1, c1, rfl, -, -⟩ := h.1.shape
  obtain ⟨A2, c2, rfl, -, -⟩ := h.2.shape
  have F := Fr.start h hB
  have HS := Lib.hid hL
  have HC := Lib.hid hC
  have HL := Lib.hid hO.live
  rw [hdel]
  have hA1 := hA.1
  have hA2 := hA.2
  have hGo := fun w (hr : RefAt w B r (.slice A1 r.hosts.length c1) (.slice A2 r.live.length c2)) (hB : B ≤ w.heap.size) => rgone_at (r := r) hr hB hL hO.live
  have hF := fun w hv lv (hr : RefAt w B { r with live := C ++ D } hv lv) (hB : B ≤ w.heap.size) => rover_at 33 n hr hB
  have hcl : C.length ≤ 1000 := by have := hO.live; rw [hL] at this; simp at this; omega
  have hq : ∃ q : XReq, q = { r with live := C ++ D } := ⟨_, rfl⟩
  obtain ⟨q, hq⟩ := hq
  have e1 : q.again = r.again := by rw [hq]
  have e2 : q.retries = r.retries := by rw [hq]
  have e3 : q.idem = r.idem := by rw [hq]
  have e4 : ({ r with live := C ++ D, again := r.again + 1 } : XReq) = { q with again := q.again + 1 } := by rw [hq]
  rw [← hq] at hGo
  rw [← e1, ← e2, ← e3] at hX
  rw [← e1] at hA1 hA2
  rw [← hq] at hF ⊢
  clear e1 e2 e3 e4 hq
  generalize q.over 33 n = z at *
  have HGo := Lib.hid hGo
  have HF := Lib.hid hF
  have HX := Lib.hid hX
  clear hg hL hC hdel hGo hF hX hA
  obtain ⟨a0, a1, a2, a3, a4, a5, a6, a7, a8, a9, a10, a11, a12, a13⟩ := cells14 F.box
  obtain ⟨b0, b1, b2, b3, b4, b5, b6, b7, b8, b9, b10, b11, b12, b13⟩ := cells14 F.res
  have fx := F.box.frozen
  have fr := F.res.frozen
  have lx := F.box.lt
  have lr := F.res.lt
  go_enter Try.func39, Try.ntmps39
  go_wp2_with (go_at_call 50; refine (rfind_some n HS.out HC.out F.ref.2 HL.out).mono ?_; rintro e w1 ⟨rfl, hk1⟩; replace F := F.next hk1; clear hk1; (clear a0 a1 a2 a3 a4 a5 a6 a7 a8 a9 a10 a11 a12 a13 b0 b1 b2 b3 b4 b5 b6 b7 b8 b9 b10 b11 b12 b13 fx fr lx lr); obtain ⟨a0, a1, a2, a3, a4, a5, a6, a7, a8, a9, a10, a11, a12, a13⟩ := cells14 F.box; obtain ⟨b0, b1, b2, b3, b4, b5, b6, b7, b8, b9, b10, b11, b12, b13⟩ := cells14 F.res; have fx := F.box.frozen; have fr := F.res.frozen; have lx := F.box.lt; have lr := F.res.lt)
  refine (HGo.out _ F.ref F.leB).mono ?_
  rintro e w2 ⟨hv2, lv2, rfl, hr2, hk2⟩
  replace F := F.next hk2
  clear hk2
  obtain ⟨A5, c5, rfl, -, -⟩ := hr2.1.shape
  obtain ⟨A6, c6, rfl, -, -⟩ := hr2.2.shape
  clear a0 a1 a2 a3 a4 a5 a6 a7 a8 a9 a10 a11 a12 a13 b0 b1 b2 b3 b4 b5 b6 b7 b8 b9 b10 b11 b12 b13 fx fr lx lr
  obtain ⟨a0, a1, a2, a3, a4, a5, a6, a7, a8, a9, a10, a11, a12, a13⟩ := cells14 F.box
  obtain ⟨b0, b1, b2, b3, b4, b5, b6, b7, b8, b9, b10, b11, b12, b13⟩ := cells14 F.res
  have fx := F.box.frozen
  have fr := F.res.frozen
  have lx := F.box.lt
  have lr := F.res.lt
  go_wp2_with fail
  refine (rrLost_is _ _ _ _ HX).mono ?_
  rintro e w3 ⟨rfl, rfl⟩
  rw [← rStored_def w2 w.heap.size q]
  replace F := F.stored hr2
  clear hr2
  generalize rStored w2 w.heap.size q _ _ = w3 at *
  clear a0 a1 a2 a3 a4 a5 a6 a7 a8 a9 a10 a11 a12 a13 b0 b1 b2 b3 b4 b5 b6 b7 b8 b9 b10 b11 b12 b13 fx fr lx lr
  obtain ⟨a0, a1, a2, a3, a4, a5, a6, a7, a8, a9, a10, a11, a12, a13⟩ := cells14 F.box
  obtain ⟨b0, b1, b2, b3, b4, b5, b6, b7, b8, b9, b10, b11, b12, b13⟩ := cells14 F.res
  have fx := F.box.frozen
  have fr := F.res.frozen
  have lx := F.box.lt
  have lr := F.res.lt
  go_wp2_with fail
  refine (HF.out _ _ _ F.ref F.leB).mono ?_
  rintro e w4 ⟨hv4, lv4, av, rfl, hr4, ha4, hk4⟩
  replace F := F.next hk4
  clear hk4
  obtain ⟨A9, c9, rfl, -, -⟩ := hr4.1.shape
  obtain ⟨A10, c10, rfl, -, -⟩ := hr4.2.shape
  clear a0 a1 a2 a3 a4 a5 a6 a7 a8 a9 a10 a11 a12 a13 b0 b1 b2 b3 b4 b5 b6 b7 b8 b9 b10 b11 b12 b13 fx fr lx lr
  obtain ⟨a0, a1, a2, a3, a4, a5, a6, a7, a8, a9, a10, a11, a12, a13⟩ := cells14 F.box
  obtain ⟨b0, b1, b2, b3, b4, b5, b6, b7, b8, b9, b10, b11, b12, b13⟩ := cells14 F.res
  have fx := F.box.frozen
  have fr := F.res.frozen
  have lx := F.box.lt
  have lr := F.res.lt
  go_wp2_with fail
  exact F.tail (t := 4) (s := 5) hr4 ha4 rfl rfl rfl rfl

theorem rrLost_op {r : XReq} {B : Nat} {hv lv : Value} (n : Int) {w : World} (h : RefAt w B r hv lv) (hB : B ≤ w.heap.size) (hO : ROk r) (hA : okAg r) :
    Calls Try.prog 39 #[rVal r hv lv, .int .i64 n] w (RefPost w B (r.lost n)) := by
  unfold XReq.lost
  cases hg : aget n r.live with
  | none => exact rrLost_none n h hB hO hg
  | some v =>
    dsimp only
    rcases lost_or r.again r.retries r.idem with hX | hX
    · rw [if_pos hX]; exact rrLost_three n h hB hO hg hA hX
    · rw [if_neg (by rw [hX]; decide)]; exact rrLost_one n h hB hO hg hA hX

end Go.Proofs.Ytooedjedncokpaa

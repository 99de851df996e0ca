/- The reference's Prepared and Failed. -/
import Derived.Test.YtooedjedncokpaaRefD
import Derived.Test.YtooedjedncokpaaExFail
namespace Go.Proofs.Ytooedjedncokpaa
set_option linter.unusedVariables false
open Go.RowKit
theorem t_get {C D : List (Int × ByteArray)} {n : Int} {v : ByteArray} {L : List (Int × ByteArray)} (hL : L = C ++ (n, v) :: D) : L[C.length]? = some (n, v) := by rw [hL]; simp

set_option maxHeartbeats 1000000 in
set_option maxRecDepth 100000 in
theorem rPrepared_none {r : XReq} {B : Nat} {hv lv : Value} (n : Int) (well : Bool) {w : World} (h : RefAt w B r hv lv) (hB : B ≤ w.heap.size) (hO : ROk r) (hg : aget n r.live = none) :
    Calls Try.prog 38 #[rVal r hv lv, .int .i64 n, .bool well] w (RefPost w B (r, [])) := by
  obtain ⟨A1, c1, rfl, -, -⟩ := h.1.shape
  obtain ⟨A2, c2, rfl, -, -⟩ := h.2.shape
  have F := Fr.start h hB
  have HG := Lib.hid hg
  have HL := Lib.hid hO.live
  clear hg
  obtain ⟨a0, a1, a2, a3, a4, a5, a6, a7, a8, a9, a10, a11, a12, a13⟩ := cells14 F.box
  obtain ⟨b0, b1, b2, b3, b4, b5, b6, b7, b8, b9, b10, b11, b12, b13⟩ := cells14 F.res
  have fx := F.box.frozen
  have fr := F.res.frozen
  have lx := F.box.lt
  have lr := F.res.lt
  go_enter Try.func38, Try.ntmps38
  go_wp2_with (go_at_call 50; refine (rfind_none n F.ref.2 HG.out HL.out).mono ?_; rintro e w1 ⟨rfl, hk1⟩; replace F := F.next hk1; clear hk1; (clear a0 a1 a2 a3 a4 a5 a6 a7 a8 a9 a10 a11 a12 a13 b0 b1 b2 b3 b4 b5 b6 b7 b8 b9 b10 b11 b12 b13 fx fr lx lr); obtain ⟨a0, a1, a2, a3, a4, a5, a6, a7, a8, a9, a10, a11, a12, a13⟩ := cells14 F.box; obtain ⟨b0, b1, b2, b3, b4, b5, b6, b7, b8, b9, b10, b11, b12, b13⟩ := cells14 F.res; have fx := F.box.frozen; have fr := F.res.frozen; have lx := F.box.lt; have lr := F.res.lt)
  exact F.self (t := 6) (s := 7) rfl rfl rfl rfl

set_option maxHeartbeats 1000000 in
set_option maxRecDepth 100000 in
theorem rPrepared_no {r : XReq} {B : Nat} {hv lv : Value} (n : Int)  {w : World} (h : RefAt w B r hv lv) (hB : B ≤ w.heap.size) (hO : ROk r) {v : ByteArray} (hg : aget n r.live = some v) (hA : okAg r) :
    Calls Try.prog 38 #[rVal r hv lv, .int .i64 n, .bool false] w (RefPost w B (r.lost n)) := by
  obtain ⟨C, D, hL, hC, hdel⟩ := adel_split hg
  obtain ⟨A1, c1, rfl, -, -⟩ := h.1.shape
  obtain ⟨A2, c2, rfl, -, -⟩ := h.2.shape
  have F := Fr.start h hB
  have HS := Lib.hid hL
  have HC := Lib.hid hC
  have HL := Lib.hid hO.live
  have hcl : C.length ≤ 1000 := by have := hO.live; rw [hL] at this; simp at this; omega
  have hF := fun w (hr : RefAt w B r (.slice A1 r.hosts.length c1) (.slice A2 r.live.length c2)) (hB : B ≤ w.heap.size) => rrLost_op n hr hB hO hA
  generalize r.lost n = z at *
  have HF := Lib.hid hF
  clear hg hL hC hdel hF hA
  obtain ⟨a0, a1, a2, a3, a4, a5, a6, a7, a8, a9, a10, a11, a12, a13⟩ := cells14 F.box
  obtain ⟨b0, b1, b2, b3, b4, b5, b6, b7, b8, b9, b10, b11, b12, b13⟩ := cells14 F.res
  have fx := F.box.frozen
  have fr := F.res.frozen
  have lx := F.box.lt
  have lr := F.res.lt
  go_enter Try.func38, Try.ntmps38
  go_wp2_with (go_at_call 50; refine (rfind_some n HS.out HC.out F.ref.2 HL.out).mono ?_; rintro e w1 ⟨rfl, hk1⟩; replace F := F.next hk1; clear hk1; (clear a0 a1 a2 a3 a4 a5 a6 a7 a8 a9 a10 a11 a12 a13 b0 b1 b2 b3 b4 b5 b6 b7 b8 b9 b10 b11 b12 b13 fx fr lx lr); obtain ⟨a0, a1, a2, a3, a4, a5, a6, a7, a8, a9, a10, a11, a12, a13⟩ := cells14 F.box; obtain ⟨b0, b1, b2, b3, b4, b5, b6, b7, b8, b9, b10, b11, b12, b13⟩ := cells14 F.res; have fx := F.box.frozen; have fr := F.res.frozen; have lx := F.box.lt; have lr := F.res.lt)
  refine (HF.out _ F.ref F.leB).mono ?_
  rintro e w4 ⟨hv4, lv4, av, rfl, hr4, ha4, hk4⟩
  replace F := F.next hk4
  clear hk4
  obtain ⟨A9, c9, rfl, -, -⟩ := hr4.1.shape
  obtain ⟨A10, c10, rfl, -, -⟩ := hr4.2.shape
  clear a0 a1 a2 a3 a4 a5 a6 a7 a8 a9 a10 a11 a12 a13 b0 b1 b2 b3 b4 b5 b6 b7 b8 b9 b10 b11 b12 b13 fx fr lx lr
  obtain ⟨a0, a1, a2, a3, a4, a5, a6, a7, a8, a9, a10, a11, a12, a13⟩ := cells14 F.box
  obtain ⟨b0, b1, b2, b3, b4, b5, b6, b7, b8, b9, b10, b11, b12, b13⟩ := cells14 F.res
  have fx := F.box.frozen
  have fr := F.res.frozen
  have lx := F.box.lt
  have lr := F.res.lt
  go_wp2_with fail
  exact F.tail (t := 6) (s := 7) hr4 ha4 rfl rfl rfl rfl

set_option maxHeartbeats 1000000 in
set_option maxRecDepth 100000 in
theorem rPrepared_yes {r : XReq} {B : Nat} {hv lv : Value} (n : Int)  {w : World} (h : RefAt w B r hv lv) (hB : B ≤ w.heap.size) (hO : ROk r) {v : ByteArray} (hg : aget n r.live = some v) :
    Calls Try.prog 38 #[rVal r hv lv, .int .i64 n, .bool true] w (RefPost w B (r, [⟨1, n, v, 0⟩])) := by
  obtain ⟨C, D, hL, hC, hdel⟩ := adel_split hg
  obtain ⟨A1, c1, rfl, -, -⟩ := h.1.shape
  obtain ⟨A2, c2, rfl, -, -⟩ := h.2.shape
  have F := Fr.start h hB
  have HS := Lib.hid hL
  have HC := Lib.hid hC
  have HL := Lib.hid hO.live
  have hcl : C.length ≤ 1000 := by have := hO.live; rw [hL] at this; simp at this; omega
  have hcl2 : C.length < r.live.length := by rw [hL]; simp
  have HT := Lib.hid (t_get hL)
  clear hg hL hC hdel
  obtain ⟨a0, a1, a2, a3, a4, a5, a6, a7, a8, a9, a10, a11, a12, a13⟩ := cells14 F.box
  obtain ⟨b0, b1, b2, b3, b4, b5, b6, b7, b8, b9, b10, b11, b12, b13⟩ := cells14 F.res
  have fx := F.box.frozen
  have fr := F.res.frozen
  have lx := F.box.lt
  have lr := F.res.lt
  go_enter Try.func38, Try.ntmps38
  go_wp2_with (go_at_call 50; refine (rfind_some n HS.out HC.out F.ref.2 HL.out).mono ?_; rintro e w1 ⟨rfl, hk1⟩; replace F := F.next hk1; clear hk1; (clear a0 a1 a2 a3 a4 a5 a6 a7 a8 a9 a10 a11 a12 a13 b0 b1 b2 b3 b4 b5 b6 b7 b8 b9 b10 b11 b12 b13 fx fr lx lr); obtain ⟨a0, a1, a2, a3, a4, a5, a6, a7, a8, a9, a10, a11, a12, a13⟩ := cells14 F.box; obtain ⟨b0, b1, b2, b3, b4, b5, b6, b7, b8, b9, b10, b11, b12, b13⟩ := cells14 F.res; have fx := F.box.frozen; have fr := F.res.frozen; have lx := F.box.lt; have lr := F.res.lt)
  obtain ⟨g, off, hidx, -, -, hc1, hty⟩ := t_at F.ref.2 HT.out
  have hgr : g ≠ w.heap.size + 1 := by
    obtain ⟨cs, e, fz, hh, he⟩ := hty
    rintro rfl
    have := F.res
    unfold Blk at this
    rw [hh] at this
    injection this with this
    injection this with _ h2
    exact absurd (h2.symm.trans he) (by decide)
  have hgr2 : ¬ w.heap.size + 1 = g := fun e => hgr e.symm
  clear hty
  trace "s0"
  go_region
  trace "s1"
  go_wp2
  exact F.selfAd (t := 6) (s := 7) rfl rfl rfl rfl rfl

theorem rPrepared_op {r : XReq} {B : Nat} {hv lv : Value} (n : Int) (well : Bool) {w : World} (h : RefAt w B r hv lv) (hB : B ≤ w.heap.size) (hO : ROk r) (hA : okAg r) :
    Calls Try.prog 38 #[rVal r hv lv, .int .i64 n, .bool well] w (RefPost w B (r.prepared_ n well)) := by
  unfold XReq.prepared_
  cases hg : aget n r.live with
  | none => exact rPrepared_none n well h hB hO hg
  | some v =>
    dsimp only
    cases well with
    | true => exact rPrepared_yes n h hB hO hg
    | false => exact rPrepared_no n h hB hO hg hA
end Go.Proofs.Ytooedjedncokpaa

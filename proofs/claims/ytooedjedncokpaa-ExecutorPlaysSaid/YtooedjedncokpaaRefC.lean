/- The reference's operations on a request by value. -/
import Derived.Test.YtooedjedncokpaaRefB
namespace Go.Proofs.Ytooedjedncokpaa
set_option linter.unusedVariables false
open Go.RowKit

/-- A function's own two structs (its argument's copy, its result), and what it has left. -/
structure Fr (w w1 : World) (B x g : Nat) (q : XReq) (hv lv : Value) : Prop where
  box : Blk w1 x 53 (rCells q hv lv)
  res : Blk w1 g 53 rZero
  ref : RefAt w1 B q hv lv
  kept : Kept noBlock w w1
  hx : w.heap.size ≤ x
  hg : w.heap.size ≤ g
  hB : B ≤ w.heap.size
  ne : x ≠ g

section
variable {w w1 w2 : World} {B x g : Nat} {q q' : XReq} {hv lv hv' lv' : Value}
theorem Fr.start (h : RefAt w B q hv lv) (hB : B ≤ w.heap.size) : Fr w ((w.alloc (.cells (rCells q hv lv) 53)).alloc (.cells rZero 53)) B w.heap.size (w.heap.size + 1) q hv lv :=
  ⟨(Blk.new _ _ _).alloc _, Blk.new_at _ _ _ (by simp), (h.alloc _).alloc _, ((Kept.refl _ _).alloc _).alloc _, Nat.le_refl _, by omega, hB, by omega⟩
theorem Fr.start2 (h : RefAt w B q hv lv) (hB : B ≤ w.heap.size) (o : Obj) : Fr w (((w.alloc (.cells (rCells q hv lv) 53)).alloc o).alloc (.cells rZero 53)) B w.heap.size (w.heap.size + 1 + 1) q hv lv :=
  ⟨((Blk.new _ _ _).alloc _).alloc _, Blk.new_at _ _ _ (by simp), ((h.alloc _).alloc _).alloc _, (((Kept.refl _ _).alloc _).alloc _).alloc _, Nat.le_refl _, by omega, hB, by omega⟩
theorem Fr.next (h : Fr w w1 B x g q hv lv) (hk : Kept noBlock w1 w2) : Fr w w2 B x g q hv lv :=
  ⟨h.box.kept hk id, h.res.kept hk id, h.ref.kept hk, h.kept.trans hk (fun _ _ h => h), h.hx, h.hg, h.hB, h.ne⟩
theorem Fr.stored (h : Fr w w1 B x g q hv lv) (hr : RefAt w1 B q' hv' lv') : Fr w (rStored w1 x q' hv' lv') B x g q' hv' lv' :=
  have hk := rStored_kept w1 x q' hv' lv'
  ⟨rStored_blk h.box _ _ _, h.res.kept hk (fun e => h.ne e.symm), hr.stored h.box (Nat.le_trans h.hB h.hx) hk, h.kept.trans hk (fun i hi e => by have := h.hx; omega), h.hx, h.hg, h.hB, h.ne⟩
theorem Fr.again_ (h : Fr w w1 B x g q hv lv) (n : Int) : Fr w (w1.setCell ⟨x, 10, none⟩ (.int .i64 n)) B x g { q with again := n } hv lv :=
  have hk := (Kept.refl (fun i => i = x) w1).setCell (p := ⟨x, 10, none⟩) (fun _ => rfl) (.int .i64 n)
  ⟨h.box.set_ 10 _, h.res.kept hk (fun e => h.ne e.symm), RefAt.stored (r := { q with again := n }) h.ref h.box (Nat.le_trans h.hB h.hx) hk, h.kept.trans hk (fun i hi e => by have := h.hx; omega), h.hx, h.hg, h.hB, h.ne⟩
theorem Fr.prepared_ (h : Fr w w1 B x g q hv lv) (n : Int) : Fr w (w1.setCell ⟨x, 12, none⟩ (.int .i64 n)) B x g { q with prepared := n } hv lv :=
  have hk := (Kept.refl (fun i => i = x) w1).setCell (p := ⟨x, 12, none⟩) (fun _ => rfl) (.int .i64 n)
  ⟨h.box.set_ 12 _, h.res.kept hk (fun e => h.ne e.symm), RefAt.stored (r := { q with prepared := n }) h.ref h.box (Nat.le_trans h.hB h.hx) hk, h.kept.trans hk (fun i hi e => by have := h.hx; omega), h.hx, h.hg, h.hB, h.ne⟩
theorem Fr.extra_ (h : Fr w w1 B x g q hv lv) (n : Int) : Fr w (w1.setCell ⟨x, 11, none⟩ (.int .i64 n)) B x g { q with extra := n } hv lv :=
  have hk := (Kept.refl (fun i => i = x) w1).setCell (p := ⟨x, 11, none⟩) (fun _ => rfl) (.int .i64 n)
  ⟨h.box.set_ 11 _, h.res.kept hk (fun e => h.ne e.symm), RefAt.stored (r := { q with extra := n }) h.ref h.box (Nat.le_trans h.hB h.hx) hk, h.kept.trans hk (fun i hi e => by have := h.hx; omega), h.hx, h.hg, h.hB, h.ne⟩
theorem Fr.leB (h : Fr w w1 B x g q hv lv) : B ≤ w1.heap.size := Nat.le_trans h.hB h.kept.size
theorem Fr.tail {fn : Func} {t s : Tmp} {a : Act} {l : List XAct} {av : Value} (h : Fr w w1 B x g q hv lv) (hr : RefAt w1 B q' hv' lv') (ha : RActs w1 av l) (hres : fn.results = #[.cell t 53, .tmp s]) (hd : a.defers = []) (ht : a.tmps[t]?.getD undef = .pointer (some ⟨g, 0, none⟩)) (hs : a.tmps[s]?.getD undef = av) :
    bodyPost Try.prog fn (RefPost w B (q', l)) .ret a (rStored w1 g q' hv' lv') := rtail hres hd ht hs h.res hr ha h.kept (Nat.le_trans h.hB h.hg) h.hg
theorem Fr.self {fn : Func} {t s : Tmp} {a : Act} (h : Fr w w1 B x g q hv lv) (hres : fn.results = #[.cell t 53, .tmp s]) (hd : a.defers = []) (ht : a.tmps[t]?.getD undef = .pointer (some ⟨g, 0, none⟩)) (hs : a.tmps[s]?.getD undef = .slice none 0 0) :
    bodyPost Try.prog fn (RefPost w B (q, [])) .ret a (rStored w1 g q hv lv) := h.tail h.ref (Sl.nil _ _ _) hres hd ht hs
theorem Fr.selfA {fn : Func} {t s : Tmp} {a : Act} {n : Nat} {kind try_ why : Int} {host : ByteArray} (h : Fr w w1 B x g q hv lv) (hres : fn.results = #[.cell t 53, .tmp s]) (hd : a.defers = []) (ht : a.tmps[t]?.getD undef = .pointer (some ⟨g, 0, none⟩)) (hs : a.tmps[s]?.getD undef = .slice (some ⟨n, 0, none⟩) 1 1) (hn : n = w1.heap.size) :
    bodyPost Try.prog fn (RefPost w B (q, [⟨kind, try_, host, why⟩])) .ret a ((rStored w1 g q hv lv).alloc (.cells #[.int .i64 kind, .int .i64 try_, .string host, .int .i64 why] 84)) :=
  rtailA hres hd ht hs hn h.res h.ref h.kept (Nat.le_trans h.hB h.hg) h.hg
set_option maxHeartbeats 400000 in
theorem Fr.selfAd {fn : Func} {t s : Tmp} {a : Act} {n : Nat} {kind try_ why : Int} {host : ByteArray} (h : Fr w w1 B x g q hv lv) (hres : fn.results = #[.cell t 53, .tmp s]) (hd : a.defers = []) (ht : a.tmps[t]?.getD undef = .pointer (some ⟨g, 0, none⟩)) (hs : a.tmps[s]?.getD undef = .slice (some ⟨n, 0, none⟩) 1 1) (hn : n = w1.heap.size) :
    bodyPost Try.prog fn (RefPost w B (q, [⟨kind, try_, host, why⟩])) .ret a ((rStored w1 g q hv lv).alloc (.cells #[.int .i64 kind, .int .i64 try_, .string host, .int .i64 why] 84)).drew := by
  have hkp := rStored_kept w1 g q hv lv
  have hb2 := ((rStored_blk h.res q hv lv).alloc (.cells #[.int .i64 kind, .int .i64 try_, .string host, .int .i64 why] 84)).drew
  have hr2 := (h.ref.stored h.res (Nat.le_trans h.hB h.hg) hkp).alloc (.cells #[.int .i64 kind, .int .i64 try_, .string host, .int .i64 why] 84)
  have hr3 : RefAt ((rStored w1 g q hv lv).alloc (.cells #[.int .i64 kind, .int .i64 try_, .string host, .int .i64 why] 84)).drew B q hv lv := ⟨hr2.1.drew, hr2.2.drew⟩
  have hz : n = (rStored w1 g q hv lv).heap.size := by unfold rStored; simp only [sz_setCell]; exact hn
  have ha2 : RActs ((rStored w1 g q hv lv).alloc (.cells #[.int .i64 kind, .int .i64 try_, .string host, .int .i64 why] 84)).drew (.slice (some ⟨n, 0, none⟩) 1 1) [⟨kind, try_, host, why⟩] := SlK.drew (Sl.made_at (Blk.new_at _ _ _ hz) _ rfl rfl one_max)
  have hk2 := ((h.kept.trans (S := noBlock) hkp (fun i hi e => by have := h.hg; omega)).alloc (.cells #[.int .i64 kind, .int .i64 try_, .string host, .int .i64 why] 84)).drew
  generalize ((rStored w1 g q hv lv).alloc (.cells #[.int .i64 kind, .int .i64 try_, .string host, .int .i64 why] 84)).drew = W at *
  obtain ⟨d0, d1, d2, d3, d4, d5, d6, d7, d8, d9, d10, d11, d12, d13⟩ := cells14 hb2
  refine bodyPost_ret (v := .tuple #[rVal q hv lv, .slice (some ⟨n, 0, none⟩) 1 1]) (by simp [results, hres, ht, hs, go_sem, d0, d1, d2, d3, d4, d5, d6, d7, d8, d9, d10, d11, d12, d13]) hd ?_
  exact ⟨hv, lv, _, rfl, hr3, ha2, hk2⟩
end

theorem adel_split {n : Int} {v : ByteArray} {L : List (Int × ByteArray)} (h : aget n L = some v) : ∃ C D, L = C ++ (n, v) :: D ∧ (∀ p ∈ C, p.1 ≠ n) ∧ adel n L = C ++ D := by
  obtain ⟨C, D, hL, hC⟩ := aget_some_split h
  exact ⟨C, D, hL, hC, by rw [hL]; exact adel_mid hC⟩
theorem ROk.gone {r : XReq} (h : ROk r) {n : Int} {v : ByteArray} {C D : List (Int × ByteArray)} (hL : r.live = C ++ (n, v) :: D) : ROk { r with live := C ++ D } :=
  ⟨h.tries0, h.tries1, by have := h.live; rw [hL] at this; simp only [List.length_append, List.length_cons] at this ⊢; omega, fun p hp => h.keys p (by rw [hL]; simp only [List.mem_append, List.mem_cons] at hp ⊢; rcases hp with hp | hp <;> simp [hp])⟩

set_option maxHeartbeats 1000000 in
set_option maxRecDepth 100000 in
theorem rAnswered_none {r : XReq} {B : Nat} {hv lv : Value} (n : Int)  {w : World} (h : RefAt w B r hv lv) (hB : B ≤ w.heap.size) (hO : ROk r) (hg : aget n r.live = none) :
    Calls Try.prog 35 #[rVal r hv lv, .int .i64 n] w (RefPost w B (r, [])) := by
  obtain ⟨A1, c1, rfl, -, -⟩ := h.1.shape
  obtain ⟨A2, c2, rfl, -, -⟩ := h.2.shape
  have F := Fr.start h hB
  have HG := Lib.hid hg
  have HL := Lib.hid hO.live
  clear hg
  obtain ⟨a0, a1, a2, a3, a4, a5, a6, a7, a8, a9, a10, a11, a12, a13⟩ := cells14 F.box
  obtain ⟨b0, b1, b2, b3, b4, b5, b6, b7, b8, b9, b10, b11, b12, b13⟩ := cells14 F.res
  have fx := F.box.frozen
  have fr := F.res.frozen
  have lx := F.box.lt
  have lr := F.res.lt
  go_enter Try.func35, Try.ntmps35
  go_wp2_with (go_at_call 50; refine (rfind_none n F.ref.2 HG.out HL.out).mono ?_; rintro e w1 ⟨rfl, hk1⟩; replace F := F.next hk1; clear hk1; (clear a0 a1 a2 a3 a4 a5 a6 a7 a8 a9 a10 a11 a12 a13 b0 b1 b2 b3 b4 b5 b6 b7 b8 b9 b10 b11 b12 b13 fx fr lx lr); obtain ⟨a0, a1, a2, a3, a4, a5, a6, a7, a8, a9, a10, a11, a12, a13⟩ := cells14 F.box; obtain ⟨b0, b1, b2, b3, b4, b5, b6, b7, b8, b9, b10, b11, b12, b13⟩ := cells14 F.res; have fx := F.box.frozen; have fr := F.res.frozen; have lx := F.box.lt; have lr := F.res.lt)
  exact F.self (t := 4) (s := 5) rfl rfl rfl rfl

set_option maxHeartbeats 1000000 in
set_option maxRecDepth 100000 in
theorem rAnswered_some {r : XReq} {B : Nat} {hv lv : Value} (n : Int)  {w : World} (h : RefAt w B r hv lv) (hB : B ≤ w.heap.size) (hO : ROk r) {v : ByteArray} (hg : aget n r.live = some v) :
    Calls Try.prog 35 #[rVal r hv lv, .int .i64 n] w (RefPost w B (r.finish 0 n)) := by
  obtain ⟨C, D, hL, hC, hdel⟩ := adel_split hg
  obtain ⟨A1, c1, rfl, -, -⟩ := h.1.shape
  obtain ⟨A2, c2, rfl, -, -⟩ := h.2.shape
  have F := Fr.start h hB
  have HS := Lib.hid hL
  have HC := Lib.hid hC
  have HL := Lib.hid hO.live
  have HF := Lib.hid (fun w (hr : RefAt w B r (.slice A1 r.hosts.length c1) (.slice A2 r.live.length c2)) => rfinish_at (r := r) (B := B) 0 n hr)
  generalize r.finish 0 n = z at *
  clear hg hL hC hdel
  obtain ⟨a0, a1, a2, a3, a4, a5, a6, a7, a8, a9, a10, a11, a12, a13⟩ := cells14 F.box
  obtain ⟨b0, b1, b2, b3, b4, b5, b6, b7, b8, b9, b10, b11, b12, b13⟩ := cells14 F.res
  have fx := F.box.frozen
  have fr := F.res.frozen
  have lx := F.box.lt
  have lr := F.res.lt
  go_enter Try.func35, Try.ntmps35
  go_wp2_with (go_at_call 50; refine (rfind_some n HS.out HC.out F.ref.2 HL.out).mono ?_; rintro e w1 ⟨rfl, hk1⟩; replace F := F.next hk1; clear hk1; (clear a0 a1 a2 a3 a4 a5 a6 a7 a8 a9 a10 a11 a12 a13 b0 b1 b2 b3 b4 b5 b6 b7 b8 b9 b10 b11 b12 b13 fx fr lx lr); obtain ⟨a0, a1, a2, a3, a4, a5, a6, a7, a8, a9, a10, a11, a12, a13⟩ := cells14 F.box; obtain ⟨b0, b1, b2, b3, b4, b5, b6, b7, b8, b9, b10, b11, b12, b13⟩ := cells14 F.res; have fx := F.box.frozen; have fr := F.res.frozen; have lx := F.box.lt; have lr := F.res.lt)
  refine (HF.out _ F.ref).mono ?_
  rintro e w2 ⟨hv2, lv2, av, rfl, hr2, ha2, hk2⟩
  replace F := F.next hk2
  clear hk2
  obtain ⟨A3, c3, rfl, -, -⟩ := hr2.1.shape
  obtain ⟨A4, c4, rfl, -, -⟩ := hr2.2.shape
  clear a0 a1 a2 a3 a4 a5 a6 a7 a8 a9 a10 a11 a12 a13 b0 b1 b2 b3 b4 b5 b6 b7 b8 b9 b10 b11 b12 b13 fx fr lx lr
  obtain ⟨a0, a1, a2, a3, a4, a5, a6, a7, a8, a9, a10, a11, a12, a13⟩ := cells14 F.box
  obtain ⟨b0, b1, b2, b3, b4, b5, b6, b7, b8, b9, b10, b11, b12, b13⟩ := cells14 F.res
  have fx := F.box.frozen
  have fr := F.res.frozen
  have lx := F.box.lt
  have lr := F.res.lt
  go_wp2_with fail
  exact F.tail (t := 4) (s := 5) hr2 ha2 rfl rfl rfl rfl

set_option maxHeartbeats 1000000 in
set_option maxRecDepth 100000 in
theorem rRefused_none {r : XReq} {B : Nat} {hv lv : Value} (n : Int) (why : Int) {w : World} (h : RefAt w B r hv lv) (hB : B ≤ w.heap.size) (hO : ROk r) (hg : aget n r.live = none) :
    Calls Try.prog 40 #[rVal r hv lv, .int .i64 n, .int .i64 why] w (RefPost w B (r, [])) := by
  obtain ⟨A1, c1, rfl, -, -⟩ := h.1.shape
  obtain ⟨A2, c2, rfl, -, -⟩ := h.2.shape
  have F := Fr.start h hB
  have HG := Lib.hid hg
  have HL := Lib.hid hO.live
  clear hg
  obtain ⟨a0, a1, a2, a3, a4, a5, a6, a7, a8, a9, a10, a11, a12, a13⟩ := cells14 F.box
  obtain ⟨b0, b1, b2, b3, b4, b5, b6, b7, b8, b9, b10, b11, b12, b13⟩ := cells14 F.res
  have fx := F.box.frozen
  have fr := F.res.frozen
  have lx := F.box.lt
  have lr := F.res.lt
  go_enter Try.func40, Try.ntmps40
  go_wp2_with (go_at_call 50; refine (rfind_none n F.ref.2 HG.out HL.out).mono ?_; rintro e w1 ⟨rfl, hk1⟩; replace F := F.next hk1; clear hk1; (clear a0 a1 a2 a3 a4 a5 a6 a7 a8 a9 a10 a11 a12 a13 b0 b1 b2 b3 b4 b5 b6 b7 b8 b9 b10 b11 b12 b13 fx fr lx lr); obtain ⟨a0, a1, a2, a3, a4, a5, a6, a7, a8, a9, a10, a11, a12, a13⟩ := cells14 F.box; obtain ⟨b0, b1, b2, b3, b4, b5, b6, b7, b8, b9, b10, b11, b12, b13⟩ := cells14 F.res; have fx := F.box.frozen; have fr := F.res.frozen; have lx := F.box.lt; have lr := F.res.lt)
  exact F.self (t := 6) (s := 7) rfl rfl rfl rfl

set_option maxHeartbeats 1000000 in
set_option maxRecDepth 100000 in
theorem rRefused_some {r : XReq} {B : Nat} {hv lv : Value} (n : Int) (why : Int) {w : World} (h : RefAt w B r hv lv) (hB : B ≤ w.heap.size) (hO : ROk r) {v : ByteArray} (hg : aget n r.live = some v) :
    Calls Try.prog 40 #[rVal r hv lv, .int .i64 n, .int .i64 why] w (RefPost w B (XReq.begin { r with live := adel n r.live } why n)) := by
  obtain ⟨C, D, hL, hC, hdel⟩ := adel_split hg
  obtain ⟨A1, c1, rfl, -, -⟩ := h.1.shape
  obtain ⟨A2, c2, rfl, -, -⟩ := h.2.shape
  have F := Fr.start h hB
  have HS := Lib.hid hL
  have HC := Lib.hid hC
  have HL := Lib.hid hO.live
  rw [hdel]
  have hGo := fun w (hr : RefAt w B r (.slice A1 r.hosts.length c1) (.slice A2 r.live.length c2)) (hB : B ≤ w.heap.size) => rgone_at (r := r) hr hB hL hO.live
  have hF := fun w hv lv (hr : RefAt w B { r with live := C ++ D } hv lv) (hB : B ≤ w.heap.size) => rbegin_at why n hr hB (hO.gone hL)
  have hcl : C.length ≤ 1000 := by have := hO.live; rw [hL] at this; simp at this; omega
  generalize ({ r with live := C ++ D } : XReq) = q at *
  generalize q.begin why n = z at *
  have HGo := Lib.hid hGo
  have HF := Lib.hid hF
  clear hg hL hC hdel hGo hF
  obtain ⟨a0, a1, a2, a3, a4, a5, a6, a7, a8, a9, a10, a11, a12, a13⟩ := cells14 F.box
  obtain ⟨b0, b1, b2, b3, b4, b5, b6, b7, b8, b9, b10, b11, b12, b13⟩ := cells14 F.res
  have fx := F.box.frozen
  have fr := F.res.frozen
  have lx := F.box.lt
  have lr := F.res.lt
  go_enter Try.func40, Try.ntmps40
  go_wp2_with (go_at_call 50; refine (rfind_some n HS.out HC.out F.ref.2 HL.out).mono ?_; rintro e w1 ⟨rfl, hk1⟩; replace F := F.next hk1; clear hk1; (clear a0 a1 a2 a3 a4 a5 a6 a7 a8 a9 a10 a11 a12 a13 b0 b1 b2 b3 b4 b5 b6 b7 b8 b9 b10 b11 b12 b13 fx fr lx lr); obtain ⟨a0, a1, a2, a3, a4, a5, a6, a7, a8, a9, a10, a11, a12, a13⟩ := cells14 F.box; obtain ⟨b0, b1, b2, b3, b4, b5, b6, b7, b8, b9, b10, b11, b12, b13⟩ := cells14 F.res; have fx := F.box.frozen; have fr := F.res.frozen; have lx := F.box.lt; have lr := F.res.lt)
  refine (HGo.out _ F.ref F.leB).mono ?_
  rintro e w2 ⟨hv2, lv2, rfl, hr2, hk2⟩
  replace F := F.next hk2
  replace hr2 := hr2
  clear hk2
  obtain ⟨A3, c3, rfl, -, -⟩ := hr2.1.shape
  obtain ⟨A4, c4, rfl, -, -⟩ := hr2.2.shape
  clear a0 a1 a2 a3 a4 a5 a6 a7 a8 a9 a10 a11 a12 a13 b0 b1 b2 b3 b4 b5 b6 b7 b8 b9 b10 b11 b12 b13 fx fr lx lr
  obtain ⟨a0, a1, a2, a3, a4, a5, a6, a7, a8, a9, a10, a11, a12, a13⟩ := cells14 F.box
  obtain ⟨b0, b1, b2, b3, b4, b5, b6, b7, b8, b9, b10, b11, b12, b13⟩ := cells14 F.res
  have fx := F.box.frozen
  have fr := F.res.frozen
  have lx := F.box.lt
  have lr := F.res.lt
  go_wp2_with fail
  refine (HF.out _ _ _ hr2 F.leB).mono ?_
  rintro e w3 ⟨hv3, lv3, av, rfl, hr3, ha3, hk3⟩
  replace F := F.next hk3
  clear hk3
  obtain ⟨A5, c5, rfl, -, -⟩ := hr3.1.shape
  obtain ⟨A6, c6, rfl, -, -⟩ := hr3.2.shape
  clear a0 a1 a2 a3 a4 a5 a6 a7 a8 a9 a10 a11 a12 a13 b0 b1 b2 b3 b4 b5 b6 b7 b8 b9 b10 b11 b12 b13 fx fr lx lr
  obtain ⟨a0, a1, a2, a3, a4, a5, a6, a7, a8, a9, a10, a11, a12, a13⟩ := cells14 F.box
  obtain ⟨b0, b1, b2, b3, b4, b5, b6, b7, b8, b9, b10, b11, b12, b13⟩ := cells14 F.res
  have fx := F.box.frozen
  have fr := F.res.frozen
  have lx := F.box.lt
  have lr := F.res.lt
  go_wp2_with fail
  exact F.tail (t := 6) (s := 7) hr3 ha3 rfl rfl rfl rfl

end Go.Proofs.Ytooedjedncokpaa

/- The executor's Tick. -/
import Derived.Test.YtooedjedncokpaaExSoon
import Derived.Deep.LoopGhost
namespace Go.Proofs.Ytooedjedncokpaa
set_option linter.unusedVariables false
open Go.RowKit
open Go.ChangeMaps (setBlock)
theorem actsT : SlT Try.prog 29 33 (.agg #[.int .i64 0, .int .i64 0, .string noStr, .int .i64 0]) 4 40 := ⟨Try.underlying29, by kernel_rfl, rfl, by decide, by decide⟩

/-- The bounds under which ticks are told. -/
structure TickOk (r : XReq) (now : Int) (N : Nat) : Prop where
  now1 : now < 18446744073709551616
  frm0 : 0 ≤ r.frm
  extra0 : 0 ≤ r.extra
  extra1 : r.extra + r.hosts.length < 4611686018427387904
  wait0 : 0 ≤ r.wait
  wait1 : r.wait < 18446744073709551616
  tries0 : 0 ≤ r.tries
  tries1 : r.tries + r.hosts.length < 4611686018427387904
  small : r.hosts.length ≤ N
  big : N ≤ 1000000000000

theorem TickOk.step {r : XReq} {now : Int} {N : Nat} (h : TickOk r now N) (hs : r.soon now = true) : TickOk (XReq.begin { r with extra := r.extra + 1 } 40 (-1)).1 now N ∧ (XReq.begin { r with extra := r.extra + 1 } 40 (-1)).1.hosts.length + 1 = r.hosts.length ∧
    (XReq.begin { r with extra := r.extra + 1 } 40 (-1)).2.length = 1 := by
  obtain ⟨h1, h2, h3, h4, h5, h6, h7, h8, h9, h10⟩ := h
  have hne : r.hosts ≠ [] := by
    intro e
    simp [XReq.soon, e] at hs
  cases hh : r.hosts with
  | nil => exact absurd hh hne
  | cons s t =>
    rw [hh] at h4 h8 h9
    simp only [List.length_cons] at h4 h8 h9
    simp only [XReq.begin, XReq.start]
    refine ⟨⟨h1, h2, ?_, ?_, h5, h6, ?_, ?_, ?_, h10⟩, rfl, rfl⟩ <;> simp only <;> omega

theorem actCells_one {l : List XAct} {u : Value} (hu : u ∈ l.flatMap actCells) : u.oneCell' = true := by
  obtain ⟨a, _, h⟩ := List.mem_flatMap.1 hu
  simp only [actCells, List.mem_cons, List.not_mem_nil, or_false] at h
  rcases h with rfl | rfl | rfl | rfl <;> rfl

theorem actCells_len (l : List XAct) : (l.flatMap actCells).length = l.length * 4 := by
  induction l with
  | nil => rfl
  | cons a t ih => simp [List.flatMap_cons, ih, actCells]; omega

/-- A tick's loop: what has been done, and what is still to do. -/
def TickRel (B b m : Nat) (w : World) (r : XReq) (now : Int) (N k : Nat) (v : Value) (wr : World) : Prop :=
  ∃ (q : XReq) (acc : List XAct), k = q.hosts.length + 1 ∧ acc.length + q.hosts.length ≤ N ∧ TickOk q now N ∧ ReqAt wr b m q ∧ wr.ownsRow B 33 4 v acc.length (acc.flatMap actCells) ∧ Kept (fun i => two b m i ∨ B ≤ i) w wr ∧
    r.tickGo r.hosts.length now = ((q.tickGo q.hosts.length now).1, acc ++ (q.tickGo q.hosts.length now).2)

theorem soon_is {x : Bool} {b m : Nat} {r : XReq} (now : Int) {w : World} (N : Nat) (h : ReqAt w b m r) (hT : TickOk r now N) (hx : Hid (r.soon now = x)) :
    Calls Try.prog 29 #[.pointer (some ⟨b, 0, none⟩), .int .u64 now] w fun e w' => e = .returned (.bool x) ∧ ∃ n, w' = w.drewN n := by
  have := soon_at now h hT.now1 hT.frm0 hT.extra0 (by have := hT.extra1; omega) hT.wait0 hT.wait1
  rw [hx.out] at this; exact this

theorem begin_tick {b m : Nat} {r : XReq} {w : World} (h : ReqAt w b m r) (h0 : 0 ≤ r.tries) (h1 : r.tries < 4611686018427387904) :
    Calls Try.prog 25 #[.pointer (some ⟨b, 0, none⟩), .int .i64 40, .int .i64 (-1)] w (ReqPost w b m (r.begin 40 (-1))) := begin_at 40 (-1) h h0 h1

theorem Sl_own_drewN {w : World} {base : Nat} {e : TypeId} {sz n : Nat} {v : Value} {xs : List Value} (h : w.ownsRow base e sz v n xs) (k : Nat) : (w.drewN k).ownsRow base e sz v n xs := h
theorem ReqAt.appended {w w' : World} {B b m : Nat} {q : XReq} {e : TypeId} {sz k n : Nat} {v v' : Value} {xs ys : List Value} (h : ReqAt w b m q) (ha : Appended w w' B e sz v v' k xs) (ho : w.ownsRow B e sz v n ys) (hb : b < B) (hm : m < B) (hne : e ≠ 9 := by decide) : ReqAt w' b m q := by
  obtain ⟨hv, h1, h2, h3⟩ := h
  exact ⟨hv, h1.kept ha.kept (fun h => by have := (own_type ho h).1; omega), h2.appended ha ho hne, h3.kept ha.kept (fun h => by have := (own_type ho h).1; omega)⟩
theorem TickRel.done {B b m : Nat} {w : World} {r : XReq} {now : Int} {N k : Nat} {v : Value} {wr : World} (hB : B = w.heap.size) {q : XReq} {acc : List XAct} (hq : ReqAt wr b m q) (hown : wr.ownsRow B 33 4 v acc.length (acc.flatMap actCells)) (hk : Kept (fun i => two b m i ∨ B ≤ i) w wr)
    (he : r.tickGo r.hosts.length now = ((q.tickGo q.hosts.length now).1, acc ++ (q.tickGo q.hosts.length now).2)) (hs : q.soon now = false) : ReqPost w b m (r.tickGo r.hosts.length now) (.returned v) wr := by
  have e : q.tickGo q.hosts.length now = (q, []) := by cases q.hosts.length <;> simp [XReq.tickGo, hs]
  rw [e] at he
  rw [he]
  refine ⟨v, rfl, ?_, hq, hk.mono fun k hk h => ?_⟩
  · simp only [List.append_nil]; exact Sl.of_own hown
  · rcases h with h | h
    · exact h
    · omega

set_option maxHeartbeats 1000000 in
theorem Tick_loop {b m : Nat} {r : XReq} (now : Int) (N : Nat) {w : World} (h : ReqAt w b m r) (hd : r.done = false) (ht : now < r.till) (hT : TickOk r now N) :
    Calls Try.prog 14 #[.pointer (some ⟨b, 0, none⟩), .int .u64 now] w (ReqPost w b m (r.tickGo r.hosts.length now)) := by
  obtain ⟨hv, hb, hs, hm⟩ := id h
  obtain ⟨-, -, -, -, -, -, -, c7, -, -, -, -, -, c13⟩ := cells14 hb
  rw [hd] at c13
  clear hb hs hm hd
  have start : TickRel w.heap.size b m w r now N (r.hosts.length + 1) (.slice none 0 0) w := ⟨r, [], rfl, by simpa using hT.small, hT, h, World.ownsRow_nil _ _ _ _, Kept.refl _ _, rfl⟩
  have START := Lib.hid start
  obtain ⟨w0, hw0⟩ : ∃ w0 : World, w0 = w := ⟨_, rfl⟩
  clear start
  go_enter Try.func14, Try.ntmps14
  go_wp2
  go_loopg [5] (r.hosts.length + 1) (fun k v wr => TickRel w.heap.size b m w r now N k v wr)
  case atStart => exact START.out
  case round =>
    obtain ⟨q, acc, rfl, hN, hTq, hq, hown, hkr, he⟩ := hrel
    clear START c7 c13
    cases hs : q.soon now with
    | false =>
      have FIN := Lib.hid (fun n => TickRel.done (N := N) (k := 0) rfl (hq.drewN n) (Sl_own_drewN hown n) (hkr.drewN n) he hs)
      have HS := Lib.hid hs
      clear he hs hw0
      go_wp2_with (go_at_call 29; refine (soon_is now N hq hTq HS).mono ?_; rintro e w' ⟨rfl, n, rfl⟩)
      go_ret
      exact FIN.out _
    | true =>
      obtain ⟨hv, hb, hs0, hm⟩ := id hq
      obtain ⟨-, -, -, -, -, -, -, -, -, -, -, c11, -, -⟩ := cells14 hb
      have f11 := hb.frozen 11
      have h2 : ReqAt (wr.setCell ⟨b, 11, none⟩ (.int .i64 (q.extra + 1))) b m { q with extra := q.extra + 1 } :=
        ⟨hv, hb.set_ 11 _, hs0.far hb (by decide) 11 _, hm.setCell (hm.ne_blk hb).symm _⟩
      have hk2 := hkr.setCell (p := ⟨b, 11, none⟩) (fun _ => .inl (.inl rfl)) (.int .i64 (q.extra + 1))
      have ho2 := own_far hown hb (by decide) 11 (.int .i64 (q.extra + 1))
      obtain ⟨hT3, hl3, hl4⟩ := hTq.step hs
      have hx1 := hTq.extra0
      have hx2 : q.extra < 4611686018427387904 := by have := hTq.extra1; omega
      have hx3 := hTq.tries0
      have HX4 := Lib.hid (show q.tries < 4611686018427387904 by have := hTq.tries1; omega)
      have hx5 := hTq.big
      have HS := Lib.hid hs
      have HE := Lib.hid he
      have HK := Lib.hid hk2
      obtain ⟨hbw, hmw, -⟩ := h.lts
      have HT := Lib.hid hl3
      have HU := Lib.hid hl4
      have hsz : w.heap.size ≤ wr.heap.size := hkr.size
      have HBY := Lib.hid (show acc.length * 40 + 40 ≤ 140737488355328 by omega)
      clear hx5 he hs hw0 hb hs0 hm hk2 hl3 hl4 hkr
      go_wp2_with (go_at_call 29; refine (soon_is now N hq hTq HS).mono ?_; rintro e w' ⟨rfl, n, rfl⟩)
      refine (begin_tick (h2.drewN _) hx3 HX4.out).mono ?_
      rintro e w2 ⟨v1, rfl, ha, hr, hk⟩
      have ho3 := own_kept (Sl_own_drewN ho2 n) hk (fun g cs hg _ => (h2.drewN n).apart (by decide) g cs (0, 0) hg)
      go_wp2_with (at_builtin; go_must (refine wpList_append_sl _ actsT rfl (.tmp 32) (.tmp 34) rfl w.heap.size _ acc.length (acc.flatMap actCells) rfl ho3 v1 _ _ rfl ha (fun u hu => actCells_one hu) ?c1 ?c2 ?_))
      case c1 => rw [HU.out]; have := HBY.out; omega
      case c2 => have := hk.size; simp only [sz_drewN, sz_setCell] at this; omega
      intro v' w3 hap
      go_wp2
      go_roundg ((XReq.begin { q with extra := q.extra + 1 } 40 (-1)).1.hosts.length + 1)
      case measure => have := HT.out; omega
      case rel =>
        have hlen := HT.out
        have hone := HU.out
        have hown3 := hap.own
        refine ⟨_, acc ++ (XReq.begin { q with extra := q.extra + 1 } 40 (-1)).2, rfl, ?_, hT3, ?_, ?_, ?_, ?_⟩
        · rw [List.length_append]; omega
        · exact hr.appended hap ho3 (by omega) (by omega)
        · rw [List.length_append, List.flatMap_append]; exact hown3
        · refine ((HK.out.drewN n).trans hk fun i hi h => .inl h).trans hap.kept fun i hi h => .inr (own_type ho3 h).1
        · rw [HE.out]
          have e2 : q.hosts.length = (XReq.begin { q with extra := q.extra + 1 } 40 (-1)).1.hosts.length + 1 := by omega
          have e3 : q.tickGo q.hosts.length now = ((XReq.tickGo (XReq.begin { q with extra := q.extra + 1 } 40 (-1)).1.hosts.length (XReq.begin { q with extra := q.extra + 1 } 40 (-1)).1 now).1, (XReq.begin { q with extra := q.extra + 1 } 40 (-1)).2 ++ (XReq.tickGo (XReq.begin { q with extra := q.extra + 1 } 40 (-1)).1.hosts.length (XReq.begin { q with extra := q.extra + 1 } 40 (-1)).1 now).2) := by
            rw [e2, XReq.tickGo, if_pos HS.out]
          rw [e3]
          simp only [List.append_assoc]

set_option maxHeartbeats 400000 in
theorem Tick_done {b m : Nat} {r : XReq} (now : Int) {w : World} (h : ReqAt w b m r) (hd : r.done = true) :
    Calls Try.prog 14 #[.pointer (some ⟨b, 0, none⟩), .int .u64 now] w (ReqPost w b m (r, [])) := by
  obtain ⟨hv, hb, hs, hm⟩ := id h
  obtain ⟨-, -, -, -, -, -, -, c7, -, -, -, -, -, c13⟩ := cells14 hb
  rw [hd] at c13
  have FIN := Lib.hid (same_post h)
  clear hb hs hm hd h
  go_enter Try.func14, Try.ntmps14
  go_wp2
  go_ret
  exact FIN.out

set_option maxHeartbeats 400000 in
theorem Tick_late {b m : Nat} {r : XReq} (now : Int) {w : World} (h : ReqAt w b m r) (hd : r.done = false) (ht : r.till ≤ now) :
    Calls Try.prog 14 #[.pointer (some ⟨b, 0, none⟩), .int .u64 now] w (ReqPost w b m (r.finish 34 (-1))) := by
  obtain ⟨hv, hb, hs, hm⟩ := id h
  obtain ⟨-, -, -, -, -, -, -, c7, -, -, -, -, -, c13⟩ := cells14 hb
  rw [hd] at c13
  clear hb hs hm hd
  go_enter Try.func14, Try.ntmps14
  go_wp2_with (go_at_call 28; refine (finish_at 34 (-1) h).mono ?_; rintro e w' ⟨v, rfl, ha, hr, hk⟩)
  go_ret
  exact ⟨v, rfl, ha, hr, hk⟩

theorem Tick_at {b m : Nat} {r : XReq} (now : Int) {w : World} (N : Nat) (h : ReqAt w b m r) (hT : r.done = false → TickOk r now N) :
    Calls Try.prog 14 #[.pointer (some ⟨b, 0, none⟩), .int .u64 now] w (ReqPost w b m (r.tick now)) := by
  unfold XReq.tick
  cases hd : r.done with
  | true => exact Tick_done now h hd
  | false =>
    by_cases ht : r.till ≤ now
    · simp only [ht, if_true]; exact Tick_late now h hd ht
    · simp only [ht, if_false]; exact Tick_loop now N h hd (by omega) (hT hd)
end Go.Proofs.Ytooedjedncokpaa

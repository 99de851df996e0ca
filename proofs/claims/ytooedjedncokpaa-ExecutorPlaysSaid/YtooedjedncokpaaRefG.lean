/- The reference's reached and Tick. -/
import Derived.Test.YtooedjedncokpaaRefD
import Derived.Test.YtooedjedncokpaaExTick
import Derived.Deep.LoopGhost
namespace Go.Proofs.Ytooedjedncokpaa
set_option linter.unusedVariables false
open Go.RowKit

def ReachedPost (one span : Int) (n : Nat) (w : World) (e : Ending) (w' : World) : Prop := e = .returned (.bool (decide (one * n ≤ span))) ∧ w = w'
set_option maxHeartbeats 400000 in
theorem reached_at (span one : Int) (n : Nat) (w : World) (hs0 : 0 ≤ span) (hs1 : span < 18446744073709551616) (ho0 : 0 ≤ one) (ho1 : one < 18446744073709551616) (hn : n ≤ 1000) :
    Calls Try.prog 55 #[.int .u64 span, .int .u64 one, .int .i64 n] w (ReachedPost one span n w) := by
  go_enter Try.func55, Try.ntmps55
  go_wp2
  go_loop [0, 7] (fun s i => ∃ k : Nat, k ≤ n ∧ one * k ≤ span ∧ i = .int .i64 k ∧ s = .int .u64 (span - one * k)) (fun _ i => n - (intOf i).toNat)
  case atStart => exact ⟨0, Nat.zero_le _, by simpa using hs0, rfl, by simp⟩
  case round =>
    obtain ⟨k, hk, hle, rfl, rfl⟩ := hrel
    have hp0 : 0 ≤ one * k := Int.mul_nonneg ho0 (by omega)
    have e1 : one * ((k + 1 : Nat) : Int) = one * k + one := by rw [Int.natCast_add, Int.mul_add]; simp
    have e2 : k < n → one * ((k + 1 : Nat) : Int) ≤ one * n := fun h => Int.mul_le_mul_of_nonneg_left (by omega) ho0
    have E1 := Lib.hid e1
    have E2 := Lib.hid e2
    clear e1 e2
    generalize hp : one * (k : Int) = p at *
    have HP := Lib.hid hp
    clear hp
    by_cases hlt : k < n
    · by_cases hsp : span - p < one
      · go_wp2
        go_ret
        refine ⟨?_, rfl⟩
        have := E1.out
        have := E2.out hlt
        rw [decide_eq_false (by omega)]; rfl
      · by_cases hz : one = 0
        · have hz1 : (one == 0) = true := by rw [beq_iff_eq]; exact hz
          have HZ := Lib.hid hz
          clear hz
          go_wp2
          go_ret
          refine ⟨?_, rfl⟩
          rw [decide_eq_true (by rw [HZ.out]; omega)]; rfl
        · have hz1 : (one == 0) = false := by rw [beq_eq_false_iff_ne]; exact hz
          have hw : span - p - one < 18446744073709551616 := by omega
          have hw0 : 0 ≤ span - p - one := by omega
          clear hz
          go_wp2
          go_round
          case rel => exact ⟨k + 1, by omega, by have := E1.out; omega, by go_num, by rw [E1.out]; congr 1; omega⟩
          case measure => simp [intOf]; omega
    · obtain rfl : k = n := by omega
      go_wp2
      go_ret
      refine ⟨?_, rfl⟩
      rw [decide_eq_true (by rw [HP.out]; exact hle)]; rfl
theorem reached_is {x : Bool} (span one m : Int) (n : Nat) (w : World) (hs0 : 0 ≤ span) (hs1 : span < 18446744073709551616) (ho0 : 0 ≤ one) (ho1 : one < 18446744073709551616) (hn : n ≤ 1000) (hm : m = n) (hx : Hid (decide (one * n ≤ span) = x)) :
    Calls Try.prog 55 #[.int .u64 span, .int .u64 one, .int .i64 m] w fun e w' => e = .returned (.bool x) ∧ w = w' := by
  subst hm
  have := reached_at span one n w hs0 hs1 ho0 ho1 hn
  unfold ReachedPost at this
  rw [hx.out] at this; exact this

/-- What a tick of the reference asks. -/
structure RTick (q : XReq) (now : Int) (N : Nat) : Prop where
  ok : TickOk q now N
  keys : ∀ p ∈ q.live, p.1 < q.tries
  len : q.live.length + q.hosts.length ≤ 900
  ext : q.extra + q.hosts.length ≤ 900
theorem RTick.rok {q : XReq} {now : Int} {N : Nat} (h : RTick q now N) : ROk q := ⟨h.ok.tries0, by have := h.ok.tries1; omega, by have := h.len; omega, h.keys⟩
theorem RTick.rokx {q : XReq} {now : Int} {N : Nat} (h : RTick q now N) (n : Int) : ROk { q with extra := n } := ⟨h.rok.tries0, h.rok.tries1, h.rok.live, h.rok.keys⟩
theorem RTick.step {q : XReq} {now : Int} {N : Nat} (h : RTick q now N) (hs : q.soon now = true) : RTick (XReq.begin { q with extra := q.extra + 1 } 40 (-1)).1 now N := by
  refine ⟨(h.ok.step hs).1, ?_, ?_, ?_⟩
  all_goals
    have hne : q.hosts ≠ [] := by
      intro e
      simp [XReq.soon, e] at hs
    have hf := h.rok.fresh
    cases hh : q.hosts with
    | nil => exact absurd hh hne
    | cons s t =>
      have h1 := h.len
      have h2 := h.ext
      rw [hh] at h1 h2
      simp only [List.length_cons] at h1 h2
      simp only [XReq.begin, XReq.start]
      try rw [aput_none (aget_eq_none.1 hf)]
      first
        | omega
        | (simp only [List.length_append, List.length_cons, List.length_nil]; omega)
        | (intro p hp
           simp only [List.mem_append, List.mem_singleton] at hp
           rcases hp with hp | rfl
           · have := h.keys p hp; omega
           · omega)

theorem Fr.appended {w w1 w2 : World} {B x g : Nat} {q : XReq} {hv lv v v' : Value} {k n : Nat} {xs ys : List Value} (h : Fr w w1 B x g q hv lv) (ha : Appended w1 w2 w.heap.size 84 4 v v' k xs) (ho : w1.ownsRow w.heap.size 84 4 v n ys) : Fr w w2 B x g q hv lv :=
  ⟨h.box.appended ha ho (by decide), h.res.appended ha ho (by decide), ⟨Lo.appended h.ref.1 ha ho h.hB, Sl.appended h.ref.2 ha ho (by decide)⟩, ha.below ho h.kept (Nat.le_refl _), h.hx, h.hg, h.hB, h.ne⟩
theorem soon_no {q : XReq} {now : Int} (hs : q.soon now = false) : q.tickGo q.hosts.length now = (q, []) := by cases q.hosts.length <;> simp [XReq.tickGo, hs]
theorem soon_yes {q : XReq} {now : Int} (hs : q.soon now = true) : q.idem = true ∧ q.extra < q.extraMax ∧ 0 < q.hosts.length ∧ q.frm ≤ now ∧ q.wait * (q.extra + 1) ≤ now - q.frm := by
  simp only [XReq.soon, Bool.and_eq_true, decide_eq_true_eq, Bool.not_eq_true', List.isEmpty_eq_false_iff] at hs
  obtain ⟨⟨⟨⟨h1, h2⟩, h3⟩, h4⟩, h5⟩ := hs
  exact ⟨h1, h2, List.length_pos_iff.2 h3, h4, h5⟩

/-- The loop of a tick: what has been done, and what is still to do. -/
def RTickRel (w : World) (B x g : Nat) (r : XReq) (now : Int) (N k : Nat) (v : Value) (wr : World) : Prop :=
  ∃ (q : XReq) (acc : List XAct) (hv lv : Value), k = q.hosts.length + 1 ∧ acc.length + q.hosts.length ≤ N ∧ RTick q now N ∧ Fr w wr B x g q hv lv ∧ wr.ownsRow w.heap.size 84 4 v acc.length (acc.flatMap actCells) ∧
    r.tickGo r.hosts.length now = ((q.tickGo q.hosts.length now).1, acc ++ (q.tickGo q.hosts.length now).2)

theorem Fr.apart {w w1 : World} {B x g : Nat} {q : XReq} {hv lv : Value} (h : Fr w w1 B x g q hv lv) {e : TypeId} (he : e ≠ 53) : ∀ (k : Nat) (cs : Array Value) (fz : Nat × Nat), k = x → w1.heap[k]? ≠ some (Obj.cells cs e fz) := by
  rintro k cs fz rfl hc
  have := h.box
  unfold Blk at this
  rw [this] at hc
  injection hc with hc
  injection hc with _ h2
  exact he h2.symm
set_option maxHeartbeats 4000000 in
set_option maxRecDepth 100000 in
theorem rTick_loop {r : XReq} {B : Nat} {hv lv : Value} (now : Int) (N : Nat) {w : World} (h : RefAt w B r hv lv) (hB : B ≤ w.heap.size) (hd : r.done = false) (ht : now < r.till) (hT : RTick r now N) (hnow : 0 ≤ now) :
    Calls Try.prog 41 #[rVal r hv lv, .int .u64 now] w (RefPost w B (r.tickGo r.hosts.length now)) := by
  obtain ⟨A1, c1, rfl, -, -⟩ := h.1.shape
  obtain ⟨A2, c2, rfl, -, -⟩ := h.2.shape
  have F := Fr.start h hB
  have START := Lib.hid (show RTickRel w B w.heap.size (w.heap.size + 1) r now N (r.hosts.length + 1) (.slice none 0 0) _ from ⟨r, [], _, _, rfl, by simpa using hT.ok.small, hT, F, World.ownsRow_nil _ _ _ _, rfl⟩)
  have hdn : (r.done = true) = False := by rw [hd]; simp
  have e : rCells r (.slice A1 r.hosts.length c1) (.slice A2 r.live.length c2) = rCells r (.slice A1 r.hosts.length c1) (.slice A2 r.live.length c2) := rfl
  clear e
  obtain ⟨a0, a1, a2, a3, a4, a5, a6, a7, a8, a9, a10, a11, a12, a13⟩ := cells14 F.box
  obtain ⟨b0, b1, b2, b3, b4, b5, b6, b7, b8, b9, b10, b11, b12, b13⟩ := cells14 F.res
  have fx := F.box.frozen
  have fr := F.res.frozen
  have lx := F.box.lt
  have lr := F.res.lt
  rw [hd] at a13
  clear hd hdn h
  generalize hnk : r.hosts.length + 1 = K at START
  clear hnk
  go_enter Try.func41, Try.ntmps41
  go_wp2
  go_loopg [6] K (fun k v wr => RTickRel w B w.heap.size (w.heap.size + 1) r now N k v wr)
  case atStart => exact START.out
  case round =>
    obtain ⟨q, acc, hv, lv, rfl, hN, hTq, F, hown, he⟩ := hrel
    clear START
    obtain ⟨A3, c3, rfl, -, -⟩ := F.ref.1.shape
    obtain ⟨A4, c4, rfl, -, -⟩ := F.ref.2.shape
    clear a0 a1 a2 a3 a4 a5 a6 a7 a8 a9 a10 a11 a12 a13 b0 b1 b2 b3 b4 b5 b6 b7 b8 b9 b10 b11 b12 b13 fx fr lx lr
    have hn0 := hTq.ok.now1
    have hf0 := hTq.ok.frm0
    have hx0 := hTq.ok.extra0
    have hx1 : q.extra < 4611686018427387904 := by have := hTq.ext; omega
    have hxe : q.extra + 1 ≤ 1000 := by have := hTq.ext; omega
    have hw0 := hTq.ok.wait0
    have hw1 := hTq.ok.wait1
    cases hs : q.soon now with
    | false =>
      have E2 := Lib.hid (show r.tickGo r.hosts.length now = (q, acc) by rw [he, soon_no hs]; simp)
      have HS := Lib.hid hs
      clear he hs hTq
      obtain ⟨r1, r2, r3, r4, hosts, idem, frm, till, live, tries, again, extra, prepared, done⟩ := q
      dsimp only at hf0 hx0 hx1 hxe hw0 hw1
      cases idem with
      | false =>
        obtain ⟨a0, a1, a2, a3, a4, a5, a6, a7, a8, a9, a10, a11, a12, a13⟩ := cells14 F.box
        obtain ⟨b0, b1, b2, b3, b4, b5, b6, b7, b8, b9, b10, b11, b12, b13⟩ := cells14 F.res
        have fx := F.box.frozen
        have fr := F.res.frozen
        have lx := F.box.lt
        have lr := F.res.lt
        dsimp only at a0 a1 a2 a3 a4 a5 a6 a7 a8 a9 a10 a11 a12 a13
        go_wp2
        rw [E2.out]
        exact F.tail (t := 4) (s := 5) F.ref (Sl.of_own hown) rfl rfl rfl rfl
      | true =>
        cases hosts with
        | nil =>
          obtain ⟨a0, a1, a2, a3, a4, a5, a6, a7, a8, a9, a10, a11, a12, a13⟩ := cells14 F.box
          obtain ⟨b0, b1, b2, b3, b4, b5, b6, b7, b8, b9, b10, b11, b12, b13⟩ := cells14 F.res
          have fx := F.box.frozen
          have fr := F.res.frozen
          have lx := F.box.lt
          have lr := F.res.lt
          dsimp only [List.length_nil] at a0 a1 a2 a3 a4 a5 a6 a7 a8 a9 a10 a11 a12 a13
          by_cases g2 : extra < r2
          all_goals
            go_wp2
            rw [E2.out]
            exact F.tail (t := 4) (s := 5) F.ref (Sl.of_own hown) rfl rfl rfl rfl
        | cons s t =>
          have g3 : 0 < (s :: t).length := by simp
          obtain ⟨a0, a1, a2, a3, a4, a5, a6, a7, a8, a9, a10, a11, a12, a13⟩ := cells14 F.box
          obtain ⟨b0, b1, b2, b3, b4, b5, b6, b7, b8, b9, b10, b11, b12, b13⟩ := cells14 F.res
          have fx := F.box.frozen
          have fr := F.res.frozen
          have lx := F.box.lt
          have lr := F.res.lt
          dsimp only at a0 a1 a2 a3 a4 a5 a6 a7 a8 a9 a10 a11 a12 a13
          generalize hnn : (s :: t).length = nn at *
          have HNN := Lib.hid hnn
          clear hnn
          by_cases g2 : extra < r2
          · by_cases g4 : frm ≤ now
            · have HX : Hid (decide (r3 * ((extra + 1).toNat : Int) ≤ now - frm) = false) := by
                have h := HS.out
                simp only [XReq.soon, decide_eq_true g2, decide_eq_true g4, Bool.true_and, Bool.not_false, Bool.and_true, List.isEmpty_cons] at h
                rw [Int.toNat_of_nonneg (by omega)]
                exact h
              go_wp2_with (go_at_call 55; refine (reached_is _ _ _ (extra + 1).toNat _ (by omega) (by omega) hw0 hw1 (by omega) (by omega) HX).mono ?_; rintro e w' ⟨rfl, rfl⟩)
              rw [E2.out]
              exact F.tail (t := 4) (s := 5) F.ref (Sl.of_own hown) rfl rfl rfl rfl
            · go_wp2
              rw [E2.out]
              exact F.tail (t := 4) (s := 5) F.ref (Sl.of_own hown) rfl rfl rfl rfl
          · go_wp2
            rw [E2.out]
            exact F.tail (t := 4) (s := 5) F.ref (Sl.of_own hown) rfl rfl rfl rfl
    | true =>
      obtain ⟨g1, g2, g3, g4, g5⟩ := soon_yes hs
      have hT3 := hTq.step hs
      have hl3 := (hTq.ok.step hs).2.1
      have hl4 := (hTq.ok.step hs).2.2
      have hF := fun w hv lv (hr : RefAt w B { q with extra := q.extra + 1 } hv lv) (hB : B ≤ w.heap.size) => rbegin_at 40 (-1) hr hB (hTq.rokx (q.extra + 1))
      have e3 : q.tickGo q.hosts.length now = ((XReq.tickGo (XReq.begin { q with extra := q.extra + 1 } 40 (-1)).1.hosts.length (XReq.begin { q with extra := q.extra + 1 } 40 (-1)).1 now).1, (XReq.begin { q with extra := q.extra + 1 } 40 (-1)).2 ++ (XReq.tickGo (XReq.begin { q with extra := q.extra + 1 } 40 (-1)).1.hosts.length (XReq.begin { q with extra := q.extra + 1 } 40 (-1)).1 now).2) := by
        rw [show q.hosts.length = (XReq.begin { q with extra := q.extra + 1 } 40 (-1)).1.hosts.length + 1 by omega, XReq.tickGo, if_pos hs]
      rw [e3] at he
      have HX : Hid (decide (q.wait * ((q.extra + 1).toNat : Int) ≤ now - q.frm) = true) := by
        rw [Int.toNat_of_nonneg (by omega)]; exact decide_eq_true g5
      have hbig : acc.length * 40 + 40 ≤ 140737488355328 := by have := hTq.ok.big; omega
      have hlen : q.hosts.length ≤ 1000 := by have := hTq.len; omega
      generalize XReq.begin { q with extra := q.extra + 1 } 40 (-1) = z at *
      clear e3 hs hTq g5
      have HE := Lib.hid he
      have HL3 := Lib.hid hl3
      have HL4 := Lib.hid hl4
      have HT3 := Lib.hid hT3
      have HBIG := Lib.hid hbig
      have HF := Lib.hid hF
      clear he hl3 hl4 hT3 hbig hF
      obtain ⟨r1, r2, r3, r4, hosts, idem, frm, till, live, tries, again, extra, prepared, done⟩ := q
      dsimp only at hf0 hx0 hx1 hxe hw0 hw1 g1 g2 g3 g4 hlen HX hN
      subst g1
      obtain ⟨a0, a1, a2, a3, a4, a5, a6, a7, a8, a9, a10, a11, a12, a13⟩ := cells14 F.box
      obtain ⟨b0, b1, b2, b3, b4, b5, b6, b7, b8, b9, b10, b11, b12, b13⟩ := cells14 F.res
      have fx := F.box.frozen
      have fr := F.res.frozen
      have lx := F.box.lt
      have lr := F.res.lt
      dsimp only at a0 a1 a2 a3 a4 a5 a6 a7 a8 a9 a10 a11 a12 a13
      have HN := Lib.hid hN
      clear hN
      go_wp2_with (go_at_call 55; refine (reached_is _ _ _ (extra + 1).toNat _ (by omega) (by omega) hw0 hw1 (by omega) (by omega) HX).mono ?_; rintro e w' ⟨rfl, rfl⟩)
      have ho2 := own_kept hown ((Kept.refl (fun i => i = w.heap.size) wr).setCell (p := ⟨w.heap.size, 11, none⟩) (fun _ => rfl) (.int .i64 (extra + 1))) (fun g cs e _ => F.apart (by decide) g cs (0, 0) e)
      replace F := F.extra_ (extra + 1)
      refine (HF.out _ _ _ F.ref F.leB).mono ?_
      rintro e w2 ⟨hv2, lv2, av, rfl, hr2, ha2, hk2⟩
      replace ho2 := own_kept ho2 hk2 (fun g cs e _ => e.elim)
      replace F := F.next hk2
      clear hk2 hown
      obtain ⟨A5, c5, rfl, -, -⟩ := hr2.1.shape
      obtain ⟨A6, c6, rfl, -, -⟩ := hr2.2.shape
      clear a0 a1 a2 a3 a4 a5 a6 a7 a8 a9 a10 a11 a12 a13 b0 b1 b2 b3 b4 b5 b6 b7 b8 b9 b10 b11 b12 b13 fx fr lx lr
      obtain ⟨a0, a1, a2, a3, a4, a5, a6, a7, a8, a9, a10, a11, a12, a13⟩ := cells14 F.box
      obtain ⟨b0, b1, b2, b3, b4, b5, b6, b7, b8, b9, b10, b11, b12, b13⟩ := cells14 F.res
      have fx := F.box.frozen
      have fr := F.res.frozen
      have lx := F.box.lt
      have lr := F.res.lt
      dsimp only at a0 a1 a2 a3 a4 a5 a6 a7 a8 a9 a10 a11 a12 a13
      go_upto_region 10 with (fail)
      have HFr := Lib.hid (fun o => (F.stored hr2).next ((Kept.refl noBlock _).alloc o))
      have HOw := Lib.hid (fun o => World.ownsRow.alloc (own_kept ho2 (rStored_kept w2 w.heap.size z.1 (.slice A5 z.1.hosts.length c5) (.slice A6 z.1.live.length c6)) (fun g cs e _ => F.apart (by decide) g cs (0, 0) e)) o)
      have HAc := Lib.hid (fun o => SlK.alloc (RActs.stored ha2 F.box (rStored_kept w2 w.heap.size z.1 (.slice A5 z.1.hosts.length c5) (.slice A6 z.1.live.length c6))) o)
      clear a0 a1 a2 a3 a4 a5 a6 a7 a8 a9 a10 a11 a12 a13 b0 b1 b2 b3 b4 b5 b6 b7 b8 b9 b10 b11 b12 b13 fx fr lx lr
      clear F hr2 ha2 ho2
      rw [← rStored_def w2 w.heap.size z.1]
      go_wp2_with (at_builtin; go_must (refine wpList_append_sl _ asT rfl (.tmp 65) (.tmp 66) rfl w.heap.size _ acc.length (acc.flatMap actCells) rfl (HOw.out _) _ z.2.length (z.2.flatMap actCells) rfl (HAc.out _) (fun u hu => actCells_one hu) ?c1 ?c2 ?_))
      case c1 => rw [HL4.out]; have := HBIG.out; omega
      case c2 => exact Nat.le_trans (HFr.out (.cells #[] 0)).kept.size (by simp)
      intro v' w4 hap
      have HF4 := Lib.hid ((HFr.out _).appended hap (HOw.out _))
      have HO4 := Lib.hid hap.own
      clear hap
      go_wp2
      go_roundg (z.1.hosts.length + 1)
      case measure => have := HL3.out; omega
      case rel =>
        refine ⟨z.1, acc ++ z.2, _, _, rfl, ?_, HT3.out, HF4.out, ?_, ?_⟩
        · have := HL3.out; have := HL4.out; have := HN.out; simp only [List.length_append]; omega
        · have := HO4.out; rw [List.length_append, List.flatMap_append]; exact this
        · rw [HE.out]; simp only [List.append_assoc]

set_option maxHeartbeats 4000000 in
set_option maxRecDepth 100000 in
theorem rTick_done {r : XReq} {B : Nat} {hv lv : Value} (now : Int) {w : World} (h : RefAt w B r hv lv) (hB : B ≤ w.heap.size) (hd : r.done = true) :
    Calls Try.prog 41 #[rVal r hv lv, .int .u64 now] w (RefPost w B (r, [])) := by
  obtain ⟨A1, c1, rfl, -, -⟩ := h.1.shape
  obtain ⟨A2, c2, rfl, -, -⟩ := h.2.shape
  obtain ⟨r1, r2, r3, r4, hosts, idem, frm, till, live, tries, again, extra, prepared, done⟩ := r
  dsimp only at hd
  subst hd
  have H := Lib.hid h
  clear h
  go_enter Try.func41, Try.ntmps41
  go_wp2
  refine bodyPost_ret (v := .tuple #[rVal ⟨r1, r2, r3, r4, hosts, idem, frm, till, live, tries, again, extra, prepared, true⟩ (.slice A1 hosts.length c1) (.slice A2 live.length c2), .slice none 0 0]) (by simp [results, Try.results41, go_sem]) rfl ?_
  exact ⟨_, _, _, rfl, ⟨(H.out.1.alloc _).alloc _, (H.out.2.alloc _).alloc _⟩, Sl.nil _ _ _, ((Kept.refl _ _).alloc _).alloc _⟩

set_option maxHeartbeats 4000000 in
set_option maxRecDepth 100000 in
theorem rTick_late {r : XReq} {B : Nat} {hv lv : Value} (now : Int) {w : World} (h : RefAt w B r hv lv) (hB : B ≤ w.heap.size) (hd : r.done = false) (ht : r.till ≤ now) :
    Calls Try.prog 41 #[rVal r hv lv, .int .u64 now] w (RefPost w B (r.finish 34 (-1))) := by
  obtain ⟨A1, c1, rfl, -, -⟩ := h.1.shape
  obtain ⟨A2, c2, rfl, -, -⟩ := h.2.shape
  obtain ⟨r1, r2, r3, r4, hosts, idem, frm, till, live, tries, again, extra, prepared, done⟩ := r
  dsimp only at hd ht
  subst hd
  have F := Fr.start h hB
  have hF := fun w (hr : RefAt w B ⟨r1, r2, r3, r4, hosts, idem, frm, till, live, tries, again, extra, prepared, false⟩ (.slice A1 hosts.length c1) (.slice A2 live.length c2)) => rfinish_at 34 (-1) hr
  generalize XReq.finish ⟨r1, r2, r3, r4, hosts, idem, frm, till, live, tries, again, extra, prepared, false⟩ 34 (-1) = z at *
  have HF := Lib.hid hF
  clear hF
  obtain ⟨a0, a1, a2, a3, a4, a5, a6, a7, a8, a9, a10, a11, a12, a13⟩ := cells14 F.box
  obtain ⟨b0, b1, b2, b3, b4, b5, b6, b7, b8, b9, b10, b11, b12, b13⟩ := cells14 F.res
  have fx := F.box.frozen
  have fr := F.res.frozen
  have lx := F.box.lt
  have lr := F.res.lt
  dsimp only at a0 a1 a2 a3 a4 a5 a6 a7 a8 a9 a10 a11 a12 a13
  go_enter Try.func41, Try.ntmps41
  go_wp2_with fail
  refine (HF.out _ F.ref).mono ?_
  rintro e w4 ⟨hv4, lv4, av, rfl, hr4, ha4, hk4⟩
  replace F := F.next hk4
  clear hk4
  obtain ⟨A9, c9, rfl, -, -⟩ := hr4.1.shape
  obtain ⟨A10, c10, rfl, -, -⟩ := hr4.2.shape
  clear a0 a1 a2 a3 a4 a5 a6 a7 a8 a9 a10 a11 a12 a13 b0 b1 b2 b3 b4 b5 b6 b7 b8 b9 b10 b11 b12 b13 fx fr lx lr
  obtain ⟨a0, a1, a2, a3, a4, a5, a6, a7, a8, a9, a10, a11, a12, a13⟩ := cells14 F.box
  obtain ⟨b0, b1, b2, b3, b4, b5, b6, b7, b8, b9, b10, b11, b12, b13⟩ := cells14 F.res
  have fx := F.box.frozen
  have fr := F.res.frozen
  have lx := F.box.lt
  have lr := F.res.lt
  go_wp2_with fail
  exact F.tail (t := 4) (s := 5) hr4 ha4 rfl rfl rfl rfl

theorem rTick_op {r : XReq} {B : Nat} {hv lv : Value} (now : Int) (N : Nat) {w : World} (h : RefAt w B r hv lv) (hB : B ≤ w.heap.size) (hT : r.done = false → RTick r now N) (hnow : 0 ≤ now) :
    Calls Try.prog 41 #[rVal r hv lv, .int .u64 now] w (RefPost w B (r.tick now)) := by
  unfold XReq.tick
  cases hd : r.done with
  | true => exact rTick_done now h hB hd
  | false =>
    by_cases ht : r.till ≤ now
    · simp only [ht, if_true]; exact rTick_late now h hB hd ht
    · simp only [ht, if_false]; exact rTick_loop now N h hB hd (by omega) (hT hd) hnow
end Go.Proofs.Ytooedjedncokpaa

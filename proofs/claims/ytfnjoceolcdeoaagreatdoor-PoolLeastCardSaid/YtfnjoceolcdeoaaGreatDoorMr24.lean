/- A pool's Send, while none of its connections is open · The law's pool that opens two, and loses one · A pool's connections, one of them as it is now. -/
import Derived.Test.YtfnjoceolcdeoaaGreatDoorMr23
import Derived.Test.YtfnjoceolcdeoaaGreatDoorLoShelf
import Derived.Test.YtfnjoceolcdeoaaGreatDoorMr21
namespace Go.Proofs.YtfnjoceolcdeoaaGreatDoor
set_option linter.unusedVariables false
open Go.RowKit
open Go.ChangeMaps (setBlock)

set_option maxHeartbeats 4000000 in
set_option maxRecDepth 100000 in
theorem poUsable_none {w : World} {p m : Nat} {x : XP} {L : List (Int × CN)} (h : PoolAt w p m x L) (hn : ∀ q ∈ L, q.2.x.state ≠ 6) :
    Calls Tryz.prog 28 #[.pointer (some ⟨p, 0, none⟩)] w fun e w' => e = .returned (.slice none 0 0) ∧ Kept noBlock w w' := by
  have c13 : w.cell? ⟨p, 13, none⟩ = some (.map (some m)) := h.blk.cell 13
  obtain ⟨es, ck, hh, hst, hL⟩ := id h.map
  have hlt := lt_of_heap hh
  have hrg := run_range_map (P := Tryz.prog) w 76 3 71 m es ck imcM hh
  have H := Lib.hid h
  have HL := Lib.hid hL
  have HST := Lib.hid hst
  clear hL hst h
  go_enter Tryz.func28, Tryz.ntmps28
  go_wp2
  generalize hR : w.heap.size = R at *
  go_loopw [3] (fun v3 wr => v3 = .slice none 0 0 ∧ Kept noBlock w wr ∧ ∃ seen c0, wr.heap[R]? = some (.mapIter (some m) ck seen c0) ∧ ck ≤ c0) (fun _ wr => (leftOf es (wr.iterSeen R)).size)
  case atStart => exact ⟨rfl, (Kept.refl _ _).alloc _, #[], ck, by subst hR; exact heap_alloc_new w _, Nat.le_refl _⟩
  case round =>
    obtain ⟨rfl, hk, seen, c0, hr, hc0⟩ := hrel
    have hb1 : wr.heap[m]? = some (.map es ck) := (hk.block m (by rw [hR]; exact hlt) (fun h => h)).trans hh
    have law := run_next_at (P := Tryz.prog) wr 0 R m ck c0 seen es ck hr hb1 HST.out.1 hc0
    have HK := Lib.hid hk
    rcases law with ⟨h0, hrun⟩ | ⟨e, he, w1, hw1, hrun⟩
    · have hnx : ∀ ty, (Instr.next (.pointer (some ⟨R, 0, none⟩)) false ty).run Tryz.prog wr = _ := fun _ => hrun
      clear hk hr hb1 hrg c13
      go_wp2_with fail
      go_at_call 49
      refine Calls.mono (AnyF.slices_SortFunc_none { Tryz.lsort with } none 0 _ wr) ?_
      rintro e w' ⟨rfl, rfl⟩
      go_wp2
      go_ret
      exact ⟨rfl, HK.out⟩
    · have hem := mem_left he
      obtain ⟨q, hq, hkv, hv⟩ : ∃ q ∈ L, e.key = Value.int .i64 q.1 ∧ e.val = cnV q.2 := by
        have : (e.key, e.val) ∈ L.map (fun q => (Value.int .i64 q.1, cnV q.2)) := HL.out ▸ List.mem_map.2 ⟨e, hem.1, rfl⟩
        obtain ⟨q, hq, e2⟩ := List.mem_map.1 this
        exact ⟨q, hq, (Prod.mk.inj e2).1.symm, (Prod.mk.inj e2).2.symm⟩
      unfold cnV at hv
      rw [hv, hkv] at hrun
      have hnx : ∀ ty, (Instr.next (.pointer (some ⟨R, 0, none⟩)) false ty).run Tryz.prog wr = _ := fun _ => hrun
      have hk1 : Kept noBlock w w1 := by
        rcases hw1 with rfl | rfl
        · exact hk
        · exact hk.drew
      have hr1 : w1.heap[R]? = some (.mapIter (some m) ck seen c0) := by rcases hw1 with rfl | rfl <;> exact hr
      have hk2 : Kept noBlock w (setBlock w1 R (.mapIter (some m) ck (seen.push e.born) ck)) := hk1.setBlock (fun h => absurd h (by rw [hR]; exact Nat.lt_irrefl _)) _
      have hr2 : (setBlock w1 R (.mapIter (some m) ck (seen.push e.born) ck)).heap[R]? = some (.mapIter (some m) ck (seen.push e.born) ck) := heap_setBlock_selfP (lt_of_heap hr1) _
      have hb2 := (hk2.block m (by rw [hR]; exact hlt) (fun h => h)).trans hh
      have hen := run_entry_at (P := Tryz.prog) (setBlock w1 R (.mapIter (some m) ck (seen.push e.born) ck)) R m ck seen es ck e hr2 hb2 hem.1 HST.out.2.1
      rw [hv, hkv] at hen
      have HK2 := Lib.hid hk2
      have HR2 := Lib.hid hr2
      have HR := Lib.hid hr
      clear hk hk1 hk2 hr1 hr2 hb2 hb1 hr hrg c13
      generalize setBlock w1 R (.mapIter (some m) ck (seen.push e.born) ck) = w2 at *
      have HS := Lib.hid (cnState_at ((H.out.keptN HK2.out).con q hq))
      have h6 : (q.2.x.state == 6) = false := by rw [beq_eq_false_iff_ne]; exact hn q hq
      have h6n : (q.2.x.state != 6) = true := by simp [bne, h6]
      generalize q.2.x.state = s6 at *
      generalize q.2.x.drain = d6 at *
      go_wp2_with fail
      go_at_call 30
      refine HS.out.mono ?_
      rintro e3 w5 ⟨rfl, hk5⟩
      have HK5 := Lib.hid hk5
      clear hk5
      go_wp2_with fail
      go_roundw
      case rel =>
        have hR5 : w5.heap[R]? = some (.mapIter (some m) ck (seen.push e.born) ck) := (HK5.out.block R (lt_of_heap HR2.out) (fun e => e)).trans HR2.out
        exact ⟨rfl, HK2.out.trans HK5.out fun _ _ e => e, seen.push e.born, ck, hR5, Nat.le_refl _⟩
      case measure =>
        have hR5 : w5.heap[R]? = some (.mapIter (some m) ck (seen.push e.born) ck) := (HK5.out.block R (lt_of_heap HR2.out) (fun e => e)).trans HR2.out
        rw [iterSeen_eqP hR5, iterSeen_eqP HR.out]
        exact left_shrinks es seen e he

set_option maxHeartbeats 4000000 in
set_option maxRecDepth 100000 in
theorem poSend_none {w : World} {p m : Nat} {x : XP} {L : List (Int × CN)} (h : PoolAt w p m x L) (hn : ∀ q ∈ L, q.2.x.state ≠ 6) (op : Int) (b : Value) (now until_ : Int) :
    Calls Tryz.prog 15 #[.pointer (some ⟨p, 0, none⟩), .int .u8 op, b, .int .u64 now, .int .u64 until_] w fun e w' => e = .returned (.tuple #[.int .i64 0, .int .i64 0, .slice none 0 0, .int .i64 40]) ∧ Kept noBlock w w' := by
  have HU := Lib.hid (poUsable_none h hn)
  clear h
  go_enter Tryz.func15, Tryz.ntmps15
  go_wp2_with fail
  go_at_call 28
  refine HU.out.mono ?_
  rintro e w1 ⟨rfl, hk1⟩
  have HK1 := Lib.hid hk1
  clear hk1
  go_wp2_with fail
  (try simp only [Exit.inBlock, Exit.then])
  refine bodyPost_ret (v := .tuple #[.int .i64 0, .int .i64 0, .slice none 0 0, .int .i64 40]) (by simp [results, Tryz.results15, go_sem]) rfl ?_
  exact ⟨rfl, HK1.out⟩
end Go.Proofs.YtfnjoceolcdeoaaGreatDoor
namespace Go.Proofs.YtfnjoceolcdeoaaGreatDoor
set_option linter.unusedVariables false
open Go.RowKit

/-- That pool's config. -/
def xa : XP := XP.fresh 2 3 10 100 0 2 noStr 50 50 9 1
theorem two_of {α : Type} {l : List α} (h : l.length = 2) : ∃ a b, l = [a, b] := by
  cases l with
  | nil => simp at h
  | cons a t => cases t with
    | nil => simp at h
    | cons b t => cases t with
      | nil => exact ⟨a, b, rfl⟩
      | cons _ _ => simp at h
theorem one_of {α : Type} {l : List α} (h : l.length = 1) : ∃ a, l = [a] := by
  cases l with
  | nil => simp at h
  | cons a t => cases t with
    | nil => exact ⟨a, rfl⟩
    | cons _ _ => simp at h
set_option maxHeartbeats 8000000 in
set_option maxRecDepth 100000 in
theorem aw22_at {w : World} (hm : MaxL w) (hT : Tab w) : Calls Tryz.prog 8 #[] w fun e w' => e = .returned (.bool true) ∧ Kept noBlock w w' := by
  have HNP := Lib.hid (poNew_at (w := w) 2 3 (by decide) (by decide) (by decide) 10 100 0 2 (by decide) (by decide) noStr (show noStr.size ≤ 300000 by decide) 50 50 9 (by decide) 1 (by decide) hm hT)
  unfold poCfgC at HNP
  clear hm hT
  go_enter Tryz.func8, Tryz.ntmps8
  go_wp2_with fail
  go_at_call 9
  refine HNP.out.mono ?_
  rintro e w1 ⟨p, m, rfl, hp1, hk1, hpp, hmm⟩
  have HPP := Lib.hid (⟨hpp, hmm⟩ : w.heap.size ≤ p ∧ w.heap.size ≤ m)
  have HK1 := Lib.hid hk1
  have hpl : p < w1.heap.size := hp1.blk.lt
  have hml : m < w1.heap.size := hp1.map.lt
  -- a
  have HTA := Lib.hid (poTick_at hp1 0 0 (by decide) (fun q hq => absurd hq List.not_mem_nil) rfl (show (1 : Int) ≤ 2 by decide) (show (2 : Int) ≤ 32768 by decide) (show noStr.size ≤ 300000 by decide) (show 50 < 18446744073709551616 by decide) (show (1 : Int) ≤ 1 by decide) (show (0 : Int) ≤ 0 by decide) (show (0 : Int) ≤ 100000 by decide) (show (0 : Int) ≤ 2 by decide) (show (2 : Int) ≤ 1000 by decide) (show 0 ≤ 1000 by decide) 2 (by decide))
  clear hp1 hk1 hpp hmm
  go_wp2_with fail
  go_at_call 10
  refine HTA.out.mono ?_
  rintro e w2 ⟨A2, c2, N, E, rfl, hN, hok, hp2, hs2, hk2⟩
  obtain ⟨ra, rb, rfl⟩ := two_of hN
  obtain ⟨la, lb, rfl⟩ := two_of (hok.1.trans hN)
  have xa' := (hok.2.1 0 ra rfl)
  have xb' := (hok.2.1 1 rb rfl)
  obtain ⟨ia, qa⟩ := ra
  obtain ⟨ib, qb⟩ := rb
  have hia : ia = 0 := xa'.1
  have hib : ib = 1 := xb'.1
  have hqa : qa.x = xa.begun 0 := xa'.2
  have hqb : qb.x = xa.begun 0 := xb'.2
  subst hia hib
  obtain ⟨Aw, cw, hlb⟩ := hok.2.2 1 lb rfl
  obtain ⟨Av, cv, hla⟩ := hok.2.2 0 la rfl
  have hlb : lb = evC 1 1 (.slice Aw 9 cw) 0 (.slice none 0 0) := hlb
  have hla : la = evC 0 1 (.slice Av 9 cv) 0 (.slice none 0 0) := hla
  subst hla hlb
  rw [List.nil_append] at hp2
  have HQA := Lib.hid hqa
  have HQB := Lib.hid hqb
  have HS2 := Lib.hid hs2
  have HP2 := Lib.hid hp2
  have HK2 := Lib.hid hk2
  have hlenA := hs2.run_len evT
  have HSE := Lib.hid (poSend_none hp2 (fun q hq => by
    rcases List.mem_cons.1 hq with rfl | hq
    · show qa.x.state ≠ 6; rw [hqa]; show (1 : Int) ≠ 6; decide
    · obtain rfl := List.mem_singleton.1 hq
      show qb.x.state ≠ 6; rw [hqb]; show (1 : Int) ≠ 6; decide) 7 (.slice none 0 0) 0 9)
  clear hN hok hp2 hs2 hk2 xa' xb' hqa hqb HTA HNP
  go_wp2_with fail
  go_at_call 15
  refine HSE.out.mono ?_
  rintro e w3 ⟨rfl, hk3⟩
  have hp3 := HP2.out.keptN hk3
  have hB : aget (1 : Int) [((0 : Int), qa), ((1 : Int), qb)] = some qb := by simp [aget]
  have hdel : adel (1 : Int) [((0 : Int), qa), ((1 : Int), qb)] = [((0 : Int), qa)] := by simp [adel]
  have hBR := poBreak_at hp3 hB (by rw [HQB.out]; show (1 : Int) ≠ 7; decide) (by rw [HQB.out]; rfl) 5 0 (show 10 < 18446744073709551616 by decide) (show 100 ≤ 72057594037927936 by decide) (show 0 < 18446744073709551616 by decide) (show 0 < 18446744073709551616 by decide) (show 0 < 18446744073709551616 by decide) (by decide) (by decide)
  rw [hdel] at hBR
  have HBR := Lib.hid hBR
  have HS3 := Lib.hid (HS2.out.keptNone hk3)
  have hqa3 := hp3.hiLt (List.mem_cons_self ..)
  have HQ3 : Hid (qa.hi ≤ w3.heap.size) := Lib.hid hqa3
  have HK3 := Lib.hid hk3
  have HZ3 := Lib.hid (Nat.le_trans HK2.out.size hk3.size)
  clear hp3 hB hdel hBR hk3 hqa3 HSE
  go_wp2_with fail
  go_at_call 11
  refine HBR.out.mono ?_
  rintro e w4 ⟨A4, c4, rfl, hp4, hs4, hk4⟩
  have hlenB := hs4.run_len evT
  have HS4 := Lib.hid (evs_kept HS3.out hk4 hpl hml (fun q hq => .inl hq))
  have HB4 : Hid (SlK w4 (fun g _ => w3.heap.size ≤ g ∧ ∀ r ∈ ([] : List (Int × CN)), ¬ (r.2.lo ≤ g ∧ g < r.2.hi)) 21 (.slice A4 1 c4) 1 (evC 1 6 (.slice none 0 0) 33 (.slice none 0 0))) := Lib.hid (hs4.any fun g _ _ e => ⟨e, fun _ hr => absurd hr List.not_mem_nil⟩)
  have HP4 : Hid (PoolAt w4 p m (XP.broke { xa with opened := 2 } 5 0) [((0 : Int), qa)]) := Lib.hid hp4
  have hx4n : (XP.broke { xa with opened := 2 } 5 0).next = 15 := by decide
  have hx4f : (XP.broke { xa with opened := 2 } 5 0).failed = 1 := by decide
  have hNX := poNext_at HP4.out
  rw [hx4n, hx4f, show ((15 : Nat) : Int) = 15 from rfl, show ((1 : Nat) : Int) = 1 from rfl] at hNX
  have HNX := Lib.hid hNX
  have HK4 := Lib.hid hk4
  have HX4 := Lib.hid hx4n
  clear hp4 hs4 hk4 hx4n hx4f hNX HBR
  go_wp2_with fail
  go_at_call 13
  refine HNX.out.mono ?_
  rintro e w5 ⟨rfl, hk5⟩
  have hidl : ∀ (t : Nat), t < 50 → ∀ q ∈ [((0 : Int), qa)], idleAt t q.2.x := fun t ht q hq => by
    obtain rfl := List.mem_singleton.1 hq
    show idleAt t qa.x
    rw [HQA.out]
    exact idleAt_of ⟨show (1 : Int) ≠ 6 by decide, show (1 : Int) ≠ 7 by decide, rfl, rfl, show (t : Int) < ((laterN 0 50 : Nat) : Int) by rw [show laterN 0 50 = 50 by decide]; omega⟩
  have HTC := Lib.hid (poTick_at (HP4.out.keptN hk5) 14 0 (by decide) (hidl 14 (by decide)) rfl (show (1 : Int) ≤ 2 by decide) (show (2 : Int) ≤ 32768 by decide) (show noStr.size ≤ 300000 by decide) (show 50 < 18446744073709551616 by decide) (show (1 : Int) ≤ 1 by decide) (show (0 : Int) ≤ 2 by decide) (show (2 : Int) ≤ 100000 by decide) (show (0 : Int) ≤ 2 by decide) (show (2 : Int) ≤ 1000 by decide) (show 1 ≤ 1000 by decide) 0 (by rw [HX4.out]; rfl))
  have HS5 := Lib.hid (HS4.out.keptNone hk5)
  have HB5 := Lib.hid (HB4.out.keptNone hk5)
  have HK5 := Lib.hid hk5
  clear hk5 HNX
  go_wp2_with fail
  go_at_call 10
  refine HTC.out.mono ?_
  rintro e w6 ⟨A6, c6, N6, E6, rfl, hN6, -, hp6, hs6, hk6⟩
  obtain rfl := List.eq_nil_of_length_eq_zero hN6
  have hlenC := hs6.run_len evT
  have HP6 := Lib.hid (pool_zero hp6)
  have HS6 := Lib.hid (evs_kept HS5.out hk6 hpl hml (fun q hq => .inl (List.mem_cons.2 (.inl (List.mem_singleton.1 hq)))))
  have HB6 := Lib.hid (evs_kept HB5.out hk6 (by have := HZ3.out; omega) (by have := HZ3.out; omega) (fun q hq => .inr (by obtain rfl := List.mem_singleton.1 hq; exact HQ3.out)))
  have HTD := Lib.hid (poTick_at HP6.out 15 0 (by decide) (hidl 15 (by decide)) rfl (show (1 : Int) ≤ 2 by decide) (show (2 : Int) ≤ 32768 by decide) (show noStr.size ≤ 300000 by decide) (show 50 < 18446744073709551616 by decide) (show (1 : Int) ≤ 1 by decide) (show (0 : Int) ≤ 2 by decide) (show (2 : Int) ≤ 100000 by decide) (show (0 : Int) ≤ 2 by decide) (show (2 : Int) ≤ 1000 by decide) (show 1 ≤ 1000 by decide) 1 (by rw [HX4.out]; rfl))
  have HK6 := Lib.hid hk6
  have HZ6 := Lib.hid (Nat.le_trans HZ3.out (Nat.le_trans HK4.out.size (Nat.le_trans HK5.out.size hk6.size)))
  clear hp6 hs6 hk6 hN6 HTC
  go_wp2_with fail
  go_at_call 10
  refine HTD.out.mono ?_
  rintro e w7 ⟨A7, c7, N7, E7, rfl, hN7, hok7, hp7, hs7, hk7⟩
  obtain ⟨rd, rfl⟩ := one_of hN7
  obtain ⟨ld, rfl⟩ := one_of (hok7.1.trans hN7)
  have xd := hok7.2.1 0 rd rfl
  obtain ⟨Ax, cx, hld⟩ := hok7.2.2 0 ld rfl
  obtain ⟨idd, qd⟩ := rd
  have hidd : idd = 2 := xd.1
  have hqd : qd.x = xa.begun 15 := xd.2
  subst hidd
  have hld : ld = evC 2 1 (.slice Ax 9 cx) 0 (.slice none 0 0) := hld
  subst hld
  have hlenD := hs7.run_len evT
  have HS7 := Lib.hid (evs_kept HS6.out hk7 hpl hml (fun q hq => .inl (List.mem_cons.2 (.inl (List.mem_singleton.1 hq)))))
  have HB7 := Lib.hid (evs_kept HB6.out hk7 (by have := HZ3.out; omega) (by have := HZ3.out; omega) (fun q hq => .inr (by obtain rfl := List.mem_singleton.1 hq; exact HQ3.out)))
  have HP7 := Lib.hid hp7
  have HD7 := Lib.hid hs7
  have HK7 := Lib.hid hk7
  have HLV := Lib.hid (poLive_none hp7 (fun q hq => by
    rcases List.mem_append.1 hq with hq | hq
    · obtain rfl := List.mem_singleton.1 hq
      show qa.x.state ≠ 6; rw [HQA.out]; show (1 : Int) ≠ 6; decide
    · obtain rfl := List.mem_singleton.1 hq
      show qd.x.state ≠ 6; rw [hqd]; show (1 : Int) ≠ 6; decide))
  clear hp7 hs7 hk7 hN7 hok7 xd hqd hidl HTD
  go_wp2_with fail
  go_at_call 16
  refine HLV.out.mono ?_
  rintro e w8 ⟨A8, n8, c8, rfl, hn8, hs8, hk8⟩
  have hn82 : n8 = 2 := hn8
  clear hn8
  subst hn82
  have hlenL := hs8.run_len intsTP
  obtain ⟨ga, oa, hia', a0, a1, -⟩ := ev_at (i := 1) (HS7.out.keptNone hk8) rfl (fun l hl => by simp only [List.mem_cons, List.not_mem_nil, or_false] at hl; rcases hl with rfl | rfl <;> rfl) rfl
  have hidxA : ∀ kd w', (Instr.indexAt 36 (.slice A2 2 c2) (.int kd 1)).run Tryz.prog w' = .ok (.pointer (some ⟨ga, oa, none⟩)) w' := hia'
  have hfl : evC 1 6 (.slice none 0 0) 33 (.slice none 0 0) = ([evC 1 6 (.slice none 0 0) 33 (.slice none 0 0)] : List (List Value)).flatten := by simp
  have hb8 := HB7.out.keptNone hk8
  rw [hfl] at hb8
  obtain ⟨gb, ob, hib', -, b1, -⟩ := ev_at (i := 0) hb8 rfl (fun l hl => by obtain rfl := List.mem_singleton.1 hl; rfl) rfl
  have hidxB : ∀ kd w', (Instr.indexAt 36 (.slice A4 1 c4) (.int kd 0)).run Tryz.prog w' = .ok (.pointer (some ⟨gb, ob, none⟩)) w' := hib'
  obtain ⟨gd, od, hid', d0, -, -⟩ := ev_at (i := 0) (HD7.out.keptNone hk8) rfl (fun l hl => by obtain rfl := List.mem_singleton.1 hl; rfl) rfl
  have hidxD : ∀ kd w', (Instr.indexAt 36 (.slice A7 1 c7) (.int kd 0)).run Tryz.prog w' = .ok (.pointer (some ⟨gd, od, none⟩)) w' := hid'
  have hp8 := HP7.out.keptN hk8
  have hc0 := poConn_at hp8 0
  have hc1 := poConn_at hp8 1
  have e0 : aget (0 : Int) ([((0 : Int), qa)] ++ [((2 : Int), qd)]) = some qa := by simp [aget]
  have e1 : aget (1 : Int) ([((0 : Int), qa)] ++ [((2 : Int), qd)]) = none := by simp [aget]
  rw [e0] at hc0
  rw [e1] at hc1
  simp only [Option.map_some, Option.map_none, Option.getD_some, Option.getD_none] at hc0 hc1
  unfold cnV at hc0
  have HC0 := Lib.hid hc0
  have HC1 := Lib.hid hc1
  have hF : Kept noBlock w w8 := by
    have hlow := HP2.out.low
    have ha := (hlow _ (List.mem_cons_self ..)).1
    have hb := (hlow _ (List.mem_cons.2 (.inr (List.mem_singleton.2 rfl)))).1
    have hppp := HPP.out
    have h12 : Kept noBlock w w2 := HK1.out.trans HK2.out fun k hlt e => by
      rcases e with e | e | ⟨q, hq, _⟩
      · omega
      · omega
      · exact absurd hq List.not_mem_nil
    have h4 : Kept noBlock w w4 := (h12.trans HK3.out fun _ _ e => e).trans HK4.out fun k hlt e => by
      rcases e with e | e | ⟨q, hq, h1, h2⟩
      · omega
      · omega
      · have := (hlow q hq).1; omega
    have h6 : Kept noBlock w w6 := (h4.trans HK5.out fun _ _ e => e).trans HK6.out fun k hlt e => by
      rcases e with e | e | ⟨q, hq, h1, h2⟩
      · omega
      · omega
      · have := (hlow q (List.mem_cons.2 (.inl (List.mem_singleton.1 hq)))).1; omega
    exact (h6.trans HK7.out fun k hlt e => by
      rcases e with e | e | ⟨q, hq, h1, h2⟩
      · omega
      · omega
      · have := (hlow q (List.mem_cons.2 (.inl (List.mem_singleton.1 hq)))).1; omega).trans hk8 fun _ _ e => e
  have HF := Lib.hid hF
  clear hs8 hk8 hia' hib' hid' hfl hb8 hp8 hc0 hc1 e0 e1 hF
  go_wp2_with fail
  go_at_call 19
  refine HC0.out.mono ?_
  rintro e w9 ⟨rfl, hw9⟩
  subst hw9
  clear hidxA hidxB hidxD a0 a1 b1 d0 hlenA hlenB hlenC hlenD hlenL
  go_wp2_with fail
  go_at_call 19
  refine HC1.out.mono ?_
  rintro e w9 ⟨rfl, hw9⟩
  subst hw9
  go_wp2_with fail
  go_ret
  exact ⟨rfl, HF.out⟩
end Go.Proofs.YtfnjoceolcdeoaaGreatDoor
namespace Go.Proofs.YtfnjoceolcdeoaaGreatDoor
set_option linter.unusedVariables false
open Go.RowKit

/-- The connections, one of them as it is now. -/
def updAt (id : Int) (x' : XC) (r : Int × CN) : Int × CN := if r.1 = id then (r.1, { r.2 with x := x' }) else r
theorem updAt_same (id : Int) (x' : XC) (r : Int × CN) : (updAt id x' r).1 = r.1 ∧ (updAt id x' r).2.lo = r.2.lo ∧ (updAt id x' r).2.hi = r.2.hi ∧ (updAt id x' r).2.c = r.2.c := by
  unfold updAt
  split <;> exact ⟨rfl, rfl, rfl, rfl⟩
theorem PoolAt.upd {w w' : World} {p m : Nat} {x : XP} {L : List (Int × CN)} (h : PoolAt w p m x L) {id : Int} {q : CN} (hq : (id, q) ∈ L) {x' : XC} (hk : Kept (fun k => q.lo ≤ k ∧ k < q.hi) w w') (hc : ConnAt w' q.lo q.hi q.c x') : PoolAt w' p m x (L.map (updAt id x')) := by
  have hlow : p < q.lo ∧ m < q.lo := h.low _ hq
  refine ⟨h.blk.kept hk fun e => by omega, ?_, fun r hr => ?_, fun r hr => ?_, ?_, ?_, fun r hr => ?_, ⟨h.few.1, by rw [List.length_map]; exact h.few.2⟩, h.glp, h.glm, h.mxl.kept hk (by have := h.glp.1; omega), h.tab.kept hk (by have := h.glp.2; omega)⟩
  · obtain ⟨es, ck, hh, hst, hL⟩ := h.map.kept hk fun e => by omega
    refine ⟨es, ck, hh, hst, hL.trans ?_⟩
    rw [List.map_map]
    apply List.map_congr_left
    intro r _
    have := updAt_same id x' r
    simp only [Function.comp, cnV, this.1, this.2.2.2]
  · obtain ⟨r0, hr0, rfl⟩ := List.mem_map.1 hr
    by_cases e : r0.1 = id
    · have hu : r0 = (id, q) := by
        rcases pair_or (List.pairwise_map.1 h.asc) hr0 hq with h1 | h1 | h1
        · exact h1
        · exact absurd e (by have : r0.1 < id := h1; omega)
        · exact absurd e (by have : id < r0.1 := h1; omega)
      subst hu
      have : updAt id x' (id, q) = (id, { q with x := x' }) := by unfold updAt; rw [if_pos rfl]
      rw [this]
      exact hc
    · have : updAt id x' r0 = r0 := by unfold updAt; rw [if_neg e]
      rw [this]
      refine (h.con r0 hr0).kept hk fun k ek e2 => ?_
      rcases pair_or h.dis hr0 hq with h1 | h1 | h1
      · rw [h1] at e; exact e rfl
      · have h1 : r0.2.hi ≤ q.lo := h1; omega
      · have h1 : q.hi ≤ r0.2.lo := h1; omega
  · obtain ⟨r0, hr0, rfl⟩ := List.mem_map.1 hr
    rw [(updAt_same id x' r0).2.1]
    exact h.low r0 hr0
  · rw [List.pairwise_map]
    exact h.dis.imp fun hab => by rw [(updAt_same id x' _).2.2.1, (updAt_same id x' _).2.1]; exact hab
  · rw [List.map_map]
    have : (L.map ((fun r => r.1) ∘ updAt id x')) = L.map (·.1) := List.map_congr_left fun r _ => (updAt_same id x' r).1
    rw [this]
    exact h.asc
  · obtain ⟨r0, hr0, rfl⟩ := List.mem_map.1 hr
    rw [(updAt_same id x' r0).1]
    exact h.rng r0 hr0
theorem PoolAt.setp {w w' : World} {p m : Nat} {x x' : XP} {L : List (Int × CN)} (h : PoolAt w p m x L) (hk : Kept (fun k => k = p) w w') (hb : Blk w' p 78 (x'.C m)) (ho : x'.opened = x.opened) : PoolAt w' p m x' L := by
  have hpm := h.ne
  refine ⟨hb, h.map.kept hk fun e => hpm e.symm, fun q hq => (h.con q hq).kept hk fun k e e2 => ?_, h.low, h.dis, h.asc, fun q hq => by rw [ho]; exact h.rng q hq, ⟨by rw [ho]; exact h.few.1, h.few.2⟩, h.glp, h.glm, h.mxl.kept hk ?_, h.tab.kept hk ?_⟩
  · have := h.low q hq
    have e : k = p := e
    omega
  · have h1 := h.glp.1
    intro e; have e : _ = p := e; omega
  · have h1 := h.glp.2
    intro e; have e : _ = p := e; omega

end Go.Proofs.YtfnjoceolcdeoaaGreatDoor

/- The law's pool that opens two, and loses one. -/
import Derived.Test.YtfnjoceolcdeoaaGreatDoorMg39
import Derived.Test.YtfnjoceolcdeoaaGreatDoorMg41
namespace Go.Proofs.YtfnjoceolcdeoaaGreatDoor
set_option linter.unusedVariables false
open Go.RowKit

/-- That pool's config. -/
def xa : XP := XP.fresh 2 3 10 100 0 2 noStr 50 50 9 1
theorem two_of {α : Type} {l : List α} (h : l.length = 2) : ∃ a b, l = [a, b] := by
  cases l with
  | nil => simp at h
  | cons a t => cases t with
    | nil => simp at h
    | cons b t => cases t with
      | nil => exact ⟨a, b, rfl⟩
      | cons _ _ => simp at h
theorem one_of {α : Type} {l : List α} (h : l.length = 1) : ∃ a, l = [a] := by
  cases l with
  | nil => simp at h
  | cons a t => cases t with
    | nil => exact ⟨a, rfl⟩
    | cons _ _ => simp at h
set_option maxHeartbeats 8000000 in
set_option maxRecDepth 100000 in
theorem aw22_at {w : World} (hm : MaxL w) (hT : Tab w) : Calls Tryz.prog 8 #[] w fun e w' => e = .returned (.bool true) ∧ Kept noBlock w w' := by
  have HNP := Lib.hid (poNew_at (w := w) 2 3 (by decide) (by decide) (by decide) 10 100 0 2 (by decide) (by decide) noStr (show noStr.size ≤ 300000 by decide) 50 50 9 (by decide) 1 (by decide) hm hT)
  unfold poCfgC at HNP
  clear hm hT
  go_enter Tryz.func8, Tryz.ntmps8
  go_wp2_with fail
  go_at_call 9
  refine HNP.out.mono ?_
  rintro e w1 ⟨p, m, rfl, hp1, hk1, hpp, hmm⟩
  have HPP := Lib.hid (⟨hpp, hmm⟩ : w.heap.size ≤ p ∧ w.heap.size ≤ m)
  have HK1 := Lib.hid hk1
  have hpl : p < w1.heap.size := hp1.blk.lt
  have hml : m < w1.heap.size := hp1.map.lt
  -- a
  have HTA := Lib.hid (poTick_at hp1 0 0 (by decide) (fun q hq => absurd hq List.not_mem_nil) rfl (show (1 : Int) ≤ 2 by decide) (show (2 : Int) ≤ 32768 by decide) (show noStr.size ≤ 300000 by decide) (show 50 < 18446744073709551616 by decide) (show (1 : Int) ≤ 1 by decide) (show (0 : Int) ≤ 0 by decide) (show (0 : Int) ≤ 100000 by decide) (show (0 : Int) ≤ 2 by decide) (show (2 : Int) ≤ 1000 by decide) (show 0 ≤ 1000 by decide) 2 (by decide))
  clear hp1 hk1 hpp hmm
  go_wp2_with fail
  go_at_call 10
  refine HTA.out.mono ?_
  rintro e w2 ⟨A2, c2, N, E, rfl, hN, hok, hp2, hs2, hk2⟩
  obtain ⟨ra, rb, rfl⟩ := two_of hN
  obtain ⟨la, lb, rfl⟩ := two_of (hok.1.trans hN)
  have xa' := (hok.2.1 0 ra rfl)
  have xb' := (hok.2.1 1 rb rfl)
  obtain ⟨ia, qa⟩ := ra
  obtain ⟨ib, qb⟩ := rb
  have hia : ia = 0 := xa'.1
  have hib : ib = 1 := xb'.1
  have hqa : qa.x = xa.begun 0 := xa'.2
  have hqb : qb.x = xa.begun 0 := xb'.2
  subst hia hib
  obtain ⟨Aw, cw, hlb⟩ := hok.2.2 1 lb rfl
  obtain ⟨Av, cv, hla⟩ := hok.2.2 0 la rfl
  have hlb : lb = evC 1 1 (.slice Aw 9 cw) 0 (.slice none 0 0) := hlb
  have hla : la = evC 0 1 (.slice Av 9 cv) 0 (.slice none 0 0) := hla
  subst hla hlb
  rw [List.nil_append] at hp2
  have HQA := Lib.hid hqa
  have HQB := Lib.hid hqb
  have HS2 := Lib.hid hs2
  have HP2 := Lib.hid hp2
  have HK2 := Lib.hid hk2
  have hlenA := hs2.run_len evT
  have HSE := Lib.hid (poSend_none hp2 (fun q hq => by
    rcases List.mem_cons.1 hq with rfl | hq
    · show qa.x.state ≠ 6; rw [hqa]; show (1 : Int) ≠ 6; decide
    · obtain rfl := List.mem_singleton.1 hq
      show qb.x.state ≠ 6; rw [hqb]; show (1 : Int) ≠ 6; decide) 7 (.slice none 0 0) 0 9)
  clear hN hok hp2 hs2 hk2 xa' xb' hqa hqb HTA HNP
  go_wp2_with fail
  go_at_call 15
  refine HSE.out.mono ?_
  rintro e w3 ⟨rfl, hk3⟩
  have hp3 := HP2.out.keptN hk3
  have hB : aget (1 : Int) [((0 : Int), qa), ((1 : Int), qb)] = some qb := by simp [aget]
  have hdel : adel (1 : Int) [((0 : Int), qa), ((1 : Int), qb)] = [((0 : Int), qa)] := by simp [adel]
  have hBR := poBreak_at hp3 hB (by rw [HQB.out]; show (1 : Int) ≠ 7; decide) (by rw [HQB.out]; rfl) 5 0 (show 10 < 18446744073709551616 by decide) (show 100 ≤ 72057594037927936 by decide) (show 0 < 18446744073709551616 by decide) (show 0 < 18446744073709551616 by decide) (show 0 < 18446744073709551616 by decide) (by decide) (by decide)
  rw [hdel] at hBR
  have HBR := Lib.hid hBR
  have HS3 := Lib.hid (HS2.out.keptNone hk3)
  have hqa3 := hp3.hiLt (List.mem_cons_self ..)
  have HQ3 : Hid (qa.hi ≤ w3.heap.size) := Lib.hid hqa3
  have HK3 := Lib.hid hk3
  have HZ3 := Lib.hid (Nat.le_trans HK2.out.size hk3.size)
  clear hp3 hB hdel hBR hk3 hqa3 HSE
  go_wp2_with fail
  go_at_call 11
  refine HBR.out.mono ?_
  rintro e w4 ⟨A4, c4, rfl, hp4, hs4, hk4⟩
  have hlenB := hs4.run_len evT
  have HS4 := Lib.hid (evs_kept HS3.out hk4 hpl hml (fun q hq => .inl hq))
  have HB4 : Hid (SlK w4 (fun g _ => w3.heap.size ≤ g ∧ ∀ r ∈ ([] : List (Int × CN)), ¬ (r.2.lo ≤ g ∧ g < r.2.hi)) 21 (.slice A4 1 c4) 1 (evC 1 6 (.slice none 0 0) 33 (.slice none 0 0))) := Lib.hid (hs4.any fun g _ _ e => ⟨e, fun _ hr => absurd hr List.not_mem_nil⟩)
  have HP4 : Hid (PoolAt w4 p m (XP.broke { xa with opened := 2 } 5 0) [((0 : Int), qa)]) := Lib.hid hp4
  have hx4n : (XP.broke { xa with opened := 2 } 5 0).next = 15 := by decide
  have hx4f : (XP.broke { xa with opened := 2 } 5 0).failed = 1 := by decide
  have hNX := poNext_at HP4.out
  rw [hx4n, hx4f, show ((15 : Nat) : Int) = 15 from rfl, show ((1 : Nat) : Int) = 1 from rfl] at hNX
  have HNX := Lib.hid hNX
  have HK4 := Lib.hid hk4
  have HX4 := Lib.hid hx4n
  clear hp4 hs4 hk4 hx4n hx4f hNX HBR
  go_wp2_with fail
  go_at_call 13
  refine HNX.out.mono ?_
  rintro e w5 ⟨rfl, hk5⟩
  have hidl : ∀ (t : Nat), t < 50 → ∀ q ∈ [((0 : Int), qa)], idleAt t q.2.x := fun t ht q hq => by
    obtain rfl := List.mem_singleton.1 hq
    show idleAt t qa.x
    rw [HQA.out]
    exact ⟨show (1 : Int) ≠ 6 by decide, show (1 : Int) ≠ 7 by decide, rfl, rfl, show (t : Int) < ((laterN 0 50 : Nat) : Int) by rw [show laterN 0 50 = 50 by decide]; omega⟩
  have HTC := Lib.hid (poTick_at (HP4.out.keptN hk5) 14 0 (by decide) (hidl 14 (by decide)) rfl (show (1 : Int) ≤ 2 by decide) (show (2 : Int) ≤ 32768 by decide) (show noStr.size ≤ 300000 by decide) (show 50 < 18446744073709551616 by decide) (show (1 : Int) ≤ 1 by decide) (show (0 : Int) ≤ 2 by decide) (show (2 : Int) ≤ 100000 by decide) (show (0 : Int) ≤ 2 by decide) (show (2 : Int) ≤ 1000 by decide) (show 1 ≤ 1000 by decide) 0 (by rw [HX4.out]; rfl))
  have HS5 := Lib.hid (HS4.out.keptNone hk5)
  have HB5 := Lib.hid (HB4.out.keptNone hk5)
  have HK5 := Lib.hid hk5
  clear hk5 HNX
  go_wp2_with fail
  go_at_call 10
  refine HTC.out.mono ?_
  rintro e w6 ⟨A6, c6, N6, E6, rfl, hN6, -, hp6, hs6, hk6⟩
  obtain rfl := List.eq_nil_of_length_eq_zero hN6
  have hlenC := hs6.run_len evT
  have HP6 := Lib.hid (pool_zero hp6)
  have HS6 := Lib.hid (evs_kept HS5.out hk6 hpl hml (fun q hq => .inl (List.mem_cons.2 (.inl (List.mem_singleton.1 hq)))))
  have HB6 := Lib.hid (evs_kept HB5.out hk6 (by have := HZ3.out; omega) (by have := HZ3.out; omega) (fun q hq => .inr (by obtain rfl := List.mem_singleton.1 hq; exact HQ3.out)))
  have HTD := Lib.hid (poTick_at HP6.out 15 0 (by decide) (hidl 15 (by decide)) rfl (show (1 : Int) ≤ 2 by decide) (show (2 : Int) ≤ 32768 by decide) (show noStr.size ≤ 300000 by decide) (show 50 < 18446744073709551616 by decide) (show (1 : Int) ≤ 1 by decide) (show (0 : Int) ≤ 2 by decide) (show (2 : Int) ≤ 100000 by decide) (show (0 : Int) ≤ 2 by decide) (show (2 : Int) ≤ 1000 by decide) (show 1 ≤ 1000 by decide) 1 (by rw [HX4.out]; rfl))
  have HK6 := Lib.hid hk6
  have HZ6 := Lib.hid (Nat.le_trans HZ3.out (Nat.le_trans HK4.out.size (Nat.le_trans HK5.out.size hk6.size)))
  clear hp6 hs6 hk6 hN6 HTC
  go_wp2_with fail
  go_at_call 10
  refine HTD.out.mono ?_
  rintro e w7 ⟨A7, c7, N7, E7, rfl, hN7, hok7, hp7, hs7, hk7⟩
  obtain ⟨rd, rfl⟩ := one_of hN7
  obtain ⟨ld, rfl⟩ := one_of (hok7.1.trans hN7)
  have xd := hok7.2.1 0 rd rfl
  obtain ⟨Ax, cx, hld⟩ := hok7.2.2 0 ld rfl
  obtain ⟨idd, qd⟩ := rd
  have hidd : idd = 2 := xd.1
  have hqd : qd.x = xa.begun 15 := xd.2
  subst hidd
  have hld : ld = evC 2 1 (.slice Ax 9 cx) 0 (.slice none 0 0) := hld
  subst hld
  have hlenD := hs7.run_len evT
  have HS7 := Lib.hid (evs_kept HS6.out hk7 hpl hml (fun q hq => .inl (List.mem_cons.2 (.inl (List.mem_singleton.1 hq)))))
  have HB7 := Lib.hid (evs_kept HB6.out hk7 (by have := HZ3.out; omega) (by have := HZ3.out; omega) (fun q hq => .inr (by obtain rfl := List.mem_singleton.1 hq; exact HQ3.out)))
  have HP7 := Lib.hid hp7
  have HD7 := Lib.hid hs7
  have HK7 := Lib.hid hk7
  have HLV := Lib.hid (poLive_none hp7 (fun q hq => by
    rcases List.mem_append.1 hq with hq | hq
    · obtain rfl := List.mem_singleton.1 hq
      show qa.x.state ≠ 6; rw [HQA.out]; show (1 : Int) ≠ 6; decide
    · obtain rfl := List.mem_singleton.1 hq
      show qd.x.state ≠ 6; rw [hqd]; show (1 : Int) ≠ 6; decide))
  clear hp7 hs7 hk7 hN7 hok7 xd hqd hidl HTD
  go_wp2_with fail
  go_at_call 16
  refine HLV.out.mono ?_
  rintro e w8 ⟨A8, n8, c8, rfl, hn8, hs8, hk8⟩
  have hn82 : n8 = 2 := hn8
  clear hn8
  subst hn82
  have hlenL := hs8.run_len intsTP
  obtain ⟨ga, oa, hia', a0, a1, -⟩ := ev_at (i := 1) (HS7.out.keptNone hk8) rfl (fun l hl => by simp only [List.mem_cons, List.not_mem_nil, or_false] at hl; rcases hl with rfl | rfl <;> rfl) rfl
  have hidxA : ∀ kd w', (Instr.indexAt 36 (.slice A2 2 c2) (.int kd 1)).run Tryz.prog w' = .ok (.pointer (some ⟨ga, oa, none⟩)) w' := hia'
  have hfl : evC 1 6 (.slice none 0 0) 33 (.slice none 0 0) = ([evC 1 6 (.slice none 0 0) 33 (.slice none 0 0)] : List (List Value)).flatten := by simp
  have hb8 := HB7.out.keptNone hk8
  rw [hfl] at hb8
  obtain ⟨gb, ob, hib', -, b1, -⟩ := ev_at (i := 0) hb8 rfl (fun l hl => by obtain rfl := List.mem_singleton.1 hl; rfl) rfl
  have hidxB : ∀ kd w', (Instr.indexAt 36 (.slice A4 1 c4) (.int kd 0)).run Tryz.prog w' = .ok (.pointer (some ⟨gb, ob, none⟩)) w' := hib'
  obtain ⟨gd, od, hid', d0, -, -⟩ := ev_at (i := 0) (HD7.out.keptNone hk8) rfl (fun l hl => by obtain rfl := List.mem_singleton.1 hl; rfl) rfl
  have hidxD : ∀ kd w', (Instr.indexAt 36 (.slice A7 1 c7) (.int kd 0)).run Tryz.prog w' = .ok (.pointer (some ⟨gd, od, none⟩)) w' := hid'
  have hp8 := HP7.out.keptN hk8
  have hc0 := poConn_at hp8 0
  have hc1 := poConn_at hp8 1
  have e0 : aget (0 : Int) ([((0 : Int), qa)] ++ [((2 : Int), qd)]) = some qa := by simp [aget]
  have e1 : aget (1 : Int) ([((0 : Int), qa)] ++ [((2 : Int), qd)]) = none := by simp [aget]
  rw [e0] at hc0
  rw [e1] at hc1
  simp only [Option.map_some, Option.map_none, Option.getD_some, Option.getD_none] at hc0 hc1
  unfold cnV at hc0
  have HC0 := Lib.hid hc0
  have HC1 := Lib.hid hc1
  have hF : Kept noBlock w w8 := by
    have hlow := HP2.out.low
    have ha := (hlow _ (List.mem_cons_self ..)).1
    have hb := (hlow _ (List.mem_cons.2 (.inr (List.mem_singleton.2 rfl)))).1
    have hppp := HPP.out
    have h12 : Kept noBlock w w2 := HK1.out.trans HK2.out fun k hlt e => by
      rcases e with e | e | ⟨q, hq, _⟩
      · omega
      · omega
      · exact absurd hq List.not_mem_nil
    have h4 : Kept noBlock w w4 := (h12.trans HK3.out fun _ _ e => e).trans HK4.out fun k hlt e => by
      rcases e with e | e | ⟨q, hq, h1, h2⟩
      · omega
      · omega
      · have := (hlow q hq).1; omega
    have h6 : Kept noBlock w w6 := (h4.trans HK5.out fun _ _ e => e).trans HK6.out fun k hlt e => by
      rcases e with e | e | ⟨q, hq, h1, h2⟩
      · omega
      · omega
      · have := (hlow q (List.mem_cons.2 (.inl (List.mem_singleton.1 hq)))).1; omega
    exact (h6.trans HK7.out fun k hlt e => by
      rcases e with e | e | ⟨q, hq, h1, h2⟩
      · omega
      · omega
      · have := (hlow q (List.mem_cons.2 (.inl (List.mem_singleton.1 hq)))).1; omega).trans hk8 fun _ _ e => e
  have HF := Lib.hid hF
  clear hs8 hk8 hia' hib' hid' hfl hb8 hp8 hc0 hc1 e0 e1 hF
  go_wp2_with fail
  go_at_call 19
  refine HC0.out.mono ?_
  rintro e w9 ⟨rfl, hw9⟩
  subst hw9
  clear hidxA hidxB hidxD a0 a1 b1 d0 hlenA hlenB hlenC hlenD hlenL
  go_wp2_with fail
  go_at_call 19
  refine HC1.out.mono ?_
  rintro e w9 ⟨rfl, hw9⟩
  subst hw9
  go_wp2_with fail
  go_ret
  exact ⟨rfl, HF.out⟩
end Go.Proofs.YtfnjoceolcdeoaaGreatDoor

/- The reference's Hosts: the hosts that rows tell of · Options (types of columns) as they stand in memory · The law's tableOf: a table as the model has it · The law: how many types are nested in one; is a type small enough? They end · The law: is a table small enough? · hosts, the reference: Same, of the same hosts · The reference's control: Later, Ask, Due · Types among what came in: a tree of options · Chapter 18's reference: Mark, Distance, Same; the law's sameTexts, hostsOf. -/
import Derived.Test.YtdcdefkloibfnaaGreatDoorMg08
import Derived.Test.YtdcdefkloibfnaaGreatDoorMg02
import Derived.Test.YtdcdefkloibfnaaGreatDoorMg07
import Derived.Test.YtdcdefkloibfnaaGreatDoorMg04
import Derived.Test.YtdcdefkloibfnaaGreatDoorMg01
namespace Go.Proofs.YtdcdefkloibfnaaGreatDoor
set_option linter.unusedVariables false
open Go.RowKit

/-- The reference's hosts of a row of the call's own. -/
def OwnH18 (w : World) (base : Nat) (v : Value) (T : List HV) (hs : List Ho) : Prop :=
  T.map HV.abs = hs ∧ w.ownsRow base 106 5 v T.length (T.flatMap hvC) ∧ ∀ x ∈ T, x.toks.length = x.tn ∧ SlK w (fun k e => base ≤ k ∧ e = 2) 1 x.tv x.tn (x.toks.map (Value.int .i64))
/-- What the reference's Hosts gives. -/
def XHostsPost (w : World) (R : Option (List Ho)) (e : Ending) (w' : World) : Prop :=
  Kept noBlock w w' ∧ match R with
  | none => e = .returned (.tuple #[.slice none 0 0, .int .i64 11])
  | some hs => ∃ v' T, e = .returned (.tuple #[v', .int .i64 0]) ∧ OwnH18 w' w.heap.size v' T hs
theorem OwnH18.keptN {w w' : World} {base : Nat} {v : Value} {T : List HV} {hs : List Ho} (h : OwnH18 w base v T hs) (hk : Kept noBlock w w') : OwnH18 w' base v T hs :=
  ⟨h.1, own_keptB h.2.1 hk (fun _ _ e => e), fun x hx => ⟨(h.2.2 x hx).1, SlK.keptNone (h.2.2 x hx).2 hk⟩⟩
theorem OwnH18.low {w : World} {b b' : Nat} {v : Value} {T : List HV} {hs : List Ho} (h : OwnH18 w b v T hs) (hb : b' ≤ b) : OwnH18 w b' v T hs :=
  ⟨h.1, own_low h.2.1 hb, fun x hx => ⟨(h.2.2 x hx).1, (h.2.2 x hx).2.any fun g e _ hh => ⟨Nat.le_trans hb hh.1, hh.2⟩⟩⟩
def XHInv (w W1 : World) (t : XT) (j : Nat) (vo vi : Value) (wr : World) : Prop :=
  ∃ (i : Nat) (T : List HV) (hs : List Ho), i + j = t.rn ∧ vi = .int .i64 i ∧ hostsP t.names (t.vals.take i) = some hs ∧ T.length ≤ i ∧ OwnH18 wr W1.heap.size vo T hs ∧ Kept noBlock W1 wr
set_option maxHeartbeats 4000000 in
set_option maxRecDepth 100000 in
theorem x3Hosts_at {w : World} {B : Nat} {t : XT} (h : XTAt w B t) (hb : XTOk t) :
    Calls Tryz.prog 11 #[t.v] w fun e w' => XHostsPost w (hostsP t.names t.vals) e w' := by
  have hW1 : Kept noBlock w (w.alloc (.cells #[.int .i64 t.cnt, .slice t.ca t.cn t.cc, .bool t.more, .int .i64 t.sk, .string t.st, .slice t.ra t.rn t.rc] 43)) := (Kept.refl noBlock w).alloc _
  have hB1 := Blk.new w 43 #[.int .i64 t.cnt, .slice t.ca t.cn t.cc, .bool t.more, .int .i64 t.sk, .string t.st, .slice t.ra t.rn t.rc]
  have HCL := Lib.hid (fun (W : World) (hk : Kept noBlock w W) (k : Nat) (r : XR) (hr : t.rows[k]? = some r) (name : ByteArray) => x3Cell_at (h.keptN hk) hb.cn (Nat.le_trans hb.rn (by decide)) hr (hb.row r (List.mem_of_getElem? hr)) name)
  have HVL : Hid (∀ (k : Nat) (r : XR), t.rows[k]? = some r → ∀ v ∈ r.vs, v.2.length ≤ 1000) := Lib.hid fun k r hr v hv => hb.val r (List.mem_of_getElem? hr) v hv
  have hrl := h.rl
  have HRN : Hid (t.rn ≤ 100000) := Lib.hid hb.rn
  have HVALS : Hid (∀ (k : Nat) (r : XR), t.rows[k]? = some r → t.vals[k]? = some r.vs) := Lib.hid fun k (r : XR) hr => by show (t.rows.map _)[k]? = _; rw [List.getElem?_map, hr]; rfl
  have HVLEN : Hid (t.vals.length = t.rn) := Lib.hid (by show (t.rows.map _).length = _; rw [List.length_map]; exact hrl)
  have hlr := h.rs.run_len v02ssT
  have HRL := Lib.hid hrl
  clear h hb hrl
  generalize hw1 : (w.alloc (.cells #[.int .i64 t.cnt, .slice t.ca t.cn t.cc, .bool t.more, .int .i64 t.sk, .string t.st, .slice t.ra t.rn t.rc] 43)) = W1 at *
  have HW1 := Lib.hid hw1
  have HK1 := Lib.hid hW1
  have HB1 := Lib.hid hB1
  clear hw1 hW1 hB1
  unfold XT.v
  go_enter Tryz.func11, Tryz.ntmps11
  go_wp2_with fail
  rw [HW1.out]
  go_loopg [4, 5] t.rn (fun j vo vi wr => XHInv w W1 t j vo vi wr)
  case atStart => exact ⟨0, [], [], by omega, rfl, by rw [List.take_zero]; rfl, Nat.le_refl _, ⟨rfl, World.ownsRow_nil _ _ _ _, fun x hx => by cases hx⟩, Kept.refl _ _⟩
  case round =>
    obtain ⟨i, T, hs, hij, rfl, hp, hTl, hO, hk⟩ := hrel
    have HIJ := Lib.hid hij
    have HP := Lib.hid hp
    have HTL := Lib.hid hTl
    have HO := Lib.hid hO
    have HK := Lib.hid hk
    have q0 := (HB1.out.kept hk fun e => e).cell 0
    have q1 := (HB1.out.kept hk fun e => e).cell 1
    have q2 := (HB1.out.kept hk fun e => e).cell 2
    have q3 := (HB1.out.kept hk fun e => e).cell 3
    have q4 := (HB1.out.kept hk fun e => e).cell 4
    have q5 := (HB1.out.kept hk fun e => e).cell 5
    simp only [List.getElem?_toArray, List.getElem?_cons_succ, List.getElem?_cons_zero] at q0 q1 q2 q3 q4 q5
    clear hij hp hTl hO hk
    have hrn6 := HRN.out
    by_cases hlt : i < t.rn
    · obtain ⟨r, hr⟩ : ∃ r, t.rows[i]? = some r := ⟨_, List.getElem?_eq_getElem (by rw [HRL.out]; exact hlt)⟩
      have HR := Lib.hid hr
      have HSK := Lib.hid (hosts_skip (HVALS.out i r hr) HP.out)
      have HFA := Lib.hid (hosts_fail (HVALS.out i r hr) HP.out)
      have HMO : Hid (nameP (textP (cellP t.names r.vs cRpc)) ≠ [] → ∀ ts, tokensP (cellP t.names r.vs cTok).1 (cellP t.names r.vs cTok).2 = some ts → hostsP t.names (t.vals.take (i + 1)) = some (hs ++ [⟨bS (nameP (textP (cellP t.names r.vs cRpc))), bS (textP (cellP t.names r.vs cDc)), bS (textP (cellP t.names r.vs cRack)), ts, true⟩])) := Lib.hid fun h ts ht => hosts_more (HVALS.out i r hr) HP.out h ht
      have hl4 := cell_le (HVL.out i r hr) (cols := t.names) cTok
      have HC1 := Lib.hid (fun W hW => HCL.out W hW i r hr cRpc)
      have HC2 := Lib.hid (fun W hW => HCL.out W hW i r hr cDc)
      have HC3 := Lib.hid (fun W hW => HCL.out W hW i r hr cRack)
      have HC4 := Lib.hid (fun W hW => HCL.out W hW i r hr cTok)
      clear hr HCL HVL HVALS
      generalize cellP t.names r.vs cRpc = v1 at *
      generalize cellP t.names r.vs cDc = v2 at *
      generalize cellP t.names r.vs cRack = v3 at *
      generalize cellP t.names r.vs cTok = v4 at *
      obtain ⟨k1, l1⟩ := v1
      obtain ⟨k2, l2⟩ := v2
      obtain ⟨k3, l3⟩ := v3
      obtain ⟨k4, l4⟩ := v4
      simp only at hl4 HC1 HC2 HC3 HC4 HFA HMO
      have HX1 := Lib.hid (fun w => x3Text_at k1 l1 w)
      have HX2 := Lib.hid (fun w => x3Text_at k2 l2 w)
      have HX3 := Lib.hid (fun w => x3Text_at k3 l3 w)
      generalize textP (k1, l1) = u1 at *
      generalize textP (k2, l2) = u2 at *
      generalize textP (k3, l3) = u3 at *
      have HNM := Lib.hid (fun w => x3Name_at (bS u1) w)
      have htl : (bS u1).data.toList = u1 := rfl
      rw [htl] at HNM
      obtain ⟨A0, c0, hv0, -, -⟩ := (Sl.of_own HO.out.2.1).shape
      subst hv0
      clear htl
      go_wp2_with fail
      go_at_call 32
      refine (HC1.out wr (HK1.out.trans HK.out fun _ _ h => h)).mono ?_
      rintro e w2 ⟨rfl, hk2⟩
      have HK2 := Lib.hid (HK.out.trans hk2 fun _ _ h => h)
      have HO2 := Lib.hid (HO.out.keptN hk2)
      clear hk2 HO HK
      go_wp2_with fail
      go_at_call 31
      refine (HX1.out w2).mono ?_
      rintro e w3 ⟨rfl, hk3⟩
      have HK3 := Lib.hid (HK2.out.trans hk3 fun _ _ h => h)
      have HO3 := Lib.hid (HO2.out.keptN hk3)
      clear hk3 HO2 HK2
      go_wp2_with fail
      go_at_call 16
      refine (HNM.out w3).mono ?_
      rintro e w4 ⟨rfl, hw4⟩
      have hk4 : Kept noBlock w3 w4 := by obtain ⟨kq, rfl⟩ := hw4; exact (Kept.refl noBlock w3).drewN kq
      have HK4 := Lib.hid (HK3.out.trans hk4 fun _ _ h => h)
      have HO4 := Lib.hid (HO3.out.keptN hk4)
      have z0 := (HB1.out.kept HK4.out fun e => e).cell 0
      have z1 := (HB1.out.kept HK4.out fun e => e).cell 1
      have z2 := (HB1.out.kept HK4.out fun e => e).cell 2
      have z3 := (HB1.out.kept HK4.out fun e => e).cell 3
      have z4 := (HB1.out.kept HK4.out fun e => e).cell 4
      have z5 := (HB1.out.kept HK4.out fun e => e).cell 5
      simp only [List.getElem?_toArray, List.getElem?_cons_succ, List.getElem?_cons_zero] at z0 z1 z2 z3 z4 z5
      clear hw4 hk4 HO3 HNM HK3
      by_cases hem : nameP u1 = []
      · have HSK1 := Lib.hid (HSK.out hem)
        rw [hem]
        have hbe := emp_nil
        have FIN : Hid (XHInv w W1 t (t.rn - (i + 1)) (.slice A0 T.length c0) (.int .i64 ((i + 1 : Nat) : Int)) w4) := Lib.hid ⟨i + 1, T, hs, by have := HIJ.out; omega, rfl, HSK1.out, Nat.le_trans HTL.out (by omega), HO4.out, HK4.out⟩
        clear hem
        go_wp2_with fail
        go_roundg (t.rn - (i + 1))
        case measure => have := HIJ.out; omega
        case rel => exact FIN.out
      · have hbe := emp_ne hem
        have HEM := Lib.hid hem
        clear hem
        go_wp2_with fail
        go_at_call 32
        refine (HC4.out w4 (HK1.out.trans HK4.out fun _ _ h => h)).mono ?_
        rintro e w5 ⟨rfl, hk5⟩
        have HK5 := Lib.hid (HK4.out.trans hk5 fun _ _ h => h)
        have HO5 := Lib.hid (HO4.out.keptN hk5)
        have HTK := Lib.hid (x3Tokens_at k4 l4 hl4 w5)
        clear hk5 HO4 HK4
        go_wp2_with fail
        go_at_call 33
        refine HTK.out.mono ?_
        intro e w7 hp7
        obtain ⟨hk7, hr7⟩ := hp7
        have HK7 := Lib.hid (HK5.out.trans hk7 fun _ _ h => h)
        have HO7 := Lib.hid (HO5.out.keptN hk7)
        cases htk : tokensP k4 l4 with
        | none =>
          rw [htk] at hr7
          have HFA1 := Lib.hid (HFA.out HEM.out htk)
          obtain rfl := hr7
          clear htk hk7
          go_wp2
          go_ret2
          rw [HFA1.out]
          exact ⟨HK1.out.trans HK7.out fun _ _ h => h, rfl⟩
        | some ts =>
          rw [htk] at hr7
          have HMO1 := Lib.hid (HMO.out HEM.out ts htk)
          obtain ⟨v7, rfl, ho7⟩ := hr7
          obtain ⟨A7, c7, rfl, -, -⟩ := (Sl.of_own ho7).shape
          have HV7 : Hid (SlK w7 (fun k e => W1.heap.size ≤ k ∧ e = 2) 1 (.slice A7 ts.length c7) ts.length (ts.map (Value.int .i64))) := Lib.hid ((SlK.of_ownB ho7).any fun g e _ h => ⟨Nat.le_trans HK5.out.size h.1, h.2⟩)
          clear htk hk7 ho7 HTK HFA HMO HSK
          have hty : 2 ≠ 106 := by decide
          clear q0 q1 q2 q3 q4 q5 z0 z1 z2 z3 z4 z5
          go_wp2_with fail
          refine wp_region_sch (fun w' => Kept noBlock W1 w') (.take 0 (.take 1 (.take 2 (.take 3 (.take 6 (.take 7 (.take 10 (.one 4 (.one 5 (.one 8 (.one 9 (.take 11 (.one 12 (.one 13 (.take 14 .nil))))))))))))))) (by kernel_rfl) (by kernel_rfl) (by kernel_rfl) HK7.out.drew ?_
          repeat (first
            | (refine sch_takeE rfl rfl ?_
               apply Exists.intro
               refine ⟨fun w' hS => ?_, fun K hK => ?_⟩
               · (have y0 := (HB1.out.kept hS fun e => e).cell 0
                  have y1 := (HB1.out.kept hS fun e => e).cell 1
                  have y2 := (HB1.out.kept hS fun e => e).cell 2
                  have y3 := (HB1.out.kept hS fun e => e).cell 3
                  have y4 := (HB1.out.kept hS fun e => e).cell 4
                  have y5 := (HB1.out.kept hS fun e => e).cell 5
                  simp only [List.getElem?_toArray, List.getElem?_cons_succ, List.getElem?_cons_zero] at y0 y1 y2 y3 y4 y5
                  clear hS
                  unfold takesAt; go_simp; rfl)
               go_simp
               refine hK _ ?_
               clear hK K))
          refine sch_doK rfl rfl (fun K hK => ?_)
          go_simp
          go_at_call 32
          refine (HC2.out _ (HK1.out.trans HK7.out.drew fun _ _ h => h)).mono ?_
          rintro e w8 ⟨rfl, hk8⟩
          have HK8 := Lib.hid (HK7.out.drew.trans hk8 fun _ _ h => h)
          have HO8 := Lib.hid ((HO7.out.keptN ((Kept.refl noBlock w7).drew)).keptN hk8)
          have HV8 := Lib.hid ((SlK.drew HV7.out).keptNone hk8)
          refine hK _ _ HK8.out ?_
          clear hK K hk8
          repeat (first
            | (refine sch_takeE rfl rfl ?_
               apply Exists.intro
               refine ⟨fun w' hS => ?_, fun K hK => ?_⟩
               · (have y0 := (HB1.out.kept hS fun e => e).cell 0
                  have y1 := (HB1.out.kept hS fun e => e).cell 1
                  have y2 := (HB1.out.kept hS fun e => e).cell 2
                  have y3 := (HB1.out.kept hS fun e => e).cell 3
                  have y4 := (HB1.out.kept hS fun e => e).cell 4
                  have y5 := (HB1.out.kept hS fun e => e).cell 5
                  simp only [List.getElem?_toArray, List.getElem?_cons_succ, List.getElem?_cons_zero] at y0 y1 y2 y3 y4 y5
                  clear hS
                  unfold takesAt; go_simp; rfl)
               go_simp
               refine hK _ ?_
               clear hK K))
          refine sch_doK rfl rfl (fun K hK => ?_)
          go_simp
          go_at_call 31
          refine (HX2.out _).mono ?_
          rintro e w9 ⟨rfl, hk9⟩
          have HK9 := Lib.hid (HK8.out.trans hk9 fun _ _ h => h)
          have HO9 := Lib.hid (HO8.out.keptN hk9)
          have HV9 := Lib.hid (SlK.keptNone HV8.out hk9)
          refine hK _ _ HK9.out ?_
          clear hK K hk9
          repeat (first
            | (refine sch_takeE rfl rfl ?_
               apply Exists.intro
               refine ⟨fun w' hS => ?_, fun K hK => ?_⟩
               · (have y0 := (HB1.out.kept hS fun e => e).cell 0
                  have y1 := (HB1.out.kept hS fun e => e).cell 1
                  have y2 := (HB1.out.kept hS fun e => e).cell 2
                  have y3 := (HB1.out.kept hS fun e => e).cell 3
                  have y4 := (HB1.out.kept hS fun e => e).cell 4
                  have y5 := (HB1.out.kept hS fun e => e).cell 5
                  simp only [List.getElem?_toArray, List.getElem?_cons_succ, List.getElem?_cons_zero] at y0 y1 y2 y3 y4 y5
                  clear hS
                  unfold takesAt; go_simp; rfl)
               go_simp
               refine hK _ ?_
               clear hK K))
          refine sch_doK rfl rfl (fun K hK => ?_)
          go_simp
          go_at_call 32
          refine (HC3.out _ (HK1.out.trans HK9.out fun _ _ h => h)).mono ?_
          rintro e wa ⟨rfl, hka⟩
          have HKa := Lib.hid (HK9.out.trans hka fun _ _ h => h)
          have HOa := Lib.hid (HO9.out.keptN hka)
          have HVa := Lib.hid (SlK.keptNone HV9.out hka)
          refine hK _ _ HKa.out ?_
          clear hK K hka
          repeat (first
            | (refine sch_takeE rfl rfl ?_
               apply Exists.intro
               refine ⟨fun w' hS => ?_, fun K hK => ?_⟩
               · (have y0 := (HB1.out.kept hS fun e => e).cell 0
                  have y1 := (HB1.out.kept hS fun e => e).cell 1
                  have y2 := (HB1.out.kept hS fun e => e).cell 2
                  have y3 := (HB1.out.kept hS fun e => e).cell 3
                  have y4 := (HB1.out.kept hS fun e => e).cell 4
                  have y5 := (HB1.out.kept hS fun e => e).cell 5
                  simp only [List.getElem?_toArray, List.getElem?_cons_succ, List.getElem?_cons_zero] at y0 y1 y2 y3 y4 y5
                  clear hS
                  unfold takesAt; go_simp; rfl)
               go_simp
               refine hK _ ?_
               clear hK K))
          refine sch_doK rfl rfl (fun K hK => ?_)
          go_simp
          go_at_call 31
          refine (HX3.out _).mono ?_
          rintro e wb ⟨rfl, hkb⟩
          have HKb := Lib.hid (HKa.out.trans hkb fun _ _ h => h)
          have HOb := Lib.hid (HOa.out.keptN hkb)
          have HVb := Lib.hid (SlK.keptNone HVa.out hkb)
          refine hK _ _ HKb.out ?_
          clear hK K hkb
          repeat (first
            | (refine sch_takeE rfl rfl ?_
               apply Exists.intro
               refine ⟨fun w' hS => ?_, fun K hK => ?_⟩
               · (have y0 := (HB1.out.kept hS fun e => e).cell 0
                  have y1 := (HB1.out.kept hS fun e => e).cell 1
                  have y2 := (HB1.out.kept hS fun e => e).cell 2
                  have y3 := (HB1.out.kept hS fun e => e).cell 3
                  have y4 := (HB1.out.kept hS fun e => e).cell 4
                  have y5 := (HB1.out.kept hS fun e => e).cell 5
                  simp only [List.getElem?_toArray, List.getElem?_cons_succ, List.getElem?_cons_zero] at y0 y1 y2 y3 y4 y5
                  clear hS
                  unfold takesAt; go_simp; rfl)
               go_simp
               refine hK _ ?_
               clear hK K))
          refine sch_doK rfl rfl (fun K hK => ?_)
          go_simp
          refine hK _ _ (HKb.out.alloc _) ?_
          clear hK K
          refine sch_doK rfl rfl (fun K hK => ?_)
          refine wp_append_sl _ h18sT (.tmp 33) (.tmp 45) rfl W1.heap.size _ T.length (T.flatMap hvC) rfl (World.ownsRow.alloc HOb.out.2.1 _) _ 1 (hvC ⟨bS (nameP u1), bS u2, bS u3, A7, ts.length, c7, ts, true⟩) rfl (Sl.made_at (Blk.new wb 106 (hvC ⟨bS (nameP u1), bS u2, bS u3, A7, ts.length, c7, ts, true⟩).toArray) _ rfl rfl one_max) (by simp [hvC, Value.oneCell']) ?c1 ?c2 ?_
          case c1 => have := HTL.out; omega
          case c2 => have h2 := HKb.out.size; simp only [sz_alloc]; omega
          intro v' w10 hap
          have hk10 := hap.below (World.ownsRow.alloc HOb.out.2.1 _) (HKb.out.alloc _) (Nat.le_refl _)
          have FIN : Hid (XHInv w W1 t (t.rn - (i + 1)) v' (.int .i64 ((i + 1 : Nat) : Int)) w10) := Lib.hid (by
            refine ⟨i + 1, T ++ [⟨bS (nameP u1), bS u2, bS u3, A7, ts.length, c7, ts, true⟩], _, by have := HIJ.out; omega, rfl, HMO1.out, by rw [List.length_append]; have := HTL.out; simp; omega, ⟨?_, ?_, fun x hx => ?_⟩, hk10⟩
            · rw [List.map_append, HOb.out.1]; rfl
            · have := hap.own
              rw [List.length_append, List.flatMap_append]
              simpa using this
            · rcases List.mem_append.1 hx with h | h
              · exact ⟨(HOb.out.2.2 x h).1, SlK.appendedT ((HOb.out.2.2 x h).2.alloc _) hap (World.ownsRow.alloc HOb.out.2.1 _) fun g e' hh => by rw [hh.2]; exact hty⟩
              · obtain rfl : x = _ := by simpa using h
                exact ⟨rfl, SlK.appendedT (HVb.out.alloc _) hap (World.ownsRow.alloc HOb.out.2.1 _) fun g e' hh => by rw [hh.2]; exact hty⟩)
          refine hK _ _ hk10 ?_
          clear hK K hk10 hap
          repeat (first
            | (refine sch_takeE rfl rfl ?_
               apply Exists.intro
               refine ⟨fun w' hS => ?_, fun K hK => ?_⟩
               · (have y0 := (HB1.out.kept hS fun e => e).cell 0
                  have y1 := (HB1.out.kept hS fun e => e).cell 1
                  have y2 := (HB1.out.kept hS fun e => e).cell 2
                  have y3 := (HB1.out.kept hS fun e => e).cell 3
                  have y4 := (HB1.out.kept hS fun e => e).cell 4
                  have y5 := (HB1.out.kept hS fun e => e).cell 5
                  simp only [List.getElem?_toArray, List.getElem?_cons_succ, List.getElem?_cons_zero] at y0 y1 y2 y3 y4 y5
                  clear hS
                  unfold takesAt; go_simp; rfl)
               go_simp
               refine hK _ ?_
               clear hK K))
          refine sch_nil (NoPanic.normal ?_)
          go_wp2_with fail
          go_roundg (t.rn - (i + 1))
          case measure => have := HIJ.out; omega
          case rel => exact FIN.out
    · obtain rfl : i = t.rn := by have := HIJ.out; omega
      have hfin : hostsP t.names t.vals = some hs := by rw [← HP.out, List.take_of_length_le (Nat.le_of_eq HVLEN.out)]
      have HFIN := Lib.hid hfin
      clear hfin
      go_wp2
      go_ret2
      rw [HFIN.out]
      exact ⟨HK1.out.trans HK.out fun _ _ h => h, _, T, rfl, HO.out.low HK1.out.size⟩
end Go.Proofs.YtdcdefkloibfnaaGreatDoor
namespace Go.Proofs.YtdcdefkloibfnaaGreatDoor
set_option linter.unusedVariables false
open Go.RowKit

theorem lt_of_cellV {w : World} {p : Addr} {v : Value} (h : w.cell? p = some v) : p.block < w.heap.size := by
  unfold World.cell? at h
  split at h
  · rename_i hh; exact lt_of_heap hh
  · cases h
theorem Kept.cellV {w w' : World} {p : Addr} {v : Value} (h : Kept noBlock w w') (hc : w.cell? p = some v) : w'.cell? p = some v := (h.cell (lt_of_cellV hc) fun e => e).trans hc
/-- An option. -/
structure OV where
  id : Int
  sp : ByteArray
  nm : ByteArray
  na : Option Addr
  nn : Nat
  nc : Nat
  ka : Option Addr
  kn : Nat
  kc : Nat
def ovC (x : OV) : List Value := [.int .u16 x.id, .string x.sp, .string x.nm, .slice x.na x.nn x.nc, .slice x.ka x.kn x.kc]
/-- Options in memory, below block B, nested no deeper than d. -/
def OptAt (W : World) (B : Nat) : Nat → Option Addr → Nat → Nat → Prop
  | 0, _, _, _ => False
  | d + 1, a, n, c => ∃ L : List OV, L.length = n ∧ Lo W B 5 (.slice a n c) n (L.flatMap ovC) ∧ ∀ x ∈ L, OptAt W B d x.ka x.kn x.kc
theorem OptAt.up {W : World} {B : Nat} : ∀ {d d' : Nat} {a : Option Addr} {n c : Nat}, OptAt W B d a n c → d ≤ d' → OptAt W B d' a n c
  | 0, _, _, _, _, h, _ => h.elim
  | d + 1, 0, _, _, _, _, hd => by omega
  | d + 1, d' + 1, _, _, _, ⟨L, h1, h2, h3⟩, hd => ⟨L, h1, h2, fun x hx => (h3 x hx).up (by omega)⟩
theorem OptAt.kept {W W' : World} {B : Nat} {S : Nat → Prop} (hk : Kept S W W') (hS : ∀ k, k < B → ¬ S k) : ∀ {d : Nat} {a : Option Addr} {n c : Nat}, OptAt W B d a n c → OptAt W' B d a n c
  | 0, _, _, _, h => h.elim
  | _ + 1, _, _, _, ⟨L, h1, h2, h3⟩ => ⟨L, h1, Lo.kept h2 hk hS, fun x hx => (h3 x hx).kept hk hS⟩
/-- A column that came in. -/
def ColIn (W : World) (B : Nat) (x : CV) : Prop := ∃ d, OptAt W B d x.ka x.kn x.kc
/-- A table that came in. -/
structure TblIn (W : World) (B : Nat) (t : TV2) : Prop where
  tbl : TblAt W B t
  col : ∀ x ∈ t.cols, ColIn W B x
  st : ∃ l : List UInt8, l.length = t.sn ∧ Lo W B 1 (.slice t.sa t.sn t.sc) t.sn (bsC l)
theorem TblIn.keptN {W W' : World} {B : Nat} {t : TV2} (h : TblIn W B t) (hk : Kept noBlock W W') : TblIn W' B t :=
  ⟨h.tbl.keptN hk, fun x hx => (h.col x hx).imp fun _ hd => hd.kept (S := noBlock) hk (fun _ _ e => e), h.st.imp fun _ hl => ⟨hl.1, hl.2.keptNone hk⟩⟩
def TV2.cells (t : TV2) : List Value := [.int .i64 t.cnt, .slice t.ca t.cn t.cc, .bool t.more, .int .i64 t.sk, .slice t.sa t.sn t.sc, .slice t.ra t.rn t.rc]
/-- A small table. -/
structure TblS (t : TV2) : Prop where
  cn : t.cn ≤ 20
  rn : t.rn ≤ 20
  row : ∀ r ∈ t.rows, r.n ≤ 30 ∧ ∀ x ∈ r.vs, x.n ≤ 300
theorem optsT : SlT Tryz.prog 86 88 (.agg #[.int .u16 0, .string noStr, .string noStr, .slice none 0 0, .slice none 0 0]) 5 88 := ⟨Tryz.underlying86, by kernel_rfl, rfl, by decide, by decide⟩
theorem opt_at {w : World} {ok : Nat → TypeId → Prop} {v : Value} {L : List OV} {n : Nat} (h : SlK w ok 5 v n (L.flatMap ovC)) {i : Nat} {x : OV} (hi : L[i]? = some x) :
    ∃ g off, (∀ kd w', (Instr.indexAt 86 v (.int kd (i : Int))).run Tryz.prog w' = .ok (.pointer (some ⟨g, off, none⟩)) w') ∧ g < w.heap.size ∧
      w.cell? ⟨g, off, none⟩ = some (.int .u16 x.id) ∧ w.cell? ⟨g, off + 1, none⟩ = some (.string x.sp) ∧ w.cell? ⟨g, off + 2, none⟩ = some (.string x.nm) ∧ w.cell? ⟨g, off + 3, none⟩ = some (.slice x.na x.nn x.nc) ∧ w.cell? ⟨g, off + 4, none⟩ = some (.slice x.ka x.kn x.kc) := by
  have hlt : i < n := by
    have h1 := (List.getElem?_eq_some_iff.1 hi).1
    have h2 := h.len
    rw [flat_len (k := 5) (fun _ => rfl) L] at h2
    omega
  obtain ⟨g, off, h1, h2, h4, h3⟩ := h.run_index optsT (i := (i : Int)) (k := i) rfl hlt
  have key : ∀ j (hj : j < 5) (u : Value), (ovC x)[j]? = some u → w.cell? ⟨g, off + j, none⟩ = some u := fun j hj u hu => h3 j u (by rw [flat_get (k := 5) (fun _ => rfl) L i j x hi hj]; exact hu)
  exact ⟨g, off, h1, h2, key 0 (by decide) _ rfl, key 1 (by decide) _ rfl, key 2 (by decide) _ rfl, key 3 (by decide) _ rfl, key 4 (by decide) _ rfl⟩
theorem len_raw {t e : TypeId} (ht : Tryz.prog.underlying t = some (.slice e)) (A : Option Addr) (n c : Nat) : ∀ ty w', (Builtin.len_ #[t] ty #[.slice A n c]).run Tryz.prog w' = .ok (.int .i64 n) w' := by
  intro ty w'
  simp [Builtin.len_, run_underlying ht, goInt]
end Go.Proofs.YtdcdefkloibfnaaGreatDoor
namespace Go.Proofs.YtdcdefkloibfnaaGreatDoor
set_option linter.unusedVariables false
open Go.RowKit

abbrev x0C : Array Value := #[.int .i64 0, .slice none 0 0, .bool false, .int .i64 0, .string ⟨#[]⟩, .slice none 0 0]
theorem tabOf_ret {W : World} {T : Array Value} {M : Nat} {u0 u1 u2 u3 u4 u5 : Value} {R : Ending → World → Prop} (h2 : T.getD 2 undef = .pointer (some ⟨M, 0, none⟩)) (d0 : W.cell? ⟨M, 0, none⟩ = some u0) (d1 : W.cell? ⟨M, 1, none⟩ = some u1) (d2 : W.cell? ⟨M, 2, none⟩ = some u2) (d3 : W.cell? ⟨M, 3, none⟩ = some u3) (d4 : W.cell? ⟨M, 4, none⟩ = some u4) (d5 : W.cell? ⟨M, 5, none⟩ = some u5)
    (hR : R (.returned (.agg #[u0, u1, u2, u3, u4, u5])) W) : bodyPost Tryz.prog Tryz.f12 R .ret { tmps := T, defers := [] } W := by
  have h2' : T[2]?.getD undef = .pointer (some ⟨M, 0, none⟩) := by simpa using h2
  exact bodyPost_ret (v := .agg #[u0, u1, u2, u3, u4, u5]) (by simp [results, Tryz.results12, go_sem, h2', d0, d1, d2, d3, d4, d5]) rfl hR
theorem cv_one {L : List CV} {u : Value} (h : u ∈ L.flatMap cvC) : u.oneCell' = true := by
  obtain ⟨a, _, h⟩ := List.mem_flatMap.1 h
  simp only [cvC, List.mem_cons, List.not_mem_nil, or_false] at h
  rcases h with rfl | rfl | rfl | rfl | rfl | rfl | rfl | rfl <;> rfl
theorem own_keptL {w w' : World} {S : Nat → Prop} {base : Nat} {e : TypeId} {sz n : Nat} {v : Value} {xs : List Value} (h : w.ownsRow base e sz v n xs) (hk : Kept S w w') (hS : ∀ g, base ≤ g → ¬ S g) : w'.ownsRow base e sz v n xs := own_keptB h hk fun g hg => hS g (own_type h hg).1
/-- Columns laid so far. -/
def TofC (W3 : World) (N : Nat) (t : TV2) (st : ByteArray) (i : Nat) (wr : World) : Prop :=
  ∃ A c, Blk wr (N + 2) 43 #[.int .i64 t.cnt, .slice A i c, .bool t.more, .int .i64 t.sk, .string st, .slice none 0 0] ∧ wr.ownsRow (N + 3) 107 8 (.slice A i c) i ((t.cols.take i).flatMap cvC) ∧ Kept (fun k => k = N + 2) W3 wr
/-- Rows laid so far. -/
def TofR (W3 : World) (N : Nat) (t : TV2) (st : ByteArray) (A : Option Addr) (c : Nat) (i : Nat) (wr : World) : Prop :=
  ∃ (A' : Option Addr) (c' : Nat) (rs : List XR), rs.map XR.vs = (t.rows.take i).map RV.abs ∧ rs.length = i ∧ Blk wr (N + 2) 43 #[.int .i64 t.cnt, .slice A t.cn c, .bool t.more, .int .i64 t.sk, .string st, .slice A' i c'] ∧ wr.ownsRow (N + 3) 107 8 (.slice A t.cn c) t.cn (t.cols.flatMap cvC) ∧
    wr.ownsRow (N + 3) 108 1 (.slice A' i c') i (rs.map fun r => .slice r.a r.n r.c) ∧ (∀ r ∈ rs, r.vs.length = r.n ∧ SlK wr (fun k e => N + 3 ≤ k ∧ e = 40) 2 (.slice r.a r.n r.c) r.n (r.vs.flatMap xvC)) ∧ Kept (fun k => k = N + 2) W3 wr
set_option maxHeartbeats 8000000 in
set_option maxRecDepth 100000 in
theorem tabOf_at {w : World} {B : Nat} {t : TV2} (h : TblIn w B t) (hs : TblS t) :
    Calls Tryz.prog 12 #[t.v] w fun e w' => ∃ x : XT, e = .returned x.v ∧ XTAt w' w'.heap.size x ∧ x.names = t.names ∧ x.vals = t.vals ∧ x.cn = t.cn ∧ x.rn = t.rn ∧ Kept noBlock w w' := by
  obtain ⟨sl, hsl, hst⟩ := h.st
  have hk2 : Kept noBlock w ((w.alloc (.cells #[.int .i64 t.cnt, .slice t.ca t.cn t.cc, .bool t.more, .int .i64 t.sk, .slice t.sa t.sn t.sc, .slice t.ra t.rn t.rc] 28)).alloc (.cells x0C 43)) := ((Kept.refl noBlock w).alloc _).alloc _
  have hcv : ∀ W, Kept noBlock w W → (convert 23 9 (.slice t.sa t.sn t.sc)).run Tryz.prog W = .ok (.string (bS sl)) W := fun W hW => bytes_str (SlK.keptNone hst hW)
  have hc2 := hcv _ hk2
  have hB0 := Blk.new w 28 #[.int .i64 t.cnt, .slice t.ca t.cn t.cc, .bool t.more, .int .i64 t.sk, .slice t.sa t.sn t.sc, .slice t.ra t.rn t.rc]
  have b0 := (hB0.alloc (.cells x0C 43)).cell 0
  have b2 := (hB0.alloc (.cells x0C 43)).cell 2
  have b3 := (hB0.alloc (.cells x0C 43)).cell 3
  have b4 := (hB0.alloc (.cells x0C 43)).cell 4
  simp only [List.getElem?_toArray, List.getElem?_cons_succ, List.getElem?_cons_zero] at b0 b2 b3 b4
  have hlc := h.tbl.cs.run_len colsT
  have hlr := h.tbl.rs.run_len rowsT
  have H := Lib.hid h
  have HS := Lib.hid hs
  have HK2 := Lib.hid hk2
  have HB0 := Lib.hid hB0
  have hcn := hs.cn
  have hrn := hs.rn
  clear h hs hsl hst hk2 hcv hB0
  unfold TV2.v
  unfold x0C at b0 b2 b3 b4 hc2
  go_enter Tryz.func12, Tryz.ntmps12
  go_wp2_with fail
  clear b0 b2 b3 b4 hc2
  have HBP : Hid (Blk (((w.alloc (.cells #[.int .i64 t.cnt, .slice t.ca t.cn t.cc, .bool t.more, .int .i64 t.sk, .slice t.sa t.sn t.sc, .slice t.ra t.rn t.rc] 28)).alloc (.cells #[.int .i64 0, .slice none 0 0, .bool false, .int .i64 0, .string ⟨#[]⟩, .slice none 0 0] 43)).alloc (.cells #[.int .i64 t.cnt, .slice none 0 0, .bool t.more, .int .i64 t.sk, .string (bS sl), .slice none 0 0] 43)) w.heap.size 28 #[.int .i64 t.cnt, .slice t.ca t.cn t.cc, .bool t.more, .int .i64 t.sk, .slice t.sa t.sn t.sc, .slice t.ra t.rn t.rc]) := Lib.hid ((HB0.out.alloc _).alloc _)
  have HBR : Hid (Blk (((w.alloc (.cells #[.int .i64 t.cnt, .slice t.ca t.cn t.cc, .bool t.more, .int .i64 t.sk, .slice t.sa t.sn t.sc, .slice t.ra t.rn t.rc] 28)).alloc (.cells #[.int .i64 0, .slice none 0 0, .bool false, .int .i64 0, .string ⟨#[]⟩, .slice none 0 0] 43)).alloc (.cells #[.int .i64 t.cnt, .slice none 0 0, .bool t.more, .int .i64 t.sk, .string (bS sl), .slice none 0 0] 43)) (w.heap.size + 1) 43 x0C) := Lib.hid (Blk.alloc (Blk.new_at _ _ _ (by rw [sz_alloc])) _)
  have HBO : Hid (Blk (((w.alloc (.cells #[.int .i64 t.cnt, .slice t.ca t.cn t.cc, .bool t.more, .int .i64 t.sk, .slice t.sa t.sn t.sc, .slice t.ra t.rn t.rc] 28)).alloc (.cells #[.int .i64 0, .slice none 0 0, .bool false, .int .i64 0, .string ⟨#[]⟩, .slice none 0 0] 43)).alloc (.cells #[.int .i64 t.cnt, .slice none 0 0, .bool t.more, .int .i64 t.sk, .string (bS sl), .slice none 0 0] 43)) (w.heap.size + 2) 43 #[.int .i64 t.cnt, .slice none 0 0, .bool t.more, .int .i64 t.sk, .string (bS sl), .slice none 0 0]) := Lib.hid (Blk.new_at _ _ _ (by rw [sz_alloc, sz_alloc]))
  have HK3 : Hid (Kept noBlock w (((w.alloc (.cells #[.int .i64 t.cnt, .slice t.ca t.cn t.cc, .bool t.more, .int .i64 t.sk, .slice t.sa t.sn t.sc, .slice t.ra t.rn t.rc] 28)).alloc (.cells #[.int .i64 0, .slice none 0 0, .bool false, .int .i64 0, .string ⟨#[]⟩, .slice none 0 0] 43)).alloc (.cells #[.int .i64 t.cnt, .slice none 0 0, .bool t.more, .int .i64 t.sk, .string (bS sl), .slice none 0 0] 43))) := Lib.hid (HK2.out.alloc _)
  have HZ3 : Hid ((((w.alloc (.cells #[.int .i64 t.cnt, .slice t.ca t.cn t.cc, .bool t.more, .int .i64 t.sk, .slice t.sa t.sn t.sc, .slice t.ra t.rn t.rc] 28)).alloc (.cells #[.int .i64 0, .slice none 0 0, .bool false, .int .i64 0, .string ⟨#[]⟩, .slice none 0 0] 43)).alloc (.cells #[.int .i64 t.cnt, .slice none 0 0, .bool t.more, .int .i64 t.sk, .string (bS sl), .slice none 0 0] 43)).heap.size = w.heap.size + 3) := Lib.hid (by rw [sz_alloc, sz_alloc, sz_alloc])
  generalize hw3 : (((w.alloc (.cells #[.int .i64 t.cnt, .slice t.ca t.cn t.cc, .bool t.more, .int .i64 t.sk, .slice t.sa t.sn t.sc, .slice t.ra t.rn t.rc] 28)).alloc (.cells #[.int .i64 0, .slice none 0 0, .bool false, .int .i64 0, .string ⟨#[]⟩, .slice none 0 0] 43)).alloc (.cells #[.int .i64 t.cnt, .slice none 0 0, .bool t.more, .int .i64 t.sk, .string (bS sl), .slice none 0 0] 43)) = W3 at *
  have HW3 := Lib.hid hw3
  clear hw3 HB0 HK2
  generalize hst : bS sl = st at *
  go_loopg [4] t.cn (fun j vi wr => ∃ i : Nat, i + j = t.cn ∧ vi = .int .i64 i ∧ TofC W3 w.heap.size t st i wr)
  case atStart => exact ⟨0, by omega, rfl, none, 0, HBO.out, World.ownsRow_nil _ _ _ _, Kept.refl _ _⟩
  case round =>
    obtain ⟨i, hij, rfl, A, c, hblk, hown, hk⟩ := hrel
    have HIJ := Lib.hid hij
    have HK := Lib.hid hk
    have hkw : Kept noBlock w wr := HK3.out.trans hk fun k hlt e => by omega
    have HKW := Lib.hid hkw
    have HOWN := Lib.hid hown
    have HBLK := Lib.hid hblk
    have hz := hk.size
    rw [HZ3.out] at hz
    have HZ := Lib.hid hz
    by_cases hlt : i < t.cn
    · have q1 := (HBP.out.kept hk (by omega)).cell 1
      simp only [List.getElem?_toArray, List.getElem?_cons_succ, List.getElem?_cons_zero] at q1
      obtain ⟨x, hx⟩ : ∃ x, t.cols[i]? = some x := ⟨_, List.getElem?_eq_getElem (by rw [H.out.tbl.cl]; exact hlt)⟩
      obtain ⟨g, off, hidx, hgl, y0, y1, y2, y3, y4, y5, y6, y7⟩ := col_at (SlK.keptNone H.out.tbl.cs hkw) hx
      have HX := Lib.hid hx
      obtain ⟨x1, x2, x3, x4, x5, x6, x7, x8, x9, z1, z2, z3⟩ := x
      simp only [] at y0 y1 y2 y3 y4 y5 y6 y7
      have hbm := Blk.new wr 90 #[.string x1, .string x2, .string x3, .int .u16 x4, .string x5, .string x6, .slice x7 x8 x9, .slice z1 z2 z3]
      have hb4 := hblk.alloc (.cells #[.string x1, .string x2, .string x3, .int .u16 x4, .string x5, .string x6, .slice x7 x8 x9, .slice z1 z2 z3] 90)
      have p1 := hb4.cell 1
      have m0 := hbm.cell 0
      have m1 := hbm.cell 1
      have m2 := hbm.cell 2
      have m3 := hbm.cell 3
      have m4 := hbm.cell 4
      have m5 := hbm.cell 5
      have m6 := hbm.cell 6
      have m7 := hbm.cell 7
      simp only [List.getElem?_toArray, List.getElem?_cons_succ, List.getElem?_cons_zero] at p1 m0 m1 m2 m3 m4 m5 m6 m7
      clear hij hk hkw hown hblk hx hbm hb4
      go_wp2_with (at_builtin; go_must (refine wpList_append_sl _ c10sT rfl (.tmp 35) (.tmp 45) rfl (w.heap.size + 3) _ i ((t.cols.take i).flatMap cvC) rfl (World.ownsRow.alloc (World.ownsRow.alloc HOWN.out _) _) _ 1 [.string x1, .string x2, .string x3, .int .u16 x4, .string x5, .string x6, .slice x7 x8 x9, .slice z1 z2 z3] rfl (Sl.made_at (Blk.new_at (k := wr.heap.size + 1) (wr.alloc (.cells #[.string x1, .string x2, .string x3, .int .u16 x4, .string x5, .string x6, .slice x7 x8 x9, .slice z1 z2 z3] 90)) 107 #[.string x1, .string x2, .string x3, .int .u16 x4, .string x5, .string x6, .slice x7 x8 x9, .slice z1 z2 z3] (by rw [sz_alloc])) _ rfl rfl one_max) (by simp [Value.oneCell']) ?c1 ?c2 ?_))
      case c1 => omega
      case c2 => simp only [sz_alloc]; have := HZ.out; omega
      intro v' w6 hap
      have hrow := World.ownsRow.alloc (World.ownsRow.alloc HOWN.out (.cells #[.string x1, .string x2, .string x3, .int .u16 x4, .string x5, .string x6, .slice x7 x8 x9, .slice z1 z2 z3] 90)) (.cells #[.string x1, .string x2, .string x3, .int .u16 x4, .string x5, .string x6, .slice x7 x8 x9, .slice z1 z2 z3] 107)
      have hb6 := Blk.kept ((HBLK.out.alloc (.cells #[.string x1, .string x2, .string x3, .int .u16 x4, .string x5, .string x6, .slice x7 x8 x9, .slice z1 z2 z3] 90)).alloc (.cells #[.string x1, .string x2, .string x3, .int .u16 x4, .string x5, .string x6, .slice x7 x8 x9, .slice z1 z2 z3] 107)) hap.kept fun hv => by have := (own_type hrow hv).1; omega
      have hk6 := hap.below hrow ((HK.out.alloc (.cells #[.string x1, .string x2, .string x3, .int .u16 x4, .string x5, .string x6, .slice x7 x8 x9, .slice z1 z2 z3] 90)).alloc (.cells #[.string x1, .string x2, .string x3, .int .u16 x4, .string x5, .string x6, .slice x7 x8 x9, .slice z1 z2 z3] 107)) (Nat.le_of_eq HZ3.out)
      obtain ⟨A6, c6, rfl, -, -⟩ := (Sl.of_own hap.own).shape
      have f1 := hb6.frozen 1
      have d1 := hb6.cell 1
      simp only [List.getElem?_toArray, List.getElem?_cons_succ, List.getElem?_cons_zero] at d1
      have FIN : Hid (TofC W3 w.heap.size t st (i + 1) (w6.setCell ⟨w.heap.size + 2, 1, none⟩ (.slice A6 (i + 1) c6))) := Lib.hid ⟨A6, c6, hb6.set_ 1 (.slice A6 (i + 1) c6), by
        have ho := hap.own
        have e : (t.cols.take (i + 1)).flatMap cvC = (t.cols.take i).flatMap cvC ++ cvC ⟨x1, x2, x3, x4, x5, x6, x7, x8, x9, z1, z2, z3⟩ := by rw [List.take_add_one, HX.out, List.flatMap_append]; simp
        rw [e]
        exact own_kept ho ((Kept.refl (fun k => k = w.heap.size + 2) w6).setCell (p := ⟨w.heap.size + 2, 1, none⟩) (fun _ => rfl) _) fun g cs hg hb => by omega, hk6.setCell (fun _ => rfl) _⟩
      clear hap hrow hb6 hk6 p1 m0 m1 m2 m3 m4 m5 m6 m7 q1 y0 y1 y2 y3 y4 y5 y6 y7
      go_wp2_with fail
      go_roundg (t.cn - (i + 1))
      case measure => have := HIJ.out; omega
      case rel => exact ⟨i + 1, by have := HIJ.out; omega, by go_num, FIN.out⟩
    · obtain rfl : i = t.cn := by omega
      have START : Hid (TofR W3 w.heap.size t st A c 0 wr) := Lib.hid ⟨none, 0, [], rfl, rfl, hblk, by rw [List.take_of_length_le (Nat.le_of_eq H.out.tbl.cl)] at hown; exact hown, World.ownsRow_nil _ _ _ _, fun r hr => (by cases hr), hk⟩
      have q1 := (HBP.out.kept hk (by omega)).cell 1
      simp only [List.getElem?_toArray, List.getElem?_cons_succ, List.getElem?_cons_zero] at q1
      clear hij hk hkw hown hblk hz
      go_wp2_with fail
      clear q1 HK HKW HOWN HBLK HZ
      go_loopg [6] t.rn (fun j vi wx => ∃ i : Nat, i + j = t.rn ∧ vi = .int .i64 i ∧ TofR W3 w.heap.size t st A c i wx)
      case atStart => exact ⟨0, by omega, rfl, START.out⟩
      case round =>
        obtain ⟨i, hij, rfl, A', c', rs, hrs, hrl, hblk, hoc, hor, hrr, hk⟩ := hrel
        generalize hwr : wr = W0 at *
        clear hwr
        have HIJ := Lib.hid hij
        have HRS := Lib.hid hrs
        have HRL := Lib.hid hrl
        have HBLK := Lib.hid hblk
        have HOC := Lib.hid hoc
        have HOR := Lib.hid hor
        have HRR := Lib.hid hrr
        have HK := Lib.hid hk
        have hkw : Kept noBlock w W0 := HK3.out.trans hk fun k hlt e => by omega
        have HKW := Lib.hid hkw
        have hbp := HBP.out.kept hk (by omega)
        have hz := hk.size
        rw [HZ3.out] at hz
        have HZ := Lib.hid hz
        have q5 := hbp.cell 5
        simp only [List.getElem?_toArray, List.getElem?_cons_succ, List.getElem?_cons_zero] at q5
        have HQ5 := Lib.hid q5
        clear hij hrs hrl hoc hor hrr hk hz
        by_cases hlt : i < t.rn
        · obtain ⟨r, hr⟩ : ∃ r, t.rows[i]? = some r := ⟨_, List.getElem?_eq_getElem (by rw [H.out.tbl.rl]; exact hlt)⟩
          have hrv := H.out.tbl.rr r (List.mem_of_getElem? hr)
          have hlv := hrv.2.1.run_len valsT
          have hr30 := (HS.out.row r (List.mem_of_getElem? hr)).1
          obtain ⟨gr, ofr, hidxr, -, y0⟩ := row_at (SlK.keptNone H.out.tbl.rs hkw) hr
          have HY0 := Lib.hid y0
          have HRV := Lib.hid hrv
          have HR := Lib.hid hr
          obtain ⟨ra, rn, rc, rvs⟩ := r
          simp only [] at hlv hr30 y0
          clear hkw hblk hbp hrv hr
          go_wp2_with fail
          clear q5 y0
          go_loopg [7, 8] rn (fun j vo vk wx => ∃ (k : Nat) (Ar : Option Addr) (cr : Nat), k + j = rn ∧ vk = .int .i64 k ∧ vo = .slice Ar k cr ∧ wx.ownsRow W0.heap.size 40 2 (.slice Ar k cr) k (((rvs.take k).map VV.abs).flatMap xvC) ∧ Kept noBlock W0 wx)
          case atStart => exact ⟨0, none, 0, by omega, rfl, rfl, World.ownsRow_nil _ _ _ _, Kept.refl _ _⟩
          case round =>
            obtain ⟨k, Ar, cr, hkj, rfl, rfl, hown, hkx⟩ := hrel
            have HKJ := Lib.hid hkj
            have HOWN := Lib.hid hown
            have HKX := Lib.hid hkx
            have q5 := hkx.cellOf HQ5.out
            have y0 := hkx.cellOf HY0.out
            by_cases hlt2 : k < rn
            · obtain ⟨x, hx⟩ : ∃ x, rvs[k]? = some x := ⟨_, List.getElem?_eq_getElem (by have := HRV.out.1; simp only at this; omega)⟩
              obtain ⟨gv, ofv, hidxv, -, v0, v1⟩ := val_at (SlK.keptNone HRV.out.2.1 HKW.out) hx
              have HCV := Lib.hid (fun (W : World) (hW : Kept noBlock w W) => bytes_str (SlK.keptNone (HRV.out.2.2 x (List.mem_of_getElem? hx)).2 hW))
              have HX := Lib.hid hx
              obtain ⟨xk, xa, xn, xc, xl⟩ := x
              simp only [] at v0 v1 HCV
              have HV0 := Lib.hid v0
              have HV1 := Lib.hid v1
              have HTK : Hid (((rvs.take (k + 1)).map VV.abs).flatMap xvC = ((rvs.take k).map VV.abs).flatMap xvC ++ [.int .i64 xk, .string (bS xl)]) := Lib.hid (by rw [List.take_add_one, HX.out, List.map_append, List.flatMap_append]; rfl)
              clear hkj hown hkx hx v0 v1
              go_wp2_with fail
              clear q5 y0
              refine wp_region_sch (fun w' => Kept noBlock W0 w') (.take 0 (.take 1 (.take 2 (.take 3 (.take 4 (.take 5 (.take 6 (.take 7 (.take 8 (.take 9 (.take 10 (.take 11 (.take 12 (.take 13 (.take 14 (.take 15 (.take 16 (.take 17 (.take 18 (.take 19 (.take 20 (.one 21 (.one 22 (.take 23 .nil)))))))))))))))))))))))) (by kernel_rfl) (by kernel_rfl) (by kernel_rfl) HKX.out.drew ?_
              repeat (first
                | (refine sch_takeE rfl rfl ?_
                   apply Exists.intro
                   refine ⟨fun w' hS => ?_, fun K hK => ?_⟩
                   · (have q0 := hS.cellOf HQ5.out
                      have q1 := hS.cellOf HY0.out
                      have q2 := hS.cellOf HV0.out
                      have q3 := hS.cellOf HV1.out
                      have q4 := HCV.out w' (HKW.out.trans hS fun _ _ e => e)
                      clear hS
                      unfold takesAt; go_simp; rfl)
                   go_simp
                   refine hK _ ?_
                   clear hK K))
              refine sch_doK rfl rfl (fun K hK => ?_)
              go_simp
              refine hK _ _ ((HKX.out.alloc _).drew) ?_
              clear hK K
              refine sch_doK rfl rfl (fun K hK => ?_)
              refine wp_append_sl _ v02sT (.tmp 65) (.tmp 86) rfl W0.heap.size _ k (((rvs.take k).map VV.abs).flatMap xvC) rfl ((World.ownsRow.alloc HOWN.out (.cells #[.int .i64 xk, .string (bS xl)] 40)).drew) _ 1 [.int .i64 xk, .string (bS xl)] rfl (Sl.made_at (Blk.drew (Blk.new wr 40 #[.int .i64 xk, .string (bS xl)])) _ rfl rfl one_max) (by simp [Value.oneCell']) ?d1 ?d2 ?_
              case d1 => omega
              case d2 => have := HKX.out.size; simp; omega
              intro v5 w5 hap
              have hrow := (World.ownsRow.alloc HOWN.out (.cells #[.int .i64 xk, .string (bS xl)] 40)).drew
              have hk5 := hap.below hrow ((HKX.out.alloc (.cells #[.int .i64 xk, .string (bS xl)] 40)).drew) (Nat.le_refl _)
              obtain ⟨A5, c5, rfl, -, -⟩ := (Sl.of_own hap.own).shape
              have FIN : Hid (w5.ownsRow W0.heap.size 40 2 (.slice A5 (k + 1) c5) (k + 1) (((rvs.take (k + 1)).map VV.abs).flatMap xvC) ∧ Kept noBlock W0 w5) := Lib.hid ⟨by rw [HTK.out]; exact hap.own, hk5⟩
              refine hK _ _ hk5 ?_
              clear hK K hk5 hap hrow
              repeat (first
                | (refine sch_takeE rfl rfl ?_
                   apply Exists.intro
                   refine ⟨fun w' hS => ?_, fun K hK => ?_⟩
                   · (clear hS
                      unfold takesAt; go_simp; rfl)
                   go_simp
                   refine hK _ ?_
                   clear hK K))
              refine sch_nil (NoPanic.normal ?_)
              go_wp2_with fail
              go_roundg (rn - (k + 1))
              case measure => have := HKJ.out; omega
              case rel => exact ⟨k + 1, A5, c5, by have := HKJ.out; omega, by go_num, rfl, FIN.out.1, FIN.out.2⟩
            · obtain rfl : k = rn := by omega
              have htk : rvs.take k = rvs := List.take_of_length_le (by have := HRV.out.1; simp only at this; omega)
              have HB6 := Lib.hid (HBLK.out.kept hkx fun e => e)
              have d5 := HB6.out.cell 5
              simp only [List.getElem?_toArray, List.getElem?_cons_succ, List.getElem?_cons_zero] at d5
              have HOR6 := Lib.hid (own_keptL HOR.out hkx (fun _ _ e => e))
              have hzx := hkx.size
              have HZX := Lib.hid hzx
              clear hkj hown hkx
              go_wp2_with (at_builtin; go_must (refine wpList_append_sl _ v02ssT rfl (.tmp 89) (.tmp 91) rfl (w.heap.size + 3) _ i (rs.map fun r => .slice r.a r.n r.c) rfl (World.ownsRow.alloc HOR6.out _) _ 1 [.slice Ar k cr] rfl (Sl.made_at (Blk.new _ 108 #[.slice Ar k cr]) _ rfl rfl one_max) (by simp [Value.oneCell']) ?c1 ?c2 ?_))
              case c1 => have := HIJ.out; omega
              case c2 => simp only [sz_alloc]; have := HZ.out; omega
              intro v' w6 hap
              have hrow := World.ownsRow.alloc HOR6.out (.cells #[.slice Ar k cr] 108)
              have hb6 := Blk.kept (HB6.out.alloc (.cells #[.slice Ar k cr] 108)) hap.kept fun hv => by have := (own_type hrow hv).1; omega
              have hk6 := hap.below hrow (((HK.out.trans HKX.out fun _ _ e => e.elim).alloc (.cells #[.slice Ar k cr] 108))) (Nat.le_of_eq HZ3.out)
              obtain ⟨A6, c6, rfl, -, -⟩ := (Sl.of_own hap.own).shape
              have f5 := hb6.frozen 5
              have e5 := hb6.cell 5
              simp only [List.getElem?_toArray, List.getElem?_cons_succ, List.getElem?_cons_zero] at e5
              have hkS : Kept (fun k => k = w.heap.size + 2) w6 (w6.setCell ⟨w.heap.size + 2, 5, none⟩ (.slice A6 (i + 1) c6)) := (Kept.refl (fun k => k = w.heap.size + 2) w6).setCell (p := ⟨w.heap.size + 2, 5, none⟩) (fun _ => rfl) _
              have FIN : Hid (TofR W3 w.heap.size t st A c (i + 1) (w6.setCell ⟨w.heap.size + 2, 5, none⟩ (.slice A6 (i + 1) c6))) := Lib.hid ⟨A6, c6, rs ++ [⟨Ar, k, cr, rvs.map VV.abs⟩], by rw [List.take_add_one, HR.out, List.map_append, List.map_append, HRS.out]; rfl, by rw [List.length_append, HRL.out]; rfl, hb6.set_ 5 (.slice A6 (i + 1) c6),
                own_keptL (own_kept (World.ownsRow.alloc (own_keptL HOC.out HKX.out (fun _ _ e => e)) _) hap.kept fun g cs hg hb hc => by
                  obtain ⟨_, cs', hh⟩ := own_type hrow hg
                  rw [hh] at hc
                  injection hc with hc
                  injection hc with _ h2
                  exact absurd h2 (by decide)) hkS (fun g hb e => by omega),
                own_keptL (by rw [List.map_append]; exact hap.own) hkS (fun g hb e => by omega), fun r hr => by
                  rcases List.mem_append.1 hr with hr | hr
                  · exact ⟨(HRR.out r hr).1, (((((HRR.out r hr).2.keptNone HKX.out).alloc _).appendedT hap hrow fun g e' ho => by rw [ho.2]; decide).keptAll hkS fun g _ ho e => by have := ho.1; omega)⟩
                  · obtain rfl : r = _ := by simpa using hr
                    refine ⟨by rw [List.length_map]; have := HRV.out.1; simp only at this; exact this, ?_⟩
                    have h0 := SlK.of_ownB HOWN.out
                    rw [htk] at h0
                    exact ((((h0.any fun g e _ h => ⟨Nat.le_trans HZ.out h.1, h.2⟩).alloc _).appendedT hap hrow fun g e' ho => by rw [ho.2]; decide).keptAll hkS fun g _ ho e => by have := ho.1; omega), hk6.setCell (fun _ => rfl) _⟩
              clear hap hrow hb6 hk6 hkS htk q5 y0 d5
              go_wp2_with fail
              go_roundg (t.rn - (i + 1))
              case measure => have := HIJ.out; omega
              case rel => exact ⟨i + 1, by have := HIJ.out; omega, by go_num, FIN.out⟩
        · obtain rfl : i = t.rn := by have := HIJ.out; omega
          have d0 := hblk.cell 0
          have d1 := hblk.cell 1
          have d2 := hblk.cell 2
          have d3 := hblk.cell 3
          have d4 := hblk.cell 4
          have d5 := hblk.cell 5
          simp only [List.getElem?_toArray, List.getElem?_cons_succ, List.getElem?_cons_zero] at d0 d1 d2 d3 d4 d5
          have hbr := HBR.out.kept HK.out (by omega)
          have g0 := hbr.frozen 0
          have g1 := hbr.frozen 1
          have g2 := hbr.frozen 2
          have g3 := hbr.frozen 3
          have g4 := hbr.frozen 4
          have g5 := hbr.frozen 5
          have e0 := hbr.cell 0
          have e1 := hbr.cell 1
          have e2 := hbr.cell 2
          have e3 := hbr.cell 3
          have e4 := hbr.cell 4
          have e5 := hbr.cell 5
          simp only [List.getElem?_toArray, List.getElem?_cons_succ, List.getElem?_cons_zero] at e0 e1 e2 e3 e4 e5
          have hq := (((((hbr.set_ 0 (.int .i64 t.cnt)).set_ 1 (.slice A t.cn c)).set_ 2 (.bool t.more)).set_ 3 (.int .i64 t.sk)).set_ 4 (.string st)).set_ 5 (.slice A' t.rn c')
          have hkS : Kept (fun k => k = w.heap.size + 1) W0 ((((((W0.setCell ⟨w.heap.size + 1, 0, none⟩ (.int .i64 t.cnt)).setCell ⟨w.heap.size + 1, 1, none⟩ (.slice A t.cn c)).setCell ⟨w.heap.size + 1, 2, none⟩ (.bool t.more)).setCell ⟨w.heap.size + 1, 3, none⟩ (.int .i64 t.sk)).setCell ⟨w.heap.size + 1, 4, none⟩ (.string st)).setCell ⟨w.heap.size + 1, 5, none⟩ (.slice A' t.rn c')) := ((((((Kept.refl (fun k => k = w.heap.size + 1) W0).setCell (p := ⟨w.heap.size + 1, 0, none⟩) (fun _ => rfl) _).setCell (p := ⟨w.heap.size + 1, 1, none⟩) (fun _ => rfl) _).setCell (p := ⟨w.heap.size + 1, 2, none⟩) (fun _ => rfl) _).setCell (p := ⟨w.heap.size + 1, 3, none⟩) (fun _ => rfl) _).setCell (p := ⟨w.heap.size + 1, 4, none⟩) (fun _ => rfl) _).setCell (p := ⟨w.heap.size + 1, 5, none⟩) (fun _ => rfl) _
          have HQ := Lib.hid hq
          have HKS := Lib.hid hkS
          clear hkw hblk hbp hbr hq hkS
          go_wp2
          have k0 := HQ.out.cell 0
          have k1 := HQ.out.cell 1
          have k2 := HQ.out.cell 2
          have k3 := HQ.out.cell 3
          have k4 := HQ.out.cell 4
          have k5 := HQ.out.cell 5
          simp at k0 k1 k2 k3 k4 k5
          refine tabOf_ret rfl k0 k1 k2 k3 k4 k5 ⟨⟨t.cnt, A, t.cn, c, t.more, t.sk, st, A', t.rn, c', t.cols, rs⟩, rfl, ⟨H.out.tbl.cl, ?_, HRL.out, ?_, fun r hr => ⟨(HRR.out r hr).1, ?_⟩⟩, rfl, ?_, rfl, rfl, HKW.out.trans HKS.out fun k hlt e => by omega⟩
          · exact ((SlK.of_ownB HOC.out).keptAll HKS.out fun g _ ho e => by have := ho.1; omega).lo
          · exact ((SlK.of_ownB HOR.out).keptAll HKS.out fun g _ ho e => by have := ho.1; omega).lo
          · exact ((HRR.out r hr).2.keptAll HKS.out fun g _ ho e => by have := ho.1; omega).lo
          · show rs.map XR.vs = t.rows.map RV.abs
            rw [HRS.out, List.take_of_length_le (Nat.le_of_eq H.out.tbl.rl)]
end Go.Proofs.YtdcdefkloibfnaaGreatDoor
namespace Go.Proofs.YtdcdefkloibfnaaGreatDoor
set_option linter.unusedVariables false
open Go.RowKit

set_option maxHeartbeats 2000000 in
set_option maxRecDepth 100000 in
theorem size_at {B : Nat} : ∀ (d : Nat) (x : OV) (w : World), OptAt w B d x.ka x.kn x.kc → Calls Tryz.prog 51 #[.agg (ovC x).toArray] w fun e w' => ∃ k : Int, e = .returned (.int .i64 k) ∧ Kept noBlock w w'
  | 0, x, w, h => h.elim
  | d + 1, x, w, h => by
    obtain ⟨L, hL, hs, hx⟩ := h
    obtain ⟨id, sp, nm, na, nn, nc, ka, kn, kc⟩ := x
    simp only at hL hs hx
    have hb := Blk.new w 88 (ovC ⟨id, sp, nm, na, nn, nc, ka, kn, kc⟩).toArray
    have hk1 : Kept noBlock w (w.alloc (.cells (ovC ⟨id, sp, nm, na, nn, nc, ka, kn, kc⟩).toArray 88)) := (Kept.refl noBlock w).alloc _
    have IH : Hid (∀ x ∈ L, ∀ w', Kept noBlock w w' → Calls Tryz.prog 51 #[.agg (ovC x).toArray] w' fun e w'' => ∃ k : Int, e = .returned (.int .i64 k) ∧ Kept noBlock w' w'') := Lib.hid fun x hm w' hk => size_at d x w' (OptAt.kept (S := noBlock) hk (fun _ _ e => e) (hx x hm))
    have hkn : kn ≤ 9223372036854775807 := by obtain ⟨_, _, hv, h1, h2⟩ := hs.shape; cases hv; unfold maxLen at h2; omega
    have hlen := hs.run_len optsT
    have HS := Lib.hid hs
    have HL := Lib.hid hL
    have HB := Lib.hid hb
    have HK1 := Lib.hid hk1
    clear hs hL hx hb hk1
    unfold ovC at HB HK1 ⊢
    simp only [] at HB HK1 ⊢
    go_enter Tryz.func51, Tryz.ntmps51
    go_wp2_with fail
    go_loopg [3, 4] kn (fun j vn vi wr => ∃ (i : Nat) (z : Int), i + j = kn ∧ vi = .int .i64 i ∧ vn = .int .i64 z ∧ Kept noBlock (w.alloc (.cells #[.int .u16 id, .string sp, .string nm, .slice na nn nc, .slice ka kn kc] 88)) wr)
    case atStart => exact ⟨0, 1, by omega, rfl, rfl, Kept.refl _ _⟩
    case round =>
      obtain ⟨i, z, hij, rfl, rfl, hk⟩ := hrel
      have HIJ := Lib.hid hij
      have q4 := (HB.out.kept hk fun e => e).cell 4
      simp only [List.getElem?_toArray, List.getElem?_cons_succ, List.getElem?_cons_zero] at q4
      have HK := Lib.hid (HK1.out.trans hk fun _ _ e => e)
      have HKR := Lib.hid hk
      by_cases hlt : i < kn
      · by_cases hz : z < 1000
        · obtain ⟨y, hy⟩ : ∃ y, L[i]? = some y := ⟨_, List.getElem?_eq_getElem (by rw [HL.out]; exact hlt)⟩
          obtain ⟨g, off, hidx, hgl, y0, y1, y2, y3, y4⟩ := opt_at (SlK.keptNone HS.out HK.out) hy
          have HC := Lib.hid (IH.out y (List.mem_of_getElem? hy) wr HK.out)
          obtain ⟨i1, s1, n1, a1, l1, c1, a2, l2, c2⟩ := y
          unfold ovC at HC
          simp only [] at HC y0 y1 y2 y3 y4
          clear hij hk hy
          go_wp2_with fail
          go_at_call 51
          refine HC.out.mono ?_
          rintro e w2 ⟨k, rfl, hk2⟩
          have HK2 := Lib.hid (HKR.out.trans hk2 fun _ _ e => e)
          clear hk2
          go_wp2_with fail
          go_roundg (kn - (i + 1))
          case measure => have := HIJ.out; omega
          case rel => exact ⟨i + 1, _, by have := HIJ.out; omega, by go_num, rfl, HK2.out⟩
        · clear hij hk
          go_wp2_with fail
          go_ret
          first | exact ⟨_, rfl, HK.out⟩ | exact ⟨⟨_, rfl⟩, HK.out⟩ | exact ⟨rfl, HK.out⟩ | exact ⟨.inl rfl, HK.out⟩ | exact ⟨.inr rfl, HK.out⟩
      · clear hij hk
        go_wp2_with fail
        go_ret
        first | exact ⟨_, rfl, HK.out⟩ | exact ⟨⟨_, rfl⟩, HK.out⟩ | exact ⟨rfl, HK.out⟩ | exact ⟨.inl rfl, HK.out⟩ | exact ⟨.inr rfl, HK.out⟩
set_option maxHeartbeats 2000000 in
set_option maxRecDepth 100000 in
theorem few_at {B : Nat} : ∀ (d : Nat) (x : OV) (deep : Int) (w : World), OptAt w B d x.ka x.kn x.kc → Calls Tryz.prog 27 #[.agg (ovC x).toArray, .int .i64 deep] w fun e w' => ∃ b : Bool, e = .returned (.bool b) ∧ Kept noBlock w w'
  | 0, x, deep, w, h => h.elim
  | d + 1, x, deep, w, h => by
    obtain ⟨L, hL, hs, hx⟩ := h
    obtain ⟨id, sp, nm, na, nn, nc, ka, kn, kc⟩ := x
    simp only at hL hs hx
    have hb := Blk.new w 88 (ovC ⟨id, sp, nm, na, nn, nc, ka, kn, kc⟩).toArray
    have hk1 : Kept noBlock w (w.alloc (.cells (ovC ⟨id, sp, nm, na, nn, nc, ka, kn, kc⟩).toArray 88)) := (Kept.refl noBlock w).alloc _
    have IH : Hid (∀ x ∈ L, ∀ (deep : Int) w', Kept noBlock w w' → Calls Tryz.prog 27 #[.agg (ovC x).toArray, .int .i64 deep] w' fun e w'' => ∃ b : Bool, e = .returned (.bool b) ∧ Kept noBlock w' w'') := Lib.hid fun x hm deep w' hk => few_at d x deep w' (OptAt.kept (S := noBlock) hk (fun _ _ e => e) (hx x hm))
    have IS : Hid (∀ x ∈ L, ∀ w', Kept noBlock w w' → Calls Tryz.prog 51 #[.agg (ovC x).toArray] w' fun e w'' => ∃ k : Int, e = .returned (.int .i64 k) ∧ Kept noBlock w' w'') := Lib.hid fun x hm w' hk => size_at d x w' (OptAt.kept (S := noBlock) hk (fun _ _ e => e) (hx x hm))
    have hkn : kn ≤ 9223372036854775807 := by obtain ⟨_, _, hv, h1, h2⟩ := hs.shape; cases hv; unfold maxLen at h2; omega
    have hlen := hs.run_len optsT
    have hlen2 := len_raw Tryz.underlying63 na nn nc
    have HS := Lib.hid hs
    have HL := Lib.hid hL
    have HB := Lib.hid hb
    have HK1 := Lib.hid hk1
    clear hs hL hx hb hk1
    unfold ovC at HB HK1 ⊢
    simp only [] at HB HK1 ⊢
    have b3 := HB.out.cell 3
    have b4 := HB.out.cell 4
    simp only [List.getElem?_toArray, List.getElem?_cons_succ, List.getElem?_cons_zero] at b3 b4
    by_cases h1 : 10 < kn
    · go_enter Tryz.func27, Tryz.ntmps27
      go_wp2_with fail
      go_ret
      first | exact ⟨_, rfl, HK1.out⟩ | exact ⟨⟨_, rfl⟩, HK1.out⟩ | exact ⟨rfl, HK1.out⟩ | exact ⟨.inl rfl, HK1.out⟩ | exact ⟨.inr rfl, HK1.out⟩
    by_cases h2 : 20 < nn
    · go_enter Tryz.func27, Tryz.ntmps27
      go_wp2_with fail
      go_ret
      first | exact ⟨_, rfl, HK1.out⟩ | exact ⟨⟨_, rfl⟩, HK1.out⟩ | exact ⟨rfl, HK1.out⟩ | exact ⟨.inl rfl, HK1.out⟩ | exact ⟨.inr rfl, HK1.out⟩
    by_cases h3 : 25 < deep
    · go_enter Tryz.func27, Tryz.ntmps27
      go_wp2_with fail
      go_ret
      first | exact ⟨_, rfl, HK1.out⟩ | exact ⟨⟨_, rfl⟩, HK1.out⟩ | exact ⟨rfl, HK1.out⟩ | exact ⟨.inl rfl, HK1.out⟩ | exact ⟨.inr rfl, HK1.out⟩
    go_enter Tryz.func27, Tryz.ntmps27
    go_wp2_with fail
    go_loopg [5, 6] kn (fun j vn vi wr => ∃ (i : Nat) (z : Int), i + j = kn ∧ vi = .int .i64 i ∧ vn = .int .i64 z ∧ Kept noBlock (w.alloc (.cells #[.int .u16 id, .string sp, .string nm, .slice na nn nc, .slice ka kn kc] 88)) wr)
    case atStart => exact ⟨0, 0, by omega, rfl, rfl, Kept.refl _ _⟩
    case round =>
      clear b3 b4
      obtain ⟨i, z, hij, rfl, rfl, hk⟩ := hrel
      have HIJ := Lib.hid hij
      have q4 := (HB.out.kept hk fun e => e).cell 4
      simp only [List.getElem?_toArray, List.getElem?_cons_succ, List.getElem?_cons_zero] at q4
      have HK := Lib.hid (HK1.out.trans hk fun _ _ e => e)
      have HKR := Lib.hid hk
      by_cases hlt : i < kn
      · obtain ⟨y, hy⟩ : ∃ y, L[i]? = some y := ⟨_, List.getElem?_eq_getElem (by rw [HL.out]; exact hlt)⟩
        obtain ⟨g, off, hidx, hgl, y0, y1, y2, y3, y4⟩ := opt_at (SlK.keptNone HS.out HK.out) hy
        have HC := Lib.hid (fun deep => IH.out y (List.mem_of_getElem? hy) deep wr HK.out)
        have HZ := Lib.hid (fun w' hk => IS.out y (List.mem_of_getElem? hy) w' hk)
        have HY := Lib.hid hy
        clear hij hk hy
        obtain ⟨i1, s1, n1, a1, l1, c1, a2, l2, c2⟩ := y
        unfold ovC at HC HZ
        simp only [] at HC HZ y0 y1 y2 y3 y4
        go_wp2_with fail
        go_at_call 27
        refine (HC.out _).mono ?_
        rintro e w2 ⟨b, rfl, hk2⟩
        have HK2 := Lib.hid (HKR.out.trans hk2 fun _ _ e => e)
        have HKW2 := Lib.hid (HK.out.trans hk2 fun _ _ e => e)
        have z0 := hk2.cellV y0
        have z1 := hk2.cellV y1
        have z2 := hk2.cellV y2
        have z3 := hk2.cellV y3
        have z4 := hk2.cellV y4
        have q4' := hk2.cellV q4
        clear hk2 y0 y1 y2 y3 y4 q4
        cases b with
        | false =>
          go_wp2_with fail
          go_ret
          first | exact ⟨_, rfl, HKW2.out⟩ | exact ⟨⟨_, rfl⟩, HKW2.out⟩ | exact ⟨rfl, HKW2.out⟩ | exact ⟨.inl rfl, HKW2.out⟩ | exact ⟨.inr rfl, HKW2.out⟩
        | true =>
          go_wp2_with fail
          go_at_call 51
          refine (HZ.out _ HKW2.out).mono ?_
          rintro e w3 ⟨k, rfl, hk3⟩
          have HK3 := Lib.hid (HK2.out.trans hk3 fun _ _ e => e)
          clear hk3
          go_wp2_with fail
          go_roundg (kn - (i + 1))
          case measure => have := HIJ.out; omega
          case rel => exact ⟨i + 1, _, by have := HIJ.out; omega, by go_num, rfl, HK3.out⟩
      · clear hij hk
        go_wp2_with fail
        go_ret
        first | exact ⟨_, rfl, HK.out⟩ | exact ⟨⟨_, rfl⟩, HK.out⟩ | exact ⟨rfl, HK.out⟩ | exact ⟨.inl rfl, HK.out⟩ | exact ⟨.inr rfl, HK.out⟩
end Go.Proofs.YtdcdefkloibfnaaGreatDoor
namespace Go.Proofs.YtdcdefkloibfnaaGreatDoor
set_option linter.unusedVariables false
open Go.RowKit

/-- What slight tells. -/
def SlightPost (w : World) (t : TV2) (e : Ending) (w' : World) : Prop := ∃ b : Bool, e = .returned (.bool b) ∧ (b = true → TblS t) ∧ Kept noBlock w w'
set_option maxHeartbeats 4000000 in
set_option maxRecDepth 100000 in
theorem slight_at {w : World} {B : Nat} {t : TV2} (h : TblIn w B t) : Calls Tryz.prog 9 #[t.v] w fun e w' => SlightPost w t e w' := by
  have hW1 : Kept noBlock w (w.alloc (.cells #[.int .i64 t.cnt, .slice t.ca t.cn t.cc, .bool t.more, .int .i64 t.sk, .slice t.sa t.sn t.sc, .slice t.ra t.rn t.rc] 28)) := (Kept.refl noBlock w).alloc _
  have hB1 := Blk.new w 28 #[.int .i64 t.cnt, .slice t.ca t.cn t.cc, .bool t.more, .int .i64 t.sk, .slice t.sa t.sn t.sc, .slice t.ra t.rn t.rc]
  have b1 := hB1.cell 1
  have b5 := hB1.cell 5
  simp only [List.getElem?_toArray, List.getElem?_cons_succ, List.getElem?_cons_zero] at b1 b5
  have hlc := h.tbl.cs.run_len colsT
  have hlr := h.tbl.rs.run_len rowsT
  have hcm : t.cn ≤ 9223372036854775807 := by obtain ⟨_, _, hv, h1, h2⟩ := h.tbl.cs.shape; cases hv; unfold maxLen at h2; omega
  have hrm : t.rn ≤ 9223372036854775807 := by obtain ⟨_, _, hv, h1, h2⟩ := h.tbl.rs.shape; cases hv; unfold maxLen at h2; omega
  have H := Lib.hid h
  have HB1 := Lib.hid hB1
  have HK1 := Lib.hid hW1
  clear h hB1 hW1
  unfold TV2.v
  by_cases h1 : 20 < t.cn
  · go_enter Tryz.func9, Tryz.ntmps9
    go_wp2_with fail
    go_ret
    exact ⟨_, rfl, fun h => (by cases h), HK1.out⟩
  by_cases h2 : 20 < t.rn
  · go_enter Tryz.func9, Tryz.ntmps9
    go_wp2_with fail
    go_ret
    exact ⟨_, rfl, fun h => (by cases h), HK1.out⟩
  generalize hw1 : (w.alloc (.cells #[.int .i64 t.cnt, .slice t.ca t.cn t.cc, .bool t.more, .int .i64 t.sk, .slice t.sa t.sn t.sc, .slice t.ra t.rn t.rc] 28)) = W1 at *
  have HW1 := Lib.hid hw1
  have H20 : Hid (t.cn ≤ 20 ∧ t.rn ≤ 20) := Lib.hid ⟨by omega, by omega⟩
  clear hw1
  go_enter Tryz.func9, Tryz.ntmps9
  go_wp2_with fail
  rw [HW1.out]
  go_loopg [3] t.cn (fun j vi wr => ∃ i : Nat, i + j = t.cn ∧ vi = .int .i64 i ∧ Kept noBlock W1 wr)
  case atStart => exact ⟨0, by omega, rfl, Kept.refl _ _⟩
  case round =>
    clear b1 b5
    obtain ⟨i, hij, rfl, hk⟩ := hrel
    have HIJ := Lib.hid hij
    have HK := Lib.hid hk
    have q1 := (HB1.out.kept hk fun e => e).cell 1
    have q5 := (HB1.out.kept hk fun e => e).cell 5
    simp only [List.getElem?_toArray, List.getElem?_cons_succ, List.getElem?_cons_zero] at q1 q5
    by_cases hlt : i < t.cn
    · obtain ⟨x, hx⟩ : ∃ x, t.cols[i]? = some x := ⟨_, List.getElem?_eq_getElem (by rw [H.out.tbl.cl]; exact hlt)⟩
      have hkw := HK1.out.trans hk fun _ _ e => e
      obtain ⟨g, off, hidx, hgl, y0, y1, y2, y3, y4, y5, y6, y7⟩ := col_at (SlK.keptNone H.out.tbl.cs hkw) hx
      obtain ⟨d, hd⟩ := (H.out.keptN hkw).col x (List.mem_of_getElem? hx)
      have HC := Lib.hid (few_at d ⟨x.id, x.osp, x.onm, x.na, x.nn, x.nc, x.ka, x.kn, x.kc⟩ 0 wr hd)
      obtain ⟨x1, x2, x3, x4, x5, x6, x7, x8, x9, z1, z2, z3⟩ := x
      unfold ovC at HC
      simp only [] at HC y0 y1 y2 y3 y4 y5 y6 y7
      clear hij hk hx hd hkw y0 y1 y2
      go_wp2_with fail
      go_at_call 27
      refine HC.out.mono ?_
      rintro e w2 ⟨b, rfl, hk2⟩
      have HK2 := Lib.hid (HK.out.trans hk2 fun _ _ e => e)
      clear hk2 y3 y4 y5 y6 y7 q1 q5
      cases b with
      | false =>
        go_wp2_with fail
        go_ret
        exact ⟨_, rfl, fun h => (by cases h), HK1.out.trans HK2.out fun _ _ e => e⟩
      | true =>
        go_wp2_with fail
        go_roundg (t.cn - (i + 1))
        case measure => have := HIJ.out; omega
        case rel => exact ⟨i + 1, by have := HIJ.out; omega, by go_num, HK2.out⟩
    · clear hij hk
      go_wp2_with fail
      have HKW := Lib.hid (HK1.out.trans HK.out fun _ _ e => e)
      generalize hwr : wr = W2 at *
      clear hwr
      have HWK := Lib.hid HK.out
      clear HIJ HK
      go_loopg [5] t.rn (fun j vi wx => ∃ i : Nat, i + j = t.rn ∧ vi = .int .i64 i ∧ (∀ r ∈ t.rows.take i, r.n ≤ 30 ∧ ∀ x ∈ r.vs, x.n ≤ 300) ∧ wx = W2)
      case atStart => exact ⟨0, by omega, rfl, fun r hr => by simp at hr, rfl⟩
      case round =>
        obtain ⟨i, hij, rfl, hall, rfl⟩ := hrel
        have HIJ := Lib.hid hij
        have HALL := Lib.hid hall
        have q1 := (HB1.out.kept HWK.out fun e => e).cell 1
        have q5 := (HB1.out.kept HWK.out fun e => e).cell 5
        simp only [List.getElem?_toArray, List.getElem?_cons_succ, List.getElem?_cons_zero] at q1 q5
        clear hij hall
        by_cases hlt : i < t.rn
        · obtain ⟨r, hr⟩ : ∃ r, t.rows[i]? = some r := ⟨_, List.getElem?_eq_getElem (by rw [H.out.tbl.rl]; exact hlt)⟩
          obtain ⟨g, off, hidx, hgl, y0⟩ := row_at (SlK.keptNone H.out.tbl.rs HKW.out) hr
          have hrv := H.out.tbl.rr r (List.mem_of_getElem? hr)
          have hlv := hrv.2.1.run_len valsT
          have hrm2 : r.n ≤ 9223372036854775807 := by obtain ⟨_, _, hv, h1, h2⟩ := hrv.2.1.shape; cases hv; unfold maxLen at h2; omega
          have HRV := Lib.hid hrv
          have HR := Lib.hid hr
          clear hrv hr
          obtain ⟨ra, rn, rc, rvs⟩ := r
          simp only [] at y0 hlv hrm2
          by_cases h30 : 30 < rn
          · go_wp2_with fail
            go_ret
            exact ⟨_, rfl, fun h => (by cases h), HKW.out⟩
          go_wp2_with fail
          generalize hwr : wr = W3 at *
          clear hwr
          go_loopg [6] rn (fun j vi wx => ∃ k : Nat, k + j = rn ∧ vi = .int .i64 k ∧ (∀ x ∈ rvs.take k, x.n ≤ 300) ∧ wx = W3)
          case atStart => exact ⟨0, by omega, rfl, fun r hr => by simp at hr, rfl⟩
          case round =>
            obtain ⟨k, hkj, rfl, hall3, hw3⟩ := hrel
            have HKJ := Lib.hid hkj
            have HALL3 := Lib.hid hall3
            clear hkj hall3
            subst hw3
            by_cases hlt3 : k < rn
            · obtain ⟨x, hx⟩ : ∃ x, rvs[k]? = some x := ⟨_, List.getElem?_eq_getElem (by have := HRV.out.1; simp only at this; omega)⟩
              obtain ⟨gx, ofx, hidxx, hgx, x0, x1⟩ := val_at (SlK.keptNone HRV.out.2.1 HKW.out) hx
              have hvx := HRV.out.2.2 x (List.mem_of_getElem? hx)
              have hlb := hvx.2.run_len bytesT
              have HX := Lib.hid hx
              clear hvx hx
              obtain ⟨xk, xa, xn, xc, xl⟩ := x
              simp only [] at x0 x1 hlb
              by_cases h300 : 300 < xn
              · go_wp2_with fail
                go_ret
                exact ⟨_, rfl, fun h => (by cases h), HKW.out⟩
              have H300 : Hid (xn ≤ 300) := Lib.hid (by omega)
              go_wp2_with fail
              go_roundg (rn - (k + 1))
              case measure => have := HKJ.out; omega
              case rel =>
                refine ⟨k + 1, by have := HKJ.out; omega, by go_num, fun y hy => ?_, rfl⟩
                rw [List.take_add_one, HX.out] at hy
                rcases List.mem_append.1 hy with hy | hy
                · exact HALL3.out y hy
                · simp at hy; subst hy; exact H300.out
            · have H30 : Hid (rn ≤ 30 ∧ ∀ x ∈ rvs, x.n ≤ 300) := Lib.hid ⟨by omega, fun x hx => HALL3.out x (by rw [List.take_of_length_le (by have := HRV.out.1; simp only at this; omega)]; exact hx)⟩
              go_wp2_with fail
              go_roundg (t.rn - (i + 1))
              case measure => have := HIJ.out; omega
              case rel =>
                refine ⟨i + 1, by have := HIJ.out; omega, by go_num, fun r hr => ?_, rfl⟩
                rw [List.take_add_one, HR.out] at hr
                rcases List.mem_append.1 hr with hr | hr
                · exact HALL.out r hr
                · simp at hr; subst hr; exact H30.out
        · have HS : Hid (TblS t) := Lib.hid ⟨H20.out.1, H20.out.2, fun r hr => HALL.out r (by rw [List.take_of_length_le (by rw [H.out.tbl.rl]; have := HIJ.out; omega)]; exact hr)⟩
          go_wp2_with fail
          go_ret
          exact ⟨_, rfl, fun _ => HS.out, HKW.out⟩
end Go.Proofs.YtdcdefkloibfnaaGreatDoor
namespace Go.Proofs.YtdcdefkloibfnaaGreatDoor
set_option linter.unusedVariables false
open Go.RowKit
open Go.ChangeMaps (setBlock)
section
variable {w : World} {ok ok' : Nat → Prop} {A A' : Option Addr} {n n' c c' : Nat} {l l' : List HV} {S S' : List Ho}
set_option maxHeartbeats 8000000 in
set_option maxRecDepth 100000 in
/-- Two rows of the same hosts are the same. -/
theorem R18Same_at (h : RL w ok A n c l S) (h' : RL w ok' A' n' c' l' S) (hn : S.length ≤ 100000) (ht : ∀ o ∈ S, o.toks.length ≤ 1000000) :
    Calls Tryz.prog 13 #[.slice A n c, .slice A' n' c'] w fun e w' => e = .returned (.bool true) ∧ Kept noBlock w w' := by
  have H := Lib.hid h
  have H' := Lib.hid h'
  have HT := Lib.hid ht
  have hSn := h.2.1
  obtain rfl : n = n' := h.2.1.symm.trans h'.2.1
  have HSN := Lib.hid hSn
  have hnn : n ≤ 100000 := by omega
  clear h h' hSn ht hn
  go_enter Tryz.func13, Tryz.ntmps13
  go_wp2_with fail
  go_loopg [5] n (fun j vi wr => ∃ i : Nat, i + j = n ∧ vi = .int .i64 i ∧ Kept noBlock w wr)
  case atStart => exact ⟨0, by omega, rfl, Kept.refl _ _⟩
  case round =>
    obtain ⟨i, hij, rfl, hk⟩ := hrel
    have HIJ := Lib.hid hij
    have HK := Lib.hid hk
    by_cases hi : i < n
    · obtain ⟨o, ho⟩ : ∃ o, S[i]? = some o := ⟨_, List.getElem?_eq_getElem (by have := HSN.out; omega)⟩
      obtain ⟨y, g, off, -, -, hidx, y0, y1, y2, y3, y4, yn, yt⟩ := (H.out.keptN hk).at ho
      obtain ⟨z, g', off', -, -, hidx', z0, z1, z2, z3, z4, zn, zt⟩ := (H'.out.keptN hk).at ho
      have hto : o.toks.length ≤ 1000000 := HT.out o (List.mem_of_getElem? ho)
      rw [yn] at y3
      rw [zn] at z3
      have HOI := Lib.hid ho
      have e0 := strEq_self o.name
      have e1 := strEq_self o.dc
      have e2 := strEq_self o.rack
      have e4 : (o.up != o.up) = false := by cases o.up <;> rfl
      have e5 : ((o.toks.length : Int) != (o.toks.length : Int)) = false := by simp
      obtain ⟨wo, rfl⟩ : ∃ wo : World, wo = wr := ⟨_, rfl⟩
      clear hij hk ho yn yt zn zt
      go_wp2_with fail
      go_quiet (fail)
      go_wp2_with fail
      clear hidx y0 y1 y2 y3 y4 hidx' z0 z1 z2 z3 z4 e0 e1 e2 e4 e5
      go_loopg [6] o.toks.length (fun jj vk wr => ∃ k : Nat, k + jj = o.toks.length ∧ vk = .int .i64 k ∧ Kept noBlock w wr)
      case atStart => exact ⟨0, by omega, rfl, HK.out.drewN _⟩
      case round =>
        obtain ⟨k, hkj, rfl, hk⟩ := hrel
        have HKJ := Lib.hid hkj
        have HKk := Lib.hid hk
        obtain ⟨y, g, off, -, -, hidx, -, -, -, y3, -, yn, yt⟩ := (H.out.keptN hk).at HOI.out
        obtain ⟨z, g', off', -, -, hidx', -, -, -, z3, -, zn, zt⟩ := (H'.out.keptN hk).at HOI.out
        rw [yn] at y3 yt
        rw [zn] at z3 zt
        by_cases hkn : k < o.toks.length
        · obtain ⟨t, htk⟩ : ∃ t, o.toks[k]? = some t := ⟨_, List.getElem?_eq_getElem hkn⟩
          obtain ⟨gt, ot, hidt, ct⟩ := tok_at yt htk
          obtain ⟨gt', ot', hidt', ct'⟩ := tok_at zt htk
          have e5 : (t != t) = false := by simp
          clear hkj hk yn yt zn zt htk
          go_wp2_with fail
          go_quiet (fail)
          go_wp2_with fail
          go_roundg (o.toks.length - (k + 1))
          case measure => have := HKJ.out; omega
          case rel => exact ⟨k + 1, by have := HKJ.out; omega, by go_num, HKk.out.drewN _⟩
        · clear hkj hk yn yt zn zt
          go_wp2_with fail
          go_roundg (n - (i + 1))
          case measure => have := HIJ.out; omega
          case rel => exact ⟨i + 1, by have := HIJ.out; omega, by go_num, HKk.out⟩
    · clear hij hk
      go_wp2_with fail
      go_ret
      exact ⟨rfl, HK.out⟩
end
end Go.Proofs.YtdcdefkloibfnaaGreatDoor
namespace Go.Proofs.YtdcdefkloibfnaaGreatDoor
set_option linter.unusedVariables false
open Go.RowKit

/-- The reference's control. -/
def c23C (dc : ByteArray) (rem : Int) (A : Option Addr) (n c : Nat) (wait : Int) (asks : Bool) (at_ : Int) : Array Value := #[.string dc, .int .i64 rem, .slice A n c, .int .u64 wait, .bool asks, .int .u64 at_]
abbrev c23Z : Array Value := #[.string noStr, .int .i64 0, .slice none 0 0, .int .u64 0, .bool false, .int .u64 0]
theorem wrap_u64m (x : Int) : IntKind.u64.wrap x = x % 18446744073709551616 := by simp [IntKind.wrap, IntKind.bits, IntKind.signed]
set_option maxHeartbeats 1000000 in
set_option maxRecDepth 100000 in
theorem x21Later_at (now wait : Int) (hw : 0 ≤ wait ∧ wait ≤ 18446744073709551615) (hn : 0 ≤ now ∧ now ≤ 18446744073709551615) (w : World) : Calls Tryz.prog 66 #[.int .u64 now, .int .u64 wait] w fun e w' => e = .returned (.int .u64 (laterP now wait)) ∧ w = w' := by
  by_cases hl : now ≤ 18446744073709551615 - wait
  · have HLT : Hid (laterP now wait = now + wait) := Lib.hid (by unfold laterP; rw [if_pos hl])
    have e1 : IntKind.u64.wrap (now + wait) = now + wait := by rw [wrap_u64m]; omega
    go_enter Tryz.func66, Tryz.ntmps66
    go_wp2
    go_ret
    rw [HLT.out]
    exact ⟨rfl, rfl⟩
  · have HLT : Hid (laterP now wait = 18446744073709551615) := Lib.hid (by unfold laterP; rw [if_neg hl])
    have e1 : IntKind.u64.wrap (now + wait) = now + wait - 18446744073709551616 := by rw [wrap_u64m]; omega
    go_enter Tryz.func66, Tryz.ntmps66
    go_wp2
    go_ret
    rw [HLT.out]
    exact ⟨rfl, rfl⟩
section
variable {w : World} {M : Nat} {e : TypeId} {z0 z1 z2 z3 z4 z5 u0 u1 u2 u3 u4 u5 : Value}
theorem blk6 (hb : Blk w M e #[z0, z1, z2, z3, z4, z5]) : Blk ((((((w.setCell ⟨M, 0, none⟩ u0).setCell ⟨M, 1, none⟩ u1).setCell ⟨M, 2, none⟩ u2).setCell ⟨M, 3, none⟩ u3).setCell ⟨M, 4, none⟩ u4).setCell ⟨M, 5, none⟩ u5) M e #[u0, u1, u2, u3, u4, u5] := (((((hb.set_ 0 u0).set_ 1 u1).set_ 2 u2).set_ 3 u3).set_ 4 u4).set_ 5 u5
theorem kept6 {w0 : World} {S : Nat → Prop} (h : Kept S w0 w) (hM : M < w0.heap.size → S M) : Kept S w0 ((((((w.setCell ⟨M, 0, none⟩ u0).setCell ⟨M, 1, none⟩ u1).setCell ⟨M, 2, none⟩ u2).setCell ⟨M, 3, none⟩ u3).setCell ⟨M, 4, none⟩ u4).setCell ⟨M, 5, none⟩ u5) := (((((h.setCell (p := ⟨M, 0, none⟩) hM u0).setCell (p := ⟨M, 1, none⟩) hM u1).setCell (p := ⟨M, 2, none⟩) hM u2).setCell (p := ⟨M, 3, none⟩) hM u3).setCell (p := ⟨M, 4, none⟩) hM u4).setCell (p := ⟨M, 5, none⟩) hM u5
theorem cells6 (q : Blk w M e #[u0, u1, u2, u3, u4, u5]) : w.cell? ⟨M, 0, none⟩ = some u0 ∧ w.cell? ⟨M, 1, none⟩ = some u1 ∧ w.cell? ⟨M, 2, none⟩ = some u2 ∧ w.cell? ⟨M, 3, none⟩ = some u3 ∧ w.cell? ⟨M, 4, none⟩ = some u4 ∧ w.cell? ⟨M, 5, none⟩ = some u5 := ⟨q.cell 0, q.cell 1, q.cell 2, q.cell 3, q.cell 4, q.cell 5⟩
theorem frozen6 (q : Blk w M e #[u0, u1, u2, u3, u4, u5]) : w.frozen? ⟨M, 0, none⟩ = false ∧ w.frozen? ⟨M, 1, none⟩ = false ∧ w.frozen? ⟨M, 2, none⟩ = false ∧ w.frozen? ⟨M, 3, none⟩ = false ∧ w.frozen? ⟨M, 4, none⟩ = false ∧ w.frozen? ⟨M, 5, none⟩ = false := ⟨q.frozen 0, q.frozen 1, q.frozen 2, q.frozen 3, q.frozen 4, q.frozen 5⟩
end
theorem x3Ask_ret {W : World} {T : Array Value} {M : Nat} {u0 u1 u2 u3 u4 u5 : Value} {R : Ending → World → Prop} (h4 : T.getD 4 undef = .pointer (some ⟨M, 0, none⟩)) (q : Blk W M 59 #[u0, u1, u2, u3, u4, u5])
    (hR : R (.returned (.agg #[u0, u1, u2, u3, u4, u5])) W) : bodyPost Tryz.prog Tryz.f42 R .ret { tmps := T, defers := [] } W := by
  have h4' : T[4]?.getD undef = .pointer (some ⟨M, 0, none⟩) := by simpa using h4
  obtain ⟨d0, d1, d2, d3, d4, d5⟩ := cells6 q
  exact bodyPost_ret (v := .agg #[u0, u1, u2, u3, u4, u5]) (by simp [results, Tryz.results42, go_sem, h4', d0, d1, d2, d3, d4, d5]) rfl hR
theorem x3Due_ret {W : World} {T : Array Value} {M : Nat} {u0 u1 u2 u3 u4 u5 v : Value} {R : Ending → World → Prop} (h4 : T.getD 4 undef = .pointer (some ⟨M, 0, none⟩)) (h5 : T.getD 5 undef = v) (q : Blk W M 59 #[u0, u1, u2, u3, u4, u5])
    (hR : R (.returned (.tuple #[.agg #[u0, u1, u2, u3, u4, u5], v])) W) : bodyPost Tryz.prog Tryz.f43 R .ret { tmps := T, defers := [] } W := by
  have h4' : T[4]?.getD undef = .pointer (some ⟨M, 0, none⟩) := by simpa using h4
  have h5' : T[5]?.getD undef = v := by simpa using h5
  obtain ⟨d0, d1, d2, d3, d4, d5⟩ := cells6 q
  exact bodyPost_ret (v := .tuple #[.agg #[u0, u1, u2, u3, u4, u5], v]) (by simp [results, Tryz.results43, go_sem, h4', h5', d0, d1, d2, d3, d4, d5]) rfl hR
theorem two_kept (w : World) (o o' : Obj) : Kept noBlock w ((w.alloc o).alloc o') := ((Kept.refl noBlock w).alloc _).alloc _
set_option maxHeartbeats 2000000 in
set_option maxRecDepth 100000 in
theorem x3Ask_at (dc : ByteArray) (rem : Int) (A : Option Addr) (n c : Nat) (wait : Int) (asks : Bool) (at_ m : Int) (w : World) :
    Calls Tryz.prog 42 #[.agg (c23C dc rem A n c wait asks at_), .int .u64 m] w fun e w' => e = .returned (.agg (c23C dc rem A n c wait true (askA asks at_ m))) ∧ Kept noBlock w w' := by
  unfold c23C
  cases asks with
  | false =>
    have HA : Hid (askA false at_ m = m) := Lib.hid (by unfold askA; simp)
    go_enter Tryz.func42, Tryz.ntmps42
    go_wp2
    rw [HA.out]
    exact x3Ask_ret rfl (Blk.new_at _ _ _ (by rw [sz_alloc])) ⟨rfl, two_kept _ _ _⟩
  | true =>
    by_cases hm : m < at_
    · have HA : Hid (askA true at_ m = m) := Lib.hid (by unfold askA; rw [if_neg (by omega)])
      go_enter Tryz.func42, Tryz.ntmps42
      go_wp2
      rw [HA.out]
      exact x3Ask_ret rfl (Blk.new_at _ _ _ (by rw [sz_alloc])) ⟨rfl, two_kept _ _ _⟩
    · have HA : Hid (askA true at_ m = at_) := Lib.hid (by unfold askA; rw [if_pos ⟨rfl, by omega⟩])
      go_enter Tryz.func42, Tryz.ntmps42
      go_wp2
      rw [HA.out]
      exact x3Ask_ret rfl (Blk.new_at _ _ _ (by rw [sz_alloc])) ⟨rfl, two_kept _ _ _⟩
set_option maxHeartbeats 2000000 in
set_option maxRecDepth 100000 in
theorem x3Due_at (dc : ByteArray) (rem : Int) (A : Option Addr) (n c : Nat) (wait : Int) (asks : Bool) (at_ now : Int) (w : World) :
    Calls Tryz.prog 43 #[.agg (c23C dc rem A n c wait asks at_), .int .u64 now] w fun e w' => e = .returned (.tuple #[.agg (c23C dc rem A n c wait (asks && !dueB asks at_ now) at_), .bool (dueB asks at_ now)]) ∧ Kept noBlock w w' := by
  unfold c23C
  cases asks with
  | false =>
    have HA : Hid (dueB false at_ now = false) := Lib.hid rfl
    go_enter Tryz.func43, Tryz.ntmps43
    go_wp2
    rw [HA.out]
    exact x3Due_ret rfl rfl (Blk.new_at _ _ _ (by rw [sz_alloc])) ⟨rfl, two_kept _ _ _⟩
  | true =>
    by_cases hm : at_ ≤ now
    · have HA : Hid (dueB true at_ now = true) := Lib.hid (by unfold dueB; simp [hm])
      go_enter Tryz.func43, Tryz.ntmps43
      go_wp2
      rw [HA.out]
      exact x3Due_ret rfl rfl (Blk.new_at _ _ _ (by rw [sz_alloc])) ⟨rfl, two_kept _ _ _⟩
    · have HA : Hid (dueB true at_ now = false) := Lib.hid (by unfold dueB; simp [hm])
      go_enter Tryz.func43, Tryz.ntmps43
      go_wp2
      rw [HA.out]
      exact x3Due_ret rfl rfl (Blk.new_at _ _ _ (by rw [sz_alloc])) ⟨rfl, two_kept _ _ _⟩
end Go.Proofs.YtdcdefkloibfnaaGreatDoor
namespace Go.Proofs.YtdcdefkloibfnaaGreatDoor
set_option linter.unusedVariables false
open Go.ChangeShapes Go.WideShapes Go.Deep Go.RowKit
section
variable {H : Type} {enc : TypeId × Value → H} {P : Program} {W : World}
/-- As open_cell; an element is read with less. -/
theorem open_cellF {t e : TypeId} {k : Nat} (ht : P.underlying t = some (.slice e)) (hC : P.cellsOf e = k) (hk : 0 < k) {fuel : Nat} {cs : List Value} {x : DataW H × List MemPlace}
    (hfu : DataW.trod enc P W 0 (fun _ => true) true fuel t cs = some x) {α : Type} (f : α → List Value) (hf : ∀ a, (f a).length = k)
    (hread : ∀ cs n y, n < fuel → cs.length = k → DataW.trod enc P W 0 (fun _ => true) true n e cs = some y → ∃ a, cs = f a) :
    ∃ A n c, cs = [.slice A n c] ∧ ∃ l : List α, l.length = n ∧ Lo W W.heap.size k (.slice A n c) n (l.flatMap f) := by
  rcases DataW.trod_slice ht hfu with ⟨hcs, _⟩ | ⟨a, len, cap, elems, rest, n, hfn, hcs, _, _, hl, hm, hlen, hel, hsp2, _⟩
  · exact ⟨none, 0, 0, hcs, [], rfl, SlK.nil _ _ _⟩
  · refine ⟨some a, len, cap, hcs, ?_⟩
    have hi : ∀ i, i < cap → ∃ cs', W.cells? 0 (a.add (i * P.cellsOf e)) (P.cellsOf e) = some cs' ∧ ∃ y, DataW.trod enc P W 0 (fun _ => true) true n e cs' = some y := fun i hi => by
      have h1 : ∃ y, (W.cells? 0 (a.add (i * P.cellsOf e)) (P.cellsOf e)).bind (DataW.trod enc P W 0 (fun _ => true) true n e) = some y := by
        by_cases hil : i < len
        · exact ⟨_, (hel i hil).trans (List.getElem?_eq_getElem (by omega))⟩
        · have := (hsp2 rfl).2 (i - len) (by omega)
          rw [show len + (i - len) = i by omega] at this
          exact ⟨_, this.trans (List.getElem?_eq_getElem (by rw [(hsp2 rfl).1]; omega))⟩
      obtain ⟨y, hy⟩ := h1
      obtain ⟨cs', h2, h3⟩ := Option.bind_eq_some_iff.1 hy
      exact ⟨cs', h2, y, h3⟩
    by_cases hc0 : cap = 0
    · subst hc0
      obtain rfl : len = 0 := by omega
      exact ⟨[], rfl, by simp, _, _, rfl, Nat.le_refl _, Nat.zero_le _, .inl ⟨rfl, rfl⟩⟩
    · have hel : ∀ i, i < len → ∃ x, W.cells? 0 (a.add (i * k)) k = some (f x) := fun i hi' => by
        obtain ⟨cs', h1, y, h2⟩ := hi i (by omega)
        rw [hC] at h1
        obtain ⟨_, hlen, _⟩ := World.cells?_some h1
        obtain ⟨x, rfl⟩ := hread cs' _ _ (by omega) hlen h2
        exact ⟨x, h1⟩
      obtain ⟨l, hll, hlr⟩ := list_of hel
      obtain ⟨cs0, h0, _⟩ := hi 0 (by omega)
      rw [hC, Nat.zero_mul] at h0
      obtain ⟨_, hlen0, hat0⟩ := World.cells?_some h0
      have hc := hat0 0 hk
      have hadd : (a.add 0).add 0 = a := by simp [Addr.add]
      rw [hadd, List.getElem?_eq_getElem (by omega)] at hc
      have hsp : a.spot = none := by
        unfold World.cell? at hc
        split at hc
        · split at hc
          · cases hc
          · rename_i hs; simpa using hs
        · cases hc
      have hblk : ∃ cs e' fz, W.heap[a.block]? = some (.cells cs e' fz) := by
        unfold World.cell? at hc
        split at hc
        · rename_i cs e' fz hh; exact ⟨cs, e', fz, hh⟩
        · cases hc
      obtain ⟨cs, e', fz, hh⟩ := hblk
      obtain ⟨g, off, sp⟩ := a
      simp only at hsp hh
      subst hsp
      refine ⟨l, hll, by rw [flat_len hf l, hll], _, _, rfl, hl, hm, .inr ⟨g, off, cs, e', fz, rfl, hh, lt_of_heap hh, ?_⟩⟩
      refine flat_of hf hk fun i x j u hx hu => ?_
      obtain ⟨_, _, hat⟩ := World.cells?_some (hlr i x hx)
      have hj : j < k := by have := (List.getElem?_eq_some_iff.1 hu).1; rw [hf] at this; exact this
      have := hat j hj
      rw [hu, Addr.add_lit, Addr.add_lit, cell_of_row W g _ cs e' fz hh, Nat.add_assoc] at this
      exact this
/-- As field_read; a field is read with less. -/
theorem field_readF {t : TypeId} {fs : Array Field} {fuel : Nat} {cs : List Value} {x : DataW H × List MemPlace} (ht : P.underlying t = some (.struct fs)) (h : DataW.trod enc P W 0 (fun _ => true) true fuel t cs = some x) {i : Nat} {f : Field} (hf : fs[i]? = some f)
    {k : Nat} (hk : P.cellsOf f.type = k) {c : List Value} (hc : (cs.drop f.offset).take k = c) : ∃ n y, n < fuel ∧ DataW.trod enc P W 0 (fun _ => true) true n f.type c = some y := by
  obtain ⟨xs, n, hn, _, _, hl, hg⟩ := DataW.trod_struct ht h
  have h1 := hg i f hf
  have hi : i < xs.length := by rw [hl]; exact (Array.getElem?_eq_some_iff.1 hf).1
  rw [hk, hc, List.getElem?_eq_getElem hi] at h1
  exact ⟨n, _, by omega, h1⟩
end
section
variable {H : Type} {enc : TypeId × Value → H} {W : World}
set_option maxRecDepth 100000 in
theorem open_opts : ∀ (fuel : Nat) (cs : List Value) (x : DataW H × List MemPlace), DataW.trod enc Tryz.prog W 0 (fun _ => true) true fuel 86 cs = some x →
    ∃ A n c, cs = [.slice A n c] ∧ OptAt W W.heap.size fuel A n c := by
  intro fuel
  induction fuel using Nat.strongRecOn with
  | ind fuel ih =>
    intro cs x h
    have hpos : 0 < fuel := by
      cases fuel with
      | zero => unfold DataW.trod at h; cases h
      | succ n => omega
    obtain ⟨A, n, c, hcs, l, hl, hlo⟩ := open_cellF (k := 5) Tryz.underlying86 (by kernel_rfl) (by decide) h (fun x : { x : OV // OptAt W W.heap.size (fuel - 1) x.ka x.kn x.kc } => ovC x.1) (fun _ => rfl) (fun cs n y hn hl h => by
      match cs, hl with
      | [c0, c1, c2, c3, c4], _ =>
        obtain ⟨n0, y0, m0, g0⟩ := field_readF Tryz.underlying88 h (i := 0) rfl (k := 1) (c := [c0]) (by kernel_rfl) rfl
        obtain ⟨n1, y1, m1, g1⟩ := field_readF Tryz.underlying88 h (i := 1) rfl (k := 1) (c := [c1]) (by kernel_rfl) rfl
        obtain ⟨n2, y2, m2, g2⟩ := field_readF Tryz.underlying88 h (i := 2) rfl (k := 1) (c := [c2]) (by kernel_rfl) rfl
        obtain ⟨n3, y3, m3, g3⟩ := field_readF Tryz.underlying88 h (i := 3) rfl (k := 1) (c := [c3]) (by kernel_rfl) rfl
        obtain ⟨n4, y4, m4, g4⟩ := field_readF Tryz.underlying88 h (i := 4) rfl (k := 1) (c := [c4]) (by kernel_rfl) rfl
        obtain ⟨b0, e0, -, -⟩ := DataW.trod_int Tryz.underlying76 g0
        obtain ⟨s1, e1, -, -⟩ := DataW.trod_string Tryz.underlying9 g1
        obtain ⟨s2, e2, -, -⟩ := DataW.trod_string Tryz.underlying9 g2
        obtain ⟨na, nn, nc, e3, -⟩ := open_cell (k := 1) Tryz.underlying63 (by kernel_rfl) (by decide) g3 (fun x : ByteArray => [Value.string x]) (fun _ => rfl) (fun cs n y hl h => by
          obtain ⟨s, e, -, -⟩ := DataW.trod_string Tryz.underlying9 h
          exact ⟨s, e⟩)
        obtain ⟨ka, kn, kc, e4, h4⟩ := ih n4 (by omega) _ _ g4
        simp only [List.cons.injEq, and_true] at e0 e1 e2 e3 e4
        exact ⟨⟨⟨b0, s1, s2, na, nn, nc, ka, kn, kc⟩, h4.up (by omega)⟩, by rw [e0, e1, e2, e3, e4]; rfl⟩)
    refine ⟨A, n, c, hcs, ?_⟩
    obtain ⟨d, rfl⟩ : ∃ d, fuel = d + 1 := ⟨fuel - 1, by omega⟩
    refine ⟨l.map (·.1), by rw [List.length_map]; exact hl, by rw [List.flatMap_map]; exact hlo, fun x hx => ?_⟩
    obtain ⟨y, -, rfl⟩ := List.mem_map.1 hx
    exact y.2
set_option maxRecDepth 100000 in
theorem open_col {fuel : Nat} {cs : List Value} {y : DataW H × List MemPlace} (hl : cs.length = 8) (h : DataW.trod enc Tryz.prog W 0 (fun _ => true) true fuel 90 cs = some y) : ∃ x : { x : CV // ColIn W W.heap.size x }, cs = cvC x.1 := by
  match cs, hl with
  | [c0, c1, c2, c3, c4, c5, c6, c7], _ =>
    obtain ⟨n0, y0, g0⟩ := field_read Tryz.underlying90 h (i := 0) rfl (k := 1) (c := [c0]) (by kernel_rfl) rfl
    obtain ⟨n1, y1, g1⟩ := field_read Tryz.underlying90 h (i := 1) rfl (k := 1) (c := [c1]) (by kernel_rfl) rfl
    obtain ⟨n2, y2, g2⟩ := field_read Tryz.underlying90 h (i := 2) rfl (k := 1) (c := [c2]) (by kernel_rfl) rfl
    obtain ⟨n3, y3, g3⟩ := field_read Tryz.underlying90 h (i := 3) rfl (k := 5) (c := [c3, c4, c5, c6, c7]) (by kernel_rfl) rfl
    obtain ⟨m0, z0, k0⟩ := field_read Tryz.underlying88 g3 (i := 0) rfl (k := 1) (c := [c3]) (by kernel_rfl) rfl
    obtain ⟨m1, z1, k1⟩ := field_read Tryz.underlying88 g3 (i := 1) rfl (k := 1) (c := [c4]) (by kernel_rfl) rfl
    obtain ⟨m2, z2, k2⟩ := field_read Tryz.underlying88 g3 (i := 2) rfl (k := 1) (c := [c5]) (by kernel_rfl) rfl
    obtain ⟨m3, z3, k3⟩ := field_read Tryz.underlying88 g3 (i := 3) rfl (k := 1) (c := [c6]) (by kernel_rfl) rfl
    obtain ⟨m4, z4, k4⟩ := field_read Tryz.underlying88 g3 (i := 4) rfl (k := 1) (c := [c7]) (by kernel_rfl) rfl
    obtain ⟨s0, e0, -, -⟩ := DataW.trod_string Tryz.underlying9 g0
    obtain ⟨s1, e1, -, -⟩ := DataW.trod_string Tryz.underlying9 g1
    obtain ⟨s2, e2, -, -⟩ := DataW.trod_string Tryz.underlying9 g2
    obtain ⟨b3, e3, -, -⟩ := DataW.trod_int Tryz.underlying76 k0
    obtain ⟨s4, e4, -, -⟩ := DataW.trod_string Tryz.underlying9 k1
    obtain ⟨s5, e5, -, -⟩ := DataW.trod_string Tryz.underlying9 k2
    obtain ⟨na, nn, nc, e6, -⟩ := open_cell (k := 1) Tryz.underlying63 (by kernel_rfl) (by decide) k3 (fun x : ByteArray => [Value.string x]) (fun _ => rfl) (fun cs n y hl h => by
      obtain ⟨s, e, -, -⟩ := DataW.trod_string Tryz.underlying9 h
      exact ⟨s, e⟩)
    obtain ⟨ka, kn, kc, e7, h7⟩ := open_opts _ _ _ k4
    simp only [List.cons.injEq, and_true] at e0 e1 e2 e3 e4 e5 e6 e7
    exact ⟨⟨⟨s0, s1, s2, b3, s4, s5, na, nn, nc, ka, kn, kc⟩, _, h7⟩, by rw [e0, e1, e2, e3, e4, e5, e6, e7]; rfl⟩
set_option maxRecDepth 100000 in
theorem open_val {fuel : Nat} {cs : List Value} {y : DataW H × List MemPlace} (hl : cs.length = 2) (h : DataW.trod enc Tryz.prog W 0 (fun _ => true) true fuel 25 cs = some y) : ∃ x : { x : VV // VVAt W W.heap.size x }, cs = vvC x.1 := by
  match cs, hl with
  | [c0, c1], _ =>
    obtain ⟨n0, y0, g0⟩ := field_read Tryz.underlying25 h (i := 0) rfl (k := 1) (c := [c0]) (by kernel_rfl) rfl
    obtain ⟨n1, y1, g1⟩ := field_read Tryz.underlying25 h (i := 1) rfl (k := 1) (c := [c1]) (by kernel_rfl) rfl
    obtain ⟨b0, e0, -, -⟩ := DataW.trod_int Tryz.underlying3 g0
    obtain ⟨A, n, c, e1, l, hl, hlo⟩ := open_bytes_cell g1
    simp only [List.cons.injEq, and_true] at e0 e1
    exact ⟨⟨⟨b0, A, n, c, l⟩, hl, hlo⟩, by rw [e0, e1]; rfl⟩
set_option maxRecDepth 100000 in
theorem open_table {fuel : Nat} {c0 c1 c2 c3 c4 c5 : Value} {y : DataW H × List MemPlace} (h : DataW.trod enc Tryz.prog W 0 (fun _ => true) true fuel 28 [c0, c1, c2, c3, c4, c5] = some y) : ∃ t : TV2, [c0, c1, c2, c3, c4, c5] = t.cells ∧ TblIn W W.heap.size t := by
  obtain ⟨n0, y0, g0⟩ := field_read Tryz.underlying28 h (i := 0) rfl (k := 1) (c := [c0]) (by kernel_rfl) rfl
  obtain ⟨n1, y1, g1⟩ := field_read Tryz.underlying28 h (i := 1) rfl (k := 1) (c := [c1]) (by kernel_rfl) rfl
  obtain ⟨n2, y2, g2⟩ := field_read Tryz.underlying28 h (i := 2) rfl (k := 1) (c := [c2]) (by kernel_rfl) rfl
  obtain ⟨n3, y3, g3⟩ := field_read Tryz.underlying28 h (i := 3) rfl (k := 2) (c := [c3, c4]) (by kernel_rfl) rfl
  obtain ⟨n4, y4, g4⟩ := field_read Tryz.underlying28 h (i := 4) rfl (k := 1) (c := [c5]) (by kernel_rfl) rfl
  obtain ⟨b0, e0, -, -⟩ := DataW.trod_int Tryz.underlying3 g0
  obtain ⟨b2, e2, -⟩ := DataW.trod_bool Tryz.underlying4 g2
  obtain ⟨⟨⟨sk, sa, sn, sc, sl⟩, hs1, hs2⟩, e3⟩ := open_val rfl g3
  obtain ⟨ca, cn, cc, e1, lc, hlc, hloc⟩ := open_cell (k := 8) Tryz.underlying22 (by kernel_rfl) (by decide) g1 (fun x : { x : CV // ColIn W W.heap.size x } => cvC x.1) (fun _ => rfl) (fun cs n y hl h => open_col hl h)
  obtain ⟨ra, rn, rc, e4, lr, hlr, hlor⟩ := open_cell (k := 1) Tryz.underlying26 (by kernel_rfl) (by decide) g4 (fun x : { x : RV // RVAt W W.heap.size x } => [Value.slice x.1.a x.1.n x.1.c]) (fun _ => rfl) (fun cs n y hl h => by
    obtain ⟨A, n, c, e, l, hl, hlo⟩ := open_cell (k := 2) Tryz.underlying91 (by kernel_rfl) (by decide) h (fun x : { x : VV // VVAt W W.heap.size x } => vvC x.1) (fun _ => rfl) (fun cs n y hl h => open_val hl h)
    refine ⟨⟨⟨A, n, c, l.map (·.1)⟩, by rw [List.length_map]; exact hl, by rw [List.flatMap_map]; exact hlo, fun x hx => ?_⟩, e⟩
    obtain ⟨y, -, rfl⟩ := List.mem_map.1 hx
    exact y.2)
  simp only [List.cons.injEq, and_true, vvC] at e0 e1 e2 e3 e4
  refine ⟨⟨b0, ca, cn, cc, b2, sk, sa, sn, sc, ra, rn, rc, lc.map (·.1), lr.map (·.1)⟩, by rw [e0, e1, e2, e3.1, e3.2, e4]; rfl, ⟨by rw [List.length_map]; exact hlc, by rw [List.flatMap_map]; exact hloc, by rw [List.length_map]; exact hlr, ?_, fun r hr => ?_⟩, fun x hx => ?_, sl, hs1, hs2⟩
  · show Lo W W.heap.size 1 (.slice ra rn rc) rn ((lr.map fun x => x.1).map fun r : RV => Value.slice r.a r.n r.c)
    rw [List.map_map, List.map_eq_flatMap]; exact hlor
  · obtain ⟨y, -, rfl⟩ := List.mem_map.1 hr
    exact y.2
  · obtain ⟨y, -, rfl⟩ := List.mem_map.1 hx
    exact y.2
end
end Go.Proofs.YtdcdefkloibfnaaGreatDoor
namespace Go.Proofs.YtdcdefkloibfnaaGreatDoor
set_option linter.unusedVariables false
open Go.RowKit
open Go.ChangeMaps (setBlock)
section
variable {w : World} {ok ok' : Nat → Prop} {A A' : Option Addr} {n n' c c' : Nat} {l l' : List HV} {S S' : List Ho}
set_option maxHeartbeats 8000000 in
set_option maxRecDepth 100000 in
theorem R18Mark_at (dc : ByteArray) (rem : Int) (h : RL w ok A n c l S) (hS : risingH S) (hn : S.length ≤ 1000) (x : ByteArray) (up : Bool) :
    Calls Tryz.prog 65 #[.agg #[.string dc, .int .i64 rem, .slice A n c], .string x, .bool up] w fun e w' => ∃ A' n' c' l', e = .returned (.tuple #[.agg #[.string dc, .int .i64 rem, .slice A' n' c'], .bool (markP S x up).2]) ∧ RL w' (fun k => ok k ∨ w.heap.size ≤ k) A' n' c' l' (markP S x up).1 ∧ Kept noBlock w w' := by
  have hb0 : Blk (w.alloc (.cells #[.string dc, .int .i64 rem, .slice A n c] 57)) w.heap.size 57 #[.string dc, .int .i64 rem, .slice A n c] := Blk.new _ _ _
  have hb := hb0.alloc (.cells #[.string ⟨#[]⟩, .int .i64 0, .slice none 0 0] 57)
  have hr : Blk ((w.alloc (.cells #[.string dc, .int .i64 rem, .slice A n c] 57)).alloc (.cells #[.string ⟨#[]⟩, .int .i64 0, .slice none 0 0] 57)) (w.heap.size + 1) 57 #[.string ⟨#[]⟩, .int .i64 0, .slice none 0 0] := Blk.new_at _ _ _ (by rw [sz_alloc])
  have hk2 : Kept noBlock w ((w.alloc (.cells #[.string dc, .int .i64 rem, .slice A n c] 57)).alloc (.cells #[.string ⟨#[]⟩, .int .i64 0, .slice none 0 0] 57)) := ((Kept.refl noBlock w).alloc _).alloc _
  have hz2 : ((w.alloc (.cells #[.string dc, .int .i64 rem, .slice A n c] 57)).alloc (.cells #[.string ⟨#[]⟩, .int .i64 0, .slice none 0 0] 57)).heap.size = w.heap.size + 1 + 1 := by rw [sz_alloc, sz_alloc]
  have h2 := h.keptN hk2
  have hSn := h.2.1
  have HF := R18find_at h2 x
  have HB := Lib.hid hb
  have HR := Lib.hid hr
  have HK2 := Lib.hid hk2
  have HZ2 := Lib.hid hz2
  have H2 := Lib.hid h2
  have H2B := Lib.hid ((h.wide (ok' := fun k => ok k ∧ k < w.heap.size) fun k hk e => ⟨e, hk⟩).keptN hk2)
  have HSN := Lib.hid hSn
  clear hb0 hb hr hk2 hz2 h2 h hSn
  go_enter Tryz.func65, Tryz.ntmps65
  go_wp2_with fail
  generalize (w.alloc (.cells #[.string dc, .int .i64 rem, .slice A n c] 57)).alloc (.cells #[.string ⟨#[]⟩, .int .i64 0, .slice none 0 0] 57) = w2 at *
  have p0 := HB.out.cell 0
  have p1 := HB.out.cell 1
  have p2 := HB.out.cell 2
  have r0 := HR.out.cell 0
  have r1 := HR.out.cell 1
  have r2 := HR.out.cell 2
  have fr0 := HR.out.frozen 0
  have fr1 := HR.out.frozen 1
  have fr2 := HR.out.frozen 2
  simp only [List.getElem?_toArray, List.getElem?_cons_succ, List.getElem?_cons_zero] at p0 p1 p2 r0 r1 r2
  cases hx : getS x S with
  | none =>
    have HM : Hid (markP S x up = (S, false)) := Lib.hid (by unfold markP; rw [hx])
    rw [findV_none hx] at HF
    clear hx
    refine HF.mono ?_
    rintro e w3 ⟨rfl, rfl⟩
    clear HF
    go_wp2_with fail
    have hw3 : Blk (((w2.setCell ⟨w.heap.size + 1, 0, none⟩ (.string dc)).setCell ⟨w.heap.size + 1, 1, none⟩ (.int .i64 rem)).setCell ⟨w.heap.size + 1, 2, none⟩ (.slice A n c)) (w.heap.size + 1) 57 #[.string dc, .int .i64 rem, .slice A n c] := (((HR.out).set_ 0 (.string dc)).set_ 1 (.int .i64 rem)).set_ 2 (.slice A n c)
    have hk3 : Kept noBlock w (((w2.setCell ⟨w.heap.size + 1, 0, none⟩ (.string dc)).setCell ⟨w.heap.size + 1, 1, none⟩ (.int .i64 rem)).setCell ⟨w.heap.size + 1, 2, none⟩ (.slice A n c)) := (((HK2.out).setCell (p := ⟨w.heap.size + 1, 0, none⟩) (fun h => absurd h (by simp only []; omega)) _).setCell (p := ⟨w.heap.size + 1, 1, none⟩) (fun h => absurd h (by simp only []; omega)) _).setCell (p := ⟨w.heap.size + 1, 2, none⟩) (fun h => absurd h (by simp only []; omega)) _
    have hkx : Kept (fun k => k = w.heap.size + 1) w2 (((w2.setCell ⟨w.heap.size + 1, 0, none⟩ (.string dc)).setCell ⟨w.heap.size + 1, 1, none⟩ (.int .i64 rem)).setCell ⟨w.heap.size + 1, 2, none⟩ (.slice A n c)) := (((Kept.refl (fun k => k = w.heap.size + 1) w2).setCell (p := ⟨w.heap.size + 1, 0, none⟩) (fun _ => rfl) _).setCell (p := ⟨w.heap.size + 1, 1, none⟩) (fun _ => rfl) _).setCell (p := ⟨w.heap.size + 1, 2, none⟩) (fun _ => rfl) _
    have d0 := hw3.cell 0
    have d1 := hw3.cell 1
    have d2 := hw3.cell 2
    simp only [List.getElem?_toArray, List.getElem?_cons_succ, List.getElem?_cons_zero] at d0 d1 d2
    generalize ((w2.setCell ⟨w.heap.size + 1, 0, none⟩ (.string dc)).setCell ⟨w.heap.size + 1, 1, none⟩ (.int .i64 rem)).setCell ⟨w.heap.size + 1, 2, none⟩ (.slice A n c) = W3 at *
    refine bodyPost_ret (v := .tuple #[.agg #[.string dc, .int .i64 rem, .slice A n c], .bool false]) (by simp [results, Tryz.results65, go_sem, d0, d1, d2]) rfl ?_
    rw [HM.out]
    exact ⟨A, n, c, l, rfl, (H2B.out.kept hkx fun k e e2 => by have := e.2; omega).wide fun k _ e => .inl e.1, hk3⟩
  | some o =>
    obtain ⟨hv, hlt, hso⟩ := findV_some hx
    obtain ⟨y, gi, oi, hyl, hyo, hidx, -, -, -, -, y4, -, -⟩ := H2.out.at hso
    rw [hv] at HF
    have HYL := Lib.hid hyl
    have HYO := Lib.hid hyo
    have hln : findI S x < n := by have := HSN.out; omega
    have hnn : n ≤ 1000 := by have := HSN.out; omega
    have HSET := Lib.hid (fun hu : o.up ≠ up => (show markP S x up = (S.set (findI S x) { o with up := up }, true) by rw [show markP S x up = (S.map (setUp x up), true) by unfold markP; rw [hx]; simp only []; rw [if_neg hu]; rfl, mark_set hS hx]))
    have HSAME := Lib.hid (fun hu : o.up = up => (show markP S x up = (S, false) by unfold markP; rw [hx]; simp only []; rw [if_pos hu]))
    have HLN := Lib.hid (show findI S x < S.length from hlt)
    clear hx hv hso hyl hyo hlt
    generalize findI S x = at_ at *
    refine HF.mono ?_
    rintro e w3 ⟨rfl, rfl⟩
    clear HF
    by_cases hu : o.up = up
    · have HM := Lib.hid (HSAME.out hu)
      have hbe : (o.up == up) = true := by rw [hu]; cases up <;> rfl
      clear hu
      go_wp2_with fail
      have hw3 : Blk (((w2.setCell ⟨w.heap.size + 1, 0, none⟩ (.string dc)).setCell ⟨w.heap.size + 1, 1, none⟩ (.int .i64 rem)).setCell ⟨w.heap.size + 1, 2, none⟩ (.slice A n c)) (w.heap.size + 1) 57 #[.string dc, .int .i64 rem, .slice A n c] := (((HR.out).set_ 0 (.string dc)).set_ 1 (.int .i64 rem)).set_ 2 (.slice A n c)
      have hk3 : Kept noBlock w (((w2.setCell ⟨w.heap.size + 1, 0, none⟩ (.string dc)).setCell ⟨w.heap.size + 1, 1, none⟩ (.int .i64 rem)).setCell ⟨w.heap.size + 1, 2, none⟩ (.slice A n c)) := (((HK2.out).setCell (p := ⟨w.heap.size + 1, 0, none⟩) (fun h => absurd h (by simp only []; omega)) _).setCell (p := ⟨w.heap.size + 1, 1, none⟩) (fun h => absurd h (by simp only []; omega)) _).setCell (p := ⟨w.heap.size + 1, 2, none⟩) (fun h => absurd h (by simp only []; omega)) _
      have hkx : Kept (fun k => k = w.heap.size + 1) w2 (((w2.setCell ⟨w.heap.size + 1, 0, none⟩ (.string dc)).setCell ⟨w.heap.size + 1, 1, none⟩ (.int .i64 rem)).setCell ⟨w.heap.size + 1, 2, none⟩ (.slice A n c)) := (((Kept.refl (fun k => k = w.heap.size + 1) w2).setCell (p := ⟨w.heap.size + 1, 0, none⟩) (fun _ => rfl) _).setCell (p := ⟨w.heap.size + 1, 1, none⟩) (fun _ => rfl) _).setCell (p := ⟨w.heap.size + 1, 2, none⟩) (fun _ => rfl) _
      have d0 := hw3.cell 0
      have d1 := hw3.cell 1
      have d2 := hw3.cell 2
      simp only [List.getElem?_toArray, List.getElem?_cons_succ, List.getElem?_cons_zero] at d0 d1 d2
      generalize ((w2.setCell ⟨w.heap.size + 1, 0, none⟩ (.string dc)).setCell ⟨w.heap.size + 1, 1, none⟩ (.int .i64 rem)).setCell ⟨w.heap.size + 1, 2, none⟩ (.slice A n c) = W3 at *
      refine bodyPost_ret (v := .tuple #[.agg #[.string dc, .int .i64 rem, .slice A n c], .bool false]) (by simp [results, Tryz.results65, go_sem, d0, d1, d2]) rfl ?_
      rw [HM.out]
      exact ⟨A, n, c, l, rfl, (H2B.out.kept hkx fun k e e2 => by have := e.2; omega).wide fun k _ e => .inl e.1, hk3⟩
    · have HM := Lib.hid (HSET.out hu)
      have hbe : (o.up == up) = false := beq_eq_false_iff_ne.2 hu
      clear hu
      go_wp2_with (at_builtin; go_must (refine wpList_append_sl _ h18sT rfl (.tmp 27) (.tmp 29) rfl w2.heap.size _ 0 [] rfl (World.ownsRow_nil _ _ _ _) _ n _ rfl H2.out.2.2.1 (fun u hu => hvC_one hu) ?c1 ?c2 ?_))
      case c1 => omega
      case c2 => exact Nat.le_refl _
      intro v1 w4 hap
      have hk4 := hap.keptNil
      have hown : w4.ownsRow w2.heap.size 106 5 v1 n (l.flatMap hvC) := by simpa using hap.own
      obtain ⟨g, cap, off, hv1, hoff, hgb, hgc, hidx1, -, -, -, -, -⟩ := ownH18_at hown HYL.out
      subst hv1
      have hs := hown.stored (at_ * 5 + 4) (.bool up)
      have hf1 := hown.frozenAt (at_ * 5 + 4)
      have hc1 := hown.cellAt (at_ * 5 + 4) (by omega)
      rw [flat_get (k := 5) (fun _ => rfl) l at_ 4 _ HYL.out (by decide)] at hc1
      have hc1' : w4.cell? ⟨g, at_ * 5 + 4, none⟩ = some (.bool y.up) := hc1
      rw [flat_setH HYL.out up] at hs
      have hb4 := HB.out.kept hk4 fun e => e
      have hr4 := HR.out.kept hk4 fun e => e
      have f2 := hb4.frozen 2
      have q0 := hb4.cell 0
      have q1 := hb4.cell 1
      have q2 := hb4.cell 2
      have s0 := hr4.cell 0
      have s1 := hr4.cell 1
      have s2 := hr4.cell 2
      have t0 := hr4.frozen 0
      have t1 := hr4.frozen 1
      have t2 := hr4.frozen 2
      simp only [List.getElem?_toArray, List.getElem?_cons_succ, List.getElem?_cons_zero] at q0 q1 q2 s0 s1 s2
      have hgN : ¬ g = w.heap.size := by have := HZ2.out; omega
      have hgN1 : ¬ g = w.heap.size + 1 := by have := HZ2.out; omega
      have hgN' : ¬ w.heap.size = g := fun e => hgN e.symm
      have hgN1' : ¬ w.heap.size + 1 = g := fun e => hgN1 e.symm
      have hb5 : Blk (w4.setCell ⟨g, at_ * 5 + 4, none⟩ (.bool up)) w.heap.size 57 #[.string dc, .int .i64 rem, .slice A n c] := hb4.far (p := ⟨g, at_ * 5 + 4, none⟩) hgN' _
      have hr5 : Blk (w4.setCell ⟨g, at_ * 5 + 4, none⟩ (.bool up)) (w.heap.size + 1) 57 #[.string ⟨#[]⟩, .int .i64 0, .slice none 0 0] := hr4.far (p := ⟨g, at_ * 5 + 4, none⟩) hgN1' _
      have hs1 := hs.1
      have hs2 := hs.2
      have HR6 : Hid (Blk ((w4.setCell ⟨g, at_ * 5 + 4, none⟩ (.bool up)).setCell ⟨w.heap.size, 2, none⟩ (.slice (some ⟨g, 0, none⟩) n cap)) (w.heap.size + 1) 57 #[.string ⟨#[]⟩, .int .i64 0, .slice none 0 0]) := Lib.hid (hr5.far (p := ⟨w.heap.size, 2, none⟩) (by simp only []; omega) _)
      have hk46 : Kept (fun k => k = g ∨ k = w.heap.size) w4 ((w4.setCell ⟨g, at_ * 5 + 4, none⟩ (.bool up)).setCell ⟨w.heap.size, 2, none⟩ (.slice (some ⟨g, 0, none⟩) n cap)) := ((Kept.refl (fun k => k = g ∨ k = w.heap.size) w4).setCell (p := ⟨g, at_ * 5 + 4, none⟩) (fun _ => .inl rfl) _).setCell (p := ⟨w.heap.size, 2, none⟩) (fun _ => .inr rfl) _
      have HK6 : Hid (Kept noBlock w ((w4.setCell ⟨g, at_ * 5 + 4, none⟩ (.bool up)).setCell ⟨w.heap.size, 2, none⟩ (.slice (some ⟨g, 0, none⟩) n cap))) := Lib.hid ((HK2.out.trans hk4 fun _ _ e => e).trans hk46 fun k hk e => absurd hk (by have := HZ2.out; omega))
      have HRL : Hid (RL ((w4.setCell ⟨g, at_ * 5 + 4, none⟩ (.bool up)).setCell ⟨w.heap.size, 2, none⟩ (.slice (some ⟨g, 0, none⟩) n cap)) (fun k => (ok k ∨ w.heap.size ≤ k) ∧ k ≠ w.heap.size + 1) (some ⟨g, 0, none⟩) n cap (l.set at_ { y with up := up }) (S.set at_ { o with up := up })) := Lib.hid (by
        have e1 := own_far hs1 hb5 (by decide) 2 (.slice (some ⟨g, 0, none⟩) n cap)
        refine ⟨?_, by rw [List.length_set]; exact HSN.out, (SlK.of_ownB e1).any fun k e _ he => ⟨.inr (by have := HZ2.out; have := he.1; omega), by have := HZ2.out; have := he.1; omega⟩, fun z hz => ?_⟩
        · rw [List.map_set, H2.out.1, ← HYO.out]; rfl
        · have hold : ∀ z' ∈ l, SlK ((w4.setCell ⟨g, at_ * 5 + 4, none⟩ (.bool up)).setCell ⟨w.heap.size, 2, none⟩ (.slice (some ⟨g, 0, none⟩) n cap)) (fun k _ => (ok k ∨ w.heap.size ≤ k) ∧ k ≠ w.heap.size + 1) 1 (.slice z'.ta z'.tn z'.tc) z'.tn (z'.toks.map (Value.int .i64)) := fun z' hz' => by
            have h1 := (H2B.out.2.2.2 z' hz').keptNone hk4
            exact (h1.keptAll hk46 fun k _ e e2 => by have := e.2; have := HZ2.out; omega).any fun k _ _ e => ⟨.inl e.1, by have := e.2; omega⟩
          rcases List.mem_or_eq_of_mem_set hz with hz | hz
          · exact hold z hz
          · rw [hz]
            exact hold y (List.mem_of_getElem? HYL.out))
      subst hoff
      clear hown hs hs1 hs2 hb4 hr4 hb5 hr5 hk46 hap hk4 hc1
      go_wp2_with fail
      generalize (w4.setCell ⟨g, at_ * 5 + 4, none⟩ (.bool up)).setCell ⟨w.heap.size, 2, none⟩ (.slice (some ⟨g, 0, none⟩) n cap) = w6 at *
      have hw3 : Blk (((w6.setCell ⟨w.heap.size + 1, 0, none⟩ (.string dc)).setCell ⟨w.heap.size + 1, 1, none⟩ (.int .i64 rem)).setCell ⟨w.heap.size + 1, 2, none⟩ (.slice (some ⟨g, 0, none⟩) n cap)) (w.heap.size + 1) 57 #[.string dc, .int .i64 rem, .slice (some ⟨g, 0, none⟩) n cap] := ((HR6.out.set_ 0 (.string dc)).set_ 1 (.int .i64 rem)).set_ 2 (.slice (some ⟨g, 0, none⟩) n cap)
      have hk3 : Kept noBlock w (((w6.setCell ⟨w.heap.size + 1, 0, none⟩ (.string dc)).setCell ⟨w.heap.size + 1, 1, none⟩ (.int .i64 rem)).setCell ⟨w.heap.size + 1, 2, none⟩ (.slice (some ⟨g, 0, none⟩) n cap)) := ((HK6.out.setCell (p := ⟨w.heap.size + 1, 0, none⟩) (fun h => absurd h (by simp only []; omega)) _).setCell (p := ⟨w.heap.size + 1, 1, none⟩) (fun h => absurd h (by simp only []; omega)) _).setCell (p := ⟨w.heap.size + 1, 2, none⟩) (fun h => absurd h (by simp only []; omega)) _
      have hkx : Kept (fun k => k = w.heap.size + 1) w6 (((w6.setCell ⟨w.heap.size + 1, 0, none⟩ (.string dc)).setCell ⟨w.heap.size + 1, 1, none⟩ (.int .i64 rem)).setCell ⟨w.heap.size + 1, 2, none⟩ (.slice (some ⟨g, 0, none⟩) n cap)) := (((Kept.refl (fun k => k = w.heap.size + 1) w6).setCell (p := ⟨w.heap.size + 1, 0, none⟩) (fun _ => rfl) _).setCell (p := ⟨w.heap.size + 1, 1, none⟩) (fun _ => rfl) _).setCell (p := ⟨w.heap.size + 1, 2, none⟩) (fun _ => rfl) _
      have d0 := hw3.cell 0
      have d1 := hw3.cell 1
      have d2 := hw3.cell 2
      simp only [List.getElem?_toArray, List.getElem?_cons_succ, List.getElem?_cons_zero] at d0 d1 d2
      generalize ((w6.setCell ⟨w.heap.size + 1, 0, none⟩ (.string dc)).setCell ⟨w.heap.size + 1, 1, none⟩ (.int .i64 rem)).setCell ⟨w.heap.size + 1, 2, none⟩ (.slice (some ⟨g, 0, none⟩) n cap) = W3 at *
      refine bodyPost_ret (v := .tuple #[.agg #[.string dc, .int .i64 rem, .slice (some ⟨g, 0, none⟩) n cap], .bool true]) (by simp [results, Tryz.results65, go_sem, d0, d1, d2]) rfl ?_
      rw [HM.out]
      exact ⟨_, n, cap, l.set at_ { y with up := up }, rfl, HRL.out.kept hkx (fun k e e2 => e.2 e2) |>.wide fun k _ e => e.1, hk3⟩
end
end Go.Proofs.YtdcdefkloibfnaaGreatDoor

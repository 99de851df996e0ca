/- ControlPlays: the walk. -/
import Derived.Test.YtdcdefkloibfnaaGreatDoorCtPlaysP
import Derived.Test.YtdcdefkloibfnaaGreatDoorMg08
import Derived.Test.YtdcdefkloibfnaaGreatDoorMg06
import Derived.Test.YtdcdefkloibfnaaGreatDoorMg09
import Derived.Test.YtdcdefkloibfnaaGreatDoorMg07
import Derived.Deep.DeepCutAuto
namespace Go.Proofs.YtdcdefkloibfnaaGreatDoor
set_option linter.unusedVariables false
open Go.RowKit

def act0 : Array Value := #[.int .i64 0, .string ⟨#[]⟩, .string ⟨#[]⟩, .slice none 0 0, .int .u32 0, .string ⟨#[]⟩, .string ⟨#[]⟩, .string ⟨#[]⟩, .string ⟨#[]⟩, .slice none 0 0, .int .i64 0, .slice none 0 0, .bool false, .int .i64 0, .slice none 0 0, .slice none 0 0, .int .i64 0, .slice none 0 0, .bool false, .int .i64 0, .slice none 0 0, .slice none 0 0, .int .u64 0]
/-- What the loop has. -/
def PInv (w : World) (c g bw : Nat) (dc : ByteArray) (rem wait : Int) (N j : Nat) (vn vi : Value) (wr : World) : Prop :=
  ∃ (i : Nat) (nw : Int) (own : Nat → Prop) (A : Option Addr) (n cc : Nat) (l : List HV) (S : List Ho) (asks : Bool) (at_ : Int), i + j = N ∧ vi = .int .i64 i ∧ vn = .int .u64 nw ∧ 0 ≤ nw ∧ nw ≤ (i : Int) * 1099511627776 ∧ i ≤ 20 ∧ CPlay w wr c g bw dc rem wait own A n cc l S asks at_
set_option maxHeartbeats 16000000 in
set_option maxRecDepth 100000 in
theorem CtPlays_walk (dc : ByteArray) (rem wait : Int) (hw : 0 ≤ wait ∧ wait ≤ 18446744073709551615) (A : Option Addr) (n c : Nat) (L : List AV3) (w : World) (hL : L.length = n) (hs : Lo w w.heap.size 23 (.slice A n c) n (L.flatMap fun x => x.C.toList)) (ht : ∀ x ∈ L, ActIn3 w w.heap.size x) (hD : Doors w) :
    Calls Tryz.prog 5 #[.string dc, .int .i64 rem, .int .u64 wait, .slice A n c] w fun e w' => e = .returned (.bool true) ∧ Kept noBlock w w' := by
  have HS := Lib.hid hs
  have HT := Lib.hid ht
  have HL := Lib.hid hL
  have HD := Lib.hid hD
  have HW := Lib.hid hw
  have hln := hs.run_len acts3T
  have hnm : n ≤ 9223372036854775807 := by obtain ⟨_, _, hv, h1, h2⟩ := hs.shape; cases hv; unfold maxLen at h2; omega
  clear hs ht hL hD hw
  go_enter Tryz.func5, Tryz.ntmps5
  go_wp2_with fail
  go_at_call 8
  refine (aw23_at w HD.out).mono ?_
  rintro e w1 ⟨rfl, hk1⟩
  have HK1 := Lib.hid hk1
  clear hk1
  go_wp2_with fail
  go_at_call 18
  refine (cNew_at dc rem wait w1).mono ?_
  rintro e w2 ⟨k, g, own, rfl, hc2, hkl, hol, hk2⟩
  have ST : Hid (CPlay w (w2.alloc (.cells #[.string dc, .int .i64 rem, .slice none 0 0, .int .u64 wait, .bool false, .int .u64 0] 59)) k g w2.heap.size dc rem wait own none 0 0 [] [] false 0) := Lib.hid
    ⟨hc2.keptN ((Kept.refl noBlock w2).alloc _), Blk.new _ _ _, ⟨rfl, rfl, SlK.nil _ _ _, fun x hx => absurd hx List.not_mem_nil⟩, fun e => by
      rcases e with e | e
      · exact Nat.lt_irrefl _ (hc2.lt.1 _ e)
      · have := hc2.lt.2; omega, fun q e => by
      rcases e with e | e
      · exact Nat.le_trans HK1.out.size (hol q e)
      · rw [e]; exact Nat.le_trans HK1.out.size hkl, Nat.le_trans HK1.out.size hk2.size, ⟨⟨List.Pairwise.nil, by simp, fun o ho => (by cases ho), fun o ho => (by cases ho), fun o ho => (by cases ho)⟩, fun o ho => (by cases ho)⟩, (HK1.out.trans hk2 fun _ _ e => e).alloc _⟩
  clear hc2 hkl hol hk2 HK1
  go_wp2_with fail
  generalize w2.heap.size = bw at *
  generalize w2.alloc (.cells #[.string dc, .int .i64 rem, .slice none 0 0, .int .u64 wait, .bool false, .int .u64 0] 59) = w3 at *
  go_loopg [12, 13] n (fun j vn vi wr => PInv w k g bw dc rem wait n j vn vi wr)
  case atStart => exact ⟨0, 0, own, none, 0, 0, [], [], false, 0, by omega, rfl, rfl, by omega, by omega, by omega, ST.out⟩
  case round =>
    obtain ⟨i, nw, own1, A1, n1, cc1, l1, S, asks, at_, hij, rfl, rfl, hnw0, hnw1, hi20, hP⟩ := hrel
    have HIJ := Lib.hid hij
    have HP := Lib.hid hP
    have HNW0 := Lib.hid hnw0
    have HNW1 := Lib.hid hnw1
    by_cases hi : i < n
    · by_cases h20 : i < 20
      · obtain ⟨x, hx⟩ : ∃ x, L[i]? = some x := ⟨_, List.getElem?_eq_getElem (by have := HL.out; omega)⟩
        obtain ⟨ga, oa, hidx, -, -, h3⟩ := (SlK.keptNone HS.out hP.kept).run_index acts3T (i := (i : Int)) (k := i) rfl hi
        have HCL : Hid (∀ j v, x.C.toList[j]? = some v → wr.cell? ⟨ga, oa + j, none⟩ = some v) := Lib.hid fun j v hv => h3 j v (by
          have hj : j < 23 := (List.getElem?_eq_some_iff.1 hv).1
          rw [flat_get (k := 23) (f := fun x : AV3 => x.C.toList) (fun _ => rfl) L i j x hx hj]; exact hv)
        have HXI := Lib.hid (HT.out x (List.mem_of_getElem? hx))
        have HBA : Hid (Blk ((wr.alloc (.cells #[.int .i64 0, .string ⟨#[]⟩, .string ⟨#[]⟩, .slice none 0 0, .int .u32 0, .string ⟨#[]⟩, .string ⟨#[]⟩, .string ⟨#[]⟩, .string ⟨#[]⟩, .slice none 0 0, .int .i64 0, .slice none 0 0, .bool false, .int .i64 0, .slice none 0 0, .slice none 0 0, .int .i64 0, .slice none 0 0, .bool false, .int .i64 0, .slice none 0 0, .slice none 0 0, .int .u64 0] 69)).setRow wr.heap.size x.C) wr.heap.size 69 x.C) := Lib.hid (setRow_heap _ _ _ _ _ _ (Blk.new wr 69 #[.int .i64 0, .string ⟨#[]⟩, .string ⟨#[]⟩, .slice none 0 0, .int .u32 0, .string ⟨#[]⟩, .string ⟨#[]⟩, .string ⟨#[]⟩, .string ⟨#[]⟩, .slice none 0 0, .int .i64 0, .slice none 0 0, .bool false, .int .i64 0, .slice none 0 0, .slice none 0 0, .int .i64 0, .slice none 0 0, .bool false, .int .i64 0, .slice none 0 0, .slice none 0 0, .int .u64 0]))
        have HKA : Hid (Kept noBlock wr ((wr.alloc (.cells #[.int .i64 0, .string ⟨#[]⟩, .string ⟨#[]⟩, .slice none 0 0, .int .u32 0, .string ⟨#[]⟩, .string ⟨#[]⟩, .string ⟨#[]⟩, .string ⟨#[]⟩, .slice none 0 0, .int .i64 0, .slice none 0 0, .bool false, .int .i64 0, .slice none 0 0, .slice none 0 0, .int .i64 0, .slice none 0 0, .bool false, .int .i64 0, .slice none 0 0, .slice none 0 0, .int .u64 0] 69)).setRow wr.heap.size x.C)) := Lib.hid (((Kept.refl noBlock wr).alloc _).setRow (fun h => absurd h (Nat.lt_irrefl _)) _)
        have HPA := Lib.hid (hP.keptN HKA.out)
        clear hij hP hx h3 HP hnw0 hnw1
        go_upto_region 11 with (first
          | (refine wpList_load_at rfl 69 (.tmp 42) rfl ga oa rfl x.C _ HCL.out Tryz.underlying69 rfl (act_info x) ?_)
          | (refine wpList_store_row rfl 69 (.tmp 14) (.tmp 43) rfl wr.heap.size x.C rfl rfl 69 #[.int .i64 0, .string ⟨#[]⟩, .string ⟨#[]⟩, .slice none 0 0, .int .u32 0, .string ⟨#[]⟩, .string ⟨#[]⟩, .string ⟨#[]⟩, .string ⟨#[]⟩, .slice none 0 0, .int .i64 0, .slice none 0 0, .bool false, .int .i64 0, .slice none 0 0, .slice none 0 0, .int .i64 0, .slice none 0 0, .bool false, .int .i64 0, .slice none 0 0, .slice none 0 0, .int .u64 0] (Blk.new _ _ _) (act_info x) rfl (act_one x) ?_))
        generalize wr.heap.size = ba at *
        generalize (wr.alloc (.cells #[.int .i64 0, .string ⟨#[]⟩, .string ⟨#[]⟩, .slice none 0 0, .int .u32 0, .string ⟨#[]⟩, .string ⟨#[]⟩, .string ⟨#[]⟩, .string ⟨#[]⟩, .slice none 0 0, .int .i64 0, .slice none 0 0, .bool false, .int .i64 0, .slice none 0 0, .slice none 0 0, .int .i64 0, .slice none 0 0, .bool false, .int .i64 0, .slice none 0 0, .slice none 0 0, .int .u64 0] 69)).setRow ba x.C = wa at *
        have HTI1 := Lib.hid (slight_at (HXI.out.keptN HPA.out.kept).own)
        unfold TV2.v at HTI1
        have a10 : wa.cell? ⟨ba, 10, none⟩ = some (.int .i64 x.own.cnt) := HBA.out.cell 10
        have a11 : wa.cell? ⟨ba, 11, none⟩ = some (.slice x.own.ca x.own.cn x.own.cc) := HBA.out.cell 11
        have a12 : wa.cell? ⟨ba, 12, none⟩ = some (.bool x.own.more) := HBA.out.cell 12
        have a13 : wa.cell? ⟨ba, 13, none⟩ = some (.int .i64 x.own.sk) := HBA.out.cell 13
        have a14 : wa.cell? ⟨ba, 14, none⟩ = some (.slice x.own.sa x.own.sn x.own.sc) := HBA.out.cell 14
        have a15 : wa.cell? ⟨ba, 15, none⟩ = some (.slice x.own.ra x.own.rn x.own.rc) := HBA.out.cell 15
        go_wp2_with fail
        go_at_call 9
        refine HTI1.out.mono ?_
        rintro e w4 ⟨b1, rfl, hb1, hk4⟩
        have HP4 := Lib.hid (HPA.out.keptN hk4)
        have HB4 := Lib.hid (HBA.out.kept hk4 fun e => e)
        have HQ1 := Lib.hid hb1
        have HTI2 := Lib.hid (slight_at (HXI.out.keptN HP4.out.kept).oth)
        unfold TV2.v at HTI2
        clear hk4 hb1 a10 a11 a12 a13 a14 a15 HTI1
        have a16 : w4.cell? ⟨ba, 16, none⟩ = some (.int .i64 x.oth.cnt) := HB4.out.cell 16
        have a17 : w4.cell? ⟨ba, 17, none⟩ = some (.slice x.oth.ca x.oth.cn x.oth.cc) := HB4.out.cell 17
        have a18 : w4.cell? ⟨ba, 18, none⟩ = some (.bool x.oth.more) := HB4.out.cell 18
        have a19 : w4.cell? ⟨ba, 19, none⟩ = some (.int .i64 x.oth.sk) := HB4.out.cell 19
        have a20 : w4.cell? ⟨ba, 20, none⟩ = some (.slice x.oth.sa x.oth.sn x.oth.sc) := HB4.out.cell 20
        have a21 : w4.cell? ⟨ba, 21, none⟩ = some (.slice x.oth.ra x.oth.rn x.oth.rc) := HB4.out.cell 21
        go_wp2_with fail
        go_at_call 9
        refine HTI2.out.mono ?_
        rintro e w5 ⟨b2, rfl, hb2, hk5⟩
        have HP5 := Lib.hid (HP4.out.keptN hk5)
        have HB5 := Lib.hid (HB4.out.kept hk5 fun e => e)
        have HQ2 := Lib.hid hb2
        clear hk5 hb2 a16 a17 a18 a19 a20 a21 HTI2
        have a9 : w5.cell? ⟨ba, 9, none⟩ = some (.slice x.note.ga x.note.gn x.note.gc) := HB5.out.cell 9
        have a22 : w5.cell? ⟨ba, 22, none⟩ = some (.int .u64 x.span) := HB5.out.cell 22
        have hlg := len_raw Tryz.underlying63 x.note.ga x.note.gn x.note.gc
        cases b1 with
        | false =>
          go_wp2
          go_ret
          exact ⟨rfl, HP5.out.kept⟩
        | true =>
        cases b2 with
        | false =>
          go_wp2
          go_ret
          exact ⟨rfl, HP5.out.kept⟩
        | true =>
        by_cases hg20 : 20 < x.note.gn
        · go_wp2
          go_ret
          exact ⟨rfl, HP5.out.kept⟩
        have HG20 : Hid (x.note.gn ≤ 20) := Lib.hid (by omega)
        have HTS1 := Lib.hid (HQ1.out rfl)
        have HTS2 := Lib.hid (HQ2.out rfl)
        clear HQ1 HQ2
        go_upto_if 66 with (fail)
        go_cut [12] (fun s12 wx => ∃ nw' : Int, s12 = .int .u64 nw' ∧ 0 ≤ nw' ∧ nw' ≤ ((i + 1 : Nat) : Int) * 1099511627776 ∧ wx = w5)
        case first =>
          have hn0 := HNW0.out
          have hn1 := HNW1.out
          have hsp0 := HXI.out.span.1
          by_cases hsp : x.span < 1099511627776
          · go_wp2_with fail
            go_meet
            exact ⟨nw + x.span, by go_num, by omega, by omega, rfl⟩
          · go_wp2_with fail
            go_meet
            exact ⟨nw, rfl, by omega, by omega, rfl⟩
        case rest =>
          obtain ⟨nw', rfl, hn0, hn1, hwc⟩ := hcut
          subst hwc
          have HN0 := Lib.hid hn0
          have HN1 := Lib.hid hn1
          obtain ⟨s0, s1, s2, s3, s4, s5⟩ := cells6 HP5.out.box
          have HST := Lib.hid (step_at HP5.out.ct HP5.out.row (fun k e => ⟨e.1, e.2.1⟩) HP5.out.ok HP5.out.low (HXI.out.keptN HP5.out.kept) nw' HW.out ⟨hn0, by omega⟩ (HD.out.keptN HP5.out.kept) HG20.out HTS1.out HTS2.out)
          unfold c23C at HST
          clear hn0 hn1 a9 a22 hlg hg20
          go_upto_region 18 with (fail)
          go_wp2_with (first
            | (refine wpList_load_row rfl 69 (.tmp 14) rfl ba rfl 69 x.C (0, 0) _ HB5.out Tryz.underlying69 rfl (act_info x) ?_))
          go_at_call 19
          refine HST.out.mono ?_
          rintro e w6 ⟨own2, A2, n2, cc2, l2, S2, asks2, at2, rfl, hc6, hr6, hS6, ho6, hk6⟩
          unfold c23C
          have hb6 := HP5.out.box.kept hk6 HP5.out.nb
          obtain ⟨r0, r1, r2, r3, r4, r5⟩ := cells6 hb6
          obtain ⟨g0, g1, g2, g3, g4, g5⟩ := frozen6 hb6
          have HP7 := Lib.hid (HP5.out.stored hc6 hr6 hS6 ho6 hk6)
          clear hc6 hr6 hS6 ho6 hk6 hb6 HST s0 s1 s2 s3 s4 s5
          go_upto_region 19 with (fail)
          generalize ((((((w6.setCell ⟨bw, 0, none⟩ (.string dc)).setCell ⟨bw, 1, none⟩ (.int .i64 rem)).setCell ⟨bw, 2, none⟩ (.slice A2 n2 cc2)).setCell ⟨bw, 3, none⟩ (.int .u64 wait)).setCell ⟨bw, 4, none⟩ (.bool asks2)).setCell ⟨bw, 5, none⟩ (.int .u64 at2)) = w7 at *
          clear r0 r1 r2 r3 r4 r5 g0 g1 g2 g3 g4 g5
          obtain ⟨p0, p1, p2, p3, p4, p5⟩ := cells6 HP7.out.box
          refine wp_region_sch (fun w' => Kept noBlock w7 w') (.take 0 (.take 1 (.take 2 (.take 3 (.take 7 (.take 8 (.take 9 (.one 4 (.one 5 (.one 6 (.one 10 (.take 11 (.take 12 .nil))))))))))))) (by kernel_rfl) (by kernel_rfl) (by kernel_rfl) ((Kept.refl noBlock w7).drew) ?_
          repeat (first
            | (refine sch_takeE rfl rfl ?_
               apply Exists.intro
               refine ⟨fun w' hS => ?_, fun K hK => ?_⟩
               · (have q2 := hS.cellOf p2
                  clear hS
                  unfold takesAt; go_simp; rfl)
               go_simp
               refine hK _ ?_
               clear hK K))
          refine sch_doK rfl rfl (fun K hK => ?_)
          go_simp
          go_at_call 20
          refine (cTable_at (HP7.out.ct.keptN ((Kept.refl noBlock w7).drew))).mono ?_
          rintro e w8 ⟨rfl, hw8⟩
          have hk8 : Kept noBlock w7 w8 := by rw [hw8]; exact (Kept.refl noBlock w7).drew
          have HK8 := Lib.hid hk8
          refine hK _ _ HK8.out ?_
          clear hK K hw8 hk8
          repeat (first
            | (refine sch_takeE rfl rfl ?_
               apply Exists.intro
               refine ⟨fun w' hS => ?_, fun K hK => ?_⟩
               · (clear hS
                  unfold takesAt; go_simp; rfl)
               go_simp
               refine hK _ ?_
               clear hK K))
          refine sch_doK rfl rfl (fun K hK => ?_)
          go_simp
          go_at_call 21
          refine (hAll_told (HP7.out.ct.keptN HK8.out).tab (Nat.le_trans HP7.out.ok.ok.len (by decide)) fun o ho => Nat.le_trans (HP7.out.ok.ok.tk o ho) (by decide)).mono ?_
          rintro e w9 ⟨A9, n9, c9, T9, rfl, hto, hk9⟩
          have HTO := Lib.hid hto
          have HK9 := Lib.hid (HK8.out.trans hk9 fun _ _ e => e)
          have hn9 : n9 ≤ 100000 := by
            have h1 := hto.len
            have h2 := congrArg List.length hto.abs
            rw [List.length_map] at h2
            have := HP7.out.ok.ok.len
            omega
          have HHF := Lib.hid (hof_at (SlK.of_ownB hto.row) hto.len hn9 (fun y hy => ⟨Nat.le_trans (HP7.out.ok.ok.tk y.abs (by rw [← hto.abs]; exact List.mem_map.2 ⟨y, hy, rfl⟩)) (by decide), hto.toks y hy⟩))
          rw [hto.abs] at HHF
          refine hK _ _ HK9.out ?_
          clear hK K hto hk9 hn9
          repeat (first
            | (refine sch_takeE rfl rfl ?_
               apply Exists.intro
               refine ⟨fun w' hS => ?_, fun K hK => ?_⟩
               · (clear hS
                  unfold takesAt; go_simp; rfl)
               go_simp
               refine hK _ ?_
               clear hK K))
          refine sch_doK rfl rfl (fun K hK => ?_)
          go_simp
          go_at_call 14
          refine HHF.out.mono ?_
          rintro e wa ⟨Aa, ca, la, rfl, hra, hka⟩
          have HKa := Lib.hid (HK9.out.trans hka fun _ _ e => e)
          have HSA := Lib.hid (R18Same_at hra (HP7.out.row.keptN HKa.out) (Nat.le_trans HP7.out.ok.ok.len (by decide)) (fun o ho => Nat.le_trans (HP7.out.ok.ok.tk o ho) (by decide)))
          refine hK _ _ HKa.out ?_
          clear hK K hra hka
          repeat (first
            | (refine sch_takeE rfl rfl ?_
               apply Exists.intro
               refine ⟨fun w' hS => ?_, fun K hK => ?_⟩
               · (clear hS
                  unfold takesAt; go_simp; rfl)
               go_simp
               refine hK _ ?_
               clear hK K))
          refine sch_doK rfl rfl (fun K hK => ?_)
          go_simp
          go_at_call 13
          refine HSA.out.mono ?_
          rintro e wb ⟨rfl, hkb⟩
          have HKb := Lib.hid (HKa.out.trans hkb fun _ _ e => e)
          refine hK _ _ HKb.out ?_
          clear hK K hkb
          repeat (first
            | (refine sch_takeE rfl rfl ?_
               apply Exists.intro
               refine ⟨fun w' hS => ?_, fun K hK => ?_⟩
               · (clear hS
                  unfold takesAt; go_simp; rfl)
               go_simp
               refine hK _ ?_
               clear hK K))
          refine sch_nil (NoPanic.normal ?_)
          have FIN : Hid (PInv w k g bw dc rem wait n (n - (i + 1)) (.int .u64 nw') (.int .i64 ((i + 1 : Nat) : Int)) wb) := Lib.hid ⟨i + 1, nw', own2, A2, n2, cc2, l2, S2, asks2, at2, by have := HIJ.out; omega, rfl, rfl, HN0.out, HN1.out, by omega, HP7.out.keptN HKb.out⟩
          go_wp2_with fail
          go_roundg (n - (i + 1))
          case measure => have := HIJ.out; omega
          case rel => exact FIN.out
      · clear hij hP hnw0 hnw1
        go_wp2
        go_ret
        exact ⟨rfl, HP.out.kept⟩
    · clear hij hP hnw0 hnw1
      go_wp2
      go_ret
      exact ⟨rfl, HP.out.kept⟩
end Go.Proofs.YtdcdefkloibfnaaGreatDoor

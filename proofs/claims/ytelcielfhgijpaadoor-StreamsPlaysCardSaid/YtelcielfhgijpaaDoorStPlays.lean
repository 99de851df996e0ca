/- StreamsPlays: after any operations which streams are free, asked for, orphans, and due, is what the document says, step by step: it answers true. -/
import Derived.Test.YtelcielfhgijpaaDoorStPlaysTwin
import Derived.Test.YtelcielfhgijpaaDoorStActC
import Derived.Test.YtelcielfhgijpaaDoorBits
import Derived.Deep.LoopGhost
namespace Go.Proofs.YtelcielfhgijpaaDoor
set_option linter.unusedVariables false
open Go.RowKit

theorem act_cells {w : World} {g : Nat} {x y z : Value} (h : Blk w g 45 #[x, y, z]) : w.cell? ⟨g, 0, none⟩ = some x ∧ w.cell? ⟨g, 1, none⟩ = some y ∧ w.cell? ⟨g, 2, none⟩ = some z := ⟨h.cell 0, h.cell 1, h.cell 2⟩

set_option maxHeartbeats 8000000 in
set_option maxRecDepth 100000 in
theorem Plays_walk (n : Int) (vv : Value) (acts : List (Int × Int × Int)) (w : World) (hv : Lo w w.heap.size 3 vv acts.length (acts.flatMap sactC)) (hT : Tab w) (hb : ∀ a ∈ acts, 0 ≤ a.2.2 ∧ a.2.2 < 18446744073709551616) :
    Calls Tryd.prog 5 #[.int .i64 n, vv] w fun e w' => e = .returned (.bool true) ∧ Kept noBlock w w' := by
  obtain ⟨A, cap, rfl, hcap1, hcap2⟩ := hv.shape
  have hbl : acts.length ≤ 9223372036854775807 := by unfold maxLen at hcap2; omega
  have HT := Lib.hid hT
  have HB := Lib.hid hb
  have HV := Lib.hid hv
  clear hT hb hv hcap1 hcap2
  by_cases hn : 1 ≤ n ∧ n ≤ 32768
  · obtain ⟨hn1, hn2⟩ := hn
    go_enter Tryd.func5, Tryd.ntmps5
    go_wp2_with fail
    go_at_call 8
    refine (awake_at _ HT.out).mono ?_
    rintro e w1 ⟨rfl, hk1⟩
    have HK1 := Lib.hid hk1
    clear hk1
    go_wp2_with fail
    go_at_call 9
    refine (New_sw (n := n) HK1.out HT.out hn1 hn2).mono ?_
    rintro e w2 ⟨g, m1, m2, rfl, hs2, -, -⟩
    have hl := hs2.at_.lts
    have hwB : w.heap.size ≤ w2.heap.size := hs2.kept.size
    have HBG := Lib.hid (⟨by omega, by omega, by omega⟩ : w2.heap.size ≠ g ∧ w2.heap.size ≠ m1 ∧ w2.heap.size ≠ m2)
    have START := Lib.hid (⟨(Twin.new hs2).quiet ((Kept.refl noBlock _).alloc _), Blk.new w2 43 #[.int .i64 n, .slice none 0 0]⟩ : Twin w (w2.alloc (.cells #[.int .i64 n, .slice none 0 0] 43)) g m1 m2 (XS.fresh n) (.slice none 0 0) [] ∧ Blk (w2.alloc (.cells #[.int .i64 n, .slice none 0 0] 43)) w2.heap.size 43 #[.int .i64 n, .slice none 0 0])
    clear hs2 hl
    go_wp2_with fail
    generalize w2.heap.size = B at *
    go_loopg [9] 80 (fun j vi wq => ∃ (i : Nat) (s : XS) (v : Value) (L : List XO), i + j = 80 ∧ vi = .int .i64 i ∧ Twin w wq g m1 m2 s v L ∧ s.n = n ∧ L.length ≤ i ∧ Blk wq B 43 #[.int .i64 n, v])
    case atStart => exact ⟨0, XS.fresh n, .slice none 0 0, [], by omega, rfl, START.out.1, rfl, by simp, START.out.2⟩
    case round =>
      obtain ⟨i, s, v, L, hij, rfl, ht, hsn, hll, hbq⟩ := hrel
      clear START
      obtain ⟨Av, cv, rfl, -, -⟩ := ht.os.shape
      have HIJ := Lib.hid hij
      have HT1 := Lib.hid ht
      have HSN := Lib.hid hsn
      have HLL := Lib.hid hll
      have HBQ := Lib.hid hbq
      clear hij ht hsn hll hbq
      by_cases hlt : i < acts.length ∧ i < 80
      · obtain ⟨hl1, hl2⟩ := hlt
        obtain ⟨a, ha⟩ : ∃ a, acts[i]? = some a := ⟨_, List.getElem?_eq_getElem hl1⟩
        obtain ⟨ga, oa, hidx, ha0, ha1, ha2⟩ := sact_at (HV.out.keptNone HT1.out.sw.kept) ha
        have HW := Lib.hid (HB.out a (List.mem_of_getElem? ha))
        have hkind := i64_and3 a.1
        clear ha
        obtain ⟨k0, k1, k2⟩ := a
        simp only at hkind ha0 ha1 ha2 HW
        have hact := Blk.new wr 45 #[.int .i64 k0, .int .i64 k1, .int .u64 k2]
        have htw := HT1.out.quiet ((Kept.refl noBlock wr).alloc (.cells #[.int .i64 k0, .int .i64 k1, .int .u64 k2] 45))
        have hbw := HBQ.out.alloc (.cells #[.int .i64 k0, .int .i64 k1, .int .u64 k2] 45)
        have hbaz := HBQ.out.lt
        have hlts := HT1.out.sw.at_.lts
        have HAG := Lib.hid (⟨by omega, by omega, by omega⟩ : wr.heap.size ≠ g ∧ wr.heap.size ≠ m1 ∧ wr.heap.size ≠ m2)
        have hBa : wr.heap.size ≠ B := by omega
        have HAC := Lib.hid hact
        have HTW := Lib.hid htw
        have HBW := Lib.hid hbw
        clear hact htw hbw hbaz hlts HT1 HBQ
        have h4 : k0 % 4 = 0 ∨ k0 % 4 = 1 ∨ k0 % 4 = 2 ∨ k0 % 4 = 3 := by omega
        rcases h4 with h4 | h4 | h4 | h4 <;> rw [h4] at hkind <;> clear h4
        · obtain ⟨s2, L2, x, f, hsn2, hlen2, hrl, htk, hrf⟩ := HTW.out.take k2 HW.out (by have := HLL.out; omega)
          have HSN2 := Lib.hid (hsn2.trans HSN.out)
          have HLEN2 := Lib.hid (show L2.length ≤ i + 1 by have := HLL.out; omega)
          have HRL := Lib.hid hrl
          have HTK := Lib.hid htk
          have HRF := Lib.hid hrf
          clear hsn2 hlen2 hrl htk hrf HTW
          rw [HSN.out] at HRF
          go_wp2_with fail
          go_at_call 10
          refine HTK.out.mono ?_
          rintro e w4 ⟨rfl, hs4, ho4, hk4⟩
          have nB : ¬ three g m1 m2 B := fun e => by have := HBG.out; rcases e with e | e | e <;> omega
          have nA : ¬ three g m1 m2 wr.heap.size := fun e => by have := HAG.out; rcases e with e | e | e <;> omega
          have hb4 := HBW.out.kept hk4 nB
          have hc4 := HAC.out.kept hk4 nA
          obtain ⟨b0, b1, bf⟩ := sBlk_cells hb4
          obtain ⟨c0, c1, c2⟩ := act_cells hc4
          have HS4 := Lib.hid hs4
          have HO4 := Lib.hid ho4
          have HB4 := Lib.hid hb4
          have HC4 := Lib.hid hc4
          clear hs4 ho4 hk4 hb4 hc4 nB nA HBW HAC ha0 ha1 ha2 hidx
          go_wp2_with fail
          go_at_call 14
          refine (HRF.out _ HO4.out).mono ?_
          rintro e w5 ⟨v5, rfl, ho5, hk5⟩
          obtain ⟨A5, c5, rfl, -, -⟩ := ho5.shape
          have hb5 := HB4.out.kept hk5 (fun h => h)
          have hc5 := HC4.out.kept hk5 (fun h => h)
          have hs5 := HS4.out.quiet hk5
          clear b0 b1 bf c0 c1 c2
          obtain ⟨b0, b1, bf⟩ := sBlk_cells hb5
          obtain ⟨c0, c1, c2⟩ := act_cells hc5
          have HT5 := Lib.hid (Twin.stored (a := .int .i64 n) (b := .slice A5 L2.length c5) hs5 ho5 HRL.out hb5 HBG.out (by omega))
          have HB5 := Lib.hid (sBlk_set hb5 n (.slice A5 L2.length c5))
          clear hs5 ho5 hb5 hc5 hk5 HB4 HC4 HS4 HO4 HRF HTK
          have hr1 : ∀ z : Int, (z != z) = false := fun z => by simp
          have hr2 : ∀ z : Bool, (z != z) = false := fun z => by simp
          go_wp2_with fail
          go_at_call 17
          refine (same_at (n := n) HT5.out HSN2.out).mono ?_
          rintro e w6 ⟨rfl, ht6, hk6⟩
          have HT6 := Lib.hid ht6
          have HB6 := Lib.hid (HB5.out.kept hk6 (fun h => h))
          clear ht6 hk6 b0 b1 bf c0 c1 c2
          go_wp2
          go_roundg (80 - (i + 1))
          case measure => have := HIJ.out; omega
          case rel => exact ⟨i + 1, _, _, _, by omega, by go_num, HT6.out, HSN2.out, HLEN2.out, HB6.out⟩
        · obtain ⟨s2, L2, x, f, hsn2, hlen2, hrl, htk, hrf⟩ := HTW.out.take k2 HW.out (by have := HLL.out; omega)
          have HSN2 := Lib.hid (hsn2.trans HSN.out)
          have HLEN2 := Lib.hid (show L2.length ≤ i + 1 by have := HLL.out; omega)
          have HRL := Lib.hid hrl
          have HTK := Lib.hid htk
          have HRF := Lib.hid hrf
          clear hsn2 hlen2 hrl htk hrf HTW
          rw [HSN.out] at HRF
          go_wp2_with fail
          go_at_call 10
          refine HTK.out.mono ?_
          rintro e w4 ⟨rfl, hs4, ho4, hk4⟩
          have nB : ¬ three g m1 m2 B := fun e => by have := HBG.out; rcases e with e | e | e <;> omega
          have nA : ¬ three g m1 m2 wr.heap.size := fun e => by have := HAG.out; rcases e with e | e | e <;> omega
          have hb4 := HBW.out.kept hk4 nB
          have hc4 := HAC.out.kept hk4 nA
          obtain ⟨b0, b1, bf⟩ := sBlk_cells hb4
          obtain ⟨c0, c1, c2⟩ := act_cells hc4
          have HS4 := Lib.hid hs4
          have HO4 := Lib.hid ho4
          have HB4 := Lib.hid hb4
          have HC4 := Lib.hid hc4
          clear hs4 ho4 hk4 hb4 hc4 nB nA HBW HAC ha0 ha1 ha2 hidx
          go_wp2_with fail
          go_at_call 14
          refine (HRF.out _ HO4.out).mono ?_
          rintro e w5 ⟨v5, rfl, ho5, hk5⟩
          obtain ⟨A5, c5, rfl, -, -⟩ := ho5.shape
          have hb5 := HB4.out.kept hk5 (fun h => h)
          have hc5 := HC4.out.kept hk5 (fun h => h)
          have hs5 := HS4.out.quiet hk5
          clear b0 b1 bf c0 c1 c2
          obtain ⟨b0, b1, bf⟩ := sBlk_cells hb5
          obtain ⟨c0, c1, c2⟩ := act_cells hc5
          have HT5 := Lib.hid (Twin.stored (a := .int .i64 n) (b := .slice A5 L2.length c5) hs5 ho5 HRL.out hb5 HBG.out (by omega))
          have HB5 := Lib.hid (sBlk_set hb5 n (.slice A5 L2.length c5))
          clear hs5 ho5 hb5 hc5 hk5 HB4 HC4 HS4 HO4 HRF HTK
          have hr1 : ∀ z : Int, (z != z) = false := fun z => by simp
          have hr2 : ∀ z : Bool, (z != z) = false := fun z => by simp
          go_wp2_with fail
          go_at_call 17
          refine (same_at (n := n) HT5.out HSN2.out).mono ?_
          rintro e w6 ⟨rfl, ht6, hk6⟩
          have HT6 := Lib.hid ht6
          have HB6 := Lib.hid (HB5.out.kept hk6 (fun h => h))
          clear ht6 hk6 b0 b1 bf c0 c1 c2
          go_wp2
          go_roundg (80 - (i + 1))
          case measure => have := HIJ.out; omega
          case rel => exact ⟨i + 1, _, _, _, by omega, by go_num, HT6.out, HSN2.out, HLEN2.out, HB6.out⟩
        · obtain ⟨s2, L2, x, f, hsn2, hlen2, hrl, htk, hrf⟩ := HTW.out.answer k1 (by have := HLL.out; omega)
          have HSN2 := Lib.hid (hsn2.trans HSN.out)
          have HLEN2 := Lib.hid (show L2.length ≤ i + 1 by have := HLL.out; omega)
          have HRL := Lib.hid hrl
          have HTK := Lib.hid htk
          have HRF := Lib.hid hrf
          clear hsn2 hlen2 hrl htk hrf HTW
          rw [HSN.out] at HRF
          go_wp2_with fail
          go_at_call 13
          refine HTK.out.mono ?_
          rintro e w4 ⟨rfl, hs4, ho4, hk4⟩
          have nB : ¬ three g m1 m2 B := fun e => by have := HBG.out; rcases e with e | e | e <;> omega
          have nA : ¬ three g m1 m2 wr.heap.size := fun e => by have := HAG.out; rcases e with e | e | e <;> omega
          have hb4 := HBW.out.kept hk4 nB
          have hc4 := HAC.out.kept hk4 nA
          obtain ⟨b0, b1, bf⟩ := sBlk_cells hb4
          obtain ⟨c0, c1, c2⟩ := act_cells hc4
          have HS4 := Lib.hid hs4
          have HO4 := Lib.hid ho4
          have HB4 := Lib.hid hb4
          have HC4 := Lib.hid hc4
          clear hs4 ho4 hk4 hb4 hc4 nB nA HBW HAC ha0 ha1 ha2 hidx
          go_wp2_with fail
          go_at_call 15
          refine (HRF.out _ HO4.out).mono ?_
          rintro e w5 ⟨v5, rfl, ho5, hk5⟩
          obtain ⟨A5, c5, rfl, -, -⟩ := ho5.shape
          have hb5 := HB4.out.kept hk5 (fun h => h)
          have hc5 := HC4.out.kept hk5 (fun h => h)
          have hs5 := HS4.out.quiet hk5
          clear b0 b1 bf c0 c1 c2
          obtain ⟨b0, b1, bf⟩ := sBlk_cells hb5
          obtain ⟨c0, c1, c2⟩ := act_cells hc5
          have HT5 := Lib.hid (Twin.stored (a := .int .i64 n) (b := .slice A5 L2.length c5) hs5 ho5 HRL.out hb5 HBG.out (by omega))
          have HB5 := Lib.hid (sBlk_set hb5 n (.slice A5 L2.length c5))
          clear hs5 ho5 hb5 hc5 hk5 HB4 HC4 HS4 HO4 HRF HTK
          have hr1 : ∀ z : Int, (z != z) = false := fun z => by simp
          have hr2 : ∀ z : Bool, (z != z) = false := fun z => by simp
          go_wp2_with fail
          go_at_call 17
          refine (same_at (n := n) HT5.out HSN2.out).mono ?_
          rintro e w6 ⟨rfl, ht6, hk6⟩
          have HT6 := Lib.hid ht6
          have HB6 := Lib.hid (HB5.out.kept hk6 (fun h => h))
          clear ht6 hk6 b0 b1 bf c0 c1 c2
          go_wp2
          go_roundg (80 - (i + 1))
          case measure => have := HIJ.out; omega
          case rel => exact ⟨i + 1, _, _, _, by omega, by go_num, HT6.out, HSN2.out, HLEN2.out, HB6.out⟩
        · obtain ⟨s2, L2, f, hsn2, hlen2, hrl, htk, hrf⟩ := HTW.out.orphan k1 (by have := HLL.out; omega)
          have HSN2 := Lib.hid (hsn2.trans HSN.out)
          have HLEN2 := Lib.hid (show L2.length ≤ i + 1 by have := HLL.out; omega)
          have HRL := Lib.hid hrl
          have HTK := Lib.hid htk
          have HRF := Lib.hid hrf
          clear hsn2 hlen2 hrl htk hrf HTW
          rw [HSN.out] at HRF
          go_wp2_with fail
          go_at_call 12
          refine HTK.out.mono ?_
          rintro e w4 ⟨rfl, hs4, ho4, hk4⟩
          have nB : ¬ three g m1 m2 B := fun e => by have := HBG.out; rcases e with e | e | e <;> omega
          have nA : ¬ three g m1 m2 wr.heap.size := fun e => by have := HAG.out; rcases e with e | e | e <;> omega
          have hb4 := HBW.out.kept hk4 nB
          have hc4 := HAC.out.kept hk4 nA
          obtain ⟨b0, b1, bf⟩ := sBlk_cells hb4
          obtain ⟨c0, c1, c2⟩ := act_cells hc4
          have HS4 := Lib.hid hs4
          have HO4 := Lib.hid ho4
          have HB4 := Lib.hid hb4
          have HC4 := Lib.hid hc4
          clear hs4 ho4 hk4 hb4 hc4 nB nA HBW HAC ha0 ha1 ha2 hidx
          go_wp2_with fail
          go_at_call 16
          refine (HRF.out _ HO4.out).mono ?_
          rintro e w5 ⟨v5, rfl, ho5, hk5⟩
          obtain ⟨A5, c5, rfl, -, -⟩ := ho5.shape
          have hb5 := HB4.out.kept hk5 (fun h => h)
          have hc5 := HC4.out.kept hk5 (fun h => h)
          have hs5 := HS4.out.quiet hk5
          clear b0 b1 bf c0 c1 c2
          obtain ⟨b0, b1, bf⟩ := sBlk_cells hb5
          obtain ⟨c0, c1, c2⟩ := act_cells hc5
          have HT5 := Lib.hid (Twin.stored (a := .int .i64 n) (b := .slice A5 L2.length c5) hs5 ho5 HRL.out hb5 HBG.out (by omega))
          have HB5 := Lib.hid (sBlk_set hb5 n (.slice A5 L2.length c5))
          clear hs5 ho5 hb5 hc5 hk5 HB4 HC4 HS4 HO4 HRF HTK
          have hr1 : ∀ z : Int, (z != z) = false := fun z => by simp
          have hr2 : ∀ z : Bool, (z != z) = false := fun z => by simp
          go_wp2_with fail
          go_at_call 17
          refine (same_at (n := n) HT5.out HSN2.out).mono ?_
          rintro e w6 ⟨rfl, ht6, hk6⟩
          have HT6 := Lib.hid ht6
          have HB6 := Lib.hid (HB5.out.kept hk6 (fun h => h))
          clear ht6 hk6 b0 b1 bf c0 c1 c2
          go_wp2
          go_roundg (80 - (i + 1))
          case measure => have := HIJ.out; omega
          case rel => exact ⟨i + 1, _, _, _, by omega, by go_num, HT6.out, HSN2.out, HLEN2.out, HB6.out⟩
      · have HK9 := Lib.hid HT1.out.sw.kept
        clear HT1 HBQ
        by_cases hl1 : i < acts.length
        · have hl2 : ¬ i < 80 := fun e => hlt ⟨hl1, e⟩
          go_wp2
          go_ret
          exact ⟨rfl, HK9.out⟩
        · go_wp2
          go_ret
          exact ⟨rfl, HK9.out⟩
  · by_cases hn0 : n < 1
    · go_enter Tryd.func5, Tryd.ntmps5
      go_wp2_with fail
      go_at_call 8
      refine (awake_at _ HT.out).mono ?_
      rintro e w1 ⟨rfl, hk1⟩
      go_wp2_with fail
      go_at_call 9
      refine (New_bad (n := n) w1 hn).mono ?_
      rintro e w2 ⟨rfl, rfl⟩
      go_wp2
      go_ret
      exact ⟨rfl, hk1⟩
    · have hn3 : 32768 < n := by omega
      go_enter Tryd.func5, Tryd.ntmps5
      go_wp2_with fail
      go_at_call 8
      refine (awake_at _ HT.out).mono ?_
      rintro e w1 ⟨rfl, hk1⟩
      go_wp2_with fail
      go_at_call 9
      refine (New_bad (n := n) w1 hn).mono ?_
      rintro e w2 ⟨rfl, rfl⟩
      go_wp2
      go_ret
      exact ⟨rfl, hk1⟩
end Go.Proofs.YtelcielfhgijpaaDoor

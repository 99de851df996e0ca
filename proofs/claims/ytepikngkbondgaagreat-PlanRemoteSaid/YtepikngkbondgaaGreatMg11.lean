/- Chapter 18's reference: Refresh (written by gen/r18ref.py) · An argument that is a slice, opened: its elements as a list, each read by the caller's own reading. No program is named · A slice of a ring's places (ring.Place), read as a list · Hosts that came in, read as a list; crowd · Hosts that came in, read as a list, with the bound of their names · Chapter 19's law: its table and the reference's, of the same hosts; factors as the reference has them · Chapter 19's example: the law's awake answers true · Slices of sites and of factors, read as lists · A keyspace that came in · A law's row out of its walk: whatever its arguments are, if the call answers true and leaves all that was there as it was. No program is named. -/
import Derived.Test.YtepikngkbondgaaGreatMg10
import Derived.Test.YtepikngkbondgaaGreatMg01
import Derived.Deep.Slices
import Derived.WideShapes
import Derived.OpenShut
import Derived.Test.YtepikngkbondgaaGreatMg05
import Derived.Test.YtepikngkbondgaaGreatMg08
import Derived.Lib.SmallJoins
import Derived.WalkKit
import Derived.ProofKit
import Derived.ShutString
namespace Go.Proofs.YtepikngkbondgaaGreat
set_option linter.unusedVariables false
open Go.RowKit
open Go.ChangeMaps (setBlock)

theorem hoAt_le (S : List Ho) (x : ByteArray) : hoAt S x ≤ S.length := List.findIdx_le_length
theorem hoAt_lt {S : List Ho} {x : ByteArray} {i : Nat} {o : Ho} (h : i < hoAt S x) (ho : S[i]? = some o) : nlt o.name x := by
  have h1 := List.not_of_lt_findIdx h
  rw [(List.getElem?_eq_some_iff.1 ho).2] at h1
  simpa using h1
theorem hoAt_ge {S : List Ho} {x : ByteArray} {o : Ho} (ho : S[hoAt S x]? = some o) : ¬ nlt o.name x := by
  obtain ⟨h1, h2⟩ := List.getElem?_eq_some_iff.1 ho
  have h3 := List.findIdx_getElem (w := h1)
  have h4 : (!decide (nlt (S[hoAt S x]).name x)) = true := h3
  rw [h2] at h4
  simpa using h4
theorem filter_one (P : Ho → Bool) (q : Ho) : (([q].filter P).map (·.name)) = if P q = true then [q.name] else [] := by by_cases h : P q = true <;> simp [h]
theorem hv_take (T : List HV) (t : Nat) : (T.flatMap hvC).take (t * 5) = (T.take t).flatMap hvC := by
  by_cases h : t ≤ T.length
  · conv => lhs; rw [← List.take_append_drop t T]
    rw [List.flatMap_append, List.take_left' (by rw [hvC_len, List.length_take]; congr 1; omega)]
  · rw [List.take_of_length_le (by rw [hvC_len]; omega), List.take_of_length_le (by omega)]
theorem hv_drop (T : List HV) (t : Nat) : (T.flatMap hvC).drop (t * 5) = (T.drop t).flatMap hvC := by
  by_cases h : t ≤ T.length
  · conv => lhs; rw [← List.take_append_drop t T]
    rw [List.flatMap_append, List.drop_left' (by rw [hvC_len, List.length_take]; congr 1; omega)]
  · rw [List.drop_eq_nil_of_le (by rw [hvC_len]; omega), List.drop_eq_nil_of_le (by omega)]; rfl
theorem less_yes {a b : ByteArray} {w : World} (ha : a.size ≤ 9223372036854775807) (hb : b.size ≤ 9223372036854775807) (h : nlt a b) : Calls Tryz.prog 44 #[.string a, .string b] w fun e w' => e = .returned (.bool true) ∧ ∃ n, w' = w.drewN n := by
  have := R18less_at a b w ha hb
  rwa [decide_eq_true h] at this
theorem less_no {a b : ByteArray} {w : World} (ha : a.size ≤ 9223372036854775807) (hb : b.size ≤ 9223372036854775807) (h : ¬ nlt a b) : Calls Tryz.prog 44 #[.string a, .string b] w fun e w' => e = .returned (.bool false) ∧ ∃ n, w' = w.drewN n := by
  have := R18less_at a b w ha hb
  rwa [decide_eq_false h] at this
set_option maxHeartbeats 16000000 in
set_option maxRecDepth 100000 in
theorem R18Ref_at {w : World} {ok okL : Nat → Prop} {A0 A : Option Addr} {n0 c0 n c : Nat} {l0 lL : List HV} {S L : List Ho} (dc : ByteArray) (rem : Int) (h0 : RL w ok A0 n0 c0 l0 S) (hL : RL w okL A n c lL L) (hn0 : n0 ≤ 1000) (hn : n ≤ 1000) (ht : ∀ o ∈ L, o.toks.length ≤ 1000000) (hnm : ∀ o ∈ S ++ L, o.name.size ≤ 9223372036854775807) :
    Calls Tryz.prog 23 #[.agg #[.string dc, .int .i64 rem, .slice A0 n0 c0], .slice A n c] w fun e w' => ∃ A' k' c' T' Aa na ca Ag ng cg, e = .returned (.tuple #[.agg #[.string dc, .int .i64 rem, .slice A' k' c'], .slice Aa na ca, .slice Ag ng cg]) ∧ RL w' (fun k => w.heap.size ≤ k) A' k' c' T' (refNow (viewS S) L) ∧
      SlK w' (fun k _ => w.heap.size ≤ k ∧ k ≠ w.heap.size + 1) 1 (.slice Aa na ca) na ((addedP (viewS S) (refNow (viewS S) L)).map Value.string) ∧ SlK w' (fun k _ => w.heap.size ≤ k ∧ k ≠ w.heap.size + 1) 1 (.slice Ag ng cg) ng ((goneP S (refNow (viewS S) L)).map Value.string) ∧ Kept noBlock w w' := by
  have hb0 : Blk (w.alloc (.cells #[.string dc, .int .i64 rem, .slice A0 n0 c0] 32)) w.heap.size 32 #[.string dc, .int .i64 rem, .slice A0 n0 c0] := Blk.new _ _ _
  have hb := hb0.alloc (.cells #[.string ⟨#[]⟩, .int .i64 0, .slice none 0 0] 32)
  have hr : Blk ((w.alloc (.cells #[.string dc, .int .i64 rem, .slice A0 n0 c0] 32)).alloc (.cells #[.string ⟨#[]⟩, .int .i64 0, .slice none 0 0] 32)) (w.heap.size + 1) 32 #[.string ⟨#[]⟩, .int .i64 0, .slice none 0 0] := Blk.new_at _ _ _ (by rw [sz_alloc])
  have hk2 : Kept noBlock w ((w.alloc (.cells #[.string dc, .int .i64 rem, .slice A0 n0 c0] 32)).alloc (.cells #[.string ⟨#[]⟩, .int .i64 0, .slice none 0 0] 32)) := ((Kept.refl noBlock w).alloc _).alloc _
  have hz2 : ((w.alloc (.cells #[.string dc, .int .i64 rem, .slice A0 n0 c0] 32)).alloc (.cells #[.string ⟨#[]⟩, .int .i64 0, .slice none 0 0] 32)).heap.size = w.heap.size + 1 + 1 := by rw [sz_alloc, sz_alloc]
  have H0 := Lib.hid (h0.keptN hk2)
  have HL := Lib.hid (hL.keptN hk2)
  have HS0 := Lib.hid h0.2.1
  have HSL := Lib.hid hL.2.1
  have HB := Lib.hid hb
  have HR := Lib.hid hr
  have HW0 := Lib.hid hk2
  have HZ2 := Lib.hid hz2
  have HT := Lib.hid ht
  have HNM := Lib.hid hnm
  clear hb0 hb hr hk2 hz2 h0 hL ht hnm
  go_enter Tryz.func23, Tryz.ntmps23
  go_wp2_with fail
  generalize (w.alloc (.cells #[.string dc, .int .i64 rem, .slice A0 n0 c0] 32)).alloc (.cells #[.string ⟨#[]⟩, .int .i64 0, .slice none 0 0] 32) = wb at *
  have HPB : Hid (∀ W, Kept noBlock wb W → W.cell? ⟨w.heap.size, 2, none⟩ = some (.slice A0 n0 c0)) := Lib.hid fun W hW => (HB.out.kept hW fun e => e).cell 2
  go_loopg [7, 8] n (fun j vo vi wr => ∃ (i : Nat) (A6 : Option Addr) (k6 c6 : Nat) (T now : List _), i + j = n ∧ vi = .int .i64 i ∧ vo = .slice A6 k6 c6 ∧ Hid (now = (L.take i).foldl (refStep (viewS S)) []) ∧ now.length ≤ i ∧ RL wr (fun k => w.heap.size + 1 + 1 ≤ k) A6 k6 c6 T now ∧ Kept noBlock wb wr)
  case atStart => exact ⟨0, none, 0, 0, [], [], by omega, rfl, rfl, Lib.hid rfl, by simp, ⟨rfl, rfl, SlK.nil _ _ _, fun x hx => absurd hx List.not_mem_nil⟩, Kept.refl _ _⟩
  case round =>
    obtain ⟨i, A6, k6, c6, T, now, hij, rfl, rfl, HNW, hni, hR, hk⟩ := hrel
    have HIJ := Lib.hid hij
    have HKr := Lib.hid hk
    have HNOW := Lib.hid hR
    have HNI := Lib.hid hni
    have HNL := Lib.hid hR.2.1
    by_cases hi : i < n
    · obtain ⟨x0, hx0⟩ : ∃ x0, L[i]? = some x0 := ⟨_, List.getElem?_eq_getElem (by have := HSL.out; omega)⟩
      obtain ⟨x, gi, oi, hxl, hxa, hidx, y0, y1, y2, y3, y4, hyn, hyt⟩ := (HL.out.keptN hk).at hx0
      have hxt := HT.out x0 (List.mem_of_getElem? hx0)
      have hx1n := HNM.out x0 (List.mem_append.2 (.inr (List.mem_of_getElem? hx0)))
      have HNW1 : Hid (∀ o ∈ now, o.name.size ≤ 9223372036854775807) := Lib.hid fun o ho => by
        have ho' : o ∈ refNow (viewS S) (L.take i) := by rw [HNW.out] at ho; exact ho
        obtain ⟨a, ha, rfl, -⟩ := refNow_mem ho'
        exact HNM.out a (List.mem_append.2 (.inr (List.mem_of_mem_take ha)))
      have HXT0 := (HL.out.2.2.2 x (List.mem_of_getElem? hxl))
      subst hxa
      obtain ⟨x1, x2, x3, x4, x5, x6, x7, x8⟩ := x
      simp only [HV.abs] at y0 y1 y2 y4 hyn hxt hx1n
      have HXT : Hid (SlK wb (fun k _ => okL k) 1 (.slice x4 x5 x6) x5 (x7.map (Value.int .i64))) := Lib.hid HXT0
      have hx5 : x5 ≤ 1000000 := by have h1 : x5 = x7.length := hyn; omega
      have HTK : Hid ((L.take (i + 1)) = L.take i ++ [HV.abs ⟨x1, x2, x3, x4, x5, x6, x7, x8⟩]) := Lib.hid (by rw [List.take_add_one, hx0]; rfl)
      have hb1 : Blk (wr.alloc (.cells #[.string x1, .string x2, .string x3, .slice x4 x5 x6, .bool x8] 74)) wr.heap.size 74 #[.string x1, .string x2, .string x3, .slice x4 x5 x6, .bool x8] := Blk.new _ _ _
      have hk1 : Kept noBlock wr (wr.alloc (.cells #[.string x1, .string x2, .string x3, .slice x4 x5 x6, .bool x8] 74)) := (Kept.refl _ _).alloc _
      have z0 := hb1.cell 0
      have z3 := hb1.cell 3
      simp only [List.getElem?_toArray, List.getElem?_cons_succ, List.getElem?_cons_zero] at z0 z3
      have HB1 := Lib.hid hb1
      have HK1 := Lib.hid hk1
      have p2 := HPB.out _ (hk.trans hk1 fun _ _ e => e)
      have HF1 := R18find_at (hR.keptN hk1) x1
      have HF2 := R18find_at (H0.out.keptN (hk.trans hk1 fun _ _ e => e)) x1
      clear hij hk hR hni hx0 hxl hyn hyt hxt HXT0 hb1 hk1
      by_cases hnm : x1 = noStr
      · have hbe : (x1.toList == []) = true := by rw [hnm, ByteArray.toList_eq]; rfl
        have HST : Hid (refStep (viewS S) now (HV.abs ⟨x1, x2, x3, x4, x5, x6, x7, x8⟩) = now) := Lib.hid (by unfold refStep; rw [if_pos (.inl hnm)])
        clear hnm HF1 HF2
        go_wp2_with fail
        go_roundg (n - (i + 1))
        case measure => have := HIJ.out; omega
        case rel => exact ⟨i + 1, A6, k6, c6, T, now, by have := HIJ.out; omega, by go_num, rfl, Lib.hid (by rw [HTK.out, List.foldl_append, ← HNW.out]; exact HST.out.symm), by have := HNI.out; omega, HNOW.out.keptN HK1.out, HKr.out.trans HK1.out fun _ _ e => e⟩
      · have hbe : (x1.toList == []) = false := by
          cases hq : (x1.toList == ([] : List UInt8)) with
          | false => rfl
          | true => exact absurd (toList_inj (b := noStr) (by rw [eq_of_beq hq, ByteArray.toList_eq]; rfl)) hnm
        cases hg : getS x1 now with
        | some o =>
          have HST : Hid (refStep (viewS S) now (HV.abs ⟨x1, x2, x3, x4, x5, x6, x7, x8⟩) = now) := Lib.hid (by unfold refStep; rw [if_pos (.inr (by show (getS x1 now).isSome = true; rw [hg]; rfl))])
          obtain ⟨hv, hlt, -⟩ := findV_some hg
          rw [hv] at HF1
          clear hnm HF2 hg hv
          go_wp2_with fail
          refine HF1.mono ?_
          rintro e w4 ⟨rfl, rfl⟩
          clear HF1
          go_wp2_with fail
          go_roundg (n - (i + 1))
          case measure => have := HIJ.out; omega
          case rel => exact ⟨i + 1, A6, k6, c6, T, now, by have := HIJ.out; omega, by go_num, rfl, Lib.hid (by rw [HTK.out, List.foldl_append, ← HNW.out]; exact HST.out.symm), by have := HNI.out; omega, HNOW.out.keptN HK1.out, HKr.out.trans HK1.out fun _ _ e => e⟩
        | none =>
          have HST : Hid (refStep (viewS S) now (HV.abs ⟨x1, x2, x3, x4, x5, x6, x7, x8⟩) = insH now (updH (viewS S) (HV.abs ⟨x1, x2, x3, x4, x5, x6, x7, x8⟩))) := Lib.hid (by unfold refStep; rw [if_neg (by rintro (e | e); exact hnm e; rw [show getS (HV.abs ⟨x1, x2, x3, x4, x5, x6, x7, x8⟩).name now = none from hg] at e; cases e)])
          rw [findV_none hg] at HF1
          cases hg2 : getS x1 S with
          | none =>
            rw [findV_none hg2] at HF2
            have HUP : Hid (∀ TA TN TC, updH (viewS S) (HV.abs ⟨x1, x2, x3, x4, x5, x6, x7, x8⟩) = HV.abs ⟨x1, x2, x3, TA, TN, TC, tidyP x7, x8⟩) := Lib.hid fun _ _ _ => by simp [updH, HV.abs, viewS, hg2]
            clear hnm hg hg2
            go_wp2_with fail
            refine HF1.mono ?_
            rintro e w4 ⟨rfl, rfl⟩
            clear HF1
            go_wp2_with fail
            refine HF2.mono ?_
            rintro e w4 ⟨rfl, rfl⟩
            clear HF2
            go_wp2_with fail
            have HB5 := HB1
            have HK5 := HK1
            generalize wr.alloc (.cells #[.string x1, .string x2, .string x3, .slice x4 x5 x6, .bool x8] 74) = W5 at *
            refine (R18tidy_at (w := W5) ((HXT.out.keptNone HKr.out).keptNone HK5.out) hx5).mono ?_
            rintro e w6 ⟨TA, TN, TC, rfl, hts, htk⟩
            have hb6 := HB5.out.kept htk (fun e => e)
            have z63 := hb6.cell 3
            have f63 := hb6.frozen 3
            simp only [List.getElem?_toArray, List.getElem?_cons_succ, List.getElem?_cons_zero] at z63
            have hb7 : Blk (w6.setCell ⟨wr.heap.size, 3, none⟩ (.slice TA TN TC)) wr.heap.size 74 #[.string x1, .string x2, .string x3, .slice TA TN TC, .bool x8] := hb6.set_ 3 (.slice TA TN TC)
            have hk7 : Kept noBlock wr (w6.setCell ⟨wr.heap.size, 3, none⟩ (.slice TA TN TC)) := (HK5.out.trans htk fun _ _ e => e).setCell (p := ⟨wr.heap.size, 3, none⟩) (fun h => absurd h (Nat.lt_irrefl _)) _
            have hts7 := hts.keptAll ((Kept.refl (fun k => k = wr.heap.size) w6).setCell (p := ⟨wr.heap.size, 3, none⟩) (fun _ => rfl) (.slice TA TN TC)) (fun k e h e2 => by have := HB5.out.lt; omega)
            have HTS7 := Lib.hid hts7
            have HK7 := Lib.hid hk7
            have HB7 := Lib.hid hb7
            have HZ5 : Hid (w.heap.size + 1 + 1 ≤ W5.heap.size) := Lib.hid (by have h1 := HKr.out.size; have h2 := HK5.out.size; have h3 := HZ2.out; omega)
            clear hts htk hb6 hb7 hk7 hts7
            go_wp2_with fail
            generalize w6.setCell ⟨wr.heap.size, 3, none⟩ (.slice TA TN TC) = W7 at *
            have hpl := hoAt_le now x1
            have HLT : Hid (∀ a, a < hoAt now x1 → ∃ y, now[a]? = some y ∧ nlt y.name x1) := Lib.hid fun a ha => ⟨_, List.getElem?_eq_getElem (by omega), hoAt_lt ha (List.getElem?_eq_getElem (by omega))⟩
            have HAT : Hid (hoAt now x1 < now.length → ∃ y, now[hoAt now x1]? = some y ∧ ¬ nlt y.name x1) := Lib.hid fun h => ⟨_, List.getElem?_eq_getElem h, hoAt_ge (List.getElem?_eq_getElem h)⟩
            have HIN : Hid (insH now (HV.abs ⟨x1, x2, x3, TA, TN, TC, tidyP x7, x8⟩) = now.take (hoAt now x1) ++ HV.abs ⟨x1, x2, x3, TA, TN, TC, tidyP x7, x8⟩ :: now.drop (hoAt now x1)) := Lib.hid rfl
            have HPL := Lib.hid hpl
            have HR7 := Lib.hid (HNOW.out.keptN HK7.out)
            have b70 := HB7.out.cell 0
            simp only [List.getElem?_toArray, List.getElem?_cons_zero] at b70
            have hk6n : k6 ≤ 100000 := by have := HNL.out; have := HNI.out; omega
            clear hpl
            generalize hoAt now x1 = t at *
            go_loopg [11] t (fun q va wx => ∃ a nn : Nat, a + q = t ∧ va = .int .i64 a ∧ wx = W7.drewN nn)
            case atStart => exact ⟨0, 0, by omega, rfl, rfl⟩
            case round =>
              obtain ⟨a, nn, haq, rfl, rfl⟩ := hrel
              have HAQ := Lib.hid haq
              clear haq
              by_cases hat : a < t
              · have HATA := Lib.hid hat
                obtain ⟨y, hy, hyx⟩ := HLT.out a hat
                obtain ⟨yy, gy, oy, -, -, hidy, cy, -⟩ := HR7.out.at hy
                have hal2 : a < k6 := by have := HPL.out; have := HNL.out; omega
                have hal3 : a ≤ 100000 := by omega
                have hyn1 := HNW1.out y (List.mem_of_getElem? hy)
                clear hy
                go_wp2_with fail
                go_quiet ((first | (go_at_call 44; exact quiet_any (less_yes hyn1 hx1n hyx)) | (go_at_call 44; exact quiet_any2 (less_yes hyn1 hx1n hyx))))
                go_wp2_with fail
                go_roundg (t - (a + 1))
                case measure => have := HAQ.out; omega
                case rel => exact ⟨a + 1, nn + nq, by have := HAQ.out; have := HATA.out; omega, by go_num, by first | rfl | (rw [World.drewN_drewN])⟩
              · obtain rfl : t = a := by have := HAQ.out; omega
                clear hat
                by_cases hend : t < k6
                · obtain ⟨y, hy, hyx⟩ := HAT.out (by have := HNL.out; omega)
                  obtain ⟨yy, gy, oy, -, -, hidy, cy, -⟩ := HR7.out.at hy
                  have hyn1 := HNW1.out y (List.mem_of_getElem? hy)
                  clear hy
                  go_wp2_with fail
                  go_quiet ((first | (go_at_call 44; exact quiet_any (less_no hyn1 hx1n hyx)) | (go_at_call 44; exact quiet_any2 (less_no hyn1 hx1n hyx))))
                  try rw [World.drewN_drewN]
                  have hr8 := (HR7.out.keptN ((Kept.refl noBlock W7).drewN (nn + nq)))
                  have hkw : Kept noBlock wr (W7.drewN (nn + nq)) := HK7.out.drewN _
                  have hb8 := HB7.out.drewN (nn + nq)
                  have hts8 := SlK.drewN HTS7.out (nn + nq)
                  have hzw : wr.heap.size < (W7.drewN (nn + nq)).heap.size := hb8.lt
                  generalize W7.drewN (nn + nq) = W at *
                  have HB7W := Lib.hid hb8
                  have HKW := Lib.hid hkw
                  have HTS8 := Lib.hid hts8
                  have HK0 := Lib.hid (Kept.refl noBlock W)
                  obtain ⟨A2, c2, hto, hst⟩ := hr8.2.2.1.run_to h18sT (i := (t : Int)) (k := t) rfl (by have := HPL.out; have := HNL.out; omega)
                  obtain ⟨A3, c3, hfrom, hsf⟩ := hr8.2.2.1.run_from h18sT (i := (t : Int)) (k := t) rfl (by have := HPL.out; have := HNL.out; omega)
                  rw [hv_take] at hst
                  rw [hv_drop] at hsf
                  have HS0' := Lib.hid (SlK.lo hst)
                  have HSF0 := Lib.hid (SlK.lo hsf)
                  have hlt2 : t ≤ k6 := by have := HPL.out; have := HNL.out; omega
                  have HR8 := Lib.hid hr8
                  clear hst hsf hr8 hkw hb8 hts8 b70 HR7 hidy cy
                  go_wp2_with (at_builtin; go_must (refine wpList_append_sl _ h18sT rfl (.tmp 71) (.tmp 74) rfl W.heap.size _ 0 [] rfl (World.ownsRow_nil _ _ _ _) _ t _ rfl HS0'.out (fun u hu => hvC_one hu) ?c1 ?c2 ?_))
                  case c1 => omega
                  case c2 => first | omega | (simp; omega)
                  intro v1 w3 hap1
                  have hk3 : Kept noBlock W w3 := HK0.out.trans hap1.keptNil (fun _ _ h => h)
                  have HF1 := Lib.hid (SlK.keptNone HSF0.out hap1.keptNil)
                  have HO1 := Lib.hid hap1.own
                  have hsz1 := hap1.keptNil.size
                  have hb9 := HB7W.out.kept hk3 fun e => e
                  have q0 := hb9.cell 0
                  have q1 := hb9.cell 1
                  have q2 := hb9.cell 2
                  have q3 := hb9.cell 3
                  have q4 := hb9.cell 4
                  simp only [List.getElem?_toArray, List.getElem?_cons_succ, List.getElem?_cons_zero] at q0 q1 q2 q3 q4
                  clear hb9
                  have HK3 := Lib.hid hk3
                  clear hap1 hk3
                  go_wp2_with (at_builtin; go_must (refine wpList_append_sl _ h18sT rfl (.tmp 76) (.tmp 78) rfl W.heap.size _ t _ rfl (World.ownsRow.alloc HO1.out _) _ 1 [.string x1, .string x2, .string x3, .slice TA TN TC, .bool x8] rfl (Sl.made_at (Blk.new_at _ _ _ rfl) _ rfl rfl one_max) (by simp [Value.oneCell']) ?d1 ?d2 ?_))
                  case d1 => omega
                  case d2 => first | omega | (simp; omega)
                  intro v2 w4 hap2
                  have hf2 := SlK.appended (SlK.alloc HF1.out _) hap2 (World.ownsRow.alloc HO1.out _) (Nat.le_refl _)
                  have hk4 : Kept noBlock W w4 := hap2.below (World.ownsRow.alloc HO1.out _) (HK3.out.alloc _) HK0.out.size
                  have HO2 := Lib.hid hap2.own
                  have hsz2 := (hap2.kept).size
                  rw [sz_alloc] at hsz2
                  have HK4 := Lib.hid hk4
                  have HF2 := Lib.hid hf2
                  clear hap2 hf2 hk4 HK3
                  go_wp2_with (at_builtin; go_must (refine wpList_append_sl _ h18sT rfl (.tmp 80) (.tmp 83) rfl W.heap.size _ (t + 1) _ rfl HO2.out _ (k6 - t) _ rfl HF2.out (fun u hu => hvC_one hu) ?e1 ?e2 ?_))
                  case e1 => omega
                  case e2 => omega
                  intro v3 w5 hap3
                  have hk5 : Kept noBlock W w5 := hap3.below HO2.out HK4.out HK0.out.size
                  have HO5 := Lib.hid hap3.own
                  have HK5' := Lib.hid hk5
                  clear hap3 hk5 HK4
                  obtain ⟨A9, c9, rfl, -, -⟩ := (Sl.of_own HO5.out).shape
                  have HREL : Hid (RL w5 (fun k => w.heap.size + 1 + 1 ≤ k) A9 (t + 1 + (k6 - t)) c9 (T.take t ++ ⟨x1, x2, x3, TA, TN, TC, tidyP x7, x8⟩ :: T.drop t) (insH now (updH (viewS S) (HV.abs ⟨x1, x2, x3, x4, x5, x6, x7, x8⟩)))) := Lib.hid (by
                    have hwW : w.heap.size + 1 + 1 ≤ W.heap.size := by have h1 := HKr.out.size; have h2 := HKW.out.size; have h3 := HZ2.out; omega
                    refine ⟨?_, ?_, ?_, fun z hz => ?_⟩
                    · rw [HUP.out TA TN TC, HIN.out, List.map_append, List.map_cons, List.map_take, List.map_drop, HNOW.out.1]
                    · rw [HUP.out TA TN TC, HIN.out]
                      have := HPL.out
                      have := HNL.out
                      simp; omega
                    · have h1 := SlK.of_ownB HO5.out
                      have e1 := h1.any (ok' := fun b _ => w.heap.size + 1 + 1 ≤ b) fun b _ _ e => Nat.le_trans hwW e.1
                      simpa [List.flatMap_append, hvC] using e1
                    · have hold : ∀ z ∈ T, SlK w5 (fun k _ => w.heap.size + 1 + 1 ≤ k) 1 (.slice z.ta z.tn z.tc) z.tn (z.toks.map (Value.int .i64)) := fun z hz => (HR8.out.2.2.2 z hz).keptNone HK5'.out
                      rcases List.mem_append.1 hz with hz | hz
                      · exact hold z (List.mem_of_mem_take hz)
                      · rcases List.mem_cons.1 hz with rfl | hz
                        · exact (HTS8.out.keptNone HK5'.out).any fun k _ _ h => Nat.le_trans HZ5.out h
                        · exact hold z (List.mem_of_mem_drop hz))
                  go_wp2_with fail
                  go_roundg (n - (i + 1))
                  case measure => have := HIJ.out; omega
                  case rel => exact ⟨i + 1, A9, _, c9, _, _, by have := HIJ.out; omega, by go_num, rfl, Lib.hid (by rw [HTK.out, List.foldl_append, ← HNW.out]; exact HST.out.symm), by rw [HREL.out.2.1]; have := HNI.out; have := HNL.out; omega, HREL.out, HKr.out.trans (HKW.out.trans HK5'.out fun _ _ e => e) fun _ _ e => e⟩
                · go_wp2_with fail
                  go_quiet (fail)
                  try rw [World.drewN_drewN]
                  have hr8 := (HR7.out.keptN ((Kept.refl noBlock W7).drewN (nn + nq)))
                  have hkw : Kept noBlock wr (W7.drewN (nn + nq)) := HK7.out.drewN _
                  have hb8 := HB7.out.drewN (nn + nq)
                  have hts8 := SlK.drewN HTS7.out (nn + nq)
                  have hzw : wr.heap.size < (W7.drewN (nn + nq)).heap.size := hb8.lt
                  generalize W7.drewN (nn + nq) = W at *
                  have HB7W := Lib.hid hb8
                  have HKW := Lib.hid hkw
                  have HTS8 := Lib.hid hts8
                  have HK0 := Lib.hid (Kept.refl noBlock W)
                  obtain ⟨A2, c2, hto, hst⟩ := hr8.2.2.1.run_to h18sT (i := (t : Int)) (k := t) rfl (by have := HPL.out; have := HNL.out; omega)
                  obtain ⟨A3, c3, hfrom, hsf⟩ := hr8.2.2.1.run_from h18sT (i := (t : Int)) (k := t) rfl (by have := HPL.out; have := HNL.out; omega)
                  rw [hv_take] at hst
                  rw [hv_drop] at hsf
                  have HS0' := Lib.hid (SlK.lo hst)
                  have HSF0 := Lib.hid (SlK.lo hsf)
                  have hlt2 : t ≤ k6 := by have := HPL.out; have := HNL.out; omega
                  have HR8 := Lib.hid hr8
                  clear hst hsf hr8 hkw hb8 hts8 b70 HR7
                  go_wp2_with (at_builtin; go_must (refine wpList_append_sl _ h18sT rfl (.tmp 71) (.tmp 74) rfl W.heap.size _ 0 [] rfl (World.ownsRow_nil _ _ _ _) _ t _ rfl HS0'.out (fun u hu => hvC_one hu) ?c1 ?c2 ?_))
                  case c1 => omega
                  case c2 => first | omega | (simp; omega)
                  intro v1 w3 hap1
                  have hk3 : Kept noBlock W w3 := HK0.out.trans hap1.keptNil (fun _ _ h => h)
                  have HF1 := Lib.hid (SlK.keptNone HSF0.out hap1.keptNil)
                  have HO1 := Lib.hid hap1.own
                  have hsz1 := hap1.keptNil.size
                  have hb9 := HB7W.out.kept hk3 fun e => e
                  have q0 := hb9.cell 0
                  have q1 := hb9.cell 1
                  have q2 := hb9.cell 2
                  have q3 := hb9.cell 3
                  have q4 := hb9.cell 4
                  simp only [List.getElem?_toArray, List.getElem?_cons_succ, List.getElem?_cons_zero] at q0 q1 q2 q3 q4
                  clear hb9
                  have HK3 := Lib.hid hk3
                  clear hap1 hk3
                  go_wp2_with (at_builtin; go_must (refine wpList_append_sl _ h18sT rfl (.tmp 76) (.tmp 78) rfl W.heap.size _ t _ rfl (World.ownsRow.alloc HO1.out _) _ 1 [.string x1, .string x2, .string x3, .slice TA TN TC, .bool x8] rfl (Sl.made_at (Blk.new_at _ _ _ rfl) _ rfl rfl one_max) (by simp [Value.oneCell']) ?d1 ?d2 ?_))
                  case d1 => omega
                  case d2 => first | omega | (simp; omega)
                  intro v2 w4 hap2
                  have hf2 := SlK.appended (SlK.alloc HF1.out _) hap2 (World.ownsRow.alloc HO1.out _) (Nat.le_refl _)
                  have hk4 : Kept noBlock W w4 := hap2.below (World.ownsRow.alloc HO1.out _) (HK3.out.alloc _) HK0.out.size
                  have HO2 := Lib.hid hap2.own
                  have hsz2 := (hap2.kept).size
                  rw [sz_alloc] at hsz2
                  have HK4 := Lib.hid hk4
                  have HF2 := Lib.hid hf2
                  clear hap2 hf2 hk4 HK3
                  go_wp2_with (at_builtin; go_must (refine wpList_append_sl _ h18sT rfl (.tmp 80) (.tmp 83) rfl W.heap.size _ (t + 1) _ rfl HO2.out _ (k6 - t) _ rfl HF2.out (fun u hu => hvC_one hu) ?e1 ?e2 ?_))
                  case e1 => omega
                  case e2 => omega
                  intro v3 w5 hap3
                  have hk5 : Kept noBlock W w5 := hap3.below HO2.out HK4.out HK0.out.size
                  have HO5 := Lib.hid hap3.own
                  have HK5' := Lib.hid hk5
                  clear hap3 hk5 HK4
                  obtain ⟨A9, c9, rfl, -, -⟩ := (Sl.of_own HO5.out).shape
                  have HREL : Hid (RL w5 (fun k => w.heap.size + 1 + 1 ≤ k) A9 (t + 1 + (k6 - t)) c9 (T.take t ++ ⟨x1, x2, x3, TA, TN, TC, tidyP x7, x8⟩ :: T.drop t) (insH now (updH (viewS S) (HV.abs ⟨x1, x2, x3, x4, x5, x6, x7, x8⟩)))) := Lib.hid (by
                    have hwW : w.heap.size + 1 + 1 ≤ W.heap.size := by have h1 := HKr.out.size; have h2 := HKW.out.size; have h3 := HZ2.out; omega
                    refine ⟨?_, ?_, ?_, fun z hz => ?_⟩
                    · rw [HUP.out TA TN TC, HIN.out, List.map_append, List.map_cons, List.map_take, List.map_drop, HNOW.out.1]
                    · rw [HUP.out TA TN TC, HIN.out]
                      have := HPL.out
                      have := HNL.out
                      simp; omega
                    · have h1 := SlK.of_ownB HO5.out
                      have e1 := h1.any (ok' := fun b _ => w.heap.size + 1 + 1 ≤ b) fun b _ _ e => Nat.le_trans hwW e.1
                      simpa [List.flatMap_append, hvC] using e1
                    · have hold : ∀ z ∈ T, SlK w5 (fun k _ => w.heap.size + 1 + 1 ≤ k) 1 (.slice z.ta z.tn z.tc) z.tn (z.toks.map (Value.int .i64)) := fun z hz => (HR8.out.2.2.2 z hz).keptNone HK5'.out
                      rcases List.mem_append.1 hz with hz | hz
                      · exact hold z (List.mem_of_mem_take hz)
                      · rcases List.mem_cons.1 hz with rfl | hz
                        · exact (HTS8.out.keptNone HK5'.out).any fun k _ _ h => Nat.le_trans HZ5.out h
                        · exact hold z (List.mem_of_mem_drop hz))
                  go_wp2_with fail
                  go_roundg (n - (i + 1))
                  case measure => have := HIJ.out; omega
                  case rel => exact ⟨i + 1, A9, _, c9, _, _, by have := HIJ.out; omega, by go_num, rfl, Lib.hid (by rw [HTK.out, List.foldl_append, ← HNW.out]; exact HST.out.symm), by rw [HREL.out.2.1]; have := HNI.out; have := HNL.out; omega, HREL.out, HKr.out.trans (HKW.out.trans HK5'.out fun _ _ e => e) fun _ _ e => e⟩
          | some o =>
            obtain ⟨hv2, hlt2, hso⟩ := findV_some hg2
            rw [hv2] at HF2
            obtain ⟨zo, go_, oo, -, -, hido, -, -, -, -, u4, -, -⟩ := (H0.out.keptN (HKr.out.trans HK1.out fun _ _ e => e)).at hso
            have HUP : Hid (∀ TA TN TC, updH (viewS S) (HV.abs ⟨x1, x2, x3, x4, x5, x6, x7, x8⟩) = HV.abs ⟨x1, x2, x3, TA, TN, TC, tidyP x7, o.up⟩) := Lib.hid fun _ _ _ => by simp [updH, HV.abs, viewS, hg2]
            have hln : findI S x1 < n0 := by have := HS0.out; omega
            have z4 := HB1.out.cell 4
            have f4 := HB1.out.frozen 4
            simp only [List.getElem?_toArray, List.getElem?_cons_succ, List.getElem?_cons_zero] at z4
            have HB5 : Hid (Blk (wr.alloc (.cells #[.string x1, .string x2, .string x3, .slice x4 x5 x6, .bool o.up] 74)) wr.heap.size 74 #[.string x1, .string x2, .string x3, .slice x4 x5 x6, .bool o.up]) := Lib.hid (Blk.new _ _ _)
            have HK5 : Hid (Kept noBlock wr (wr.alloc (.cells #[.string x1, .string x2, .string x3, .slice x4 x5 x6, .bool o.up] 74))) := Lib.hid ((Kept.refl noBlock wr).alloc _)
            clear hnm hg hg2 hv2 hlt2 hso
            generalize findI S x1 = at_ at *
            go_wp2_with fail
            refine HF1.mono ?_
            rintro e w4 ⟨rfl, rfl⟩
            clear HF1
            go_wp2_with fail
            refine HF2.mono ?_
            rintro e w4 ⟨rfl, rfl⟩
            clear HF2
            go_wp2_with fail
            generalize wr.alloc (.cells #[.string x1, .string x2, .string x3, .slice x4 x5 x6, .bool o.up] 74) = W5 at *
            refine (R18tidy_at (w := W5) ((HXT.out.keptNone HKr.out).keptNone HK5.out) hx5).mono ?_
            rintro e w6 ⟨TA, TN, TC, rfl, hts, htk⟩
            have hb6 := HB5.out.kept htk (fun e => e)
            have z63 := hb6.cell 3
            have f63 := hb6.frozen 3
            simp only [List.getElem?_toArray, List.getElem?_cons_succ, List.getElem?_cons_zero] at z63
            have hb7 : Blk (w6.setCell ⟨wr.heap.size, 3, none⟩ (.slice TA TN TC)) wr.heap.size 74 #[.string x1, .string x2, .string x3, .slice TA TN TC, .bool o.up] := hb6.set_ 3 (.slice TA TN TC)
            have hk7 : Kept noBlock wr (w6.setCell ⟨wr.heap.size, 3, none⟩ (.slice TA TN TC)) := (HK5.out.trans htk fun _ _ e => e).setCell (p := ⟨wr.heap.size, 3, none⟩) (fun h => absurd h (Nat.lt_irrefl _)) _
            have hts7 := hts.keptAll ((Kept.refl (fun k => k = wr.heap.size) w6).setCell (p := ⟨wr.heap.size, 3, none⟩) (fun _ => rfl) (.slice TA TN TC)) (fun k e h e2 => by have := HB5.out.lt; omega)
            have HTS7 := Lib.hid hts7
            have HK7 := Lib.hid hk7
            have HB7 := Lib.hid hb7
            have HZ5 : Hid (w.heap.size + 1 + 1 ≤ W5.heap.size) := Lib.hid (by have h1 := HKr.out.size; have h2 := HK5.out.size; have h3 := HZ2.out; omega)
            clear hts htk hb6 hb7 hk7 hts7
            go_wp2_with fail
            generalize w6.setCell ⟨wr.heap.size, 3, none⟩ (.slice TA TN TC) = W7 at *
            have hpl := hoAt_le now x1
            have HLT : Hid (∀ a, a < hoAt now x1 → ∃ y, now[a]? = some y ∧ nlt y.name x1) := Lib.hid fun a ha => ⟨_, List.getElem?_eq_getElem (by omega), hoAt_lt ha (List.getElem?_eq_getElem (by omega))⟩
            have HAT : Hid (hoAt now x1 < now.length → ∃ y, now[hoAt now x1]? = some y ∧ ¬ nlt y.name x1) := Lib.hid fun h => ⟨_, List.getElem?_eq_getElem h, hoAt_ge (List.getElem?_eq_getElem h)⟩
            have HIN : Hid (insH now (HV.abs ⟨x1, x2, x3, TA, TN, TC, tidyP x7, o.up⟩) = now.take (hoAt now x1) ++ HV.abs ⟨x1, x2, x3, TA, TN, TC, tidyP x7, o.up⟩ :: now.drop (hoAt now x1)) := Lib.hid rfl
            have HPL := Lib.hid hpl
            have HR7 := Lib.hid (HNOW.out.keptN HK7.out)
            have b70 := HB7.out.cell 0
            simp only [List.getElem?_toArray, List.getElem?_cons_zero] at b70
            have hk6n : k6 ≤ 100000 := by have := HNL.out; have := HNI.out; omega
            clear hpl
            generalize hoAt now x1 = t at *
            go_loopg [11] t (fun q va wx => ∃ a nn : Nat, a + q = t ∧ va = .int .i64 a ∧ wx = W7.drewN nn)
            case atStart => exact ⟨0, 0, by omega, rfl, rfl⟩
            case round =>
              obtain ⟨a, nn, haq, rfl, rfl⟩ := hrel
              have HAQ := Lib.hid haq
              clear haq
              by_cases hat : a < t
              · have HATA := Lib.hid hat
                obtain ⟨y, hy, hyx⟩ := HLT.out a hat
                obtain ⟨yy, gy, oy, -, -, hidy, cy, -⟩ := HR7.out.at hy
                have hal2 : a < k6 := by have := HPL.out; have := HNL.out; omega
                have hal3 : a ≤ 100000 := by omega
                have hyn1 := HNW1.out y (List.mem_of_getElem? hy)
                clear hy
                go_wp2_with fail
                go_quiet ((first | (go_at_call 44; exact quiet_any (less_yes hyn1 hx1n hyx)) | (go_at_call 44; exact quiet_any2 (less_yes hyn1 hx1n hyx))))
                go_wp2_with fail
                go_roundg (t - (a + 1))
                case measure => have := HAQ.out; omega
                case rel => exact ⟨a + 1, nn + nq, by have := HAQ.out; have := HATA.out; omega, by go_num, by first | rfl | (rw [World.drewN_drewN])⟩
              · obtain rfl : t = a := by have := HAQ.out; omega
                clear hat
                by_cases hend : t < k6
                · obtain ⟨y, hy, hyx⟩ := HAT.out (by have := HNL.out; omega)
                  obtain ⟨yy, gy, oy, -, -, hidy, cy, -⟩ := HR7.out.at hy
                  have hyn1 := HNW1.out y (List.mem_of_getElem? hy)
                  clear hy
                  go_wp2_with fail
                  go_quiet ((first | (go_at_call 44; exact quiet_any (less_no hyn1 hx1n hyx)) | (go_at_call 44; exact quiet_any2 (less_no hyn1 hx1n hyx))))
                  try rw [World.drewN_drewN]
                  have hr8 := (HR7.out.keptN ((Kept.refl noBlock W7).drewN (nn + nq)))
                  have hkw : Kept noBlock wr (W7.drewN (nn + nq)) := HK7.out.drewN _
                  have hb8 := HB7.out.drewN (nn + nq)
                  have hts8 := SlK.drewN HTS7.out (nn + nq)
                  have hzw : wr.heap.size < (W7.drewN (nn + nq)).heap.size := hb8.lt
                  generalize W7.drewN (nn + nq) = W at *
                  have HB7W := Lib.hid hb8
                  have HKW := Lib.hid hkw
                  have HTS8 := Lib.hid hts8
                  have HK0 := Lib.hid (Kept.refl noBlock W)
                  obtain ⟨A2, c2, hto, hst⟩ := hr8.2.2.1.run_to h18sT (i := (t : Int)) (k := t) rfl (by have := HPL.out; have := HNL.out; omega)
                  obtain ⟨A3, c3, hfrom, hsf⟩ := hr8.2.2.1.run_from h18sT (i := (t : Int)) (k := t) rfl (by have := HPL.out; have := HNL.out; omega)
                  rw [hv_take] at hst
                  rw [hv_drop] at hsf
                  have HS0' := Lib.hid (SlK.lo hst)
                  have HSF0 := Lib.hid (SlK.lo hsf)
                  have hlt2 : t ≤ k6 := by have := HPL.out; have := HNL.out; omega
                  have HR8 := Lib.hid hr8
                  clear hst hsf hr8 hkw hb8 hts8 b70 HR7 hidy cy
                  go_wp2_with (at_builtin; go_must (refine wpList_append_sl _ h18sT rfl (.tmp 71) (.tmp 74) rfl W.heap.size _ 0 [] rfl (World.ownsRow_nil _ _ _ _) _ t _ rfl HS0'.out (fun u hu => hvC_one hu) ?c1 ?c2 ?_))
                  case c1 => omega
                  case c2 => first | omega | (simp; omega)
                  intro v1 w3 hap1
                  have hk3 : Kept noBlock W w3 := HK0.out.trans hap1.keptNil (fun _ _ h => h)
                  have HF1 := Lib.hid (SlK.keptNone HSF0.out hap1.keptNil)
                  have HO1 := Lib.hid hap1.own
                  have hsz1 := hap1.keptNil.size
                  have hb9 := HB7W.out.kept hk3 fun e => e
                  have q0 := hb9.cell 0
                  have q1 := hb9.cell 1
                  have q2 := hb9.cell 2
                  have q3 := hb9.cell 3
                  have q4 := hb9.cell 4
                  simp only [List.getElem?_toArray, List.getElem?_cons_succ, List.getElem?_cons_zero] at q0 q1 q2 q3 q4
                  clear hb9
                  have HK3 := Lib.hid hk3
                  clear hap1 hk3
                  go_wp2_with (at_builtin; go_must (refine wpList_append_sl _ h18sT rfl (.tmp 76) (.tmp 78) rfl W.heap.size _ t _ rfl (World.ownsRow.alloc HO1.out _) _ 1 [.string x1, .string x2, .string x3, .slice TA TN TC, .bool o.up] rfl (Sl.made_at (Blk.new_at _ _ _ rfl) _ rfl rfl one_max) (by simp [Value.oneCell']) ?d1 ?d2 ?_))
                  case d1 => omega
                  case d2 => first | omega | (simp; omega)
                  intro v2 w4 hap2
                  have hf2 := SlK.appended (SlK.alloc HF1.out _) hap2 (World.ownsRow.alloc HO1.out _) (Nat.le_refl _)
                  have hk4 : Kept noBlock W w4 := hap2.below (World.ownsRow.alloc HO1.out _) (HK3.out.alloc _) HK0.out.size
                  have HO2 := Lib.hid hap2.own
                  have hsz2 := (hap2.kept).size
                  rw [sz_alloc] at hsz2
                  have HK4 := Lib.hid hk4
                  have HF2 := Lib.hid hf2
                  clear hap2 hf2 hk4 HK3
                  go_wp2_with (at_builtin; go_must (refine wpList_append_sl _ h18sT rfl (.tmp 80) (.tmp 83) rfl W.heap.size _ (t + 1) _ rfl HO2.out _ (k6 - t) _ rfl HF2.out (fun u hu => hvC_one hu) ?e1 ?e2 ?_))
                  case e1 => omega
                  case e2 => omega
                  intro v3 w5 hap3
                  have hk5 : Kept noBlock W w5 := hap3.below HO2.out HK4.out HK0.out.size
                  have HO5 := Lib.hid hap3.own
                  have HK5' := Lib.hid hk5
                  clear hap3 hk5 HK4
                  obtain ⟨A9, c9, rfl, -, -⟩ := (Sl.of_own HO5.out).shape
                  have HREL : Hid (RL w5 (fun k => w.heap.size + 1 + 1 ≤ k) A9 (t + 1 + (k6 - t)) c9 (T.take t ++ ⟨x1, x2, x3, TA, TN, TC, tidyP x7, o.up⟩ :: T.drop t) (insH now (updH (viewS S) (HV.abs ⟨x1, x2, x3, x4, x5, x6, x7, x8⟩)))) := Lib.hid (by
                    have hwW : w.heap.size + 1 + 1 ≤ W.heap.size := by have h1 := HKr.out.size; have h2 := HKW.out.size; have h3 := HZ2.out; omega
                    refine ⟨?_, ?_, ?_, fun z hz => ?_⟩
                    · rw [HUP.out TA TN TC, HIN.out, List.map_append, List.map_cons, List.map_take, List.map_drop, HNOW.out.1]
                    · rw [HUP.out TA TN TC, HIN.out]
                      have := HPL.out
                      have := HNL.out
                      simp; omega
                    · have h1 := SlK.of_ownB HO5.out
                      have e1 := h1.any (ok' := fun b _ => w.heap.size + 1 + 1 ≤ b) fun b _ _ e => Nat.le_trans hwW e.1
                      simpa [List.flatMap_append, hvC] using e1
                    · have hold : ∀ z ∈ T, SlK w5 (fun k _ => w.heap.size + 1 + 1 ≤ k) 1 (.slice z.ta z.tn z.tc) z.tn (z.toks.map (Value.int .i64)) := fun z hz => (HR8.out.2.2.2 z hz).keptNone HK5'.out
                      rcases List.mem_append.1 hz with hz | hz
                      · exact hold z (List.mem_of_mem_take hz)
                      · rcases List.mem_cons.1 hz with rfl | hz
                        · exact (HTS8.out.keptNone HK5'.out).any fun k _ _ h => Nat.le_trans HZ5.out h
                        · exact hold z (List.mem_of_mem_drop hz))
                  go_wp2_with fail
                  go_roundg (n - (i + 1))
                  case measure => have := HIJ.out; omega
                  case rel => exact ⟨i + 1, A9, _, c9, _, _, by have := HIJ.out; omega, by go_num, rfl, Lib.hid (by rw [HTK.out, List.foldl_append, ← HNW.out]; exact HST.out.symm), by rw [HREL.out.2.1]; have := HNI.out; have := HNL.out; omega, HREL.out, HKr.out.trans (HKW.out.trans HK5'.out fun _ _ e => e) fun _ _ e => e⟩
                · go_wp2_with fail
                  go_quiet (fail)
                  try rw [World.drewN_drewN]
                  have hr8 := (HR7.out.keptN ((Kept.refl noBlock W7).drewN (nn + nq)))
                  have hkw : Kept noBlock wr (W7.drewN (nn + nq)) := HK7.out.drewN _
                  have hb8 := HB7.out.drewN (nn + nq)
                  have hts8 := SlK.drewN HTS7.out (nn + nq)
                  have hzw : wr.heap.size < (W7.drewN (nn + nq)).heap.size := hb8.lt
                  generalize W7.drewN (nn + nq) = W at *
                  have HB7W := Lib.hid hb8
                  have HKW := Lib.hid hkw
                  have HTS8 := Lib.hid hts8
                  have HK0 := Lib.hid (Kept.refl noBlock W)
                  obtain ⟨A2, c2, hto, hst⟩ := hr8.2.2.1.run_to h18sT (i := (t : Int)) (k := t) rfl (by have := HPL.out; have := HNL.out; omega)
                  obtain ⟨A3, c3, hfrom, hsf⟩ := hr8.2.2.1.run_from h18sT (i := (t : Int)) (k := t) rfl (by have := HPL.out; have := HNL.out; omega)
                  rw [hv_take] at hst
                  rw [hv_drop] at hsf
                  have HS0' := Lib.hid (SlK.lo hst)
                  have HSF0 := Lib.hid (SlK.lo hsf)
                  have hlt2 : t ≤ k6 := by have := HPL.out; have := HNL.out; omega
                  have HR8 := Lib.hid hr8
                  clear hst hsf hr8 hkw hb8 hts8 b70 HR7
                  go_wp2_with (at_builtin; go_must (refine wpList_append_sl _ h18sT rfl (.tmp 71) (.tmp 74) rfl W.heap.size _ 0 [] rfl (World.ownsRow_nil _ _ _ _) _ t _ rfl HS0'.out (fun u hu => hvC_one hu) ?c1 ?c2 ?_))
                  case c1 => omega
                  case c2 => first | omega | (simp; omega)
                  intro v1 w3 hap1
                  have hk3 : Kept noBlock W w3 := HK0.out.trans hap1.keptNil (fun _ _ h => h)
                  have HF1 := Lib.hid (SlK.keptNone HSF0.out hap1.keptNil)
                  have HO1 := Lib.hid hap1.own
                  have hsz1 := hap1.keptNil.size
                  have hb9 := HB7W.out.kept hk3 fun e => e
                  have q0 := hb9.cell 0
                  have q1 := hb9.cell 1
                  have q2 := hb9.cell 2
                  have q3 := hb9.cell 3
                  have q4 := hb9.cell 4
                  simp only [List.getElem?_toArray, List.getElem?_cons_succ, List.getElem?_cons_zero] at q0 q1 q2 q3 q4
                  clear hb9
                  have HK3 := Lib.hid hk3
                  clear hap1 hk3
                  go_wp2_with (at_builtin; go_must (refine wpList_append_sl _ h18sT rfl (.tmp 76) (.tmp 78) rfl W.heap.size _ t _ rfl (World.ownsRow.alloc HO1.out _) _ 1 [.string x1, .string x2, .string x3, .slice TA TN TC, .bool o.up] rfl (Sl.made_at (Blk.new_at _ _ _ rfl) _ rfl rfl one_max) (by simp [Value.oneCell']) ?d1 ?d2 ?_))
                  case d1 => omega
                  case d2 => first | omega | (simp; omega)
                  intro v2 w4 hap2
                  have hf2 := SlK.appended (SlK.alloc HF1.out _) hap2 (World.ownsRow.alloc HO1.out _) (Nat.le_refl _)
                  have hk4 : Kept noBlock W w4 := hap2.below (World.ownsRow.alloc HO1.out _) (HK3.out.alloc _) HK0.out.size
                  have HO2 := Lib.hid hap2.own
                  have hsz2 := (hap2.kept).size
                  rw [sz_alloc] at hsz2
                  have HK4 := Lib.hid hk4
                  have HF2 := Lib.hid hf2
                  clear hap2 hf2 hk4 HK3
                  go_wp2_with (at_builtin; go_must (refine wpList_append_sl _ h18sT rfl (.tmp 80) (.tmp 83) rfl W.heap.size _ (t + 1) _ rfl HO2.out _ (k6 - t) _ rfl HF2.out (fun u hu => hvC_one hu) ?e1 ?e2 ?_))
                  case e1 => omega
                  case e2 => omega
                  intro v3 w5 hap3
                  have hk5 : Kept noBlock W w5 := hap3.below HO2.out HK4.out HK0.out.size
                  have HO5 := Lib.hid hap3.own
                  have HK5' := Lib.hid hk5
                  clear hap3 hk5 HK4
                  obtain ⟨A9, c9, rfl, -, -⟩ := (Sl.of_own HO5.out).shape
                  have HREL : Hid (RL w5 (fun k => w.heap.size + 1 + 1 ≤ k) A9 (t + 1 + (k6 - t)) c9 (T.take t ++ ⟨x1, x2, x3, TA, TN, TC, tidyP x7, o.up⟩ :: T.drop t) (insH now (updH (viewS S) (HV.abs ⟨x1, x2, x3, x4, x5, x6, x7, x8⟩)))) := Lib.hid (by
                    have hwW : w.heap.size + 1 + 1 ≤ W.heap.size := by have h1 := HKr.out.size; have h2 := HKW.out.size; have h3 := HZ2.out; omega
                    refine ⟨?_, ?_, ?_, fun z hz => ?_⟩
                    · rw [HUP.out TA TN TC, HIN.out, List.map_append, List.map_cons, List.map_take, List.map_drop, HNOW.out.1]
                    · rw [HUP.out TA TN TC, HIN.out]
                      have := HPL.out
                      have := HNL.out
                      simp; omega
                    · have h1 := SlK.of_ownB HO5.out
                      have e1 := h1.any (ok' := fun b _ => w.heap.size + 1 + 1 ≤ b) fun b _ _ e => Nat.le_trans hwW e.1
                      simpa [List.flatMap_append, hvC] using e1
                    · have hold : ∀ z ∈ T, SlK w5 (fun k _ => w.heap.size + 1 + 1 ≤ k) 1 (.slice z.ta z.tn z.tc) z.tn (z.toks.map (Value.int .i64)) := fun z hz => (HR8.out.2.2.2 z hz).keptNone HK5'.out
                      rcases List.mem_append.1 hz with hz | hz
                      · exact hold z (List.mem_of_mem_take hz)
                      · rcases List.mem_cons.1 hz with rfl | hz
                        · exact (HTS8.out.keptNone HK5'.out).any fun k _ _ h => Nat.le_trans HZ5.out h
                        · exact hold z (List.mem_of_mem_drop hz))
                  go_wp2_with fail
                  go_roundg (n - (i + 1))
                  case measure => have := HIJ.out; omega
                  case rel => exact ⟨i + 1, A9, _, c9, _, _, by have := HIJ.out; omega, by go_num, rfl, Lib.hid (by rw [HTK.out, List.foldl_append, ← HNW.out]; exact HST.out.symm), by rw [HREL.out.2.1]; have := HNI.out; have := HNL.out; omega, HREL.out, HKr.out.trans (HKW.out.trans HK5'.out fun _ _ e => e) fun _ _ e => e⟩
    · obtain rfl : i = n := by omega
      obtain ⟨wl, rfl⟩ : ∃ wl : World, wl = wr := ⟨_, rfl⟩
      have HNF : Hid (now = refNow (viewS S) L) := Lib.hid (by rw [HNW.out, List.take_of_length_le (by have := HSL.out; omega)]; rfl)
      have hk6n : k6 ≤ 1000 := by have := HNL.out; omega
      have HNB := HNOW
      clear hij hk hR hni
      go_wp2_with fail
      go_loopg [13, 15] k6 (fun jj va vi wr => ∃ (i : Nat) (AD : List ByteArray), i + jj = k6 ∧ vi = .int .i64 i ∧ Hid (AD = addedP (viewS S) (now.take i)) ∧ AD.length ≤ i ∧ wr.ownsRow wl.heap.size 9 1 va AD.length (AD.map Value.string) ∧ Kept noBlock wl wr)
      case atStart => exact ⟨0, [], by omega, rfl, Lib.hid rfl, by simp, World.ownsRow_nil _ _ _ _, Kept.refl _ _⟩
      case round =>
        obtain ⟨i, AD, hij, rfl, HAD, hADi, hown, hk⟩ := hrel
        have HIJ := Lib.hid hij
        have HKa := Lib.hid hk
        have HOW := Lib.hid hown
        have p2 := HPB.out _ (HKr.out.trans hk fun _ _ e => e)
        by_cases hi : i < k6
        · obtain ⟨q, hq⟩ : ∃ q, now[i]? = some q := ⟨_, List.getElem?_eq_getElem (by have := HNL.out; omega)⟩
          obtain ⟨y, gi, oi, -, -, hidx, y0, -⟩ := (HNOW.out.keptN hk).at hq
          have HFW := Lib.hid (fun (W : World) (hW : Kept noBlock wr W) => R18find_at (H0.out.keptN ((HKr.out.trans hk fun _ _ e => e).trans hW fun _ _ e => e)) q.name)
          have HTK : Hid (addedP (viewS S) (now.take (i + 1)) = addedP (viewS S) (now.take i) ++ if (getS q.name S).isNone = true then [q.name] else []) := Lib.hid (by
            unfold addedP
            rw [List.take_add_one, hq, List.filter_append, List.map_append]
            congr 1
            exact filter_one (fun h => (viewS S h.name).isNone) q)
          clear hij hk hown hq
          cases hg : getS q.name S with
          | some o =>
            have HF : Hid (∀ W, Kept noBlock wr W → Calls Tryz.prog 35 #[.slice A0 n0 c0, .string q.name] W fun e w' => e = .returned (.int .i64 (findI S q.name)) ∧ W = w') := Lib.hid fun W hW => by have := HFW.out W hW; rwa [(findV_some hg).1] at this
            have HT2 : Hid (AD = addedP (viewS S) (now.take (i + 1))) := Lib.hid (by rw [HTK.out, hg, ← HAD.out]; simp)
            clear hg HFW
            generalize findI S q.name = at_ at *
            go_wp2_with fail
            go_quiet ((first | (go_at_call 35; exact quiet_same (HF.out _ ((Kept.refl _ _).drewN _))) | (go_at_call 35; exact quiet_same2 (HF.out _ ((Kept.refl _ _).drewN _)))))
            go_wp2_with fail
            go_roundg (k6 - (i + 1))
            case measure => have := HIJ.out; omega
            case rel => exact ⟨i + 1, AD, by have := HIJ.out; omega, by go_num, HT2, by omega, own_keptB HOW.out ((Kept.refl noBlock _).drewN _) (fun _ _ e => e), HKa.out.drewN _⟩
          | none =>
            have HF : Hid (∀ W, Kept noBlock wr W → Calls Tryz.prog 35 #[.slice A0 n0 c0, .string q.name] W fun e w' => e = .returned (.int .i64 (-1)) ∧ W = w') := Lib.hid fun W hW => by have := HFW.out W hW; rwa [findV_none hg] at this
            have HT2 : Hid (AD ++ [q.name] = addedP (viewS S) (now.take (i + 1))) := Lib.hid (by rw [HTK.out, hg, ← HAD.out]; simp)
            clear hg HFW
            go_wp2_with fail
            go_quiet ((first | (go_at_call 35; exact quiet_same (HF.out _ ((Kept.refl _ _).drewN _))) | (go_at_call 35; exact quiet_same2 (HF.out _ ((Kept.refl _ _).drewN _)))))
            go_wp2_with (at_builtin; go_must (refine wpList_append_sl _ strsT rfl (.tmp 100) (.tmp 106) rfl wl.heap.size _ AD.length (AD.map Value.string) rfl (World.ownsRow.alloc (own_keptB HOW.out ((Kept.refl noBlock _).drewN _) (fun _ _ e => e)) _) _ 1 [.string q.name] rfl (Sl.made_at (Blk.new_at _ 9 #[.string q.name] rfl) _ rfl rfl one_max) (by simp [Value.oneCell']) ?c1 ?c2 ?_))
            case c1 => omega
            case c2 => have := HKa.out.size; simp only [sz_alloc, sz_drewN]; omega
            intro v' w4 hap
            have hk4 : Kept noBlock wl w4 := hap.below (World.ownsRow.alloc (own_keptB HOW.out ((Kept.refl noBlock _).drewN _) (fun _ _ e => e)) _) ((HKa.out.drewN _).alloc _) (Nat.le_refl _)
            have HO4 : Hid (w4.ownsRow wl.heap.size 9 1 v' (AD ++ [q.name]).length ((AD ++ [q.name]).map Value.string)) := Lib.hid (by simpa using hap.own)
            have HK4 := Lib.hid hk4
            clear hap hk4
            go_wp2_with fail
            go_roundg (k6 - (i + 1))
            case measure => have := HIJ.out; omega
            case rel => exact ⟨i + 1, _, by have := HIJ.out; omega, by go_num, HT2, by simp; omega, HO4.out, HK4.out⟩
        · obtain rfl : k6 = i := by omega
          have HADF : Hid (AD = addedP (viewS S) now) := Lib.hid (by rw [HAD.out, List.take_of_length_le (by have := HNL.out; omega)])
          obtain ⟨wm, rfl⟩ : ∃ wm : World, wm = wr := ⟨_, rfl⟩
          clear hij hk hown HAD
          go_wp2_with fail
          clear p2
          go_loopg [14, 16] n0 (fun jj va vi wr => ∃ (j : Nat) (G : List ByteArray), j + jj = n0 ∧ vi = .int .i64 j ∧ Hid (G = goneP (S.take j) now) ∧ G.length ≤ j ∧ wr.ownsRow wm.heap.size 9 1 va G.length (G.map Value.string) ∧ Kept noBlock wm wr)
          case atStart => exact ⟨0, [], by omega, rfl, Lib.hid rfl, by simp, World.ownsRow_nil _ _ _ _, Kept.refl _ _⟩
          case round =>
            obtain ⟨j, G, hij, rfl, HG, hGi, hown, hk⟩ := hrel
            have HIJ2 := Lib.hid hij
            have HKb := Lib.hid hk
            have HOW2 := Lib.hid hown
            have HKl := Lib.hid (HKa.out.trans hk fun _ _ e => e)
            have p2 := HPB.out _ (HKr.out.trans HKl.out fun _ _ e => e)
            by_cases hj : j < n0
            · obtain ⟨q, hq⟩ : ∃ q, S[j]? = some q := ⟨_, List.getElem?_eq_getElem (by have := HS0.out; omega)⟩
              obtain ⟨y, gi, oi, -, -, hidx, y0, -⟩ := (H0.out.keptN (HKr.out.trans HKl.out fun _ _ e => e)).at hq
              have HFW := R18find_at (HNOW.out.keptN HKl.out) q.name
              have HTK : Hid (goneP (S.take (j + 1)) now = goneP (S.take j) now ++ if (getS q.name now).isNone = true then [q.name] else []) := Lib.hid (by
                unfold goneP
                rw [List.take_add_one, hq, List.filter_append, List.map_append]
                congr 1
                exact filter_one (fun h => (getS h.name now).isNone) q)
              clear hij hk hown hq
              cases hg : getS q.name now with
              | some o =>
                have HT2 : Hid (G = goneP (S.take (j + 1)) now) := Lib.hid (by rw [HTK.out, hg, ← HG.out]; simp)
                rw [(findV_some hg).1] at HFW
                clear hg
                generalize findI now q.name = at_ at *
                go_wp2_with fail
                refine HFW.mono ?_
                rintro e w4 ⟨rfl, rfl⟩
                clear HFW
                go_wp2_with fail
                go_roundg (n0 - (j + 1))
                case measure => have := HIJ2.out; omega
                case rel => exact ⟨j + 1, G, by have := HIJ2.out; omega, by go_num, HT2, by omega, HOW2.out, HKb.out⟩
              | none =>
                have HT2 : Hid (G ++ [q.name] = goneP (S.take (j + 1)) now) := Lib.hid (by rw [HTK.out, hg, ← HG.out]; simp)
                rw [findV_none hg] at HFW
                clear hg
                go_wp2_with fail
                refine HFW.mono ?_
                rintro e w4 ⟨rfl, rfl⟩
                clear HFW
                go_wp2_with (at_builtin; go_must (refine wpList_append_sl _ strsT rfl (.tmp 124) (.tmp 131) rfl wm.heap.size _ G.length (G.map Value.string) rfl (World.ownsRow.alloc HOW2.out _) _ 1 [.string q.name] rfl (Sl.made_at (Blk.new_at _ 9 #[.string q.name] rfl) _ rfl rfl one_max) (by simp [Value.oneCell']) ?c1 ?c2 ?_))
                case c1 => omega
                case c2 => have := HKb.out.size; simp only [sz_alloc]; omega
                intro v' w4 hap
                have hk4 : Kept noBlock wm w4 := hap.below (World.ownsRow.alloc HOW2.out _) (HKb.out.alloc _) (Nat.le_refl _)
                have HO4 : Hid (w4.ownsRow wm.heap.size 9 1 v' (G ++ [q.name]).length ((G ++ [q.name]).map Value.string)) := Lib.hid (by simpa using hap.own)
                have HK4 := Lib.hid hk4
                clear hap hk4
                go_wp2_with fail
                go_roundg (n0 - (j + 1))
                case measure => have := HIJ2.out; omega
                case rel => exact ⟨j + 1, _, by have := HIJ2.out; omega, by go_num, HT2, by simp; omega, HO4.out, HK4.out⟩
            · obtain rfl : n0 = j := by omega
              have HGF : Hid (G = goneP S now) := Lib.hid (by rw [HG.out, List.take_of_length_le (by have := HS0.out; omega)])
              have HKbw := Lib.hid (HKr.out.trans HKl.out fun _ _ e => e)
              have hbw := HB.out.kept HKbw.out (fun e => e)
              have hrw := HR.out.kept HKbw.out (fun e => e)
              have HKw := Lib.hid (HW0.out.trans HKbw.out fun _ _ e => e)
              have q0 := hbw.cell 0
              have q1 := hbw.cell 1
              have f2 := hbw.frozen 2
              have s0 := hrw.cell 0
              have s1 := hrw.cell 1
              have s2 := hrw.cell 2
              have t0 := hrw.frozen 0
              have t1 := hrw.frozen 1
              have t2 := hrw.frozen 2
              simp only [List.getElem?_toArray, List.getElem?_cons_succ, List.getElem?_cons_zero] at q0 q1 s0 s1 s2
              have HR6 : Hid (Blk (wr.setCell ⟨w.heap.size, 2, none⟩ (.slice A6 k6 c6)) (w.heap.size + 1) 32 #[.string ⟨#[]⟩, .int .i64 0, .slice none 0 0]) := Lib.hid (hrw.far (p := ⟨w.heap.size, 2, none⟩) (by simp only []; omega) _)
              have HK6 : Hid (Kept noBlock w (wr.setCell ⟨w.heap.size, 2, none⟩ (.slice A6 k6 c6))) := Lib.hid (HKw.out.setCell (p := ⟨w.heap.size, 2, none⟩) (fun h => absurd h (Nat.lt_irrefl _)) _)
              have hk26 : Kept (fun k => k = w.heap.size) wr (wr.setCell ⟨w.heap.size, 2, none⟩ (.slice A6 k6 c6)) := (Kept.refl (fun k => k = w.heap.size) wr).setCell (p := ⟨w.heap.size, 2, none⟩) (fun _ => rfl) _
              have hbase : w.heap.size + 1 + 1 ≤ wl.heap.size := by have := HKr.out.size; have := HZ2.out; omega
              have HRL : Hid (RL (wr.setCell ⟨w.heap.size, 2, none⟩ (.slice A6 k6 c6)) (fun k => w.heap.size ≤ k ∧ k ≠ w.heap.size + 1) A6 k6 c6 T now) := Lib.hid ((HNB.out.keptN HKl.out).kept hk26 (fun k e e2 => by omega) |>.wide fun k _ e => ⟨by omega, by omega⟩)
              have HADR : Hid (SlK (wr.setCell ⟨w.heap.size, 2, none⟩ (.slice A6 k6 c6)) (fun k _ => w.heap.size ≤ k ∧ k ≠ w.heap.size + 1) 1 u13 AD.length (AD.map Value.string)) := Lib.hid (((SlK.of_ownB (own_keptB HOW.out HKb.out fun _ _ e => e)).keptAll hk26 (fun k _ e e2 => by have := e.1; omega)).any fun k _ _ e => ⟨by have := e.1; omega, by have := e.1; omega⟩)
              have HGR : Hid (SlK (wr.setCell ⟨w.heap.size, 2, none⟩ (.slice A6 k6 c6)) (fun k _ => w.heap.size ≤ k ∧ k ≠ w.heap.size + 1) 1 u14 G.length (G.map Value.string)) := Lib.hid (((SlK.of_ownB HOW2.out).keptAll hk26 (fun k _ e e2 => by have := e.1; have := HKa.out.size; omega)).any fun k _ _ e => ⟨by have := e.1; have := HKa.out.size; omega, by have := e.1; have := HKa.out.size; omega⟩)
              clear hij hk hown hbw hrw hk26
              go_wp2_with fail
              generalize wr.setCell ⟨w.heap.size, 2, none⟩ (.slice A6 k6 c6) = w6 at *
              have hw3 : Blk (((w6.setCell ⟨w.heap.size + 1, 0, none⟩ (.string dc)).setCell ⟨w.heap.size + 1, 1, none⟩ (.int .i64 rem)).setCell ⟨w.heap.size + 1, 2, none⟩ (.slice A6 k6 c6)) (w.heap.size + 1) 32 #[.string dc, .int .i64 rem, .slice A6 k6 c6] := ((HR6.out.set_ 0 (.string dc)).set_ 1 (.int .i64 rem)).set_ 2 (.slice A6 k6 c6)
              have hk3 : Kept noBlock w (((w6.setCell ⟨w.heap.size + 1, 0, none⟩ (.string dc)).setCell ⟨w.heap.size + 1, 1, none⟩ (.int .i64 rem)).setCell ⟨w.heap.size + 1, 2, none⟩ (.slice A6 k6 c6)) := ((HK6.out.setCell (p := ⟨w.heap.size + 1, 0, none⟩) (fun h => absurd h (by simp only []; omega)) _).setCell (p := ⟨w.heap.size + 1, 1, none⟩) (fun h => absurd h (by simp only []; omega)) _).setCell (p := ⟨w.heap.size + 1, 2, none⟩) (fun h => absurd h (by simp only []; omega)) _
              have hkx : Kept (fun k => k = w.heap.size + 1) w6 (((w6.setCell ⟨w.heap.size + 1, 0, none⟩ (.string dc)).setCell ⟨w.heap.size + 1, 1, none⟩ (.int .i64 rem)).setCell ⟨w.heap.size + 1, 2, none⟩ (.slice A6 k6 c6)) := (((Kept.refl (fun k => k = w.heap.size + 1) w6).setCell (p := ⟨w.heap.size + 1, 0, none⟩) (fun _ => rfl) _).setCell (p := ⟨w.heap.size + 1, 1, none⟩) (fun _ => rfl) _).setCell (p := ⟨w.heap.size + 1, 2, none⟩) (fun _ => rfl) _
              have d0 := hw3.cell 0
              have d1 := hw3.cell 1
              have d2 := hw3.cell 2
              simp only [List.getElem?_toArray, List.getElem?_cons_succ, List.getElem?_cons_zero] at d0 d1 d2
              generalize ((w6.setCell ⟨w.heap.size + 1, 0, none⟩ (.string dc)).setCell ⟨w.heap.size + 1, 1, none⟩ (.int .i64 rem)).setCell ⟨w.heap.size + 1, 2, none⟩ (.slice A6 k6 c6) = W3 at *
              refine bodyPost_ret (v := .tuple #[.agg #[.string dc, .int .i64 rem, .slice A6 k6 c6], u13, u14]) (by simp [results, Tryz.results23, go_sem, d0, d1, d2]) rfl ?_
              obtain ⟨Aa, ca, hva, -, -⟩ := HADR.out.shape
              obtain ⟨Ag, cg, hvg, -, -⟩ := HGR.out.shape
              subst hva hvg
              refine ⟨A6, k6, c6, T, Aa, _, ca, Ag, _, cg, rfl, ?_, ?_, ?_, hk3⟩
              · rw [← HNF.out]
                exact (HRL.out.kept hkx fun k e e2 => e.2 e2).wide fun k _ e => e.1
              · rw [← HNF.out, ← HADF.out]
                exact HADR.out.keptAll hkx fun k _ e e2 => e.2 e2
              · rw [← HNF.out, ← HGF.out]
                exact HGR.out.keptAll hkx fun k _ e e2 => e.2 e2
end Go.Proofs.YtepikngkbondgaaGreat
namespace Go.Proofs.YtepikngkbondgaaGreat
set_option linter.unusedVariables false
open Go.ChangeShapes Go.WideShapes Go.Deep Go.RowKit

theorem list_of {α : Type} {n : Nat} {R : Nat → α → Prop} (h : ∀ i, i < n → ∃ a, R i a) : ∃ l : List α, l.length = n ∧ ∀ i a, l[i]? = some a → R i a := by
  induction n with
  | zero => exact ⟨[], rfl, by simp⟩
  | succ n ih =>
    obtain ⟨l, hl, hr⟩ := ih fun i hi => h i (by omega)
    obtain ⟨a, ha⟩ := h n (by omega)
    refine ⟨l ++ [a], by simp [hl], fun i b hb => ?_⟩
    by_cases hi : i < l.length
    · rw [List.getElem?_append_left hi] at hb; exact hr i b hb
    · have : i = n := by
        have := (List.getElem?_eq_some_iff.1 hb).1
        simp at this; omega
      subst this
      rw [List.getElem?_append_right (by omega), hl, Nat.sub_self] at hb
      simp at hb; subst hb; exact ha

theorem flat_of {α : Type} {f : α → List Value} {k : Nat} (hf : ∀ a, (f a).length = k) (hk : 0 < k) {l : List α} {P : Nat → Value → Prop} (h : ∀ i a j u, l[i]? = some a → (f a)[j]? = some u → P (i * k + j) u) : ∀ j u, (l.flatMap f)[j]? = some u → P j u := by
  induction l generalizing P with
  | nil => intro j u h; simp at h
  | cons a t ih =>
    intro j u hu
    rw [List.flatMap_cons] at hu
    by_cases hj : j < k
    · rw [List.getElem?_append_left (by rw [hf]; exact hj)] at hu
      have := h 0 a j u rfl hu
      simpa using this
    · rw [List.getElem?_append_right (by rw [hf]; omega), hf] at hu
      have := ih (P := fun j u => P (k + j) u) (fun i b j' u' hb hu' => by
        have := h (i + 1) b j' u' (by simpa using hb) hu'
        rw [Nat.add_mul, Nat.one_mul, Nat.add_assoc, Nat.add_comm, Nat.add_assoc] at this
        rw [show k + (i * k + j') = j' + (k + i * k) by omega]
        rw [show k + (j' + i * k) = j' + (k + i * k) by omega] at this
        exact this) (j - k) u hu
      simpa [show k + (j - k) = j by omega] using this

section
variable {H : Type} {enc : TypeId × Value → H} {P : Program} {W : World}
theorem open_lo {t e : TypeId} {k : Nat} (ht : P.underlying t = some (.slice e)) (hC : P.cellsOf e = k) (hk : 0 < k) {v : Value} {d : DataW H} {p : List MemPlace} {r : Reach} {base : Nat} (hval : Value.okWide P W r base t v)
    (h : DataW.Trod enc P W 0 (fun _ => true) true t v d p) {α : Type} (f : α → List Value) (hf : ∀ a, (f a).length = k)
    (hread : ∀ cs n y, cs.length = k → DataW.trod enc P W 0 (fun _ => true) true n e cs = some y → ∃ a, cs = f a) :
    ∃ l : List α, Lo W W.heap.size k v l.length (l.flatMap f) := by
  obtain ⟨a0, len0, cap0, rfl⟩ := okWide_slice ht hval
  obtain ⟨fuel, hfu⟩ := h
  rcases open_slice ht hfu with ⟨hcs, _⟩ | ⟨a, len, cap, m, n, D, Pl, hcs, _, hl, hm, hmm, _, hi⟩
  · have : Value.slice a0 len0 cap0 = .slice none 0 0 := by simpa [Value.cells] using hcs
    rw [this]
    exact ⟨[], SlK.nil _ _ _⟩
  · have hv : Value.slice a0 len0 cap0 = .slice (some a) len cap := by simpa [Value.cells] using hcs
    rw [hv]
    simp only [if_true] at hmm
    obtain rfl := hmm.symm
    by_cases hc0 : cap = 0
    · subst hc0
      obtain rfl : len = 0 := by omega
      exact ⟨[], by simp, _, _, rfl, Nat.le_refl _, Nat.zero_le _, .inl ⟨rfl, rfl⟩⟩
    · have hel : ∀ i, i < len → ∃ x, W.cells? 0 (a.add (i * k)) k = some (f x) := fun i hi' => by
        obtain ⟨cs', h1, h2⟩ := hi i (by omega)
        rw [hC] at h1
        obtain ⟨_, hlen, _⟩ := World.cells?_some h1
        obtain ⟨x, rfl⟩ := hread cs' _ _ hlen h2
        exact ⟨x, h1⟩
      obtain ⟨l, hll, hlr⟩ := list_of hel
      -- the block is read at its first cell
      obtain ⟨cs0, h0, _⟩ := hi 0 (by omega)
      rw [hC, Nat.zero_mul] at h0
      obtain ⟨_, hlen0, hat0⟩ := World.cells?_some h0
      have hc := hat0 0 hk
      have hadd : (a.add 0).add 0 = a := by simp [Addr.add]
      rw [hadd, List.getElem?_eq_getElem (by omega)] at hc
      have hsp : a.spot = none := by
        unfold World.cell? at hc
        split at hc
        · split at hc
          · cases hc
          · rename_i hs; simpa using hs
        · cases hc
      have hblk : ∃ cs e' fz, W.heap[a.block]? = some (.cells cs e' fz) := by
        unfold World.cell? at hc
        split at hc
        · rename_i cs e' fz hh; exact ⟨cs, e', fz, hh⟩
        · cases hc
      obtain ⟨cs, e', fz, hh⟩ := hblk
      obtain ⟨g, off, sp⟩ := a
      simp only at hsp hh
      subst hsp
      refine ⟨l, flat_len hf l, _, _, by rw [hll], by rw [hll]; exact hl, hm, .inr ⟨g, off, cs, e', fz, rfl, hh, lt_of_heap hh, ?_⟩⟩
      refine flat_of hf hk fun i x j u hx hu => ?_
      obtain ⟨_, _, hat⟩ := World.cells?_some (hlr i x hx)
      have hj : j < k := by have := (List.getElem?_eq_some_iff.1 hu).1; rw [hf] at this; exact this
      have := hat j hj
      rw [hu, Addr.add_lit, Addr.add_lit, cell_of_row W g _ cs e' fz hh, Nat.add_assoc] at this
      exact this
end
end Go.Proofs.YtepikngkbondgaaGreat
namespace Go.Proofs.YtepikngkbondgaaGreat
set_option linter.unusedVariables false
open Go.ChangeShapes Go.WideShapes Go.Deep Go.RowKit
section
variable {H : Type} {enc : TypeId × Value → H} {P : Program} {w : World} {base : Nat} {spare : Nat → Bool} {held : Bool}
theorem field_read {t : TypeId} {fs : Array Field} {fuel : Nat} {cs : List Value} {x : DataW H × List MemPlace} (ht : P.underlying t = some (.struct fs)) (h : DataW.trod enc P w base spare held fuel t cs = some x) {i : Nat} {f : Field} (hf : fs[i]? = some f)
    {k : Nat} (hk : P.cellsOf f.type = k) {c : List Value} (hc : (cs.drop f.offset).take k = c) : ∃ n y, DataW.trod enc P w base spare held n f.type c = some y := by
  obtain ⟨xs, n, _, _, _, hl, hg⟩ := DataW.trod_struct ht h
  have h1 := hg i f hf
  have hi : i < xs.length := by rw [hl]; exact (Array.getElem?_eq_some_iff.1 hf).1
  rw [hk, hc, List.getElem?_eq_getElem hi] at h1
  exact ⟨n, _, h1⟩
end
section
variable {H : Type} {enc : TypeId × Value → H} {W : World} {base : Nat} {v : Value} {d : DataW H} {p : List MemPlace}
set_option maxRecDepth 100000 in
theorem open_places {hval : Value.okWide Tryz.prog W .any base 101 v} (h : DataW.Trod enc Tryz.prog W 0 (fun _ => true) true 101 v d p) :
    ∃ l : List Pl, Lo W W.heap.size 2 v l.length (l.flatMap pC) := 
  open_lo (k := 2) Tryz.underlying101 (by kernel_rfl) (by decide) hval h pC (fun _ => rfl) (fun cs n y hl h => by
    match cs, hl with
    | [c0, c1], _ =>
      obtain ⟨n0, y0, g0⟩ := field_read Tryz.underlying104 h (i := 0) rfl (k := 1) (c := [c0]) (by kernel_rfl) rfl
      obtain ⟨n1, y1, g1⟩ := field_read Tryz.underlying104 h (i := 1) rfl (k := 1) (c := [c1]) (by kernel_rfl) rfl
      obtain ⟨b0, e0, -, -⟩ := DataW.trod_int Tryz.underlying2 g0
      obtain ⟨s1, e1, -, -⟩ := DataW.trod_string Tryz.underlying9 g1
      simp only [List.cons.injEq, and_true] at e0 e1
      exact ⟨(b0, s1), by rw [e0, e1]; rfl⟩)
end
end Go.Proofs.YtepikngkbondgaaGreat
namespace Go.Proofs.YtepikngkbondgaaGreat
set_option linter.unusedVariables false
open Go.ChangeShapes Go.WideShapes Go.Deep Go.RowKit
section
variable {H : Type} {enc : TypeId × Value → H} {P : Program} {W : World}
/-- A slice among the cells of what came in. -/
theorem open_cell {t e : TypeId} {k : Nat} (ht : P.underlying t = some (.slice e)) (hC : P.cellsOf e = k) (hk : 0 < k) {fuel : Nat} {cs : List Value} {x : DataW H × List MemPlace}
    (hfu : DataW.trod enc P W 0 (fun _ => true) true fuel t cs = some x) {α : Type} (f : α → List Value) (hf : ∀ a, (f a).length = k)
    (hread : ∀ cs n y, cs.length = k → DataW.trod enc P W 0 (fun _ => true) true n e cs = some y → ∃ a, cs = f a) :
    ∃ A n c, cs = [.slice A n c] ∧ ∃ l : List α, l.length = n ∧ Lo W W.heap.size k (.slice A n c) n (l.flatMap f) := by
  rcases open_slice ht hfu with ⟨hcs, _⟩ | ⟨a, len, cap, m, n, D, Pl, hcs, _, hl, hm, hmm, _, hi⟩
  · exact ⟨none, 0, 0, hcs, [], rfl, SlK.nil _ _ _⟩
  · refine ⟨some a, len, cap, hcs, ?_⟩
    simp only [if_true] at hmm
    obtain rfl := hmm.symm
    by_cases hc0 : cap = 0
    · subst hc0
      obtain rfl : len = 0 := by omega
      exact ⟨[], rfl, by simp, _, _, rfl, Nat.le_refl _, Nat.zero_le _, .inl ⟨rfl, rfl⟩⟩
    · have hel : ∀ i, i < len → ∃ x, W.cells? 0 (a.add (i * k)) k = some (f x) := fun i hi' => by
        obtain ⟨cs', h1, h2⟩ := hi i (by omega)
        rw [hC] at h1
        obtain ⟨_, hlen, _⟩ := World.cells?_some h1
        obtain ⟨x, rfl⟩ := hread cs' _ _ hlen h2
        exact ⟨x, h1⟩
      obtain ⟨l, hll, hlr⟩ := list_of hel
      obtain ⟨cs0, h0, _⟩ := hi 0 (by omega)
      rw [hC, Nat.zero_mul] at h0
      obtain ⟨_, hlen0, hat0⟩ := World.cells?_some h0
      have hc := hat0 0 hk
      have hadd : (a.add 0).add 0 = a := by simp [Addr.add]
      rw [hadd, List.getElem?_eq_getElem (by omega)] at hc
      have hsp : a.spot = none := by
        unfold World.cell? at hc
        split at hc
        · split at hc
          · cases hc
          · rename_i hs; simpa using hs
        · cases hc
      have hblk : ∃ cs e' fz, W.heap[a.block]? = some (.cells cs e' fz) := by
        unfold World.cell? at hc
        split at hc
        · rename_i cs e' fz hh; exact ⟨cs, e', fz, hh⟩
        · cases hc
      obtain ⟨cs, e', fz, hh⟩ := hblk
      obtain ⟨g, off, sp⟩ := a
      simp only at hsp hh
      subst hsp
      refine ⟨l, hll, by rw [flat_len hf l, hll], _, _, rfl, hl, hm, .inr ⟨g, off, cs, e', fz, rfl, hh, lt_of_heap hh, ?_⟩⟩
      refine flat_of hf hk fun i x j u hx hu => ?_
      obtain ⟨_, _, hat⟩ := World.cells?_some (hlr i x hx)
      have hj : j < k := by have := (List.getElem?_eq_some_iff.1 hu).1; rw [hf] at this; exact this
      have := hat j hj
      rw [hu, Addr.add_lit, Addr.add_lit, cell_of_row W g _ cs e' fz hh, Nat.add_assoc] at this
      exact this
end
/-- A host among those that came in. -/
def HoIn (W : World) (x : HV) : Prop := x.toks.length = x.tn ∧ SlK W (fun k _ => k < W.heap.size) 1 (.slice x.ta x.tn x.tc) x.tn (x.toks.map (Value.int .i64))
section
variable {H : Type} {enc : TypeId × Value → H} {W : World} {base : Nat} {v : Value} {d : DataW H} {p : List MemPlace}
set_option maxRecDepth 100000 in
theorem open_hosts {hval : Value.okWide Tryz.prog W .any base 22 v} (h : DataW.Trod enc Tryz.prog W 0 (fun _ => true) true 22 v d p) :
    ∃ A n c, v = .slice A n c ∧ ∃ l : List HV, l.length = n ∧ Lo W W.heap.size 5 (.slice A n c) n (l.flatMap hvC) ∧ ∀ x ∈ l, HoIn W x := by
  obtain ⟨a0, len0, cap0, rfl⟩ := okWide_slice Tryz.underlying22 hval
  obtain ⟨fuel, hfu⟩ := h
  obtain ⟨A, n, c, hcs, l, hl, hlo⟩ := open_cell (k := 5) Tryz.underlying22 (by kernel_rfl) (by decide) hfu (fun x : { x : HV // HoIn W x } => hvC x.1) (fun _ => rfl) (fun cs n y hl h => by
    match cs, hl with
    | [c0, c1, c2, c3, c4], _ =>
      obtain ⟨n0, y0, g0⟩ := field_read Tryz.underlying48 h (i := 0) rfl (k := 1) (c := [c0]) (by kernel_rfl) rfl
      obtain ⟨n1, y1, g1⟩ := field_read Tryz.underlying48 h (i := 1) rfl (k := 1) (c := [c1]) (by kernel_rfl) rfl
      obtain ⟨n2, y2, g2⟩ := field_read Tryz.underlying48 h (i := 2) rfl (k := 1) (c := [c2]) (by kernel_rfl) rfl
      obtain ⟨n3, y3, g3⟩ := field_read Tryz.underlying48 h (i := 3) rfl (k := 1) (c := [c3]) (by kernel_rfl) rfl
      obtain ⟨n4, y4, g4⟩ := field_read Tryz.underlying48 h (i := 4) rfl (k := 1) (c := [c4]) (by kernel_rfl) rfl
      obtain ⟨s0, e0, -, -⟩ := DataW.trod_string Tryz.underlying9 g0
      obtain ⟨s1, e1, -, -⟩ := DataW.trod_string Tryz.underlying9 g1
      obtain ⟨s2, e2, -, -⟩ := DataW.trod_string Tryz.underlying9 g2
      obtain ⟨ta, tn, tc, e3, ts, hts, hlo3⟩ := open_cell (k := 1) Tryz.underlying46 (by kernel_rfl) (by decide) g3 (fun x : Int => [Value.int .i64 x]) (fun _ => rfl) (fun cs n y hl h => by
        obtain ⟨b, e, -, -⟩ := DataW.trod_int Tryz.underlying2 h
        exact ⟨b, e⟩)
      obtain ⟨b4, e4, -⟩ := DataW.trod_bool Tryz.underlying4 g4
      simp only [List.cons.injEq, and_true] at e0 e1 e2 e3 e4
      refine ⟨⟨⟨s0, s1, s2, ta, tn, tc, ts, b4⟩, hts, ?_⟩, by rw [e0, e1, e2, e3, e4]; rfl⟩
      rw [List.map_eq_flatMap]
      exact hlo3)
  have hv : Value.slice a0 len0 cap0 = .slice A n c := by simpa [Value.cells] using hcs
  refine ⟨A, n, c, hv, l.map (·.1), by rw [List.length_map]; exact hl, by rw [List.flatMap_map]; exact hlo, fun x hx => ?_⟩
  obtain ⟨y, -, rfl⟩ := List.mem_map.1 hx
  exact y.2
end
def crowdB (l : List HV) : Bool := decide (l.length ≤ 20) && l.all fun x => decide (x.toks.length ≤ 20)
theorem crowdB_true {l : List HV} (h : crowdB l = true) : l.length ≤ 20 ∧ ∀ x ∈ l, x.toks.length ≤ 20 := by
  unfold crowdB at h
  simp only [Bool.and_eq_true, decide_eq_true_eq, List.all_eq_true] at h
  exact h
set_option maxHeartbeats 2000000 in
set_option maxRecDepth 100000 in
theorem hcrowd_at {W : World} {ok : Nat → TypeId → Prop} {A : Option Addr} {n c : Nat} {l : List HV} (hs : SlK W ok 5 (.slice A n c) n (l.flatMap hvC)) (hl : l.length = n) (ht : ∀ x ∈ l, x.toks.length = x.tn ∧ x.tn ≤ 9223372036854775807) :
    Calls Tryz.prog 9 #[.slice A n c] W fun e W' => e = .returned (.bool (crowdB l)) ∧ W' = W := by
  by_cases h20 : 20 < n
  · have HC : Hid (crowdB l = false) := Lib.hid (by unfold crowdB; rw [hl, decide_eq_false (by omega)]; rfl)
    have hnm : n ≤ 9223372036854775807 := by obtain ⟨_, _, hv, h1, h2⟩ := hs.shape; cases hv; unfold maxLen at h2; omega
    clear hs hl ht
    go_enter Tryz.func9, Tryz.ntmps9
    go_wp2_with fail
    go_ret
    exact ⟨by rw [HC.out]; rfl, rfl⟩
  · have HS := Lib.hid hs
    have HL := Lib.hid hl
    have HT := Lib.hid ht
    clear hs hl ht
    go_enter Tryz.func9, Tryz.ntmps9
    go_wp2_with fail
    go_loopg [3] n (fun j vi wr => ∃ i : Nat, i + j = n ∧ vi = .int .i64 i ∧ (∀ x ∈ l.take i, x.toks.length ≤ 20) ∧ wr = W)
    case atStart => exact ⟨0, by omega, rfl, fun x hx => by simp at hx, rfl⟩
    case round =>
      obtain ⟨i, hij, rfl, hT, rfl⟩ := hrel
      have HIJ := Lib.hid hij
      have HTT := Lib.hid hT
      by_cases hi : i < n
      · obtain ⟨x, hx⟩ : ∃ x, l[i]? = some x := ⟨_, List.getElem?_eq_getElem (by have := HL.out; omega)⟩
        obtain ⟨gr, off, hidx, y3⟩ : ∃ gr off, (∀ kd w', (Instr.indexAt 22 (.slice A n c) (.int kd (i : Int))).run Tryz.prog w' = .ok (.pointer (some ⟨gr, off, none⟩)) w') ∧ wr.cell? ⟨gr, off + 3, none⟩ = some (.slice x.ta x.tn x.tc) := by
          obtain ⟨gr, off, h1, _, _, h3⟩ := HS.out.run_index hostsT (i := (i : Int)) (k := i) rfl hi
          exact ⟨gr, off, h1, h3 3 _ ((flat_get (k := 5) (fun _ => rfl) l i 3 x hx (by decide)).trans rfl)⟩
        obtain ⟨hx1, hx2⟩ := HT.out x (List.mem_of_getElem? hx)
        by_cases h2 : 20 < x.tn
        · have HC : Hid (crowdB l = false) := Lib.hid (by
            unfold crowdB
            rw [Bool.and_eq_false_iff]
            refine .inr ?_
            rw [List.all_eq_false]
            exact ⟨x, List.mem_of_getElem? hx, by simp; omega⟩)
          clear hij hT hx hx1
          go_wp2_with fail
          go_ret
          exact ⟨by rw [HC.out]; rfl, rfl⟩
        · have HN : Hid (∀ x ∈ l.take (i + 1), x.toks.length ≤ 20) := Lib.hid fun y hy => by
            rw [List.take_add_one, hx] at hy
            rcases List.mem_append.1 hy with hy | hy
            · exact hT y hy
            · simp at hy; subst hy; omega
          clear hij hT hx hx1
          go_wp2_with fail
          go_roundg (n - (i + 1))
          case measure => have := HIJ.out; omega
          case rel => exact ⟨i + 1, by have := HIJ.out; omega, by go_num, HN.out, rfl⟩
      · obtain rfl : i = n := by omega
        have HC : Hid (crowdB l = true) := Lib.hid (by
          unfold crowdB
          rw [Bool.and_eq_true]
          refine ⟨decide_eq_true (by have := HL.out; omega), List.all_eq_true.2 fun x hx => decide_eq_true (hT x ?_)⟩
          rw [List.take_of_length_le (by have := HL.out; omega)]
          exact hx)
        clear hij hT
        go_wp2_with fail
        go_ret
        exact ⟨by rw [HC.out]; rfl, rfl⟩
end Go.Proofs.YtepikngkbondgaaGreat
namespace Go.Proofs.YtepikngkbondgaaGreat
set_option linter.unusedVariables false
open Go.ChangeShapes Go.WideShapes Go.Deep Go.RowKit
section
variable {H : Type} {enc : TypeId × Value → H} {W : World} {base : Nat} {v : Value} {d : DataW H} {p : List MemPlace}
set_option maxRecDepth 100000 in
theorem open_hosts_cell {fuel : Nat} {cs : List Value} {x : DataW H × List MemPlace} (hfu : DataW.trod enc Tryz.prog W 0 (fun _ => true) true fuel 22 cs = some x) :
    ∃ A n c, cs = [.slice A n c] ∧ ∃ l : List HV, l.length = n ∧ Lo W W.heap.size 5 (.slice A n c) n (l.flatMap hvC) ∧ ∀ x ∈ l, HoIn W x ∧ x.name.size ≤ 9223372036854775807 := by
  obtain ⟨A, n, c, hcs, l, hl, hlo⟩ := open_cell (k := 5) Tryz.underlying22 (by kernel_rfl) (by decide) hfu (fun x : { x : HV // HoIn W x ∧ x.name.size ≤ 9223372036854775807 } => hvC x.1) (fun _ => rfl) (fun cs n y hl h => by
    match cs, hl with
    | [c0, c1, c2, c3, c4], _ =>
      obtain ⟨n0, y0, g0⟩ := field_read Tryz.underlying48 h (i := 0) rfl (k := 1) (c := [c0]) (by kernel_rfl) rfl
      obtain ⟨n1, y1, g1⟩ := field_read Tryz.underlying48 h (i := 1) rfl (k := 1) (c := [c1]) (by kernel_rfl) rfl
      obtain ⟨n2, y2, g2⟩ := field_read Tryz.underlying48 h (i := 2) rfl (k := 1) (c := [c2]) (by kernel_rfl) rfl
      obtain ⟨n3, y3, g3⟩ := field_read Tryz.underlying48 h (i := 3) rfl (k := 1) (c := [c3]) (by kernel_rfl) rfl
      obtain ⟨n4, y4, g4⟩ := field_read Tryz.underlying48 h (i := 4) rfl (k := 1) (c := [c4]) (by kernel_rfl) rfl
      obtain ⟨s0, e0, -, hs0⟩ := DataW.trod_string Tryz.underlying9 g0
      obtain ⟨s1, e1, -, -⟩ := DataW.trod_string Tryz.underlying9 g1
      obtain ⟨s2, e2, -, -⟩ := DataW.trod_string Tryz.underlying9 g2
      obtain ⟨ta, tn, tc, e3, ts, hts, hlo3⟩ := open_cell (k := 1) Tryz.underlying46 (by kernel_rfl) (by decide) g3 (fun x : Int => [Value.int .i64 x]) (fun _ => rfl) (fun cs n y hl h => by
        obtain ⟨b, e, -, -⟩ := DataW.trod_int Tryz.underlying2 h
        exact ⟨b, e⟩)
      obtain ⟨b4, e4, -⟩ := DataW.trod_bool Tryz.underlying4 g4
      simp only [List.cons.injEq, and_true] at e0 e1 e2 e3 e4
      unfold maxLen at hs0
      refine ⟨⟨⟨s0, s1, s2, ta, tn, tc, ts, b4⟩, ⟨hts, ?_⟩, hs0⟩, by rw [e0, e1, e2, e3, e4]; rfl⟩
      rw [List.map_eq_flatMap]
      exact hlo3)
  refine ⟨A, n, c, hcs, l.map (·.1), by rw [List.length_map]; exact hl, by rw [List.flatMap_map]; exact hlo, fun x hx => ?_⟩
  obtain ⟨y, -, rfl⟩ := List.mem_map.1 hx
  exact y.2
set_option maxRecDepth 100000 in
theorem open_hostsN {hval : Value.okWide Tryz.prog W .any base 22 v} (h : DataW.Trod enc Tryz.prog W 0 (fun _ => true) true 22 v d p) :
    ∃ A n c, v = .slice A n c ∧ ∃ l : List HV, l.length = n ∧ Lo W W.heap.size 5 (.slice A n c) n (l.flatMap hvC) ∧ ∀ x ∈ l, HoIn W x ∧ x.name.size ≤ 9223372036854775807 := by
  obtain ⟨a0, len0, cap0, rfl⟩ := okWide_slice Tryz.underlying22 hval
  obtain ⟨fuel, hfu⟩ := h
  obtain ⟨A, n, c, hcs, l, hl, hlo, hin⟩ := open_hosts_cell hfu
  have hv : Value.slice a0 len0 cap0 = .slice A n c := by simpa [Value.cells] using hcs
  exact ⟨A, n, c, hv, l, hl, hlo, hin⟩
end
end Go.Proofs.YtepikngkbondgaaGreat
namespace Go.Proofs.YtepikngkbondgaaGreat
set_option linter.unusedVariables false
open Go.RowKit
open Go.ChangeMaps (setBlock)

abbrev plD : ByteArray := ⟨#[100]⟩
def tabOf (l : List HV) : List Ho := refNow (viewS []) (l.map HV.abs)
/-- What the law's table hands back. -/
def TabTold (w : World) (rem : Int) (S : List Ho) (e : Ending) (w' : World) : Prop :=
  ∃ g own A n c l ok, e = .returned (.tuple #[.pointer (some ⟨g, 0, none⟩), .agg #[.string plD, .int .i64 rem, .slice A n c]]) ∧ TabS w' own g plD rem S ∧ RL w' ok A n c l S ∧ (∀ k, own k → w.heap.size ≤ k ∧ k < w'.heap.size) ∧ (∀ k, ok k → ¬ own k) ∧ Kept noBlock w w'
set_option maxHeartbeats 4000000 in
set_option maxRecDepth 100000 in
theorem tab19_at {w : World} {A : Option Addr} {n c : Nat} {rem : Int} {l : List HV} (hl : l.length = n) (hn : n ≤ 20) (hs : Lo w w.heap.size 5 (.slice A n c) n (l.flatMap hvC)) (hin : ∀ x ∈ l, HoIn w x ∧ x.name.size ≤ 9223372036854775807) (ht : ∀ x ∈ l, x.toks.length ≤ 20) :
    Calls Tryz.prog 10 #[.slice A n c, .int .i64 rem] w (TabTold w rem (tabOf l)) := by
  have HL := Lib.hid hl
  have HIN := Lib.hid hin
  have HTK := Lib.hid ht
  have HSL := Lib.hid hs
  have hbz : Blk (w.alloc (.cells #[.string noStr, .int .i64 0, .slice none 0 0] 32)) w.heap.size 32 #[.string noStr, .int .i64 0, .slice none 0 0] := Blk.new _ _ _
  have hkz : Kept noBlock w (w.alloc (.cells #[.string noStr, .int .i64 0, .slice none 0 0] 32)) := (Kept.refl _ _).alloc _
  have HBZ := Lib.hid hbz
  have HKZ := Lib.hid hkz
  clear hl hin ht hs hbz hkz
  go_enter Tryz.func10, Tryz.ntmps10
  go_wp2_with fail
  go_at_call 21
  refine (hNew_tab plD rem _).mono ?_
  rintro e w1 ⟨g, own, rfl, hT1, ho1, hk1⟩
  have HT1 := Lib.hid hT1
  have HO1 : Hid (∀ k, own k → w.heap.size ≤ k) := Lib.hid fun k h => Nat.le_trans HKZ.out.size (ho1 k h).1
  have HK1 := Lib.hid (HKZ.out.trans hk1 fun _ _ e => e)
  have HB1 := Lib.hid (HBZ.out.kept hk1 fun e => e)
  have HBO : Hid (¬ own w.heap.size) := Lib.hid fun e => by
    have h1 := (ho1 _ e).1
    rw [sz_alloc] at h1
    omega
  have HSZ : Hid (w.heap.size < w1.heap.size) := Lib.hid (by have := hk1.size; rw [sz_alloc] at this; omega)
  clear hT1 ho1 hk1 HKZ HBZ
  go_wp2_with fail
  go_at_call 22
  refine (hRefresh_tab (S := []) (l := l) HT1.out (by decide) (SlK.keptNone HSL.out HK1.out).lo HL.out (by omega) fun x hx => ⟨by have := HTK.out x hx; omega, (SlK.keptNone (HIN.out x hx).1.2 HK1.out).lo⟩).mono ?_
  rintro e w2 ⟨A1, n1, c1, A2, n2, c2, rfl, -, -, -, -, hT2, hk2⟩
  have hkw2 := HK1.out.grew hk2 HO1.out
  have HT2 := Lib.hid hT2
  have HK2 := Lib.hid hkw2
  have HO2 : Hid (∀ k, ownI w2 w1.heap.size own k → w.heap.size ≤ k ∧ k < w2.heap.size) := Lib.hid fun k h => ⟨ownI_ge HO1.out HK1.out.size k h, hT2.lt k h⟩
  have HB2 := Lib.hid (HB1.out.kept hk2 HBO.out)
  have HB2s : Hid (w.heap.size < w2.heap.size) := Lib.hid HB2.out.lt
  have HNO : Hid (¬ ownI w2 w1.heap.size own w.heap.size) := Lib.hid fun h => h.elim HBO.out fun h => by have := h.1; have := HSZ.out; omega
  generalize ownI w2 w1.heap.size own = own2 at *
  clear hT2 hk2 hkw2 HT1 HO1 HK1 HB1 HBO
  go_wp2_with fail
  go_at_call 24
  refine (hof_at (SlK.keptNone HSL.out HK2.out) HL.out (by omega) fun x hx => ⟨by have := HTK.out x hx; omega, SlK.keptNone (HIN.out x hx).1.2 HK2.out⟩).mono ?_
  rintro e w3 ⟨A3, c3, l3, rfl, hr3, hk3⟩
  have HR3 := Lib.hid hr3
  have HK3 := Lib.hid hk3
  clear hr3 hk3
  go_wp2_with fail
  go_at_call 23
  refine (R18Ref_at (S := []) (ok := fun _ => True) (l0 := []) plD rem ⟨rfl, rfl, SlK.nil _ _ _, fun x hx => absurd hx List.not_mem_nil⟩ HR3.out (by decide) (by omega) (fun o ho => by
    obtain ⟨x, hx, rfl⟩ := List.mem_map.1 ho
    exact Nat.le_trans (HTK.out x hx) (by decide)) (fun o ho => by
    rw [List.nil_append] at ho
    obtain ⟨x, hx, rfl⟩ := List.mem_map.1 ho
    exact (HIN.out x hx).2)).mono ?_
  rintro e w4 ⟨A4, n4, c4, l4, Aa, na, ca, Ag, ng, cg, rfl, hr4, -, -, hk4⟩
  have hk24 := HK3.out.trans hk4 fun _ _ e => e
  have hb4 := HB2.out.kept hk24 fun e => e
  have hba : Blk (w4.alloc (.cells #[.string plD, .int .i64 rem, .slice A4 n4 c4] 32)) w4.heap.size 32 #[.string plD, .int .i64 rem, .slice A4 n4 c4] := Blk.new _ _ _
  have hbr := hb4.alloc (.cells #[.string plD, .int .i64 rem, .slice A4 n4 c4] 32)
  have a0 := hba.cell 0
  have a1 := hba.cell 1
  have a2 := hba.cell 2
  have f0 := hbr.frozen 0
  have f1 := hbr.frozen 1
  have f2 := hbr.frozen 2
  have r0 := hbr.cell 0
  have r1 := hbr.cell 1
  have r2 := hbr.cell 2
  simp only [List.getElem?_toArray, List.getElem?_cons_succ, List.getElem?_cons_zero] at a0 a1 a2 r0 r1 r2
  have hne : w4.heap.size ≠ w.heap.size := by have := hb4.lt; omega
  have HK4 := Lib.hid (hk24.trans ((Kept.refl noBlock w4).alloc (.cells #[.string plD, .int .i64 rem, .slice A4 n4 c4] 32)) fun _ _ e => e)
  have HR4 := Lib.hid (hr4.keptN ((Kept.refl noBlock w4).alloc (.cells #[.string plD, .int .i64 rem, .slice A4 n4 c4] 32)))
  have HBR := Lib.hid hbr
  clear hr4 hk4 hk24 hb4 hba hbr HB2
  go_wp2_with fail
  generalize w4.alloc (.cells #[.string plD, .int .i64 rem, .slice A4 n4 c4] 32) = wa at *
  go_region
  go_wp2
  have hw3 : Blk (((wa.setCell ⟨w.heap.size, 0, none⟩ (.string plD)).setCell ⟨w.heap.size, 1, none⟩ (.int .i64 rem)).setCell ⟨w.heap.size, 2, none⟩ (.slice A4 n4 c4)).drew w.heap.size 32 #[.string plD, .int .i64 rem, .slice A4 n4 c4] := (((HBR.out.set_ 0 (.string plD)).set_ 1 (.int .i64 rem)).set_ 2 (.slice A4 n4 c4)).drew
  have hkx : Kept (fun k => k = w.heap.size) wa (((wa.setCell ⟨w.heap.size, 0, none⟩ (.string plD)).setCell ⟨w.heap.size, 1, none⟩ (.int .i64 rem)).setCell ⟨w.heap.size, 2, none⟩ (.slice A4 n4 c4)).drew := ((((Kept.refl (fun k => k = w.heap.size) wa).setCell (p := ⟨w.heap.size, 0, none⟩) (fun _ => rfl) _).setCell (p := ⟨w.heap.size, 1, none⟩) (fun _ => rfl) _).setCell (p := ⟨w.heap.size, 2, none⟩) (fun _ => rfl) _).drew
  have d0 := hw3.cell 0
  have d1 := hw3.cell 1
  have d2 := hw3.cell 2
  simp only [List.getElem?_toArray, List.getElem?_cons_succ, List.getElem?_cons_zero] at d0 d1 d2
  generalize (((wa.setCell ⟨w.heap.size, 0, none⟩ (.string plD)).setCell ⟨w.heap.size, 1, none⟩ (.int .i64 rem)).setCell ⟨w.heap.size, 2, none⟩ (.slice A4 n4 c4)).drew = W3 at *
  refine bodyPost_ret (v := .tuple #[.pointer (some ⟨g, 0, none⟩), .agg #[.string plD, .int .i64 rem, .slice A4 n4 c4]]) (by simp [results, Tryz.results10, go_sem, d0, d1, d2]) rfl ?_
  have hw2 : w.heap.size < w2.heap.size := HB2s.out
  have hw3' : w2.heap.size ≤ w3.heap.size := HK3.out.size
  have hW : w2.heap.size ≤ W3.heap.size := Nat.le_trans HK4.out.size hkx.size
  refine ⟨g, own2, A4, n4, c4, l4, fun k => w3.heap.size ≤ k, rfl, (HT2.out.kept HK4.out fun _ _ e => e).kept hkx fun k h e => HNO.out (e ▸ h), HR4.out.kept hkx fun k h e => by omega, fun k h => ⟨(HO2.out k h).1, Nat.lt_of_lt_of_le (HO2.out k h).2 hW⟩, fun k h h2 => by have := (HO2.out k h2).2; omega, (HK2.out.trans HK4.out fun _ _ e => e).trans hkx fun k hk e => by omega⟩
theorem fc_step {fs : List Fa} {i : Nat} {s : Fa} (h : fs[i]? = some s) : (fs.take (i + 1)).flatMap fC = (fs.take i).flatMap fC ++ fC s := by rw [List.take_add_one, h, List.flatMap_append]; simp
set_option maxHeartbeats 4000000 in
set_option maxRecDepth 100000 in
theorem fac19_at {w : World} {ok : Nat → TypeId → Prop} {A : Option Addr} {n c : Nat} {fs : List Fa} (hf : SlK w ok 2 (.slice A n c) n (fs.flatMap fC)) (hfl : fs.length = n) (hn : n ≤ 1000) :
    Calls Tryz.prog 14 #[.slice A n c] w fun e w' => ∃ A' c', e = .returned (.slice A' n c') ∧ Sl w' 79 2 (.slice A' n c') n (fs.flatMap fC) ∧ Kept noBlock w w' := by
  have hlen := hf.run_len facsT
  have HF := Lib.hid hf
  have HFL := Lib.hid hfl
  clear hf hfl
  go_enter Tryz.func14, Tryz.ntmps14
  go_wp2_with fail
  go_loopg [3, 4] n (fun j vo vi wr => ∃ i : Nat, i + j = n ∧ vi = .int .i64 i ∧ wr.ownsRow w.heap.size 79 2 vo i ((fs.take i).flatMap fC) ∧ Kept noBlock w wr)
  case atStart => exact ⟨0, by omega, rfl, World.ownsRow_nil _ _ _ _, Kept.refl _ _⟩
  case round =>
    obtain ⟨i, hij, rfl, hown, hk⟩ := hrel
    have HIJ := Lib.hid hij
    have HO := Lib.hid hown
    have HK := Lib.hid hk
    have hz := hk.size
    by_cases hlt : i < n
    · obtain ⟨s, hp⟩ : ∃ s, fs[i]? = some s := ⟨_, List.getElem?_eq_getElem (by have := HFL.out; omega)⟩
      obtain ⟨g, off, hidx, hgl, hc0, hc1⟩ := fac_at HF.out hp
      have HNX := Lib.hid (fc_step hp)
      obtain ⟨fd, fn⟩ := s
      simp only [] at hc0 hc1
      clear hij hown hk hp
      go_wp2_with fail
      refine wp_region_sch (fun w' => Kept noBlock w w') (.take 0 (.take 1 (.take 2 (.take 3 (.take 4 (.take 5 (.take 6 (.take 7 (.take 8 (.take 9 (.take 10 (.take 11 (.one 12 (.one 13 (.take 14 .nil))))))))))))))) (by kernel_rfl) (by kernel_rfl) (by kernel_rfl) HK.out.drew ?_
      repeat (first
        | (refine sch_takeE rfl rfl ?_
           apply Exists.intro
           refine ⟨fun w' hS => ?_, fun K hK => ?_⟩
           · (have z0 := hS.cellOf hc0
              have z1 := hS.cellOf hc1
              clear hS
              unfold takesAt; go_simp; rfl)
           go_simp
           refine hK _ ?_
           clear hK K))
      refine sch_doK rfl rfl (fun K hK => ?_)
      go_simp
      refine hK _ _ ((HK.out.alloc _).drew) ?_
      clear hK K
      refine sch_doK rfl rfl (fun K hK => ?_)
      refine wp_append_sl _ f4sT (.tmp 11) (.tmp 23) rfl w.heap.size _ i ((fs.take i).flatMap fC) rfl ((World.ownsRow.alloc HO.out (.cells #[.string fd, .int .i64 fn] 79)).drew) _ 1 [.string fd, .int .i64 fn] rfl (Sl.made_at (Blk.drew (Blk.new wr 79 #[.string fd, .int .i64 fn])) _ rfl rfl one_max) (by simp [Value.oneCell']) ?c1 ?c2 ?_
      case c1 => omega
      case c2 => simp; omega
      intro v' w5 hap
      have hk5 := hap.below ((World.ownsRow.alloc HO.out (.cells #[.string fd, .int .i64 fn] 79)).drew) ((HK.out.alloc (.cells #[.string fd, .int .i64 fn] 79)).drew) (Nat.le_refl _)
      have HK5 := Lib.hid hk5
      have HO5 := Lib.hid hap.own
      refine hK _ _ hk5 ?_
      clear hK K hk5 hap
      repeat (first
        | (refine sch_takeE rfl rfl ?_
           apply Exists.intro
           refine ⟨fun w' hS => ?_, fun K hK => ?_⟩
           · (clear hS
              unfold takesAt; go_simp; rfl)
           go_simp
           refine hK _ ?_
           clear hK K))
      refine sch_nil (NoPanic.normal ?_)
      clear hc0 hc1
      go_wp2
      go_roundg (n - (i + 1))
      case measure => have := HIJ.out; omega
      case rel => exact ⟨i + 1, by have := HIJ.out; omega, by go_num, by rw [HNX.out]; exact HO5.out, HK5.out⟩
    · obtain rfl : i = n := by omega
      rw [List.take_of_length_le (Nat.le_of_eq HFL.out)] at hown
      obtain ⟨A9, c9, rfl, -, -⟩ := (Sl.of_own hown).shape
      have HS := Lib.hid (Sl.of_own hown)
      clear hij hown hk HO
      go_wp2_with fail
      go_ret
      exact ⟨A9, c9, rfl, HS.out, HK.out⟩
end Go.Proofs.YtepikngkbondgaaGreat
namespace Go.Proofs.YtepikngkbondgaaGreat
set_option linter.unusedVariables false
open Go.RowKit
open Go.ChangeMaps (setBlock)

abbrev plA : ByteArray := ⟨#[97]⟩
abbrev plB : ByteArray := ⟨#[98]⟩
abbrev plC : ByteArray := ⟨#[99]⟩
abbrev awP : List Ho := [⟨plA, plD, noStr, [], true⟩, ⟨plB, plD, noStr, [1], true⟩, ⟨plC, plD, noStr, [], true⟩]
theorem awP_ref : refNow (viewS []) awP = awP := by rfl
theorem awP_ok : HoOk awP 20 20 := ⟨by unfold risingH; decide, by decide, by decide, by decide, by decide⟩
theorem awP_1 : planP plD 0 awP 0 [] false 0 1 = [plB, plC, plA] := by decide +kernel
theorem awP_2 : planP plD 0 awP 1 [] true 0 2 = [plB, plC, plA] := by decide +kernel
theorem awP_3 : (replP awP 2 [] 0).length = 1 := by decide +kernel
theorem three_at {w : World} {A : Option Addr} {c : Nat} {x y z : ByteArray} (h : Sl w 9 1 (.slice A 3 c) 3 ([x, y, z].map Value.string)) : ∃ g0 o0 g1 o1 g2 o2,
    (∀ kd w', (Instr.indexAt 36 (.slice A 3 c) (.int kd 0)).run Tryz.prog w' = .ok (.pointer (some ⟨g0, o0, none⟩)) w') ∧ (∀ kd w', (Instr.indexAt 36 (.slice A 3 c) (.int kd 1)).run Tryz.prog w' = .ok (.pointer (some ⟨g1, o1, none⟩)) w') ∧ (∀ kd w', (Instr.indexAt 36 (.slice A 3 c) (.int kd 2)).run Tryz.prog w' = .ok (.pointer (some ⟨g2, o2, none⟩)) w') ∧
      w.cell? ⟨g0, o0, none⟩ = some (.string x) ∧ w.cell? ⟨g1, o1, none⟩ = some (.string y) ∧ w.cell? ⟨g2, o2, none⟩ = some (.string z) := by
  obtain ⟨g0, o0, h0, -, c0⟩ := str_at h (i := 0) rfl
  obtain ⟨g1, o1, h1, -, c1⟩ := str_at h (i := 1) rfl
  obtain ⟨g2, o2, h2, -, c2⟩ := str_at h (i := 2) rfl
  exact ⟨g0, o0, g1, o1, g2, o2, h0, h1, h2, c0, c1, c2⟩
set_option maxHeartbeats 8000000 in
set_option maxRecDepth 100000 in
theorem aw19_at (w : World) : Calls Tryz.prog 8 #[] w fun e w' => e = .returned (.bool true) ∧ Kept noBlock w w' := by
  go_enter Tryz.func8, Tryz.ntmps8
  go_wp2_with fail
  go_at_call 21
  refine (hNew_tab plD 0 w).mono ?_
  rintro e w1 ⟨g, own, rfl, hT1, ho1, hk1⟩
  have HT1 := Lib.hid hT1
  have HK1 := Lib.hid hk1
  have HO1 := Lib.hid (fun k h => (ho1 k h).1)
  clear hT1 hk1 ho1
  go_wp2_with fail
  go_at_call 22
  have b1 : Blk (w1.alloc (.cells #[.int .i64 1] 2)) w1.heap.size 2 #[.int .i64 1] := Blk.new _ _ _
  have kw : Kept noBlock w1 (w1.alloc (.cells #[.int .i64 1] 2)) := (Kept.refl noBlock w1).alloc _
  have hsz : (w1.alloc (.cells #[.int .i64 1] 2)).heap.size = w1.heap.size + 1 := sz_alloc _ _
  have q1 : Sl (w1.alloc (.cells #[.int .i64 1] 2)) 2 1 (.slice (some ⟨w1.heap.size, 0, none⟩) 1 1) 1 (([1] : List Int).map (Value.int .i64)) := Sl.made_at (n := 1) b1 _ rfl rfl (by decide)
  generalize w1.alloc (.cells #[.int .i64 1] 2) = w2 at *
  generalize some (⟨w1.heap.size, 0, none⟩ : Addr) = p1 at *
  have hb3 := Blk.new_at w2 48 #[.string plA, .string plD, .string noStr, .slice none 0 0, .bool true, .string plB, .string plD, .string noStr, .slice p1 1 1, .bool true, .string plC, .string plD, .string noStr, .slice none 0 0, .bool true] hsz.symm
  have kw3 : Kept noBlock w2 (w2.alloc (.cells #[.string plA, .string plD, .string noStr, .slice none 0 0, .bool true, .string plB, .string plD, .string noStr, .slice p1 1 1, .bool true, .string plC, .string plD, .string noStr, .slice none 0 0, .bool true] 48)) := (Kept.refl noBlock w2).alloc _
  have hrow : Sl (w2.alloc (.cells #[.string plA, .string plD, .string noStr, .slice none 0 0, .bool true, .string plB, .string plD, .string noStr, .slice p1 1 1, .bool true, .string plC, .string plD, .string noStr, .slice none 0 0, .bool true] 48)) 48 5 (.slice (some ⟨w1.heap.size + 1, 0, none⟩) 3 3) 3 (([⟨plA, plD, noStr, none, 0, 0, [], true⟩, ⟨plB, plD, noStr, p1, 1, 1, [1], true⟩, ⟨plC, plD, noStr, none, 0, 0, [], true⟩] : List HV).flatMap hvC) := Sl.made_at (n := 3) hb3 _ rfl rfl (by decide)
  refine (hRefresh_tab (S := []) (l := [⟨plA, plD, noStr, none, 0, 0, [], true⟩, ⟨plB, plD, noStr, p1, 1, 1, [1], true⟩, ⟨plC, plD, noStr, none, 0, 0, [], true⟩]) (HT1.out.kept (kw.trans kw3 fun _ _ e => e) fun _ _ e => e) (by decide) hrow.lo rfl (by decide) ?_).mono ?_
  · intro x hx
    rcases List.mem_cons.1 hx with rfl | hx
    · exact ⟨by decide, SlK.nil _ _ _⟩
    · rcases List.mem_cons.1 hx with rfl | hx
      · exact ⟨by show 1 ≤ 1000000; decide, (SlK.keptNone q1 kw3).lo⟩
      · rcases List.mem_cons.1 hx with rfl | hx
        · exact ⟨by decide, SlK.nil _ _ _⟩
        · cases hx
  rintro e w4 ⟨A1, n1, c1, A2, n2, c2, rfl, -, -, -, -, hT4, hk4⟩
  rw [show ([⟨plA, plD, noStr, none, 0, 0, [], true⟩, ⟨plB, plD, noStr, p1, 1, 1, [1], true⟩, ⟨plC, plD, noStr, none, 0, 0, [], true⟩] : List HV).map HV.abs = awP from rfl, awP_ref] at hT4
  have HKW := Lib.hid ((HK1.out.trans kw fun _ _ e => e).trans kw3 fun _ _ e => e)
  have HK4 := Lib.hid (HKW.out.grew hk4 HO1.out)
  have HT4 := Lib.hid hT4
  clear hT4 hk4 b1 kw hsz q1 hb3 kw3 hrow HT1 HO1 HKW HK1
  generalize ownI w4 _ own = own4 at *
  go_wp2_with fail
  go_at_call 15
  refine (plPlan_at (ok := fun _ _ => True) (S := awP) (fs := []) (tn := 1) (routed := false) (t := 0) (.inr ⟨g, rfl, HT4.out⟩) HT4.out.lt awP_ok (SlK.nil _ _ _) rfl (by decide) (fun f hf => absurd hf List.not_mem_nil) (by decide)).mono ?_
  rw [awP_1]
  rintro e w5 ⟨A5, n5, c5, rfl, hn5, hs5, hk5⟩
  have hn5' : n5 = 3 := hn5
  clear hn5; subst hn5'
  have HS5 := Lib.hid (Sl.of_own hs5)
  have HT5 := Lib.hid (HT4.out.kept hk5 fun _ _ e => e)
  have HK5 := Lib.hid (HK4.out.trans hk5 fun _ _ e => e)
  clear hs5 hk5 HT4 HK4
  go_wp2_with fail
  go_at_call 15
  refine (plPlan_at (ok := fun _ _ => True) (S := awP) (fs := []) (tn := 2) (routed := true) (t := 0) (.inr ⟨g, rfl, HT5.out⟩) HT5.out.lt awP_ok (SlK.nil _ _ _) rfl (by decide) (fun f hf => absurd hf List.not_mem_nil) (by decide)).mono ?_
  rw [awP_2]
  rintro e w6 ⟨A6, n6, c6, rfl, hn6, hs6, hk6⟩
  have hn6' : n6 = 3 := hn6
  clear hn6; subst hn6'
  have HS5' := Lib.hid (HS5.out.keptNone hk6)
  have HT6 := Lib.hid (HT5.out.kept hk6 fun _ _ e => e)
  have HK6 := Lib.hid (HK5.out.trans hk6 fun _ _ e => e)
  have hl5 := HS5'.out.run_len strsT
  replace hs6 := Sl.of_own hs6
  have hl6 := hs6.run_len strsT
  obtain ⟨g0, o0, g1, o1, g2, o2, i0, i1, i2, y0, y1, y2⟩ := three_at HS5'.out
  obtain ⟨h0, p0, h1, p1', h2, p2, j0, j1, -, z0, z1, -⟩ := three_at hs6
  have e1 := strEq_self plA
  have e2 := strEq_self plB
  have e3 := strEq_self plC
  rw [ByteArray.toList_eq] at e1 e2 e3
  clear hs6 hk6 HS5 HT5 HK5 HS5'
  go_wp2_with fail
  go_at_call 12
  refine (plRepl_at (ok := fun _ _ => True) (S := awP) (fs := []) (t := 0) (.inr ⟨g, rfl, HT6.out⟩) awP_ok (SlK.nil _ _ _) rfl (by decide) (fun f hf => absurd hf List.not_mem_nil)).mono ?_
  rintro e w7 ⟨A7, n7, c7, rfl, hn7, -, hs7, hk7⟩
  rw [awP_3] at hn7
  subst hn7
  have hl7 := hs7.run_len strsT
  have HK7 := Lib.hid (HK6.out.trans hk7 fun _ _ e => e)
  clear hs7 hk7
  go_wp2_with fail
  go_ret
  exact ⟨rfl, HK7.out⟩
end Go.Proofs.YtepikngkbondgaaGreat
namespace Go.Proofs.YtepikngkbondgaaGreat
set_option linter.unusedVariables false
open Go.ChangeShapes Go.WideShapes Go.Deep Go.RowKit
section
variable {H : Type} {enc : TypeId × Value → H} {W : World} {base : Nat} {v : Value} {d : DataW H} {p : List MemPlace}
set_option maxRecDepth 100000 in
theorem open_sites {hval : Value.okWide Tryz.prog W .any base 64 v} (h : DataW.Trod enc Tryz.prog W 0 (fun _ => true) true 64 v d p) :
    ∃ l : List Si, Lo W W.heap.size 3 v l.length (l.flatMap sC) :=
  open_lo (k := 3) Tryz.underlying64 (by kernel_rfl) (by decide) hval h sC (fun _ => rfl) (fun cs n y hl h => by
    match cs, hl with
    | [c0, c1, c2], _ =>
      obtain ⟨n0, y0, g0⟩ := field_read Tryz.underlying66 h (i := 0) rfl (k := 1) (c := [c0]) (by kernel_rfl) rfl
      obtain ⟨n1, y1, g1⟩ := field_read Tryz.underlying66 h (i := 1) rfl (k := 1) (c := [c1]) (by kernel_rfl) rfl
      obtain ⟨n2, y2, g2⟩ := field_read Tryz.underlying66 h (i := 2) rfl (k := 1) (c := [c2]) (by kernel_rfl) rfl
      obtain ⟨s0, e0, -, -⟩ := DataW.trod_string Tryz.underlying9 g0
      obtain ⟨s1, e1, -, -⟩ := DataW.trod_string Tryz.underlying9 g1
      obtain ⟨s2, e2, -, -⟩ := DataW.trod_string Tryz.underlying9 g2
      simp only [List.cons.injEq, and_true] at e0 e1 e2
      exact ⟨(s0, s1, s2), by rw [e0, e1, e2]; rfl⟩)
set_option maxRecDepth 100000 in
theorem open_facs {hval : Value.okWide Tryz.prog W .any base 23 v} (h : DataW.Trod enc Tryz.prog W 0 (fun _ => true) true 23 v d p) :
    ∃ l : List Fa, Lo W W.heap.size 2 v l.length (l.flatMap fC) ∧ ∀ f ∈ l, -9223372036854775808 ≤ f.2 ∧ f.2 < 9223372036854775808 := by
  obtain ⟨l, hl⟩ := open_lo (k := 2) Tryz.underlying23 (by kernel_rfl) (by decide) hval h (fun e : ByteArray × { u : Int // -9223372036854775808 ≤ u ∧ u < 9223372036854775808 } => [Value.string e.1, .int .i64 e.2.1]) (fun _ => rfl) (fun cs n y hl h => by
    match cs, hl with
    | [c0, c1], _ =>
      obtain ⟨n0, y0, g0⟩ := field_read Tryz.underlying78 h (i := 0) rfl (k := 1) (c := [c0]) (by kernel_rfl) rfl
      obtain ⟨n1, y1, g1⟩ := field_read Tryz.underlying78 h (i := 1) rfl (k := 1) (c := [c1]) (by kernel_rfl) rfl
      obtain ⟨s0, e0, -, -⟩ := DataW.trod_string Tryz.underlying9 g0
      obtain ⟨b, e1, -, wb⟩ := DataW.trod_int Tryz.underlying3 g1
      simp only [List.cons.injEq, and_true] at e0 e1
      have hb := bounds_i64 wb
      exact ⟨(s0, ⟨b, hb.1, by have := hb.2; omega⟩), by rw [e0, e1]⟩)
  refine ⟨l.map fun e => (e.1, e.2.1), ?_, ?_⟩
  · rw [List.length_map, List.flatMap_map]; exact hl
  · intro f hf
    obtain ⟨x, _, rfl⟩ := List.mem_map.1 hf
    exact x.2.2
end
end Go.Proofs.YtepikngkbondgaaGreat
namespace Go.Proofs.YtepikngkbondgaaGreat
set_option linter.unusedVariables false
open Go.ChangeShapes Go.WideShapes Go.Deep Go.RowKit Go.Joins
theorem nat_u64 {a : Int} (h : (Lit.int .u64 a).wf = true) : ∃ tn : Nat, a = (tn : Int) ∧ tn < 18446744073709551616 := ⟨a.toNat, by have := (bounds_u64 h).1; omega, by have := (bounds_u64 h).1; have := (bounds_u64 h).2; omega⟩
section
variable {H : Type} {enc : TypeId × Value → H} {W : World} {base : Nat} {v : Value} {d : DataW H} {p : List MemPlace}
set_option maxRecDepth 100000 in
theorem open_kspace {hval : Value.okWide Tryz.prog W .any base 25 v} (h : DataW.Trod enc Tryz.prog W 0 (fun _ => true) true 25 v d p) :
    ∃ (k : Int) (Af : Option Addr) (nf cf : Nat), v = .agg #[.int .i64 k, .slice Af nf cf] ∧ ∃ fs : List Fa, fs.length = nf ∧ Lo W W.heap.size 2 (.slice Af nf cf) nf (fs.flatMap fC) ∧ ∀ f ∈ fs, -9223372036854775808 ≤ f.2 ∧ f.2 < 9223372036854775808 := by
  obtain ⟨c0, c1, y0, y1, n1, rfl, -, -, g0, g1⟩ := open_agg2 Tryz.underlying25 (by kernel_rfl) (by kernel_rfl) hval h
  obtain ⟨b0, e0, -, -⟩ := DataW.trod_int Tryz.underlying3 g0
  obtain ⟨A, n, c, hcs, l, hl, hlo⟩ := open_cell (k := 2) Tryz.underlying23 (by kernel_rfl) (by decide) g1 (fun e : ByteArray × { u : Int // -9223372036854775808 ≤ u ∧ u < 9223372036854775808 } => [Value.string e.1, .int .i64 e.2.1]) (fun _ => rfl) (fun cs n y hl h => by
    match cs, hl with
    | [c0, c1], _ =>
      obtain ⟨n0, y0, g0⟩ := field_read Tryz.underlying78 h (i := 0) rfl (k := 1) (c := [c0]) (by kernel_rfl) rfl
      obtain ⟨n1, y1, g1⟩ := field_read Tryz.underlying78 h (i := 1) rfl (k := 1) (c := [c1]) (by kernel_rfl) rfl
      obtain ⟨s0, e0, -, -⟩ := DataW.trod_string Tryz.underlying9 g0
      obtain ⟨b, e1, -, wb⟩ := DataW.trod_int Tryz.underlying3 g1
      simp only [List.cons.injEq, and_true] at e0 e1
      have hb := bounds_i64 wb
      exact ⟨(s0, ⟨b, hb.1, by have := hb.2; omega⟩), by rw [e0, e1]⟩)
  simp only [List.cons.injEq, and_true] at e0 hcs
  subst e0 hcs
  refine ⟨b0, A, n, c, rfl, l.map fun e => (e.1, e.2.1), by rw [List.length_map]; exact hl, by rw [List.flatMap_map]; exact hlo, fun f hf => ?_⟩
  obtain ⟨x, -, rfl⟩ := List.mem_map.1 hf
  exact x.2.2
end
end Go.Proofs.YtepikngkbondgaaGreat
namespace Go.Proofs.YtepikngkbondgaaGreat
set_option linter.unusedVariables false
open Go.ChangeShapes Go.WideShapes Go.ChangeAt Go.RowKit

theorem trodAll_stays {H : Type} {enc : TypeId × Value → H} {P : Program} (hl : laidOutB P = true) {W W' : World} (hb : Below W.heap.size W W') :
    ∀ (ts : List TypeId) (vs : List Value) (ds : List (DataW H)) (ps : List MemPlace), (∀ t ∈ ts, P.readableRec t = true ∧ t < P.types.size) → DataW.TrodAll enc P W 0 (fun _ => true) true ts vs ds ps → (∀ x ∈ ps, x.block < W.heap.size) →
      DataW.TrodAll enc P W' 0 (fun b => decide (b < W.heap.size)) true ts vs ds ps
  | [], [], [], _, _, h, _ => h
  | t :: ts, v :: vs, d :: ds, ps, hr, h, hlt => by
    obtain ⟨p, q, h1, h2, rfl⟩ := h
    obtain ⟨hr1, hr2⟩ := hr t (.head _)
    exact ⟨p, q, Below.trod hl hr1 hr2 h1 hb (fun x hx => hlt x (List.mem_append.2 (.inl hx))), trodAll_stays hl hb ts vs ds q (fun t ht => hr t (.tail _ ht)) h2 (fun x hx => hlt x (List.mem_append.2 (.inr hx))), rfl⟩
  | [], [], _ :: _, _, _, h, _ => h.elim
  | [], _ :: _, _, _, _, h, _ => h.elim
  | _ :: _, [], _, _, _, h, _ => h.elim
  | _ :: _, _ :: _, [], _, _, h, _ => h.elim

theorem law_post {H : Type} {enc : TypeId × Value → H} {P : Program} {f : Func} {s : ChangeSpec} {tb : TypeId} {W W' : World} {args : Array Value} {ds gs : List (DataW H)} {before : List MemPlace} (hl : laidOutB P = true)
    (hW : DataW.Whole enc P f.params.toList s.vars false W args.toList ds gs before) (hvars : s.vars = []) (hparams : ∀ t ∈ f.params.toList, P.readableRec t = true ∧ t < P.types.size) (hres : f.resultTypes = #[tb]) (htb : P.underlying tb = some .bool)
    (h1 : (s.fn H (ds ++ gs)).results = [.lit (.bool true)]) (h2 : (s.fn H (ds ++ gs)).args = ds) (h3 : (s.fn H (ds ++ gs)).vars = []) (hb : Below W.heap.size W W') : s.post enc P f false true false false W args (.bool true) W' := by
  have hlt := hW.lt
  have hW0 := hW
  obtain ⟨p, q, hA, hV, rfl, hfz, hnd⟩ := hW0
  rw [hvars] at hV
  obtain ⟨rfl, rfl⟩ := trodVars_none hV
  refine ⟨ds, [], p ++ [], [], p, [], hW, ?_, ?_, ?_, ?_, fun h => by cases h⟩
  · rw [h1, hres]
    exact trodAll_cons_mk (shut_bool htb _) trodAll_mk0
  · rw [h2]
    exact trodAll_stays hl hb _ _ _ _ hparams hA (fun x hx => hlt x (by simpa using hx))
  · rw [hvars, h3]; rfl
  · exact hb.frame _
end Go.Proofs.YtepikngkbondgaaGreat

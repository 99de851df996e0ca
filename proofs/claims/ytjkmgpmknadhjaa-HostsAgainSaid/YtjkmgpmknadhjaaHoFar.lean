/- HostsFar: the walk. -/
import Derived.Test.YtjkmgpmknadhjaaHoOpen
namespace Go.Proofs.Ytjkmgpmknadhjaa
set_option linter.unusedVariables false
open Go.RowKit
open Go.ChangeMaps (setBlock)

/-- A told host's cells. -/
theorem Told.at {w w' : World} {A : Option Addr} {n c : Nat} {T : List HV} {S : List Ho} (h : Told w w' A n c T S) {i : Nat} {o : Ho} (hi : S[i]? = some o) :
    ∃ (x : HV) (g off : Nat), T[i]? = some x ∧ x.abs = o ∧ (∀ kd w', (Instr.indexAt 22 (.slice A n c) (.int kd (i : Int))).run Try.prog w' = .ok (.pointer (some ⟨g, off, none⟩)) w') ∧
      w'.cell? ⟨g, off, none⟩ = some (.string o.name) ∧ w'.cell? ⟨g, off + 1, none⟩ = some (.string o.dc) ∧ w'.cell? ⟨g, off + 2, none⟩ = some (.string o.rack) ∧ w'.cell? ⟨g, off + 3, none⟩ = some (.slice x.ta x.tn x.tc) ∧ w'.cell? ⟨g, off + 4, none⟩ = some (.bool o.up) := by
  rw [← h.abs, List.getElem?_map] at hi
  obtain ⟨x, hx, rfl⟩ := Option.map_eq_some_iff.1 hi
  obtain ⟨g, cap, off, hv, -, -, -, h1, y0, y1, y2, y3, y4⟩ := ownH_at h.row hx
  cases hv
  exact ⟨x, g, off, hx, rfl, h1, y0, y1, y2, y3, y4⟩
theorem Told.slen {w w' : World} {A : Option Addr} {n c : Nat} {T : List HV} {S : List Ho} (h : Told w w' A n c T S) : S.length = n := by rw [← h.abs, List.length_map, h.len]
theorem Told.keptN {w w' w2 : World} {A : Option Addr} {n c : Nat} {T : List HV} {S : List Ho} (h : Told w w' A n c T S) (hk : Kept noBlock w' w2) : Told w w2 A n c T S := h.kept hk fun _ _ e => e

set_option maxHeartbeats 8000000 in
set_option maxRecDepth 100000 in
theorem Far_walk (A : Option Addr) (n c : Nat) (dc : ByteArray) (rem : Int) (l : List HV) (w : World) (hl : l.length = n) (hs : Lo w w.heap.size 5 (.slice A n c) n (l.flatMap hvC)) (ht : ∀ x ∈ l, HoIn w x) (hr : -9223372036854775808 ≤ rem ∧ rem ≤ 9223372036854775807) :
    Calls Try.prog 3 #[.slice A n c, .string dc, .int .i64 rem] w fun e w' => e = .returned (.bool true) ∧ Kept noBlock w w' := by
  have HS := Lib.hid hs
  have HT := Lib.hid ht
  have HL := Lib.hid hl
  obtain ⟨hr1, hr2⟩ := hr
  have htn : ∀ x ∈ l, x.toks.length = x.tn ∧ x.tn ≤ 9223372036854775807 := fun x hx => ⟨(ht x hx).1, by
    obtain ⟨_, _, hv, h1, h2⟩ := (ht x hx).2.shape
    cases hv; unfold maxLen at h2; omega⟩
  have HTN := Lib.hid htn
  clear hs ht hl htn
  go_enter Try.func3, Try.ntmps3
  go_wp2_with fail
  go_at_call 7
  refine (hoaw_at _).mono ?_
  rintro e w1 ⟨rfl, hk1⟩
  have HK1 := Lib.hid hk1
  have HS1 := Lib.hid (SlK.keptNone HS.out hk1)
  clear hk1
  go_wp2_with fail
  go_at_call 8
  refine (hcrowd_at HS1.out HL.out HTN.out).mono ?_
  rintro e w2 ⟨rfl, rfl⟩
  cases hcr : crowdB l with
  | false =>
    clear hcr
    go_wp2
    go_ret
    exact ⟨rfl, HK1.out⟩
  | true =>
    obtain ⟨hc1, hc2⟩ := crowdB_true hcr
    have HC1 : Hid (n ≤ 20) := Lib.hid (by have := HL.out; omega)
    have HC2 := Lib.hid hc2
    clear hcr hc1 hc2
    go_wp2_with fail
    go_at_call 9
    refine (hNew_tab dc rem w2).mono ?_
    rintro e w3 ⟨g, own, rfl, hT3, ho3, hk3⟩
    have HT3 := Lib.hid hT3
    have HK3 := Lib.hid (HK1.out.trans hk3 fun _ _ e => e)
    have HO3 := Lib.hid (fun k h => Nat.le_trans HK1.out.size (ho3 k h).1)
    have HS3 := Lib.hid (SlK.keptNone HS1.out hk3)
    clear hT3 ho3 hk3 HS1 HK1
    go_wp2_with fail
    go_at_call 10
    refine (hRefresh_tab (l := l) HT3.out (by decide) HS3.out.lo HL.out (by have := HC1.out; omega) fun x hx => ⟨by have := HC2.out x hx; omega, (SlK.keptNone (HT.out x hx).2 HK3.out).lo⟩).mono ?_
    rintro e w4 ⟨A1, n1, c1, A2, n2, c2, rfl, -, -, -, -, hT4, hk4⟩
    have hok : HoOk (refNow (viewS []) (l.map HV.abs)) 20 20 := refNow_ok (by rw [List.length_map, HL.out]; exact HC1.out) fun o ho => by
      obtain ⟨x, hx, rfl⟩ := List.mem_map.1 ho
      exact HC2.out x hx
    have HK4 := Lib.hid (HK3.out.grew hk4 HO3.out)
    generalize refNow (viewS []) (l.map HV.abs) = S at *
    have HOK := Lib.hid hok
    have HT4 := Lib.hid hT4
    clear hok hT4 hk4 HK3 HT3 HS3 HC2 HT HTN HS HO3
    go_wp2_with fail
    go_at_call 11
    refine (hAll_told HT4.out (Nat.le_trans HOK.out.len (by decide)) fun o ho => Nat.le_trans (HOK.out.tk o ho) (by decide)).mono ?_
    rintro e w5 ⟨A5, n5, c5, T, rfl, hto, hk5⟩
    have hSn := hto.slen
    have hn5 : n5 ≤ 20 := by have := HOK.out.len; omega
    have hlen := (Sl.of_own hto.row).run_len hostsT
    have HTO := Lib.hid hto
    have HSN := Lib.hid hSn
    have HK5 := Lib.hid (HK4.out.trans hk5 fun _ _ e => e)
    have HT5 := Lib.hid (HT4.out.kept hk5 fun _ _ e => e)
    clear hto hSn hk5 HK4 HT4
    go_wp2_with fail
    go_loopg [11] n5 (fun j vi wr => ∃ i : Nat, i + j = n5 ∧ vi = .int .i64 i ∧ Kept noBlock w5 wr)
    case atStart => exact ⟨0, by omega, rfl, Kept.refl _ _⟩
    case round =>
      obtain ⟨i, hij, rfl, hk⟩ := hrel
      have HIJ := Lib.hid hij
      have HK := Lib.hid hk
      by_cases hi : i < n5
      · obtain ⟨o, ho⟩ : ∃ o, S[i]? = some o := ⟨_, List.getElem?_eq_getElem (by have := HSN.out; omega)⟩
        obtain ⟨x, gr, off, -, -, hidx, y0, y1, -, -, -⟩ := (HTO.out.keptN hk).at ho
        have HOI := Lib.hid ho
        obtain ⟨wo, rfl⟩ : ∃ wo : World, wo = wr := ⟨_, rfl⟩
        have hdi := hDist_at (HT5.out.kept hk fun _ _ e => e) o.name (by have := HOK.out.len; omega)
        have HDV := Lib.hid (dist_at HOK.out.ris ho dc rem)
        clear hij hk ho
        by_cases hd : o.dc = dc
        · have hdv : distP dc rem S o.name = 1 := by rw [HDV.out, if_pos hd]
          have hb : (o.dc.toList == dc.toList) = true := by rw [hd]; exact strEq_self _
          have HDD := Lib.hid hd
          rw [hdv] at hdi
          have HD := Lib.hid hdi
          clear hd hdv hdi
          go_wp2_with fail
          refine HD.out.mono ?_
          rintro e w6 ⟨rfl, hk6⟩
          have HK6 := Lib.hid (HK.out.trans hk6 fun _ _ e => e)
          obtain ⟨x6, gr6, off6, -, -, hidx6, -, v1, -, -, -⟩ := (HTO.out.keptN HK6.out).at HOI.out
          clear hk6 hidx y0 y1 HD
          go_wp2_with fail
          go_loopg [13, 14, 15] n5 (fun jj vn vf vk wr => ∃ k : Nat, k + jj = n5 ∧ vk = .int .i64 k ∧ vn = .int .i64 (sameN S o.dc k : Nat) ∧ vf = .int .i64 (0 : Nat) ∧ Kept noBlock w5 wr)
          case atStart => exact ⟨0, by omega, rfl, rfl, rfl, HK6.out⟩
          case round =>
            obtain ⟨k, hkj, rfl, rfl, rfl, hk⟩ := hrel
            clear hidx6 v1
            have HKJ := Lib.hid hkj
            have HK := Lib.hid hk
            have hle := sameN_le S o.dc k
            by_cases hkn : k < n5
            · obtain ⟨q, hq⟩ : ∃ q, S[k]? = some q := ⟨_, List.getElem?_eq_getElem (by have := HSN.out; omega)⟩
              obtain ⟨xk, gk, ofk, -, -, hidxk, z0, z1, -, -, -⟩ := (HTO.out.keptN hk).at hq
              obtain ⟨xi, gi, ofi, -, -, hidxi, -, u1, -, -, -⟩ := (HTO.out.keptN hk).at HOI.out
              have HSU := Lib.hid (sameN_succ hq o.dc)
              have HDK := Lib.hid (dist_at HOK.out.ris hq dc rem)
              have HT := Lib.hid (HT5.out.kept hk fun _ _ e => e)
              clear hkj hk hq
              by_cases hqd : q.dc = o.dc
              · have hb1 : (q.dc.toList == o.dc.toList) = true := by rw [hqd]; exact strEq_self _
                have HSU2 : Hid (sameN S o.dc (k + 1) = sameN S o.dc k + 1) := Lib.hid (by rw [HSU.out, if_pos hqd])
                have HQD := Lib.hid hqd
                clear hqd HSU
                go_wp2_with fail
                go_quiet (fail)
                go_wp2_with fail
                refine (hDist_at (HT.out.kept ((Kept.refl noBlock _).drewN _) fun _ _ e => e) q.name (by have := HOK.out.len; omega)).mono ?_
                rw [show distP dc rem S q.name = 1 by rw [HDK.out, if_pos (HQD.out.trans HDD.out)]]
                rintro e w7 ⟨rfl, hk7⟩
                have HK7 := Lib.hid ((HK.out.drewN _).trans hk7 fun _ _ e => e)
                clear hk7
                go_wp2_with fail
                go_roundg (n5 - (k + 1))
                case measure => have := HKJ.out; omega
                case rel => exact ⟨k + 1, by have := HKJ.out; omega, by go_num, by rw [HSU2.out]; go_num, rfl, HK7.out⟩
              · have hb1 : (q.dc.toList == o.dc.toList) = false := strEq_ne hqd
                have HSU2 : Hid (sameN S o.dc (k + 1) = sameN S o.dc k) := Lib.hid (by rw [HSU.out, if_neg hqd]; rfl)
                clear hqd HSU
                go_wp2_with fail
                go_quiet (fail)
                go_wp2_with fail
                go_roundg (n5 - (k + 1))
                case measure => have := HKJ.out; omega
                case rel => exact ⟨k + 1, by have := HKJ.out; omega, by go_num, by rw [HSU2.out], rfl, HK.out.drewN _⟩
            · obtain rfl : k = n5 := by omega
              have HKE := Lib.hid hk
              obtain ⟨xi, gi, ofi, -, -, hidxi, -, u1, -, -, -⟩ := (HTO.out.keptN hk).at HOI.out
              clear hk hkj
              generalize sameN S o.dc k = N at *
              by_cases hr0 : rem < 0
              · have hn0 : ¬ (N : Int) < 0 := by omega
                go_wp2_with fail
                go_roundg (k - (i + 1))
                case measure => have := HIJ.out; omega
                case rel => exact ⟨i + 1, by have := HIJ.out; omega, by go_num, HKE.out⟩
              · by_cases hnr : (N : Int) < rem
                · go_wp2_with fail
                  go_roundg (k - (i + 1))
                  case measure => have := HIJ.out; omega
                  case rel => exact ⟨i + 1, by have := HIJ.out; omega, by go_num, HKE.out⟩
                · go_wp2_with fail
                  go_roundg (k - (i + 1))
                  case measure => have := HIJ.out; omega
                  case rel => exact ⟨i + 1, by have := HIJ.out; omega, by go_num, HKE.out⟩
        · have hdv : distP dc rem S o.name = if (sameN S o.dc i : Int) < rem then 2 else 0 := by rw [HDV.out, if_neg hd]
          have hb : (o.dc.toList == dc.toList) = false := strEq_ne hd
          have HDD := Lib.hid hd
          rw [hdv] at hdi
          obtain ⟨dv, hdv1, hdv2⟩ : ∃ dv : Int, dv ≠ 1 ∧ (if (sameN S o.dc i : Int) < rem then (2 : Int) else 0) = dv := ⟨_, by split <;> decide, rfl⟩
          rw [hdv2] at hdi
          have hdb : (dv == 1) = false := beq_eq_false_iff_ne.2 hdv1
          have HD := Lib.hid hdi
          clear hd hdv hdi hdv1 hdv2
          go_wp2_with fail
          refine HD.out.mono ?_
          rintro e w6 ⟨rfl, hk6⟩
          have HK6 := Lib.hid (HK.out.trans hk6 fun _ _ e => e)
          obtain ⟨x6, gr6, off6, -, -, hidx6, -, v1, -, -, -⟩ := (HTO.out.keptN HK6.out).at HOI.out
          clear hk6 hidx y0 y1 HD
          go_wp2_with fail
          go_loopg [13, 14, 15] n5 (fun jj vn vf vk wr => ∃ k : Nat, k + jj = n5 ∧ vk = .int .i64 k ∧ vn = .int .i64 (sameN S o.dc k : Nat) ∧ vf = .int .i64 (farN rem (sameN S o.dc k) : Nat) ∧ Kept noBlock w5 wr)
          case atStart => exact ⟨0, by omega, rfl, rfl, by simp [sameN_zero, farN], HK6.out⟩
          case round =>
            obtain ⟨k, hkj, rfl, rfl, rfl, hk⟩ := hrel
            clear hidx6 v1
            have HKJ := Lib.hid hkj
            have HK := Lib.hid hk
            have hle := sameN_le S o.dc k
            by_cases hkn : k < n5
            · obtain ⟨q, hq⟩ : ∃ q, S[k]? = some q := ⟨_, List.getElem?_eq_getElem (by have := HSN.out; omega)⟩
              obtain ⟨xk, gk, ofk, -, -, hidxk, z0, z1, -, -, -⟩ := (HTO.out.keptN hk).at hq
              obtain ⟨xi, gi, ofi, -, -, hidxi, -, u1, -, -, -⟩ := (HTO.out.keptN hk).at HOI.out
              have HSU := Lib.hid (sameN_succ hq o.dc)
              have HDK := Lib.hid (dist_at HOK.out.ris hq dc rem)
              have HT := Lib.hid (HT5.out.kept hk fun _ _ e => e)
              clear hkj hk hq
              by_cases hqd : q.dc = o.dc
              · have hb1 : (q.dc.toList == o.dc.toList) = true := by rw [hqd]; exact strEq_self _
                have HSU2 : Hid (sameN S o.dc (k + 1) = sameN S o.dc k + 1) := Lib.hid (by rw [HSU.out, if_pos hqd])
                have HQD := Lib.hid hqd
                clear hqd HSU
                go_wp2_with fail
                go_quiet (fail)
                go_wp2_with fail
                refine (hDist_at (HT.out.kept ((Kept.refl noBlock _).drewN _) fun _ _ e => e) q.name (by have := HOK.out.len; omega)).mono ?_
                rw [show distP dc rem S q.name = if (sameN S o.dc k : Int) < rem then 2 else 0 by rw [HDK.out, if_neg (fun e => HDD.out (HQD.out.symm.trans e)), HQD.out]]
                have hfl : farN rem (sameN S o.dc k) ≤ sameN S o.dc k := Nat.min_le_left _ _
                by_cases hlt : (sameN S o.dc k : Int) < rem
                · rw [if_pos hlt]
                  have HFS : Hid (farN rem (sameN S o.dc (k + 1)) = farN rem (sameN S o.dc k) + 1) := Lib.hid (by rw [HSU2.out, farN_succ, if_pos hlt])
                  rintro e w7 ⟨rfl, hk7⟩
                  have HK7 := Lib.hid ((HK.out.drewN _).trans hk7 fun _ _ e => e)
                  clear hk7 hlt
                  generalize farN rem (sameN S o.dc k) = F at *
                  generalize sameN S o.dc k = N at *
                  go_wp2_with fail
                  go_roundg (n5 - (k + 1))
                  case measure => have := HKJ.out; omega
                  case rel => exact ⟨k + 1, by have := HKJ.out; omega, by go_num, by rw [HSU2.out]; go_num, by rw [HFS.out]; go_num, HK7.out⟩
                · rw [if_neg hlt]
                  have HFS : Hid (farN rem (sameN S o.dc (k + 1)) = farN rem (sameN S o.dc k)) := Lib.hid (by rw [HSU2.out, farN_succ, if_neg hlt]; rfl)
                  rintro e w7 ⟨rfl, hk7⟩
                  have HK7 := Lib.hid ((HK.out.drewN _).trans hk7 fun _ _ e => e)
                  clear hk7 hlt
                  generalize farN rem (sameN S o.dc k) = F at *
                  generalize sameN S o.dc k = N at *
                  go_wp2_with fail
                  go_roundg (n5 - (k + 1))
                  case measure => have := HKJ.out; omega
                  case rel => exact ⟨k + 1, by have := HKJ.out; omega, by go_num, by rw [HSU2.out]; go_num, by rw [HFS.out], HK7.out⟩
              · have hb1 : (q.dc.toList == o.dc.toList) = false := strEq_ne hqd
                have HSU2 : Hid (sameN S o.dc (k + 1) = sameN S o.dc k) := Lib.hid (by rw [HSU.out, if_neg hqd]; rfl)
                clear hqd HSU
                go_wp2_with fail
                go_quiet (fail)
                go_wp2_with fail
                go_roundg (n5 - (k + 1))
                case measure => have := HKJ.out; omega
                case rel => exact ⟨k + 1, by have := HKJ.out; omega, by go_num, by rw [HSU2.out], by rw [HSU2.out], HK.out.drewN _⟩
            · obtain rfl : k = n5 := by omega
              have HKE := Lib.hid hk
              obtain ⟨xi, gi, ofi, -, -, hidxi, -, u1, -, -, -⟩ := (HTO.out.keptN hk).at HOI.out
              clear hk hkj
              have hfd : (farN rem (sameN S o.dc k) : Int) = min (sameN S o.dc k : Int) (max rem 0) := by unfold farN; omega
              generalize farN rem (sameN S o.dc k) = F at *
              generalize sameN S o.dc k = N at *
              by_cases hr0 : rem < 0
              · obtain rfl : F = 0 := by omega
                clear hfd
                go_wp2_with fail
                go_roundg (k - (i + 1))
                case measure => have := HIJ.out; omega
                case rel => exact ⟨i + 1, by have := HIJ.out; omega, by go_num, HKE.out⟩
              · by_cases hnr : (N : Int) < rem
                · obtain rfl : F = N := by omega
                  clear hfd
                  have hbb : ((F : Int) != (F : Int)) = false := by simp
                  go_wp2_with fail
                  go_roundg (k - (i + 1))
                  case measure => have := HIJ.out; omega
                  case rel => exact ⟨i + 1, by have := HIJ.out; omega, by go_num, HKE.out⟩
                · obtain rfl : rem = F := by omega
                  clear hfd
                  have hbb : ((F : Int) != (F : Int)) = false := by simp
                  go_wp2_with fail
                  go_roundg (k - (i + 1))
                  case measure => have := HIJ.out; omega
                  case rel => exact ⟨i + 1, by have := HIJ.out; omega, by go_num, HKE.out⟩
      · clear hk
        go_wp2_with fail
        go_ret
        exact ⟨rfl, HK5.out.trans HK.out fun _ _ e => e⟩
end Go.Proofs.Ytjkmgpmknadhjaa

/- HostsMarks: the walk. -/
import Derived.Test.YtjkmgpmknadhjaaHoFar
namespace Go.Proofs.Ytjkmgpmknadhjaa
set_option linter.unusedVariables false
open Go.RowKit
open Go.ChangeMaps (setBlock)

theorem mark_none {S : List Ho} {x : ByteArray} (h : getS x S = none) (up : Bool) : markP S x up = (S, false) := by unfold markP; rw [h]
theorem mark_same {S : List Ho} {x : ByteArray} {o : Ho} (h : getS x S = some o) : markP S x o.up = (S, false) := by unfold markP; rw [h]; simp
theorem mark_new {S : List Ho} {x : ByteArray} {o : Ho} (h : getS x S = some o) {up : Bool} (hu : o.up ≠ up) : markP S x up = (S.map (setUp x up), true) := by
  unfold markP
  rw [h]
  simp only []
  rw [if_neg hu]; rfl
/-- Whether a host is there, and whether the mark is new. -/
theorem mark_told (S : List Ho) (x : ByteArray) (up : Bool) : (markP S x up).2 = match getS x S with | none => false | some o => decide (o.up ≠ up) := by
  cases h : getS x S with
  | none => rw [mark_none h]
  | some o =>
    by_cases hu : o.up = up
    · subst hu; rw [mark_same h]; simp
    · rw [mark_new h hu]; simp [hu]
/-- Behind a mark it is so marked. -/
theorem mark_is (S : List Ho) (x : ByteArray) (up : Bool) : ∀ o, getS x (markP S x up).1 = some o → o.up = up := by
  intro o ho
  cases h : getS x S with
  | none => rw [mark_none h] at ho; rw [h] at ho; cases ho
  | some q =>
    by_cases hu : q.up = up
    · subst hu
      rw [mark_same h] at ho
      rw [h] at ho; cases ho; rfl
    · rw [mark_new h hu] at ho
      rw [mark_get, h] at ho
      simp only [Option.map_some, Option.some.injEq] at ho
      subst ho
      unfold setUp
      rw [if_pos (getS_name h)]
theorem mark_has (S : List Ho) (x : ByteArray) (up : Bool) : (getS x (markP S x up).1).isSome = (getS x S).isSome := by
  cases h : getS x S with
  | none => rw [mark_none h]; rw [h]
  | some q =>
    by_cases hu : q.up = up
    · subst hu; rw [mark_same h]; rw [h]
    · rw [mark_new h hu]
      simp only []
      rw [mark_get, h]; rfl
/-- Behind a refresh it is marked as it was. -/
theorem ref_up {S : List Ho} {l : List Ho} {x : ByteArray} {o q : Ho} (h : getS x (refNow (viewS S) l) = some o) (hq : getS x S = some q) : o.up = q.up := by
  rw [(refNow_spec (viewS S) l).2] at h
  have h2 := refr_name h
  unfold refr at h
  rw [if_neg h2.2] at h
  obtain ⟨a, ha, rfl⟩ := Option.map_eq_some_iff.1 h
  have e : viewS S a.name = some q := by
    have : a.name = x := getS_name ha
    unfold viewS; rw [this]; exact hq
  show (match viewS S a.name with | some o => o.up | none => a.up) = q.up
  rw [e]
def seenN (S : List Ho) (x : ByteArray) (i : Nat) : Bool := (S.take i).any fun o => decide (o.name = x)
theorem seenN_succ {S : List Ho} {i : Nat} {o : Ho} (h : S[i]? = some o) (x : ByteArray) : seenN S x (i + 1) = (seenN S x i || decide (o.name = x)) := by
  unfold seenN
  rw [List.take_add_one, h, List.any_append]; simp
theorem seenN_all {S : List Ho} {n : Nat} (h : S.length = n) (x : ByteArray) : seenN S x n = (getS x S).isSome := by
  unfold seenN getS
  rw [List.take_of_length_le (by omega), Bool.eq_iff_iff, List.any_eq_true, List.find?_isSome]
theorem mark_two (S : List Ho) (x : ByteArray) (up : Bool) : (markP (markP S x up).1 x up).2 = false := by
  rw [mark_told]
  cases h : getS x (markP S x up).1 with
  | none => rfl
  | some o =>
    have := mark_is S x up o h
    simp [this]
theorem mark_twoS (S : List Ho) (x : ByteArray) (up : Bool) : (markP (markP S x up).1 x up).1 = (markP S x up).1 := by
  cases h : getS x (markP S x up).1 with
  | none => rw [mark_none h]
  | some o =>
    have := mark_is S x up o h
    subst this
    rw [mark_same h]

set_option maxHeartbeats 8000000 in
set_option maxRecDepth 100000 in
theorem Marks_walk (A : Option Addr) (n c : Nat) (A' : Option Addr) (n' c' : Nat) (nm : ByteArray) (mk : Bool) (l l' : List HV) (w : World) (hl : l.length = n) (hs : Lo w w.heap.size 5 (.slice A n c) n (l.flatMap hvC)) (ht : ∀ x ∈ l, HoIn w x)
    (hl' : l'.length = n') (hs' : Lo w w.heap.size 5 (.slice A' n' c') n' (l'.flatMap hvC)) (ht' : ∀ x ∈ l', HoIn w x) :
    Calls Try.prog 4 #[.slice A n c, .slice A' n' c', .string nm, .bool mk] w fun e w' => e = .returned (.bool true) ∧ Kept noBlock w w' := by
  have HS := Lib.hid hs
  have HT := Lib.hid ht
  have HL := Lib.hid hl
  have HS' := Lib.hid hs'
  have HT' := Lib.hid ht'
  have HL' := Lib.hid hl'
  have tnle : ∀ l : List HV, (∀ x ∈ l, HoIn w x) → ∀ x ∈ l, x.toks.length = x.tn ∧ x.tn ≤ 9223372036854775807 := fun l ht x hx => ⟨(ht x hx).1, by
    obtain ⟨_, _, hv, h1, h2⟩ := (ht x hx).2.shape
    cases hv; unfold maxLen at h2; omega⟩
  have HTN := Lib.hid (tnle l ht)
  have HTN' := Lib.hid (tnle l' ht')
  clear hs ht hl hs' ht' hl' tnle
  go_enter Try.func4, Try.ntmps4
  go_wp2_with fail
  go_at_call 7
  refine (hoaw_at _).mono ?_
  rintro e w1 ⟨rfl, hk1⟩
  have HK1 := Lib.hid hk1
  have HS1 := Lib.hid (SlK.keptNone HS.out hk1)
  have HS1' := Lib.hid (SlK.keptNone HS'.out hk1)
  clear hk1
  go_wp2_with fail
  go_at_call 8
  refine (hcrowd_at HS1.out HL.out HTN.out).mono ?_
  rintro e w2 ⟨rfl, rfl⟩
  go_wp2_with fail
  go_at_call 8
  refine (hcrowd_at HS1'.out HL'.out HTN'.out).mono ?_
  rintro e w2' ⟨rfl, rfl⟩
  cases hcr : crowdB l with
  | false =>
    clear hcr
    go_wp2
    go_ret
    exact ⟨rfl, HK1.out⟩
  | true =>
  cases hcr' : crowdB l' with
  | false =>
    clear hcr hcr'
    go_wp2
    go_ret
    exact ⟨rfl, HK1.out⟩
  | true =>
    obtain ⟨hc1, hc2⟩ := crowdB_true hcr
    obtain ⟨hc1', hc2'⟩ := crowdB_true hcr'
    have HC1 : Hid (n ≤ 20) := Lib.hid (by have := HL.out; omega)
    have HC2 := Lib.hid hc2
    have HC1' : Hid (n' ≤ 20) := Lib.hid (by have := HL'.out; omega)
    have HC2' := Lib.hid hc2'
    clear hcr hc1 hc2 hcr' hc1' hc2'
    go_wp2_with fail
    go_at_call 9
    refine (hNew_tab _ _ w2').mono ?_
    rintro e w3 ⟨g, own, rfl, hT3, ho3, hk3⟩
    have HT3 := Lib.hid hT3
    have HK3 := Lib.hid (HK1.out.trans hk3 fun _ _ e => e)
    have HO3 := Lib.hid (fun k h => Nat.le_trans HK1.out.size (ho3 k h).1)
    have HS3 := Lib.hid (SlK.keptNone HS1.out hk3)
    clear hT3 ho3 hk3 HS1 HS1' HK1
    go_wp2_with fail
    go_at_call 10
    refine (hRefresh_tab (l := l) HT3.out (by decide) HS3.out.lo HL.out (by have := HC1.out; omega) fun x hx => ⟨by have := HC2.out x hx; omega, (SlK.keptNone (HT.out x hx).2 HK3.out).lo⟩).mono ?_
    rintro e w4 ⟨A1, n1, c1, A2, n2, c2, rfl, -, -, -, -, hT4, hk4⟩
    have hok : HoOk (refNow (viewS []) (l.map HV.abs)) 20 20 := refNow_ok (by rw [List.length_map, HL.out]; exact HC1.out) fun o ho => by
      obtain ⟨x, hx, rfl⟩ := List.mem_map.1 ho
      exact HC2.out x hx
    have HK4 := Lib.hid (HK3.out.grew hk4 HO3.out)
    have HO4 := Lib.hid (ownI_ge (w' := w4) HO3.out HK3.out.size)
    generalize refNow (viewS []) (l.map HV.abs) = S at *
    generalize ownI w4 w3.heap.size own = own4 at *
    have HOK := Lib.hid hok
    have HT4 := Lib.hid hT4
    clear hok hT4 hk4 HK3 HT3 HS3 HC2 HT HTN HS HO3
    go_wp2_with fail
    go_at_call 11
    refine (hAll_told HT4.out (Nat.le_trans HOK.out.len (by decide)) fun o ho => Nat.le_trans (HOK.out.tk o ho) (by decide)).mono ?_
    rintro e w5 ⟨A5, n5, c5, T, rfl, hto, hk5⟩
    have hSn := hto.slen
    have hn5 : n5 ≤ 20 := by have := HOK.out.len; omega
    have hlen := (Sl.of_own hto.row).run_len hostsT
    have HTO := Lib.hid hto
    have HSN := Lib.hid hSn
    have HK5 := Lib.hid (HK4.out.trans hk5 fun _ _ e => e)
    have HT5 := Lib.hid (HT4.out.kept hk5 fun _ _ e => e)
    have HLT := Lib.hid HT4.out.lt
    clear hto hSn hk5 HK4 HT4
    go_wp2_with fail
    go_at_call 13
    refine (hMark_at HT5.out nm mk).mono ?_
    rintro e w6 ⟨rfl, hT6, hk6⟩
    have HT6 := Lib.hid hT6
    have HK6 := Lib.hid (HK5.out.grew hk6 HO4.out)
    have HTO6 := Lib.hid (HTO.out.kept hk6 fun k h e => by have := HLT.out k e; omega)
    clear hT6 hk6
    go_wp2_with fail
    go_at_call 13
    refine (hMark_at HT6.out nm mk).mono ?_
    rw [mark_two, mark_twoS]
    rintro e w7 ⟨rfl, hT7, hk7⟩
    have HT7 := Lib.hid hT7
    have HK7 := Lib.hid (HK6.out.grew hk7 HO4.out)
    have HTO7 := Lib.hid (HTO6.out.kept hk7 fun k h e => by have := HLT.out k e; omega)
    have HPV := Lib.hid (mark_told S nm mk)
    generalize (markP S nm mk).2 = pv at *
    clear hT7 hk7 HT6 HTO6 HT5 HTO HK6
    go_wp2_with fail
    go_loopg [16, 17] n5 (fun j vt vi wr => ∃ i : Nat, i + j = n5 ∧ vi = .int .i64 i ∧ vt = .bool (seenN S nm i) ∧ wr = w7)
    case atStart => exact ⟨0, by omega, rfl, rfl, rfl⟩
    case round =>
      obtain ⟨i, hij, rfl, rfl, rfl⟩ := hrel
      have HIJ := Lib.hid hij
      by_cases hi : i < n5
      · obtain ⟨o, ho⟩ : ∃ o, S[i]? = some o := ⟨_, List.getElem?_eq_getElem (by have := HSN.out; omega)⟩
        obtain ⟨x, gr, off, -, -, hidx, y0, -, -, -, y4⟩ := HTO7.out.at ho
        have hsu := seenN_succ ho nm
        have hg := getS_at HOK.out.ris ho
        by_cases hn : o.name = nm
        · have hb : (o.name.toList == nm.toList) = true := by rw [hn]; exact strEq_self _
          have hsu2 : seenN S nm (i + 1) = true := by rw [hsu, decide_eq_true hn, Bool.or_true]
          rw [hn] at hg
          have hpv : pv = decide (o.up ≠ mk) := by rw [HPV.out, hg]
          have HSU := Lib.hid hsu2
          clear hsu hsu2 hg hn hij ho
          generalize o.up = ou at *
          cases ou <;> cases mk <;> (have hpv2 := hpv; simp at hpv2; subst hpv2; clear hpv)
          all_goals
            go_wp2_with fail
            go_roundg (n5 - (i + 1))
            case measure => have := HIJ.out; omega
            case rel => exact ⟨i + 1, by have := HIJ.out; omega, by go_num, by rw [HSU.out], rfl⟩
        · have hb : (o.name.toList == nm.toList) = false := strEq_ne hn
          have hsu2 : seenN S nm (i + 1) = seenN S nm i := by rw [hsu, decide_eq_false hn, Bool.or_false]
          have HSU := Lib.hid hsu2
          clear hsu hsu2 hg hn hij ho
          go_wp2_with fail
          go_roundg (n5 - (i + 1))
          case measure => have := HIJ.out; omega
          case rel => exact ⟨i + 1, by have := HIJ.out; omega, by go_num, by rw [HSU.out], rfl⟩
      · obtain rfl : i = n5 := by omega
        have hth := seenN_all HSN.out nm
        have HMH := Lib.hid (mark_has S nm mk)
        have HMI := Lib.hid (mark_is S nm mk)
        have hpv : (getS nm S).isSome = false → pv = false := fun h => by
          have := HPV.out
          cases hg : getS nm S with
          | none => rw [hg] at this; exact this
          | some o => rw [hg] at h; cases h
        have HOM := Lib.hid (HOK.out.mark nm mk)
        rw [hth]
        generalize (getS nm S).isSome = th at *
        have HPV2 := Lib.hid hpv
        generalize (markP S nm mk).1 = S1 at *
        clear hth hpv hij
        have HS7 := Lib.hid (SlK.keptNone HS'.out HK7.out)
        clear HTO7 hlen
        cases th with
        | false =>
          obtain rfl : pv = false := HPV2.out rfl
          go_wp2_with fail
          go_at_call 10
          refine (hRefresh_tab (l := l') HT7.out (Nat.le_trans HOM.out.len (by decide)) HS7.out.lo HL'.out (by have := HC1'.out; omega) fun x hx => ⟨by have := HC2'.out x hx; omega, (SlK.keptNone (HT'.out x hx).2 HK7.out).lo⟩).mono ?_
          rintro e w8 ⟨A3, n3, c3, A4, n4, c4, rfl, -, -, -, -, hT8, hk8⟩
          have hok : HoOk (refNow (viewS S1) (l'.map HV.abs)) 20 20 := refNow_ok (by rw [List.length_map, HL'.out]; exact HC1'.out) fun o ho => by
            obtain ⟨x, hx, rfl⟩ := List.mem_map.1 ho
            exact HC2'.out x hx
          have HK8 := Lib.hid (HK7.out.grew hk8 HO4.out)
          have HRU : Hid (∀ o, getS nm (refNow (viewS S1) (l'.map HV.abs)) = some o → (getS nm S1).isSome = true → o.up = mk) := Lib.hid fun o ho h => by
            cases hg : getS nm S1 with
            | none => rw [hg] at h; cases h
            | some q => rw [ref_up ho hg]; exact HMI.out q hg
          generalize refNow (viewS S1) (l'.map HV.abs) = S2 at *
          have HOK2 := Lib.hid hok
          have HT8 := Lib.hid hT8
          clear hok hT8 hk8 HT7 HS7 HC2' HT' HTN' HS'
          go_wp2_with fail
          go_at_call 11
          refine (hAll_told HT8.out (Nat.le_trans HOK2.out.len (by decide)) fun o ho => Nat.le_trans (HOK2.out.tk o ho) (by decide)).mono ?_
          rintro e w9 ⟨A9, n9, c9, T9, rfl, hto, hk9⟩
          have hSn := hto.slen
          have hn9 : n9 ≤ 20 := by have := HOK2.out.len; omega
          have hlen := (Sl.of_own hto.row).run_len hostsT
          have HTO := Lib.hid hto
          have HSN9 := Lib.hid hSn
          have HK9 := Lib.hid (HK8.out.trans hk9 fun _ _ e => e)
          clear hto hSn hk9 HK8 HT8
          go_wp2_with fail
          go_loopg [19] n9 (fun j vi wr => ∃ i : Nat, i + j = n9 ∧ vi = .int .i64 i ∧ wr = w9)
          case atStart => exact ⟨0, by omega, rfl, rfl⟩
          case round =>
            obtain ⟨i, hij, rfl, rfl⟩ := hrel
            have HIJ := Lib.hid hij
            by_cases hi : i < n9
            · clear hij
              go_wp2_with fail
              go_roundg (n9 - (i + 1))
              case measure => have := HIJ.out; omega
              case rel => exact ⟨i + 1, by have := HIJ.out; omega, by go_num, rfl⟩
            · clear hij
              go_wp2_with fail
              go_ret
              exact ⟨rfl, HK9.out⟩
        | true =>
          go_wp2_with fail
          go_at_call 10
          refine (hRefresh_tab (l := l') HT7.out (Nat.le_trans HOM.out.len (by decide)) HS7.out.lo HL'.out (by have := HC1'.out; omega) fun x hx => ⟨by have := HC2'.out x hx; omega, (SlK.keptNone (HT'.out x hx).2 HK7.out).lo⟩).mono ?_
          rintro e w8 ⟨A3, n3, c3, A4, n4, c4, rfl, -, -, -, -, hT8, hk8⟩
          have hok : HoOk (refNow (viewS S1) (l'.map HV.abs)) 20 20 := refNow_ok (by rw [List.length_map, HL'.out]; exact HC1'.out) fun o ho => by
            obtain ⟨x, hx, rfl⟩ := List.mem_map.1 ho
            exact HC2'.out x hx
          have HK8 := Lib.hid (HK7.out.grew hk8 HO4.out)
          have HRU : Hid (∀ o, getS nm (refNow (viewS S1) (l'.map HV.abs)) = some o → (getS nm S1).isSome = true → o.up = mk) := Lib.hid fun o ho h => by
            cases hg : getS nm S1 with
            | none => rw [hg] at h; cases h
            | some q => rw [ref_up ho hg]; exact HMI.out q hg
          generalize refNow (viewS S1) (l'.map HV.abs) = S2 at *
          have HOK2 := Lib.hid hok
          have HT8 := Lib.hid hT8
          clear hok hT8 hk8 HT7 HS7 HC2' HT' HTN' HS'
          go_wp2_with fail
          go_at_call 11
          refine (hAll_told HT8.out (Nat.le_trans HOK2.out.len (by decide)) fun o ho => Nat.le_trans (HOK2.out.tk o ho) (by decide)).mono ?_
          rintro e w9 ⟨A9, n9, c9, T9, rfl, hto, hk9⟩
          have hSn := hto.slen
          have hn9 : n9 ≤ 20 := by have := HOK2.out.len; omega
          have hlen := (Sl.of_own hto.row).run_len hostsT
          have HTO := Lib.hid hto
          have HSN9 := Lib.hid hSn
          have HK9 := Lib.hid (HK8.out.trans hk9 fun _ _ e => e)
          clear hto hSn hk9 HK8 HT8
          go_wp2_with fail
          go_loopg [19] n9 (fun j vi wr => ∃ i : Nat, i + j = n9 ∧ vi = .int .i64 i ∧ wr = w9)
          case atStart => exact ⟨0, by omega, rfl, rfl⟩
          case round =>
            obtain ⟨i, hij, rfl, rfl⟩ := hrel
            have HIJ := Lib.hid hij
            by_cases hi : i < n9
            · obtain ⟨o, ho⟩ : ∃ o, S2[i]? = some o := ⟨_, List.getElem?_eq_getElem (by have := HSN9.out; omega)⟩
              obtain ⟨x, gr, off, -, -, hidx, y0, -, -, -, y4⟩ := HTO.out.at ho
              have hg := getS_at HOK2.out.ris ho
              by_cases hn : o.name = nm
              · have hb : (o.name.toList == nm.toList) = true := by rw [hn]; exact strEq_self _
                rw [hn] at hg
                have hup : o.up = mk := HRU.out o hg HMH.out
                rw [hup] at y4
                have hbb : (mk != mk) = false := by cases mk <;> rfl
                clear hij ho hg hn hup
                go_wp2_with fail
                go_roundg (n9 - (i + 1))
                case measure => have := HIJ.out; omega
                case rel => exact ⟨i + 1, by have := HIJ.out; omega, by go_num, rfl⟩
              · have hb : (o.name.toList == nm.toList) = false := strEq_ne hn
                clear hij ho hg hn
                go_wp2_with fail
                go_roundg (n9 - (i + 1))
                case measure => have := HIJ.out; omega
                case rel => exact ⟨i + 1, by have := HIJ.out; omega, by go_num, rfl⟩
            · clear hij
              go_wp2_with fail
              go_ret
              exact ⟨rfl, HK9.out⟩
end Go.Proofs.Ytjkmgpmknadhjaa

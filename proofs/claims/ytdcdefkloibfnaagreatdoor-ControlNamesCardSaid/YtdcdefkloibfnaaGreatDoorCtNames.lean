/- ControlNames: addresses have different names; a name has just digits and dots, or digits by 16. -/
import Derived.Test.YtdcdefkloibfnaaGreatDoorMg08
import Derived.Deep.DeepCutAuto
namespace Go.Proofs.YtdcdefkloibfnaaGreatDoor
set_option linter.unusedVariables false
open Go.RowKit

set_option maxHeartbeats 1000000 in
set_option maxRecDepth 100000 in
theorem f4or16_at (l : List UInt8) (n : Nat) (hn : l.length = n) (w : World) : Calls Tryz.prog 17 #[.int .i64 n] w fun e w' => e = .returned (.bool (fineA l)) ∧ w' = w := by
  subst hn
  by_cases h4 : l.length = 4
  · have hf : fineA l = true := by unfold fineA; rw [decide_eq_true h4]; rfl
    rw [hf, h4]
    go_enter Tryz.func17, Tryz.ntmps17
    go_wp2
    go_ret
    exact ⟨rfl, rfl⟩
  · have e4 : (((l.length : Nat) : Int) == 4) = false := by rw [beq_eq_false_iff_ne]; omega
    by_cases h16 : l.length = 16
    · have hf : fineA l = true := by unfold fineA; rw [decide_eq_true h16]; simp
      rw [hf, h16]
      go_enter Tryz.func17, Tryz.ntmps17
      go_wp2
      go_ret
      exact ⟨rfl, rfl⟩
    · have e16 : (((l.length : Nat) : Int) == 16) = false := by rw [beq_eq_false_iff_ne]; omega
      have hf : fineA l = false := by unfold fineA; rw [decide_eq_false h4, decide_eq_false h16]; rfl
      rw [hf]
      go_enter Tryz.func17, Tryz.ntmps17
      go_wp2
      go_ret
      exact ⟨rfl, rfl⟩
theorem emp_fine (l : List UInt8) : (bS (nameP l)).toList.isEmpty = !fineA l := by
  have h := (name_law l).empty
  cases hf : fineA l with
  | false => rw [h.2 hf]; exact emp_nil
  | true => exact emp_ne fun e => by rw [h.1 e] at hf; cases hf
theorem bS_eq {l m : List UInt8} : bS l = bS m ↔ l = m := ⟨fun e => congrArg (fun b : ByteArray => b.data.toList) e, fun e => by rw [e]⟩
theorem same_names {l m : List UInt8} (hl : fineA l = true) (hm : fineA m = true) : ((bS (nameP l)).toList == (bS (nameP m)).toList) = ((bS l).toList == (bS m).toList) := by
  by_cases e : l = m
  · subst e; rw [strEq_self, strEq_self]
  · rw [strEq_ne fun h => e (bS_eq.1 h), strEq_ne fun h => e ((name_inj hl hm).1 (bS_eq.1 h))]
theorem dots_step {l : List UInt8} {i : Nat} {c : UInt8} (h : l[i]? = some c) : dotsN (l.take (i + 1)) = dotsN (l.take i) + (if c = 46 then 1 else 0) := by
  rw [List.take_add_one, h, dots_app]
  congr 1
  unfold dotsN
  by_cases e : c = 46
  · subst e; rfl
  · simp [e]
set_option maxHeartbeats 8000000 in
set_option maxRecDepth 100000 in
theorem Names_walk {w : World} {ok ok2 : Nat → TypeId → Prop} {A A2 : Option Addr} {n c m c2 : Nat} {l r : List UInt8} (ha : SlK w ok 1 (.slice A n c) n (bsC l)) (hb : SlK w ok2 1 (.slice A2 m c2) m (bsC r)) (hd : Doors w) :
    Calls Tryz.prog 4 #[.slice A n c, .slice A2 m c2] w fun e w' => e = .returned (.bool true) ∧ Kept noBlock w w' := by
  have hln : l.length = n := by have := ha.len; rw [bsC_len] at this; omega
  have hlm : r.length = m := by have := hb.len; rw [bsC_len] at this; omega
  have hlen1 := ha.run_len bytesT
  have hlen2 := hb.run_len bytesT
  have HA := Lib.hid ha
  have HB := Lib.hid hb
  have HD := Lib.hid hd
  have HAW := Lib.hid (aw23_at w hd)
  clear ha hb hd
  go_enter Tryz.func4, Tryz.ntmps4
  go_wp2_with fail
  go_at_call 8
  refine HAW.out.mono ?_
  rintro e w1 ⟨rfl, hk1⟩
  have HK1 := Lib.hid hk1
  clear hk1 HAW
  by_cases hn : 40 < n
  · go_wp2
    go_ret
    exact ⟨rfl, HK1.out⟩
  by_cases hm : 40 < m
  · go_wp2
    go_ret
    exact ⟨rfl, HK1.out⟩
  go_wp2_with fail
  go_at_call 15
  refine (cName_at (SlK.keptNone HA.out HK1.out) (HD.out.keptN HK1.out)).mono ?_
  rintro e w2 ⟨rfl, hk2⟩
  have HK2 := Lib.hid (HK1.out.trans hk2 fun _ _ e => e)
  clear hk2 HK1
  go_wp2_with fail
  go_at_call 15
  refine (cName_at (SlK.keptNone HB.out HK2.out) (HD.out.keptN HK2.out)).mono ?_
  rintro e w3 ⟨rfl, hk3⟩
  have HK3 := Lib.hid (HK2.out.trans hk3 fun _ _ e => e)
  clear hk3 HK2
  go_wp2_with fail
  go_at_call 17
  refine (f4or16_at l n hln _).mono ?_
  rintro e w4 ⟨rfl, hw4⟩
  subst hw4
  have hs1 := bytes_str (SlK.keptNone HA.out HK3.out)
  have hs2 := bytes_str (SlK.keptNone HB.out HK3.out)
  have hemp := emp_fine l
  have HF := Lib.hid (f4or16_at r m hlm w4)
  have HLAW := Lib.hid (name_law l)
  have HSAME : Hid (fineA l = true → fineA r = true → ((bS (nameP l)).toList == (bS (nameP r)).toList) = ((bS l).toList == (bS r).toList)) := Lib.hid same_names
  have HLN := Lib.hid hln
  clear hln hlm
  generalize hfl : fineA l = fl at *
  have HFL := Lib.hid hfl
  clear hfl
  have hlenx : ((bS (nameP l)).size : Int) = ((nameP l).length : Int) := rfl
  generalize hnm : nameP l = nm at *
  have HNM := Lib.hid hnm
  clear hnm
  go_upto_region 9 with (fail)
  go_cut [52] (fun s52 wx => s52 = .bool false ∧ wx = w4)
  case first =>
    cases fl with
    | false =>
      go_wp2
      go_meet
      exact ⟨rfl, rfl⟩
    | true =>
      generalize hfr : fineA r = fr at *
      cases fr with
      | false =>
        go_wp2_with fail
        go_at_call 17
        refine HF.out.mono ?_
        rintro e w5 ⟨rfl, hw5⟩
        subst hw5
        go_wp2
        go_meet
        exact ⟨rfl, rfl⟩
      | true =>
        have hsm := HSAME.out rfl rfl
        obtain ⟨bb, hbb⟩ : ∃ bb, ((bS l).toList == (bS r).toList) = bb := ⟨_, rfl⟩
        rw [hbb] at hsm
        go_wp2_with fail
        go_at_call 17
        refine HF.out.mono ?_
        rintro e w5 ⟨rfl, hw5⟩
        subst hw5
        cases bb <;> (go_wp2; go_meet; exact ⟨rfl, rfl⟩)
  case rest =>
    obtain ⟨rfl, rfl⟩ := hcut
    go_wp2_with fail
    have HNL : Hid (nm.length ≤ 40) := Lib.hid (by
      rcases HLAW.out.ends with ⟨h1, h2, h3, h4⟩ | ⟨h1, h2, h3⟩ | h1
      · rw [HNM.out] at h4; omega
      · rw [HNM.out] at h3; omega
      · have := HLAW.out.empty.2 h1; rw [HNM.out] at this; rw [this]; simp)
    go_loopg [9, 10] nm.length (fun j vd vi wr => ∃ i : Nat, i + j = nm.length ∧ vi = .int .i64 i ∧ vd = .int .i64 (dotsN (nm.take i) : Nat) ∧ wr = wc)
    case atStart => exact ⟨0, by omega, rfl, rfl, rfl⟩
    case round =>
      obtain ⟨i, hij, rfl, rfl, hw⟩ := hrel
      subst hw
      have HIJ := Lib.hid hij
      clear hij
      have hnl := HNL.out
      by_cases hlt : i < nm.length
      · obtain ⟨x, hx⟩ : ∃ x, nm[i]? = some x := ⟨_, List.getElem?_eq_getElem hlt⟩
        have hst := dots_step hx
        have hdl : dotsN (nm.take i) ≤ i := Nat.le_trans (List.length_filter_le _ _) (by rw [List.length_take]; omega)
        have hch := HLAW.out.chars x (by rw [HNM.out]; exact List.mem_of_getElem? hx)
        have hq : ∀ w', (Instr.index 9 (.string (bS nm)) (.int .i64 (i : Int))).run Tryz.prog w' = .ok (.int .u8 (x.toNat : Int)) w' := fun w' => by
          have hsz : (bS nm).size = nm.length := rfl
          rw [run_index_string w' 9 (bS nm) .i64 (i : Int) Tryz.underlying9, dif_pos ⟨by omega, by omega⟩]
          have he : (bS nm)[((i : Int)).toNat]'(by omega) = x := by
            have := (List.getElem?_eq_some_iff.1 hx).2
            rw [← this]; rfl
          rw [he]
        have hc46 : x = 46 ↔ (x.toNat : Int) = 46 := ⟨fun e => by rw [e]; rfl, fun e => UInt8.toNat_inj.1 (show x.toNat = 46 by omega)⟩
        have hci : (x.toNat : Int) = 46 ∨ (48 ≤ (x.toNat : Int) ∧ (x.toNat : Int) ≤ 57) ∨ (97 ≤ (x.toNat : Int) ∧ (x.toNat : Int) ≤ 102) := by
          rcases hch with h | h | h
          · exact .inl (hc46.1 h)
          · exact .inr (.inl (by omega))
          · exact .inr (.inr (by omega))
        have HNX : Hid (((x.toNat : Int) = 46 → dotsN (nm.take (i + 1)) = dotsN (nm.take i) + 1) ∧ ((x.toNat : Int) ≠ 46 → dotsN (nm.take (i + 1)) = dotsN (nm.take i))) := Lib.hid ⟨fun e => by rw [hst, if_pos (hc46.2 e)], fun e => by rw [hst, if_neg fun h => e (hc46.1 h)]; rfl⟩
        clear hst hch hc46 hx
        generalize (x.toNat : Int) = ci at *
        generalize dotsN (nm.take i) = dn at *
        rcases hci with h46 | ⟨hc1, hc2⟩ | ⟨hc1, hc2⟩
        · subst h46
          have hd1 := HNX.out.1 rfl
          have HD1 := Lib.hid hd1
          clear hd1
          go_wp2_with fail
          go_roundg (nm.length - (i + 1))
          case measure => have := HIJ.out; omega
          case rel => exact ⟨i + 1, by omega, by go_num, by rw [HD1.out]; go_num, rfl⟩
        · have HD1 := Lib.hid (HNX.out.2 (by omega))
          have hne : (ci == 46) = false := by rw [beq_eq_false_iff_ne]; omega
          go_wp2_with fail
          go_roundg (nm.length - (i + 1))
          case measure => have := HIJ.out; omega
          case rel => exact ⟨i + 1, by omega, by go_num, by rw [HD1.out], rfl⟩
        · have HD1 := Lib.hid (HNX.out.2 (by omega))
          have hne : (ci == 46) = false := by rw [beq_eq_false_iff_ne]; omega
          go_wp2_with fail
          go_roundg (nm.length - (i + 1))
          case measure => have := HIJ.out; omega
          case rel => exact ⟨i + 1, by omega, by go_num, by rw [HD1.out], rfl⟩
      · obtain rfl : i = nm.length := by have := HIJ.out; omega
        rw [List.take_length]
        have hends := HLAW.out.ends
        rw [HNM.out, HFL.out, HLN.out] at hends
        clear hlt
        rcases hends with ⟨h1, h2, h3, h4⟩ | ⟨h1, h2, h3⟩ | h1
        · subst h1
          rw [h2]
          generalize hz : nm.length = z at *
          go_wp2
          go_ret
          exact ⟨rfl, HK3.out⟩
        · subst h1
          rw [h2]
          generalize hz : nm.length = z at *
          go_wp2
          go_ret
          exact ⟨rfl, HK3.out⟩
        · subst h1
          have e4 : (((n : Nat) : Int) == 4) = false := by
            rw [beq_eq_false_iff_ne]; intro e
            have h2 := HFL.out
            unfold fineA at h2
            rw [decide_eq_true (show l.length = 4 by rw [HLN.out]; omega)] at h2; cases h2
          have e16 : (((n : Nat) : Int) == 16) = false := by
            rw [beq_eq_false_iff_ne]; intro e
            have h2 := HFL.out
            unfold fineA at h2
            rw [decide_eq_true (show l.length = 16 by rw [HLN.out]; omega)] at h2
            simp at h2
          go_wp2
          go_ret
          exact ⟨rfl, HK3.out⟩
end Go.Proofs.YtdcdefkloibfnaaGreatDoor

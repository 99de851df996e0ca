/- ControlAsks: however many notes come, it is asked once each wait at most. -/
import Derived.Test.YtdcdefkloibfnaaGreatDoorMg08
namespace Go.Proofs.YtdcdefkloibfnaaGreatDoor
set_option linter.unusedVariables false
open Go.RowKit

abbrev noN : NV := ⟨⟨#[]⟩, ⟨#[]⟩, none, 0, 0, [], 0, ⟨#[]⟩, ⟨#[]⟩, ⟨#[]⟩, ⟨#[]⟩, none, 0, 0⟩
theorem topo_note (S : List Ho) (wait : Int) (asks : Bool) (at_ now : Int) : noteP S wait asks at_ nTopo now = ⟨S, true, if asks = true then at_ else laterP now wait, noStr, false, false⟩ := by
  unfold noteP
  rw [if_neg (by decide), if_pos (.inl rfl)]
  cases asks
  · rw [if_neg (by decide), if_neg (by decide)]
  · rw [if_pos rfl, if_pos rfl]
theorem u16sT : SlT Tryz.prog 77 76 (.int .u16 0) 1 2 := ⟨Tryz.underlying77, by kernel_rfl, rfl, by decide, by decide⟩
def uC (l : List Nat) : List Value := l.map fun (b : Nat) => Value.int .u16 (b : Int)
theorem u16_at {w : World} {ok : Nat → TypeId → Prop} {v : Value} {l : List Nat} {n : Nat} (h : SlK w ok 1 v n (uC l)) {i : Nat} {c : Nat} (hi : l[i]? = some c) :
    ∃ g off, (∀ kd w', (Instr.indexAt 77 v (.int kd (i : Int))).run Tryz.prog w' = .ok (.pointer (some ⟨g, off, none⟩)) w') ∧ g < w.heap.size ∧ w.cell? ⟨g, off, none⟩ = some (.int .u16 c) := by
  have hlt : i < n := by
    have h1 := (List.getElem?_eq_some_iff.1 hi).1
    have h2 := h.len
    unfold uC at h2
    rw [List.length_map] at h2
    omega
  obtain ⟨g, off, h1, h2, h4, h3⟩ := h.run_index u16sT (i := (i : Int)) (k := i) rfl hlt
  refine ⟨g, off, h1, h2, h3 0 _ ?_⟩
  rw [Nat.mul_one, Nat.add_zero]
  unfold uC
  rw [List.getElem?_map, hi]; rfl
/-- What the loop over the spans has. -/
def AskInv (w : World) (c g : Nat) (own : Nat → Prop) (n N j : Nat) (vn vf va vi : Value) (wr : World) : Prop :=
  ∃ (i now first : Nat) (asks : Bool) (at_ : Int), i + j = N ∧ vi = .int .i64 i ∧ vn = .int .u64 now ∧ vf = .int .u64 first ∧ va = .bool asks ∧ i ≤ 50 ∧ now ≤ 65535 * i ∧ first ≤ now ∧ (asks = true → at_ = (first : Int) + n) ∧
    CtAt wr own c g ⟨#[100]⟩ 0 [] n asks at_ ∧ Kept noBlock w wr
set_option maxHeartbeats 8000000 in
set_option maxRecDepth 100000 in
theorem Asks_walk {w : World} {ok : Nat → TypeId → Prop} {A : Option Addr} {N c0 : Nat} {l : List Nat} (n : Nat) (hn : n < 65536) (ha : SlK w ok 1 (.slice A N c0) N (uC l)) (hl : ∀ x ∈ l, x < 65536) (hd : Doors w) :
    Calls Tryz.prog 6 #[.int .u16 n, .slice A N c0] w fun e w' => e = .returned (.bool true) ∧ Kept noBlock w w' := by
  have hll : l.length = N := by have := ha.len; unfold uC at this; rw [List.length_map] at this; omega
  have hlen1 := ha.run_len u16sT
  have HA := Lib.hid ha
  have HD := Lib.hid hd
  have HL := Lib.hid hl
  have HAW := Lib.hid (aw23_at w hd)
  clear ha hd hl
  go_enter Tryz.func6, Tryz.ntmps6
  go_wp2_with fail
  go_at_call 8
  refine HAW.out.mono ?_
  rintro e w1 ⟨rfl, hk1⟩
  have HK1 := Lib.hid hk1
  clear hk1 HAW
  go_wp2_with fail
  go_at_call 22
  refine (cRefreshN_at noT noT _).mono ?_
  rintro e w2 ⟨rfl, hk2⟩
  have HK2 := Lib.hid (HK1.out.trans hk2 fun _ _ e => e)
  clear hk2 HK1
  go_wp2_with fail
  go_at_call 23
  refine (cNoteN_at noN 0 _).mono ?_
  rintro e w3 ⟨rfl, hk3⟩
  have HK3 := Lib.hid (HK2.out.trans hk3 fun _ _ e => e)
  clear hk3 HK2
  go_wp2_with fail
  go_at_call 24
  refine (cAskN_at 0 _).mono ?_
  rintro e w4 ⟨⟨v4, rfl⟩, hw4⟩
  subst hw4
  have hemp : (noStr).toList.isEmpty = true := by decide +kernel
  go_wp2_with fail
  go_at_call 25
  refine (cDueN_at 9 _).mono ?_
  rintro e w5 ⟨rfl, hw5⟩
  subst hw5
  go_wp2_with fail
  go_at_call 20
  refine (cTableN_at _).mono ?_
  rintro e w6 ⟨rfl, hw6⟩
  subst hw6
  go_wp2_with fail
  go_at_call 21
  refine (hAllN_at _).mono ?_
  rintro e w7 ⟨rfl, hw7⟩
  subst hw7
  go_wp2_with fail
  go_at_call 18
  refine (cNew_at _ _ (n : Int) _).mono ?_
  rintro e w8 ⟨c, g, own, rfl, hc, hcl, hol, hk⟩
  have HC := Lib.hid hc
  have HK8 := Lib.hid (HK3.out.trans hk fun _ _ e => e)
  have HLOW : Hid (∀ k, own k ∨ k = c → w.heap.size ≤ k) := Lib.hid fun k e => Nat.le_trans HK3.out.size (e.elim (hol k) fun e => e ▸ hcl)
  clear hc hcl hol hk
  go_wp2_with fail
  go_loopg [14, 15, 16, 17] N (fun j vn vf va vi wr => AskInv w c g own n N j vn vf va vi wr)
  case atStart => exact ⟨0, 0, 0, false, 0, by omega, rfl, rfl, rfl, rfl, by omega, by omega, Nat.le_refl _, (fun h => by cases h), HC.out, HK8.out⟩
  case round =>
    obtain ⟨i, now, first, asks, at_, hij, rfl, rfl, rfl, rfl, hi50, hnow, hfn, hat, hc, hk⟩ := hrel
    have HIJ := Lib.hid hij
    have HAT := Lib.hid hat
    have HCC := Lib.hid hc
    have HKK := Lib.hid hk
    clear hij hat hc hk HC HK8
    by_cases hlt : i < N
    · by_cases h50 : i < 50
      · obtain ⟨x, hx⟩ : ∃ x, l[i]? = some x := ⟨_, List.getElem?_eq_getElem (by omega)⟩
        obtain ⟨gx, off, hidx, hgl, hc0⟩ := u16_at (SlK.keptNone HA.out HKK.out) hx
        have hx16 := HL.out x (List.mem_of_getElem? hx)
        clear hx
        cases asks with
        | false =>
          have HDU : Hid (dueB false at_ ((now : Int) + x) = false) := Lib.hid rfl
          go_wp2_with fail
          go_at_call 25
          refine (cDue_at HCC.out ((now : Int) + x)).mono ?_
          rw [HDU.out]
          rintro e w9 ⟨rfl, hc9, hk9⟩
          have HC9 : Hid (CtAt w9 own c g ⟨#[100]⟩ 0 [] n false at_) := Lib.hid hc9
          have HK9 := Lib.hid (HKK.out.grew hk9 fun k e => HLOW.out k (.inr e))
          clear hc9 hk9 HCC
          go_wp2_with fail
          go_at_call 23
          refine (cNote_at HC9.out ⟨by omega, by omega⟩ nTopo (SlK.nil w9 (fun _ _ => True) 1) (HD.out.keptN HK9.out) ((now : Int) + x) ⟨by omega, by omega⟩).mono ?_
          rw [topo_note]
          rintro e w10 ⟨rfl, hc10, hk10⟩
          have HK10 := Lib.hid (HK9.out.grew hk10 HLOW.out)
          have hlat : laterP ((now : Int) + x) n = ((now + x : Nat) : Int) + n := by unfold laterP; rw [if_pos (by omega)]; omega
          have FIN : Hid (AskInv w c g own n N (N - (i + 1)) (.int .u64 ((now + x : Nat) : Int)) (.int .u64 ((now + x : Nat) : Int)) (.bool true) (.int .i64 ((i + 1 : Nat) : Int)) w10) := Lib.hid ⟨i + 1, now + x, now + x, true, ((now + x : Nat) : Int) + n, by have := HIJ.out; omega, rfl, rfl, rfl, rfl, by omega, by omega, Nat.le_refl _, fun _ => rfl, (by rw [← hlat]; exact hc10), HK10.out⟩
          clear hlat
          clear hc10 hk10
          go_wp2_with fail
          go_roundg (N - (i + 1))
          case measure => have := HIJ.out; omega
          case rel => exact FIN.out
        | true =>
          have HAT1 : Hid (at_ = (first : Int) + n) := Lib.hid (HAT.out rfl)
          clear HAT
          by_cases hdue : first + n ≤ now + x
          · have hdue2 : (first : Int) + (n : Int) ≤ (now : Int) + (x : Int) := by omega
            have HDU : Hid (dueB true at_ ((now : Int) + x) = true) := Lib.hid (by have := HAT1.out; unfold dueB; rw [decide_eq_true (by omega)]; rfl)
            go_wp2_with fail
            go_at_call 25
            refine (cDue_at HCC.out ((now : Int) + x)).mono ?_
            rw [HDU.out]
            rintro e w9 ⟨rfl, hc9, hk9⟩
            have HC9 : Hid (CtAt w9 own c g ⟨#[100]⟩ 0 [] n false at_) := Lib.hid hc9
            have HK9 := Lib.hid (HKK.out.grew hk9 fun k e => HLOW.out k (.inr e))
            clear hc9 hk9 HCC
            go_wp2_with fail
            go_at_call 23
            refine (cNote_at HC9.out ⟨by omega, by omega⟩ nTopo (SlK.nil w9 (fun _ _ => True) 1) (HD.out.keptN HK9.out) ((now : Int) + x) ⟨by omega, by omega⟩).mono ?_
            rw [topo_note]
            rintro e w10 ⟨rfl, hc10, hk10⟩
            have HK10 := Lib.hid (HK9.out.grew hk10 HLOW.out)
            have hlat : laterP ((now : Int) + x) n = ((now + x : Nat) : Int) + n := by unfold laterP; rw [if_pos (by omega)]; omega
            have FIN : Hid (AskInv w c g own n N (N - (i + 1)) (.int .u64 ((now + x : Nat) : Int)) (.int .u64 ((now + x : Nat) : Int)) (.bool true) (.int .i64 ((i + 1 : Nat) : Int)) w10) := Lib.hid ⟨i + 1, now + x, now + x, true, ((now + x : Nat) : Int) + n, by have := HIJ.out; omega, rfl, rfl, rfl, rfl, by omega, by omega, Nat.le_refl _, fun _ => rfl, (by rw [← hlat]; exact hc10), HK10.out⟩
            clear hlat
            clear hc10 hk10
            go_wp2_with fail
            go_roundg (N - (i + 1))
            case measure => have := HIJ.out; omega
            case rel => exact FIN.out
          · have HDU : Hid (dueB true at_ ((now : Int) + x) = false) := Lib.hid (by have := HAT1.out; unfold dueB; rw [decide_eq_false (by omega)]; rfl)
            go_wp2_with fail
            go_at_call 25
            refine (cDue_at HCC.out ((now : Int) + x)).mono ?_
            rw [HDU.out]
            rintro e w9 ⟨rfl, hc9, hk9⟩
            have HC9 : Hid (CtAt w9 own c g ⟨#[100]⟩ 0 [] n true at_) := Lib.hid hc9
            have HK9 := Lib.hid (HKK.out.grew hk9 fun k e => HLOW.out k (.inr e))
            clear hc9 hk9 HCC
            go_wp2_with fail
            go_at_call 23
            refine (cNote_at HC9.out ⟨by omega, by omega⟩ nTopo (SlK.nil w9 (fun _ _ => True) 1) (HD.out.keptN HK9.out) ((now : Int) + x) ⟨by omega, by omega⟩).mono ?_
            rw [topo_note]
            rintro e w10 ⟨rfl, hc10, hk10⟩
            have HK10 := Lib.hid (HK9.out.grew hk10 HLOW.out)
            have FIN : Hid (AskInv w c g own n N (N - (i + 1)) (.int .u64 ((now + x : Nat) : Int)) (.int .u64 first) (.bool true) (.int .i64 ((i + 1 : Nat) : Int)) w10) := Lib.hid ⟨i + 1, now + x, first, true, at_, by have := HIJ.out; omega, rfl, rfl, rfl, rfl, by omega, by omega, by omega, fun _ => HAT1.out, hc10, HK10.out⟩
            clear hc10 hk10
            go_wp2_with fail
            go_roundg (N - (i + 1))
            case measure => have := HIJ.out; omega
            case rel => exact FIN.out
      · obtain rfl : i = 50 := by omega
        cases asks with
        | false =>
          go_wp2_with fail
          go_at_call 25
          refine (cDue_at HCC.out _).mono ?_
          rintro e w9 ⟨rfl, hc9, hk9⟩
          have HC9 : Hid (CtAt w9 own c g ⟨#[100]⟩ 0 [] n false at_) := Lib.hid hc9
          have HK9 := Lib.hid (HKK.out.grew hk9 fun k e => HLOW.out k (.inr e))
          clear hc9 hk9
          rw [show ∀ t, dueB false at_ t = false from fun _ => rfl]
          go_wp2_with fail
          go_at_call 25
          refine (cDue_at HC9.out _).mono ?_
          rintro e w10 ⟨rfl, -, hk10⟩
          have HK10 := Lib.hid (HK9.out.grew hk10 fun k e => HLOW.out k (.inr e))
          clear hk10
          rw [show ∀ t, dueB false at_ t = false from fun _ => rfl]
          go_wp2
          go_ret
          exact ⟨rfl, HK10.out⟩
        | true =>
          have hat := HAT.out rfl
          have HDU : Hid (dueB true at_ ((now : Int) + n) = true) := Lib.hid (by unfold dueB; rw [decide_eq_true (by omega)]; rfl)
          clear hat
          go_wp2_with fail
          go_at_call 25
          refine (cDue_at HCC.out ((now : Int) + n)).mono ?_
          rw [HDU.out]
          rintro e w9 ⟨rfl, hc9, hk9⟩
          have HC9 : Hid (CtAt w9 own c g ⟨#[100]⟩ 0 [] n false at_) := Lib.hid hc9
          have HK9 := Lib.hid (HKK.out.grew hk9 fun k e => HLOW.out k (.inr e))
          clear hc9 hk9
          go_wp2_with fail
          go_at_call 25
          refine (cDue_at HC9.out _).mono ?_
          rintro e w10 ⟨rfl, -, hk10⟩
          have HK10 := Lib.hid (HK9.out.grew hk10 fun k e => HLOW.out k (.inr e))
          clear hk10
          rw [show ∀ t, dueB false at_ t = false from fun _ => rfl]
          go_wp2
          go_ret
          exact ⟨rfl, HK10.out⟩
    · obtain rfl : i = N := by have := HIJ.out; omega
      cases asks with
      | false =>
        go_wp2_with fail
        go_at_call 25
        refine (cDue_at HCC.out _).mono ?_
        rintro e w9 ⟨rfl, hc9, hk9⟩
        have HC9 : Hid (CtAt w9 own c g ⟨#[100]⟩ 0 [] n false at_) := Lib.hid hc9
        have HK9 := Lib.hid (HKK.out.grew hk9 fun k e => HLOW.out k (.inr e))
        clear hc9 hk9
        rw [show ∀ t, dueB false at_ t = false from fun _ => rfl]
        go_wp2_with fail
        go_at_call 25
        refine (cDue_at HC9.out _).mono ?_
        rintro e w10 ⟨rfl, -, hk10⟩
        have HK10 := Lib.hid (HK9.out.grew hk10 fun k e => HLOW.out k (.inr e))
        clear hk10
        rw [show ∀ t, dueB false at_ t = false from fun _ => rfl]
        go_wp2
        go_ret
        exact ⟨rfl, HK10.out⟩
      | true =>
        have hat := HAT.out rfl
        have HDU : Hid (dueB true at_ ((now : Int) + n) = true) := Lib.hid (by unfold dueB; rw [decide_eq_true (by omega)]; rfl)
        clear hat
        go_wp2_with fail
        go_at_call 25
        refine (cDue_at HCC.out ((now : Int) + n)).mono ?_
        rw [HDU.out]
        rintro e w9 ⟨rfl, hc9, hk9⟩
        have HC9 : Hid (CtAt w9 own c g ⟨#[100]⟩ 0 [] n false at_) := Lib.hid hc9
        have HK9 := Lib.hid (HKK.out.grew hk9 fun k e => HLOW.out k (.inr e))
        clear hc9 hk9
        go_wp2_with fail
        go_at_call 25
        refine (cDue_at HC9.out _).mono ?_
        rintro e w10 ⟨rfl, -, hk10⟩
        have HK10 := Lib.hid (HK9.out.grew hk10 fun k e => HLOW.out k (.inr e))
        clear hk10
        rw [show ∀ t, dueB false at_ t = false from fun _ => rfl]
        go_wp2
        go_ret
        exact ⟨rfl, HK10.out⟩
end Go.Proofs.YtdcdefkloibfnaaGreatDoor

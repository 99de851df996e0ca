/- Streams: Take. -/
import Derived.Test.YtelcielfhgijpaaDoorStTake
namespace Go.Proofs.YtelcielfhgijpaaDoor
set_option linter.unusedVariables false
open Go.RowKit
open Go.ChangeMaps (setBlock)

theorem ctz_turned {x c : Nat} {w : World} (hx : x < 18446744073709551616) (hT : Tab w) (hc : Lib.ctz 64 (18446744073709551615 - x) = c) :
    Calls Tryd.prog 20 #[.int .u64 (bits .xor .u64 (if IntKind.u64.signed = true then -1 else IntKind.u64.max) (x : Int))] w fun e w' => e = .returned (.int .i64 (c : Int)) ∧ w = w' := by
  have h1 := ctz_at (18446744073709551615 - x) (by omega) w hT
  rw [hc] at h1
  rw [word_not hx]
  exact h1.mono fun e w' h => ⟨h.1, h.2.symm⟩

/-- Streams whose hint is known. -/
def SAtH (w : World) (g m1 m2 : Nat) (s : XS) (h : Nat) : Prop := ∃ cs, Blk w g 66 cs ∧ SCells cs s h m1 m2 ∧ AMap w m1 s.asked ∧ OMap w m2 s.orph ∧ m1 ≠ m2 ∧ s.Ok
def TakePost (w : World) (g m1 m2 : Nat) (s : XS) (u : Int) (e : Ending) (w' : World) : Prop :=
  (∃ id : Nat, (id : Int) < s.n ∧ s.owed (id : Int) = false ∧ (∀ j : Nat, j < id → s.owed (j : Int) = true) ∧ e = .returned (.tuple #[.int .i64 (id : Int), .int .i64 0]) ∧ SAt w' g m1 m2 (s.take (id : Int) u) ∧ Kept (three g m1 m2) w w') ∨
  ((∀ j : Nat, (j : Int) < s.n → s.owed (j : Int) = true) ∧ e = .returned (.tuple #[.int .i64 0, .int .i64 30]) ∧ SAt w' g m1 m2 s ∧ Kept (three g m1 m2) w w')

set_option maxHeartbeats 2000000 in
set_option maxRecDepth 100000 in
theorem Take_at {w : World} {g m1 m2 : Nat} {s : XS} (h : SAt w g m1 m2 s) (hT : Tab w) (hg : g ≠ 0 ∧ m1 ≠ 0 ∧ m2 ≠ 0) (u : Int) (hu : 0 ≤ u ∧ u < 18446744073709551616) :
    Calls Tryd.prog 10 #[.pointer (some ⟨g, 0, none⟩), .int .u64 u] w (TakePost w g m1 m2 s u) := by
  obtain ⟨cs, k0, hb, hc, ha, ho, hne, hok⟩ := h
  have hk0 := hc.hh
  have START := Lib.hid (⟨⟨cs, hb, hc, ha, ho, hne, hok⟩, Kept.refl _ w⟩ : SAtH w g m1 m2 s k0 ∧ Kept (three g m1 m2) w w)
  clear hb hc ha ho hne hok
  go_enter Tryd.func10, Tryd.ntmps10
  go_wp2
  go_loopg [6] (512 - k0) (fun j v wr => ∃ k : Nat, k + j = 512 ∧ SAtH wr g m1 m2 s k ∧ Kept (three g m1 m2) w wr)
  case atStart => exact ⟨k0, by omega, START.out⟩
  case round =>
    obtain ⟨k, hkj, hS, hkr⟩ := hrel
    obtain ⟨cs, hb, hc, ha, ho, hne, hok⟩ := hS
    have n1 := hok.n1
    have n2 := hok.n2
    have hTr : Tab wr := hT.kept hkr (by intro h; rcases h with h | h | h <;> simp_all)
    have f0 := (hb.cell 0).trans hc.c0
    have f3 := (hb.cell 513).trans hc.ch
    have ff := hb.frozen
    by_cases hk : k < 512
    · obtain ⟨x, hx, hcx, hbits⟩ := hc.cw k hk
      have fx := (hb.cell (1 + k)).trans hcx
      have HB := Lib.hid hb
      have HC := Lib.hid hc
      have HA := Lib.hid ha
      have HO := Lib.hid ho
      have HOK := Lib.hid hok
      have HBI := Lib.hid hbits
      have HK := Lib.hid hkr
      have HT := Lib.hid hTr
      clear START hb hc ha ho hok hbits hkr hTr hcx hT
      have hct := fun (c : Nat) (h : Lib.ctz 64 (18446744073709551615 - x) = c) (n : Nat) => ctz_turned (w := wr.drewN n) hx HT.out h
      rcases ctz_not hx with ⟨hc64, hall⟩ | ⟨hclt, hcf, hcl⟩
      · have HCT := Lib.hid (hct 64 hc64)
        have HAL := Lib.hid hall
        clear hct hc64 hall
        go_wp2
        go_quiet ((go_at_call 20; exact quiet_same (HCT.out _)))
        go_wp2
        go_roundg (512 - (k + 1))
        case measure => omega
        case rel =>
          rw [show ((k : Int) + 1) = ((k + 1 : Nat) : Int) by omega]
          have hc1 := HC.out.hint_ (k := k + 1) (by omega) (fun j hj => by
            by_cases hjk : j < 64 * k
            · exact HC.out.hf j hjk
            · have h1 := HBI.out (j - 64 * k) (by omega)
              rw [HAL.out _ (by omega), show 64 * k + (j - 64 * k) = j by omega] at h1
              exact h1.symm)
          have hg1 : m1 ≠ g := fun e => HA.out.ne_blk HB.out e.symm
          have hg2 : m2 ≠ g := fun e => HO.out.ne_blk HB.out e.symm
          exact ⟨k + 1, by omega, ⟨_, (HB.out.drewN nq).set_ 513 _, hc1, (HA.out.drewN nq).setCell (p := ⟨g, 513, none⟩) hg1 _, (HO.out.drewN nq).setCell (p := ⟨g, 513, none⟩) hg2 _, hne, HOK.out⟩, (HK.out.drewN nq).setCell (p := ⟨g, 513, none⟩) (fun _ => .inl rfl) _⟩
      · generalize Lib.ctz 64 (18446744073709551615 - x) = c at *
        have HCT := Lib.hid (hct c rfl)
        have HCF := Lib.hid hcf
        have HCL := Lib.hid hcl
        clear hct hcf hcl
        by_cases hn : s.n ≤ 64 * (k : Int) + c
        · go_wp2
          go_quiet ((go_at_call 20; exact quiet_same (HCT.out _)))
          go_wp2
          go_ret2
          refine .inr ⟨fun j hj => ?_, rfl, ⟨cs, k, HB.out.drewN nq, HC.out, HA.out.drewN nq, HO.out.drewN nq, hne, HOK.out⟩, HK.out.drewN nq⟩
          by_cases hjk : j < 64 * k
          · exact HC.out.hf j hjk
          · have h1 := HBI.out (j - 64 * k) (by omega)
            rw [HCL.out _ (by omega), show 64 * k + (j - 64 * k) = j by omega] at h1
            exact h1.symm
        · have f4 := (HB.out.cell 514).trans HC.out.ca
          obtain ⟨hset, hsy, hsb⟩ := word_set hx hclt
          have HSB := Lib.hid hsb
          have hg1 : m1 ≠ g := fun e => HA.out.ne_blk HB.out e.symm
          have hg2 : m2 ≠ g := fun e => HO.out.ne_blk HB.out e.symm
          clear hsb
          go_wp2
          go_quiet ((go_at_call 20; exact quiet_same (HCT.out _)))
          go_wp2
          go_region
          obtain ⟨es, ck, hup, ha2⟩ := ((HA.out.drewN (nq + 1)).setCell (p := ⟨g, 1 + k, none⟩) hg1 (.int .u64 ((x ||| 2 ^ c : Nat) : Int))).run_update i64K iuM intU (64 * (k : Int) + c) u
          have hfree : s.owed ((64 * k + c : Nat) : Int) = false := (HBI.out c hclt).symm.trans HCF.out
          have hid : (64 * (k : Int) + c) = ((64 * k + c : Nat) : Int) := by omega
          have hok' := HOK.out.take (id := ((64 * k + c : Nat) : Int)) (u := u) (by omega) (by omega) hu hfree
          have hc1 := HC.out.word_ (s' := s.take ((64 * k + c : Nat) : Int) u) (i := k) (k := k) hk hsy rfl (fun b hb => by
              rw [HSB.out b, HBI.out b hb, XS.owed_take]
              congr 1
              apply decide_eq_decide.2
              omega) (fun j hj => by
              rw [XS.owed_take]
              have : ¬ ((j : Int) = ((64 * k + c : Nat) : Int)) := by omega
              rw [decide_eq_false this, Bool.or_false]) HC.out.hh rfl (fun j hj => by
              rw [XS.owed_take, HC.out.hf j hj]; rfl)
          have ho2 := ((HO.out.drewN (nq + 1)).setCell (p := ⟨g, 1 + k, none⟩) hg2 (.int .u64 ((x ||| 2 ^ c : Nat) : Int))).setBlock (Ne.symm hne) (.map es ck)
          have hb2 := ((HB.out.drewN (nq + 1)).set_ (1 + k) (.int .u64 ((x ||| 2 ^ c : Nat) : Int))).setBlock (Ne.symm hg1) (.map es ck)
          have hk2 := ((HK.out.drewN (nq + 1)).setCell (p := ⟨g, 1 + k, none⟩) (fun _ => .inl rfl) (.int .u64 ((x ||| 2 ^ c : Nat) : Int))).setBlock (m := m1) (fun _ => .inr (.inl rfl)) (.map es ck)
          rw [aput_none (aget_eq_none.1 (XS.not_asked (by rw [hid]; exact hfree)).1), hid] at ha2
          have FIN := Lib.hid (⟨⟨_, k, hb2, hc1, ha2, ho2, hne, hok'⟩, hk2⟩ : SAt _ g m1 m2 (s.take ((64 * k + c : Nat) : Int) u) ∧ Kept (three g m1 m2) w _)
          have HFREE := Lib.hid hfree
          have HID := Lib.hid hid
          clear ha2 hfree hok' hc1 ho2 hb2 hk2 hid
          go_wp2
          go_ret2
          rw [HID.out]
          refine .inl ⟨64 * k + c, by omega, HFREE.out, fun j hj => ?_, rfl, FIN.out⟩
          by_cases hjk : j < 64 * k
          · exact HC.out.hf j hjk
          · have h1 := HBI.out (j - 64 * k) (by omega)
            rw [HCL.out _ (by omega), show 64 * k + (j - 64 * k) = j by omega] at h1
            exact h1.symm
    · have hk5 : k = 512 := by have := hc.hh; omega
      subst hk5
      have HF := Lib.hid hc.hf
      have FIN := Lib.hid (⟨⟨cs, 512, hb, hc, ha, ho, hne, hok⟩, hkr⟩ : SAt wr g m1 m2 s ∧ Kept (three g m1 m2) w wr)
      clear START hb hc ha ho hok hkr hTr hT
      go_wp2
      go_ret2
      exact .inr ⟨fun j hj => HF.out j (by omega), rfl, FIN.out⟩
end Go.Proofs.YtelcielfhgijpaaDoor

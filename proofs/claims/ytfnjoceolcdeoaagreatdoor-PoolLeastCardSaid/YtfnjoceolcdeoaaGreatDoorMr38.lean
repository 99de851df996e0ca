/- Streams: Answer. -/
import Derived.Test.YtfnjoceolcdeoaaGreatDoorMr11
namespace Go.Proofs.YtfnjoceolcdeoaaGreatDoor
set_option linter.unusedVariables false
open Go.RowKit
open Go.ChangeMaps (setBlock)

set_option maxHeartbeats 400000 in
theorem Answer_bad {w : World} {g m1 m2 : Nat} {s : XS} (h : SAt w g m1 m2 s) (id : Int) (hi : s.owed id = false) :
    Calls Tryz.prog 69 #[.pointer (some ⟨g, 0, none⟩), .int .i64 id] w fun e w' => e = .returned (.tuple #[.bool false, .int .i64 31]) ∧ w' = w := by
  have hw := Owed_at h id
  rw [hi] at hw
  have HW := Lib.hid hw
  clear hw
  go_enter Tryz.func69, Tryz.ntmps69
  go_wp2_with (go_at_call 91; refine HW.out.mono ?_; rintro e w' ⟨rfl, rfl⟩)
  go_ret2
  exact ⟨rfl, rfl⟩
set_option maxHeartbeats 4000000 in
set_option maxRecDepth 100000 in
theorem Answer_at {w : World} {g m1 m2 : Nat} {s : XS} (h : SAt w g m1 m2 s) (id : Int) (hi : s.owed id = true) :
    Calls Tryz.prog 69 #[.pointer (some ⟨g, 0, none⟩), .int .i64 id] w fun e w' => e = .returned (.tuple #[.bool (aget id s.asked).isSome, .int .i64 0]) ∧ SAt w' g m1 m2 (s.answer id) ∧ Kept (three g m1 m2) w w' := by
  have hw := Owed_at h id
  rw [hi] at hw
  have HW := Lib.hid hw
  obtain ⟨cs, k, hb, hc, ha, ho, hne, hok⟩ := h
  obtain ⟨i0, i1⟩ := hok.range hi
  have h2 := hok.n2
  obtain ⟨i, rfl⟩ := Int.eq_ofNat_of_zero_le i0
  obtain ⟨x, hx, hcx, -, hbits⟩ := word_of hc (id := i) (by omega)
  have hmod : i % 64 < 64 := Nat.mod_lt _ (by decide)
  obtain ⟨hcl, hy, hyb⟩ := word_clear hx hmod
  have f3 := (hb.cell 513).trans hc.ch
  have f4 := (hb.cell 514).trans hc.ca
  have f5 := (hb.cell 515).trans hc.co
  have fx := (hb.cell (1 + i / 64)).trans hcx
  have ff := hb.frozen
  have hl := ha.run_lookup i64K iuM intU (zero_u64 w) (i : Int) true
  obtain ⟨es, ck, hdel, ha1⟩ := ha.run_delete i64K iuM intU (i : Int)
  obtain ⟨hx1, hx2, hx3⟩ := ha.rules es ck
  have ho1 := ho.setBlock (Ne.symm hne) (.map es ck)
  obtain ⟨es2, ck2, hdel2, ho2⟩ := ho1.run_delete i64K ibM intU (i : Int)
  obtain ⟨hx4, hx5, hx6⟩ := ho1.rules es2 ck2
  have fin : ∀ kk : Nat, kk ≤ k → kk ≤ i / 64 → SAt (((setBlock (setBlock w m1 (.map es ck)) m2 (.map es2 ck2)).setCell ⟨g, 1 + i / 64, none⟩ (.int .u64 ((x &&& (18446744073709551615 - 2 ^ (i % 64)) : Nat) : Int))).setCell ⟨g, 513, none⟩ (.int .i64 (kk : Int))).drew g m1 m2 (s.answer (i : Int)) ∧
      Kept (three g m1 m2) w (((setBlock (setBlock w m1 (.map es ck)) m2 (.map es2 ck2)).setCell ⟨g, 1 + i / 64, none⟩ (.int .u64 ((x &&& (18446744073709551615 - 2 ^ (i % 64)) : Nat) : Int))).setCell ⟨g, 513, none⟩ (.int .i64 (kk : Int))).drew := by
    intro kk h1 h2'
    have hb3 := (((hb.setBlock (ha.ne_blk hb) (.map es ck)).setBlock (ho.ne_blk hb) (.map es2 ck2)).set_ (1 + i / 64) (.int .u64 ((x &&& (18446744073709551615 - 2 ^ (i % 64)) : Nat) : Int))).set_ 513 (.int .i64 (kk : Int))
    have hs1 := (hc.hint_ (k := kk) (by have := hc.hh; omega) (fun j hj => hc.hf j (by omega))).word_ (s' := s.answer (i : Int)) (i := i / 64) (k := kk) (by omega) hy rfl (fun b hb => by
        rw [hyb b hb, hbits b hb, hok.owed_answer]
        congr 2
        apply decide_eq_decide.2
        omega) (fun j hj => by
        rw [hok.owed_answer]
        have : ¬ ((j : Int) = (i : Int)) := by omega
        simp [this]) (by have := hc.hh; omega) rfl (fun j hj => by
        rw [hok.owed_answer, hc.hf j (by omega)]
        have : ¬ ((j : Int) = (i : Int)) := by omega
        simp [this])
    rw [Array.setIfInBounds_comm _ _ (by omega : 513 ≠ 1 + i / 64)] at hs1
    have hg1 : m1 ≠ g := fun e => ha.ne_blk hb e.symm
    have hg2 : m2 ≠ g := fun e => ho.ne_blk hb e.symm
    exact ⟨⟨_, kk, hb3, hs1, ((ha1.setBlock hne _).setCell (p := ⟨g, _, none⟩) hg1 _).setCell (p := ⟨g, _, none⟩) hg1 _, (ho2.setCell (p := ⟨g, _, none⟩) hg2 _).setCell (p := ⟨g, _, none⟩) hg2 _, hne, hok.answer _⟩,
      (((((Kept.refl (three g m1 m2) w).setBlock (m := m1) (fun _ => .inr (.inl rfl)) _).setBlock (m := m2) (fun _ => .inr (.inr rfl)) _).setCell (p := ⟨g, _, none⟩) (fun _ => .inl rfl) _).setCell (p := ⟨g, _, none⟩) (fun _ => .inl rfl) _).drew⟩
  have FIN := Lib.hid fin
  clear fin hw hi hb hc ha ho hok ha1 ho1 ho2 hyb hbits hcx
  go_enter Tryz.func69, Tryz.ntmps69
  go_wp2_with fail
  go_at_call 91
  refine HW.out.mono ?_
  rintro e w' ⟨rfl, rfl⟩
  go_wp2_with fail
  go_region
  go_wp2
  all_goals go_ret2
  all_goals refine ⟨rfl, ?_⟩
  all_goals first
    | exact FIN.out k (Nat.le_refl _) (by omega)
    | (have := FIN.out (i / 64) (by omega) (Nat.le_refl _); rw [Int.natCast_ediv] at this; exact this)
    | (rcases Int.le_total (k : Int) ((i : Int) / 64) with hle | hle
       · rw [Int.min_eq_left hle]; exact FIN.out k (Nat.le_refl _) (by omega)
       · rw [Int.min_eq_right hle]; have := FIN.out (i / 64) (by omega) (Nat.le_refl _); rw [Int.natCast_ediv] at this; exact this)
end Go.Proofs.YtfnjoceolcdeoaaGreatDoor

/- PoolWaits: the law's walk. -/
import Derived.Test.YtfnjoceolcdeoaaGreatDoorMg39
import Derived.Test.YtfnjoceolcdeoaaGreatDoorMg42
namespace Go.Proofs.YtfnjoceolcdeoaaGreatDoor
set_option linter.unusedVariables false
open Go.RowKit

/-- The law's pool behind so many breaks. -/
def xw (b l pc i T : Nat) : XP := ⟨1, 1, b, l, pc, 1, noStr, 4611686018427387904, 4611686018427387904, 4611686018427387904, 1, (i : Int), 1, i, T, false⟩
theorem delay_le {base most n percent draw : Nat} (hm : most ≤ 4294967295) : delayP base most n percent draw ≤ 8589934590 := by
  have hd : plainP base most n ≤ 4294967295 := by unfold plainP; omega
  unfold delayP
  simp only []
  generalize plainP base most n = d at *
  have hs : d * min percent 100 / 100 ≤ d := by
    rw [Nat.div_le_iff_le_mul_add_pred (by decide)]
    have : d * min percent 100 ≤ d * 100 := Nat.mul_le_mul_left _ (Nat.min_le_right _ _)
    omega
  generalize d * min percent 100 / 100 = s at *
  have hx : draw % (2 * s + 1) ≤ 2 * s := by have := Nat.mod_lt draw (show 0 < 2 * s + 1 by omega); omega
  rw [if_pos (show s < 9223372036854775808 by omega)]
  split <;> omega
theorem xw_next {b l pc i T dr : Nat} (hl : l ≤ 4294967295) (hi : i ≤ 100) (hT : T ≤ 1000000000000000) : ({ xw b l pc i T with opened := (i : Int) + ((1 : Nat) : Int) } : XP).broke T dr = xw b l pc (i + 1) (T + delayP b l i pc dr) := by
  have hd := delay_le (base := b) (most := l) (n := i) (percent := pc) (draw := dr) hl
  have e1 : laterN T (delayP b l i pc dr) = T + delayP b l i pc dr := by unfold laterN; rw [if_pos (by omega)]
  have e2 : laterN i 1 = i + 1 := by unfold laterN; rw [if_pos (by omega)]
  have e3 : max T (T + delayP b l i pc dr) = T + delayP b l i pc dr := by omega
  simp only [XP.broke, xw, e1, e2, e3]
  congr 1
theorem u64sT : SlT Tryz.prog 24 23 (.int .u64 0) 1 8 := ⟨Tryz.underlying24, by kernel_rfl, rfl, by decide, by decide⟩

set_option maxHeartbeats 8000000 in
set_option maxRecDepth 100000 in
theorem PoWaits_walk {w : World} (hm : MaxL w) (hT : Tab w) (b l pc : Nat) (hb : b ≤ 4294967295) (hl : l ≤ 4294967295) (hpc : pc < 18446744073709551616) {A : Option Addr} {n c : Nat} {D : List Nat} (hD : Lo w w.heap.size 1 (.slice A n c) n (D.map fun d : Nat => Value.int .u64 (d : Int))) (hDl : D.length = n) (hDb : ∀ d ∈ D, d < 18446744073709551616) :
    Calls Tryz.prog 3 #[.int .u32 b, .int .u32 l, .int .u64 pc, .slice A n c] w fun e w' => e = .returned (.bool true) ∧ Kept noBlock w w' := by
  have hlen := hD.run_len u64sT
  have hnm : n ≤ 9223372036854775807 := by obtain ⟨_, _, hv, h1, h2⟩ := hD.shape; cases hv; unfold maxLen at h2; omega
  have HD := Lib.hid hD
  have HDL := Lib.hid hDl
  have HDB := Lib.hid hDb
  have HAW := Lib.hid (aw22_at hm hT)
  have HM := Lib.hid hm
  have HT := Lib.hid hT
  clear hm hT hD hDl hDb
  go_enter Tryz.func3, Tryz.ntmps3
  go_wp2_with fail
  go_at_call 8
  refine HAW.out.mono ?_
  rintro e w1 ⟨rfl, hk1⟩
  have HNP := Lib.hid (poNew_at (w := w1) 1 1 (by decide) (by decide) (by decide) b l pc 1 (by decide) (by decide) noStr (show noStr.size ≤ 300000 by decide) 4611686018427387904 4611686018427387904 4611686018427387904 (by decide) 1 (by decide) (HM.out.keptN hk1) (HT.out.kept hk1 (fun e => e)))
  unfold poCfgC at HNP
  have HK1 := Lib.hid hk1
  clear hk1
  go_wp2_with fail
  go_at_call 9
  refine HNP.out.mono ?_
  rintro e w2 ⟨p, m, rfl, hp2, hk2, hpp, hmm⟩
  have HP2 := Lib.hid hp2
  have HK2 := Lib.hid (HK1.out.trans hk2 fun _ _ e => e)
  have HPP := Lib.hid (⟨Nat.le_trans HK1.out.size hpp, Nat.le_trans HK1.out.size hmm⟩ : w.heap.size ≤ p ∧ w.heap.size ≤ m)
  clear hp2 hk2 hpp hmm
  go_wp2_with fail
  go_loopg [12, 13] n (fun j v12 v13 wr => ∃ (i T : Nat), i + j = n ∧ i ≤ 30 ∧ v13 = .int .i64 i ∧ v12 = .int .u64 T ∧ T ≤ i * 8589934592 ∧ PoolAt wr p m (xw b l pc i T) [] ∧ Kept noBlock w wr)
  case atStart => exact ⟨0, 0, by omega, by omega, rfl, rfl, by omega, HP2.out, HK2.out⟩
  case round =>
    obtain ⟨i, T, hij, hi30, rfl, rfl, hTb, hpool, hk⟩ := hrel
    have HIJ := Lib.hid hij
    have HPO := Lib.hid hpool
    have HK := Lib.hid hk
    by_cases hi : i < n
    · by_cases hlt : i < 30
      · obtain ⟨d, hd⟩ : ∃ d, D[i]? = some d := ⟨_, List.getElem?_eq_getElem (by rw [HDL.out]; exact hi)⟩
        have hdb := HDB.out d (List.mem_of_getElem? hd)
        have HDI := Lib.hid hd
        have hT2 : T ≤ 1000000000000 := by omega
        have HTK := Lib.hid (poTick_at hpool T (d : Int) (by omega) (fun q hq => absurd hq List.not_mem_nil) rfl (show (1 : Int) ≤ 1 by decide) (show (1 : Int) ≤ 32768 by decide) (show noStr.size ≤ 300000 by decide) (show 4611686018427387904 < 18446744073709551616 by decide) (show (1 : Int) ≤ 1 by decide) (show (0 : Int) ≤ (i : Int) by omega) (show (i : Int) ≤ 100000 by omega) (show (0 : Int) ≤ 1 by decide) (show (1 : Int) ≤ 1000 by decide) (show 0 ≤ 1000 by decide) 1 (by show 1 = if T ≤ T then ((1 : Int) - ((0 : Nat) : Int)).toNat else 0; rw [if_pos (Nat.le_refl T)]; rfl))
        obtain ⟨g0, off0, hidx0, -, -, h30⟩ := (HD.out.keptNone hk).run_index u64sT (i := (i : Int)) (k := i) rfl hi
        have cd : wr.cell? ⟨g0, off0, none⟩ = some (.int .u64 (d : Int)) := h30 0 _ (by rw [Nat.mul_one, Nat.add_zero, List.getElem?_map, hd]; rfl)
        clear hij hpool hk hd h30
        go_wp2_with fail
        go_at_call 10
        refine HTK.out.mono ?_
        rintro e w3 ⟨A3, c3, N, E, rfl, hN1, hok, hp3, hs3, hk3⟩
        obtain ⟨r, rfl⟩ : ∃ r, N = [r] := by
          cases N with
          | nil => simp at hN1
          | cons r t => cases t with
            | nil => exact ⟨r, rfl⟩
            | cons _ _ => simp at hN1
        obtain ⟨l0, rfl⟩ : ∃ l0, E = [l0] := by
          have := hok.1
          cases E with
          | nil => simp at this
          | cons r t => cases t with
            | nil => exact ⟨r, rfl⟩
            | cons _ _ => simp at this
        have r2 := (hok.2.1 0 r rfl).2
        obtain ⟨Aw, cw, rfl⟩ := hok.2.2 0 l0 rfl
        have hri : r.1 = (i : Int) := by rw [(hok.2.1 0 r rfl).1]; show (i : Int) + ((0 : Nat) : Int) = _; omega
        have hev0 : ([evC ((xw b l pc i T).opened + ((0 : Nat) : Int)) 1 (.slice Aw 9 cw) 0 (.slice none 0 0)] : List (List Value))[0]? = some (evC ((xw b l pc i T).opened + ((0 : Nat) : Int)) 1 (.slice Aw 9 cw) 0 (.slice none 0 0)) := rfl
        obtain ⟨g1, off1, hidx1', e0, e1, -⟩ := ev_at hs3 rfl (fun l hl => by obtain rfl := List.mem_singleton.1 hl; rfl) hev0
        rw [show (xw b l pc i T).opened + ((0 : Nat) : Int) = (i : Int) by show (i : Int) + ((0 : Nat) : Int) = _; omega] at e0
        have hidx1 : ∀ kd w', (Instr.indexAt 36 (.slice A3 1 c3) (.int kd 0)).run Tryz.prog w' = .ok (.pointer (some ⟨g1, off1, none⟩)) w' := hidx1'
        clear hidx1'
        have hlen3 := hs3.run_len evT
        rw [List.nil_append] at hp3
        obtain ⟨ri, rq⟩ := r
        have hri2 : ri = (i : Int) := hri
        clear hri
        subst hri2
        have r2 : rq.x = (xw b l pc i T).begun T := r2
        have hagt : aget (i : Int) [((i : Int), rq)] = some rq := by simp [aget]
        have hdel : adel (i : Int) [((i : Int), rq)] = [] := by simp [adel]
        have hdly := delay_le (base := b) (most := l) (n := i) (percent := pc) (draw := d) hl
        have HBRK : Hid (Calls Tryz.prog 11 #[.pointer (some ⟨p, 0, none⟩), .int .i64 (i : Int), .int .u64 T, .int .u64 d] w3 fun e w' => ∃ A' c', e = .returned (.slice A' 1 c') ∧ PoolAt w' p m (xw b l pc (i + 1) (T + delayP b l i pc d)) [] ∧ SlK w' (fun g _ => w3.heap.size ≤ g) 21 (.slice A' 1 c') 1 (evC (i : Int) 6 (.slice none 0 0) 33 (.slice none 0 0)) ∧ Kept (poolS p m [((i : Int), rq)]) w3 w') := Lib.hid (by
          have h := poBreak_at hp3 hagt (by rw [r2]; show (1 : Int) ≠ 7; decide) (by rw [r2]; rfl) T d (show b < 18446744073709551616 by omega) (show l ≤ 72057594037927936 by omega) hpc (show i < 18446744073709551616 by omega) (show T < 18446744073709551616 by omega) (by omega) hdb
          rw [hdel] at h
          rw [← xw_next (b := b) (l := l) (pc := pc) (i := i) (T := T) (dr := d) hl (by omega) (by omega)]
          exact h)
        have HR16 := Lib.hid (fun W => r16Delay_at b l i pc d (show b < 18446744073709551616 by omega) (show l ≤ 72057594037927936 by omega) (show i < 18446744073709551616 by omega) hpc hdb W)
        generalize delayP b l i pc d = dl at *
        have HK3 := Lib.hid (HK.out.trans hk3 fun k hlt e => by
          have h1 := HPP.out
          rcases e with e | e | ⟨q, hq, _⟩
          · omega
          · omega
          · exact absurd hq List.not_mem_nil)
        have hlow := hp3.low _ (List.mem_singleton.2 rfl)
        have HLOW : Hid (p < rq.lo) := Lib.hid hlow.1
        obtain ⟨g3, off3, hidx3, -, -, h33⟩ := (HD.out.keptNone HK3.out).run_index u64sT (i := (i : Int)) (k := i) rfl hi
        have cd3 : w3.cell? ⟨g3, off3, none⟩ = some (.int .u64 (d : Int)) := h33 0 _ (by rw [Nat.mul_one, Nat.add_zero, List.getElem?_map, HDI.out]; rfl)
        clear hp3 hs3 hk3 hok r2 hagt hdel hlow h33 cd hidx0 hN1 hev0
        go_wp2_with fail
        go_at_call 11
        refine HBRK.out.mono ?_
        rintro e w4 ⟨A4, c4, rfl, hp4, hs4, hk4⟩
        have HK4 := Lib.hid (HK3.out.trans hk4 fun k hlt e => by
          have h1 := HPP.out
          have h2 := HLOW.out
          rcases e with e | e | ⟨q, hq, h3, _⟩
          · omega
          · omega
          · obtain rfl : q = _ := by simpa using hq
            have h3 : rq.lo ≤ k := h3
            omega)
        have HP4 := Lib.hid hp4
        have HS4 := Lib.hid hs4
        have hlen4 := hs4.run_len evT
        obtain ⟨g4, off4, hidx4, -, -, h34⟩ := (HD.out.keptNone HK4.out).run_index u64sT (i := (i : Int)) (k := i) rfl hi
        have cd4 : w4.cell? ⟨g4, off4, none⟩ = some (.int .u64 (d : Int)) := h34 0 _ (by rw [Nat.mul_one, Nat.add_zero, List.getElem?_map, HDI.out]; rfl)
        have hiw : IntKind.u64.wrap (i : Int) = (i : Int) := by rw [IntKind.wrap_u64]; omega
        clear hp4 hs4 hk4 h34 cd3 hidx3 hidx1 e0 e1
        go_wp2_with fail
        go_at_call 12
        refine (HR16.out w4).mono ?_
        rintro e w5 ⟨rfl, hk5⟩
        obtain ⟨T2, hT2e⟩ : ∃ T2, T2 = T + dl := ⟨_, rfl⟩
        have HP5 := Lib.hid (HP4.out.keptN hk5)
        rw [← hT2e] at HP5
        have HNX : Hid (Calls Tryz.prog 13 #[.pointer (some ⟨p, 0, none⟩)] w5 fun e w' => e = .returned (.tuple #[.int .u64 (T2 : Int), .int .u64 ((i + 1 : Nat) : Int)]) ∧ Kept noBlock w5 w') := Lib.hid (poNext_at HP5.out)
        have HK45 := Lib.hid hk5
        clear hk5 cd4 hidx4
        go_wp2_with fail
        go_at_call 13
        refine HNX.out.mono ?_
        rintro e w6 ⟨rfl, hk6⟩
        have HP6 := Lib.hid (HP5.out.keptN hk6)
        have HK6 := Lib.hid ((HK4.out.trans HK45.out fun _ _ e => e).trans hk6 fun _ _ e => e)
        have hs6 : SlK w6 (fun g _ => w3.heap.size ≤ g) 21 (.slice A4 1 c4) 1 ([evC (i : Int) 6 (.slice none 0 0) 33 (.slice none 0 0)] : List (List Value)).flatten := by
          have : ([evC (i : Int) 6 (.slice none 0 0) 33 (.slice none 0 0)] : List (List Value)).flatten = evC (i : Int) 6 (.slice none 0 0) 33 (.slice none 0 0) := by simp
          rw [this]
          exact (HS4.out.keptNone HK45.out).keptNone hk6
        obtain ⟨g6, off6, hidx6', -, -, e19⟩ := ev_at (i := 0) hs6 rfl (fun l hl => by obtain rfl := List.mem_singleton.1 hl; rfl) rfl
        have hidx6 : ∀ kd w', (Instr.indexAt 36 (.slice A4 1 c4) (.int kd 0)).run Tryz.prog w' = .ok (.pointer (some ⟨g6, off6, none⟩)) w' := hidx6'
        clear hidx6'
        have hne1 : ((T2 : Int) != (T : Int) + (dl : Int)) = false := by
          have : (T2 : Int) = (T : Int) + (dl : Int) := by omega
          rw [this]; simp
        have hne2 : (((i + 1 : Nat) : Int) != (i : Int) + 1) = false := by
          have : ((i + 1 : Nat) : Int) = (i : Int) + 1 := by omega
          rw [this]; simp
        have HT2E := Lib.hid hT2e
        have hT2b : T2 ≤ (i + 1) * 8589934592 := by omega
        have hT2c : (T2 : Int) ≤ 10000000000000 := by omega
        generalize hi1 : i + 1 = i1 at *
        have HI1 := Lib.hid hi1
        clear hs6 hk6 hT2e hi1
        by_cases hdl : 0 < dl
        · have hdl1 : decide ((0 : Int) < (dl : Int)) = true := decide_eq_true (by omega)
          have HTK2 := Lib.hid (poTick_at HP6.out (T2 - 1) 0 (by have := HI1.out; omega) (fun q hq => absurd hq List.not_mem_nil) rfl (show (1 : Int) ≤ 1 by decide) (show (1 : Int) ≤ 32768 by decide) (show noStr.size ≤ 300000 by decide) (show 4611686018427387904 < 18446744073709551616 by decide) (show (1 : Int) ≤ 1 by decide) (show (0 : Int) ≤ (i1 : Int) by omega) (show (i1 : Int) ≤ 100000 by have := HI1.out; omega) (show (0 : Int) ≤ 1 by decide) (show (1 : Int) ≤ 1000 by decide) (show 0 ≤ 1000 by decide) 0 (by show 0 = if T2 ≤ T2 - 1 then _ else 0; rw [if_neg (by have := HT2E.out; omega)]))
          have hT21 : ((T2 - 1 : Nat) : Int) = (T2 : Int) - 1 := by have := HT2E.out; omega
          rw [hT21] at HTK2
          have hT2p : 1 ≤ T2 := by have := HT2E.out; omega
          clear hT21
          go_wp2_with fail
          go_at_call 10
          refine HTK2.out.mono ?_
          rintro e w7 ⟨A7, c7, N7, E7, rfl, hN7, -, hp7, hs7, hk7⟩
          obtain rfl := List.eq_nil_of_length_eq_zero hN7
          have hlen7 := hs7.run_len evT
          have HP7 : Hid (PoolAt w7 p m (xw b l pc i1 T2) []) := Lib.hid (pool_zero hp7)
          have HK7 := Lib.hid (HK6.out.trans hk7 fun k hlt e => by
            have h1 := HPP.out
            rcases e with e | e | ⟨q, hq, _⟩
            · omega
            · omega
            · exact absurd hq List.not_mem_nil)
          clear hp7 hs7 hk7 hN7
          go_wp2_with fail
          go_roundg (n - i1)
          case measure => have := HIJ.out; have := HI1.out; omega
          case rel => exact ⟨i1, T2, by have := HIJ.out; have := HI1.out; omega, by have := HI1.out; omega, by have h := HI1.out; rw [show ((i1 : Nat) : Int) = (i : Int) + 1 by omega], rfl, hT2b, HP7.out, HK7.out⟩
        · have hdl0 : decide ((0 : Int) < (dl : Int)) = false := decide_eq_false (by omega)
          go_wp2_with fail
          go_roundg (n - i1)
          case measure => have := HIJ.out; have := HI1.out; omega
          case rel => exact ⟨i1, T2, by have := HIJ.out; have := HI1.out; omega, by have := HI1.out; omega, by have h := HI1.out; rw [show ((i1 : Nat) : Int) = (i : Int) + 1 by omega], rfl, hT2b, HP6.out, HK6.out⟩
      · have hge : decide ((i : Int) < 30) = false := decide_eq_false (by omega)
        clear hij hpool hk
        go_wp2
        go_ret
        exact ⟨rfl, HK.out⟩
    · clear hij hpool hk
      go_wp2
      go_ret
      exact ⟨rfl, HK.out⟩
end Go.Proofs.YtfnjoceolcdeoaaGreatDoor

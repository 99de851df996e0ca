/- PoolReadies: the law's walk. -/
import Derived.Test.YtfnjoceolcdeoaaGreatDoorMr23
import Derived.Test.YtfnjoceolcdeoaaGreatDoorMr43
import Derived.Test.YtfnjoceolcdeoaaGreatDoorMr24
namespace Go.Proofs.YtfnjoceolcdeoaaGreatDoor
set_option linter.unusedVariables false
open Go.RowKit

/-- The law's pool behind so many breaks. -/
def xr (b i o T : Nat) : XP := ⟨1, 1, b, 1125899906842624, 0, 1, noStr, 1152921504606846976, 1152921504606846976, 1, 1, (o : Int), 1, i, T, false⟩
theorem delay0 {b i : Nat} (hb : b ≤ 4294967296) (hi : i ≤ 8) : delayP b 1125899906842624 i 0 0 = b * 2 ^ i ∧ b * 2 ^ i ≤ 1099511627776 := by
  have h2 : 2 ^ i ≤ 256 := Nat.le_trans (Nat.pow_le_pow_right (by decide) hi) (by decide)
  have h3 : b * 2 ^ i ≤ 4294967296 * 256 := Nat.mul_le_mul hb h2
  have h4 : b * 2 ^ i ≤ 1099511627776 := Nat.le_trans h3 (by decide)
  refine ⟨?_, h4⟩
  have h5 : plainP b 1125899906842624 i = b * 2 ^ i := by unfold plainP; omega
  unfold delayP
  rw [h5]
  generalize b * 2 ^ i = d at *
  simp only [show min 0 100 = 0 from rfl, Nat.mul_zero, Nat.zero_div, Nat.zero_add, Nat.zero_mod, Nat.sub_zero]
  rw [if_pos (show 0 < 9223372036854775808 by decide), if_pos (by omega)]
  omega
theorem xr_next {b i o T : Nat} (hb : b ≤ 4294967296) (hi : i ≤ 8) (hT : T ≤ 1000000000000000) : (xr b i o T).broke T 0 = xr b (i + 1) o (T + b * 2 ^ i) := by
  obtain ⟨hd, hd2⟩ := delay0 hb hi
  have e0 : delayP (xr b i o T).base (xr b i o T).longest (xr b i o T).failed (xr b i o T).percent 0 = b * 2 ^ i := hd
  generalize b * 2 ^ i = dl at *
  have e1 : laterN T dl = T + dl := by unfold laterN; rw [if_pos (by omega)]
  have e2 : laterN i 1 = i + 1 := by unfold laterN; rw [if_pos (by omega)]
  have e3 : max T (T + dl) = T + dl := by omega
  unfold XP.broke
  rw [e0, e1]
  show (XP.mk _ _ _ _ _ _ _ _ _ _ _ _ _ (laterN i 1) (max T (T + dl)) _) = _
  rw [e2, e3]
  rfl

theorem tick1 {w : World} {p m b i o T : Nat} (h : PoolAt w p m (xr b i o T) []) (ho : o ≤ 1000) (hT : T ≤ 1000000000000000) :
    Calls Tryz.prog 10 #[.pointer (some ⟨p, 0, none⟩), .int .u64 (T : Int), .int .u64 0] w fun e w' => ∃ A c q, e = .returned (.slice A 1 c) ∧ q.x = XC.begun 1 noStr 1152921504606846976 1152921504606846976 1 1 T ∧ PoolAt w' p m (xr b i (o + 1) T) [((o : Int), q)] ∧ Kept (poolS p m []) w w' := by
  refine (poTick_at h T 0 (by omega) (fun q hq => absurd hq List.not_mem_nil) rfl (show (1 : Int) ≤ 1 by decide) (show (1 : Int) ≤ 32768 by decide) (show noStr.size ≤ 300000 by decide) (show 1152921504606846976 < 18446744073709551616 by decide) (show (1 : Int) ≤ 1 by decide) (show (0 : Int) ≤ (o : Int) by omega) (show (o : Int) ≤ 100000 by omega) (show (0 : Int) ≤ 1 by decide) (show (1 : Int) ≤ 1000 by decide) (show 0 ≤ 1000 by decide) 1 (by show 1 = if T ≤ T then ((1 : Int) - ((0 : Nat) : Int)).toNat else 0; rw [if_pos (Nat.le_refl T)]; rfl)).mono ?_
  rintro e w3 ⟨A3, c3, N, E, rfl, hN1, hok, hp3, hs3, hk3⟩
  obtain ⟨r, rfl⟩ : ∃ r, N = [r] := by
    cases N with
    | nil => simp at hN1
    | cons r t => cases t with
      | nil => exact ⟨r, rfl⟩
      | cons _ _ => simp at hN1
  have r2 := (hok.2.1 0 r rfl).2
  have hri : r.1 = (o : Int) := by rw [(hok.2.1 0 r rfl).1]; show (o : Int) + ((0 : Nat) : Int) = _; omega
  obtain ⟨ri, rq⟩ := r
  have hri : ri = (o : Int) := hri
  subst hri
  exact ⟨A3, c3, rq, rfl, r2, hp3, hk3⟩
theorem brk1 {w : World} {p m b i o T : Nat} {id : Int} {q : CN} (h : PoolAt w p m (xr b i o T) [(id, q)]) (hq7 : q.x.state ≠ 7) (hqo : q.x.oth = some []) (hb : b ≤ 4294967296) (hi : i ≤ 8) (hT : T ≤ 1000000000000000) :
    Calls Tryz.prog 11 #[.pointer (some ⟨p, 0, none⟩), .int .i64 id, .int .u64 (T : Int), .int .u64 0] w fun e w' => ∃ A c, e = .returned (.slice A 1 c) ∧ PoolAt w' p m (xr b (i + 1) o (T + b * 2 ^ i)) [] ∧ Kept (poolS p m [(id, q)]) w w' := by
  have hagt : aget id [(id, q)] = some q := by simp [aget]
  have hdel : adel id [(id, q)] = [] := by simp [adel]
  refine (poBreak_at h hagt hq7 hqo T 0 (show b < 18446744073709551616 by omega) (show 1125899906842624 ≤ 72057594037927936 by decide) (show 0 < 18446744073709551616 by decide) (show i < 18446744073709551616 by omega) (show T < 18446744073709551616 by omega) (by omega) (by decide)).mono ?_
  rintro e w' ⟨A, c, rfl, h1, -, h3⟩
  rw [hdel, xr_next hb hi hT] at h1
  exact ⟨A, c, rfl, h1, h3⟩
theorem keep_pool {w w1 w2 : World} {p m : Nat} {L : List (Int × CN)} (hk : Kept noBlock w w1) (hk2 : Kept (poolS p m L) w1 w2) (hp : w.heap.size ≤ p ∧ w.heap.size ≤ m) (hL : ∀ q ∈ L, p < q.2.lo) : Kept noBlock w w2 :=
  hk.trans hk2 fun k hlt e => by
    rcases e with e | e | ⟨q, hq, h1, _⟩
    · omega
    · omega
    · have := hL q hq; omega

theorem upd_one (id : Int) (q : CN) (y : XC) : [(id, q)].map (updAt id y) = [(id, { q with x := y })] := by
  show [updAt id y (id, q)] = _
  unfold updAt
  rw [if_pos rfl]
def xb (T : Nat) : XC := XC.begun 1 noStr 1152921504606846976 1152921504606846976 1 1 T
def Supd (T : Nat) (y : XC) : Prop := ∃ A c, c ≤ maxLen ∧ y = { xb T with state := 2, last := (T : Int), sv := .slice A 0 c, se := 0 }
theorem dat1 {w : World} {p m b i o T : Nat} {id : Int} {q : CN} (h : PoolAt w p m (xr b i o T) [(id, q)]) (hqx : q.x = xb T) {A : Option Addr} {cA : Nat} (hs : Sl w 5 1 (.slice A 11 cA) 11 (bsC bySup)) :
    Calls Tryz.prog 14 #[.pointer (some ⟨p, 0, none⟩), .int .i64 id, .slice A 11 cA, .int .u64 (T : Int), .int .u64 0] w fun e w' => ∃ A' c' y, e = .returned (.slice A' 1 c') ∧ Supd T y ∧ PoolAt w' p m (xr b i o T) [(id, { q with x := y })] ∧ Kept (poolS p m [(id, q)]) w w' := by
  have hmem := List.mem_singleton.2 (rfl : (id, q) = (id, q))
  have hag : aget id [(id, q)] = some q := by simp [aget]
  have hG : 2 < q.lo := Nat.lt_trans h.glp.2 (h.low _ hmem).1
  have hl : laterN T 1152921504606846976 < 18446744073709551616 := by unfold laterN; split <;> omega
  have hC := cnData_sup (h.con _ hmem) (by show q.x.state = 1; rw [hqx]; rfl) (by show q.x.shake = 0; rw [hqx]; rfl) (n := 1) (by show q.x.ss = (XS.fresh 1).take 0 q.x.til; rw [hqx]; rfl) (by decide) (by show Calm q.x; rw [hqx]; exact ⟨rfl, none, 0, rfl, by decide⟩) h.tab hG (by
    show 0 ≤ q.x.til ∧ q.x.til < 18446744073709551616
    rw [hqx]
    show (0 : Int) ≤ ((laterN T 1152921504606846976 : Nat) : Int) ∧ ((laterN T 1152921504606846976 : Nat) : Int) < 18446744073709551616
    omega) (T : Int) hs
  refine (poData_wrote h hag (T : Int) 0 hC ?_).mono ?_
  · rintro y Y W ⟨-, rfl⟩
    refine ⟨?_, rfl, rfl, rfl, rfl⟩
    show 0 < (hdrB 0 1 st2B.length ++ st2B).length
    rw [List.length_append, hdrB_len]; omega
  · rintro e w' ⟨A', c', y, Y, W, rfl, ⟨⟨A2, c2, hc2, rfl⟩, -⟩, hp, hk⟩
    rw [upd_one] at hp
    refine ⟨A', c', _, rfl, ⟨A2, c2, hc2, ?_⟩, hp, hk⟩
    rw [hqx]
theorem dat2 {w : World} {p m b i o T : Nat} {id : Int} {q : CN} (h : PoolAt w p m (xr b i o T) [(id, q)]) (hqx : Supd T q.x) {A : Option Addr} {cA : Nat} (hs : Sl w 5 1 (.slice A 9 cA) 9 (bsC byRdy)) :
    Calls Tryz.prog 14 #[.pointer (some ⟨p, 0, none⟩), .int .i64 id, .slice A 9 cA, .int .u64 (T : Int), .int .u64 0] w fun e w' => ∃ A' c' y, e = .returned (.slice A' 1 c') ∧ (y.state ≠ 7 ∧ y.oth = some []) ∧ PoolAt w' p m (xr b 0 o T) [(id, { q with x := y })] ∧ Kept (poolS p m [(id, q)]) w w' := by
  have hmem := List.mem_singleton.2 (rfl : (id, q) = (id, q))
  have hag : aget id [(id, q)] = some q := by simp [aget]
  obtain ⟨A0, c0, hc0, hqx⟩ := hqx
  have hC := cnData_rdy (h.con _ hmem) (by show q.x.state = 2; rw [hqx]) (by show q.x.shake = 0; rw [hqx]; rfl) (n := 1) (by show q.x.ss = (XS.fresh 1).take 0 q.x.til; rw [hqx]; rfl) (by show Calm q.x; rw [hqx]; exact ⟨rfl, A0, c0, rfl, hc0⟩) (by show q.x.ks = _; rw [hqx]; rfl) (Ae := none) (ce := 0) (by show q.x.ev = _; rw [hqx]; rfl) (T : Int) hs
  refine (poData_ready h hag (T : Int) 0 hC ?_).mono ?_
  · rintro y Y W ⟨-, rfl⟩
    exact ⟨rfl, rfl, rfl, rfl, rfl⟩
  · rintro e w' ⟨A', c', y, Y, W, rfl, ⟨⟨A2, c2, hc2, rfl⟩, -⟩, hp, hk⟩
    rw [upd_one] at hp
    refine ⟨A', c', _, rfl, ⟨?_, ?_⟩, hp, hk⟩
    · show (6 : Int) ≠ 7; decide
    · show q.x.oth = some []
      rw [hqx]; rfl

set_option maxHeartbeats 8000000 in
set_option maxRecDepth 100000 in
theorem PoReadies_walk {w : World} (hm : MaxL w) (hT : Tab w) (b n : Nat) (hb : b ≤ 65535) (hn : n < 256) (rd : Bool) :
    Calls Tryz.prog 5 #[.int .u16 b, .int .u8 n, .bool rd] w fun e w' => e = .returned (.bool true) ∧ Kept noBlock w w' := by
  have HAW := Lib.hid (aw22_at hm hT)
  have HM := Lib.hid hm
  have HT := Lib.hid hT
  have hwb : IntKind.u64.wrap (b : Int) = (b : Int) := by rw [IntKind.wrap_u64]; omega
  obtain ⟨k, hk8, hke⟩ : ∃ k : Nat, k < 8 ∧ k = n % 8 := ⟨_, Nat.mod_lt _ (by decide), rfl⟩
  have hkm : Int.tmod (n : Int) 8 = (k : Int) := by rw [Int.tmod_eq_emod_of_nonneg (by omega)]; omega
  have hkw : IntKind.i64.wrap (k : Int) = (k : Int) := by rw [IntKind.wrap_i64]; omega
  clear hm hT hke
  go_enter Tryz.func5, Tryz.ntmps5
  go_wp2_with fail
  go_at_call 8
  refine HAW.out.mono ?_
  rintro e w1 ⟨rfl, hk1⟩
  have HNP := Lib.hid (poNew_at (w := w1) 1 1 (by decide) (by decide) (by decide) (b + 1) 1125899906842624 0 1 (by decide) (by decide) noStr (show noStr.size ≤ 300000 by decide) 1152921504606846976 1152921504606846976 1 (by decide) 1 (by decide) (HM.out.keptN hk1) (HT.out.kept hk1 (fun e => e)))
  unfold poCfgC at HNP
  rw [show ((b + 1 : Nat) : Int) = (b : Int) + 1 by omega] at HNP
  have HK1 := Lib.hid hk1
  clear hk1
  go_wp2_with fail
  go_at_call 9
  refine HNP.out.mono ?_
  rintro e w2 ⟨p, m, rfl, hp2, hk2, hpp, hmm⟩
  have HP2 : Hid (PoolAt w2 p m (xr (b + 1) 0 0 0) []) := Lib.hid hp2
  have HK2 := Lib.hid (HK1.out.trans hk2 fun _ _ e => e)
  have HPP := Lib.hid (⟨Nat.le_trans HK1.out.size hpp, Nat.le_trans HK1.out.size hmm⟩ : w.heap.size ≤ p ∧ w.heap.size ≤ m)
  clear hp2 hk2 hpp hmm
  go_wp2_with fail
  go_loopg [12, 13] k (fun j v12 v13 wr => ∃ (i T : Nat), i + j = k ∧ v13 = .int .i64 i ∧ v12 = .int .u64 T ∧ T ≤ i * 1099511627776 ∧ PoolAt wr p m (xr (b + 1) i i T) [] ∧ Kept noBlock w wr)
  case atStart => exact ⟨0, 0, by omega, rfl, rfl, by omega, HP2.out, HK2.out⟩
  case round =>
    obtain ⟨i, T, hij, rfl, rfl, hTb, hpool, hk⟩ := hrel
    have HIJ := Lib.hid hij
    have HK := Lib.hid hk
    have hi7 : i ≤ 7 := by omega
    have hT2 : T ≤ 10000000000000 := by omega
    have HTK := Lib.hid (tick1 hpool (by omega) (by omega))
    by_cases hi : i < k
    · have hdly := (delay0 (b := b + 1) (i := i) (by omega) (by omega)).2
      have hsw : IntKind.u64.wrap (((b : Int) + 1) * 2 ^ i) = (((b + 1) * 2 ^ i : Nat) : Int) := by
        have e : ((b : Int) + 1) * 2 ^ i = (((b + 1) * 2 ^ i : Nat) : Int) := by push_cast; rfl
        rw [e, IntKind.wrap_u64]
        generalize (b + 1) * 2 ^ i = z at *
        omega
      obtain ⟨dl, hdl⟩ : ∃ dl, (b + 1) * 2 ^ i = dl := ⟨_, rfl⟩
      obtain ⟨T2, hT2e⟩ : ∃ T2, T + dl = T2 := ⟨_, rfl⟩
      rw [hdl] at hdly hsw
      have HTE := Lib.hid hT2e
      have HDE := Lib.hid hdl
      clear hij hpool hk hT2e hdl
      go_wp2_with fail
      go_at_call 10
      refine HTK.out.mono ?_
      rintro e w3 ⟨A3, c3, q, rfl, hqx, hp3, hk3⟩
      have HBRK := Lib.hid (brk1 hp3 (by rw [hqx]; show (1 : Int) ≠ 7; decide) (by rw [hqx]; rfl) (by omega) (by omega) (by omega))
      rw [HDE.out, HTE.out] at HBRK
      have HK3 := Lib.hid (keep_pool HK.out hk3 HPP.out (fun q hq => absurd hq List.not_mem_nil))
      have HLOW : Hid (∀ r ∈ [((i : Int), q)], p < r.2.lo) := Lib.hid fun r hr => (hp3.low r hr).1
      clear hp3 hk3 hqx
      go_wp2_with fail
      go_at_call 11
      refine HBRK.out.mono ?_
      rintro e w4 ⟨A4, c4, rfl, hp4, hk4⟩
      have HK4 := Lib.hid (keep_pool HK3.out hk4 HPP.out HLOW.out)
      have HP4 := Lib.hid hp4
      obtain ⟨i1, hi1⟩ : ∃ i1, i + 1 = i1 := ⟨_, rfl⟩
      rw [hi1] at hp4 HP4
      have HI1 := Lib.hid hi1
      have HNX : Hid (Calls Tryz.prog 13 #[.pointer (some ⟨p, 0, none⟩)] w4 fun e w' => e = .returned (.tuple #[.int .u64 (T2 : Int), .int .u64 (i1 : Int)]) ∧ Kept noBlock w4 w') := Lib.hid (poNext_at hp4)
      have hne1 : ((T2 : Int) != (T : Int) + (dl : Int)) = false := by
        have : (T2 : Int) = (T : Int) + (dl : Int) := by have := HTE.out; omega
        rw [this]; simp
      have hne2 : ((i1 : Int) != (i : Int) + 1) = false := by
        have : (i1 : Int) = (i : Int) + 1 := by omega
        rw [this]; simp
      have hT3 : T2 ≤ (i + 1) * 1099511627776 := by have := HTE.out; omega
      have hT2c : (T2 : Int) ≤ 10000000000000 := by have := HTE.out; omega
      have hiw : IntKind.u64.wrap (i : Int) = (i : Int) := by rw [IntKind.wrap_u64]; omega
      clear hp4 hk4 hi1
      go_wp2_with fail
      go_at_call 13
      refine HNX.out.mono ?_
      rintro e w5 ⟨rfl, hk5⟩
      have HP5 := Lib.hid (HP4.out.keptN hk5)
      have HK5 := Lib.hid (HK4.out.trans hk5 fun _ _ e => e)
      clear hk5
      go_wp2_with fail
      go_roundg (k - i1)
      case measure => have := HIJ.out; have := HI1.out; omega
      case rel => exact ⟨i1, T2, by have := HIJ.out; have := HI1.out; omega, by have h := HI1.out; rw [show ((i1 : Nat) : Int) = (i : Int) + 1 by omega], rfl, by rw [← HI1.out]; exact hT3, HP5.out, HK5.out⟩
    · obtain rfl : i = k := by omega
      obtain ⟨dl, hdl⟩ : ∃ dl, (b + 1) * 2 ^ i = dl := ⟨_, rfl⟩
      obtain ⟨T2, hT2e⟩ : ∃ T2, T + dl = T2 := ⟨_, rfl⟩
      have hdly := (delay0 (b := b + 1) (i := i) (by omega) (by omega)).2
      have hsw : IntKind.u64.wrap (((b : Int) + 1) * 2 ^ i) = (((b + 1) * 2 ^ i : Nat) : Int) := by
        have e : ((b : Int) + 1) * 2 ^ i = (((b + 1) * 2 ^ i : Nat) : Int) := by push_cast; rfl
        rw [e, IntKind.wrap_u64]
        generalize (b + 1) * 2 ^ i = z at *
        omega
      rw [hdl] at hdly hsw
      have HTE := Lib.hid hT2e
      have HDE := Lib.hid hdl
      clear hij hpool hk hT2e hdl
      go_wp2_with fail
      go_at_call 10
      refine HTK.out.mono ?_
      rintro e w3 ⟨A3, c3, q, rfl, hqx, hp3, hk3⟩
      have HK3 := Lib.hid (keep_pool HK.out hk3 HPP.out (fun q hq => absurd hq List.not_mem_nil))
      have HLOW := Lib.hid (hp3.low _ (List.mem_singleton.2 rfl))
      have HP3 := Lib.hid hp3
      have HQX := Lib.hid hqx
      clear hp3 hk3 hqx
      cases rd with
      | false =>
        have HBRK := Lib.hid (brk1 HP3.out (by rw [HQX.out]; show (1 : Int) ≠ 7; decide) (by rw [HQX.out]; rfl) (by omega) (by omega) (by omega))
        rw [HDE.out, HTE.out] at HBRK
        go_wp2_with fail
        go_at_call 11
        refine HBRK.out.mono ?_
        rintro e w4 ⟨A4, c4, rfl, hp4, hk4⟩
        have HK4 := Lib.hid (keep_pool HK3.out hk4 HPP.out (fun r hr => by obtain rfl := List.mem_singleton.1 hr; exact HLOW.out.1))
        obtain ⟨i1, hi1⟩ : ∃ i1, i + 1 = i1 := ⟨_, rfl⟩
        rw [hi1] at hp4
        have HNX : Hid (Calls Tryz.prog 13 #[.pointer (some ⟨p, 0, none⟩)] w4 fun e w' => e = .returned (.tuple #[.int .u64 (T2 : Int), .int .u64 (i1 : Int)]) ∧ Kept noBlock w4 w') := Lib.hid (poNext_at hp4)
        have hne1 : ((T2 : Int) == (T : Int) + (dl : Int)) = true := by
          have : (T2 : Int) = (T : Int) + (dl : Int) := by have := HTE.out; omega
          rw [this]; simp
        have hne2 : ((i1 : Int) == (i : Int) + 1) = true := by
          have : (i1 : Int) = (i : Int) + 1 := by omega
          rw [this]; simp
        have hT2c : (T2 : Int) ≤ 100000000000000 := by have := HTE.out; omega
        have hiw : IntKind.u64.wrap (i : Int) = (i : Int) := by rw [IntKind.wrap_u64]; omega
        clear hp4 hk4 hi1
        go_wp2_with fail
        go_at_call 13
        refine HNX.out.mono ?_
        rintro e w5 ⟨rfl, hk5⟩
        have HK5 := Lib.hid (HK4.out.trans hk5 fun _ _ e => e)
        clear hk5
        go_wp2
        go_ret
        exact ⟨rfl, HK5.out⟩
      | true =>
        have HB3 := Lib.hid (Blk.new w3 5 #[.int .u8 132, .int .u8 0, .int .u8 0, .int .u8 0, .int .u8 6, .int .u8 0, .int .u8 0, .int .u8 0, .int .u8 2, .int .u8 0, .int .u8 0])
        have HA3 := Lib.hid ((Kept.refl noBlock w3).alloc (.cells #[.int .u8 132, .int .u8 0, .int .u8 0, .int .u8 0, .int .u8 6, .int .u8 0, .int .u8 0, .int .u8 0, .int .u8 2, .int .u8 0, .int .u8 0] 5))
        have HD3 := Lib.hid (dat1 (HP3.out.keptN HA3.out) HQX.out (Sl.made_at (sz := 1) (n := 11) HB3.out (bsC bySup) rfl rfl (by decide)))
        go_wp2_with fail
        go_at_call 14
        refine HD3.out.mono ?_
        rintro e w4 ⟨A4, c4, y4, rfl, hy4, hp4, hk4⟩
        have HK4 := Lib.hid (keep_pool (HK3.out.trans HA3.out fun _ _ e => e) hk4 HPP.out (fun r hr => by obtain rfl := List.mem_singleton.1 hr; exact HLOW.out.1))
        have HP4 := Lib.hid hp4
        have HY4 := Lib.hid hy4
        have HB4 := Lib.hid (Blk.new w4 5 #[.int .u8 132, .int .u8 0, .int .u8 0, .int .u8 0, .int .u8 2, .int .u8 0, .int .u8 0, .int .u8 0, .int .u8 0])
        have HA4 := Lib.hid ((Kept.refl noBlock w4).alloc (.cells #[.int .u8 132, .int .u8 0, .int .u8 0, .int .u8 0, .int .u8 2, .int .u8 0, .int .u8 0, .int .u8 0, .int .u8 0] 5))
        have HD4 := Lib.hid (dat2 (HP4.out.keptN HA4.out) HY4.out (Sl.made_at (sz := 1) (n := 9) HB4.out (bsC byRdy) rfl rfl (by decide)))
        clear hp4 hk4 hy4
        go_wp2_with fail
        go_at_call 14
        refine HD4.out.mono ?_
        rintro e w5 ⟨A5, c5, y5, rfl, hy5, hp5, hk5⟩
        have HK5 := Lib.hid (keep_pool (HK4.out.trans HA4.out fun _ _ e => e) hk5 HPP.out (fun r hr => by obtain rfl := List.mem_singleton.1 hr; exact HLOW.out.1))
        have HBRK := Lib.hid (brk1 hp5 hy5.1 hy5.2 (by omega) (by omega) (by omega))
        rw [show (b + 1) * 2 ^ 0 = b + 1 by omega] at HBRK
        obtain ⟨T3, hT3⟩ : ∃ T3, T + (b + 1) = T3 := ⟨_, rfl⟩
        rw [hT3] at HBRK
        have HT3 := Lib.hid hT3
        clear hp5 hk5 hy5 hT3
        go_wp2_with fail
        go_at_call 11
        refine HBRK.out.mono ?_
        rintro e w6 ⟨A6, c6, rfl, hp6, hk6⟩
        have HK6 := Lib.hid (keep_pool HK5.out hk6 HPP.out (fun r hr => by obtain rfl := List.mem_singleton.1 hr; exact HLOW.out.1))
        have HNX : Hid (Calls Tryz.prog 13 #[.pointer (some ⟨p, 0, none⟩)] w6 fun e w' => e = .returned (.tuple #[.int .u64 (T3 : Int), .int .u64 1]) ∧ Kept noBlock w6 w') := Lib.hid (poNext_at hp6)
        have hne1 : ((T3 : Int) == (T : Int) + ((b : Int) + 1)) = true := by
          have : (T3 : Int) = (T : Int) + ((b : Int) + 1) := by have := HT3.out; omega
          rw [this]; simp
        have hT2c : (T3 : Int) ≤ 100000000000000 := by have := HT3.out; omega
        clear hp6 hk6
        go_wp2_with fail
        go_at_call 13
        refine HNX.out.mono ?_
        rintro e w7 ⟨rfl, hk7⟩
        have HK7 := Lib.hid (HK6.out.trans hk7 fun _ _ e => e)
        clear hk7
        go_wp2
        go_ret
        exact ⟨rfl, HK7.out⟩
end Go.Proofs.YtfnjoceolcdeoaaGreatDoor

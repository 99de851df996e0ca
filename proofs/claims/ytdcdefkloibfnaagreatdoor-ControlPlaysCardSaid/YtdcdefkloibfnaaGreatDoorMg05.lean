/- The reference's Read: a loop over the bytes · control.tokens: the tokens of a cell. -/
import Derived.Test.YtdcdefkloibfnaaGreatDoorMg04
namespace Go.Proofs.YtdcdefkloibfnaaGreatDoor
set_option linter.unusedVariables false
open Go.RowKit

theorem rgo_next {l : List UInt8} {k : Nat} {c : UInt8} (h : l[k]? = some c) (n : Int) : rgo n (l.drop k) = if c.toNat < 48 ∨ 57 < c.toNat then none else
    if n < -922337203685477580 ∨ (n = -922337203685477580 ∧ 8 < (c.toNat : Int) - 48) then none else rgo (n * 10 - ((c.toNat : Int) - 48)) (l.drop (k + 1)) := by
  rw [List.drop_eq_getElem_cons (List.getElem?_eq_some_iff.1 h).1, (List.getElem?_eq_some_iff.1 h).2]
  rfl
def outP : Option Int → Int × Int
  | none => (0, 11)
  | some n => if n = -9223372036854775808 then (0, 11) else (-n, 0)
def outN : Option Int → Int × Int
  | none => (0, 11)
  | some n => (n, 0)
set_option maxHeartbeats 4000000 in
set_option maxRecDepth 100000 in
theorem r3Read_plain {s : ByteArray} (hs : s.size ≤ 1000) (h0 : 0 < s.size) (h45 : ((s[0].toNat : Int) == 45) = false) (w : World) {R : Option Int} (hR : rgo 0 s.data.toList = R) : Calls Tryz.prog 60 #[.string s] w fun e w' => e = .returned (.tuple #[.int .i64 (outP R).1, .int .i64 (outP R).2]) ∧ w' = w := by
  have hz : ((0 : Int) == (s.size : Int)) = false := by rw [beq_eq_false_iff_ne]; omega
  have START := Lib.hid (show ∃ k n, k + s.size = s.size ∧ (Value.int .i64 0) = .int .i64 (k : Nat) ∧ (Value.int .i64 0) = .int .i64 n ∧ -9223372036854775808 ≤ n ∧ n ≤ 0 ∧ rgo n (s.data.toList.drop k) = R ∧ True from ⟨0, 0, by omega, rfl, rfl, by omega, by omega, hR, trivial⟩)
  clear hR
  go_enter Tryz.func60, Tryz.ntmps60
  go_wp2_with fail
  go_loopg [5, 6] s.size (fun j vn vi wr => ∃ k n, k + j = s.size ∧ vi = .int .i64 (k : Nat) ∧ vn = .int .i64 n ∧ -9223372036854775808 ≤ n ∧ n ≤ 0 ∧ rgo n (s.data.toList.drop k) = R ∧ wr = w)
  case atStart =>
    obtain ⟨k, n, h1, h2, h3, h4, h5, h6, -⟩ := START.out
    exact ⟨k, n, h1, h2, h3, h4, h5, h6, rfl⟩
  case round =>
    obtain ⟨k, n, hkj, rfl, rfl, hn1, hn2, hr, rfl⟩ := hrel
    clear START
    have HKJ := Lib.hid hkj
    have HR := Lib.hid hr
    by_cases hlt : k < s.size
    · have hc : s.data.toList[k]? = some s[k] := by rw [List.getElem?_eq_getElem (by simpa using hlt)]; rfl
      have hnx := rgo_next hc n
      rw [hr] at hnx
      have hw1 : IntKind.i64.wrap ((k : Int) + 1) = (k : Int) + 1 := by rw [IntKind.wrap_i64]; omega
      clear hkj hr hc
      by_cases hlo : (s[k].toNat : Int) < 48
      · rw [if_pos (by omega)] at hnx
        have HNX := Lib.hid hnx
        clear hnx
        go_wp2
        go_ret2
        rw [HNX.out]
        exact ⟨rfl, rfl⟩
      by_cases hhi : 57 < (s[k].toNat : Int)
      · rw [if_pos (by omega)] at hnx
        have HNX := Lib.hid hnx
        clear hnx
        go_wp2
        go_ret2
        rw [HNX.out]
        exact ⟨rfl, rfl⟩
      rw [if_neg (by omega)] at hnx
      by_cases hov : n < -922337203685477580
      · rw [if_pos (.inl hov)] at hnx
        have HNX := Lib.hid hnx
        clear hnx
        go_wp2
        go_ret2
        rw [HNX.out]
        exact ⟨rfl, rfl⟩
      by_cases hed : n = -922337203685477580
      · subst hed
        by_cases h8 : 8 < (s[k].toNat : Int) - 48
        · rw [if_pos (.inr ⟨rfl, h8⟩)] at hnx
          have HNX := Lib.hid hnx
          clear hnx
          go_wp2
          go_ret2
          rw [HNX.out]
          exact ⟨rfl, rfl⟩
        · rw [if_neg (by omega)] at hnx
          have HNX := Lib.hid hnx
          clear hnx
          go_wp2
          go_roundg (s.size - (k + 1))
          case measure => have := HKJ.out; omega
          case rel => exact ⟨k + 1, _, by omega, by go_num, rfl, by omega, by omega, HNX.out.symm, rfl⟩
      · have hed' : (n == -922337203685477580) = false := by rw [beq_eq_false_iff_ne]; exact hed
        rw [if_neg (by omega)] at hnx
        have HNX := Lib.hid hnx
        clear hnx
        go_wp2
        go_roundg (s.size - (k + 1))
        case measure => have := HKJ.out; omega
        case rel => exact ⟨k + 1, _, by omega, by go_num, rfl, by omega, by omega, HNX.out.symm, rfl⟩
    · have hke : k = s.size := by omega
      have hd : s.data.toList.drop k = [] := List.drop_eq_nil_of_le (by rw [hke]; exact Nat.le_refl _)
      rw [hd] at hr
      have HRR := Lib.hid hr
      clear hr hd HR
      by_cases hm : n = -9223372036854775808
      · subst hm
        go_wp2
        go_ret2
        rw [← HRR.out]
        exact ⟨rfl, rfl⟩
      · have hm' : (n == -9223372036854775808) = false := by rw [beq_eq_false_iff_ne]; exact hm
        have hmn : IntKind.i64.wrap (-n) = -n := by rw [IntKind.wrap_i64]; omega
        go_wp2
        go_ret2
        have ho : outP R = (-n, 0) := by rw [← HRR.out]; exact if_neg hm
        rw [ho]
        exact ⟨rfl, rfl⟩
set_option maxHeartbeats 4000000 in
set_option maxRecDepth 100000 in
theorem r3Read_neg {s : ByteArray} (hs : s.size ≤ 1000) (h1 : 1 < s.size) (h45 : (((s[0]'(by omega)).toNat : Int) == 45) = true) (w : World) {R : Option Int} (hR : rgo 0 (s.data.toList.drop 1) = R) : Calls Tryz.prog 60 #[.string s] w fun e w' => e = .returned (.tuple #[.int .i64 (outN R).1, .int .i64 (outN R).2]) ∧ w' = w := by
  have h0 : 0 < s.size := by omega
  have hz : ((1 : Int) == (s.size : Int)) = false := by rw [beq_eq_false_iff_ne]; omega
  have START := Lib.hid (show ∃ k n, k + (s.size - 1) = s.size ∧ (Value.int .i64 1) = .int .i64 (k : Nat) ∧ (Value.int .i64 0) = .int .i64 n ∧ -9223372036854775808 ≤ n ∧ n ≤ 0 ∧ rgo n (s.data.toList.drop k) = R ∧ True from ⟨1, 0, by omega, rfl, rfl, by omega, by omega, hR, trivial⟩)
  clear hR
  go_enter Tryz.func60, Tryz.ntmps60
  go_wp2_with fail
  go_loopg [5, 6] (s.size - 1) (fun j vn vi wr => ∃ k n, k + j = s.size ∧ vi = .int .i64 (k : Nat) ∧ vn = .int .i64 n ∧ -9223372036854775808 ≤ n ∧ n ≤ 0 ∧ rgo n (s.data.toList.drop k) = R ∧ wr = w)
  case atStart =>
    obtain ⟨k, n, h1, h2, h3, h4, h5, h6, -⟩ := START.out
    exact ⟨k, n, h1, h2, h3, h4, h5, h6, rfl⟩
  case round =>
    obtain ⟨k, n, hkj, rfl, rfl, hn1, hn2, hr, rfl⟩ := hrel
    clear START
    have HKJ := Lib.hid hkj
    have HR := Lib.hid hr
    by_cases hlt : k < s.size
    · have hc : s.data.toList[k]? = some s[k] := by rw [List.getElem?_eq_getElem (by simpa using hlt)]; rfl
      have hnx := rgo_next hc n
      rw [hr] at hnx
      have hw1 : IntKind.i64.wrap ((k : Int) + 1) = (k : Int) + 1 := by rw [IntKind.wrap_i64]; omega
      clear hkj hr hc
      by_cases hlo : (s[k].toNat : Int) < 48
      · rw [if_pos (by omega)] at hnx
        have HNX := Lib.hid hnx
        clear hnx
        go_wp2
        go_ret2
        rw [HNX.out]
        exact ⟨rfl, rfl⟩
      by_cases hhi : 57 < (s[k].toNat : Int)
      · rw [if_pos (by omega)] at hnx
        have HNX := Lib.hid hnx
        clear hnx
        go_wp2
        go_ret2
        rw [HNX.out]
        exact ⟨rfl, rfl⟩
      rw [if_neg (by omega)] at hnx
      by_cases hov : n < -922337203685477580
      · rw [if_pos (.inl hov)] at hnx
        have HNX := Lib.hid hnx
        clear hnx
        go_wp2
        go_ret2
        rw [HNX.out]
        exact ⟨rfl, rfl⟩
      by_cases hed : n = -922337203685477580
      · subst hed
        by_cases h8 : 8 < (s[k].toNat : Int) - 48
        · rw [if_pos (.inr ⟨rfl, h8⟩)] at hnx
          have HNX := Lib.hid hnx
          clear hnx
          go_wp2
          go_ret2
          rw [HNX.out]
          exact ⟨rfl, rfl⟩
        · rw [if_neg (by omega)] at hnx
          have HNX := Lib.hid hnx
          clear hnx
          go_wp2
          go_roundg (s.size - (k + 1))
          case measure => have := HKJ.out; omega
          case rel => exact ⟨k + 1, _, by omega, by go_num, rfl, by omega, by omega, HNX.out.symm, rfl⟩
      · have hed' : (n == -922337203685477580) = false := by rw [beq_eq_false_iff_ne]; exact hed
        rw [if_neg (by omega)] at hnx
        have HNX := Lib.hid hnx
        clear hnx
        go_wp2
        go_roundg (s.size - (k + 1))
        case measure => have := HKJ.out; omega
        case rel => exact ⟨k + 1, _, by omega, by go_num, rfl, by omega, by omega, HNX.out.symm, rfl⟩
    · have hke : k = s.size := by omega
      have hd : s.data.toList.drop k = [] := List.drop_eq_nil_of_le (by rw [hke]; exact Nat.le_refl _)
      rw [hd] at hr
      have HRR := Lib.hid hr
      clear hr hd HR
      go_wp2
      go_ret2
      rw [← HRR.out]
      exact ⟨rfl, rfl⟩

set_option maxHeartbeats 1000000 in
set_option maxRecDepth 100000 in
theorem r3Read_none (s : ByteArray) (h : s.size = 0) (w : World) : Calls Tryz.prog 60 #[.string s] w fun e w' => e = .returned (.tuple #[.int .i64 0, .int .i64 11]) ∧ w' = w := by
  have hz : ((0 : Int) == (s.size : Int)) = true := by rw [beq_iff_eq]; omega
  go_enter Tryz.func60, Tryz.ntmps60
  go_wp2
  go_ret2
  exact ⟨rfl, rfl⟩
set_option maxHeartbeats 1000000 in
set_option maxRecDepth 100000 in
theorem r3Read_minus (s : ByteArray) (h : s.size = 1) (h45 : (((s[0]'(by omega)).toNat : Int) == 45) = true) (w : World) : Calls Tryz.prog 60 #[.string s] w fun e w' => e = .returned (.tuple #[.int .i64 0, .int .i64 11]) ∧ w' = w := by
  have hz : ((1 : Int) == (s.size : Int)) = true := by rw [beq_iff_eq]; omega
  go_enter Tryz.func60, Tryz.ntmps60
  go_wp2
  go_ret2
  exact ⟨rfl, rfl⟩
/-- The reference's Read. -/
theorem r3Read_at {s : ByteArray} (hs : s.size ≤ 1000) (w : World) : Calls Tryz.prog 60 #[.string s] w fun e w' => e = .returned (.tuple #[.int .i64 (refRead s.data.toList).1, .int .i64 (refRead s.data.toList).2]) ∧ w' = w := by
  by_cases h0 : s.size = 0
  · have hl : s.data.toList = [] := List.eq_nil_of_length_eq_zero h0
    rw [hl]
    exact r3Read_none s h0 w
  have hp : 0 < s.size := by omega
  obtain ⟨c, r, hl⟩ : ∃ c r, s.data.toList = c :: r := by
    cases h : s.data.toList with
    | nil => exact absurd (show s.size = 0 from congrArg List.length h) h0
    | cons c r => exact ⟨c, r, rfl⟩
  have hsz : s.size = r.length + 1 := congrArg List.length hl
  have hc : s[0] = c := by
    have h1 : s.data.toList[0]? = some s[0] := by rw [List.getElem?_eq_getElem (by simpa using hp)]; rfl
    rw [hl] at h1
    exact (Option.some.inj h1).symm
  by_cases h45 : c = 45
  · subst h45
    have hb : ((s[0].toNat : Int) == 45) = true := by rw [hc]; rfl
    by_cases h1 : s.size = 1
    · obtain rfl : r = [] := List.eq_nil_of_length_eq_zero (by omega)
      rw [hl]
      exact r3Read_minus s h1 hb w
    · have hr : refRead s.data.toList = outN (rgo 0 r) := by
        rw [hl]
        unfold refRead
        simp only [List.head?_cons, if_true, List.drop_succ_cons, List.drop_zero]
        rw [if_neg (by intro hx; rw [hx] at hsz; exact h1 hsz)]
        cases rgo 0 r <;> rfl
      rw [hr]
      exact r3Read_neg hs (by omega) hb w (by rw [hl]; rfl)
  · have hb : ((s[0].toNat : Int) == 45) = false := by
      rw [hc, beq_eq_false_iff_ne]
      intro hx
      exact h45 (UInt8.toNat_inj.1 (by have : c.toNat = 45 := by omega
                                       exact this))
    have hr : refRead s.data.toList = outP (rgo 0 s.data.toList) := by
      rw [hl]
      unfold refRead
      have hn : ¬ ((c :: r).head? = some 45) := by simpa using h45
      simp only [hn, if_false]
      rw [if_neg (by simp)]
      cases rgo 0 (c :: r) <;> rfl
    rw [hr]
    exact r3Read_plain hs hp hb w rfl
end Go.Proofs.YtdcdefkloibfnaaGreatDoor
namespace Go.Proofs.YtdcdefkloibfnaaGreatDoor
set_option linter.unusedVariables false
open Go.RowKit

theorem i64sT' : SlT Tryz.prog 92 2 (.int .i64 0) 1 8 := ⟨Tryz.underlying92, by kernel_rfl, rfl, by decide, by decide⟩
/-- What the loop over the tokens has. -/
def TokInv (w : World) (l0 : List UInt8) (N j : Nat) (vo vb vi : Value) (wr : World) : Prop :=
  ∃ (i : Nat) (out : List Int) (rest : List UInt8) (A : Option Addr) (c : Nat), i + j = N ∧ vi = .int .u64 i ∧ vb = .slice A rest.length c ∧ out.length = i ∧ 4 * i + rest.length ≤ l0.length ∧
    tokGo N l0 = (tokGo j rest).map (fun q => (out ++ q.1, q.2)) ∧ wr.ownsRow w.heap.size 2 1 vo out.length (out.map (Value.int .i64)) ∧ SlK wr (fun g _ => g < w.heap.size) 1 vb rest.length (bsC rest) ∧ Kept noBlock w wr
/-- What tokens gives. -/
def TokPost (w : World) (R : Option (List Int)) (e : Ending) (w' : World) : Prop :=
  Kept noBlock w w' ∧ match R with
  | none => e = .returned (.tuple #[.slice none 0 0, .int .i64 11])
  | some ts => ∃ v', e = .returned (.tuple #[v', .int .i64 0]) ∧ w'.ownsRow w.heap.size 2 1 v' ts.length (ts.map (Value.int .i64))
set_option maxHeartbeats 4000000 in
set_option maxRecDepth 100000 in
theorem cTokens_at {w : World} {B : Nat} {x : VV} (h : VVAt w B x) (hn : x.n ≤ 1000) (he : Errs w) :
    Calls Tryz.prog 30 #[.agg #[.int .i64 x.kind, .slice x.a x.n x.c]] w fun e w' => TokPost w (tokensP x.kind x.l) e w' := by
  obtain ⟨xk, xa, xn, xc, xl⟩ := x
  obtain ⟨hxl, hxs⟩ := h
  simp only at hxl hxs hn ⊢
  by_cases hk : xk = 2
  · subst hk
    by_cases h4 : xl.length < 4
    · have hp : tokensP 2 xl = none := by unfold tokensP; rw [if_neg (by decide), if_pos h4]
      rw [hp]
      have HG := Lib.hid (oGet_short (SlK.keptNone hxs ((Kept.refl noBlock w).alloc (.cells #[.int .i64 2, .slice xa xn xc] 25))) 4 (by omega) (by omega) (by omega))
      clear hxs hp
      go_enter Tryz.func30, Tryz.ntmps30
      go_wp2_with fail
      go_at_call 54
      refine HG.out.mono ?_
      rintro e w2 ⟨rfl, rfl⟩
      go_wp2
      go_ret2
      exact ⟨(Kept.refl noBlock w).alloc _, rfl⟩
    · have HG := Lib.hid (oGet_at (SlK.keptNone hxs.lo ((Kept.refl noBlock w).alloc (.cells #[.int .i64 2, .slice xa xn xc] 25))) 4 (by omega) (by omega) (by omega))
      have HS := Lib.hid (fun w => oSigned_at (beN (xl.take 4)) be4_lt w)
      by_cases hneg : s32 (beN (xl.take 4)) < 0
      · have hp : tokensP 2 xl = none := by unfold tokensP; rw [if_neg (by decide), if_neg h4, if_pos hneg]
        rw [hp]
        clear hxs hp
        go_enter Tryz.func30, Tryz.ntmps30
        go_wp2_with fail
        go_at_call 54
        refine HG.out.mono ?_
        rintro e w2 ⟨A, c, rfl, hs2, hg2⟩
        go_wp2_with fail
        go_at_call 55
        refine (HS.out _).mono ?_
        rintro e w3 ⟨rfl, rfl⟩
        go_wp2
        go_ret2
        exact ⟨((Kept.refl noBlock w).alloc _).trans hg2.kept fun _ _ h => h, rfl⟩
      · have hp : tokensP 2 xl = tokEnd (tokGo (beN (xl.take 4)) (xl.drop 4)) := by unfold tokensP; rw [if_neg (by decide), if_neg h4, if_neg hneg]
        rw [hp]
        have hN : beN (xl.take 4) < 2147483648 := by
          unfold s32 at hneg
          have := be4_lt (l := xl)
          split at hneg <;> omega
        have hl0 : (xl.drop 4).length = xn - 4 := by rw [List.length_drop, hxl]
        generalize xl.drop 4 = l0 at *
        generalize beN (xl.take 4) = N at *
        have HL0 := Lib.hid hl0
        have HE := Lib.hid he
        clear hxs hp he hl0
        go_enter Tryz.func30, Tryz.ntmps30
        go_wp2_with fail
        go_at_call 54
        refine HG.out.mono ?_
        rintro e w2 ⟨A, c, rfl, hs2, hg2⟩
        have hk2 : Kept noBlock w w2 := ((Kept.refl noBlock w).alloc _).trans hg2.kept fun _ _ h => h
        have START : Hid (TokInv w l0 N N (.slice none 0 0) (.slice A (xn - 4) c) (.int .u64 (0 : Nat)) w2) := Lib.hid ⟨0, [], l0, A, c, by omega, rfl, by rw [HL0.out], rfl, by omega, by cases tokGo N l0 <;> rfl, World.ownsRow_nil _ _ _ _, by rw [HL0.out]; exact SlK.keptNone hs2 hg2.kept, hk2⟩
        clear hs2 hg2 hk2
        go_wp2_with fail
        go_at_call 55
        refine (HS.out _).mono ?_
        rintro e w3 ⟨rfl, rfl⟩
        go_wp2_with fail
        go_loopg [7, 5, 30] N (fun j vo vb vi wr => TokInv w l0 N j vo vb vi wr)
        case atStart => exact START.out
        case round =>
          clear START
          obtain ⟨i, out, rest, A1, c1, hij, rfl, rfl, hol, hlen, heq, hown, hsl, hk⟩ := hrel
          have HIJ := Lib.hid hij
          have HOL := Lib.hid hol
          have HLEN := Lib.hid hlen
          have HEQ := Lib.hid heq
          have HOWN := Lib.hid hown
          have HSL := Lib.hid hsl
          have HK := Lib.hid hk
          obtain ⟨A0, c0, rfl, -, -⟩ := (Sl.of_own hown).shape
          clear hij hol hlen heq hown hsl hk
          by_cases hlt : i < N
          · obtain ⟨j, rfl⟩ : ∃ j, gk = j + 1 := ⟨N - (i + 1), by have := HIJ.out; omega⟩
            cases hg : getLongP rest with
            | none =>
              have HB := Lib.hid (pGetLong_bad HSL.out (by have := HLEN.out; have := HL0.out; omega) hg)
              have HR : Hid (tokEnd (tokGo N l0) = none) := Lib.hid (by rw [HEQ.out, tokGo_bad hg]; rfl)
              clear hg
              generalize getLongC rest = cd at *
              go_wp2_with fail
              go_at_call 56
              refine HB.out.mono ?_
              rintro e w4 ⟨rfl, hcd, hk4⟩
              have hcd2 : (cd != 0) = true := by simp [hcd]
              go_wp2
              go_ret2
              rw [HR.out]
              exact ⟨HK.out.trans hk4 fun _ _ h => h, rfl⟩
            | some p =>
              obtain ⟨a, r⟩ := p
              have HB := Lib.hid (pGetLong_at HSL.out (by have := HLEN.out; have := HL0.out; omega) hg)
              have hgl := getLong_len hg
              have HGL := Lib.hid hgl
              have hsz : (bS a).size ≤ 1000 := by show a.length ≤ 1000; have := HLEN.out; have := HL0.out; omega
              have HRD := Lib.hid (fun (W : World) (hW : Errs W) => Rread_at hsz W hW)
              have hcode := ringRead_code a
              have htoks : (bS a).data.toList = a := rfl
              rw [htoks] at HRD
              have HST : Hid ((ringRead a).2 ≠ 0 → tokEnd (tokGo N l0) = none) := Lib.hid fun h => by rw [HEQ.out, tokGo_bad2 hg h]; rfl
              have HNX : Hid ((ringRead a).2 = 0 → tokGo N l0 = (tokGo j r).map (fun q => ((out ++ [(ringRead a).1]) ++ q.1, q.2))) := Lib.hid fun h => by
                rw [HEQ.out, tokGo_ok hg h]
                cases tokGo j r <;> simp
              clear hg hgl hsz htoks
              generalize (ringRead a).1 = rv at *
              generalize (ringRead a).2 = rc at *
              go_wp2_with fail
              go_at_call 56
              refine HB.out.mono ?_
              rintro e w4 ⟨A2, c2, rfl, hs4, hk4⟩
              have HS4 := Lib.hid hs4
              have HK4 := Lib.hid (HK.out.trans hk4 fun _ _ h => h)
              have HO4 := Lib.hid (own_keptB HOWN.out hk4 (fun _ _ h => h))
              have hA4 : Errs w4 := HE.out.kept HK4.out
              have HE4 := Lib.hid hA4
              clear hs4 hk4 hA4
              go_wp2_with fail
              go_at_call 57
              refine (HRD.out _ HE4.out).mono ?_
              rintro e w5 ⟨rfl, hk5⟩
              have HS5 := Lib.hid (SlK.keptNone HS4.out hk5)
              have HK5 := Lib.hid (HK4.out.trans hk5 fun _ _ h => h)
              have HO5 := Lib.hid (own_keptB HO4.out hk5 (fun _ _ h => h))
              clear hk5
              rcases hcode with hc | hc
              · subst hc
                have HNX0 := Lib.hid (HNX.out rfl)
                have hN5 := HK5.out.size
                go_wp2_with (at_builtin; go_must (refine wpList_append_sl _ i64sT' rfl (.tmp 48) (.tmp 50) rfl w.heap.size _ out.length (out.map (Value.int .i64)) rfl (HO5.out.alloc _) _ 1 [.int .i64 rv] rfl (Sl.made_at (Blk.new _ 2 #[.int .i64 rv]) _ rfl rfl one_max) (by simp [Value.oneCell']) ?c1 ?c2 ?_))
                case c1 => have := HOL.out; have := HLEN.out; have := HL0.out; omega
                case c2 => simp only [sz_alloc]; omega
                intro v' w6 hap
                obtain ⟨A5, c5, rfl, -, -⟩ := (Sl.of_own hap.own).shape
                have hs6 := SlK.appended (HS5.out.alloc _) hap (HO5.out.alloc _) (Nat.le_refl _)
                have hk6 := hap.below (HO5.out.alloc _) (HK5.out.alloc _) (Nat.le_refl _)
                have FIN : Hid (TokInv w l0 N j (.slice A5 (out.length + 1) c5) (.slice A2 r.length c2) (.int .u64 ((i + 1 : Nat) : Int)) w6) := Lib.hid ⟨i + 1, out ++ [rv], r, A2, c2, by have := HIJ.out; omega, rfl, rfl, by rw [List.length_append, HOL.out]; rfl, by have := HLEN.out; have := HGL.out; omega, HNX0.out, by rw [List.length_append, List.map_append]; exact hap.own, hs6, hk6⟩
                clear hap hs6 hk6
                go_wp2_with fail
                go_roundg j
                case measure => omega
                case rel => exact FIN.out
              · subst hc
                have HST0 := Lib.hid (HST.out (by decide))
                go_wp2
                go_ret2
                rw [HST0.out]
                exact ⟨HK5.out, rfl⟩
          · obtain rfl : i = N := by have := HIJ.out; omega
            obtain rfl : gk = 0 := by have := HIJ.out; omega
            have hfin : tokGo i l0 = some (out, rest) := by rw [HEQ.out]; unfold tokGo; simp
            have HFIN := Lib.hid hfin
            have HO := Lib.hid HOWN.out
            clear hfin
            by_cases h0 : rest.length = 0
            · have HEND : Hid (tokEnd (tokGo i l0) = some out) := Lib.hid (by rw [HFIN.out]; exact if_pos h0)
              have h0' : ((rest.length : Nat) : Int) ≤ 0 := by omega
              go_wp2
              go_ret2
              rw [HEND.out]
              exact ⟨HK.out, _, rfl, HO.out⟩
            · have HEND : Hid (tokEnd (tokGo i l0) = none) := Lib.hid (by rw [HFIN.out]; exact if_neg h0)
              have h0' : (0 : Int) < ((rest.length : Nat) : Int) := by omega
              go_wp2
              go_ret2
              rw [HEND.out]
              exact ⟨HK.out, rfl⟩
  · have hp : tokensP xk xl = some [] := by unfold tokensP; rw [if_pos hk]
    rw [hp]
    clear hxs hp
    go_enter Tryz.func30, Tryz.ntmps30
    go_wp2
    go_ret2
    exact ⟨(Kept.refl noBlock w).alloc _, _, rfl, World.ownsRow_nil _ _ _ _⟩
end Go.Proofs.YtdcdefkloibfnaaGreatDoor

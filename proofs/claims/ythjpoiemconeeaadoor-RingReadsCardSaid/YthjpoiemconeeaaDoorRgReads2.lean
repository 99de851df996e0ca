/- The reference's Read: a loop over the bytes. -/
import Derived.Test.YthjpoiemconeeaaDoorRgReads
namespace Go.Proofs.YthjpoiemconeeaaDoor
set_option linter.unusedVariables false
open Go.RowKit

theorem rgo_next {l : List UInt8} {k : Nat} {c : UInt8} (h : l[k]? = some c) (n : Int) : rgo n (l.drop k) = if c.toNat < 48 ∨ 57 < c.toNat then none else
    if n < -922337203685477580 ∨ (n = -922337203685477580 ∧ 8 < (c.toNat : Int) - 48) then none else rgo (n * 10 - ((c.toNat : Int) - 48)) (l.drop (k + 1)) := by
  rw [List.drop_eq_getElem_cons (List.getElem?_eq_some_iff.1 h).1, (List.getElem?_eq_some_iff.1 h).2]
  rfl
def outP : Option Int → Int × Int
  | none => (0, 11)
  | some n => if n = -9223372036854775808 then (0, 11) else (-n, 0)
def outN : Option Int → Int × Int
  | none => (0, 11)
  | some n => (n, 0)
set_option maxHeartbeats 4000000 in
set_option maxRecDepth 100000 in
theorem r3Read_plain {s : ByteArray} (hs : s.size ≤ 1000) (h0 : 0 < s.size) (h45 : ((s[0].toNat : Int) == 45) = false) (w : World) {R : Option Int} (hR : rgo 0 s.data.toList = R) : Calls Tryd.prog 19 #[.string s] w fun e w' => e = .returned (.tuple #[.int .i64 (outP R).1, .int .i64 (outP R).2]) ∧ w' = w := by
  have hz : ((0 : Int) == (s.size : Int)) = false := by rw [beq_eq_false_iff_ne]; omega
  have START := Lib.hid (show ∃ k n, k + s.size = s.size ∧ (Value.int .i64 0) = .int .i64 (k : Nat) ∧ (Value.int .i64 0) = .int .i64 n ∧ -9223372036854775808 ≤ n ∧ n ≤ 0 ∧ rgo n (s.data.toList.drop k) = R ∧ True from ⟨0, 0, by omega, rfl, rfl, by omega, by omega, hR, trivial⟩)
  clear hR
  go_enter Tryd.func19, Tryd.ntmps19
  go_wp2_with fail
  go_loopg [5, 6] s.size (fun j vn vi wr => ∃ k n, k + j = s.size ∧ vi = .int .i64 (k : Nat) ∧ vn = .int .i64 n ∧ -9223372036854775808 ≤ n ∧ n ≤ 0 ∧ rgo n (s.data.toList.drop k) = R ∧ wr = w)
  case atStart =>
    obtain ⟨k, n, h1, h2, h3, h4, h5, h6, -⟩ := START.out
    exact ⟨k, n, h1, h2, h3, h4, h5, h6, rfl⟩
  case round =>
    obtain ⟨k, n, hkj, rfl, rfl, hn1, hn2, hr, rfl⟩ := hrel
    clear START
    have HKJ := Lib.hid hkj
    have HR := Lib.hid hr
    by_cases hlt : k < s.size
    · have hc : s.data.toList[k]? = some s[k] := by rw [List.getElem?_eq_getElem (by simpa using hlt)]; rfl
      have hnx := rgo_next hc n
      rw [hr] at hnx
      have hw1 : IntKind.i64.wrap ((k : Int) + 1) = (k : Int) + 1 := by rw [IntKind.wrap_i64]; omega
      clear hkj hr hc
      by_cases hlo : (s[k].toNat : Int) < 48
      · rw [if_pos (by omega)] at hnx
        have HNX := Lib.hid hnx
        clear hnx
        go_wp2
        go_ret2
        rw [HNX.out]
        exact ⟨rfl, rfl⟩
      by_cases hhi : 57 < (s[k].toNat : Int)
      · rw [if_pos (by omega)] at hnx
        have HNX := Lib.hid hnx
        clear hnx
        go_wp2
        go_ret2
        rw [HNX.out]
        exact ⟨rfl, rfl⟩
      rw [if_neg (by omega)] at hnx
      by_cases hov : n < -922337203685477580
      · rw [if_pos (.inl hov)] at hnx
        have HNX := Lib.hid hnx
        clear hnx
        go_wp2
        go_ret2
        rw [HNX.out]
        exact ⟨rfl, rfl⟩
      by_cases hed : n = -922337203685477580
      · subst hed
        by_cases h8 : 8 < (s[k].toNat : Int) - 48
        · rw [if_pos (.inr ⟨rfl, h8⟩)] at hnx
          have HNX := Lib.hid hnx
          clear hnx
          go_wp2
          go_ret2
          rw [HNX.out]
          exact ⟨rfl, rfl⟩
        · rw [if_neg (by omega)] at hnx
          have HNX := Lib.hid hnx
          clear hnx
          go_wp2
          go_roundg (s.size - (k + 1))
          case measure => have := HKJ.out; omega
          case rel => exact ⟨k + 1, _, by omega, by go_num, rfl, by omega, by omega, HNX.out.symm, rfl⟩
      · have hed' : (n == -922337203685477580) = false := by rw [beq_eq_false_iff_ne]; exact hed
        rw [if_neg (by omega)] at hnx
        have HNX := Lib.hid hnx
        clear hnx
        go_wp2
        go_roundg (s.size - (k + 1))
        case measure => have := HKJ.out; omega
        case rel => exact ⟨k + 1, _, by omega, by go_num, rfl, by omega, by omega, HNX.out.symm, rfl⟩
    · have hke : k = s.size := by omega
      have hd : s.data.toList.drop k = [] := List.drop_eq_nil_of_le (by rw [hke]; exact Nat.le_refl _)
      rw [hd] at hr
      have HRR := Lib.hid hr
      clear hr hd HR
      by_cases hm : n = -9223372036854775808
      · subst hm
        go_wp2
        go_ret2
        rw [← HRR.out]
        exact ⟨rfl, rfl⟩
      · have hm' : (n == -9223372036854775808) = false := by rw [beq_eq_false_iff_ne]; exact hm
        have hmn : IntKind.i64.wrap (-n) = -n := by rw [IntKind.wrap_i64]; omega
        go_wp2
        go_ret2
        have ho : outP R = (-n, 0) := by rw [← HRR.out]; exact if_neg hm
        rw [ho]
        exact ⟨rfl, rfl⟩
set_option maxHeartbeats 4000000 in
set_option maxRecDepth 100000 in
theorem r3Read_neg {s : ByteArray} (hs : s.size ≤ 1000) (h1 : 1 < s.size) (h45 : (((s[0]'(by omega)).toNat : Int) == 45) = true) (w : World) {R : Option Int} (hR : rgo 0 (s.data.toList.drop 1) = R) : Calls Tryd.prog 19 #[.string s] w fun e w' => e = .returned (.tuple #[.int .i64 (outN R).1, .int .i64 (outN R).2]) ∧ w' = w := by
  have h0 : 0 < s.size := by omega
  have hz : ((1 : Int) == (s.size : Int)) = false := by rw [beq_eq_false_iff_ne]; omega
  have START := Lib.hid (show ∃ k n, k + (s.size - 1) = s.size ∧ (Value.int .i64 1) = .int .i64 (k : Nat) ∧ (Value.int .i64 0) = .int .i64 n ∧ -9223372036854775808 ≤ n ∧ n ≤ 0 ∧ rgo n (s.data.toList.drop k) = R ∧ True from ⟨1, 0, by omega, rfl, rfl, by omega, by omega, hR, trivial⟩)
  clear hR
  go_enter Tryd.func19, Tryd.ntmps19
  go_wp2_with fail
  go_loopg [5, 6] (s.size - 1) (fun j vn vi wr => ∃ k n, k + j = s.size ∧ vi = .int .i64 (k : Nat) ∧ vn = .int .i64 n ∧ -9223372036854775808 ≤ n ∧ n ≤ 0 ∧ rgo n (s.data.toList.drop k) = R ∧ wr = w)
  case atStart =>
    obtain ⟨k, n, h1, h2, h3, h4, h5, h6, -⟩ := START.out
    exact ⟨k, n, h1, h2, h3, h4, h5, h6, rfl⟩
  case round =>
    obtain ⟨k, n, hkj, rfl, rfl, hn1, hn2, hr, rfl⟩ := hrel
    clear START
    have HKJ := Lib.hid hkj
    have HR := Lib.hid hr
    by_cases hlt : k < s.size
    · have hc : s.data.toList[k]? = some s[k] := by rw [List.getElem?_eq_getElem (by simpa using hlt)]; rfl
      have hnx := rgo_next hc n
      rw [hr] at hnx
      have hw1 : IntKind.i64.wrap ((k : Int) + 1) = (k : Int) + 1 := by rw [IntKind.wrap_i64]; omega
      clear hkj hr hc
      by_cases hlo : (s[k].toNat : Int) < 48
      · rw [if_pos (by omega)] at hnx
        have HNX := Lib.hid hnx
        clear hnx
        go_wp2
        go_ret2
        rw [HNX.out]
        exact ⟨rfl, rfl⟩
      by_cases hhi : 57 < (s[k].toNat : Int)
      · rw [if_pos (by omega)] at hnx
        have HNX := Lib.hid hnx
        clear hnx
        go_wp2
        go_ret2
        rw [HNX.out]
        exact ⟨rfl, rfl⟩
      rw [if_neg (by omega)] at hnx
      by_cases hov : n < -922337203685477580
      · rw [if_pos (.inl hov)] at hnx
        have HNX := Lib.hid hnx
        clear hnx
        go_wp2
        go_ret2
        rw [HNX.out]
        exact ⟨rfl, rfl⟩
      by_cases hed : n = -922337203685477580
      · subst hed
        by_cases h8 : 8 < (s[k].toNat : Int) - 48
        · rw [if_pos (.inr ⟨rfl, h8⟩)] at hnx
          have HNX := Lib.hid hnx
          clear hnx
          go_wp2
          go_ret2
          rw [HNX.out]
          exact ⟨rfl, rfl⟩
        · rw [if_neg (by omega)] at hnx
          have HNX := Lib.hid hnx
          clear hnx
          go_wp2
          go_roundg (s.size - (k + 1))
          case measure => have := HKJ.out; omega
          case rel => exact ⟨k + 1, _, by omega, by go_num, rfl, by omega, by omega, HNX.out.symm, rfl⟩
      · have hed' : (n == -922337203685477580) = false := by rw [beq_eq_false_iff_ne]; exact hed
        rw [if_neg (by omega)] at hnx
        have HNX := Lib.hid hnx
        clear hnx
        go_wp2
        go_roundg (s.size - (k + 1))
        case measure => have := HKJ.out; omega
        case rel => exact ⟨k + 1, _, by omega, by go_num, rfl, by omega, by omega, HNX.out.symm, rfl⟩
    · have hke : k = s.size := by omega
      have hd : s.data.toList.drop k = [] := List.drop_eq_nil_of_le (by rw [hke]; exact Nat.le_refl _)
      rw [hd] at hr
      have HRR := Lib.hid hr
      clear hr hd HR
      go_wp2
      go_ret2
      rw [← HRR.out]
      exact ⟨rfl, rfl⟩

set_option maxHeartbeats 1000000 in
set_option maxRecDepth 100000 in
theorem r3Read_none (s : ByteArray) (h : s.size = 0) (w : World) : Calls Tryd.prog 19 #[.string s] w fun e w' => e = .returned (.tuple #[.int .i64 0, .int .i64 11]) ∧ w' = w := by
  have hz : ((0 : Int) == (s.size : Int)) = true := by rw [beq_iff_eq]; omega
  go_enter Tryd.func19, Tryd.ntmps19
  go_wp2
  go_ret2
  exact ⟨rfl, rfl⟩
set_option maxHeartbeats 1000000 in
set_option maxRecDepth 100000 in
theorem r3Read_minus (s : ByteArray) (h : s.size = 1) (h45 : (((s[0]'(by omega)).toNat : Int) == 45) = true) (w : World) : Calls Tryd.prog 19 #[.string s] w fun e w' => e = .returned (.tuple #[.int .i64 0, .int .i64 11]) ∧ w' = w := by
  have hz : ((1 : Int) == (s.size : Int)) = true := by rw [beq_iff_eq]; omega
  go_enter Tryd.func19, Tryd.ntmps19
  go_wp2
  go_ret2
  exact ⟨rfl, rfl⟩
/-- The reference's Read. -/
theorem r3Read_at {s : ByteArray} (hs : s.size ≤ 1000) (w : World) : Calls Tryd.prog 19 #[.string s] w fun e w' => e = .returned (.tuple #[.int .i64 (refRead s.data.toList).1, .int .i64 (refRead s.data.toList).2]) ∧ w' = w := by
  by_cases h0 : s.size = 0
  · have hl : s.data.toList = [] := List.eq_nil_of_length_eq_zero h0
    rw [hl]
    exact r3Read_none s h0 w
  have hp : 0 < s.size := by omega
  obtain ⟨c, r, hl⟩ : ∃ c r, s.data.toList = c :: r := by
    cases h : s.data.toList with
    | nil => exact absurd (show s.size = 0 from congrArg List.length h) h0
    | cons c r => exact ⟨c, r, rfl⟩
  have hsz : s.size = r.length + 1 := congrArg List.length hl
  have hc : s[0] = c := by
    have h1 : s.data.toList[0]? = some s[0] := by rw [List.getElem?_eq_getElem (by simpa using hp)]; rfl
    rw [hl] at h1
    exact (Option.some.inj h1).symm
  by_cases h45 : c = 45
  · subst h45
    have hb : ((s[0].toNat : Int) == 45) = true := by rw [hc]; rfl
    by_cases h1 : s.size = 1
    · obtain rfl : r = [] := List.eq_nil_of_length_eq_zero (by omega)
      rw [hl]
      exact r3Read_minus s h1 hb w
    · have hr : refRead s.data.toList = outN (rgo 0 r) := by
        rw [hl]
        unfold refRead
        simp only [List.head?_cons, if_true, List.drop_succ_cons, List.drop_zero]
        rw [if_neg (by intro hx; rw [hx] at hsz; exact h1 hsz)]
        cases rgo 0 r <;> rfl
      rw [hr]
      exact r3Read_neg hs (by omega) hb w (by rw [hl]; rfl)
  · have hb : ((s[0].toNat : Int) == 45) = false := by
      rw [hc, beq_eq_false_iff_ne]
      intro hx
      exact h45 (UInt8.toNat_inj.1 (by have : c.toNat = 45 := by omega
                                       exact this))
    have hr : refRead s.data.toList = outP (rgo 0 s.data.toList) := by
      rw [hl]
      unfold refRead
      have hn : ¬ ((c :: r).head? = some 45) := by simpa using h45
      simp only [hn, if_false]
      rw [if_neg (by simp)]
      cases rgo 0 (c :: r) <;> rfl
    rw [hr]
    exact r3Read_plain hs hp hb w rfl
end Go.Proofs.YthjpoiemconeeaaDoor

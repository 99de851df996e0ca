/- The executor's soon: is the next extra try to be made? -/
import Derived.Test.YtooedjedncokpaaExWalk2
import Derived.Test.YtooedjedncokpaaMul
namespace Go.Proofs.Ytooedjedncokpaa
set_option linter.unusedVariables false
open Go.RowKit
open Go.ChangeMaps (setBlock)
theorem Mul64_is {hi lo : Int} (x y : Int) (hx0 : 0 ≤ x) (hx : x < 18446744073709551616) (hy0 : 0 ≤ y) (hy : y < 18446744073709551616) (w : World) (h1 : Hid (x * y / 18446744073709551616 = hi)) (h2 : Hid (x * y % 18446744073709551616 = lo)) :
    Calls Try.prog 43 #[.int .u64 x, .int .u64 y] w fun e w' => e = .returned (.tuple #[.int .u64 hi, .int .u64 lo]) ∧ w = w' := by
  have := Mul64_int x y hx0 hx hy0 hy w; rw [h1.out, h2.out] at this; exact this
theorem soon_arith {x y d hi lo : Int} (hx0 : 0 ≤ x) (hy0 : 0 ≤ y) (hd : d < 18446744073709551616) (h1 : x * y / 18446744073709551616 = hi) (h2 : x * y % 18446744073709551616 = lo) : (hi == 0 && decide (lo ≤ d)) = decide (x * y ≤ d) := by
  have h0 : 0 ≤ x * y := Int.mul_nonneg hx0 hy0
  generalize x * y = p at *
  subst h1; subst h2
  rw [Bool.eq_iff_iff]
  simp
  omega
set_option maxHeartbeats 800000 in
theorem soon_idem {b m : Nat} {r : XReq} (now : Int) {w : World} (h : ReqAt w b m r) (hi : r.idem = false) :
    Calls Try.prog 29 #[.pointer (some ⟨b, 0, none⟩), .int .u64 now] w fun e w' => e = .returned (.bool false) ∧ ∃ n, w' = w.drewN n := by
  obtain ⟨hv, hb, hs, hm⟩ := id h
  obtain ⟨A0, cap0, rfl, -, -⟩ := hs.shape
  obtain ⟨-, c1, c2, -, c4, c5, c6, -, -, -, -, c11, -, -⟩ := cells14 hb
  clear hb hs hm
  rw [hi] at c5
  clear hi h
  go_enter Try.func29, Try.ntmps29
  go_wp2
  go_quiet (fail)
  go_wp2
  go_ret
  exact ⟨rfl, nq, rfl⟩

set_option maxHeartbeats 800000 in
theorem soon_extra {b m : Nat} {r : XReq} (now : Int) {w : World} (h : ReqAt w b m r) (hi : r.idem = true) (hx : r.extraMax ≤ r.extra) :
    Calls Try.prog 29 #[.pointer (some ⟨b, 0, none⟩), .int .u64 now] w fun e w' => e = .returned (.bool false) ∧ ∃ n, w' = w.drewN n := by
  obtain ⟨hv, hb, hs, hm⟩ := id h
  obtain ⟨A0, cap0, rfl, -, -⟩ := hs.shape
  obtain ⟨-, c1, c2, -, c4, c5, c6, -, -, -, -, c11, -, -⟩ := cells14 hb
  clear hb hs hm
  rw [hi] at c5
  clear hi h
  go_enter Try.func29, Try.ntmps29
  go_wp2
  go_quiet (fail)
  go_wp2
  go_ret
  exact ⟨rfl, nq, rfl⟩

set_option maxHeartbeats 800000 in
theorem soon_hosts {b m : Nat} {r : XReq} (now : Int) {w : World} (h : ReqAt w b m r) (hi : r.idem = true) (hx : r.extra < r.extraMax) (hh : r.hosts = []) :
    Calls Try.prog 29 #[.pointer (some ⟨b, 0, none⟩), .int .u64 now] w fun e w' => e = .returned (.bool false) ∧ ∃ n, w' = w.drewN n := by
  obtain ⟨hv, hb, hs, hm⟩ := id h
  obtain ⟨A0, cap0, rfl, -, -⟩ := hs.shape
  obtain ⟨-, c1, c2, -, c4, c5, c6, -, -, -, -, c11, -, -⟩ := cells14 hb
  clear hb hs hm
  rw [hi] at c5
  rw [hh] at c4
  clear hi hh h
  go_enter Try.func29, Try.ntmps29
  go_wp2
  go_quiet (fail)
  go_wp2
  go_ret
  exact ⟨rfl, nq, rfl⟩

set_option maxHeartbeats 800000 in
theorem soon_early {b m : Nat} {r : XReq} (now : Int) {w : World} (h : ReqAt w b m r) (hi : r.idem = true) (hx : r.extra < r.extraMax) (hh : ¬ r.hosts = []) (hfr : now < r.frm) :
    Calls Try.prog 29 #[.pointer (some ⟨b, 0, none⟩), .int .u64 now] w fun e w' => e = .returned (.bool false) ∧ ∃ n, w' = w.drewN n := by
  obtain ⟨hv, hb, hs, hm⟩ := id h
  obtain ⟨A0, cap0, rfl, -, -⟩ := hs.shape
  obtain ⟨-, c1, c2, -, c4, c5, c6, -, -, -, -, c11, -, -⟩ := cells14 hb
  clear hb hs hm
  rw [hi] at c5
  have hl : (((r.hosts.length : Nat) : Int) == 0) = false := by simp; exact hh
  clear hh
  generalize r.hosts.length = n at *
  clear hi h
  go_enter Try.func29, Try.ntmps29
  go_wp2
  go_quiet (fail)
  go_wp2
  go_ret
  exact ⟨rfl, nq, rfl⟩

set_option maxHeartbeats 800000 in
theorem soon_last {b m : Nat} {r : XReq} (now : Int) {w : World} (h : ReqAt w b m r) (hi : r.idem = true) (hx : r.extra < r.extraMax) (hh : ¬ r.hosts = []) (hfr : r.frm ≤ now) (hn1 : now < 18446744073709551616) (hf0 : 0 ≤ r.frm) (he0 : 0 ≤ r.extra) (he1 : r.extra < 4611686018427387904) (hw0 : 0 ≤ r.wait) (hw1 : r.wait < 18446744073709551616) :
    Calls Try.prog 29 #[.pointer (some ⟨b, 0, none⟩), .int .u64 now] w fun e w' => e = .returned (.bool (decide (r.wait * (r.extra + 1) ≤ now - r.frm))) ∧ ∃ n, w' = w.drewN n := by
  obtain ⟨hv, hb, hs, hm⟩ := id h
  obtain ⟨A0, cap0, rfl, -, -⟩ := hs.shape
  obtain ⟨-, c1, c2, -, c4, c5, c6, -, -, -, -, c11, -, -⟩ := cells14 hb
  clear hb hs hm
  obtain ⟨hi', hH⟩ : ∃ x, Hid (r.wait * (r.extra + 1) / 18446744073709551616 = x) := ⟨_, rfl⟩
  obtain ⟨lo', hL⟩ : ∃ x, Hid (r.wait * (r.extra + 1) % 18446744073709551616 = x) := ⟨_, rfl⟩
  have e : decide (r.wait * (r.extra + 1) ≤ now - r.frm) = (hi' == 0 && decide (lo' ≤ now - r.frm)) := (soon_arith hw0 (by omega) (by omega) hH.out hL.out).symm
  rw [e]
  have y1 : 0 ≤ r.extra + 1 := by omega
  have y2 : r.extra + 1 < 18446744073709551616 := by omega
  rw [hi] at c5
  have hl : (((r.hosts.length : Nat) : Int) == 0) = false := by simp; exact hh
  clear hh
  generalize r.hosts.length = n at *
  have g1 : IntKind.u64.wrap r.extra = r.extra := by rw [IntKind.wrap_u64]; omega
  have g2 : IntKind.u64.wrap (r.extra + 1) = r.extra + 1 := by rw [IntKind.wrap_u64]; omega
  clear hi h e
  go_enter Try.func29, Try.ntmps29
  go_wp2
  go_quiet (fail)
  go_wp2
  go_quiet ((go_at_call 43; exact quiet_same2 (Mul64_is _ _ hw0 hw1 y1 y2 _ hH hL)))
  clear g1 g2
  go_wp2
  all_goals
    go_ret
    refine ⟨?_, _, rfl⟩
    first | rfl | (simp [*]; done) | (simp_all; done)

theorem soon_at {b m : Nat} {r : XReq} (now : Int) {w : World} (h : ReqAt w b m r) (hn1 : now < 18446744073709551616) (hf0 : 0 ≤ r.frm) (he0 : 0 ≤ r.extra) (he1 : r.extra < 4611686018427387904) (hw0 : 0 ≤ r.wait) (hw1 : r.wait < 18446744073709551616) :
    Calls Try.prog 29 #[.pointer (some ⟨b, 0, none⟩), .int .u64 now] w fun e w' => e = .returned (.bool (r.soon now)) ∧ ∃ n, w' = w.drewN n := by
  cases hi : r.idem with
  | false =>
    have e : r.soon now = false := by simp [XReq.soon, hi]
    rw [e]; exact soon_idem now h hi
  | true =>
    by_cases hx : r.extra < r.extraMax
    · by_cases hh : r.hosts = []
      · have e : r.soon now = false := by simp [XReq.soon, hh]
        rw [e]; exact soon_hosts now h hi hx hh
      · by_cases hfr : r.frm ≤ now
        · have e : r.soon now = decide (r.wait * (r.extra + 1) ≤ now - r.frm) := by simp [XReq.soon, hi, hx, hh, hfr]
          rw [e]; exact soon_last now h hi hx hh hfr hn1 hf0 he0 he1 hw0 hw1
        · have e : r.soon now = false := by simp [XReq.soon, hfr]
          rw [e]; exact soon_early now h hi hx hh (by omega)
    · have e : r.soon now = false := by simp [XReq.soon, hx]
      rw [e]; exact soon_extra now h hi (by omega)
end Go.Proofs.Ytooedjedncokpaa

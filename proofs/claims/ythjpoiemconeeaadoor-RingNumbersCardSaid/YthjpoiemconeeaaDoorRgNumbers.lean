/- RingNumbers: numbers that are written are read; with another byte among them they aren't. -/
import Derived.Test.YthjpoiemconeeaaDoorRgDigits
import Derived.Test.YthjpoiemconeeaaDoorRgErrs
import Derived.Test.YthjpoiemconeeaaDoorRgAwake
namespace Go.Proofs.YthjpoiemconeeaaDoor
set_option linter.unusedVariables false
open Go.RowKit

theorem Rread_of {s : ByteArray} (hs : s.size ≤ 1000) (w : World) (he : Errs w) {a b : Int} (h : refRead s.data.toList = (a, b)) :
    Calls Tryd.prog 18 #[.string s] w fun e w' => e = .returned (.tuple #[.int .i64 a, .int .i64 b]) ∧ Kept noBlock w w' := by
  have hr := Rread_at hs w he
  rw [← read_same, h] at hr
  exact hr
theorem wrz_len {n : Int} (h1 : -9223372036854775808 ≤ n) (h2 : n < 9223372036854775808) (k : Nat) : 1 ≤ (wrz n k).length ∧ (wrz n k).length ≤ 20 + k := by
  have hd := digs_len n.natAbs 18 (by omega)
  have hp : 0 < (digs n.natAbs).length := List.length_pos_iff.2 (digs_ne _)
  unfold wrz
  split <;> simp only [List.length_cons, List.length_append, List.length_replicate] <;> omega
theorem ba_minus (t : ByteArray) : (ByteArray.mk #[45, 48] ++ t.extract 1 t.size).data.toList = 45 :: 48 :: t.data.toList.drop 1 := by
  rw [ByteArray.data_append, ByteArray.data_extract]
  simp
  exact List.take_of_length_le (by rw [List.length_tail]; exact Nat.le_refl _)
theorem wrz_neg {n : Int} (h : n < 0) (k : Nat) : (45 : UInt8) :: 48 :: (wrz n k).drop 1 = wrz n (k + 1) := by
  unfold wrz; rw [if_pos h, if_pos h, List.replicate_succ]; rfl
theorem wrz_pos {n : Int} (h : ¬ n < 0) (k : Nat) : (48 : UInt8) :: wrz n k = wrz n (k + 1) := by
  unfold wrz; rw [if_neg h, if_neg h, List.replicate_succ]; rfl

theorem wfN_i64 {n : Int} (h : (Lit.int .i64 n).wf = true) : -9223372036854775808 ≤ n ∧ n < 9223372036854775808 := by
  have e1 : IntKind.i64.min = -9223372036854775808 := by decide
  have e2 : IntKind.i64.max = 9223372036854775807 := by decide
  simp only [Lit.wf, Bool.and_eq_true, decide_eq_true_eq, e1, e2] at h
  omega
theorem wfN_u8 {n : Int} (h : (Lit.int .u8 n).wf = true) : 0 ≤ n ∧ n < 256 := by
  have e1 : IntKind.u8.min = 0 := by decide
  have e2 : IntKind.u8.max = 255 := by decide
  simp only [Lit.wf, Bool.and_eq_true, decide_eq_true_eq, e1, e2] at h
  omega
theorem ba_put (s : ByteArray) (c : UInt8) {k : Nat} (hk : k ≤ s.size) : (s.extract 0 k ++ ByteArray.mk #[c] ++ s.extract k s.size).data.toList = s.data.toList.take k ++ [c] ++ s.data.toList.drop k := by
  rw [ByteArray.data_append, ByteArray.data_append, ByteArray.data_extract, ByteArray.data_extract]
  have h : s.data.toList.length = s.size := rfl
  simp only [Array.toList_append, Array.toList_extract, List.extract_eq_take_drop, List.drop_zero, Nat.sub_zero]
  rw [List.take_of_length_le (l := s.data.toList.drop k) (by rw [List.length_drop, h]; exact Nat.le_refl _)]
set_option maxHeartbeats 2000000 in
set_option maxRecDepth 100000 in
theorem Numbers_walk {n nn x c : Int} (h1 : -9223372036854775808 ≤ n) (h2 : n < 9223372036854775808) (hn : 0 ≤ nn ∧ nn < 256) (hx : 0 ≤ x ∧ x < 256) (hc : 0 ≤ c ∧ c < 256) (w : World) (he : Errs w) :
    Calls Tryd.prog 7 #[.int .i64 n, .int .u8 nn, .int .u8 x, .int .u8 c] w fun e w' => e = .returned (.bool true) ∧ Kept noBlock w w' := by
  have HE := Lib.hid he
  have HB := Lib.hid (⟨h1, h2⟩ : -9223372036854775808 ≤ n ∧ n < 9223372036854775808)
  clear he h1 h2
  obtain ⟨K, hK⟩ : ∃ K : Nat, nn % 20 = K := ⟨(nn % 20).toNat, by omega⟩
  have hK20 : K < 20 := by omega
  have hrem : ∀ b : Int, b = 20 → nn % b = K := by intro b hb; subst hb; exact hK
  have hwK : IntKind.i64.wrap K = K := by rw [IntKind.wrap_i64]; omega
  have hwx : IntKind.i64.wrap x = x := by rw [IntKind.wrap_i64]; omega
  clear hK
  go_enter Tryd.func7, Tryd.ntmps7
  go_wp2_with fail
  go_at_call 8
  refine (aw13_at w).mono ?_
  rintro e w1 ⟨rfl, hk1⟩
  have HK1 := Lib.hid hk1
  clear hk1
  go_wp2_with fail
  go_at_call 20
  refine (digits_at HB.out.1 HB.out.2 w1).mono ?_
  rintro e w2 ⟨s, rfl, hs, rfl⟩
  have hsl : 1 ≤ s.size ∧ s.size ≤ 20 := by
    have := wrz_len HB.out.1 HB.out.2 0
    rw [wrz_zero, ← hs] at this
    exact this
  have HS := Lib.hid hs
  have HR1 := Lib.hid (Rread_of (a := n) (b := 0) (s := s) (by omega) w2 (HE.out.kept HK1.out) (by rw [hs, ← wrz_zero]; exact read_wrz HB.out.1 HB.out.2 0))
  clear hs
  go_wp2_with fail
  go_at_call 18
  refine HR1.out.mono ?_
  rintro e w3 ⟨rfl, hk3⟩
  have HK3 := Lib.hid (HK1.out.trans hk3 (fun _ _ h => h))
  clear hk3 HR1 HK1
  have START := Lib.hid (show s.data.toList = wrz n 0 from (by rw [wrz_zero]; exact HS.out))
  go_wp2_with fail
  go_loopg [13, 14] K (fun j vt vi wr => ∃ (i : Nat) (t : ByteArray), i + j = K ∧ vi = .int .i64 (i : Nat) ∧ vt = .string t ∧ t.data.toList = wrz n i ∧ wr = w3)
  case atStart => exact ⟨0, s, by omega, rfl, rfl, START.out, rfl⟩
  case round =>
    obtain ⟨i, t, hij, rfl, rfl, ht, rfl⟩ := hrel
    clear START
    have hw1 : IntKind.i64.wrap ((i : Int) + 1) = (i : Int) + 1 := by rw [IntKind.wrap_i64]; omega
    have htl : 1 ≤ t.size ∧ t.size ≤ 40 := by
      have := wrz_len HB.out.1 HB.out.2 i
      rw [← ht] at this
      exact ⟨this.1, Nat.le_trans this.2 (by omega)⟩
    have HT := Lib.hid ht
    clear ht
    by_cases hi : i < K
    · by_cases hneg : n < 0
      · go_wp2
        go_roundg (K - (i + 1))
        case measure => omega
        case rel => exact ⟨i + 1, _, by omega, by go_num, rfl, by rw [ba_minus, HT.out]; exact wrz_neg hneg i, rfl⟩
      · go_wp2
        go_roundg (K - (i + 1))
        case measure => omega
        case rel => exact ⟨i + 1, _, by omega, by go_num, rfl, by rw [ba_cons, HT.out]; exact wrz_pos (by omega) i, rfl⟩
    · have HR2 := Lib.hid (Rread_of (a := n) (b := 0) (s := t) (by omega) wr (HE.out.kept HK3.out) (by rw [HT.out]; exact read_wrz HB.out.1 HB.out.2 i))
      go_wp2_with fail
      go_at_call 18
      refine HR2.out.mono ?_
      rintro e w4 ⟨rfl, hk4⟩
      have HK4 := Lib.hid (HK3.out.trans hk4 (fun _ _ h => h))
      clear hk4 HR2 hij hw1 htl HT hi HK3
      obtain ⟨z, hz⟩ : ∃ z : Nat, s.size = z := ⟨_, rfl⟩
      obtain ⟨k, hk⟩ : ∃ k : Nat, x % ((z : Int) + 1) = k := ⟨(x % ((z : Int) + 1)).toNat, by have := Int.emod_nonneg x (show (z : Int) + 1 ≠ 0 by omega); omega⟩
      have hkz : k ≤ z := by have := Int.emod_lt_of_pos x (show (0 : Int) < (z : Int) + 1 by omega); omega
      have hrx : ∀ b : Int, b = (z : Int) + 1 → x % b = k := by intro b hb; subst hb; exact hk
      have hwz : IntKind.i64.wrap ((z : Int) + 1) = (z : Int) + 1 := by rw [IntKind.wrap_i64]; omega
      clear hk
      obtain ⟨b, hb⟩ : ∃ b, UInt8.ofNat c.toNat = b := ⟨_, rfl⟩
      obtain ⟨ga, gb, hg⟩ : ∃ ga gb, refRead ((spell n).take k ++ [b] ++ (spell n).drop k) = (ga, gb) := ⟨_, _, rfl⟩
      have OUT := Lib.hid (show gb = 11 ∨ (48 ≤ c ∧ c ≤ 57) ∨ (c = 45 ∧ k = 0 ∧ 0 ≤ n) by
        have hbn : b.toNat = c.toNat := by rw [← hb, UInt8.toNat_ofNat']; omega
        by_cases h1 : 48 ≤ c ∧ c ≤ 57
        · exact .inr (.inl h1)
        by_cases h2 : c = 45 ∧ k = 0 ∧ 0 ≤ n
        · exact .inr (.inr h2)
        refine .inl ?_
        have := read_put n k b (by rw [← HS.out]; show k ≤ s.size; omega) (by unfold isDig; omega) (fun ⟨e1, e2, e3⟩ => h2 ⟨by subst e1; have : (45 : UInt8).toNat = 45 := rfl; omega, e2, e3⟩)
        rw [hg] at this
        exact (Prod.mk.inj this).2)
      have HRD := Lib.hid (fun (r : ByteArray) (hr : r = s.extract 0 k ++ ByteArray.mk #[b] ++ s.extract k s.size) (W : World) (hW : Errs W) => Rread_of (a := ga) (b := gb) (s := r) (by
        rw [hr, ByteArray.size_append, ByteArray.size_append, ByteArray.size_extract, ByteArray.size_extract]
        have : (ByteArray.mk #[b]).size = 1 := rfl
        omega) W hW (by rw [hr, ba_put s b (by omega), HS.out]; exact hg))
      have HBC := Lib.hid hb
      clear hb hg
      go_wp2_with fail
      refine wp_region_sch (fun w' => Kept noBlock w w') (.take 0 (.take 1 (.take 2 (.take 3 (.take 7 (.take 8 (.take 9 (.one 4 (.one 5 (.take 6 (.take 10 (.one 11 (.take 12 (.take 13 (.take 14 (.take 15 (.take 16 .nil))))))))))))))))) (by kernel_rfl) (by kernel_rfl) (by kernel_rfl) HK4.out.drew ?_
      repeat (first
        | (refine sch_takeE rfl rfl ?_
           apply Exists.intro
           refine ⟨fun w' hS => ?_, fun K hK => ?_⟩
           · (unfold takesAt; go_simp; first | rfl | exact if_neg (by omega))
           go_simp
           refine hK _ ?_
           clear hK K))
      refine sch_doK rfl rfl (fun K hK => ?_)
      go_simp
      refine hK _ _ ((HK4.out.alloc _).drew) ?_
      clear hK K
      refine sch_doK rfl rfl (fun K hK => ?_)
      have hcv := run_convert_bytes_arg (P := Tryd.prog) ((w4.alloc (.cells #[.int .u8 c] 5)).drew) 52 5 Tryd.underlying52 Tryd.underlying5 w4.heap.size 0 1 1 [c] rfl (fun i hi => by
        obtain rfl : i = 0 := by omega
        exact (Blk.new w4 5 #[.int .u8 c]).cell 0) 9 Tryd.underlying9
      have hsn : strOfNums [c] = ByteArray.mk #[b] := by rw [← HBC.out]; rfl
      rw [hsn] at hcv
      clear hsn
      go_simp
      refine hK _ _ ((HK4.out.alloc _).drew) ?_
      clear hK K hcv
      repeat (first
        | (refine sch_takeE rfl rfl ?_
           apply Exists.intro
           refine ⟨fun w' hS => ?_, fun K hK => ?_⟩
           · (unfold takesAt; go_simp; first | rfl | exact if_neg (by omega))
           go_simp
           refine hK _ ?_
           clear hK K))
      refine sch_doK rfl rfl (fun K hK => ?_)
      go_simp
      go_at_call 18
      have hk5 := (HK4.out.alloc (.cells #[.int .u8 c] 5)).drew
      refine (HRD.out _ ?_ _ (HE.out.kept hk5)).mono ?_
      · rw [hz]
      rintro e w6 ⟨rfl, hk6⟩
      have hk7 := hk5.trans hk6 (fun _ _ h => h)
      refine hK _ _ hk7 ?_
      clear hK K hk5 hk6
      have HK7 := Lib.hid hk7
      clear hk7
      repeat (first
        | (refine sch_takeE rfl rfl ?_
           apply Exists.intro
           refine ⟨fun w' hS => ?_, fun K hK => ?_⟩
           · (unfold takesAt; go_simp; first | rfl | exact if_neg (by omega))
           go_simp
           refine hK _ ?_
           clear hK K))
      refine sch_nil (NoPanic.normal ?_)
      rcases OUT.out with ho | ⟨ho1, ho2⟩ | ⟨ho1, ho2, ho3⟩
      · subst ho
        go_wp2
        go_ret
        exact ⟨rfl, HK7.out⟩
      · by_cases hgb : gb = 11
        · subst hgb
          go_wp2
          go_ret
          exact ⟨rfl, HK7.out⟩
        · have hgf : (gb == 11) = false := by rw [beq_eq_false_iff_ne]; exact hgb
          go_wp2
          go_ret
          exact ⟨rfl, HK7.out⟩
      · subst ho1
        subst ho2
        by_cases hgb : gb = 11
        · subst hgb
          go_wp2
          go_ret
          exact ⟨rfl, HK7.out⟩
        · have hgf : (gb == 11) = false := by rw [beq_eq_false_iff_ne]; exact hgb
          go_wp2
          go_ret
          exact ⟨rfl, HK7.out⟩
end Go.Proofs.YthjpoiemconeeaaDoor

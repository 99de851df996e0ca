/- Chapter 18's reference: Distance, Same; the law's sameTexts, hostsOf. -/
import Derived.Test.YtjkmgpmknadhjaaGreatR18D
namespace Go.Proofs.YtjkmgpmknadhjaaGreat
set_option linter.unusedVariables false
open Go.RowKit
open Go.ChangeMaps (setBlock)

section
variable {w : World} {ok ok' : Nat → Prop} {A A' : Option Addr} {n n' c c' : Nat} {l l' : List HV} {S S' : List Ho}
set_option maxHeartbeats 8000000 in
set_option maxRecDepth 100000 in
theorem R18Dist_at (dc : ByteArray) (rem : Int) (h : RL w ok A n c l S) (hS : risingH S) (hn : S.length ≤ 1000) (x : ByteArray) :
    Calls Tryz.prog 19 #[.agg #[.string dc, .int .i64 rem, .slice A n c], .string x] w fun e w' => e = .returned (.int .i64 (distP dc rem S x)) ∧ Kept noBlock w w' := by
  have hb : Blk (w.alloc (.cells #[.string dc, .int .i64 rem, .slice A n c] 28)) w.heap.size 28 #[.string dc, .int .i64 rem, .slice A n c] := Blk.new _ _ _
  have hk2 : Kept noBlock w (w.alloc (.cells #[.string dc, .int .i64 rem, .slice A n c] 28)) := (Kept.refl noBlock w).alloc _
  have h2 := h.keptN hk2
  have HF := R18find_at h2 x
  have HB := Lib.hid hb
  have HK2 := Lib.hid hk2
  have H2 := Lib.hid h2
  have HSN := Lib.hid h.2.1
  clear hb hk2 h2 h
  go_enter Tryz.func19, Tryz.ntmps19
  go_wp2_with fail
  generalize w.alloc (.cells #[.string dc, .int .i64 rem, .slice A n c] 28) = w2 at *
  have p0 := HB.out.cell 0
  have p1 := HB.out.cell 1
  have p2 := HB.out.cell 2
  simp only [List.getElem?_toArray, List.getElem?_cons_succ, List.getElem?_cons_zero] at p0 p1 p2
  cases hx : getS x S with
  | none =>
    have HD : Hid (distP dc rem S x = 0) := Lib.hid (by unfold distP; rw [hx])
    rw [findV_none hx] at HF
    clear hx
    refine HF.mono ?_
    rintro e w3 ⟨rfl, rfl⟩
    clear HF
    go_wp2_with fail
    go_ret
    exact ⟨by rw [HD.out]; rfl, HK2.out⟩
  | some o =>
    obtain ⟨hv, hlt, hso⟩ := findV_some hx
    obtain ⟨y, gi, oi, -, -, hidx, -, y1, -, -, -, -, -⟩ := H2.out.at hso
    rw [hv] at HF
    have HSO := Lib.hid hso
    have hon : o.name = x := getS_name hx
    have HD : Hid (distP dc rem S x = if o.dc = dc then 1 else if (sameN S o.dc (findI S x) : Int) < rem then 2 else 0) := Lib.hid (by have := dist_at hS hso dc rem; rw [hon] at this; exact this)
    have hln : findI S x < n := by have := HSN.out; omega
    have hnn : n ≤ 1000 := by have := HSN.out; omega
    clear hx hv hso hon hlt
    generalize findI S x = at_ at *
    refine HF.mono ?_
    rintro e w3 ⟨rfl, rfl⟩
    clear HF
    by_cases hd : o.dc = dc
    · have hb : (o.dc.toList == dc.toList) = true := by rw [hd]; exact strEq_self _
      have HDV : Hid (distP dc rem S x = 1) := Lib.hid (by rw [HD.out, if_pos hd])
      clear hd
      go_wp2_with fail
      go_quiet (fail)
      go_wp2_with fail
      go_ret
      exact ⟨by rw [HDV.out]; rfl, HK2.out.drewN _⟩
    · have hb : (o.dc.toList == dc.toList) = false := strEq_ne hd
      have HDV : Hid (distP dc rem S x = if (sameN S o.dc at_ : Int) < rem then 2 else 0) := Lib.hid (by rw [HD.out, if_neg hd])
      clear hd
      go_wp2_with fail
      go_quiet (fail)
      go_wp2_with fail
      go_loopg [6, 7] at_ (fun j vn vi wr => ∃ (i N : Nat), i + j = at_ ∧ vi = .int .i64 i ∧ vn = .int .i64 N ∧ Hid (N = sameN S o.dc i) ∧ N ≤ i ∧ Kept noBlock w2 wr)
      case atStart => exact ⟨0, 0, by omega, rfl, rfl, Lib.hid (sameN_zero S o.dc).symm, by omega, (Kept.refl _ _).drewN _⟩
      case round =>
        obtain ⟨i, N, hij, rfl, rfl, HN, hNi, hk⟩ := hrel
        have HIJ := Lib.hid hij
        have HK := Lib.hid hk
        have q1 := hk.cellOf p1
        have q2 := hk.cellOf p2
        by_cases hi : i < at_
        · obtain ⟨q, hq⟩ : ∃ q, S[i]? = some q := ⟨_, List.getElem?_eq_getElem (by have := HSN.out; omega)⟩
          obtain ⟨yk, gk, ok_, -, -, hidk, -, k1, -, -, -, -, -⟩ := (H2.out.keptN hk).at hq
          obtain ⟨yi, ga, oa, -, -, hida, -, a1, -, -, -, -, -⟩ := (H2.out.keptN hk).at HSO.out
          have HSU := Lib.hid (sameN_succ hq o.dc)
          clear hij hk hq hidx y1
          by_cases hqd : q.dc = o.dc
          · have hb1 : (q.dc.toList == o.dc.toList) = true := by rw [hqd]; exact strEq_self _
            have HFN : Hid (N + 1 = sameN S o.dc (i + 1)) := Lib.hid (by rw [HSU.out, if_pos hqd, ← HN.out])
            clear hqd
            go_wp2_with fail
            go_quiet (fail)
            go_wp2_with fail
            go_roundg (at_ - (i + 1))
            case measure => have := HIJ.out; omega
            case rel => exact ⟨i + 1, N + 1, by have := HIJ.out; omega, by go_num, by go_num, HFN, by omega, HK.out.drewN _⟩
          · have hb1 : (q.dc.toList == o.dc.toList) = false := strEq_ne hqd
            have HFN : Hid (N = sameN S o.dc (i + 1)) := Lib.hid (by rw [HSU.out, if_neg hqd, ← HN.out]; rfl)
            clear hqd
            go_wp2_with fail
            go_quiet (fail)
            go_wp2_with fail
            go_roundg (at_ - (i + 1))
            case measure => have := HIJ.out; omega
            case rel => exact ⟨i + 1, N, by have := HIJ.out; omega, by go_num, rfl, HFN, by omega, HK.out.drewN _⟩
        · obtain rfl : i = at_ := by omega
          have hdv := HDV.out
          rw [← HN.out] at hdv
          clear hij hk hidx y1
          by_cases hlt : (N : Int) < rem
          · rw [if_pos hlt] at hdv
            have HV := Lib.hid hdv
            clear hdv
            go_wp2_with fail
            go_ret
            exact ⟨by rw [HV.out]; rfl, HK2.out.trans HK.out fun _ _ e => e⟩
          · rw [if_neg hlt] at hdv
            have HV := Lib.hid hdv
            clear hdv
            go_wp2_with fail
            go_ret
            exact ⟨by rw [HV.out]; rfl, HK2.out.trans HK.out fun _ _ e => e⟩
set_option maxHeartbeats 8000000 in
set_option maxRecDepth 100000 in
/-- Two rows of the same hosts are the same. -/
theorem R18Same_at (h : RL w ok A n c l S) (h' : RL w ok' A' n' c' l' S) (hn : S.length ≤ 100000) (ht : ∀ o ∈ S, o.toks.length ≤ 1000000) :
    Calls Tryz.prog 16 #[.slice A n c, .slice A' n' c'] w fun e w' => e = .returned (.bool true) ∧ Kept noBlock w w' := by
  have H := Lib.hid h
  have H' := Lib.hid h'
  have HT := Lib.hid ht
  have hSn := h.2.1
  obtain rfl : n = n' := h.2.1.symm.trans h'.2.1
  have HSN := Lib.hid hSn
  have hnn : n ≤ 100000 := by omega
  clear h h' hSn ht hn
  go_enter Tryz.func16, Tryz.ntmps16
  go_wp2_with fail
  go_loopg [5] n (fun j vi wr => ∃ i : Nat, i + j = n ∧ vi = .int .i64 i ∧ Kept noBlock w wr)
  case atStart => exact ⟨0, by omega, rfl, Kept.refl _ _⟩
  case round =>
    obtain ⟨i, hij, rfl, hk⟩ := hrel
    have HIJ := Lib.hid hij
    have HK := Lib.hid hk
    by_cases hi : i < n
    · obtain ⟨o, ho⟩ : ∃ o, S[i]? = some o := ⟨_, List.getElem?_eq_getElem (by have := HSN.out; omega)⟩
      obtain ⟨y, g, off, -, -, hidx, y0, y1, y2, y3, y4, yn, yt⟩ := (H.out.keptN hk).at ho
      obtain ⟨z, g', off', -, -, hidx', z0, z1, z2, z3, z4, zn, zt⟩ := (H'.out.keptN hk).at ho
      have hto : o.toks.length ≤ 1000000 := HT.out o (List.mem_of_getElem? ho)
      rw [yn] at y3
      rw [zn] at z3
      have HOI := Lib.hid ho
      have e0 := strEq_self o.name
      have e1 := strEq_self o.dc
      have e2 := strEq_self o.rack
      have e4 : (o.up != o.up) = false := by cases o.up <;> rfl
      have e5 : ((o.toks.length : Int) != (o.toks.length : Int)) = false := by simp
      obtain ⟨wo, rfl⟩ : ∃ wo : World, wo = wr := ⟨_, rfl⟩
      clear hij hk ho yn yt zn zt
      go_wp2_with fail
      go_quiet (fail)
      go_wp2_with fail
      clear hidx y0 y1 y2 y3 y4 hidx' z0 z1 z2 z3 z4 e0 e1 e2 e4 e5
      go_loopg [6] o.toks.length (fun jj vk wr => ∃ k : Nat, k + jj = o.toks.length ∧ vk = .int .i64 k ∧ Kept noBlock w wr)
      case atStart => exact ⟨0, by omega, rfl, HK.out.drewN _⟩
      case round =>
        obtain ⟨k, hkj, rfl, hk⟩ := hrel
        have HKJ := Lib.hid hkj
        have HKk := Lib.hid hk
        obtain ⟨y, g, off, -, -, hidx, -, -, -, y3, -, yn, yt⟩ := (H.out.keptN hk).at HOI.out
        obtain ⟨z, g', off', -, -, hidx', -, -, -, z3, -, zn, zt⟩ := (H'.out.keptN hk).at HOI.out
        rw [yn] at y3 yt
        rw [zn] at z3 zt
        by_cases hkn : k < o.toks.length
        · obtain ⟨t, htk⟩ : ∃ t, o.toks[k]? = some t := ⟨_, List.getElem?_eq_getElem hkn⟩
          obtain ⟨gt, ot, hidt, ct⟩ := tok_at yt htk
          obtain ⟨gt', ot', hidt', ct'⟩ := tok_at zt htk
          have e5 : (t != t) = false := by simp
          clear hkj hk yn yt zn zt htk
          go_wp2_with fail
          go_quiet (fail)
          go_wp2_with fail
          go_roundg (o.toks.length - (k + 1))
          case measure => have := HKJ.out; omega
          case rel => exact ⟨k + 1, by have := HKJ.out; omega, by go_num, HKk.out.drewN _⟩
        · clear hkj hk yn yt zn zt
          go_wp2_with fail
          go_roundg (n - (i + 1))
          case measure => have := HIJ.out; omega
          case rel => exact ⟨i + 1, by have := HIJ.out; omega, by go_num, HKk.out⟩
    · clear hij hk
      go_wp2_with fail
      go_ret
      exact ⟨rfl, HK.out⟩
set_option maxHeartbeats 8000000 in
set_option maxRecDepth 100000 in
/-- Two rows of the same texts are the same. -/
theorem texts_at {ok ok' : Nat → TypeId → Prop} {L : List ByteArray} (h : SlK w ok 1 (.slice A n c) n (L.map Value.string)) (h' : SlK w ok' 1 (.slice A' n' c') n' (L.map Value.string)) :
    Calls Tryz.prog 12 #[.slice A n c, .slice A' n' c'] w fun e w' => e = .returned (.bool true) ∧ Kept noBlock w w' := by
  have hn1 := h.len
  have hn2 := h'.len
  rw [List.length_map, Nat.mul_one] at hn1 hn2
  have HL := Lib.hid hn1
  obtain rfl : n = n' := hn1.symm.trans hn2
  have hnm : n ≤ 9223372036854775807 := by obtain ⟨_, _, hv, h1, h2⟩ := h.shape; cases hv; unfold maxLen at h2; omega
  have H := Lib.hid h
  have H' := Lib.hid h'
  clear h h' hn1 hn2
  go_enter Tryz.func12, Tryz.ntmps12
  have e5 : ((n : Int) != (n : Int)) = false := by simp
  go_wp2_with fail
  go_loopg [5] n (fun j vi wr => ∃ i : Nat, i + j = n ∧ vi = .int .i64 i ∧ Kept noBlock w wr)
  case atStart => exact ⟨0, by omega, rfl, Kept.refl _ _⟩
  case round =>
    obtain ⟨i, hij, rfl, hk⟩ := hrel
    have HIJ := Lib.hid hij
    have HK := Lib.hid hk
    by_cases hi : i < n
    · obtain ⟨x, hx⟩ : ∃ x, L[i]? = some x := ⟨_, List.getElem?_eq_getElem (by have := HL.out; omega)⟩
      obtain ⟨g, off, hidx, -, -, h3⟩ := (H.out.keptNone hk).run_index strsT (i := (i : Int)) (k := i) rfl hi
      obtain ⟨g', off', hidx', -, -, h3'⟩ := (H'.out.keptNone hk).run_index strsT (i := (i : Int)) (k := i) rfl hi
      have c0 : wr.cell? ⟨g, off, none⟩ = some (.string x) := h3 0 _ (by rw [Nat.mul_one, Nat.add_zero, List.getElem?_map, hx]; rfl)
      have c0' : wr.cell? ⟨g', off', none⟩ = some (.string x) := h3' 0 _ (by rw [Nat.mul_one, Nat.add_zero, List.getElem?_map, hx]; rfl)
      have eb := strEq_self x
      clear hij hk hx h3 h3'
      go_wp2_with fail
      go_quiet (fail)
      go_wp2_with fail
      go_roundg (n - (i + 1))
      case measure => have := HIJ.out; omega
      case rel => exact ⟨i + 1, by have := HIJ.out; omega, by go_num, HK.out.drewN _⟩
    · clear hij hk
      go_wp2_with fail
      go_ret
      exact ⟨rfl, HK.out⟩
end
end Go.Proofs.YtjkmgpmknadhjaaGreat

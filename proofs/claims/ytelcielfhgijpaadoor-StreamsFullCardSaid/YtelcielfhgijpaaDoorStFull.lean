/- StreamsFull: of so many streams just so many can be taken, from the lowest one on; what was answered is taken again: it answers true. -/
import Derived.Test.YtelcielfhgijpaaDoorStIdx
import Derived.Test.YtelcielfhgijpaaDoorOpen
import Derived.Deep.LoopGhost
namespace Go.Proofs.YtelcielfhgijpaaDoor
set_option linter.unusedVariables false
open Go.RowKit

theorem u16sT : SlT Tryd.prog 55 54 (.int .u16 0) 1 2 := ⟨Tryd.underlying55, by kernel_rfl, rfl, by decide, by decide⟩
theorem u16_at {w : World} {ok : Nat → TypeId → Prop} {v : Value} {L : List Int} (h : SlK w ok 1 v L.length (L.map (Value.int .u16))) {i : Nat} {u : Int} (hi : L[i]? = some u) :
    ∃ g off, (∀ kd w', (Instr.indexAt 55 v (.int kd (i : Int))).run Tryd.prog w' = .ok (.pointer (some ⟨g, off, none⟩)) w') ∧ w.cell? ⟨g, off, none⟩ = some (.int .u16 u) := by
  have hlt : i < L.length := (List.getElem?_eq_some_iff.1 hi).1
  obtain ⟨g, off, h1, _, _, h3⟩ := h.run_index u16sT (i := (i : Int)) (k := i) rfl hlt
  exact ⟨g, off, h1, h3 0 _ (by rw [Nat.mul_one, Nat.add_zero, List.getElem?_map, hi]; rfl)⟩
theorem adel_len {k : Int} {v : Int} : ∀ {l : List (Int × Int)}, aget k l = some v → (adel k l).length + 1 = l.length
  | [], h => by cases h
  | (a, b) :: t, h => by
    rw [adel]
    rw [aget] at h
    by_cases e : a = k
    · rw [if_pos e]; rfl
    · rw [if_neg e] at h ⊢
      simp only [List.length_cons, adel_len h]
/-- What is free of full streams. -/
structure Freed (k : Int) (s : XS) (free low : Int) : Prop where
  n : s.n = k
  orph : s.orph = []
  cnt : (s.asked.length : Int) + free = k
  low0 : 0 ≤ low
  below : ∀ j : Nat, (j : Int) < low → s.owed (j : Int) = true
  what : (free = 0 ∧ low = k) ∨ (0 < free ∧ low < k ∧ s.owed low = false)
theorem Freed.full {k : Int} {m : Nat} (hk : k = (m : Int)) : Freed k (XS.row k (List.replicate m 0)) 0 k := by
  refine ⟨rfl, rfl, ?_, by omega, fun j hj => ?_, .inl ⟨rfl, rfl⟩⟩
  · have h := congrArg List.length (idxs_keys (List.replicate m 0) 0)
    simp only [List.length_map, List.length_range', List.length_replicate] at h
    simp only [XS.row, h]; omega
  · rw [row_owed, List.length_replicate]; simp; omega
theorem Freed.asked {k : Int} {s : XS} {free low id : Int} (h : Freed k s free low) : (aget id s.asked).isSome = s.owed id := by
  simp [XS.owed, h.orph, aget]
theorem Freed.answer {k : Int} {s : XS} {free low id : Int} (h : Freed k s free low) (hok : s.Ok) (hi : s.owed id = true) : Freed k (s.answer id) (free + 1) (if id < low then id else low) := by
  have hr := hok.range hi
  have h1 := h.asked (id := id)
  rw [hi] at h1
  obtain ⟨u, hu⟩ := Option.isSome_iff_exists.1 h1
  have hl := adel_len hu
  have hcnt := h.cnt
  have hf0 : 0 ≤ free := by rcases h.what with ⟨h1, _⟩ | ⟨h1, _⟩ <;> omega
  refine ⟨h.n, by simp [XS.answer, h.orph, adel], by simp only [XS.answer]; omega, ?_, fun j hj => ?_, ?_⟩
  · split
    · exact hr.1
    · exact h.low0
  · rw [hok.owed_answer]
    have hj2 : (j : Int) < low ∧ (j : Int) ≠ id := by
      split at hj
      · omega
      · refine ⟨hj, fun e => ?_⟩
        omega
    rw [h.below j hj2.1]
    simp [hj2.2]
  · right
    rw [hok.owed_answer]
    split
    · rename_i hlt
      refine ⟨by omega, ?_, by simp⟩
      have := h.n
      omega
    · rename_i hge
      rcases h.what with ⟨_, h2⟩ | ⟨_, h2, h3⟩
      · have := h.n; omega
      · exact ⟨by omega, h2, by rw [h3]; rfl⟩
theorem Freed.bounds {k : Int} {s : XS} {free low : Int} (h : Freed k s free low) : 0 ≤ free ∧ free ≤ k ∧ 0 ≤ low ∧ low ≤ k := by
  have hcnt := h.cnt
  have := h.low0
  rcases h.what with ⟨h1, h2⟩ | ⟨h1, h2, _⟩ <;> omega

theorem SW.counts {w0 w : World} {g m1 m2 : Nat} {s : XS} (h : SW w0 w g m1 m2 s) :
    Calls Tryd.prog 18 #[.pointer (some ⟨g, 0, none⟩)] w fun e w' => e = .returned (.tuple #[.int .i64 (s.n - s.asked.length - s.orph.length), .int .i64 s.asked.length, .int .i64 s.orph.length]) ∧ SW w0 w' g m1 m2 s := by
  refine (Counts_at h.at_).mono ?_
  rintro e w' ⟨rfl, n, rfl⟩
  exact ⟨rfl, h.drewN n⟩

set_option maxHeartbeats 4000000 in
set_option maxRecDepth 100000 in
theorem Full_walk (m : Int) (v : Value) (bs : List Int) (w : World) (hm : 0 ≤ m ∧ m ≤ 65535) (hv : Lo w w.heap.size 1 v bs.length (bs.map (Value.int .u16))) (hT : Tab w) (hb : ∀ u ∈ bs, 0 ≤ u ∧ u ≤ 65535) :
    Calls Tryd.prog 6 #[.int .u16 m, v] w fun e w' => e = .returned (.bool true) ∧ Kept noBlock w w' := by
  obtain ⟨A, cap, rfl, hcap1, hcap2⟩ := hv.shape
  have hbl : bs.length ≤ 9223372036854775807 := by unfold maxLen at hcap2; omega
  have HT := Lib.hid hT
  have HB := Lib.hid hb
  have HV := Lib.hid hv
  obtain ⟨hm0, hm1⟩ := hm
  clear hT hb hv hcap1 hcap2
  go_enter Tryd.func6, Tryd.ntmps6
  go_wp2_with fail
  go_at_call 8
  refine (awake_at _ HT.out).mono ?_
  rintro e w1 ⟨rfl, hk1⟩
  have HK1 := Lib.hid hk1
  clear hk1
  go_wp2_with fail
  have hkz0 : 1 ≤ m % 2000 + 1 ∧ m % 2000 + 1 ≤ 2000 := by omega
  generalize m % 2000 + 1 = kz at *
  obtain ⟨kn, rfl⟩ := Int.eq_ofNat_of_zero_le (show 0 ≤ kz by omega)
  obtain ⟨hk0, hk2⟩ := hkz0
  go_at_call 9
  refine (New_sw (n := (kn : Int)) HK1.out HT.out hk0 (by omega)).mono ?_
  rintro e w2 ⟨g, m1, m2, rfl, hs2, -, -⟩
  have START := Lib.hid (show SW w w2 g m1 m2 (XS.row kn (List.replicate 0 0)) from hs2)
  clear hs2 HK1
  go_wp2_with fail
  go_loopg [9] kn (fun j vi wr => ∃ i : Nat, i + j = kn ∧ vi = .int .i64 i ∧ SW w wr g m1 m2 (XS.row kn (List.replicate i 0)))
  case atStart => exact ⟨0, by omega, rfl, START.out⟩
  case round =>
    obtain ⟨i, hij, rfl, hs⟩ := hrel
    clear START
    have HIJ := Lib.hid hij
    by_cases hi : i < kn
    · have htake := hs.take_ok 0 (by decide) (id := i) (by simp only [XS.row]; omega) (by rw [row_owed, List.length_replicate]; simp) (fun j hj => by rw [row_owed, List.length_replicate]; simp [hj])
      have hnext : (XS.row kn (List.replicate i 0)).take (i : Int) 0 = XS.row kn (List.replicate (i + 1) 0) := by
        have := row_take (n := (kn : Int)) (l := List.replicate i 0) 0
        rw [List.length_replicate] at this
        rw [this, List.replicate_succ']
      rw [hnext] at htake
      have HTK := Lib.hid htake
      clear hs hij htake hnext
      go_wp2_with fail
      go_at_call 10
      refine HTK.out.mono ?_
      rintro e w3 ⟨rfl, hs3, -⟩
      have HS3 := Lib.hid hs3
      clear hs3
      go_wp2
      go_roundg (kn - (i + 1))
      case measure => have := HIJ.out; omega
      case rel => exact ⟨i + 1, by omega, by go_num, HS3.out⟩
    · have hii : i = kn := by omega
      subst hii
      have hbusy := hs.take_busy 0 (by decide) (fun j hj => by
        rw [row_owed, List.length_replicate]
        simp only [XS.row] at hj
        simp; omega)
      have HBU := Lib.hid hbusy
      have hF := Freed.full (k := (i : Int)) (m := i) rfl
      generalize XS.row (i : Int) (List.replicate i 0) = s0 at *
      have HF := Lib.hid hF
      clear hs hij hbusy hF
      go_wp2_with fail
      go_at_call 10
      refine HBU.out.mono ?_
      rintro e w3 ⟨rfl, hs3, -⟩
      have START2 := Lib.hid (⟨HF.out, hs3⟩ : Freed (i : Int) s0 0 i ∧ SW w w3 g m1 m2 s0)
      clear hs3 HBU HF
      go_wp2_with fail
      go_loopg [14, 15, 16] 50 (fun j vf vl vi wr => ∃ (k : Nat) (s : XS) (free low : Int), k + j = 50 ∧ vi = .int .i64 k ∧ vf = .int .i64 free ∧ vl = .int .i64 low ∧ Freed (i : Int) s free low ∧ SW w wr g m1 m2 s)
      case atStart => exact ⟨0, s0, 0, i, by omega, rfl, rfl, rfl, START2.out.1, START2.out.2⟩
      case round =>
        obtain ⟨k, s, free, low, hkj, rfl, rfl, rfl, hF, hs⟩ := hrel
        clear START2
        obtain ⟨hb0, hb1, hb2, hb3⟩ := hF.bounds
        have HKJ := Lib.hid hkj
        have HS := Lib.hid hs
        have HF := Lib.hid hF
        clear hkj hs hF
        by_cases hlt : k < bs.length ∧ k < 50
        · obtain ⟨hl1, hl2⟩ := hlt
          obtain ⟨b, hbk⟩ : ∃ b, bs[k]? = some b := ⟨_, List.getElem?_eq_getElem hl1⟩
          obtain ⟨ga, oa, hidx, hca⟩ := u16_at (HV.out.keptNone HS.out.kept) hbk
          obtain ⟨hbb0, hbb1⟩ := HB.out b (List.mem_of_getElem? hbk)
          clear hbk
          cases ho : s.owed (b % (i : Int)) with
          | false =>
            have HA := Lib.hid (Answer_bad HS.out.at_ _ ho)
            clear ho
            go_wp2_with fail
            go_at_call 13
            refine HA.out.mono ?_
            rintro e w4 ⟨rfl, rfl⟩
            go_wp2
            go_roundg (50 - (k + 1))
            case measure => have := HKJ.out; omega
            case rel => exact ⟨k + 1, s, free, low, by omega, by go_num, rfl, rfl, HF.out, HS.out⟩
          | true =>
            have hb := HS.out.answer_ok (b % (i : Int)) ho
            rw [HF.out.asked, ho] at hb
            have hF2 := HF.out.answer HS.out.ok ho
            have HA := Lib.hid hb
            have HF2 := Lib.hid hF2
            clear ho hb hF2
            by_cases hc : b % (i : Int) < low
            · go_wp2_with fail
              go_at_call 13
              refine HA.out.mono ?_
              rintro e w4 ⟨rfl, hs4, -⟩
              have HS4 := Lib.hid hs4
              clear hs4
              go_wp2
              go_roundg (50 - (k + 1))
              case measure => have := HKJ.out; omega
              case rel =>
                have hF3 := HF2.out
                rw [if_pos hc] at hF3
                exact ⟨k + 1, _, free + 1, _, by omega, by go_num, rfl, rfl, hF3, HS4.out⟩
            · go_wp2_with fail
              go_at_call 13
              refine HA.out.mono ?_
              rintro e w4 ⟨rfl, hs4, -⟩
              have HS4 := Lib.hid hs4
              clear hs4
              go_wp2
              go_roundg (50 - (k + 1))
              case measure => have := HKJ.out; omega
              case rel =>
                have hF3 := HF2.out
                rw [if_neg (by omega)] at hF3
                exact ⟨k + 1, _, free + 1, _, by omega, by go_num, rfl, rfl, hF3, HS4.out⟩
        · have hco := HS.out.counts
          rw [show s.n - s.asked.length - s.orph.length = free by rw [HF.out.n, HF.out.orph]; have := HF.out.cnt; simp only [List.length_nil]; omega, show ((s.asked.length : Nat) : Int) = (i : Int) - free by have := HF.out.cnt; omega, HF.out.orph] at hco
          have HCO := Lib.hid hco
          clear hco
          by_cases hl : k < bs.length
          · have hk50 : k = 50 := by have := HKJ.out; omega
            subst hk50
            clear hlt
            rcases HF.out.what with ⟨hf0, hlk⟩ | ⟨hf0, hlk, hlo⟩
            · subst hf0
              subst hlk
              go_wp2_with fail
              go_at_call 18
              refine HCO.out.mono ?_
              rintro e w4 ⟨rfl, hs4⟩
              have HTK := Lib.hid (hs4.take_busy 0 (by decide) (fun j hj => HF.out.below j (by rw [HF.out.n] at hj; exact hj)))
              clear hs4
              go_wp2_with fail
              go_at_call 10
              refine HTK.out.mono ?_
              rintro e w5 ⟨rfl, hs5, -⟩
              have HK5 := Lib.hid hs5.kept
              clear hs5
              go_wp2
              go_ret
              exact ⟨rfl, HK5.out⟩
            · obtain ⟨ln, rfl⟩ := Int.eq_ofNat_of_zero_le hb2
              go_wp2_with fail
              go_at_call 18
              refine HCO.out.mono ?_
              rintro e w4 ⟨rfl, hs4⟩
              have HTK := Lib.hid (hs4.take_ok 0 (by decide) (id := ln) (by rw [HF.out.n]; exact hlk) hlo (fun j hj => HF.out.below j (by omega)))
              clear hs4 hlo
              go_wp2_with fail
              go_at_call 10
              refine HTK.out.mono ?_
              rintro e w5 ⟨rfl, hs5, -⟩
              have HK5 := Lib.hid hs5.kept
              clear hs5
              have hnf : (free == 0) = false := by rw [beq_eq_false_iff_ne]; omega
              go_wp2
              go_ret
              exact ⟨rfl, HK5.out⟩
          · clear hlt
            rcases HF.out.what with ⟨hf0, hlk⟩ | ⟨hf0, hlk, hlo⟩
            · subst hf0
              subst hlk
              go_wp2_with fail
              go_at_call 18
              refine HCO.out.mono ?_
              rintro e w4 ⟨rfl, hs4⟩
              have HTK := Lib.hid (hs4.take_busy 0 (by decide) (fun j hj => HF.out.below j (by rw [HF.out.n] at hj; exact hj)))
              clear hs4
              go_wp2_with fail
              go_at_call 10
              refine HTK.out.mono ?_
              rintro e w5 ⟨rfl, hs5, -⟩
              have HK5 := Lib.hid hs5.kept
              clear hs5
              go_wp2
              go_ret
              exact ⟨rfl, HK5.out⟩
            · obtain ⟨ln, rfl⟩ := Int.eq_ofNat_of_zero_le hb2
              go_wp2_with fail
              go_at_call 18
              refine HCO.out.mono ?_
              rintro e w4 ⟨rfl, hs4⟩
              have HTK := Lib.hid (hs4.take_ok 0 (by decide) (id := ln) (by rw [HF.out.n]; exact hlk) hlo (fun j hj => HF.out.below j (by omega)))
              clear hs4 hlo
              go_wp2_with fail
              go_at_call 10
              refine HTK.out.mono ?_
              rintro e w5 ⟨rfl, hs5, -⟩
              have HK5 := Lib.hid hs5.kept
              clear hs5
              have hnf : (free == 0) = false := by rw [beq_eq_false_iff_ne]; omega
              go_wp2
              go_ret
              exact ⟨rfl, HK5.out⟩

section
open Go.ChangeShapes Go.WideShapes Go.Deep
variable {H : Type} {enc : TypeId × Value → H} {W : World} {base : Nat} {v : Value} {d : DataW H} {p : List MemPlace}
theorem flat_u16 (l : List Int) : l.flatMap (fun s => [Value.int .u16 s]) = l.map (Value.int .u16) := by
  induction l with
  | nil => rfl
  | cons a t ih => rw [List.flatMap_cons, ih]; rfl
set_option maxRecDepth 100000 in
theorem open_u16s {hval : Value.okWide Tryd.prog W .any base 55 v} (h : DataW.Trod enc Tryd.prog W 0 (fun _ => true) true 55 v d p) :
    ∃ l : List Int, Lo W W.heap.size 1 v l.length (l.map (Value.int .u16)) ∧ ∀ u ∈ l, 0 ≤ u ∧ u ≤ 65535 := by
  obtain ⟨l, hl⟩ := open_lo (k := 1) Tryd.underlying55 (by kernel_rfl) (by decide) hval h (fun e : { u : Int // 0 ≤ u ∧ u ≤ 65535 } => [Value.int .u16 e.1]) (fun _ => rfl) (fun cs n y hl h => by
    match cs, hl with
    | [c], _ =>
      obtain ⟨b, eb, -, wb⟩ := DataW.trod_int Tryd.underlying54 h
      simp only [List.cons.injEq, and_true] at eb
      have hb := bounds_u16 wb
      exact ⟨⟨b, hb.1, hb.2⟩, by rw [eb]⟩)
  refine ⟨l.map (·.1), ?_, ?_⟩
  · rw [← flat_u16, List.length_map, List.flatMap_map]; exact hl
  · intro e he
    obtain ⟨x, _, rfl⟩ := List.mem_map.1 he
    exact x.2
end
end Go.Proofs.YtelcielfhgijpaaDoor

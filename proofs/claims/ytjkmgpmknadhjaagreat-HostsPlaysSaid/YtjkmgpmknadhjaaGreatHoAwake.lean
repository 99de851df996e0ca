/- Chapter 18's example: the law's awake answers true. -/
import Derived.Test.YtjkmgpmknadhjaaGreatHoTab
namespace Go.Proofs.YtjkmgpmknadhjaaGreat
set_option linter.unusedVariables false
open Go.RowKit
open Go.ChangeMaps (setBlock)

abbrev hoA : ByteArray := ⟨#[97]⟩
abbrev hoB : ByteArray := ⟨#[98]⟩
abbrev hoD : ByteArray := ⟨#[100]⟩
abbrev hoE : ByteArray := ⟨#[101]⟩
abbrev awL : List Ho := [⟨hoB, hoE, noStr, [5], false⟩, ⟨hoA, hoD, noStr, [7, 5], false⟩]
abbrev awS1 : List Ho := [⟨hoA, hoD, noStr, [5, 7], false⟩, ⟨hoB, hoE, noStr, [5], false⟩]
abbrev awS2 : List Ho := [⟨hoA, hoD, noStr, [5, 7], true⟩, ⟨hoB, hoE, noStr, [5], false⟩]
theorem aw_ref : refNow (viewS []) awL = awS1 := by rfl
theorem aw_add : addedP (viewS []) awS1 = [hoA, hoB] := by rfl
theorem aw_gone : goneP [] awS1 = [] := by rfl
theorem aw_m1 : markP awS1 hoA true = (awS2, true) := by rfl
theorem aw_m2 : markP awS2 hoA true = (awS2, false) := by rfl
theorem aw_da : distP hoD 0 awS2 hoA = 1 := by rfl
theorem aw_db : distP hoD 0 awS2 hoB = 0 := by rfl
theorem aw_ring : refRing awS2 = [(5, hoA), (7, hoA)] := by rfl
theorem ho_sl {w : World} {v : Value} {n : Nat} {L : List Int} (h : Sl w 2 1 v n (L.map (Value.int .i64))) (hl : L.length ≤ 1000000) {W : World} (hk : Kept noBlock w W) : L.length ≤ 1000000 ∧ SlK W (fun k _ => k < W.heap.size) 1 v n (L.map (Value.int .i64)) := ⟨hl, (SlK.keptNone h hk).lo⟩
set_option maxHeartbeats 8000000 in
set_option maxRecDepth 100000 in
theorem hoaw_at (w : World) : Calls Tryz.prog 4 #[] w fun e w' => e = .returned (.bool true) ∧ Kept noBlock w w' := by
  go_enter Tryz.func4, Tryz.ntmps4
  go_wp2_with fail
  go_at_call 5
  refine (hNew_tab _ _ _).mono ?_
  rintro e w1 ⟨g, own, rfl, hT1, ho1, hk1⟩
  have HT1 := Lib.hid hT1
  have HK1 := Lib.hid hk1
  have HO1 := Lib.hid (fun k h => (ho1 k h).1)
  clear hT1 hk1 ho1
  go_wp2_with fail
  go_at_call 9
  have b1 : Blk (w1.alloc (.cells #[.int .i64 5] 2)) w1.heap.size 2 #[.int .i64 5] := Blk.new _ _ _
  have b2 : Blk ((w1.alloc (.cells #[.int .i64 5] 2)).alloc (.cells #[.int .i64 7, .int .i64 5] 2)) (w1.heap.size + 1) 2 #[.int .i64 7, .int .i64 5] := Blk.new_at _ _ _ (by rw [sz_alloc])
  have kw : Kept noBlock w1 ((w1.alloc (.cells #[.int .i64 5] 2)).alloc (.cells #[.int .i64 7, .int .i64 5] 2)) := ((Kept.refl noBlock w1).alloc _).alloc _
  have hsz : ((w1.alloc (.cells #[.int .i64 5] 2)).alloc (.cells #[.int .i64 7, .int .i64 5] 2)).heap.size = w1.heap.size + 1 + 1 := by rw [sz_alloc, sz_alloc]
  have q1 : Sl ((w1.alloc (.cells #[.int .i64 5] 2)).alloc (.cells #[.int .i64 7, .int .i64 5] 2)) 2 1 (.slice (some ⟨w1.heap.size, 0, none⟩) 1 1) 1 (([5] : List Int).map (Value.int .i64)) := Sl.made_at (n := 1) (b1.alloc _) _ rfl rfl (by decide)
  have q2 : Sl ((w1.alloc (.cells #[.int .i64 5] 2)).alloc (.cells #[.int .i64 7, .int .i64 5] 2)) 2 1 (.slice (some ⟨w1.heap.size + 1, 0, none⟩) 2 2) 2 (([7, 5] : List Int).map (Value.int .i64)) := Sl.made_at (n := 2) b2 _ rfl rfl (by decide)
  generalize (w1.alloc (.cells #[.int .i64 5] 2)).alloc (.cells #[.int .i64 7, .int .i64 5] 2) = w2 at *
  generalize some (⟨w1.heap.size, 0, none⟩ : Addr) = p1 at *
  generalize some (⟨w1.heap.size + 1, 0, none⟩ : Addr) = p2 at *
  have hb3 := Blk.new_at w2 59 #[.string ⟨#[98]⟩, .string ⟨#[101]⟩, .string ⟨#[]⟩, .slice p1 1 1, .bool false, .string ⟨#[97]⟩, .string ⟨#[100]⟩, .string ⟨#[]⟩, .slice p2 2 2, .bool false] hsz.symm
  have kw3 : Kept noBlock w2 (w2.alloc (.cells #[.string ⟨#[98]⟩, .string ⟨#[101]⟩, .string ⟨#[]⟩, .slice p1 1 1, .bool false, .string ⟨#[97]⟩, .string ⟨#[100]⟩, .string ⟨#[]⟩, .slice p2 2 2, .bool false] 59)) := (Kept.refl noBlock w2).alloc _
  have hrow : Sl (w2.alloc (.cells #[.string ⟨#[98]⟩, .string ⟨#[101]⟩, .string ⟨#[]⟩, .slice p1 1 1, .bool false, .string ⟨#[97]⟩, .string ⟨#[100]⟩, .string ⟨#[]⟩, .slice p2 2 2, .bool false] 59)) 59 5 (.slice (some ⟨w1.heap.size + 1 + 1, 0, none⟩) 2 2) 2 (([⟨hoB, hoE, noStr, p1, 1, 1, [5], false⟩, ⟨hoA, hoD, noStr, p2, 2, 2, [7, 5], false⟩] : List HV).flatMap hvC) := Sl.made_at (n := 2) hb3 _ rfl rfl (by decide)
  refine (hRefresh_tab (S := []) (l := [⟨hoB, hoE, noStr, p1, 1, 1, [5], false⟩, ⟨hoA, hoD, noStr, p2, 2, 2, [7, 5], false⟩]) (HT1.out.kept (kw.trans kw3 fun _ _ e => e) fun _ _ e => e) (by decide) hrow.lo rfl (by decide) ?_).mono ?_
  · intro x hx
    rcases List.mem_cons.1 hx with rfl | hx
    · exact ho_sl q1 (by decide) kw3
    · rcases List.mem_cons.1 hx with rfl | hx
      · exact ho_sl q2 (by decide) kw3
      · cases hx
  rintro e w4 ⟨A1, n1, c1, A2, n2, c2, rfl, h1, h2, s1, s2, hT4, hk4⟩
  rw [show [(⟨hoB, hoE, noStr, p1, 1, 1, [5], false⟩ : HV), ⟨hoA, hoD, noStr, p2, 2, 2, [7, 5], false⟩].map HV.abs = awL from rfl, aw_ref] at h1 h2 s1 s2 hT4
  rw [aw_add] at h1 s1
  rw [aw_gone] at h2 s2
  have h1' : n1 = 2 := h1
  have h2' : n2 = 0 := h2
  clear h1 h2; subst h1'
  subst h2'
  have HKW := Lib.hid ((HK1.out.trans kw fun _ _ e => e).trans kw3 fun _ _ e => e)
  have HK4 := Lib.hid (HKW.out.grew hk4 HO1.out)
  have HO4 := Lib.hid (ownI_ge (w' := w4) HO1.out HKW.out.size)
  have HS1 := Lib.hid s1
  have HS2 := Lib.hid s2
  have HT4 := Lib.hid hT4
  clear s1 s2 hT4 hk4 b1 b2 kw hsz q1 q2 hb3 kw3 hrow HT1 HO1
  go_wp2_with fail
  go_at_call 7
  refine (hMark_at HT4.out hoA true).mono ?_
  rw [aw_m1]
  rintro e w5 ⟨rfl, hT5, hk5⟩
  have hs1 := HS1.out.keptAll hk5 fun k e h => h.2
  have hs2 := HS2.out.keptAll hk5 fun k e h => h.2
  have HK5 := Lib.hid (HK4.out.grew hk5 HO4.out)
  have HT5 := Lib.hid hT5
  have HS1' := Lib.hid hs1
  have HS2' := Lib.hid hs2
  clear hT5 hk5 hs1 hs2 HT4 HS1 HS2 HK4
  go_wp2_with fail
  go_at_call 13
  refine (hRing_at HT5.out (by decide) (by decide) (by decide) (by decide)).mono ?_
  rw [aw_ring]
  rintro e w6 ⟨gr, rfl, hr6, hk6, -⟩
  go_wp2_with fail
  go_at_call 20
  refine (Rowner_at (t := 5) hr6 (by unfold rising; decide) (by decide)).mono ?_
  rintro e w7 ⟨rfl, hk7⟩
  rw [show owner [((5 : Int), hoA), (7, hoA)] 5 = hoA from rfl, show decide (0 < [((5 : Int), hoA), (7, hoA)].length) = true from rfl]
  have hk57 := hk6.trans hk7 fun _ _ e => e
  have hs1 := HS1'.out.keptNone hk57
  have hs2 := HS2'.out.keptNone hk57
  have hl1 := hs1.run_len strsT
  have hl2 := hs2.run_len strsT
  obtain ⟨g0, o0, i0, q0⟩ : ∃ g0 o0, (∀ kd w', (Instr.indexAt 36 (.slice A1 2 c1) (.int kd 0)).run Tryz.prog w' = .ok (.pointer (some ⟨g0, o0, none⟩)) w') ∧ w7.cell? ⟨g0, o0, none⟩ = some (.string hoA) := by
    obtain ⟨g, off, h1, _, _, h3⟩ := hs1.run_index strsT (i := 0) (k := 0) rfl (by decide)
    exact ⟨g, off, h1, h3 0 _ rfl⟩
  have HT7 := Lib.hid (HT5.out.kept hk57 fun _ _ e => e)
  have HK7 := Lib.hid (HK5.out.trans hk57 fun _ _ e => e)
  have e1 := strEq_self hoA
  clear hr6 hk6 hk7 hk57 hs1 hs2 HT5 HK5 HS1' HS2'
  go_wp2_with fail
  go_at_call 7
  refine (hMark_at HT7.out hoA true).mono ?_
  rw [aw_m2]
  rintro e w8 ⟨rfl, hT8, hk8⟩
  have HT8 := Lib.hid hT8
  have HK8 := Lib.hid (HK7.out.grew hk8 HO4.out)
  clear hT8 hk8 HT7 HK7 q0
  go_wp2_with fail
  go_at_call 18
  refine (hDist_at HT8.out hoA (by decide)).mono ?_
  rw [aw_da]
  rintro e w9 ⟨rfl, hk9⟩
  have HT9 := Lib.hid (HT8.out.kept hk9 fun _ _ e => e)
  have HK9 := Lib.hid (HK8.out.trans hk9 fun _ _ e => e)
  clear hk9 HT8 HK8
  go_wp2_with fail
  go_at_call 18
  refine (hDist_at HT9.out hoB (by decide)).mono ?_
  rw [aw_db]
  rintro e w10 ⟨rfl, hk10⟩
  have HT10 := Lib.hid (HT9.out.kept hk10 fun _ _ e => e)
  have HK10 := Lib.hid (HK9.out.trans hk10 fun _ _ e => e)
  clear hk10 HT9 HK9
  go_wp2_with fail
  go_at_call 17
  refine (hAll_told HT10.out (by decide) (by decide)).mono ?_
  rintro e w11 ⟨A3, n3, c3, T, rfl, hto, hk11⟩
  have hn3 : n3 = 2 := by rw [← hto.len, ← List.length_map (f := HV.abs), hto.abs]; rfl
  subst hn3
  have hl3 := (Sl.of_own hto.row).run_len hostsT
  have HK11 := Lib.hid (HK10.out.trans hk11 fun _ _ e => e)
  clear hto hk11 HT10 HK10
  go_wp2
  go_ret
  exact ⟨rfl, HK11.out⟩
end Go.Proofs.YtjkmgpmknadhjaaGreat

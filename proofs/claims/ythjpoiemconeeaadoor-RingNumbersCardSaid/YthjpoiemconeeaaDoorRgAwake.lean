/- Chapter 13's example: the law's awake answers true. -/
import Derived.Test.YthjpoiemconeeaaDoorRgOwner
import Derived.Test.YthjpoiemconeeaaDoorRgRead
namespace Go.Proofs.YthjpoiemconeeaaDoor
set_option linter.unusedVariables false
open Go.RowKit

theorem rising_unique {S T : List Pl} (hS : rising S) (hT : rising T) (h : S.Perm T) : S = T :=
  List.Perm.eq_of_pairwise (fun a b ha hb h1 h2 => by omega) hS hT h
abbrev abA : ByteArray := ⟨#[97]⟩
abbrev abB : ByteArray := ⟨#[98]⟩
theorem aw_walk : (rwalk [(10, abA), (20, abB)] 11).length = 2 := by decide
theorem aw_own1 : owner [(10, abA), (20, abB)] 11 = abB := by decide
theorem aw_own2 : owner [(10, abA), (20, abB)] 21 = abA := by decide
theorem aw_parse : Lib.parseIntB 64 [45, 48, 49, 50] = .ok (-12) := by decide
theorem aw_plus : plus ⟨#[45, 48, 49, 50]⟩ = false := by
  unfold plus
  rw [ByteArray.toList_eq]
  decide

set_option maxHeartbeats 4000000 in
set_option maxRecDepth 100000 in
theorem aw13_at (w : World) : Calls Tryd.prog 8 #[] w fun e w' => e = .returned (.bool true) ∧ Kept noBlock w w' := by
  have HN1 := Lib.hid (Rnew_at (w := w.alloc (.cells #[.int .i64 20, .string abB, .int .i64 10, .string abA] 46)) (l := [(20, abB), (10, abA)]) (v := .slice (some ⟨w.heap.size, 0, none⟩) 2 2) (Sl.made_at (n := 2) (Blk.new w 46 #[.int .i64 20, .string abB, .int .i64 10, .string abA]) _ rfl rfl (by decide)) (by decide))
  have HN2 := Lib.hid (fun W => Rnew_at (w := World.alloc W (.cells #[.int .i64 1, .string abA, .int .i64 1, .string abB] 46)) (l := [(1, abA), (1, abB)]) (v := .slice (some ⟨W.heap.size, 0, none⟩) 2 2) (Sl.made_at (n := 2) (Blk.new W 46 #[.int .i64 1, .string abA, .int .i64 1, .string abB]) _ rfl rfl (by decide)) (by decide))
  have HRD := Lib.hid (fun W => Rread_ok (s := ⟨#[45, 48, 49, 50]⟩) (by decide) aw_parse aw_plus W)
  go_enter Tryd.func8, Tryd.ntmps8
  go_wp2_with fail
  go_at_call 9
  refine HN1.out.mono ?_
  rintro e w2 ⟨hk, ⟨hu, -⟩ | ⟨-, hnd, -⟩ | ⟨g, S, hS, rfl, hra, -⟩⟩
  · simp [unnamed, ByteArray.toList_eq] at hu
  · simp at hnd
  have hSe : S = [(10, abA), (20, abB)] := rising_unique hS.2.1 (by simp [rising]) (hS.1.trans (List.Perm.swap _ _ _))
  subst hSe
  have HRA := Lib.hid hra
  have HRI := Lib.hid hS.2.1
  have HK := Lib.hid (((Kept.refl noBlock w).alloc (.cells #[.int .i64 20, .string abB, .int .i64 10, .string abA] 46)).trans hk (fun _ _ h => h))
  clear hra hS hk HN1
  go_wp2_with fail
  go_at_call 13
  refine (Rowner_at HRA.out HRI.out (by decide)).mono ?_
  rintro e w3 ⟨rfl, hk3⟩
  rw [aw_own1]
  have HRA3 := Lib.hid (HRA.out.kept hk3)
  have HK3 := Lib.hid (HK.out.trans hk3 (fun _ _ h => h))
  clear hk3 HRA HK
  go_wp2_with fail
  go_at_call 13
  refine (Rowner_at HRA3.out HRI.out (by decide)).mono ?_
  rintro e w4 ⟨rfl, hk4⟩
  rw [aw_own2]
  have HRA4 := Lib.hid (HRA3.out.kept hk4)
  have HK4 := Lib.hid (HK3.out.trans hk4 (fun _ _ h => h))
  clear hk4 HRA3 HK3
  go_wp2_with fail
  go_at_call 9
  refine (HN2.out w4).mono ?_
  rintro e w5 ⟨hk, ⟨hu, -⟩ | ⟨-, hnd, rfl⟩ | ⟨g2, S, hS, rfl, hra, -⟩⟩
  · simp [unnamed, ByteArray.toList_eq] at hu
  · have hk5 := ((Kept.refl noBlock w4).alloc (.cells #[.int .i64 1, .string abA, .int .i64 1, .string abB] 46)).trans hk (fun _ _ h => h)
    have HRA5 := Lib.hid (HRA4.out.kept hk5)
    have HK5 := Lib.hid (HK4.out.trans hk5 (fun _ _ h => h))
    clear hk hk5 HRA4 HK4 hnd HN2
    go_wp2_with fail
    go_at_call 18
    refine (HRD.out w5).mono ?_
    rintro e w6 ⟨rfl, hk6⟩
    have HRA6 := Lib.hid (HRA5.out.kept hk6)
    have HK6 := Lib.hid (HK5.out.trans hk6 (fun _ _ h => h))
    clear hk6 HRA5 HK5 HRD
    go_wp2_with fail
    go_at_call 16
    refine (Rwalk_at HRA6.out HRI.out (by decide)).mono ?_
    rintro e w7 ⟨v7, rfl, hs7, hk7⟩
    have hl7 := hs7.run_len strsT
    rw [aw_walk] at hl7
    have HRA7 := Lib.hid (HRA6.out.kept hk7)
    have HK7 := Lib.hid (HK6.out.trans hk7 (fun _ _ h => h))
    clear hs7 hk7 HRA6 HK6
    go_wp2_with fail
    go_at_call 12
    refine (Rplaces_at HRA7.out (by decide)).mono ?_
    rintro e w8 ⟨A8, c8, rfl, -, hk8⟩
    have HK8 := Lib.hid (HK7.out.trans hk8 (fun _ _ h => h))
    clear hk8
    go_wp2
    go_ret
    exact ⟨rfl, HK8.out⟩
  · have := (hS.1.map (·.1)).nodup_iff.1 (rising_nodup hS.2.1)
    simp at this
end Go.Proofs.YthjpoiemconeeaaDoor

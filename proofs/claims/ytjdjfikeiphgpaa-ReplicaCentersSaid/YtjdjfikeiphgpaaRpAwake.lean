/- Chapter 14's example: the law's awake answers true. -/
import Derived.Test.YtjdjfikeiphgpaaRpView
namespace Go.Proofs.Ytjdjfikeiphgpaa
set_option linter.unusedVariables false
open Go.RowKit

abbrev rpA : ByteArray := ⟨#[97]⟩
abbrev rpB : ByteArray := ⟨#[98]⟩
abbrev rpC : ByteArray := ⟨#[99]⟩
abbrev rpD : ByteArray := ⟨#[100]⟩
abbrev rp1 : ByteArray := ⟨#[49]⟩
abbrev rp2 : ByteArray := ⟨#[50]⟩
abbrev awS : List Pl := [(1, rpA), (2, rpB), (3, rpC)]
abbrev awZ : List Si := [(rpA, rpD, rp1), (rpB, rpD, rp1), (rpC, rpD, rp2)]
theorem rp_unique {S T : List Pl} (hS : rising S) (hT : rising T) (h : S.Perm T) : S = T :=
  List.Perm.eq_of_pairwise (fun a b ha hb h1 h2 => by omega) hS hT h
theorem aw_walk0 : rwalk awS 0 = [rpA, rpB, rpC] := by decide
theorem aw_walk2 : rwalk awS 2 = [rpB, rpC, rpA] := by decide
theorem aw_sites : sitesOfL awZ [rpA, rpB, rpC] = awZ := by decide
theorem aw_out : refOut awZ [(rpD, 2)] = [rpA, rpC] := by decide

set_option maxHeartbeats 4000000 in
set_option maxRecDepth 100000 in
theorem aw14_at (w : World) : Calls Try.prog 8 #[] w fun e w' => e = .returned (.bool true) ∧ Kept noBlock w w' := by
  have HN1 := Lib.hid (Rnew_view (w := w.alloc (.cells #[.int .i64 1, .string rpA, .int .i64 2, .string rpB, .int .i64 3, .string rpC] 55)) (l := awS) (v := .slice (some ⟨w.heap.size, 0, none⟩) 3 3) (Sl.made_at (n := 3) (Blk.new w 55 #[.int .i64 1, .string rpA, .int .i64 2, .string rpB, .int .i64 3, .string rpC]) _ rfl rfl (by decide)) (by decide))
  go_enter Try.func8, Try.ntmps8
  go_wp2_with fail
  go_at_call 9
  refine HN1.out.mono ?_
  rintro e w2 ⟨p, code, S, rfl, hrs, hrv, hpc, hk⟩
  rcases hrs with ⟨hu, -⟩ | ⟨-, hnd, -⟩ | ⟨hS, rfl⟩
  · simp [unnamed, ByteArray.toList_eq] at hu
  · simp at hnd
  have hSe : S = awS := rp_unique hS.2.1 (by simp [rising]) hS.1
  subst hSe
  have HRV := Lib.hid hrv
  have HRI := Lib.hid hS.2.1
  have HK := Lib.hid (((Kept.refl noBlock w).alloc (.cells #[.int .i64 1, .string rpA, .int .i64 2, .string rpB, .int .i64 3, .string rpC] 55)).trans hk (fun _ _ h => h))
  clear hrv hS hk HN1 hpc
  go_wp2_with fail
  go_at_call 15
  have hka : Kept noBlock w2 ((w2.alloc (.cells #[.string rpA, .string rpD, .string rp1, .string rpB, .string rpD, .string rp1, .string rpC, .string rpD, .string rp2] 42)).alloc (.cells #[.string rpD, .int .i64 2] 45)) := ((Kept.refl noBlock w2).alloc _).alloc _
  have hs1 : Sl ((w2.alloc (.cells #[.string rpA, .string rpD, .string rp1, .string rpB, .string rpD, .string rp1, .string rpC, .string rpD, .string rp2] 42)).alloc (.cells #[.string rpD, .int .i64 2] 45)) 42 3 (.slice (some ⟨w2.heap.size, 0, none⟩) 3 3) awZ.length (awZ.flatMap sC) := Sl.made_at (n := 3) ((Blk.new_at w2 42 _ rfl).alloc _) _ rfl rfl (by decide)
  have hs2 : Sl ((w2.alloc (.cells #[.string rpA, .string rpD, .string rp1, .string rpB, .string rpD, .string rp1, .string rpC, .string rpD, .string rp2] 42)).alloc (.cells #[.string rpD, .int .i64 2] 45)) 45 2 (.slice (some ⟨w2.heap.size + 1, 0, none⟩) 1 1) [(rpD, (2 : Int))].length ([(rpD, (2 : Int))].flatMap fC) := Sl.made_at (n := 1) (Blk.new_at _ 45 _ (by rw [sz_alloc])) _ rfl rfl (by decide)
  refine (Network_view (t := 0) (HRV.out.kept hka) HRI.out (by decide) hs1 hs2 (by decide) (by decide) (by decide)).mono ?_
  rintro e w3 ⟨hk3, ⟨h1, -⟩ | ⟨-, -, A, n, c, out, rfl, hn, -, hsl, hout, -⟩⟩
  · exfalso
    rw [aw_walk0] at h1
    revert h1
    decide
  rw [aw_walk0, aw_sites, aw_out] at hout
  subst hout
  obtain rfl : n = 2 := hn
  have HSL := Lib.hid hsl
  have hk3' := hka.trans hk3 (fun _ _ h => h)
  have HRV3 := Lib.hid (HRV.out.kept hk3')
  have HK3 := Lib.hid (HK.out.trans hk3' (fun _ _ h => h))
  clear hka hs1 hs2 hk3 hk3' hsl HK HRV
  go_wp2_with fail
  go_at_call 15
  refine (Network_view (t := 0) (zs := []) (fs := []) HRV3.out HRI.out (by decide) (SlK.nil _ (fun _ _ => True) 3) (SlK.nil _ (fun _ _ => True) 2) (by decide) (by decide) (by simp)).mono ?_
  rintro e w4 ⟨hk4, ⟨-, rfl⟩ | ⟨-, h1, -⟩⟩
  case inr =>
    exfalso
    rw [aw_walk0] at h1
    obtain ⟨s, hs⟩ := h1 rpA (by simp)
    simp [siteOf] at hs
  have HSL4 := Lib.hid (SlK.keptNone HSL.out hk4)
  have HRV4 := Lib.hid (HRV3.out.kept hk4)
  have HK4 := Lib.hid (HK3.out.trans hk4 (fun _ _ h => h))
  clear hk4 HSL HRV3 HK3
  go_wp2_with fail
  go_at_call 13
  refine (rSimple_in (n := 2) (k := 2) (l := [rpB, rpC, rpA]) (by decide) (by decide) ?_).mono ?_
  · have := Rwalk_view (t := 2) HRV4.out HRI.out (by decide)
    rw [aw_walk2] at this
    exact this.mono fun e w' ⟨A, c, h1, h2, h3⟩ => ⟨_, h1, h2, h3⟩
  rintro e w5 ⟨v5, rfl, hs5, hk5⟩
  obtain ⟨A5, c5, rfl, -, -⟩ := hs5.shape
  have hs4 := SlK.keptNone HSL4.out hk5
  have hl4 := hs4.run_len strsT
  have hl5 := hs5.run_len strsT
  obtain ⟨g0, o0, i0, -, q0⟩ := str_at (i := 0) (s := rpA) hs4 rfl
  obtain ⟨g1, o1, i1, -, q1⟩ := str_at (i := 1) (s := rpC) hs4 rfl
  obtain ⟨g2, o2, i2, -, q2⟩ := str_at (L := [rpB, rpC]) (i := 0) (s := rpB) hs5 rfl
  have HK5 := Lib.hid (HK4.out.trans hk5 (fun _ _ h => h))
  have j0 : ∀ kd w', (Instr.indexAt 33 (.slice A 2 c) (.int kd 0)).run Try.prog w' = .ok (.pointer (some ⟨g0, o0, none⟩)) w' := i0
  have j1 : ∀ kd w', (Instr.indexAt 33 (.slice A 2 c) (.int kd 1)).run Try.prog w' = .ok (.pointer (some ⟨g1, o1, none⟩)) w' := i1
  have j2 : ∀ kd w', (Instr.indexAt 33 (.slice A5 2 c5) (.int kd 0)).run Try.prog w' = .ok (.pointer (some ⟨g2, o2, none⟩)) w' := i2
  have e1 := strEq_self rpA
  have e2 := strEq_self rpB
  have e3 := strEq_self rpC
  clear i0 i1 i2 hs4 hs5 hk5 HSL4 HRV4 HK4
  go_wp2
  go_ret
  exact ⟨rfl, HK5.out⟩
end Go.Proofs.Ytjdjfikeiphgpaa

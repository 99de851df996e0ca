/- The ring: its owner, its places. -/
import Derived.Test.YtjkmgpmknadhjaaGreatRgSearch
namespace Go.Proofs.YtjkmgpmknadhjaaGreat
set_option linter.unusedVariables false
open Go.RowKit

def owner (S : List Pl) (t : Int) : ByteArray := ((S[rat S t]?).map (·.2)).getD noStr
theorem rat_lt {S : List Pl} {t : Int} (h : 0 < S.length) : rat S t < S.length := by unfold rat; split <;> omega
set_option maxHeartbeats 1000000 in
set_option maxRecDepth 100000 in
theorem RownerN_at (t : Int) (w : World) : Calls Tryz.prog 20 #[.pointer none, .int .i64 t] w fun e w' => e = .returned (.tuple #[.string noStr, .bool false]) ∧ w' = w := by
  go_enter Tryz.func20, Tryz.ntmps20
  go_wp2
  go_ret2
  exact ⟨rfl, rfl⟩
set_option maxHeartbeats 2000000 in
set_option maxRecDepth 100000 in
theorem Rowner_at {w : World} {g : Nat} {S : List Pl} {t : Int} (h : RingAt w g S) (hr : rising S) (hn : S.length ≤ 1000) :
    Calls Tryz.prog 20 #[.pointer (some ⟨g, 0, none⟩), .int .i64 t] w fun e w' => e = .returned (.tuple #[.string (owner S t), .bool (decide (0 < S.length))]) ∧ Kept noBlock w w' := by
  have HA := Lib.hid (fun W (hW : RingAt W g S) => Rat_at (t := t) hW hr (by omega))
  have HRA := Lib.hid h
  obtain ⟨A, c, hb, hs⟩ := h
  have hlen := hs.run_len psT
  have c0 := hb.cell 0
  simp only [List.getElem?_toArray, List.getElem?_cons_zero] at c0
  have HB := Lib.hid hb
  have HS := Lib.hid hs
  by_cases hz : S.length = 0
  · have ho : owner S t = noStr := by
      have : S = [] := List.eq_nil_of_length_eq_zero hz
      subst this; rfl
    have HO := Lib.hid ho
    have hz2 : ((S.length : Int) == 0) = true := by simp [hz]
    have hd : decide (0 < S.length) = false := by simp [hz]
    have HD := Lib.hid hd
    clear ho hd hb hs
    go_enter Tryz.func20, Tryz.ntmps20
    go_wp2
    go_ret2
    exact ⟨by rw [HO.out, HD.out]; rfl, Kept.refl _ _⟩
  · have hz2 : ((S.length : Int) == 0) = false := by rw [beq_eq_false_iff_ne]; omega
    have hlt := rat_lt (t := t) (show 0 < S.length by omega)
    obtain ⟨p, hp⟩ : ∃ p, S[rat S t]? = some p := ⟨_, List.getElem?_eq_getElem hlt⟩
    obtain ⟨go_, oo, hidx, hgl, hc0, hc1⟩ := p_at hs psT hp
    have ho : owner S t = p.2 := by unfold owner; rw [hp]; rfl
    have HO := Lib.hid ho
    have hd : decide (0 < S.length) = true := by simp; omega
    have HD := Lib.hid hd
    have HC1 := Lib.hid (fun (w1 : World) (hk1 : Kept noBlock w w1) => ((hk1.cell (p := ⟨go_, oo + 1, none⟩) hgl (fun h => h)).trans hc1))
    obtain ⟨p1, p2⟩ := p
    simp only at HC1 HO
    generalize rat S t = r at *
    clear ho hd hb hs hp hc0 hc1
    go_enter Tryz.func20, Tryz.ntmps20
    go_wp2_with fail
    refine wp_region_sch (fun w' => Kept noBlock w w') (.take 0 (.take 1 (.take 2 (.take 3 (.take 4 (.take 5 (.one 6 (.take 7 (.take 8 (.take 9 (.take 10 (.take 11 .nil)))))))))))) (by kernel_rfl) (by kernel_rfl) (by kernel_rfl) (Kept.refl _ _).drew ?_
    repeat (first
      | (refine sch_takeE rfl rfl ?_
         apply Exists.intro
         refine ⟨fun w' hS => ?_, fun K hK => ?_⟩
         · (have z0 := (HB.out.kept hS (fun h => h)).cell 0
            simp only [List.getElem?_toArray, List.getElem?_cons_zero] at z0
            clear hS
            unfold takesAt; go_simp; rfl)
         go_simp
         refine hK _ ?_
         clear hK K))
    refine sch_doK rfl rfl (fun K hK => ?_)
    go_simp
    go_at_call 33
    refine (HA.out _ (HRA.out.kept (Kept.refl _ _).drew)).mono ?_
    rintro e w4 ⟨rfl, hk4⟩
    have hk5 := (Kept.refl noBlock w).drew.trans hk4 (fun _ _ h => h)
    refine hK _ _ hk5 ?_
    clear hK K
    have HK5 := Lib.hid hk5
    clear hk4 hk5
    repeat (first
      | (refine sch_takeE rfl rfl ?_
         apply Exists.intro
         refine ⟨fun w' hS => ?_, fun K hK => ?_⟩
         · (have z1 := HC1.out _ hS
            clear hS
            unfold takesAt; go_simp; rfl)
         go_simp
         refine hK _ ?_
         clear hK K))
    refine sch_nil (NoPanic.normal ?_)
    go_wp2
    go_ret2
    exact ⟨by rw [HO.out, HD.out]; rfl, HK5.out⟩
set_option maxHeartbeats 1000000 in
set_option maxRecDepth 100000 in
theorem RplacesN_at (w : World) : Calls Tryz.prog 14 #[.pointer none] w fun e w' => e = .returned (.slice none 0 0) ∧ w' = w := by
  go_enter Tryz.func14, Tryz.ntmps14
  go_wp2
  go_ret
  exact ⟨rfl, rfl⟩
set_option maxHeartbeats 1000000 in
set_option maxRecDepth 100000 in
theorem Rplaces_at {w : World} {g : Nat} {S : List Pl} (h : RingAt w g S) (hn : S.length ≤ 1000) :
    Calls Tryz.prog 14 #[.pointer (some ⟨g, 0, none⟩)] w fun e w' => ∃ A c, e = .returned (.slice A S.length c) ∧ Sl w' 54 2 (.slice A S.length c) S.length (S.flatMap pC) ∧ Kept noBlock w w' := by
  obtain ⟨A, c, hb, hs⟩ := h
  have c0 := hb.cell 0
  simp only [List.getElem?_toArray, List.getElem?_cons_zero] at c0
  have HC := Lib.hid (PClone_at hs (by omega))
  clear hb hs
  go_enter Tryz.func14, Tryz.ntmps14
  go_wp2_with fail
  go_at_call 27
  refine HC.out.mono ?_
  rintro e w1 ⟨v1, rfl, hown1, hk1⟩
  have hs1 := Sl.of_own hown1
  obtain ⟨A1, c1, rfl, -, -⟩ := hs1.shape
  go_wp2
  go_ret
  exact ⟨A1, c1, rfl, hs1, hk1⟩
end Go.Proofs.YtjkmgpmknadhjaaGreat

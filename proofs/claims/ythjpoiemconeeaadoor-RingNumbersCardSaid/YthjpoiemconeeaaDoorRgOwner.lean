/- The ring's Owner and Places; the reference's Owner; the law's same. -/
import Derived.Test.YthjpoiemconeeaaDoorR3Walk
namespace Go.Proofs.YthjpoiemconeeaaDoor
set_option linter.unusedVariables false
open Go.RowKit

def owner (S : List Pl) (t : Int) : ByteArray := ((S[rat S t]?).map (·.2)).getD noStr
theorem rat_lt {S : List Pl} {t : Int} (h : 0 < S.length) : rat S t < S.length := by unfold rat; split <;> omega
set_option maxHeartbeats 1000000 in
set_option maxRecDepth 100000 in
theorem RownerN_at (t : Int) (w : World) : Calls Tryd.prog 13 #[.pointer none, .int .i64 t] w fun e w' => e = .returned (.tuple #[.string noStr, .bool false]) ∧ w' = w := by
  go_enter Tryd.func13, Tryd.ntmps13
  go_wp2
  go_ret2
  exact ⟨rfl, rfl⟩
set_option maxHeartbeats 2000000 in
set_option maxRecDepth 100000 in
theorem Rowner_at {w : World} {g : Nat} {S : List Pl} {t : Int} (h : RingAt w g S) (hr : rising S) (hn : S.length ≤ 1000) :
    Calls Tryd.prog 13 #[.pointer (some ⟨g, 0, none⟩), .int .i64 t] w fun e w' => e = .returned (.tuple #[.string (owner S t), .bool (decide (0 < S.length))]) ∧ Kept noBlock w w' := by
  have HA := Lib.hid (fun W (hW : RingAt W g S) => Rat_at (t := t) hW hr (by omega))
  have HRA := Lib.hid h
  obtain ⟨A, c, hb, hs⟩ := h
  have hlen := hs.run_len psT
  have c0 := hb.cell 0
  simp only [List.getElem?_toArray, List.getElem?_cons_zero] at c0
  have HB := Lib.hid hb
  have HS := Lib.hid hs
  by_cases hz : S.length = 0
  · have ho : owner S t = noStr := by
      have : S = [] := List.eq_nil_of_length_eq_zero hz
      subst this; rfl
    have HO := Lib.hid ho
    have hz2 : ((S.length : Int) == 0) = true := by simp [hz]
    have hd : decide (0 < S.length) = false := by simp [hz]
    have HD := Lib.hid hd
    clear ho hd hb hs
    go_enter Tryd.func13, Tryd.ntmps13
    go_wp2
    go_ret2
    exact ⟨by rw [HO.out, HD.out]; rfl, Kept.refl _ _⟩
  · have hz2 : ((S.length : Int) == 0) = false := by rw [beq_eq_false_iff_ne]; omega
    have hlt := rat_lt (t := t) (show 0 < S.length by omega)
    obtain ⟨p, hp⟩ : ∃ p, S[rat S t]? = some p := ⟨_, List.getElem?_eq_getElem hlt⟩
    obtain ⟨go_, oo, hidx, hgl, hc0, hc1⟩ := p_at hs psT hp
    have ho : owner S t = p.2 := by unfold owner; rw [hp]; rfl
    have HO := Lib.hid ho
    have hd : decide (0 < S.length) = true := by simp; omega
    have HD := Lib.hid hd
    have HC1 := Lib.hid (fun (w1 : World) (hk1 : Kept noBlock w w1) => ((hk1.cell (p := ⟨go_, oo + 1, none⟩) hgl (fun h => h)).trans hc1))
    obtain ⟨p1, p2⟩ := p
    simp only at HC1 HO
    generalize rat S t = r at *
    clear ho hd hb hs hp hc0 hc1
    go_enter Tryd.func13, Tryd.ntmps13
    go_wp2_with fail
    refine wp_region_sch (fun w' => Kept noBlock w w') (.take 0 (.take 1 (.take 2 (.take 3 (.take 4 (.take 5 (.one 6 (.take 7 (.take 8 (.take 9 (.take 10 (.take 11 .nil)))))))))))) (by kernel_rfl) (by kernel_rfl) (by kernel_rfl) (Kept.refl _ _).drew ?_
    repeat (first
      | (refine sch_takeE rfl rfl ?_
         apply Exists.intro
         refine ⟨fun w' hS => ?_, fun K hK => ?_⟩
         · (have z0 := (HB.out.kept hS (fun h => h)).cell 0
            simp only [List.getElem?_toArray, List.getElem?_cons_zero] at z0
            clear hS
            unfold takesAt; go_simp; rfl)
         go_simp
         refine hK _ ?_
         clear hK K))
    refine sch_doK rfl rfl (fun K hK => ?_)
    go_simp
    go_at_call 29
    refine (HA.out _ (HRA.out.kept (Kept.refl _ _).drew)).mono ?_
    rintro e w4 ⟨rfl, hk4⟩
    have hk5 := (Kept.refl noBlock w).drew.trans hk4 (fun _ _ h => h)
    refine hK _ _ hk5 ?_
    clear hK K
    have HK5 := Lib.hid hk5
    clear hk4 hk5
    repeat (first
      | (refine sch_takeE rfl rfl ?_
         apply Exists.intro
         refine ⟨fun w' hS => ?_, fun K hK => ?_⟩
         · (have z1 := HC1.out _ hS
            clear hS
            unfold takesAt; go_simp; rfl)
         go_simp
         refine hK _ ?_
         clear hK K))
    refine sch_nil (NoPanic.normal ?_)
    go_wp2
    go_ret2
    exact ⟨by rw [HO.out, HD.out]; rfl, HK5.out⟩
set_option maxHeartbeats 1000000 in
set_option maxRecDepth 100000 in
theorem RplacesN_at (w : World) : Calls Tryd.prog 12 #[.pointer none] w fun e w' => e = .returned (.slice none 0 0) ∧ w' = w := by
  go_enter Tryd.func12, Tryd.ntmps12
  go_wp2
  go_ret
  exact ⟨rfl, rfl⟩
set_option maxHeartbeats 1000000 in
set_option maxRecDepth 100000 in
theorem Rplaces_at {w : World} {g : Nat} {S : List Pl} (h : RingAt w g S) (hn : S.length ≤ 1000) :
    Calls Tryd.prog 12 #[.pointer (some ⟨g, 0, none⟩)] w fun e w' => ∃ A c, e = .returned (.slice A S.length c) ∧ Sl w' 46 2 (.slice A S.length c) S.length (S.flatMap pC) ∧ Kept noBlock w w' := by
  obtain ⟨A, c, hb, hs⟩ := h
  have c0 := hb.cell 0
  simp only [List.getElem?_toArray, List.getElem?_cons_zero] at c0
  have HC := Lib.hid (PClone_at hs (by omega))
  clear hb hs
  go_enter Tryd.func12, Tryd.ntmps12
  go_wp2_with fail
  go_at_call 21
  refine HC.out.mono ?_
  rintro e w1 ⟨v1, rfl, hown1, hk1⟩
  have hs1 := Sl.of_own hown1
  obtain ⟨A1, c1, rfl, -, -⟩ := hs1.shape
  go_wp2
  go_ret
  exact ⟨A1, c1, rfl, hs1, hk1⟩
set_option maxHeartbeats 1000000 in
set_option maxRecDepth 100000 in
theorem R3Owner_at {w : World} {v : Value} {S : List Pl} {t : Int} (h : Sl w 34 2 v S.length (S.flatMap pC)) (hr : rising S) (hn : S.length ≤ 1000) :
    Calls Tryd.prog 14 #[v, .int .i64 t] w fun e w' => e = .returned (.string (owner S t)) ∧ w' = w := by
  obtain ⟨A, c, rfl, -, -⟩ := h.shape
  have hlen := h.run_len p3sT
  have HA := Lib.hid (R3at_at (t := t) h hr hn)
  by_cases hz : S.length = 0
  · have ho : owner S t = noStr := by
      have : S = [] := List.eq_nil_of_length_eq_zero hz
      subst this; rfl
    have HO := Lib.hid ho
    have hz2 : ((S.length : Int) == 0) = true := by simp [hz]
    clear ho h
    go_enter Tryd.func14, Tryd.ntmps14
    go_wp2
    go_ret
    exact ⟨by rw [HO.out]; rfl, rfl⟩
  · have hz2 : ((S.length : Int) == 0) = false := by rw [beq_eq_false_iff_ne]; omega
    have hlt := rat_lt (t := t) (show 0 < S.length by omega)
    obtain ⟨p, hp⟩ : ∃ p, S[rat S t]? = some p := ⟨_, List.getElem?_eq_getElem hlt⟩
    obtain ⟨go_, oo, hidx, hgl, hc0, hc1⟩ := p_at h p3sT hp
    have ho : owner S t = p.2 := by unfold owner; rw [hp]; rfl
    have HO := Lib.hid ho
    obtain ⟨p1, p2⟩ := p
    simp only at hc1 HO
    generalize rat S t = r at *
    clear ho h hp hc0
    go_enter Tryd.func14, Tryd.ntmps14
    go_wp2_with fail
    go_at_call 30
    refine HA.out.mono ?_
    rintro e w4 ⟨rfl, rfl⟩
    go_wp2
    go_ret
    exact ⟨by rw [HO.out]; rfl, rfl⟩

/-- The law's same, at what is the same. -/
theorem same_at {w : World} {u v : Value} {l : List ByteArray} (h : Sl w 9 1 u l.length (l.map Value.string)) (h2 : Sl w 9 1 v l.length (l.map Value.string)) (hn : l.length ≤ 100000) :
    Calls Tryd.prog 15 #[u, v] w fun e w' => e = .returned (.bool true) ∧ ∃ n, w' = w.drewN n := by
  obtain ⟨A, c, rfl, -, -⟩ := h.shape
  obtain ⟨A2, c2, rfl, -, -⟩ := h2.shape
  have hlen := h.run_len strsT
  have hlen2 := h2.run_len strsT
  have H := Lib.hid h
  have H2 := Lib.hid h2
  have hne : ((l.length : Int) != (l.length : Int)) = false := by simp
  clear h h2
  go_enter Tryd.func15, Tryd.ntmps15
  go_wp2_with fail
  clear hne
  go_loopg [5] l.length (fun j vi wr => ∃ i n : Nat, i + j = l.length ∧ vi = .int .i64 i ∧ wr = w.drewN n)
  case atStart => exact ⟨0, 0, by omega, rfl, rfl⟩
  case round =>
    obtain ⟨i, n, hij, rfl, rfl⟩ := hrel
    have HIJ := Lib.hid hij
    clear hij
    by_cases hlt : i < l.length
    · obtain ⟨x, hx⟩ : ∃ x, l[i]? = some x := ⟨_, List.getElem?_eq_getElem hlt⟩
      obtain ⟨ga, oa, hia, -, hca⟩ := str_at (SlK.drewN H.out n) hx
      obtain ⟨gb, ob, hib, -, hcb⟩ := str_at (SlK.drewN H2.out n) hx
      have hbe := strEq_self x
      have hca4 : w.cell? ⟨ga, oa, none⟩ = some (.string x) := hca
      have hcb4 : w.cell? ⟨gb, ob, none⟩ = some (.string x) := hcb
      clear hx
      go_wp2
      go_quiet (fail)
      go_wp2
      go_roundg (l.length - (i + 1))
      case measure => have := HIJ.out; omega
      case rel => exact ⟨i + 1, n + nq, by have := HIJ.out; omega, by go_num, rfl⟩
    · go_wp2
      go_ret
      exact ⟨rfl, n, rfl⟩
end Go.Proofs.YthjpoiemconeeaaDoor

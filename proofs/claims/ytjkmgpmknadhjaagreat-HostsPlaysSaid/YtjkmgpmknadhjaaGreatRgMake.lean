/- ring.New. -/
import Derived.Test.YtjkmgpmknadhjaaGreatRgComp2
namespace Go.Proofs.YtjkmgpmknadhjaaGreat
set_option linter.unusedVariables false
open Go.RowKit

/-- A ring: its places, rising. -/
def RingAt (w : World) (g : Nat) (S : List Pl) : Prop := ∃ A c, Blk w g 78 #[.slice A S.length c] ∧ Sl w 54 2 (.slice A S.length c) S.length (S.flatMap pC)
theorem RingAt.kept {w w' : World} {g : Nat} {S : List Pl} (h : RingAt w g S) (hk : Kept noBlock w w') : RingAt w' g S := by
  obtain ⟨A, c, hb, hs⟩ := h
  exact ⟨A, c, hb.kept hk (fun h => h), hs.keptNone hk⟩
def unnamed (l : List Pl) : Bool := l.any fun p => p.2.toList.isEmpty
def rising (S : List Pl) : Prop := S.Pairwise fun a b => a.1 < b.1
/-- What New makes of places. -/
def RingOf (l : List Pl) (S : List Pl) : Prop := S.Perm l ∧ rising S ∧ unnamed l = false
def NewPost (w : World) (l : List Pl) (e : Ending) (w' : World) : Prop :=
  Kept noBlock w w' ∧ ((unnamed l = true ∧ e = .returned (.tuple #[.pointer none, .int .i64 1])) ∨
    (unnamed l = false ∧ ¬ (l.map (·.1)).Nodup ∧ e = .returned (.tuple #[.pointer none, .int .i64 11])) ∨
    (∃ g S, RingOf l S ∧ e = .returned (.tuple #[.pointer (some ⟨g, 0, none⟩), .int .i64 0]) ∧ RingAt w' g S ∧ w.heap.size ≤ g))

theorem unnamed_perm {l S : List Pl} (h : S.Perm l) : unnamed S = unnamed l := by
  unfold unnamed
  rw [Bool.eq_iff_iff, List.any_eq_true, List.any_eq_true]
  exact ⟨fun ⟨x, a, b⟩ => ⟨x, h.mem_iff.1 a, b⟩, fun ⟨x, a, b⟩ => ⟨x, h.mem_iff.2 a, b⟩⟩
theorem rising_of {S : List Pl} (h : S.Pairwise fun a b => a.1 ≤ b.1) (ha : apart S) : rising S := by
  unfold rising
  rw [List.pairwise_iff_getElem] at h ⊢
  intro i j hi hj hij
  have h1 := h i (i + 1) hi (by omega) (by omega)
  have h2 := ha i S[i] S[i + 1] (List.getElem?_eq_getElem hi) (List.getElem?_eq_getElem (by omega))
  have h3 : S[i + 1].1 ≤ S[j].1 := by
    by_cases e : i + 1 = j
    · subst e; exact Int.le_refl _
    · exact h (i + 1) j (by omega) hj (by omega)
  omega
theorem rising_nodup {S : List Pl} (h : rising S) : (S.map (·.1)).Nodup := List.pairwise_map.2 (h.imp fun e => by omega)
theorem apart_of_nodup {S : List Pl} (h : (S.map (·.1)).Nodup) : apart S := by
  intro i p q hp hq e
  obtain ⟨hi, rfl⟩ := List.getElem?_eq_some_iff.1 hp
  obtain ⟨hj, rfl⟩ := List.getElem?_eq_some_iff.1 hq
  have := List.pairwise_iff_getElem.1 h i (i + 1) (by simpa using hi) (by simpa using hj) (by omega)
  simp only [List.getElem_map] at this
  exact this e

set_option maxHeartbeats 2000000 in
set_option maxRecDepth 100000 in
theorem Rnew_at {w : World} {ok : Nat → TypeId → Prop} {v : Value} {l : List Pl} (h : SlK w ok 2 v l.length (l.flatMap pC)) (hl : l.length ≤ 1000) :
    Calls Tryz.prog 26 #[v] w (NewPost w l) := by
  obtain ⟨A, c, rfl, -, -⟩ := h.shape
  have HC := Lib.hid (PClone_at h (by omega))
  clear h
  go_enter Tryz.func26, Tryz.ntmps26
  go_wp2_with fail
  go_at_call 27
  refine HC.out.mono ?_
  rintro e w1 ⟨v1, rfl, hown1, hk1⟩
  have hs1 := Sl.of_own hown1
  obtain ⟨A1, c1, rfl, -, -⟩ := hs1.shape
  have HO1 := Lib.hid hown1
  have HK1 := Lib.hid hk1
  clear hown1 hk1 hs1 HC
  go_wp2_with fail
  go_at_call 38
  refine (PSort_at HO1.out (by omega)).mono ?_
  rintro e w2 ⟨rfl, S, hp, hle, hs2, hk2⟩
  have hk12 : Kept noBlock w w2 := HK1.out.trans hk2 (fun i hi e => by have := (HO1.out.lt i e).1; omega)
  have hlS : S.length = l.length := hp.length_eq
  have hs2' : Sl w2 54 2 (.slice A1 l.length c1) S.length (S.flatMap pC) := by rw [hlS]; exact hs2
  have HS2 := Lib.hid hs2'
  have HK2 := Lib.hid hk12
  have HP := Lib.hid hp
  have HLE := Lib.hid hle
  have HLS := Lib.hid hlS
  clear hp hle hs2 hk2 hk12 hs2' HO1 HK1
  go_wp2_with fail
  go_at_call 41
  refine (PHas_at HS2.out (by omega)).mono ?_
  rintro e w3 ⟨rfl, hk3⟩
  have hun : (S.any fun p => p.2.toList.isEmpty) = unnamed l := unnamed_perm HP.out
  rw [hun]
  have HS3 := Lib.hid (SlK.keptNone HS2.out hk3)
  have HK3 := Lib.hid (HK2.out.trans hk3 (fun _ _ h => h))
  clear hk3 HS2 HK2 hun hlS
  cases hu : unnamed l with
  | true =>
    have HU := Lib.hid hu
    clear hu
    go_wp2
    go_ret2
    exact ⟨HK3.out, .inl ⟨HU.out, rfl⟩⟩
  | false =>
    have HU := Lib.hid hu
    clear hu
    go_wp2_with fail
    go_at_call 27
    refine (PClone_at (n := S.length) HS3.out (by rw [HLS.out]; omega)).mono ?_
    rintro e w4 ⟨v4, rfl, hown4, hk4⟩
    have hs4 := Sl.of_own hown4
    obtain ⟨A4, c4, rfl, -, -⟩ := hs4.shape
    have HS4 := Lib.hid (SlK.keptNone (SlK.any HS3.out (ok' := fun g e => e = 54 ∧ g < w3.heap.size) (fun g e hg he => ⟨he, hg⟩)) hk4)
    have HK4 := Lib.hid (HK3.out.trans hk4 (fun _ _ h => h))
    have HO4 := Lib.hid hown4
    have hz := HK3.out.size
    clear hs4 hown4 hk4 HS3 HK3
    go_wp2_with fail
    go_at_call 44
    refine (PCompact_at HO4.out (by rw [HLS.out]; omega)).mono ?_
    rintro e w5 ⟨A5, m5, c5, rfl, hm1, hm2, hm3, hk5⟩
    have hk5b : Kept noBlock w w5 := HK4.out.trans hk5 (fun i hi e => by have := (HO4.out.lt i e).1; omega)
    have hs5 : Sl w5 54 2 (.slice A1 l.length c1) S.length (S.flatMap pC) := SlK.any (SlK.keptAll HS4.out hk5 (fun i e hi hv => by have := (HO4.out.lt i hv).1; have := hi.2; omega)) (fun g e _ he => he.1)
    rw [← HLS.out] at hs5
    have HS5 := Lib.hid hs5
    have HK5 := Lib.hid hk5b
    clear hk5 hk5b hs5 HS4 HK4 HO4
    by_cases hap : apart S
    · have hm := hm2 hap
      have hris := rising_of HLE.out hap
      have hmn : ¬ m5 < l.length := by rw [hm, HLS.out]; omega
      have HR := Lib.hid (⟨HP.out, hris, HU.out⟩ : RingOf l S)
      clear hap hris hm1 hm2 hm3 hm
      have hb := Blk.new w5 78 #[.slice A1 l.length c1]
      have HRA := Lib.hid (show RingAt (w5.alloc (.cells #[.slice A1 l.length c1] 78)) w5.heap.size S from ⟨A1, c1, by rw [HLS.out]; exact hb, HS5.out.alloc _⟩)
      have hz5 := HK5.out.size
      clear hb
      go_wp2
      go_ret2
      exact ⟨HK5.out.alloc _, .inr (.inr ⟨_, S, HR.out, rfl, HRA.out, hz5⟩)⟩
    · have hm := hm3 hap
      rw [HLS.out] at hm
      have hnd : ¬ (l.map (·.1)).Nodup := fun e => hap (apart_of_nodup ((HP.out.map (·.1)).nodup_iff.2 e))
      have HN := Lib.hid hnd
      clear hap hnd hm1 hm2 hm3
      go_wp2
      go_ret2
      exact ⟨HK5.out, .inr (.inl ⟨HU.out, HN.out, rfl⟩)⟩
end Go.Proofs.YtjkmgpmknadhjaaGreat

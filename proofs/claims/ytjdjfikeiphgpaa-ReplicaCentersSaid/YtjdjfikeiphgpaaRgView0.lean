/- A ring as the laws see it (new, walk): a pointer, nil where it was refused; its places. -/
import Derived.Test.YtjdjfikeiphgpaaR3Walk
namespace Go.Proofs.Ytjdjfikeiphgpaa
set_option linter.unusedVariables false
open Go.RowKit

/-- What New tells of places: a number, and what they become. -/
def RS (l : List Pl) (code : Int) (S : List Pl) : Prop :=
  (unnamed l = true ∧ code = 1 ∧ S = []) ∨ (unnamed l = false ∧ ¬ (l.map (·.1)).Nodup ∧ code = 11 ∧ S = []) ∨ (RingOf l S ∧ code = 0)
theorem RingOf.nodup {l S : List Pl} (h : RingOf l S) : (l.map (·.1)).Nodup := (h.1.map (·.1)).nodup_iff.1 (rising_nodup h.2.1)
theorem rising_uniq {S T : List Pl} (hS : rising S) (hT : rising T) (h : S.Perm T) : S = T :=
  List.Perm.eq_of_pairwise (fun a b ha hb h1 h2 => by omega) hS hT h
theorem RS.uniq {l S S' : List Pl} {c c' : Int} (h : RS l c S) (h' : RS l c' S') : c = c' ∧ S = S' := by
  rcases h with ⟨a, rfl, rfl⟩ | ⟨a, b, rfl, rfl⟩ | ⟨a, rfl⟩ <;> rcases h' with ⟨a', rfl, rfl⟩ | ⟨a', b', rfl, rfl⟩ | ⟨a', rfl⟩
  · exact ⟨rfl, rfl⟩
  · rw [a] at a'; cases a'
  · rw [a'.2.2] at a; cases a
  · rw [a] at a'; cases a'
  · exact ⟨rfl, rfl⟩
  · exact absurd a'.nodup b
  · rw [a.2.2] at a'; cases a'
  · exact absurd a.nodup b'
  · exact ⟨rfl, rising_uniq a.2.1 a'.2.1 (a.1.trans a'.1.symm)⟩
theorem RS.rising {l S : List Pl} {c : Int} (h : RS l c S) : rising S := by
  rcases h with ⟨-, -, rfl⟩ | ⟨-, -, -, rfl⟩ | ⟨a, -⟩
  · exact .nil
  · exact .nil
  · exact a.2.1
theorem RS.len {l S : List Pl} {c : Int} (h : RS l c S) : S.length ≤ l.length := by
  rcases h with ⟨-, -, rfl⟩ | ⟨-, -, -, rfl⟩ | ⟨a, -⟩
  · simp
  · simp
  · exact Nat.le_of_eq a.1.length_eq
def RV (w : World) (p : Option Addr) (S : List Pl) : Prop := (p = none ∧ S = []) ∨ ∃ g, p = some ⟨g, 0, none⟩ ∧ RingAt w g S
theorem RV.kept {w w' : World} {p : Option Addr} {S : List Pl} (h : RV w p S) (hk : Kept noBlock w w') : RV w' p S := by
  rcases h with h | ⟨g, hp, h⟩
  · exact .inl h
  · exact .inr ⟨g, hp, h.kept hk⟩
section
variable {w : World} {p : Option Addr} {S : List Pl} {t : Int}
theorem Rnew_view {ok : Nat → TypeId → Prop} {v : Value} {l : List Pl} (h : SlK w ok 2 v l.length (l.flatMap pC)) (hl : l.length ≤ 1000) :
    Calls Try.prog 9 #[v] w fun e w' => ∃ p code S, e = .returned (.tuple #[.pointer p, .int .i64 code]) ∧ RS l code S ∧ RV w' p S ∧ (p = none ↔ code ≠ 0) ∧ Kept noBlock w w' := by
  refine (Rnew_at h hl).mono ?_
  rintro e w' ⟨hk, ⟨hu, rfl⟩ | ⟨hu, hnd, rfl⟩ | ⟨g, S, hS, rfl, hra, -⟩⟩
  · exact ⟨none, 1, [], rfl, .inl ⟨hu, rfl, rfl⟩, .inl ⟨rfl, rfl⟩, by simp, hk⟩
  · exact ⟨none, 11, [], rfl, .inr (.inl ⟨hu, hnd, rfl, rfl⟩), .inl ⟨rfl, rfl⟩, by simp, hk⟩
  · exact ⟨some ⟨g, 0, none⟩, 0, S, rfl, .inr (.inr ⟨hS, rfl⟩), .inr ⟨g, rfl, hra⟩, by simp, hk⟩
theorem R3New_view {ok : Nat → TypeId → Prop} {v : Value} {l : List Pl} (h : SlK w ok 2 v l.length (l.flatMap pC)) (hl : l.length ≤ 1000) :
    Calls Try.prog 10 #[v] w fun e w' => ∃ v code S, e = .returned (.tuple #[v, .int .i64 code]) ∧ RS l code S ∧ Sl w' 68 2 v S.length (S.flatMap pC) ∧ Kept noBlock w w' := by
  refine (R3New_at h hl).mono ?_
  rintro e w' ⟨hk, ⟨hu, rfl⟩ | ⟨hu, hnd, rfl⟩ | ⟨v, S, hS, rfl, hs⟩⟩
  · exact ⟨_, 1, [], rfl, .inl ⟨hu, rfl, rfl⟩, Sl.nil _ _ _, hk⟩
  · exact ⟨_, 11, [], rfl, .inr (.inl ⟨hu, hnd, rfl, rfl⟩), Sl.nil _ _ _, hk⟩
  · exact ⟨v, 0, S, rfl, .inr (.inr ⟨hS, rfl⟩), hs, hk⟩
theorem Rwalk_view (h : RV w p S) (hr : rising S) (hn : S.length ≤ 1000) :
    Calls Try.prog 17 #[.pointer p, .int .i64 t] w fun e w' => ∃ A c, e = .returned (.slice A (rwalk S t).length c) ∧ Sl w' 9 1 (.slice A (rwalk S t).length c) (rwalk S t).length ((rwalk S t).map Value.string) ∧ Kept noBlock w w' := by
  rcases h with ⟨rfl, rfl⟩ | ⟨g, rfl, h⟩
  · refine (RwalkN_at t w).mono ?_
    rintro e w' ⟨rfl, rfl⟩
    exact ⟨none, 0, rfl, Sl.nil _ _ _, Kept.refl _ _⟩
  · refine (Rwalk_at h hr hn).mono ?_
    rintro e w' ⟨v, rfl, hs, hk⟩
    obtain ⟨A, c, rfl, -, -⟩ := hs.shape
    exact ⟨A, c, rfl, hs, hk⟩
end
end Go.Proofs.Ytjdjfikeiphgpaa

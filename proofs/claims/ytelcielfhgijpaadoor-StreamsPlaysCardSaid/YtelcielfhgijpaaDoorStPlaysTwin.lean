/- StreamsPlays: streams and the reference's list behind each operation. -/
import Derived.Test.YtelcielfhgijpaaDoorStSame
namespace Go.Proofs.YtelcielfhgijpaaDoor
set_option linter.unusedVariables false
open Go.RowKit

section
variable {w0 w w' w'' : World} {g m1 m2 B : Nat} {s s' : XS} {v v' : Value} {L L' : List XO} {n : Int}
theorem SAt.notO (h : SAt w g m1 m2 s) (i : Nat) (cs : Array Value) (fz : Nat × Nat) (hi : three g m1 m2 i) : w.heap[i]? ≠ some (Obj.cells cs 77 fz) := by
  obtain ⟨cs', k, hb, hc, ha, ho, hne, hok⟩ := h
  intro hh
  rcases hi with rfl | rfl | rfl
  · have h2 : some (Obj.cells cs' 66 (0, 0)) = some (Obj.cells cs 77 fz) := hb.symm.trans hh
    injection h2 with h2
    injection h2 with _ h2 _
    exact absurd h2 (by decide)
  · obtain ⟨es, ck, h3⟩ := ha.heap
    rw [h3] at hh; cases hh
  · obtain ⟨es, ck, h3⟩ := ho.heap
    rw [h3] at hh; cases hh
/-- The list is kept by what changes streams alone. -/
theorem OsAt.three (h : OsAt w v L) (hs : SAt w g m1 m2 s) (hk : Kept (three g m1 m2) w w') : OsAt w' v L :=
  SlK.kept h hk fun i cs fz hi => hs.notO i cs fz hi
theorem Twin.new (h : SW w0 w g m1 m2 (XS.fresh n)) : Twin w0 w g m1 m2 (XS.fresh n) (.slice none 0 0) [] := ⟨h, Sl.nil _ _ _, RL.fresh n⟩
/-- .. and by a store to the law's own variable. -/
theorem Twin.stored (h : SW w0 w g m1 m2 s) (ho : OsAt w v L) (hr : RL s L) {c0 c1 a b : Value} (hb : Blk w B 43 #[c0, c1]) (hB : B ≠ g ∧ B ≠ m1 ∧ B ≠ m2) (hz : w0.heap.size ≤ B) :
    Twin w0 ((w.setCell ⟨B, 0, none⟩ a).setCell ⟨B, 1, none⟩ b) g m1 m2 s v L :=
  ⟨h.apart (((Kept.refl (fun i => i = B) w).setCell (p := ⟨B, 0, none⟩) (fun _ => rfl) a).setCell (p := ⟨B, 1, none⟩) (fun _ => rfl) b) (fun i e => by subst e; exact ⟨hB.1, hB.2.1, hB.2.2, hz⟩),
   (SlK.far ho hb (by decide) 0 a).far (hb.set_ 0 a) (by decide) 1 b, hr⟩
theorem Twin.take_ok (h : Twin w0 w g m1 m2 s v L) (u : Int) (hu : 0 ≤ u ∧ u < 18446744073709551616) (hl : (L.length : Int) < s.n) :
    ∃ C D, L = C ++ D ∧ (∀ (i : Nat) p, C[i]? = some p → p.id = (i : Int)) ∧ (∀ p, D[0]? = some p → p.id ≠ (C.length : Int)) ∧ RL (s.take (C.length : Int) u) (C ++ ⟨C.length, u, false⟩ :: D) ∧
      Calls Tryd.prog 10 #[.pointer (some ⟨g, 0, none⟩), .int .u64 u] w fun e w' => e = .returned (.tuple #[.int .i64 (C.length : Int), .int .i64 0]) ∧ SW w0 w' g m1 m2 (s.take (C.length : Int) u) ∧ OsAt w' v L ∧ Kept (three g m1 m2) w w' := by
  obtain ⟨C, D, rfl, hC0, hD0⟩ := low_split L 0
  have hC : ∀ (i : Nat) p, C[i]? = some p → p.id = (i : Int) := fun i p hp => by have := hC0 i p hp; omega
  have hD : ∀ p, D[0]? = some p → p.id ≠ (C.length : Int) := fun p hp => by have := hD0 p hp; omega
  obtain ⟨b1, b2⟩ := h.rl.above h.sw.ok hC hD
  refine ⟨C, D, rfl, hC, hD, h.rl.take h.sw.ok hC hD, ?_⟩
  rw [List.length_append] at hl
  refine (h.sw.take_ok u hu (id := C.length) (by omega) (h.rl.free fun o ho => ?_) (fun j hj => h.rl.owed.2 ⟨C[j], by simp, hC j _ (List.getElem?_eq_getElem hj)⟩)).mono ?_
  · rcases List.mem_append.1 ho with ho | ho
    · have := b1 o ho; omega
    · have := b2 o ho; omega
  · rintro e w' ⟨rfl, hs, hk⟩
    exact ⟨rfl, hs, h.os.three h.sw.at_ hk, hk⟩
theorem Twin.take_busy (h : Twin w0 w g m1 m2 s v L) (u : Int) (hu : 0 ≤ u ∧ u < 18446744073709551616) (hl : s.n ≤ (L.length : Int)) :
    Calls Tryd.prog 10 #[.pointer (some ⟨g, 0, none⟩), .int .u64 u] w fun e w' => e = .returned (.tuple #[.int .i64 0, .int .i64 30]) ∧ SW w0 w' g m1 m2 s ∧ OsAt w' v L ∧ Kept (three g m1 m2) w w' := by
  refine (h.sw.take_busy u hu (fun j hj => h.rl.full h.sw.ok hl j hj)).mono ?_
  rintro e w' ⟨rfl, hs, hk⟩
  exact ⟨rfl, hs, h.os.three h.sw.at_ hk, hk⟩
theorem id_split (L : List XO) (id : Int) : (∀ o ∈ L, o.id ≠ id) ∨ ∃ C o D, L = C ++ o :: D ∧ o.id = id := by
  by_cases h : ∃ o ∈ L, o.id = id
  · obtain ⟨o, ho, e⟩ := h
    obtain ⟨C, D, rfl⟩ := List.append_of_mem ho
    exact .inr ⟨C, o, D, rfl, e⟩
  · exact .inl fun o ho e => h ⟨o, ho, e⟩
theorem Twin.answer_bad (h : Twin w0 w g m1 m2 s v L) (id : Int) (hi : ∀ o ∈ L, o.id ≠ id) :
    Calls Tryd.prog 13 #[.pointer (some ⟨g, 0, none⟩), .int .i64 id] w fun e w' => e = .returned (.tuple #[.bool false, .int .i64 31]) ∧ SW w0 w' g m1 m2 s ∧ OsAt w' v L ∧ Kept (three g m1 m2) w w' := by
  refine (Answer_bad h.sw.at_ id (h.rl.free hi)).mono ?_
  rintro e w' ⟨rfl, rfl⟩
  exact ⟨rfl, h.sw, h.os, Kept.refl _ _⟩
theorem Twin.answer_ok {C D : List XO} {o : XO} (h : Twin w0 w g m1 m2 s v (C ++ o :: D)) (id : Int) (ho : o.id = id) :
    Calls Tryd.prog 13 #[.pointer (some ⟨g, 0, none⟩), .int .i64 id] w fun e w' => e = .returned (.tuple #[.bool (!o.orph), .int .i64 0]) ∧ SW w0 w' g m1 m2 (s.answer id) ∧ OsAt w' v (C ++ o :: D) ∧ Kept (three g m1 m2) w w' := by
  subst ho
  refine (h.sw.answer_ok o.id (h.rl.owed.2 ⟨o, by simp, rfl⟩)).mono ?_
  rintro e w' ⟨rfl, hs, hk⟩
  have hb : (aget o.id s.asked).isSome = !o.orph := by
    cases hp : o.orph with
    | false =>
      have h3 := h.rl.asked.2 ⟨o, by simp, hp, rfl⟩
      rw [h3]; rfl
    | true =>
      have h3 := h.rl.orphs.2 ⟨o, by simp, hp, rfl⟩
      cases hg : aget o.id s.asked with
      | none => rfl
      | some u => rw [h.sw.ok.dis o.id (by rw [hg]; rfl)] at h3; cases h3
  rw [hb]
  exact ⟨rfl, hs, h.os.three h.sw.at_ hk, hk⟩
theorem Twin.orphan_bad (h : Twin w0 w g m1 m2 s v L) (id : Int) (hi : ∀ o ∈ L, o.id = id → o.orph = true) :
    Calls Tryd.prog 12 #[.pointer (some ⟨g, 0, none⟩), .int .i64 id] w fun e w' => e = .returned (.int .i64 31) ∧ SW w0 w' g m1 m2 s ∧ OsAt w' v L ∧ Kept (three g m1 m2) w w' := by
  have hn : aget id s.asked = none := by
    cases hg : aget id s.asked with
    | none => rfl
    | some u =>
      obtain ⟨o, ho, h1, h2⟩ := h.rl.asked.1 (show (aget id s.asked).isSome = true by rw [hg]; rfl)
      rw [hi o ho h2] at h1; cases h1
  refine (Orphan_bad h.sw.at_ id hn).mono ?_
  rintro e w' ⟨rfl, rfl⟩
  exact ⟨rfl, h.sw, h.os, Kept.refl _ _⟩
theorem Twin.orphan_ok {C D : List XO} {o : XO} (h : Twin w0 w g m1 m2 s v (C ++ o :: D)) (id : Int) (ho : o.id = id) (hp : o.orph = false) :
    Calls Tryd.prog 12 #[.pointer (some ⟨g, 0, none⟩), .int .i64 id] w fun e w' => e = .returned (.int .i64 0) ∧ SW w0 w' g m1 m2 (s.orphan id) ∧ OsAt w' v (C ++ o :: D) ∧ Kept (three g m1 m2) w w' := by
  refine (h.sw.orphan_ok id (h.rl.asked.2 ⟨o, by simp, hp, ho⟩)).mono ?_
  rintro e w' ⟨rfl, hs, hk⟩
  exact ⟨rfl, hs, h.os.three h.sw.at_ hk, hk⟩
/-! Each operation of both, by letters: what they tell is the same, and they tell the same ever on. -/
theorem Twin.take (h : Twin w0 w g m1 m2 s v L) (u : Int) (hu : 0 ≤ u ∧ u < 18446744073709551616) (hl : L.length ≤ 1000) :
    ∃ (s' : XS) (L' : List XO) (x f : Int), s'.n = s.n ∧ L'.length ≤ L.length + 1 ∧ RL s' L' ∧
      (Calls Tryd.prog 10 #[.pointer (some ⟨g, 0, none⟩), .int .u64 u] w fun e w' => e = .returned (.tuple #[.int .i64 x, .int .i64 f]) ∧ SW w0 w' g m1 m2 s' ∧ OsAt w' v L ∧ Kept (three g m1 m2) w w') ∧
      ∀ w1, OsAt w1 v L → Calls Tryd.prog 14 #[sVal s.n v, .int .u64 u] w1 fun e w' => ∃ v', e = .returned (.tuple #[sVal s.n v', .int .i64 x, .int .i64 f]) ∧ OsAt w' v' L' ∧ Kept noBlock w1 w' := by
  by_cases hfull : (L.length : Int) < s.n
  · obtain ⟨C, D, rfl, hC, hD, hrl, htk⟩ := h.take_ok u hu hfull
    exact ⟨s.take (C.length : Int) u, C ++ ⟨C.length, u, false⟩ :: D, C.length, 0, rfl, by simp only [List.length_append, List.length_cons]; omega, hrl, htk, fun w1 h1 => sTake_ok h1 hfull (by omega) hC hD⟩
  · exact ⟨s, L, 0, 30, rfl, by omega, h.rl, h.take_busy u hu (by omega), fun w1 h1 => sTake_busy h1 (by omega) (by omega)⟩
theorem Twin.answer (h : Twin w0 w g m1 m2 s v L) (id : Int) (hl : L.length ≤ 1000) :
    ∃ (s' : XS) (L' : List XO) (b : Bool) (f : Int), s'.n = s.n ∧ L'.length ≤ L.length + 1 ∧ RL s' L' ∧
      (Calls Tryd.prog 13 #[.pointer (some ⟨g, 0, none⟩), .int .i64 id] w fun e w' => e = .returned (.tuple #[.bool b, .int .i64 f]) ∧ SW w0 w' g m1 m2 s' ∧ OsAt w' v L ∧ Kept (three g m1 m2) w w') ∧
      ∀ w1, OsAt w1 v L → Calls Tryd.prog 15 #[sVal s.n v, .int .i64 id] w1 fun e w' => ∃ v', e = .returned (.tuple #[sVal s.n v', .bool b, .int .i64 f]) ∧ OsAt w' v' L' ∧ Kept noBlock w1 w' := by
  rcases id_split L id with hno | ⟨C, o, D, rfl, rfl⟩
  · exact ⟨s, L, false, 31, rfl, by omega, h.rl, h.answer_bad id hno, fun w1 h1 => sAnswer_bad h1 hno (by omega)⟩
  · exact ⟨s.answer o.id, C ++ D, !o.orph, 0, rfl, by simp only [List.length_append, List.length_cons]; omega, h.rl.answer h.sw.ok, h.answer_ok o.id rfl, fun w1 h1 => sAnswer_ok h1 h.rl.apart.1 rfl (by omega)⟩
theorem Twin.orphan (h : Twin w0 w g m1 m2 s v L) (id : Int) (hl : L.length ≤ 1000) :
    ∃ (s' : XS) (L' : List XO) (f : Int), s'.n = s.n ∧ L'.length ≤ L.length + 1 ∧ RL s' L' ∧
      (Calls Tryd.prog 12 #[.pointer (some ⟨g, 0, none⟩), .int .i64 id] w fun e w' => e = .returned (.int .i64 f) ∧ SW w0 w' g m1 m2 s' ∧ OsAt w' v L ∧ Kept (three g m1 m2) w w') ∧
      ∀ w1, OsAt w1 v L → Calls Tryd.prog 16 #[sVal s.n v, .int .i64 id] w1 fun e w' => ∃ v', e = .returned (.tuple #[sVal s.n v', .int .i64 f]) ∧ OsAt w' v' L' ∧ Kept noBlock w1 w' := by
  rcases id_split L id with hno | ⟨C, o, D, rfl, rfl⟩
  · exact ⟨s, L, 31, rfl, by omega, h.rl, h.orphan_bad id (fun o h1 h2 => absurd h2 (hno o h1)), fun w1 h1 => sOrphan_bad h1 hno (by omega)⟩
  · obtain ⟨q1, q2⟩ := h.rl.apart
    cases hor : o.orph with
    | true =>
      refine ⟨s, C ++ o :: D, 31, rfl, by omega, h.rl, h.orphan_bad o.id (fun p h1 h2 => ?_), fun w1 h1 => sOrphan_bad2 h1 q1 rfl hor (by omega)⟩
      rcases List.mem_append.1 h1 with h1 | h1
      · exact absurd h2 (q1 p h1)
      · rcases List.mem_cons.1 h1 with rfl | h1
        · exact hor
        · exact absurd h2 (q2 p h1)
    | false => exact ⟨s.orphan o.id, C ++ { o with orph := true } :: D, 0, rfl, by simp only [List.length_append, List.length_cons]; omega, h.rl.orphan h.sw.ok hor, h.orphan_ok o.id rfl hor, fun w1 h1 => sOrphan_ok h1 q1 rfl hor (by omega)⟩
end
end Go.Proofs.YtelcielfhgijpaaDoor

/- ring.Read on every road. -/
import Derived.Test.YthjpoiemconeeaaDoorRgReadsPure
namespace Go.Proofs.YthjpoiemconeeaaDoor
set_option linter.unusedVariables false
open Go.RowKit

theorem plus_head (s : ByteArray) : plus s = decide (s.data.toList.head? = some 43) := by
  unfold plus
  rw [ByteArray.toList_eq]
  obtain ⟨⟨l⟩⟩ := s
  cases l with
  | nil => rfl
  | cons c r =>
    have h1 : ((ByteArray.mk ⟨c :: r⟩).extract 0 1).data.toList = [c] := by
      rw [ByteArray.data_extract]; simp
    rw [h1]
    have h2 : decide (1 ≤ (ByteArray.mk ⟨c :: r⟩).size) = true := by
      rw [decide_eq_true_eq]; show 1 ≤ (c :: r).length; simp
    rw [h2, Bool.true_and]
    by_cases hc : c = 43
    · subst hc; rfl
    · have h3 : ¬ ((ByteArray.mk ⟨c :: r⟩).data.toList.head? = some 43) := by simpa using hc
      rw [decide_eq_false h3]
      simpa using hc

/-- The two errors of strconv stand in their variables. -/
def Errs (w : World) : Prop := (∃ t p, w.cell? ⟨0, 0, none⟩ = some (.iface t p)) ∧ ∃ t p, w.cell? ⟨1, 0, none⟩ = some (.iface t p)
theorem cell_size {w : World} {g : Nat} {v : Value} (h : w.cell? ⟨g, 0, none⟩ = some v) : g < w.heap.size := by
  rcases Nat.lt_or_ge g w.heap.size with h1 | h1
  · exact h1
  · simp [World.cell?, Array.getElem?_eq_none h1] at h
theorem Errs.kept {w w' : World} (h : Errs w) (hk : Kept noBlock w w') : Errs w' := by
  obtain ⟨⟨t, p, h1⟩, t2, p2, h2⟩ := h
  exact ⟨⟨t, p, (hk.cell (cell_size h1) (fun h => h)).trans h1⟩, t2, p2, (hk.cell (cell_size h2) (fun h => h)).trans h2⟩

theorem kept_below {w w' : World} (h : Below w.heap.size w w') : Kept noBlock w w' := ⟨h.os, h.tape, h.output, h.size, fun k hk _ => h.block k hk⟩
set_option maxHeartbeats 1000000 in
set_option maxRecDepth 100000 in
theorem Rread_bad {s : ByteArray} (hs : s.size ≤ 1000) (w : World) {n : Int} {tp : TypeId} {p : Option Addr}
    (h : Calls Tryd.prog 33 #[.string s, .int .i64 10, .int .i64 64] w fun e w' => ∃ N, e = .returned (.tuple #[.int .i64 n, .iface tp (.pointer (some ⟨N, 0, none⟩))]) ∧ Kept noBlock w w') :
    Calls Tryd.prog 18 #[.string s] w fun e w' => e = .returned (.tuple #[.int .i64 0, .int .i64 11]) ∧ Kept noBlock w w' := by
  have HC := Lib.hid h
  clear h
  go_enter Tryd.func18, Tryd.ntmps18
  go_wp2_with fail
  go_at_call 33
  refine HC.out.mono ?_
  rintro e w1 ⟨N, rfl, hk⟩
  go_wp2
  go_ret2
  exact ⟨rfl, hk⟩

set_option maxHeartbeats 1000000 in
set_option maxRecDepth 100000 in
theorem Rread_plus {s : ByteArray} {v : Int} (hs : s.size ≤ 1000) (h : Lib.parseIntB 64 s.data.toList = .ok v) (hp : plus s = true) (w : World) :
    Calls Tryd.prog 18 #[.string s] w fun e w' => e = .returned (.tuple #[.int .i64 0, .int .i64 11]) ∧ Kept noBlock w w' := by
  have HC := Lib.hid (Any.strconv_ParseInt_10_at64_ok Tryd.pint s (by omega) v h w)
  have HP := Lib.hid (fun W => hp ▸ HasPre_at s hs W)
  clear h hp
  go_enter Tryd.func18, Tryd.ntmps18
  go_wp2_with fail
  go_at_call 33
  refine HC.out.mono ?_
  rintro e w1 ⟨rfl, hw⟩
  have hk : Kept noBlock w w1 := by
    rcases hw with rfl | ⟨t, rfl⟩
    · exact Kept.refl _ _
    · exact bytesWorld_kept _ _ _
  clear hw
  go_wp2_with fail
  go_at_call 34
  refine (HP.out _).mono ?_
  rintro e w2 ⟨rfl, rfl⟩
  go_wp2
  go_ret2
  exact ⟨rfl, hk⟩
/-- ring.Read: the number, or that it is none. -/
theorem Rread_at {s : ByteArray} (hs : s.size ≤ 1000) (w : World) (he : Errs w) :
    Calls Tryd.prog 18 #[.string s] w fun e w' => e = .returned (.tuple #[.int .i64 (ringRead s.data.toList).1, .int .i64 (ringRead s.data.toList).2]) ∧ Kept noBlock w w' := by
  obtain ⟨⟨t, p, h1⟩, t2, p2, h2⟩ := he
  rcases hp : Lib.parseIntB 64 s.data.toList with v | _ | _
  · by_cases hh : s.data.toList.head? = some 43
    · have : ringRead s.data.toList = (0, 11) := by unfold ringRead; rw [hp]; simp only [hh, if_true]
      rw [this]
      exact Rread_plus hs hp (by rw [plus_head, hh]; rfl) w
    · have : ringRead s.data.toList = (v, 0) := by unfold ringRead; rw [hp]; simp only [hh, if_false]
      rw [this]
      exact Rread_ok hs hp (by rw [plus_head]; simpa using hh) w
  · have : ringRead s.data.toList = (0, 11) := by unfold ringRead; rw [hp]
    rw [this]
    exact Rread_bad (p := none) hs w ((Any.strconv_ParseInt_10_at64_syntax Tryd.pint s (by omega) hp (.iface t p) w h1 (Or.inr ⟨t, p, rfl⟩)).mono fun e w' ⟨N, h, _, _, hb⟩ => ⟨N, h, kept_below hb⟩)
  · have : ringRead s.data.toList = (0, 11) := by unfold ringRead; rw [hp]
    rw [this]
    exact Rread_bad (p := none) hs w ((Any.strconv_ParseInt_10_at64_range Tryd.pint s (by omega) hp (.iface t2 p2) w h2 (Or.inr ⟨t2, p2, rfl⟩)).mono fun e w' ⟨N, h, _, _, hb⟩ => ⟨N, h, kept_below hb⟩)

end Go.Proofs.YthjpoiemconeeaaDoor

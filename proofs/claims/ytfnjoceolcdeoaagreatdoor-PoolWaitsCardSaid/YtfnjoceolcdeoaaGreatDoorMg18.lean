/- Streams: Counts, Owed · Streams: Take, Answer. -/
import Derived.Test.YtfnjoceolcdeoaaGreatDoorMg17
import Derived.OpenShut
import Derived.BigQuiet
import Derived.Shelf.Spec.TrailingZeros
import Derived.BigRegion
import Derived.RegionTactic
import Derived.Deep.LoopGhost
namespace Go.Proofs.YtfnjoceolcdeoaaGreatDoor
set_option linter.unusedVariables false
open Go.RowKit
open Go.ChangeMaps (setBlock)

theorem iuM : Tryz.prog.underlying 132 = some (.map 3 23) := by kernel_rfl
theorem ibM : Tryz.prog.underlying 108 = some (.map 3 4) := by kernel_rfl
theorem intU : Tryz.prog.underlying 3 = some (.int .i64) := by kernel_rfl

set_option maxHeartbeats 400000 in
theorem Counts_at {w : World} {g m1 m2 : Nat} {s : XS} (h : SAt w g m1 m2 s) :
    Calls Tryz.prog 55 #[.pointer (some ⟨g, 0, none⟩)] w fun e w' => e = .returned (.tuple #[.int .i64 (s.n - s.asked.length - s.orph.length), .int .i64 s.asked.length, .int .i64 s.orph.length]) ∧ ∃ n, w' = w.drewN n := by
  obtain ⟨cs, k, hb, hc, ha, ho, hne, hok⟩ := h
  have f0 := (hb.cell 0).trans hc.c0
  have f4 := (hb.cell 514).trans hc.ca
  have f5 := (hb.cell 515).trans hc.co
  have l1 := fun (n : Nat) => (ha.drewN n).run_len iuM
  have l2 := fun (n : Nat) => (ho.drewN n).run_len ibM
  have hcnt := hok.count
  have h1 := hok.n1
  have h2 := hok.n2
  clear hb hc ha ho hok
  go_enter Tryz.func55, Tryz.ntmps55
  go_wp2
  go_quiet (fail)
  go_wp2
  go_ret3
  exact ⟨rfl, nq, rfl⟩

/-- What word holds a stream. -/
theorem word_of {cs : Array Value} {s : XS} {h m1 m2 : Nat} (hc : SCells cs s h m1 m2) {id : Nat} (hi : id < 32768) :
    ∃ x : Nat, x < 18446744073709551616 ∧ cs[1 + id / 64]? = some (.int .u64 (x : Int)) ∧ (x.testBit (id % 64) = s.owed (id : Int)) ∧ ∀ b : Nat, b < 64 → x.testBit b = s.owed ((64 * (id / 64) + b : Nat) : Int) := by
  obtain ⟨x, hx, h1, h2⟩ := hc.cw (id / 64) (by omega)
  refine ⟨x, hx, h1, ?_, h2⟩
  rw [h2 _ (Nat.mod_lt _ (by decide)), show 64 * (id / 64) + id % 64 = id by omega]

set_option maxHeartbeats 1000000 in
theorem Owed_at {w : World} {g m1 m2 : Nat} {s : XS} (h : SAt w g m1 m2 s) (id : Int) :
    Calls Tryz.prog 91 #[.pointer (some ⟨g, 0, none⟩), .int .i64 id] w fun e w' => e = .returned (.bool (s.owed id)) ∧ w' = w := by
  obtain ⟨cs, k, hb, hc, ha, ho, hne, hok⟩ := h
  have f0 := (hb.cell 0).trans hc.c0
  have h1 := hok.n1
  have h2 := hok.n2
  by_cases hid : 0 ≤ id ∧ id < s.n
  · obtain ⟨i0, i1⟩ := hid
    obtain ⟨i, rfl⟩ := Int.eq_ofNat_of_zero_le i0
    obtain ⟨x, hx, hcx, hbit, -⟩ := word_of hc (id := i) (by omega)
    have fx := (hb.cell (1 + i / 64)).trans hcx
    have hrd := word_read hx (b := i % 64) (Nat.mod_lt _ (by decide))
    rw [← hbit]
    clear hb hc ha ho hok hbit
    cases ht : x.testBit (i % 64) with
    | false =>
      rw [ht] at hrd
      replace hrd : bits .and .u64 ((x : Int) / 2 ^ (i % 64)) 1 = 0 := hrd
      clear ht
      go_enter Tryz.func91, Tryz.ntmps91
      go_wp2
      go_ret
      exact ⟨rfl, rfl⟩
    | true =>
      rw [ht] at hrd
      replace hrd : bits .and .u64 ((x : Int) / 2 ^ (i % 64)) 1 = 1 := hrd
      clear ht
      go_enter Tryz.func91, Tryz.ntmps91
      go_wp2
      go_ret
      exact ⟨rfl, rfl⟩
  · have hf : s.owed id = false := by
      cases ho : s.owed id with
      | false => rfl
      | true => exact absurd (hok.range ho) hid
    rw [hf]
    clear hb hc ha ho hok
    by_cases hn : 0 ≤ id
    · have hn2 : s.n ≤ id := by omega
      clear hid
      go_enter Tryz.func91, Tryz.ntmps91
      go_wp2
      go_ret
      exact ⟨rfl, rfl⟩
    · have hn2 : id < 0 := by omega
      clear hid hn
      go_enter Tryz.func91, Tryz.ntmps91
      go_wp2
      go_ret
      exact ⟨rfl, rfl⟩

theorem i64K : KeyEmb (.int .i64) (fun n : Int => Value.int .i64 n) := int_emb .i64
theorem zero_u64 (w : World) : (zeroValue 23).run Tryz.prog w = .ok (.int .u64 0) w := Tryz.zeroValue23 w
theorem zero_bool (w : World) : (zeroValue 4).run Tryz.prog w = .ok (.bool false) w := Tryz.zeroValue4 w
theorem SCells.same {cs : Array Value} {s s' : XS} {h m1 m2 : Nat} (hc : SCells cs s h m1 m2) (hn : s'.n = s.n) (ho : ∀ j, s'.owed j = s.owed j) : SCells cs s' h m1 m2 :=
  ⟨by rw [hn]; exact hc.c0, fun i hi => by obtain ⟨x, h1, h2, h3⟩ := hc.cw i hi; exact ⟨x, h1, h2, fun b hb => (h3 b hb).trans (ho _).symm⟩, hc.ch, hc.ca, hc.co, hc.hh, fun j hj => (ho _).trans (hc.hf j hj)⟩

theorem Orphan_bad {w : World} {g m1 m2 : Nat} {s : XS} (h : SAt w g m1 m2 s) (id : Int) (hi : aget id s.asked = none) :
    Calls Tryz.prog 54 #[.pointer (some ⟨g, 0, none⟩), .int .i64 id] w fun e w' => e = .returned (.int .i64 31) ∧ w' = w := by
  obtain ⟨cs, k, hb, hc, ha, ho, hne, hok⟩ := h
  have f4 := (hb.cell 514).trans hc.ca
  have hl := ha.run_lookup i64K iuM intU (zero_u64 w) id true
  rw [hi] at hl
  clear hb hc ha ho hok
  go_enter Tryz.func54, Tryz.ntmps54
  go_wp2
  go_ret
  exact ⟨rfl, rfl⟩
set_option maxHeartbeats 400000 in
theorem Orphan_at {w : World} {g m1 m2 : Nat} {s : XS} (h : SAt w g m1 m2 s) (id : Int) (hi : (aget id s.asked).isSome = true) :
    Calls Tryz.prog 54 #[.pointer (some ⟨g, 0, none⟩), .int .i64 id] w fun e w' => e = .returned (.int .i64 0) ∧ SAt w' g m1 m2 (s.orphan id) ∧ Kept (three g m1 m2) w w' := by
  obtain ⟨cs, k, hb, hc, ha, ho, hne, hok⟩ := h
  have hno := hok.dis id hi
  have f4 := (hb.cell 514).trans hc.ca
  have f5 := (hb.cell 515).trans hc.co
  have hl := ha.run_lookup i64K iuM intU (zero_u64 w) id true
  obtain ⟨u, hu⟩ := Option.isSome_iff_exists.1 hi
  rw [hu] at hl
  obtain ⟨es, ck, hdel, ha1⟩ := ha.run_delete i64K iuM intU id
  obtain ⟨hx1, hx2, hx3⟩ := ha.rules es ck
  have ho1 := ho.setBlock (Ne.symm hne) (.map es ck)
  obtain ⟨es2, ck2, hup, ho2⟩ := ho1.run_update i64K ibM intU id true
  rw [aput_none (aget_eq_none.1 hno)] at ho2
  have hb2 := (hb.setBlock (ha.ne_blk hb) (.map es ck)).setBlock (ho.ne_blk hb) (.map es2 ck2)
  have ha2 := ha1.setBlock hne (.map es2 ck2)
  have hk := ((Kept.refl (three g m1 m2) w).setBlock (m := m1) (fun _ => .inr (.inl rfl)) (.map es ck)).setBlock (m := m2) (fun _ => .inr (.inr rfl)) (.map es2 ck2)
  have FIN := Lib.hid (⟨⟨cs, k, hb2, hc.same rfl (fun j => hok.owed_orphan hi), ha2, ho2, hne, hok.orphan hi⟩, hk⟩ : SAt (setBlock (setBlock w m1 (.map es ck)) m2 (.map es2 ck2)) g m1 m2 (s.orphan id) ∧ _)
  clear hb hc ha ho hok hb2 ha2 ho2 ho1 ha1 hk hno hu
  go_enter Tryz.func54, Tryz.ntmps54
  go_wp2
  go_ret
  exact ⟨rfl, FIN.out⟩
end Go.Proofs.YtfnjoceolcdeoaaGreatDoor
namespace Go.Proofs.YtfnjoceolcdeoaaGreatDoor
set_option linter.unusedVariables false
open Go.RowKit
open Go.ChangeMaps (setBlock)

/-- The library's table, where the program starts. -/
abbrev Tab (w : World) : Prop := TabAt 2 Lib.deBruijn64tab w
theorem Tab.pos {w : World} (h : Tab w) : 2 < w.heap.size := by
  have := h 0 (by decide)
  unfold World.cell? at this
  rcases Nat.lt_or_ge 2 w.heap.size with hlt | hge
  · exact hlt
  · rw [Array.getElem?_eq_none hge] at this; cases this
theorem Tab.kept {w w' : World} {S : Nat → Prop} (h : Tab w) (hk : Kept S w w') (hS : ¬ S 2) : Tab w' := fun j hj => (hk.cell (p := ⟨2, j, none⟩) h.pos hS).trans (h j hj)
theorem Tab.drewN {w : World} (h : Tab w) (n : Nat) : Tab (w.drewN n) := h

theorem ctz_core (x k idx : Nat) (w : World) (hx0 : ((x : Int) == 0) = false)
    (key : IntKind.u64.wrap (bits BinOp.and IntKind.u64 (x : Int) (IntKind.u64.wrap (-(x : Int))) * 285870213051353865) / 288230376151711744 = (idx : Int))
    (hi : idx < 64) (hk : k < 64) (hcell : w.cell? ⟨2, idx, none⟩ = some (.int .u8 k)) :
    Calls Tryz.prog 87 #[.int .u64 x] w fun e w' => e = .returned (.int .i64 k) ∧ w' = w := by
  go_enter Tryz.func87, Tryz.ntmps87
  go_wp2_with (simp only [key])
  go_ret
  exact ⟨rfl, rfl⟩
theorem ctz_zero (w : World) : Calls Tryz.prog 87 #[.int .u64 0] w fun e w' => e = .returned (.int .i64 64) ∧ w' = w := by
  go_enter Tryz.func87, Tryz.ntmps87
  go_wp2
  go_ret
  exact ⟨rfl, rfl⟩
theorem ctz_at (x : Nat) (hx : x < 18446744073709551616) (w : World) (hT : Tab w) :
    Calls Tryz.prog 87 #[.int .u64 x] w fun e w' => e = .returned (.int .i64 (Lib.ctz 64 x)) ∧ w' = w := by
  by_cases hx0 : x = 0
  · subst hx0
    exact ctz_zero w
  · obtain ⟨hlow, hk⟩ := Lib.lowest_bit 64 x hx0 hx
    obtain ⟨hi, htab⟩ := Lib.deBruijn64_at _ hk
    have hcell := hT _ hi
    rw [htab] at hcell
    exact ctz_core x _ _ w (by simp; omega) (tz64_key x _ hx hx0 hlow) hi hk hcell

/-! ## The cells behind a change -/
section
variable {cs : Array Value} {s : XS} {h m1 m2 : Nat}
theorem get_set_self {cs : Array Value} {i : Nat} {u v : Value} (h : cs[i]? = some u) : (cs.setIfInBounds i v)[i]? = some v :=
  Array.getElem?_setIfInBounds_self_of_lt (Array.getElem?_eq_some_iff.1 h).1
theorem SCells.hint_ (hc : SCells cs s h m1 m2) {k : Nat} (hk : k ≤ 512) (hf : ∀ j : Nat, j < 64 * k → s.owed (j : Int) = true) : SCells (cs.setIfInBounds 513 (.int .i64 (k : Int))) s k m1 m2 :=
  ⟨(Array.getElem?_setIfInBounds_ne (by decide)).trans hc.c0, fun i hi => by
    obtain ⟨x, h1, h2, h3⟩ := hc.cw i hi
    exact ⟨x, h1, (Array.getElem?_setIfInBounds_ne (by omega)).trans h2, h3⟩,
   get_set_self hc.ch, (Array.getElem?_setIfInBounds_ne (by decide)).trans hc.ca, (Array.getElem?_setIfInBounds_ne (by decide)).trans hc.co, hk, hf⟩
theorem SCells.word_ (hc : SCells cs s h m1 m2) {s' : XS} {i y : Nat} (hi : i < 512) (hy : y < 18446744073709551616) (hn : s'.n = s.n) (hin : ∀ b : Nat, b < 64 → y.testBit b = s'.owed ((64 * i + b : Nat) : Int)) (hout : ∀ j : Nat, j / 64 ≠ i → s'.owed (j : Int) = s.owed (j : Int))
    {k : Nat} (hk : k ≤ 512) (hkk : k = h) (hf : ∀ j : Nat, j < 64 * k → s'.owed (j : Int) = true) : SCells (cs.setIfInBounds (1 + i) (.int .u64 (y : Int))) s' k m1 m2 := by
  subst hkk
  refine ⟨?_, fun i' hi' => ?_, (Array.getElem?_setIfInBounds_ne (by omega)).trans hc.ch, (Array.getElem?_setIfInBounds_ne (by omega)).trans hc.ca, (Array.getElem?_setIfInBounds_ne (by omega)).trans hc.co, hk, hf⟩
  · rw [hn]; exact (Array.getElem?_setIfInBounds_ne (by omega)).trans hc.c0
  · by_cases e : i' = i
    · subst e
      obtain ⟨x, _, h2, _⟩ := hc.cw i' hi'
      exact ⟨y, hy, get_set_self h2, hin⟩
    · obtain ⟨x, h1, h2, h3⟩ := hc.cw i' hi'
      exact ⟨x, h1, (Array.getElem?_setIfInBounds_ne (by omega)).trans h2, fun b hb => (h3 b hb).trans (hout _ (by omega)).symm⟩
end

end Go.Proofs.YtfnjoceolcdeoaaGreatDoor

/- Streams: Counts, Owed · Streams: Take, Answer · Streams: Take · header.of, of a request's version. -/
import Derived.Test.YtfnjoceolcdeoaaGreatDoorMr10
import Derived.OpenShut
import Derived.BigQuiet
import Derived.Shelf.Spec.TrailingZeros
import Derived.BigRegion
import Derived.RegionTactic
import Derived.Deep.LoopGhost
import Derived.Test.YtfnjoceolcdeoaaGreatDoorMr04
namespace Go.Proofs.YtfnjoceolcdeoaaGreatDoor
set_option linter.unusedVariables false
open Go.RowKit
open Go.ChangeMaps (setBlock)

theorem iuM : Tryz.prog.underlying 132 = some (.map 3 23) := by kernel_rfl
theorem ibM : Tryz.prog.underlying 108 = some (.map 3 4) := by kernel_rfl
theorem intU : Tryz.prog.underlying 3 = some (.int .i64) := by kernel_rfl

set_option maxHeartbeats 400000 in
theorem Counts_at {w : World} {g m1 m2 : Nat} {s : XS} (h : SAt w g m1 m2 s) :
    Calls Tryz.prog 55 #[.pointer (some ⟨g, 0, none⟩)] w fun e w' => e = .returned (.tuple #[.int .i64 (s.n - s.asked.length - s.orph.length), .int .i64 s.asked.length, .int .i64 s.orph.length]) ∧ ∃ n, w' = w.drewN n := by
  obtain ⟨cs, k, hb, hc, ha, ho, hne, hok⟩ := h
  have f0 := (hb.cell 0).trans hc.c0
  have f4 := (hb.cell 514).trans hc.ca
  have f5 := (hb.cell 515).trans hc.co
  have l1 := fun (n : Nat) => (ha.drewN n).run_len iuM
  have l2 := fun (n : Nat) => (ho.drewN n).run_len ibM
  have hcnt := hok.count
  have h1 := hok.n1
  have h2 := hok.n2
  clear hb hc ha ho hok
  go_enter Tryz.func55, Tryz.ntmps55
  go_wp2
  go_quiet (fail)
  go_wp2
  go_ret3
  exact ⟨rfl, nq, rfl⟩

/-- What word holds a stream. -/
theorem word_of {cs : Array Value} {s : XS} {h m1 m2 : Nat} (hc : SCells cs s h m1 m2) {id : Nat} (hi : id < 32768) :
    ∃ x : Nat, x < 18446744073709551616 ∧ cs[1 + id / 64]? = some (.int .u64 (x : Int)) ∧ (x.testBit (id % 64) = s.owed (id : Int)) ∧ ∀ b : Nat, b < 64 → x.testBit b = s.owed ((64 * (id / 64) + b : Nat) : Int) := by
  obtain ⟨x, hx, h1, h2⟩ := hc.cw (id / 64) (by omega)
  refine ⟨x, hx, h1, ?_, h2⟩
  rw [h2 _ (Nat.mod_lt _ (by decide)), show 64 * (id / 64) + id % 64 = id by omega]

set_option maxHeartbeats 1000000 in
theorem Owed_at {w : World} {g m1 m2 : Nat} {s : XS} (h : SAt w g m1 m2 s) (id : Int) :
    Calls Tryz.prog 91 #[.pointer (some ⟨g, 0, none⟩), .int .i64 id] w fun e w' => e = .returned (.bool (s.owed id)) ∧ w' = w := by
  obtain ⟨cs, k, hb, hc, ha, ho, hne, hok⟩ := h
  have f0 := (hb.cell 0).trans hc.c0
  have h1 := hok.n1
  have h2 := hok.n2
  by_cases hid : 0 ≤ id ∧ id < s.n
  · obtain ⟨i0, i1⟩ := hid
    obtain ⟨i, rfl⟩ := Int.eq_ofNat_of_zero_le i0
    obtain ⟨x, hx, hcx, hbit, -⟩ := word_of hc (id := i) (by omega)
    have fx := (hb.cell (1 + i / 64)).trans hcx
    have hrd := word_read hx (b := i % 64) (Nat.mod_lt _ (by decide))
    rw [← hbit]
    clear hb hc ha ho hok hbit
    cases ht : x.testBit (i % 64) with
    | false =>
      rw [ht] at hrd
      replace hrd : bits .and .u64 ((x : Int) / 2 ^ (i % 64)) 1 = 0 := hrd
      clear ht
      go_enter Tryz.func91, Tryz.ntmps91
      go_wp2
      go_ret
      exact ⟨rfl, rfl⟩
    | true =>
      rw [ht] at hrd
      replace hrd : bits .and .u64 ((x : Int) / 2 ^ (i % 64)) 1 = 1 := hrd
      clear ht
      go_enter Tryz.func91, Tryz.ntmps91
      go_wp2
      go_ret
      exact ⟨rfl, rfl⟩
  · have hf : s.owed id = false := by
      cases ho : s.owed id with
      | false => rfl
      | true => exact absurd (hok.range ho) hid
    rw [hf]
    clear hb hc ha ho hok
    by_cases hn : 0 ≤ id
    · have hn2 : s.n ≤ id := by omega
      clear hid
      go_enter Tryz.func91, Tryz.ntmps91
      go_wp2
      go_ret
      exact ⟨rfl, rfl⟩
    · have hn2 : id < 0 := by omega
      clear hid hn
      go_enter Tryz.func91, Tryz.ntmps91
      go_wp2
      go_ret
      exact ⟨rfl, rfl⟩

theorem i64K : KeyEmb (.int .i64) (fun n : Int => Value.int .i64 n) := int_emb .i64
theorem zero_u64 (w : World) : (zeroValue 23).run Tryz.prog w = .ok (.int .u64 0) w := Tryz.zeroValue23 w
theorem zero_bool (w : World) : (zeroValue 4).run Tryz.prog w = .ok (.bool false) w := Tryz.zeroValue4 w
theorem SCells.same {cs : Array Value} {s s' : XS} {h m1 m2 : Nat} (hc : SCells cs s h m1 m2) (hn : s'.n = s.n) (ho : ∀ j, s'.owed j = s.owed j) : SCells cs s' h m1 m2 :=
  ⟨by rw [hn]; exact hc.c0, fun i hi => by obtain ⟨x, h1, h2, h3⟩ := hc.cw i hi; exact ⟨x, h1, h2, fun b hb => (h3 b hb).trans (ho _).symm⟩, hc.ch, hc.ca, hc.co, hc.hh, fun j hj => (ho _).trans (hc.hf j hj)⟩

theorem Orphan_bad {w : World} {g m1 m2 : Nat} {s : XS} (h : SAt w g m1 m2 s) (id : Int) (hi : aget id s.asked = none) :
    Calls Tryz.prog 54 #[.pointer (some ⟨g, 0, none⟩), .int .i64 id] w fun e w' => e = .returned (.int .i64 31) ∧ w' = w := by
  obtain ⟨cs, k, hb, hc, ha, ho, hne, hok⟩ := h
  have f4 := (hb.cell 514).trans hc.ca
  have hl := ha.run_lookup i64K iuM intU (zero_u64 w) id true
  rw [hi] at hl
  clear hb hc ha ho hok
  go_enter Tryz.func54, Tryz.ntmps54
  go_wp2
  go_ret
  exact ⟨rfl, rfl⟩
set_option maxHeartbeats 400000 in
theorem Orphan_at {w : World} {g m1 m2 : Nat} {s : XS} (h : SAt w g m1 m2 s) (id : Int) (hi : (aget id s.asked).isSome = true) :
    Calls Tryz.prog 54 #[.pointer (some ⟨g, 0, none⟩), .int .i64 id] w fun e w' => e = .returned (.int .i64 0) ∧ SAt w' g m1 m2 (s.orphan id) ∧ Kept (three g m1 m2) w w' := by
  obtain ⟨cs, k, hb, hc, ha, ho, hne, hok⟩ := h
  have hno := hok.dis id hi
  have f4 := (hb.cell 514).trans hc.ca
  have f5 := (hb.cell 515).trans hc.co
  have hl := ha.run_lookup i64K iuM intU (zero_u64 w) id true
  obtain ⟨u, hu⟩ := Option.isSome_iff_exists.1 hi
  rw [hu] at hl
  obtain ⟨es, ck, hdel, ha1⟩ := ha.run_delete i64K iuM intU id
  obtain ⟨hx1, hx2, hx3⟩ := ha.rules es ck
  have ho1 := ho.setBlock (Ne.symm hne) (.map es ck)
  obtain ⟨es2, ck2, hup, ho2⟩ := ho1.run_update i64K ibM intU id true
  rw [aput_none (aget_eq_none.1 hno)] at ho2
  have hb2 := (hb.setBlock (ha.ne_blk hb) (.map es ck)).setBlock (ho.ne_blk hb) (.map es2 ck2)
  have ha2 := ha1.setBlock hne (.map es2 ck2)
  have hk := ((Kept.refl (three g m1 m2) w).setBlock (m := m1) (fun _ => .inr (.inl rfl)) (.map es ck)).setBlock (m := m2) (fun _ => .inr (.inr rfl)) (.map es2 ck2)
  have FIN := Lib.hid (⟨⟨cs, k, hb2, hc.same rfl (fun j => hok.owed_orphan hi), ha2, ho2, hne, hok.orphan hi⟩, hk⟩ : SAt (setBlock (setBlock w m1 (.map es ck)) m2 (.map es2 ck2)) g m1 m2 (s.orphan id) ∧ _)
  clear hb hc ha ho hok hb2 ha2 ho2 ho1 ha1 hk hno hu
  go_enter Tryz.func54, Tryz.ntmps54
  go_wp2
  go_ret
  exact ⟨rfl, FIN.out⟩
end Go.Proofs.YtfnjoceolcdeoaaGreatDoor
namespace Go.Proofs.YtfnjoceolcdeoaaGreatDoor
set_option linter.unusedVariables false
open Go.RowKit
open Go.ChangeMaps (setBlock)

/-- The library's table, where the program starts. -/
abbrev Tab (w : World) : Prop := TabAt 2 Lib.deBruijn64tab w
theorem Tab.pos {w : World} (h : Tab w) : 2 < w.heap.size := by
  have := h 0 (by decide)
  unfold World.cell? at this
  rcases Nat.lt_or_ge 2 w.heap.size with hlt | hge
  · exact hlt
  · rw [Array.getElem?_eq_none hge] at this; cases this
theorem Tab.kept {w w' : World} {S : Nat → Prop} (h : Tab w) (hk : Kept S w w') (hS : ¬ S 2) : Tab w' := fun j hj => (hk.cell (p := ⟨2, j, none⟩) h.pos hS).trans (h j hj)
theorem Tab.drewN {w : World} (h : Tab w) (n : Nat) : Tab (w.drewN n) := h

theorem ctz_core (x k idx : Nat) (w : World) (hx0 : ((x : Int) == 0) = false)
    (key : IntKind.u64.wrap (bits BinOp.and IntKind.u64 (x : Int) (IntKind.u64.wrap (-(x : Int))) * 285870213051353865) / 288230376151711744 = (idx : Int))
    (hi : idx < 64) (hk : k < 64) (hcell : w.cell? ⟨2, idx, none⟩ = some (.int .u8 k)) :
    Calls Tryz.prog 87 #[.int .u64 x] w fun e w' => e = .returned (.int .i64 k) ∧ w' = w := by
  go_enter Tryz.func87, Tryz.ntmps87
  go_wp2_with (simp only [key])
  go_ret
  exact ⟨rfl, rfl⟩
theorem ctz_zero (w : World) : Calls Tryz.prog 87 #[.int .u64 0] w fun e w' => e = .returned (.int .i64 64) ∧ w' = w := by
  go_enter Tryz.func87, Tryz.ntmps87
  go_wp2
  go_ret
  exact ⟨rfl, rfl⟩
theorem ctz_at (x : Nat) (hx : x < 18446744073709551616) (w : World) (hT : Tab w) :
    Calls Tryz.prog 87 #[.int .u64 x] w fun e w' => e = .returned (.int .i64 (Lib.ctz 64 x)) ∧ w' = w := by
  by_cases hx0 : x = 0
  · subst hx0
    exact ctz_zero w
  · obtain ⟨hlow, hk⟩ := Lib.lowest_bit 64 x hx0 hx
    obtain ⟨hi, htab⟩ := Lib.deBruijn64_at _ hk
    have hcell := hT _ hi
    rw [htab] at hcell
    exact ctz_core x _ _ w (by simp; omega) (tz64_key x _ hx hx0 hlow) hi hk hcell

/-! ## The cells behind a change -/
section
variable {cs : Array Value} {s : XS} {h m1 m2 : Nat}
theorem get_set_self {cs : Array Value} {i : Nat} {u v : Value} (h : cs[i]? = some u) : (cs.setIfInBounds i v)[i]? = some v :=
  Array.getElem?_setIfInBounds_self_of_lt (Array.getElem?_eq_some_iff.1 h).1
theorem SCells.hint_ (hc : SCells cs s h m1 m2) {k : Nat} (hk : k ≤ 512) (hf : ∀ j : Nat, j < 64 * k → s.owed (j : Int) = true) : SCells (cs.setIfInBounds 513 (.int .i64 (k : Int))) s k m1 m2 :=
  ⟨(Array.getElem?_setIfInBounds_ne (by decide)).trans hc.c0, fun i hi => by
    obtain ⟨x, h1, h2, h3⟩ := hc.cw i hi
    exact ⟨x, h1, (Array.getElem?_setIfInBounds_ne (by omega)).trans h2, h3⟩,
   get_set_self hc.ch, (Array.getElem?_setIfInBounds_ne (by decide)).trans hc.ca, (Array.getElem?_setIfInBounds_ne (by decide)).trans hc.co, hk, hf⟩
theorem SCells.word_ (hc : SCells cs s h m1 m2) {s' : XS} {i y : Nat} (hi : i < 512) (hy : y < 18446744073709551616) (hn : s'.n = s.n) (hin : ∀ b : Nat, b < 64 → y.testBit b = s'.owed ((64 * i + b : Nat) : Int)) (hout : ∀ j : Nat, j / 64 ≠ i → s'.owed (j : Int) = s.owed (j : Int))
    {k : Nat} (hk : k ≤ 512) (hkk : k = h) (hf : ∀ j : Nat, j < 64 * k → s'.owed (j : Int) = true) : SCells (cs.setIfInBounds (1 + i) (.int .u64 (y : Int))) s' k m1 m2 := by
  subst hkk
  refine ⟨?_, fun i' hi' => ?_, (Array.getElem?_setIfInBounds_ne (by omega)).trans hc.ch, (Array.getElem?_setIfInBounds_ne (by omega)).trans hc.ca, (Array.getElem?_setIfInBounds_ne (by omega)).trans hc.co, hk, hf⟩
  · rw [hn]; exact (Array.getElem?_setIfInBounds_ne (by omega)).trans hc.c0
  · by_cases e : i' = i
    · subst e
      obtain ⟨x, _, h2, _⟩ := hc.cw i' hi'
      exact ⟨y, hy, get_set_self h2, hin⟩
    · obtain ⟨x, h1, h2, h3⟩ := hc.cw i' hi'
      exact ⟨x, h1, (Array.getElem?_setIfInBounds_ne (by omega)).trans h2, fun b hb => (h3 b hb).trans (hout _ (by omega)).symm⟩
end

end Go.Proofs.YtfnjoceolcdeoaaGreatDoor
namespace Go.Proofs.YtfnjoceolcdeoaaGreatDoor
set_option linter.unusedVariables false
open Go.RowKit
open Go.ChangeMaps (setBlock)

theorem ctz_turned {x c : Nat} {w : World} (hx : x < 18446744073709551616) (hT : Tab w) (hc : Lib.ctz 64 (18446744073709551615 - x) = c) :
    Calls Tryz.prog 87 #[.int .u64 (bits .xor .u64 (if IntKind.u64.signed = true then -1 else IntKind.u64.max) (x : Int))] w fun e w' => e = .returned (.int .i64 (c : Int)) ∧ w = w' := by
  have h1 := ctz_at (18446744073709551615 - x) (by omega) w hT
  rw [hc] at h1
  rw [word_not hx]
  exact h1.mono fun e w' h => ⟨h.1, h.2.symm⟩

/-- Streams whose hint is known. -/
def SAtH (w : World) (g m1 m2 : Nat) (s : XS) (h : Nat) : Prop := ∃ cs, Blk w g 135 cs ∧ SCells cs s h m1 m2 ∧ AMap w m1 s.asked ∧ OMap w m2 s.orph ∧ m1 ≠ m2 ∧ s.Ok
def TakePost (w : World) (g m1 m2 : Nat) (s : XS) (u : Int) (e : Ending) (w' : World) : Prop :=
  (∃ id : Nat, (id : Int) < s.n ∧ s.owed (id : Int) = false ∧ (∀ j : Nat, j < id → s.owed (j : Int) = true) ∧ e = .returned (.tuple #[.int .i64 (id : Int), .int .i64 0]) ∧ SAt w' g m1 m2 (s.take (id : Int) u) ∧ Kept (three g m1 m2) w w') ∨
  ((∀ j : Nat, (j : Int) < s.n → s.owed (j : Int) = true) ∧ e = .returned (.tuple #[.int .i64 0, .int .i64 30]) ∧ SAt w' g m1 m2 s ∧ Kept (three g m1 m2) w w')

set_option maxHeartbeats 2000000 in
set_option maxRecDepth 100000 in
theorem Take_at {w : World} {g m1 m2 : Nat} {s : XS} (h : SAt w g m1 m2 s) (hT : Tab w) (hg : g ≠ 2 ∧ m1 ≠ 2 ∧ m2 ≠ 2) (u : Int) (hu : 0 ≤ u ∧ u < 18446744073709551616) :
    Calls Tryz.prog 65 #[.pointer (some ⟨g, 0, none⟩), .int .u64 u] w (TakePost w g m1 m2 s u) := by
  obtain ⟨cs, k0, hb, hc, ha, ho, hne, hok⟩ := h
  have hk0 := hc.hh
  have START := Lib.hid (⟨⟨cs, hb, hc, ha, ho, hne, hok⟩, Kept.refl _ w⟩ : SAtH w g m1 m2 s k0 ∧ Kept (three g m1 m2) w w)
  clear hb hc ha ho hne hok
  go_enter Tryz.func65, Tryz.ntmps65
  go_wp2
  go_loopg [6] (512 - k0) (fun j v wr => ∃ k : Nat, k + j = 512 ∧ SAtH wr g m1 m2 s k ∧ Kept (three g m1 m2) w wr)
  case atStart => exact ⟨k0, by omega, START.out⟩
  case round =>
    obtain ⟨k, hkj, hS, hkr⟩ := hrel
    obtain ⟨cs, hb, hc, ha, ho, hne, hok⟩ := hS
    have n1 := hok.n1
    have n2 := hok.n2
    have hTr : Tab wr := hT.kept hkr (by intro h; rcases h with h | h | h <;> simp_all)
    have f0 := (hb.cell 0).trans hc.c0
    have f3 := (hb.cell 513).trans hc.ch
    have ff := hb.frozen
    by_cases hk : k < 512
    · obtain ⟨x, hx, hcx, hbits⟩ := hc.cw k hk
      have fx := (hb.cell (1 + k)).trans hcx
      have HB := Lib.hid hb
      have HC := Lib.hid hc
      have HA := Lib.hid ha
      have HO := Lib.hid ho
      have HOK := Lib.hid hok
      have HBI := Lib.hid hbits
      have HK := Lib.hid hkr
      have HT := Lib.hid hTr
      clear START hb hc ha ho hok hbits hkr hTr hcx hT
      have hct := fun (c : Nat) (h : Lib.ctz 64 (18446744073709551615 - x) = c) (n : Nat) => ctz_turned (w := wr.drewN n) hx HT.out h
      rcases ctz_not hx with ⟨hc64, hall⟩ | ⟨hclt, hcf, hcl⟩
      · have HCT := Lib.hid (hct 64 hc64)
        have HAL := Lib.hid hall
        clear hct hc64 hall
        go_wp2
        go_quiet ((go_at_call 87; exact quiet_same (HCT.out _)))
        go_wp2
        go_roundg (512 - (k + 1))
        case measure => omega
        case rel =>
          rw [show ((k : Int) + 1) = ((k + 1 : Nat) : Int) by omega]
          have hc1 := HC.out.hint_ (k := k + 1) (by omega) (fun j hj => by
            by_cases hjk : j < 64 * k
            · exact HC.out.hf j hjk
            · have h1 := HBI.out (j - 64 * k) (by omega)
              rw [HAL.out _ (by omega), show 64 * k + (j - 64 * k) = j by omega] at h1
              exact h1.symm)
          have hg1 : m1 ≠ g := fun e => HA.out.ne_blk HB.out e.symm
          have hg2 : m2 ≠ g := fun e => HO.out.ne_blk HB.out e.symm
          exact ⟨k + 1, by omega, ⟨_, (HB.out.drewN nq).set_ 513 _, hc1, (HA.out.drewN nq).setCell (p := ⟨g, 513, none⟩) hg1 _, (HO.out.drewN nq).setCell (p := ⟨g, 513, none⟩) hg2 _, hne, HOK.out⟩, (HK.out.drewN nq).setCell (p := ⟨g, 513, none⟩) (fun _ => .inl rfl) _⟩
      · generalize Lib.ctz 64 (18446744073709551615 - x) = c at *
        have HCT := Lib.hid (hct c rfl)
        have HCF := Lib.hid hcf
        have HCL := Lib.hid hcl
        clear hct hcf hcl
        by_cases hn : s.n ≤ 64 * (k : Int) + c
        · go_wp2
          go_quiet ((go_at_call 87; exact quiet_same (HCT.out _)))
          go_wp2
          go_ret2
          refine .inr ⟨fun j hj => ?_, rfl, ⟨cs, k, HB.out.drewN nq, HC.out, HA.out.drewN nq, HO.out.drewN nq, hne, HOK.out⟩, HK.out.drewN nq⟩
          by_cases hjk : j < 64 * k
          · exact HC.out.hf j hjk
          · have h1 := HBI.out (j - 64 * k) (by omega)
            rw [HCL.out _ (by omega), show 64 * k + (j - 64 * k) = j by omega] at h1
            exact h1.symm
        · have f4 := (HB.out.cell 514).trans HC.out.ca
          obtain ⟨hset, hsy, hsb⟩ := word_set hx hclt
          have HSB := Lib.hid hsb
          have hg1 : m1 ≠ g := fun e => HA.out.ne_blk HB.out e.symm
          have hg2 : m2 ≠ g := fun e => HO.out.ne_blk HB.out e.symm
          clear hsb
          go_wp2
          go_quiet ((go_at_call 87; exact quiet_same (HCT.out _)))
          go_wp2
          go_region
          obtain ⟨es, ck, hup, ha2⟩ := ((HA.out.drewN (nq + 1)).setCell (p := ⟨g, 1 + k, none⟩) hg1 (.int .u64 ((x ||| 2 ^ c : Nat) : Int))).run_update i64K iuM intU (64 * (k : Int) + c) u
          have hfree : s.owed ((64 * k + c : Nat) : Int) = false := (HBI.out c hclt).symm.trans HCF.out
          have hid : (64 * (k : Int) + c) = ((64 * k + c : Nat) : Int) := by omega
          have hok' := HOK.out.take (id := ((64 * k + c : Nat) : Int)) (u := u) (by omega) (by omega) hu hfree
          have hc1 := HC.out.word_ (s' := s.take ((64 * k + c : Nat) : Int) u) (i := k) (k := k) hk hsy rfl (fun b hb => by
              rw [HSB.out b, HBI.out b hb, XS.owed_take]
              congr 1
              apply decide_eq_decide.2
              omega) (fun j hj => by
              rw [XS.owed_take]
              have : ¬ ((j : Int) = ((64 * k + c : Nat) : Int)) := by omega
              rw [decide_eq_false this, Bool.or_false]) HC.out.hh rfl (fun j hj => by
              rw [XS.owed_take, HC.out.hf j hj]; rfl)
          have ho2 := ((HO.out.drewN (nq + 1)).setCell (p := ⟨g, 1 + k, none⟩) hg2 (.int .u64 ((x ||| 2 ^ c : Nat) : Int))).setBlock (Ne.symm hne) (.map es ck)
          have hb2 := ((HB.out.drewN (nq + 1)).set_ (1 + k) (.int .u64 ((x ||| 2 ^ c : Nat) : Int))).setBlock (Ne.symm hg1) (.map es ck)
          have hk2 := ((HK.out.drewN (nq + 1)).setCell (p := ⟨g, 1 + k, none⟩) (fun _ => .inl rfl) (.int .u64 ((x ||| 2 ^ c : Nat) : Int))).setBlock (m := m1) (fun _ => .inr (.inl rfl)) (.map es ck)
          rw [aput_none (aget_eq_none.1 (XS.not_asked (by rw [hid]; exact hfree)).1), hid] at ha2
          have FIN := Lib.hid (⟨⟨_, k, hb2, hc1, ha2, ho2, hne, hok'⟩, hk2⟩ : SAt _ g m1 m2 (s.take ((64 * k + c : Nat) : Int) u) ∧ Kept (three g m1 m2) w _)
          have HFREE := Lib.hid hfree
          have HID := Lib.hid hid
          clear ha2 hfree hok' hc1 ho2 hb2 hk2 hid
          go_wp2
          go_ret2
          rw [HID.out]
          refine .inl ⟨64 * k + c, by omega, HFREE.out, fun j hj => ?_, rfl, FIN.out⟩
          by_cases hjk : j < 64 * k
          · exact HC.out.hf j hjk
          · have h1 := HBI.out (j - 64 * k) (by omega)
            rw [HCL.out _ (by omega), show 64 * k + (j - 64 * k) = j by omega] at h1
            exact h1.symm
    · have hk5 : k = 512 := by have := hc.hh; omega
      subst hk5
      have HF := Lib.hid hc.hf
      have FIN := Lib.hid (⟨⟨cs, 512, hb, hc, ha, ho, hne, hok⟩, hkr⟩ : SAt wr g m1 m2 s ∧ Kept (three g m1 m2) w wr)
      clear START hb hc ha ho hok hkr hTr hT
      go_wp2
      go_ret2
      exact .inr ⟨fun j hj => HF.out j (by omega), rfl, FIN.out⟩
end Go.Proofs.YtfnjoceolcdeoaaGreatDoor
namespace Go.Proofs.YtfnjoceolcdeoaaGreatDoor
set_option linter.unusedVariables false
open Go.RowKit

/-- The opcodes of requests. -/
def reqOps : List UInt8 := [1, 5, 7, 9, 10, 11, 13, 15]
theorem hdOf_ret {W : World} {T : Array Value} {M : Nat} {u v b : Value} {R : Ending → World → Prop} (h2 : T.getD 2 undef = .pointer (some ⟨M, 0, none⟩)) (h3 : T.getD 3 undef = b) (d0 : W.cell? ⟨M, 0, none⟩ = some u) (d1 : W.cell? ⟨M, 1, none⟩ = some v)
    (hR : R (.returned (.tuple #[.agg #[u, v], b])) W) : bodyPost Tryz.prog Tryz.f104 R .ret { tmps := T, defers := [] } W := by
  have h2' : T[2]?.getD undef = .pointer (some ⟨M, 0, none⟩) := by simpa using h2
  have h3' : T[3]?.getD undef = b := by simpa using h3
  exact bodyPost_ret (v := .tuple #[.agg #[u, v], b]) (by simp [results, Tryz.results104, go_sem, h2', h3', d0, d1]) rfl hR
set_option maxHeartbeats 1000000 in
set_option maxRecDepth 100000 in
theorem hdOf_req (w : World) : Calls Tryz.prog 104 #[.int .u8 4] w fun e w' => ∃ A c, e = .returned (.tuple #[.agg #[.int .u8 6, .slice A 8 c], .bool true]) ∧ SlK w' (fun g _ => g < w'.heap.size) 1 (.slice A 8 c) 8 (Lib.byteCells reqOps) ∧ Kept noBlock w w' := by
  go_enter Tryz.func104, Tryz.ntmps104
  go_wp2
  have B1 := Blk.new w 206 #[.int .u8 6, .slice (some ⟨w.heap.size + 1, 0, none⟩) 8 8]
  have B2 := B1.alloc (.cells #[.int .u8 1, .int .u8 5, .int .u8 7, .int .u8 9, .int .u8 10, .int .u8 11, .int .u8 13, .int .u8 15] 5)
  have B3 := Blk.new_at (k := w.heap.size + 1) (w.alloc (.cells #[.int .u8 6, .slice (some ⟨w.heap.size + 1, 0, none⟩) 8 8] 206)) 5 #[.int .u8 1, .int .u8 5, .int .u8 7, .int .u8 9, .int .u8 10, .int .u8 11, .int .u8 13, .int .u8 15] (by rw [sz_alloc])
  have hS := (Sl.made_at (sz := 1) (n := 8) B3 _ rfl rfl (by decide)).lo
  refine hdOf_ret (M := w.heap.size) (u := .int .u8 6) (v := .slice (some ⟨w.heap.size + 1, 0, none⟩) 8 8) (b := .bool true) rfl rfl (B2.cell 0) (B2.cell 1) ?_
  exact ⟨_, _, rfl, hS, ((Kept.refl noBlock w).alloc _).alloc _⟩
end Go.Proofs.YtfnjoceolcdeoaaGreatDoor

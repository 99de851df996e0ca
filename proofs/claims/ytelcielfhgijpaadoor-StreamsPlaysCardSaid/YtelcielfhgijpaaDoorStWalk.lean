/- Streams: Counts, Owed. -/
import Derived.Test.YtelcielfhgijpaaDoorStNew
import Derived.OpenShut
import Derived.BigQuiet
namespace Go.Proofs.YtelcielfhgijpaaDoor
set_option linter.unusedVariables false
open Go.RowKit
open Go.ChangeMaps (setBlock)

theorem iuM : Tryd.prog.underlying 62 = some (.map 3 23) := by kernel_rfl
theorem ibM : Tryd.prog.underlying 63 = some (.map 3 4) := by kernel_rfl
theorem intU : Tryd.prog.underlying 3 = some (.int .i64) := by kernel_rfl

set_option maxHeartbeats 400000 in
theorem Counts_at {w : World} {g m1 m2 : Nat} {s : XS} (h : SAt w g m1 m2 s) :
    Calls Tryd.prog 18 #[.pointer (some ⟨g, 0, none⟩)] w fun e w' => e = .returned (.tuple #[.int .i64 (s.n - s.asked.length - s.orph.length), .int .i64 s.asked.length, .int .i64 s.orph.length]) ∧ ∃ n, w' = w.drewN n := by
  obtain ⟨cs, k, hb, hc, ha, ho, hne, hok⟩ := h
  have f0 := (hb.cell 0).trans hc.c0
  have f4 := (hb.cell 514).trans hc.ca
  have f5 := (hb.cell 515).trans hc.co
  have l1 := fun (n : Nat) => (ha.drewN n).run_len iuM
  have l2 := fun (n : Nat) => (ho.drewN n).run_len ibM
  have hcnt := hok.count
  have h1 := hok.n1
  have h2 := hok.n2
  clear hb hc ha ho hok
  go_enter Tryd.func18, Tryd.ntmps18
  go_wp2
  go_quiet (fail)
  go_wp2
  go_ret3
  exact ⟨rfl, nq, rfl⟩

/-- What word holds a stream. -/
theorem word_of {cs : Array Value} {s : XS} {h m1 m2 : Nat} (hc : SCells cs s h m1 m2) {id : Nat} (hi : id < 32768) :
    ∃ x : Nat, x < 18446744073709551616 ∧ cs[1 + id / 64]? = some (.int .u64 (x : Int)) ∧ (x.testBit (id % 64) = s.owed (id : Int)) ∧ ∀ b : Nat, b < 64 → x.testBit b = s.owed ((64 * (id / 64) + b : Nat) : Int) := by
  obtain ⟨x, hx, h1, h2⟩ := hc.cw (id / 64) (by omega)
  refine ⟨x, hx, h1, ?_, h2⟩
  rw [h2 _ (Nat.mod_lt _ (by decide)), show 64 * (id / 64) + id % 64 = id by omega]

set_option maxHeartbeats 1000000 in
theorem Owed_at {w : World} {g m1 m2 : Nat} {s : XS} (h : SAt w g m1 m2 s) (id : Int) :
    Calls Tryd.prog 19 #[.pointer (some ⟨g, 0, none⟩), .int .i64 id] w fun e w' => e = .returned (.bool (s.owed id)) ∧ w' = w := by
  obtain ⟨cs, k, hb, hc, ha, ho, hne, hok⟩ := h
  have f0 := (hb.cell 0).trans hc.c0
  have h1 := hok.n1
  have h2 := hok.n2
  by_cases hid : 0 ≤ id ∧ id < s.n
  · obtain ⟨i0, i1⟩ := hid
    obtain ⟨i, rfl⟩ := Int.eq_ofNat_of_zero_le i0
    obtain ⟨x, hx, hcx, hbit, -⟩ := word_of hc (id := i) (by omega)
    have fx := (hb.cell (1 + i / 64)).trans hcx
    have hrd := word_read hx (b := i % 64) (Nat.mod_lt _ (by decide))
    rw [← hbit]
    clear hb hc ha ho hok hbit
    cases ht : x.testBit (i % 64) with
    | false =>
      rw [ht] at hrd
      replace hrd : bits .and .u64 ((x : Int) / 2 ^ (i % 64)) 1 = 0 := hrd
      clear ht
      go_enter Tryd.func19, Tryd.ntmps19
      go_wp2
      go_ret
      exact ⟨rfl, rfl⟩
    | true =>
      rw [ht] at hrd
      replace hrd : bits .and .u64 ((x : Int) / 2 ^ (i % 64)) 1 = 1 := hrd
      clear ht
      go_enter Tryd.func19, Tryd.ntmps19
      go_wp2
      go_ret
      exact ⟨rfl, rfl⟩
  · have hf : s.owed id = false := by
      cases ho : s.owed id with
      | false => rfl
      | true => exact absurd (hok.range ho) hid
    rw [hf]
    clear hb hc ha ho hok
    by_cases hn : 0 ≤ id
    · have hn2 : s.n ≤ id := by omega
      clear hid
      go_enter Tryd.func19, Tryd.ntmps19
      go_wp2
      go_ret
      exact ⟨rfl, rfl⟩
    · have hn2 : id < 0 := by omega
      clear hid hn
      go_enter Tryd.func19, Tryd.ntmps19
      go_wp2
      go_ret
      exact ⟨rfl, rfl⟩

theorem i64K : KeyEmb (.int .i64) (fun n : Int => Value.int .i64 n) := int_emb .i64
theorem zero_u64 (w : World) : (zeroValue 23).run Tryd.prog w = .ok (.int .u64 0) w := Tryd.zeroValue23 w
theorem zero_bool (w : World) : (zeroValue 4).run Tryd.prog w = .ok (.bool false) w := Tryd.zeroValue4 w
theorem SCells.same {cs : Array Value} {s s' : XS} {h m1 m2 : Nat} (hc : SCells cs s h m1 m2) (hn : s'.n = s.n) (ho : ∀ j, s'.owed j = s.owed j) : SCells cs s' h m1 m2 :=
  ⟨by rw [hn]; exact hc.c0, fun i hi => by obtain ⟨x, h1, h2, h3⟩ := hc.cw i hi; exact ⟨x, h1, h2, fun b hb => (h3 b hb).trans (ho _).symm⟩, hc.ch, hc.ca, hc.co, hc.hh, fun j hj => (ho _).trans (hc.hf j hj)⟩

theorem Orphan_bad {w : World} {g m1 m2 : Nat} {s : XS} (h : SAt w g m1 m2 s) (id : Int) (hi : aget id s.asked = none) :
    Calls Tryd.prog 12 #[.pointer (some ⟨g, 0, none⟩), .int .i64 id] w fun e w' => e = .returned (.int .i64 31) ∧ w' = w := by
  obtain ⟨cs, k, hb, hc, ha, ho, hne, hok⟩ := h
  have f4 := (hb.cell 514).trans hc.ca
  have hl := ha.run_lookup i64K iuM intU (zero_u64 w) id true
  rw [hi] at hl
  clear hb hc ha ho hok
  go_enter Tryd.func12, Tryd.ntmps12
  go_wp2
  go_ret
  exact ⟨rfl, rfl⟩
set_option maxHeartbeats 400000 in
theorem Orphan_at {w : World} {g m1 m2 : Nat} {s : XS} (h : SAt w g m1 m2 s) (id : Int) (hi : (aget id s.asked).isSome = true) :
    Calls Tryd.prog 12 #[.pointer (some ⟨g, 0, none⟩), .int .i64 id] w fun e w' => e = .returned (.int .i64 0) ∧ SAt w' g m1 m2 (s.orphan id) ∧ Kept (three g m1 m2) w w' := by
  obtain ⟨cs, k, hb, hc, ha, ho, hne, hok⟩ := h
  have hno := hok.dis id hi
  have f4 := (hb.cell 514).trans hc.ca
  have f5 := (hb.cell 515).trans hc.co
  have hl := ha.run_lookup i64K iuM intU (zero_u64 w) id true
  obtain ⟨u, hu⟩ := Option.isSome_iff_exists.1 hi
  rw [hu] at hl
  obtain ⟨es, ck, hdel, ha1⟩ := ha.run_delete i64K iuM intU id
  obtain ⟨hx1, hx2, hx3⟩ := ha.rules es ck
  have ho1 := ho.setBlock (Ne.symm hne) (.map es ck)
  obtain ⟨es2, ck2, hup, ho2⟩ := ho1.run_update i64K ibM intU id true
  rw [aput_none (aget_eq_none.1 hno)] at ho2
  have hb2 := (hb.setBlock (ha.ne_blk hb) (.map es ck)).setBlock (ho.ne_blk hb) (.map es2 ck2)
  have ha2 := ha1.setBlock hne (.map es2 ck2)
  have hk := ((Kept.refl (three g m1 m2) w).setBlock (m := m1) (fun _ => .inr (.inl rfl)) (.map es ck)).setBlock (m := m2) (fun _ => .inr (.inr rfl)) (.map es2 ck2)
  have FIN := Lib.hid (⟨⟨cs, k, hb2, hc.same rfl (fun j => hok.owed_orphan hi), ha2, ho2, hne, hok.orphan hi⟩, hk⟩ : SAt (setBlock (setBlock w m1 (.map es ck)) m2 (.map es2 ck2)) g m1 m2 (s.orphan id) ∧ _)
  clear hb hc ha ho hok hb2 ha2 ho2 ho1 ha1 hk hno hu
  go_enter Tryd.func12, Tryd.ntmps12
  go_wp2
  go_ret
  exact ⟨rfl, FIN.out⟩
end Go.Proofs.YtelcielfhgijpaaDoor

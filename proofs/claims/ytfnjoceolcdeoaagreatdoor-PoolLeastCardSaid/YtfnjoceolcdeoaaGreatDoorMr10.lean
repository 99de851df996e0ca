/- Streams: what they are (a number of them; what is asked for; what is an orphan), and their words of 64 bits. No program is named · Streams: how they lie in memory; New, Counts. -/
import Derived.Test.YtfnjoceolcdeoaaGreatDoorMr03
import Derived.Laws.Bits64b
import Derived.Lib.TrailingZeros
import Derived.Test.YtfnjoceolcdeoaaGreatDoorProg
import Derived.Deep.QuietTactic
import Derived.Great.BuildSlice
namespace Go.Proofs.YtfnjoceolcdeoaaGreatDoor
set_option linter.unusedVariables false
open Go.RowKit

structure XS where
  n : Int
  asked : List (Int × Int)
  orph : List (Int × Bool)

def XS.owed (s : XS) (id : Int) : Bool := (aget id s.asked).isSome || (aget id s.orph).isSome

structure XS.Ok (s : XS) : Prop where
  n1 : 1 ≤ s.n
  n2 : s.n ≤ 32768
  dis : ∀ id, (aget id s.asked).isSome = true → aget id s.orph = none
  ra : ∀ p ∈ s.asked, 0 ≤ p.1 ∧ p.1 < s.n ∧ 0 ≤ p.2 ∧ p.2 < 18446744073709551616
  ro : ∀ p ∈ s.orph, 0 ≤ p.1 ∧ p.1 < s.n
  na : (s.asked.map (·.1)).Nodup
  no : (s.orph.map (·.1)).Nodup

def XS.fresh (n : Int) : XS := ⟨n, [], []⟩
def XS.take (s : XS) (id until_ : Int) : XS := { s with asked := s.asked ++ [(id, until_)] }
def XS.answer (s : XS) (id : Int) : XS := { s with asked := adel id s.asked, orph := adel id s.orph }
def XS.orphan (s : XS) (id : Int) : XS := { s with asked := adel id s.asked, orph := s.orph ++ [(id, true)] }

section
variable {α β : Type} [DecidableEq α]
theorem aget_append {k : α} {l r : List (α × β)} : aget k (l ++ r) = (aget k l).or (aget k r) := by
  induction l with
  | nil => simp [aget]
  | cons p t ih =>
    obtain ⟨a, b⟩ := p
    simp only [List.cons_append, aget]
    split
    · rfl
    · exact ih
theorem adel_subl (k : α) (L : List (α × β)) : (adel k L).Sublist L := by
  induction L with
  | nil => exact .slnil
  | cons p t ih =>
    obtain ⟨a, b⟩ := p
    rw [adel]
    split
    · exact List.sublist_cons_self _ _
    · exact ih.cons_cons _
theorem aget_mem {k : α} {v : β} {l : List (α × β)} (h : aget k l = some v) : (k, v) ∈ l := by
  obtain ⟨A, B, rfl, _⟩ := aget_some_split h
  simp
theorem aget_of_mem {k : α} {v : β} {l : List (α × β)} (hn : (l.map (·.1)).Nodup) (h : (k, v) ∈ l) : aget k l = some v := by
  induction l with
  | nil => cases h
  | cons p t ih =>
    obtain ⟨a, b⟩ := p
    simp only [List.map_cons, List.nodup_cons] at hn
    rw [aget]
    cases h with
    | head => simp
    | tail _ h =>
      rw [if_neg]
      · exact ih hn.2 h
      · rintro rfl
        exact hn.1 (List.mem_map.2 ⟨_, h, rfl⟩)
theorem aget_adel {k j : α} {l : List (α × β)} (hn : (l.map (·.1)).Nodup) : aget j (adel k l) = if j = k then none else aget j l := by
  induction l with
  | nil => simp [adel, aget]
  | cons p t ih =>
    obtain ⟨a, b⟩ := p
    simp only [List.map_cons, List.nodup_cons] at hn
    rw [adel]
    by_cases h : a = k
    · subst h
      rw [if_pos rfl]
      by_cases hj : j = a
      · subst hj
        rw [if_pos rfl]
        exact aget_eq_none.2 fun p hp e => hn.1 (List.mem_map.2 ⟨p, hp, e⟩)
      · rw [if_neg hj, aget, if_neg (Ne.symm hj)]
    · rw [if_neg h, aget, ih hn.2]
      by_cases hj : j = k
      · subst hj
        rw [if_neg h, if_pos rfl, if_pos rfl]
      · rw [if_neg hj, aget, if_neg hj]
end

variable {s : XS}
theorem XS.Ok.fresh {n : Int} (h1 : 1 ≤ n) (h2 : n ≤ 32768) : (XS.fresh n).Ok := ⟨h1, h2, by simp [XS.fresh, aget], by simp [XS.fresh], by simp [XS.fresh], .nil, .nil⟩
theorem XS.owed_take {id u j : Int} : (s.take id u).owed j = (s.owed j || decide (j = id)) := by
  simp only [XS.owed, XS.take, aget_append, aget]
  by_cases h : id = j
  · simp [h]
  · have h' : ¬ j = id := fun e => h e.symm
    simp [h, h']
theorem XS.Ok.owed_answer (h : s.Ok) {id j : Int} : (s.answer id).owed j = (s.owed j && !decide (j = id)) := by
  simp only [XS.owed, XS.answer, aget_adel h.na, aget_adel h.no]
  by_cases e : j = id <;> simp [e]
theorem XS.Ok.owed_orphan (h : s.Ok) {id j : Int} (hi : (aget id s.asked).isSome = true) : (s.orphan id).owed j = s.owed j := by
  simp only [XS.owed, XS.orphan, aget_adel h.na, aget_append, aget]
  by_cases e : j = id
  · subst e
    simp [hi]
  · have h' : ¬ id = j := fun x => e x.symm
    simp [e, h']
theorem XS.not_asked {id : Int} (h : s.owed id = false) : aget id s.asked = none ∧ aget id s.orph = none := by
  simp only [XS.owed, Bool.or_eq_false_iff, Option.isSome_eq_false_iff, Option.isNone_iff_eq_none] at h
  exact h
theorem XS.Ok.take (h : s.Ok) {id u : Int} (h0 : 0 ≤ id) (h1 : id < s.n) (hu : 0 ≤ u ∧ u < 18446744073709551616) (hf : s.owed id = false) : (s.take id u).Ok := by
  obtain ⟨f1, f2⟩ := XS.not_asked hf
  refine ⟨h.n1, h.n2, ?_, ?_, h.ro, ?_, h.no⟩
  · intro j hj
    by_cases e : j = id
    · subst e; exact f2
    · simp only [XS.take, aget_append, aget] at hj
      have e' : ¬ id = j := fun x => e x.symm
      simp only [e', if_false, Option.or_none] at hj
      exact h.dis j hj
  · intro p hp
    simp only [XS.take, List.mem_append, List.mem_singleton] at hp
    rcases hp with hp | rfl
    · exact h.ra p hp
    · exact ⟨h0, h1, hu⟩
  · simp only [XS.take, List.map_append, List.map_cons, List.map_nil]
    rw [List.nodup_append]
    refine ⟨h.na, by simp, ?_⟩
    intro a ha b hb e
    simp only [List.mem_singleton] at hb
    subst hb; subst e
    obtain ⟨p, hp, e⟩ := List.mem_map.1 ha
    exact aget_eq_none.1 f1 p hp e
theorem XS.Ok.answer (h : s.Ok) (id : Int) : (s.answer id).Ok :=
  ⟨h.n1, h.n2, fun j hj => by
    simp only [XS.answer, aget_adel h.na, aget_adel h.no] at hj ⊢
    by_cases e : j = id
    · simp [e]
    · rw [if_neg e] at hj ⊢; exact h.dis j hj,
   fun p hp => h.ra p ((adel_subl _ _).subset hp), fun p hp => h.ro p ((adel_subl _ _).subset hp), h.na.sublist ((adel_subl _ _).map _), h.no.sublist ((adel_subl _ _).map _)⟩
theorem XS.Ok.orphan (h : s.Ok) {id : Int} (hi : (aget id s.asked).isSome = true) : (s.orphan id).Ok := by
  have hno := h.dis id hi
  obtain ⟨u, hu⟩ := Option.isSome_iff_exists.1 hi
  have hr := h.ra _ (aget_mem hu)
  refine ⟨h.n1, h.n2, fun j hj => ?_, fun p hp => h.ra p ((adel_subl _ _).subset hp), ?_, h.na.sublist ((adel_subl _ _).map _), ?_⟩
  · simp only [XS.orphan, aget_adel h.na] at hj
    by_cases e : j = id
    · rw [if_pos e] at hj; simp at hj
    · rw [if_neg e] at hj
      simp only [XS.orphan, aget_append, aget, if_neg (fun x => e x.symm : ¬ id = j), Option.or_none]
      exact h.dis j hj
  · intro p hp
    simp only [XS.orphan, List.mem_append, List.mem_singleton] at hp
    rcases hp with hp | rfl
    · exact h.ro p hp
    · exact ⟨hr.1, hr.2.1⟩
  · simp only [XS.orphan, List.map_append, List.map_cons, List.map_nil]
    rw [List.nodup_append]
    refine ⟨h.no, by simp, ?_⟩
    intro a ha b hb e
    simp only [List.mem_singleton] at hb
    subst hb; subst e
    obtain ⟨p, hp, e⟩ := List.mem_map.1 ha
    exact aget_eq_none.1 hno p hp e
theorem XS.Ok.range (h : s.Ok) {id : Int} (hi : s.owed id = true) : 0 ≤ id ∧ id < s.n := by
  simp only [XS.owed, Bool.or_eq_true] at hi
  rcases hi with hi | hi <;> obtain ⟨u, hu⟩ := Option.isSome_iff_exists.1 hi
  · exact ⟨(h.ra _ (aget_mem hu)).1, (h.ra _ (aget_mem hu)).2.1⟩
  · exact h.ro _ (aget_mem hu)

theorem XS.Ok.count (h : s.Ok) : ((s.asked.length : Int) + s.orph.length) ≤ s.n := by
  have hn := h.n1
  have hnd : (s.asked.map (·.1) ++ s.orph.map (·.1)).Nodup := by
    rw [List.nodup_append]
    refine ⟨h.na, h.no, ?_⟩
    intro a ha b hb e
    subst e
    obtain ⟨⟨a1, u⟩, hp, rfl⟩ := List.mem_map.1 ha
    obtain ⟨⟨b1, v⟩, hq, e⟩ := List.mem_map.1 hb
    simp only at e
    subst e
    have h1 := aget_of_mem h.na hp
    have h2 := h.dis b1 (by rw [h1]; rfl)
    rw [aget_of_mem h.no hq] at h2
    cases h2
  have hsub : (s.asked.map (·.1) ++ s.orph.map (·.1)) ⊆ (List.range s.n.toNat).map (fun i : Nat => (i : Int)) := by
    intro a ha
    rw [List.mem_append] at ha
    have hr : 0 ≤ a ∧ a < s.n := by
      rcases ha with ha | ha <;> obtain ⟨p, hp, rfl⟩ := List.mem_map.1 ha
      · exact ⟨(h.ra p hp).1, (h.ra p hp).2.1⟩
      · exact h.ro p hp
    exact List.mem_map.2 ⟨a.toNat, List.mem_range.2 (by omega), by omega⟩
  have := hnd.length_le_of_subset hsub
  simp only [List.length_append, List.length_map, List.length_range] at this
  omega

/-! ## Words -/
/-- A word's lowest bit that is 0; 64: none. -/
theorem ctz_not {x : Nat} (hx : x < 18446744073709551616) :
    (Lib.ctz 64 (18446744073709551615 - x) = 64 ∧ ∀ b, b < 64 → x.testBit b = true) ∨
    (Lib.ctz 64 (18446744073709551615 - x) < 64 ∧ x.testBit (Lib.ctz 64 (18446744073709551615 - x)) = false ∧ ∀ b, b < Lib.ctz 64 (18446744073709551615 - x) → x.testBit b = true) := by
  have hbit : ∀ b, b < 64 → (18446744073709551615 - x).testBit b = !x.testBit b := by
    intro b hb
    have := @Nat.testBit_two_pow_sub_succ x 64 hx b
    rw [show (2 : Nat) ^ 64 - (x + 1) = 18446744073709551615 - x by omega] at this
    rw [this]; simp [hb]
  generalize hy : 18446744073709551615 - x = y at *
  have hy2 : y < 2 ^ 64 := by omega
  by_cases h0 : y = 0
  · left
    refine ⟨by simp [Lib.ctz, h0], fun b hb => ?_⟩
    have := hbit b hb
    rw [h0, Nat.zero_testBit] at this
    simpa using this.symm
  · right
    have hc : Lib.ctz 64 y = Lib.ctzFrom 64 y := by simp [Lib.ctz, h0]
    obtain ⟨m, hm, hk⟩ := Lib.ctzFrom_spec 64 y (by omega) hy2
    rw [hc]
    generalize Lib.ctzFrom 64 y = k at *
    have hlow : ∀ b, b < k → y.testBit b = false := by
      intro b hb
      rw [hm, Nat.mul_comm, Nat.testBit_mul_two_pow]
      simp; omega
    have hat : y.testBit k = true := by
      rw [hm, Nat.mul_comm, Nat.testBit_mul_two_pow]
      simp
    refine ⟨hk, ?_, fun b hb => ?_⟩
    · have := hbit k hk; rw [hat] at this; simpa using this.symm
    · have := hbit b (by omega); rw [hlow b hb] at this; simpa using this.symm

/-- All bits turned. -/
theorem word_not {x : Nat} (hx : x < 18446744073709551616) : bits .xor .u64 (if IntKind.u64.signed = true then -1 else IntKind.u64.max) (x : Int) = ((18446744073709551615 - x : Nat) : Int) := by
  have h1 : (if IntKind.u64.signed = true then -1 else IntKind.u64.max) = ((18446744073709551615 : Nat) : Int) := by decide
  rw [h1, bits_xor_u64_nat _ x (by decide) hx]
  congr 1
  apply Nat.eq_of_testBit_eq
  intro i
  have h2 := @Nat.testBit_two_pow_sub_succ x 64 hx i
  rw [show (2 : Nat) ^ 64 - (x + 1) = 18446744073709551615 - x by omega] at h2
  rw [h2, Nat.testBit_xor]
  have h3 : (18446744073709551615 : Nat).testBit i = decide (i < 64) := by
    have := @Nat.testBit_two_pow_sub_one 64 i
    exact this
  rw [h3]
  by_cases hi : i < 64
  · simp [hi]
  · have : x.testBit i = false := Nat.testBit_lt_two_pow (Nat.lt_of_lt_of_le hx (by
      rw [show (18446744073709551616 : Nat) = 2 ^ 64 by decide]; exact Nat.pow_le_pow_right (by decide) (by omega)))
    simp [hi, this]

/-- Set bit b. -/
theorem word_set {x b : Nat} (hx : x < 18446744073709551616) (hb : b < 64) :
    bits .or .u64 (x : Int) (IntKind.u64.wrap (2 ^ b)) = ((x ||| 2 ^ b : Nat) : Int) ∧ x ||| 2 ^ b < 18446744073709551616 ∧ ∀ j, (x ||| 2 ^ b).testBit j = (x.testBit j || decide (j = b)) := by
  have hp : 2 ^ b < 2 ^ 64 := Nat.pow_lt_pow_right (by decide) hb
  have hw : IntKind.u64.wrap (2 ^ b) = ((2 ^ b : Nat) : Int) := by
    rw [IntKind.wrap_u64]
    have : ((2 : Int) ^ b) = ((2 ^ b : Nat) : Int) := by push_cast; rfl
    rw [this]
    generalize 2 ^ b = p at *
    omega
  rw [hw]
  refine ⟨bits_or_u64_nat x _ hx (by omega), Nat.or_lt_two_pow (n := 64) (by omega) (by omega), fun j => ?_⟩
  rw [Nat.testBit_or, Nat.testBit_two_pow]
  by_cases e : b = j
  · simp [e]
  · have e' : ¬ j = b := fun x => e x.symm
    simp [e, e']
/-- Strike bit b. -/
theorem word_clear {x b : Nat} (hx : x < 18446744073709551616) (hb : b < 64) :
    bits .andNot .u64 (x : Int) (IntKind.u64.wrap (2 ^ b)) = ((x &&& (18446744073709551615 - 2 ^ b) : Nat) : Int) ∧ x &&& (18446744073709551615 - 2 ^ b) < 18446744073709551616 ∧ ∀ j, j < 64 → (x &&& (18446744073709551615 - 2 ^ b)).testBit j = (x.testBit j && !decide (j = b)) := by
  have hp : 2 ^ b < 2 ^ 64 := Nat.pow_lt_pow_right (by decide) hb
  have hw : IntKind.u64.wrap (2 ^ b) = ((2 ^ b : Nat) : Int) := by
    rw [IntKind.wrap_u64]
    have : ((2 : Int) ^ b) = ((2 ^ b : Nat) : Int) := by push_cast; rfl
    rw [this]
    generalize 2 ^ b = p at *
    omega
  rw [hw]
  refine ⟨u64_andNot_nat x _ hx (by omega), Nat.lt_of_le_of_lt Nat.and_le_left hx, fun j hj => ?_⟩
  have := @Nat.testBit_two_pow_sub_succ (2 ^ b) 64 hp j
  rw [show (2 : Nat) ^ 64 - (2 ^ b + 1) = 18446744073709551615 - 2 ^ b by omega] at this
  rw [Nat.testBit_and, this, Nat.testBit_two_pow]
  by_cases e : b = j
  · simp [e, hj]
  · have e' : ¬ j = b := fun x => e x.symm
    simp [e, e', hj]
/-- Read bit b. -/
theorem word_read {x b : Nat} (hx : x < 18446744073709551616) (hb : b < 64) :
    bits .and .u64 ((x : Int) / 2 ^ b) 1 = (if x.testBit b then 1 else 0) := by
  have h1 : ((x : Int) / 2 ^ b) = ((x / 2 ^ b : Nat) : Int) := by
    push_cast; rfl
  have h2 : x / 2 ^ b < 18446744073709551616 := Nat.lt_of_le_of_lt (Nat.div_le_self _ _) hx
  have h3 := u64_and_nat (x / 2 ^ b) 1 h2 (by decide)
  rw [h1]
  rw [show ((1 : Nat) : Int) = 1 from rfl] at h3
  rw [h3, nat_mask1]
  rw [Nat.testBit_eq_decide_div_mod_eq]
  have := Nat.mod_two_eq_zero_or_one (x / 2 ^ b)
  rcases this with h | h <;> simp [h]
end Go.Proofs.YtfnjoceolcdeoaaGreatDoor
namespace Go.Proofs.YtfnjoceolcdeoaaGreatDoor
set_option linter.unusedVariables false
open Go.RowKit
open Go.ChangeMaps (setBlock)

structure SCells (cs : Array Value) (s : XS) (h m1 m2 : Nat) : Prop where
  c0 : cs[0]? = some (.int .i64 s.n)
  cw : ∀ i, i < 512 → ∃ x : Nat, x < 18446744073709551616 ∧ cs[1 + i]? = some (.int .u64 (x : Int)) ∧ ∀ b : Nat, b < 64 → x.testBit b = s.owed ((64 * i + b : Nat) : Int)
  ch : cs[513]? = some (.int .i64 (h : Int))
  ca : cs[514]? = some (.map (some m1))
  co : cs[515]? = some (.map (some m2))
  hh : h ≤ 512
  hf : ∀ j : Nat, j < 64 * h → s.owed (j : Int) = true

abbrev AMap := KMap (β := Int) (.int .i64) (Value.int .i64) (Value.int .u64)
abbrev OMap := KMap (β := Bool) (.int .i64) (Value.int .i64) Value.bool

def SAt (w : World) (g m1 m2 : Nat) (s : XS) : Prop :=
  ∃ cs h, Blk w g 135 cs ∧ SCells cs s h m1 m2 ∧ AMap w m1 s.asked ∧ OMap w m2 s.orph ∧ m1 ≠ m2 ∧ s.Ok

section
variable {w w' : World} {g m1 m2 : Nat} {s : XS} {S : Nat → Prop}
theorem SAt.ok (h : SAt w g m1 m2 s) : s.Ok := by obtain ⟨_, _, _, _, _, _, _, h⟩ := h; exact h
theorem SAt.kept (h : SAt w g m1 m2 s) (hk : Kept S w w') (hg : ¬ S g) (h1 : ¬ S m1) (h2 : ¬ S m2) : SAt w' g m1 m2 s := by
  obtain ⟨cs, k, hb, hc, ha, ho, hne, hok⟩ := h
  exact ⟨cs, k, hb.kept hk hg, hc, ha.kept hk h1, ho.kept hk h2, hne, hok⟩
theorem SAt.keptNone (h : SAt w g m1 m2 s) (hk : Kept noBlock w w') : SAt w' g m1 m2 s := h.kept hk id id id
theorem SAt.alloc (h : SAt w g m1 m2 s) (o : Obj) : SAt (w.alloc o) g m1 m2 s := h.keptNone ((Kept.refl _ w).alloc o)
theorem SAt.drew (h : SAt w g m1 m2 s) : SAt w.drew g m1 m2 s := h
theorem SAt.drewN (h : SAt w g m1 m2 s) (n : Nat) : SAt (w.drewN n) g m1 m2 s := h
theorem SAt.lts (h : SAt w g m1 m2 s) : g < w.heap.size ∧ m1 < w.heap.size ∧ m2 < w.heap.size ∧ g ≠ m1 ∧ g ≠ m2 := by
  obtain ⟨cs, k, hb, hc, ha, ho, hne, hok⟩ := h
  exact ⟨hb.lt, ha.lt, ho.lt, ha.ne_blk hb, ho.ne_blk hb⟩
end
def three (a b c : Nat) : Nat → Prop := fun i => i = a ∨ i = b ∨ i = c

def zeroCells : Array Value := (Value.int .i64 0 :: (List.replicate 512 (Value.int .u64 0) ++ [.int .i64 0, .map none, .map none])).toArray
set_option maxRecDepth 100000 in
theorem zero_st : (Tryz.prog.info? 135).bind (·.zero) = some (.agg zeroCells) := by kernel_rfl
theorem run_zero {P : Program} {t : TypeId} {v : Value} (h : (P.info? t).bind (·.zero) = some v) (w : World) : (zeroValue t).run P w = .ok v w := by
  cases hi : P.info? t with
  | none => simp [hi] at h
  | some it =>
    rw [hi] at h
    simp only [Option.bind_some] at h
    simp [zeroValue, typeInfo, hi, h]
theorem cells_gen {z a b c d : Value} (k : Nat) : (d :: (List.replicate k z ++ [a, b, c]))[k + 1]? = some a ∧ (d :: (List.replicate k z ++ [a, b, c]))[k + 2]? = some b ∧ (d :: (List.replicate k z ++ [a, b, c]))[k + 3]? = some c ∧ ∀ i, i < k → (d :: (List.replicate k z ++ [a, b, c]))[1 + i]? = some z := by
  refine ⟨?_, ?_, ?_, fun i hi => ?_⟩
  · rw [List.getElem?_cons_succ, List.getElem?_append_right (by simp)]; simp
  · rw [List.getElem?_cons_succ, List.getElem?_append_right (by simp)]; simp
  · rw [List.getElem?_cons_succ, List.getElem?_append_right (by simp)]; simp
  · rw [Nat.add_comm, List.getElem?_cons_succ, List.getElem?_append_left (by simp; exact hi), List.getElem?_replicate, if_pos hi]
theorem newCells_ok (n : Int) (m1 m2 : Nat) : SCells (((zeroCells.setIfInBounds 0 (.int .i64 n)).setIfInBounds 514 (.map (some m1))).setIfInBounds 515 (.map (some m2))) (XS.fresh n) 0 m1 m2 := by
  have hg := cells_gen (z := Value.int .u64 0) (a := .int .i64 0) (b := .map none) (c := .map none) (d := Value.int .i64 0) 512
  have hsz : zeroCells.size = 516 := by rw [zeroCells, List.size_toArray, List.length_cons, List.length_append, List.length_replicate]; rfl
  obtain ⟨h1, h2, h3, h4⟩ := hg
  refine ⟨?_, fun i hi => ⟨0, by decide, ?_, fun b hb => ?_⟩, ?_, ?_, ?_, by decide, fun j hj => by omega⟩
  · rw [Array.getElem?_setIfInBounds_ne (by decide), Array.getElem?_setIfInBounds_ne (by decide), Array.getElem?_setIfInBounds_self_of_lt (by omega)]; rfl
  · rw [Array.getElem?_setIfInBounds_ne (by omega), Array.getElem?_setIfInBounds_ne (by omega), Array.getElem?_setIfInBounds_ne (by omega), zeroCells, List.getElem?_toArray]; exact h4 i hi
  · rw [Nat.zero_testBit]; rfl
  · rw [Array.getElem?_setIfInBounds_ne (by decide), Array.getElem?_setIfInBounds_ne (by decide), Array.getElem?_setIfInBounds_ne (by decide), zeroCells, List.getElem?_toArray]; exact h1
  · rw [Array.getElem?_setIfInBounds_ne (by decide), Array.getElem?_setIfInBounds_self_of_lt (by simp only [Array.size_setIfInBounds]; omega)]
  · rw [Array.getElem?_setIfInBounds_self_of_lt (by simp only [Array.size_setIfInBounds]; omega)]

set_option maxHeartbeats 2000000 in
theorem New_at {n : Int} (w : World) (h1 : 1 ≤ n) (h2 : n ≤ 32768) :
    Calls Tryz.prog 33 #[.int .i64 n] w fun e w' => ∃ g m1 m2, e = .returned (.tuple #[.pointer (some ⟨g, 0, none⟩), .int .i64 0]) ∧ SAt w' g m1 m2 (XS.fresh n) ∧ Kept noBlock w w' ∧ w.heap.size ≤ g ∧ w.heap.size ≤ m1 ∧ w.heap.size ≤ m2 := by
  have hmm := @run_makeMap Tryz.prog
  obtain ⟨zs, hz, hsz, hne, hok⟩ : ∃ zs : Array Value, (∀ w, (zeroValue 135).run Tryz.prog w = .ok (.agg zs) w) ∧ zs.size = 516 ∧ (zs = #[]) = False ∧ ∀ m1 m2, SCells (((zs.setIfInBounds 0 (.int .i64 n)).setIfInBounds 514 (.map (some m1))).setIfInBounds 515 (.map (some m2))) (XS.fresh n) 0 m1 m2 := by
    have hsz : zeroCells.size = 516 := by rw [zeroCells, List.size_toArray, List.length_cons, List.length_append, List.length_replicate]; rfl
    refine ⟨zeroCells, run_zero zero_st, hsz, eq_false fun e => ?_, newCells_ok n⟩
    rw [e] at hsz; cases hsz
  have HOK := Lib.hid hok
  clear hok
  go_enter Tryz.func33, Tryz.ntmps33
  go_wp2_with (fail)
  go_ret2
  have hm2 := KMap.new (α := Int) (β := Bool) (d := .int .i64) (key := Value.int .i64) (val := Value.bool) (w.alloc (.map #[] 0))
  rw [sz_alloc] at hm2
  exact ⟨w.heap.size + 1 + 1, w.heap.size, w.heap.size + 1, rfl, ⟨_, 0, Blk.new_at _ _ _ (by simp), HOK.out _ _, ((KMap.new w).alloc _).alloc _, hm2.alloc _, by omega, XS.Ok.fresh h1 h2⟩, (((Kept.refl _ w).alloc _).alloc _).alloc _, by omega, by omega, by omega⟩
theorem New_bad {n : Int} (w : World) (h : ¬ (1 ≤ n ∧ n ≤ 32768)) :
    Calls Tryz.prog 33 #[.int .i64 n] w fun e w' => e = .returned (.tuple #[.pointer none, .int .i64 1]) ∧ w' = w := by
  go_enter Tryz.func33, Tryz.ntmps33
  by_cases hn : n < 1
  · go_wp2
    go_ret2
    exact ⟨rfl, rfl⟩
  · have hn2 : 32768 < n := by omega
    clear h
    go_wp2
    go_ret2
    exact ⟨rfl, rfl⟩
end Go.Proofs.YtfnjoceolcdeoaaGreatDoor

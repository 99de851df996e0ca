/- math/bits.Div64 by 100, of a number of 64 bits · A region that draws its order and stores at its end where it has read: what is taken first need not be so any more behind the last operations (Z), for these wait for all that is taken. No program is named. -/
import Derived.Test.YtfnjoceolcdeoaaGreatDoorMr19
import Derived.Test.YtfnjoceolcdeoaaGreatDoorMr07
namespace Go.Proofs.YtfnjoceolcdeoaaGreatDoor
set_option linter.unusedVariables false
open Go.RowKit

set_option maxHeartbeats 2000000 in
set_option maxRecDepth 100000 in
theorem div64_at (x : Nat) (hx : x < 18446744073709551616) (w : World) : Calls Tryz.prog 63 #[.int .u64 0, .int .u64 x, .int .u64 100] w fun e w' => e = .returned (.tuple #[.int .u64 ((x / 100 : Nat) : Int), .int .u64 ((x % 100 : Nat) : Int)]) ∧ Kept noBlock w w' := by
  have e1 : (x : Int) / 100 = ((x / 100 : Nat) : Int) := by omega
  have e2 : (x : Int).tmod 100 = ((x % 100 : Nat) : Int) := by rw [Int.tmod_eq_emod_of_nonneg (by omega)]; omega
  have e3 : IntKind.u64.wrap ((x / 100 : Nat) : Int) = ((x / 100 : Nat) : Int) := by rw [IntKind.wrap_u64]; omega
  generalize ((x / 100 : Nat) : Int) = q at *
  generalize ((x % 100 : Nat) : Int) = r at *
  go_enter Tryz.func63, Tryz.ntmps63
  go_wp2_with fail
  refine wp_region_sch (fun w' => Kept noBlock w w') (.take 0 (.take 1 (.take 2 (.take 3 (.take 4 (.take 5 (.take 6 (.take 7 .nil)))))))) (by kernel_rfl) (by kernel_rfl) (by kernel_rfl) ((Kept.refl noBlock w).drew) ?_
  repeat (first
    | (refine sch_takeE rfl rfl ?_
       apply Exists.intro
       refine ⟨fun w' hS => ?_, fun K hK => ?_⟩
       · (clear hS
          unfold takesAt; go_simp; rfl)
       go_simp
       refine hK _ ?_
       clear hK K))
  refine sch_nil (NoPanic.normal ?_)
  go_wp2
  go_ret2
  exact ⟨rfl, (Kept.refl noBlock w).drew⟩
set_option maxHeartbeats 2000000 in
set_option maxRecDepth 100000 in
/-- Of a wait that is no more than 2^56. -/
theorem boDelay_at (base most n percent draw : Nat) (hb : base < 18446744073709551616) (hm : most ≤ 72057594037927936) (hn : n < 18446744073709551616) (hp : percent < 18446744073709551616) (hdr : draw < 18446744073709551616) (w : World) :
    Calls Tryz.prog 43 #[.int .u64 base, .int .u64 most, .int .u64 n, .int .u64 percent, .int .u64 draw] w fun e w' => e = .returned (.int .u64 ((delayP base most n percent draw : Nat) : Int)) ∧ Kept noBlock w w' := by
  obtain ⟨p, hpp⟩ : ∃ p, p = min percent 100 := ⟨_, rfl⟩
  obtain ⟨d, hd⟩ : ∃ d, d = plainP base most n := ⟨_, rfl⟩
  have hdm : d ≤ 72057594037927936 := by rw [hd]; unfold plainP; omega
  obtain ⟨m, hmm⟩ : ∃ m, m = d * p := ⟨_, rfl⟩
  have hm1 : m ≤ 7205759403792793600 := by
    rw [hmm]
    exact Nat.le_trans (Nat.mul_le_mul hdm (show p ≤ 100 by omega)) (by decide)
  obtain ⟨s, hs⟩ : ∃ s, s = m / 100 := ⟨_, rfl⟩
  have hsd : s ≤ d := by
    have : m ≤ d * 100 := by rw [hmm]; exact Nat.mul_le_mul_left d (show p ≤ 100 by omega)
    omega
  obtain ⟨x, hx⟩ : ∃ x, x = draw % (2 * s + 1) := ⟨_, rfl⟩
  have hxs : x ≤ 2 * s := by rw [hx]; have := Nat.mod_lt draw (show 0 < 2 * s + 1 by omega); omega
  have HR : Hid (delayP base most n percent draw = d - s + x) := Lib.hid (by
    unfold delayP
    simp only [← hd, ← hpp, ← hmm, ← hs]
    rw [if_pos (show s < 9223372036854775808 by omega), ← hx, if_pos (by omega)])
  have HP := Lib.hid (boPlain_at base most n hb (by omega) hn w)
  rw [← hd] at HP
  have HM := Lib.hid (Mul64_at d p (by omega) (by omega) w)
  rw [← hmm] at HM
  have em : m / 18446744073709551616 = 0 := Nat.div_eq_of_lt (by omega)
  have em2 : m % 18446744073709551616 = m := Nat.mod_eq_of_lt (by omega)
  rw [em, em2] at HM
  have HDV := Lib.hid (div64_at m (by omega) w)
  rw [← hs] at HDV
  generalize ((m % 100 : Nat) : Int) = rr at *
  have ed : (d : Int) - (s : Int) = ((d - s : Nat) : Int) := by omega
  have HA : Hid (∀ W, (callFunc 64 #[.int .u64 ((d : Int) - (s : Int)), .int .u64 x, .int .u64 0]).run Tryz.prog W = .ok (.value (.tuple #[.int .u64 ((d - s + x : Nat) : Int), .int .u64 0])) W) := Lib.hid fun W => by
    rw [ed, add64_run (d - s) x (by omega) (by omega) W]
    have h1 : (((d - s : Nat) : Int) + (x : Int) + 0) % 18446744073709551616 = ((d - s + x : Nat) : Int) := by omega
    have h2 : (((d - s : Nat) : Int) + (x : Int) + 0) / 18446744073709551616 = 0 := by omega
    rw [h1, h2]
  have HX : Hid ((draw : Int).tmod (2 * (s : Int) + 1) = (x : Int)) := Lib.hid (by
    rw [Int.tmod_eq_emod_of_nonneg (by omega), hx]
    have : (2 * (s : Int) + 1) = ((2 * s + 1 : Nat) : Int) := by omega
    rw [this, ← Int.natCast_emod])
  have hs62 : (s : Int) ≤ 9223372036854775807 := by omega
  clear hd hmm hs hx em em2 ed
  have htm := HX.out
  by_cases h100 : percent ≤ 100
  · obtain rfl : p = percent := by omega
    clear hpp
    go_enter Tryz.func43, Tryz.ntmps43
    go_wp2_with fail
    go_at_call 61
    refine HP.out.mono ?_
    rintro e w1 ⟨rfl, hw1⟩
    subst hw1
    go_wp2_with fail
    go_at_call 62
    refine HM.out.mono ?_
    rintro e w2 ⟨rfl, hw2⟩
    subst hw2
    go_wp2_with fail
    go_at_call 63
    refine HDV.out.mono ?_
    rintro e w3 ⟨rfl, hk3⟩
    have HK3 := Lib.hid hk3
    have ha := HA.out w3
    clear hk3
    go_wp2
    go_ret
    rw [HR.out]
    exact ⟨rfl, HK3.out⟩
  · obtain rfl : p = 100 := by omega
    clear hpp
    go_enter Tryz.func43, Tryz.ntmps43
    go_wp2_with fail
    go_at_call 61
    refine HP.out.mono ?_
    rintro e w1 ⟨rfl, hw1⟩
    subst hw1
    go_wp2_with fail
    go_at_call 62
    refine HM.out.mono ?_
    rintro e w2 ⟨rfl, hw2⟩
    subst hw2
    go_wp2_with fail
    go_at_call 63
    refine HDV.out.mono ?_
    rintro e w3 ⟨rfl, hk3⟩
    have HK3 := Lib.hid hk3
    have ha := HA.out w3
    clear hk3
    go_wp2
    go_ret
    rw [HR.out]
    exact ⟨rfl, HK3.out⟩
set_option maxHeartbeats 2000000 in
set_option maxRecDepth 100000 in
/-- The reference's, of the same. -/
theorem r16Delay_at (base most n percent draw : Nat) (hb : base < 18446744073709551616) (hm : most ≤ 72057594037927936) (hn : n < 18446744073709551616) (hp : percent < 18446744073709551616) (hdr : draw < 18446744073709551616) (w : World) :
    Calls Tryz.prog 12 #[.int .u64 base, .int .u64 most, .int .u64 n, .int .u64 percent, .int .u64 draw] w fun e w' => e = .returned (.int .u64 ((delayP base most n percent draw : Nat) : Int)) ∧ Kept noBlock w w' := by
  obtain ⟨p, hpp⟩ : ∃ p, p = min percent 100 := ⟨_, rfl⟩
  obtain ⟨d, hd⟩ : ∃ d, d = plainP base most n := ⟨_, rfl⟩
  have hdm : d ≤ 72057594037927936 := by rw [hd]; unfold plainP; omega
  obtain ⟨m, hmm⟩ : ∃ m, m = d * p := ⟨_, rfl⟩
  have hm1 : m ≤ 7205759403792793600 := by
    rw [hmm]
    exact Nat.le_trans (Nat.mul_le_mul hdm (show p ≤ 100 by omega)) (by decide)
  obtain ⟨s, hs⟩ : ∃ s, s = m / 100 := ⟨_, rfl⟩
  have hsd : s ≤ d := by
    have : m ≤ d * 100 := by rw [hmm]; exact Nat.mul_le_mul_left d (show p ≤ 100 by omega)
    omega
  obtain ⟨x, hx⟩ : ∃ x, x = draw % (2 * s + 1) := ⟨_, rfl⟩
  have hxs : x ≤ 2 * s := by rw [hx]; have := Nat.mod_lt draw (show 0 < 2 * s + 1 by omega); omega
  have HR : Hid (delayP base most n percent draw = d - s + x) := Lib.hid (by
    unfold delayP
    simp only [← hd, ← hpp, ← hmm, ← hs]
    rw [if_pos (show s < 9223372036854775808 by omega), ← hx, if_pos (by omega)])
  have HP := Lib.hid (fun w => r16Plain_at base most n hb (by omega) hn w)
  rw [← hd] at HP
  have HM := Lib.hid (fun w => r16Part_at d p (by omega) (by omega) w)
  rw [← hmm, ← hs] at HM
  have HX : Hid ((draw : Int).tmod ((s : Int) + (s : Int) + 1) = (x : Int)) := Lib.hid (by
    rw [Int.tmod_eq_emod_of_nonneg (by omega), hx]
    have : ((s : Int) + (s : Int) + 1) = ((2 * s + 1 : Nat) : Int) := by omega
    rw [this, ← Int.natCast_emod])
  have hs62 : (s : Int) < 9223372036854775808 := by omega
  have ed : (d : Int) - (s : Int) = ((d - s : Nat) : Int) := by omega
  obtain ⟨f, hf⟩ : ∃ f, f = d - s := ⟨_, rfl⟩
  rw [← hf] at ed HR
  have hfb : f ≤ 72057594037927936 := by omega
  have hxb : x ≤ 144115188075855872 := by omega
  clear hd hmm hs hx hf hxs
  have htm := HX.out
  have hz0 : (0 : Int) ≤ (s : Int) := by omega
  have hz1 : (s : Int) ≤ (d : Int) := by omega
  clear hsd
  generalize (s : Int) = z at *
  by_cases h100 : percent ≤ 100
  · obtain rfl : p = percent := by omega
    clear hpp
    go_enter Tryz.func12, Tryz.ntmps12
    go_wp2_with fail
    go_at_call 25
    refine (HP.out w).mono ?_
    rintro e w1 ⟨rfl, hw1⟩
    subst hw1
    go_wp2_with fail
    go_at_call 26
    refine (HM.out w).mono ?_
    rintro e w2 ⟨rfl, hw2⟩
    subst hw2
    go_wp2
    go_ret
    rw [HR.out]
    rw [Int.natCast_add]
    exact ⟨rfl, Kept.refl _ _⟩
  · obtain rfl : p = 100 := by omega
    clear hpp
    go_enter Tryz.func12, Tryz.ntmps12
    go_wp2_with fail
    go_at_call 25
    refine (HP.out w).mono ?_
    rintro e w1 ⟨rfl, hw1⟩
    subst hw1
    go_wp2_with fail
    go_at_call 26
    refine (HM.out w).mono ?_
    rintro e w2 ⟨rfl, hw2⟩
    subst hw2
    go_wp2
    go_ret
    rw [HR.out]
    rw [Int.natCast_add]
    exact ⟨rfl, Kept.refl _ _⟩
end Go.Proofs.YtfnjoceolcdeoaaGreatDoor
namespace Go.Proofs.YtfnjoceolcdeoaaGreatDoor
set_option linter.unusedVariables false
open Go.RowKit

section
variable {P : Program} {ops : Array Oper} {S : World → Prop} {Q : Exit → Act → World → Prop} {Z : List Nat}

/-- Any order; only operations that are not of Z have to bring S back. -/
def wpAnyZ (P : Program) (ops : Array Oper) (Q : Exit → Act → World → Prop) (S : World → Prop) (Z : List Nat) : Nat → Array Bool → Act → World → Prop
  | 0, listed, a, w => Region.ready .any ops listed = [] ∧ Q .normal a w
  | n + 1, listed, a, w => (Region.ready .any ops listed = [] → Q .normal a w) ∧ ∀ i ∈ Region.ready .any ops listed, wpOp P ops Q i (fun a' w' => (i ∈ Z ∨ S w') ∧ wpAnyZ P ops Q S Z n (listed.setIfInBounds i true) a' w') a w

theorem any_of_Z : ∀ (n : Nat) (listed : Array Bool) (a : Act) (w : World), wpAnyZ P ops Q S Z n listed a w → wpAny P .any ops Q n listed a w
  | 0, _, _, _, h => h
  | n + 1, _, _, _, h => ⟨h.1, fun i hi => wpOp_mono (fun a' w' hh => any_of_Z n _ a' w' hh.2) (h.2 i hi)⟩

/-- Does each operation of Z wait for i? -/
def waitsB (ops : Array Oper) (Z : List Nat) (i : Nat) : Bool := Z.all fun z => match ops[z]? with
  | some o => o.after.any fun e => Region.binds .any e && e.on == i
  | none => false

theorem takeZ {i : Nat} {oi : Oper} {v : Value} (hi : ops[i]? = some oi) (hsel : ∀ (j : Nat) (o : Oper) cs b, ops[j]? = some o → o.op ≠ .select cs b) (hQ : ∀ c a w, Q (.panic c) (a.put oi.dst v) w → Q (.panic c) a w) (hz : waitsB ops Z i = true) :
    ∀ (n : Nat) (listed : Array Bool) (a : Act) (w : World), (∀ j oj, ops[j]? = some oj → j ≠ i → listed.getD j true = false → (∀ e ∈ oj.after, Region.binds .any e = true → e.on ≠ i) → oi.apart ops oj = true) →
      i ∈ Region.ready .any ops listed → YieldsIf P ops S oi v a → S w → wpAnyZ P ops Q S Z n (listed.setIfInBounds i true) (a.put oi.dst v) w → wpAnyZ P ops Q S Z (n + 1) listed a w := by
  intro n
  induction n with
  | zero =>
    intro listed a w _ hr hy hS H
    constructor
    · intro h0; rw [h0] at hr; cases hr
    · intro j hj
      by_cases e : j = i
      · subst e; exact hy.wpOp hi hS ⟨.inr hS, H⟩
      · have h0 := ready_mono hj e
        rw [H.1] at h0; cases h0
  | succ n ih =>
    intro listed a w hap hr hy hS H
    constructor
    · intro h0; rw [h0] at hr; cases hr
    · intro j hj
      by_cases e : j = i
      · subst e; exact hy.wpOp hi hS ⟨.inr hS, H⟩
      · obtain ⟨hju, oj, hoj, hbound⟩ := mem_ready.1 hj
        have hiu := (mem_ready.1 hr).1
        have hfar : ∀ e' ∈ oj.after, Region.binds .any e' = true → e'.on ≠ i := by
          intro e' he' hb heq
          have h1 := hbound e' he' hb
          rw [heq] at h1
          by_cases hlt : i < listed.size
          · simp [hlt] at hiu h1
            rw [hiu] at h1; cases h1
          · simp [Array.getElem?_eq_none (Nat.le_of_not_lt hlt)] at h1
        have hjZ : ¬ j ∈ Z := by
          intro hjz
          unfold waitsB at hz
          have := List.all_eq_true.1 hz j hjz
          simp only [hoj, Array.any_eq_true', Bool.and_eq_true, beq_iff_eq] at this
          obtain ⟨e', he', hb, hon⟩ := this
          exact hfar e' he' hb hon
        have step := wpOp_putIf hoj (hap j oj hoj e hju hfar) (fun cs b => hsel i oi cs b hi) (fun cs b => hsel j oj cs b hoj) hQ hy (H.2 j (ready_mono hj e))
        refine wpOp_mono (fun a' w' h3 => ?_) step
        obtain ⟨hy', hSZ, hrest⟩ := h3
        have hS' : S w' := hSZ.resolve_left hjZ
        refine ⟨.inr hS', ih (listed.setIfInBounds j true) a' w' (fun k ok hk hki hun hno => hap k ok hk hki ?_ hno) (ready_mono hr (Ne.symm e)) hy' hS' ?_⟩
        · by_cases hjk : j = k
          · subst hjk; exact hju
          · rw [getD_set_ne true hjk] at hun; exact hun
        · rw [Array.setIfInBounds_comm _ _ e]; exact hrest

/-- The check of an order that ends in k; and of the operations behind it. -/
def schZB (ops : Array Oper) (Z : List Nat) (k : Array Bool → Bool) : Sch → Array Bool → Bool
  | .nil, listed => k listed
  | .take i r, listed => (Region.ready .any ops listed).contains i && Region.free .any ops listed i && waitsB ops Z i && schZB ops Z k r (listed.setIfInBounds i true)
  | .one i r, listed => (Region.ready .any ops listed == [i]) && schZB ops Z k r (listed.setIfInBounds i true)
  | .two i r j s, listed => (Region.ready .any ops listed == [i, j]) && schZB ops Z k r (listed.setIfInBounds i true) && schZB ops Z k s (listed.setIfInBounds j true) && r.len == s.len
def tailB (ops : Array Oper) : List Nat → Array Bool → Bool
  | [], listed => (Region.ready .any ops listed).isEmpty
  | i :: r, listed => (Region.ready .any ops listed == [i]) && tailB ops r (listed.setIfInBounds i true)

def wpSchZ (P : Program) (ops : Array Oper) (S : World → Prop) (Q : Exit → Act → World → Prop) (K : Act → World → Prop) : Sch → Act → World → Prop
  | .nil, a, w => K a w
  | .take i r, a, w => ∃ o, ops[i]? = some o ∧ ((Region.wanted o (yielded ops a.tmps) = false ∧ wpSchZ P ops S Q K r (a.put o.dst undef) w) ∨ (Region.wanted o (yielded ops a.tmps) = true ∧ ∃ v, (∀ w', S w' → takesAt P o a w' v) ∧ wpSchZ P ops S Q K r (a.put o.dst v) w))
  | .one i r, a, w => doOp P ops S Q i (wpSchZ P ops S Q K r) a w
  | .two i r j s, a, w => doOp P ops S Q i (wpSchZ P ops S Q K r) a w ∧ doOp P ops S Q j (wpSchZ P ops S Q K s) a w
def wpTail (P : Program) (ops : Array Oper) (Q : Exit → Act → World → Prop) : List Nat → Act → World → Prop
  | [], a, w => Q .normal a w
  | i :: r, a, w => doOp P ops (fun _ => True) Q i (wpTail P ops Q r) a w

theorem wpOp_doZ {S' : World → Prop} {n : Nat} {K : Act → World → Prop} {listed : Array Bool} {i : Nat} {a : Act} {w : World} (hi0 : S' w) (h : doOp P ops S' Q i K a w) (hK : ∀ a w, S' w → K a w → (i ∈ Z ∨ S w) ∧ wpAnyZ P ops Q S Z n (listed.setIfInBounds i true) a w) :
    wpOp P ops Q i (fun a w => (i ∈ Z ∨ S w) ∧ wpAnyZ P ops Q S Z n (listed.setIfInBounds i true) a w) a w := by
  obtain ⟨o, hi, h⟩ := h
  unfold wpOp
  simp only [hi]
  rcases h with ⟨hw, h⟩ | ⟨hw, h⟩
  · simp only [hw, Bool.false_eq_true, if_false]
    exact hK _ _ hi0 h
  · simp only [hw, if_true]
    exact .inl (Oper.wp_mono (fun a' w' h' => hK _ _ h'.1 h'.2) h)

theorem tail_sound : ∀ (l : List Nat) (listed : Array Bool) (a : Act) (w : World), (∀ i ∈ l, i ∈ Z) → tailB ops l listed = true → wpTail P ops Q l a w → wpAnyZ P ops Q S Z l.length listed a w := by
  intro l
  induction l with
  | nil =>
    intro listed a w _ hB h
    exact ⟨List.isEmpty_iff.1 hB, h⟩
  | cons i r ih =>
    intro listed a w hZ hB h
    simp only [tailB, Bool.and_eq_true, beq_iff_eq] at hB
    refine ⟨fun h0 => by rw [hB.1] at h0; simp at h0, fun j hj => ?_⟩
    rw [hB.1] at hj
    obtain rfl : j = i := by simpa using hj
    exact wpOp_doZ (S' := fun _ => True) trivial h fun a w _ hK => ⟨.inl (hZ j (.head _)), ih _ _ _ (fun k hk => hZ k (.tail _ hk)) hB.2 hK⟩

theorem schZ_sound (hs : Region.noSelect ops = true) (hQ : ∀ (d : Option Tmp) v c a w, Q (.panic c) (a.put d v) w → Q (.panic c) a w) {k : Array Bool → Bool} {m : Nat} {K : Act → World → Prop} (hk : ∀ listed a w, k listed = true → S w → K a w → wpAnyZ P ops Q S Z m listed a w) :
    ∀ (l : Sch) (listed : Array Bool) (a : Act) (w : World), schZB ops Z k l listed = true → S w → wpSchZ P ops S Q K l a w → wpAnyZ P ops Q S Z (l.len + m) listed a w := by
  intro l
  induction l with
  | nil =>
    intro listed a w hB hS h
    rw [show Sch.nil.len + m = m from Nat.zero_add m]
    exact hk _ _ _ hB hS h
  | take i r ih =>
    intro listed a w hB hS h
    obtain ⟨o, hi, h⟩ := h
    simp only [schZB, Bool.and_eq_true] at hB
    obtain ⟨⟨⟨hr, hf⟩, hw⟩, hB⟩ := hB
    rw [show (Sch.take i r).len + m = r.len + m + 1 by simp only [Sch.len]; omega]
    rcases h with ⟨hwn, h⟩ | ⟨hwn, v, hv, h⟩
    · exact takeZ hi (Region.noSelect_spec hs) (hQ _ _) hw _ _ _ _ (Region.free_spec hi hf) (by simpa using hr) (.inr ⟨hwn, rfl⟩) hS (ih _ _ _ hB hS h)
    · exact takeZ hi (Region.noSelect_spec hs) (hQ _ _) hw _ _ _ _ (Region.free_spec hi hf) (by simpa using hr) (.inl ⟨hwn, hv⟩) hS (ih _ _ _ hB hS h)
  | one i r ih =>
    intro listed a w hB hS h
    simp only [schZB, Bool.and_eq_true, beq_iff_eq] at hB
    obtain ⟨hr, hB⟩ := hB
    rw [show (Sch.one i r).len + m = r.len + m + 1 by simp only [Sch.len]; omega]
    refine ⟨fun h0 => by rw [hr] at h0; simp at h0, fun j hj => ?_⟩
    rw [hr] at hj
    obtain rfl : j = i := by simpa using hj
    exact wpOp_doZ hS h fun a w hS hK => ⟨.inr hS, ih _ _ _ hB hS hK⟩
  | two i r j s ih1 ih2 =>
    intro listed a w hB hS h
    simp only [schZB, Bool.and_eq_true, beq_iff_eq] at hB
    obtain ⟨⟨⟨hr, hB1⟩, hB2⟩, hl⟩ := hB
    rw [show (Sch.two i r j s).len + m = r.len + m + 1 by simp only [Sch.len]; omega]
    refine ⟨fun h0 => by rw [hr] at h0; simp at h0, fun q hq => ?_⟩
    rw [hr] at hq
    simp only [List.mem_cons, List.not_mem_nil, or_false] at hq
    rcases hq with rfl | rfl
    · exact wpOp_doZ hS h.1 fun a w hS hK => ⟨.inr hS, ih1 _ _ _ hB1 hS hK⟩
    · exact wpOp_doZ hS h.2 fun a w hS hK => ⟨.inr hS, by have := ih2 _ _ _ hB2 hS hK; rw [← hl] at this; exact this⟩

/-- The law: an order under S, then the operations of Z, in order, without it. -/
theorem wp_region_schZ {id : Nat} {a : Act} {w : World} (S : World → Prop) (l : Sch) (Z : List Nat) (hm : P.follows .mixedOrders = true) (hs : Region.noSelect ops = true) (hB : (l.len + Z.length == ops.size && schZB ops Z (tailB ops Z) l (Array.replicate ops.size false)) = true)
    (hS : S w.drew) (h : wpSchZ P ops S (NoPanic Q) (wpTail P ops (NoPanic Q) Z) l a w.drew) : (Code.region id ops true).wp P Q a w := by
  refine wp_region_noPanic (wp_region_any hm (any_of_Z (S := S) (Z := Z) _ _ _ _ ?_))
  simp only [Bool.and_eq_true, beq_iff_eq] at hB
  have := schZ_sound (P := P) (S := S) (Q := NoPanic Q) (Z := Z) hs (fun _ _ _ _ _ h => h) (k := tailB ops Z) (m := Z.length) (K := wpTail P ops (NoPanic Q) Z) (fun listed a w hB _ hK => tail_sound Z listed a w (fun _ h => h) hB hK) l _ a w.drew hB.2 hS h
  rw [hB.1] at this
  exact this

theorem schZ_takeE {K0 : Act → World → Prop} {i : Nat} {r : Sch} {a : Act} {w : World} {o : Oper} (hi : ops[i]? = some o) (hw : Region.wanted o (yielded ops a.tmps) = true)
    (h : ∃ v, (∀ w', S w' → takesAt P o a w' v) ∧ ∀ K : Act → Prop, (∀ a, wpSchZ P ops S Q K0 r a w → K a) → K (a.put o.dst v)) : wpSchZ P ops S Q K0 (.take i r) a w := by
  obtain ⟨v, h1, h2⟩ := h
  exact ⟨o, hi, .inr ⟨hw, v, h1, h2 _ fun _ h => h⟩⟩
theorem schZ_doK {K0 : Act → World → Prop} {i : Nat} {r : Sch} {a : Act} {w : World} {o : Oper} (hi : ops[i]? = some o) (hw : Region.wanted o (yielded ops a.tmps) = true)
    (h : ∀ K : Act → World → Prop, (∀ a w, S w → wpSchZ P ops S Q K0 r a w → K a w) → o.wp P a w K Q) : wpSchZ P ops S Q K0 (.one i r) a w := do_doK hi hw h
theorem schZ_nil {K0 : Act → World → Prop} {a : Act} {w : World} (h : K0 a w) : wpSchZ P ops S Q K0 .nil a w := h
theorem tail_doK {i : Nat} {r : List Nat} {a : Act} {w : World} {o : Oper} (hi : ops[i]? = some o) (hw : Region.wanted o (yielded ops a.tmps) = true)
    (h : ∀ K : Act → World → Prop, (∀ a w, wpTail P ops Q r a w → K a w) → o.wp P a w K Q) : wpTail P ops Q (i :: r) a w := do_doK hi hw fun K hK => h K fun a w hT => hK a w trivial hT
theorem tail_nil {a : Act} {w : World} (h : Q .normal a w) : wpTail P ops Q [] a w := h
end
end Go.Proofs.YtfnjoceolcdeoaaGreatDoor

/- A region that draws its order, where several operations that make memory may come up in any order: each is proved once, over whatever came of the others. No program is named. -/
import Derived.Test.YtfnjoceolcdeoaaGreatDoorMg11
namespace Go.Proofs.YtfnjoceolcdeoaaGreatDoor
set_option linter.unusedVariables false
open Go.RowKit

/-- The check that a set M of operations is carried out next, in whatever order; 'pre i' came up ahead of i. -/
def mixB (ops : Array Oper) (pre : Nat → List Nat) (k : Array Bool → Bool) : Nat → List Nat → Array Bool → Bool
  | 0, M, listed => M.isEmpty && k listed
  | n + 1, M, listed => !(Region.ready .any ops listed).isEmpty && (Region.ready .any ops listed).all fun i => M.contains i && (pre i).all (fun j => !M.contains j) && mixB ops pre k n (M.erase i) (listed.setIfInBounds i true)

def updV (val : Nat → Value) (i : Nat) (v : Value) : Nat → Value := fun k => if k = i then v else val k

section
variable {P : Program} {ops : Array Oper} {S : World → Prop} {Q : Exit → Act → World → Prop}

/-- The steps of a mix: over whatever the others yielded. -/
def MixSteps (P : Program) (ops : Array Oper) (S : World → Prop) (Q : Exit → Act → World → Prop) (pre : Nat → List Nat) (M : List Nat) (A : (Nat → Value) → Act) (F : Nat → Value → World → Prop) : Prop :=
  ∀ i ∈ M, ∀ (val : Nat → Value) (w : World), S w → (∀ j ∈ pre i, F j (val j) w) →
    ∃ o, ops[i]? = some o ∧ Region.wanted o (yielded ops (A val).tmps) = true ∧ o.wp P (A val) w (fun a' w' => S w' ∧ ∃ v, a' = A (updV val i v) ∧ F i v w' ∧ ∀ j ∈ M, ∀ u, F j u w → F j u w') Q

theorem mix_sound {pre : Nat → List Nat} {M0 : List Nat} {A : (Nat → Value) → Act} {F : Nat → Value → World → Prop} (hsteps : MixSteps P ops S Q pre M0 A F) {k : Array Bool → Bool} {m : Nat}
    (hpre : ∀ i ∈ M0, ∀ j ∈ pre i, j ∈ M0) (hk : ∀ listed val w, k listed = true → S w → (∀ j ∈ M0, F j (val j) w) → wpAnyH P .any ops Q S m listed (A val) w) :
    ∀ (n : Nat) (M : List Nat) (listed : Array Bool) (val : Nat → Value) (w : World), mixB ops pre k n M listed = true → M.Nodup → (∀ i ∈ M, i ∈ M0) → S w → (∀ j ∈ M0, j ∉ M → F j (val j) w) → wpAnyH P .any ops Q S (n + m) listed (A val) w := by
  intro n
  induction n with
  | zero =>
    intro M listed val w hB _ _ hS hF
    simp only [mixB, Bool.and_eq_true, List.isEmpty_iff] at hB
    obtain ⟨rfl, hB⟩ := hB
    rw [Nat.zero_add]
    exact hk _ _ _ hB hS fun j hj => hF j hj (by simp)
  | succ n ih =>
    intro M listed val w hB hnd hM hS hF
    simp only [mixB, Bool.and_eq_true, List.all_eq_true] at hB
    obtain ⟨hne, hall⟩ := hB
    rw [show n + 1 + m = n + m + 1 by omega]
    refine wpAnyH_all rfl (by intro h; rw [h] at hne; simp at hne) fun i hi => ?_
    obtain ⟨⟨hiM, hpi⟩, hB⟩ := hall i hi
    have hiM' : i ∈ M := by simpa using hiM
    obtain ⟨o, ho, hw, hwp⟩ := hsteps i (hM i hiM') val w hS fun j hj => hF j (hpre i (hM i hiM') j hj) (by have := hpi j hj; simpa using this)
    unfold wpOp
    simp only [ho, hw, if_true]
    refine .inl (Oper.wp_mono (fun a' w' h' => ?_) hwp)
    obtain ⟨hS', v, rfl, hFi, hst⟩ := h'
    refine ⟨hS', ih _ _ _ _ hB (hnd.erase i) (fun j hj => hM j (List.mem_of_mem_erase hj)) hS' fun j hj hjn => ?_⟩
    by_cases e : j = i
    · subst e
      unfold updV
      rw [if_pos rfl]
      exact hFi
    · unfold updV
      rw [if_neg e]
      exact hst j hj _ (hF j hj fun h => hjn ((List.mem_erase_of_ne e).2 h))

theorem wpAnyH_sch {l : Sch} {listed : Array Bool} {a : Act} {w : World} (hs : Region.noSelect ops = true) (hQ : ∀ (d : Option Tmp) v c a w, Q (.panic c) (a.put d v) w → Q (.panic c) a w) (hB : schB ops l listed = true) (hS : S w) (h : wpSch P ops S Q l a w) : wpAnyH P .any ops Q S l.len listed a w := wpSch_sound hs hQ l listed a w hB hS h

/-- Takes, a mix, and what is behind it. -/
def takesB (ops : Array Oper) (k : Array Bool → Bool) : List Nat → Array Bool → Bool
  | [], listed => k listed
  | i :: r, listed => (Region.ready .any ops listed).contains i && Region.free .any ops listed i && takesB ops k r (listed.setIfInBounds i true)

def wpTakes (P : Program) (ops : Array Oper) (S : World → Prop) (K : Act → World → Prop) : List Nat → Act → World → Prop
  | [], a, w => K a w
  | i :: r, a, w => ∃ o, ops[i]? = some o ∧ ((Region.wanted o (yielded ops a.tmps) = false ∧ wpTakes P ops S K r (a.put o.dst undef) w) ∨ (Region.wanted o (yielded ops a.tmps) = true ∧ ∃ v, (∀ w', S w' → takesAt P o a w' v) ∧ wpTakes P ops S K r (a.put o.dst v) w))

theorem takes_sound (hs : Region.noSelect ops = true) (hQ : ∀ (d : Option Tmp) v c a w, Q (.panic c) (a.put d v) w → Q (.panic c) a w) {k : Array Bool → Bool} {m : Nat} {K : Act → World → Prop}
    (hk : ∀ listed a w, k listed = true → S w → K a w → wpAnyH P .any ops Q S m listed a w) :
    ∀ (l : List Nat) (listed : Array Bool) (a : Act) (w : World), takesB ops k l listed = true → S w → wpTakes P ops S K l a w → wpAnyH P .any ops Q S (l.length + m) listed a w := by
  intro l
  induction l with
  | nil =>
    intro listed a w hB hS h
    simp only [List.length_nil, Nat.zero_add]
    exact hk _ _ _ hB hS h
  | cons i r ih =>
    intro listed a w hB hS h
    obtain ⟨o, hi, h⟩ := h
    simp only [takesB, Bool.and_eq_true] at hB
    obtain ⟨⟨hr, hf⟩, hB⟩ := hB
    rw [show (i :: r).length + m = r.length + m + 1 by simp only [List.length_cons]; omega]
    rcases h with ⟨hw, h⟩ | ⟨hw, v, hv, h⟩
    · exact wpAnyH_take hi hs hf hr (hQ _ _) (.inr ⟨hw, rfl⟩) hS (ih _ _ _ hB hS h)
    · exact wpAnyH_take hi hs hf hr (hQ _ _) (.inl ⟨hw, hv⟩) hS (ih _ _ _ hB hS h)

/-- A mix in the walk: the state as it stands, by the values that the mixed ones yield. -/
def wpMix (P : Program) (ops : Array Oper) (S : World → Prop) (Q : Exit → Act → World → Prop) (pre : Nat → List Nat) (M : List Nat) (l : Sch) (a : Act) (w : World) : Prop :=
  ∃ (A : (Nat → Value) → Act) (val : Nat → Value) (F : Nat → Value → World → Prop), a = A val ∧ MixSteps P ops S Q pre M A F ∧ ∀ val w, S w → (∀ j ∈ M, F j (val j) w) → wpSch P ops S Q l (A val) w

/-- The law: first takes, then the mix, then the rest. -/
theorem wp_region_mix {id : Nat} {a : Act} {w : World} (S : World → Prop) (T : List Nat) (M : List Nat) (pre : Nat → List Nat) (l : Sch) (hm : P.follows .mixedOrders = true) (hs : Region.noSelect ops = true)
    (hB : (T.length + (M.length + l.len) == ops.size && takesB ops (mixB ops pre (schB ops l) M.length M) T (Array.replicate ops.size false) && M.all (fun i => (pre i).all fun j => M.contains j) && decide M.Nodup) = true)
    (hS : S w.drew) (h : wpTakes P ops S (wpMix P ops S (NoPanic Q) pre M l) T a w.drew) : (Code.region id ops true).wp P Q a w := by
  refine wp_region_noPanic (wp_region_held (S := S) hm ?_)
  simp only [Bool.and_eq_true, beq_iff_eq, decide_eq_true_eq, List.all_eq_true] at hB
  obtain ⟨⟨⟨h1, h2⟩, h3⟩, h4⟩ := hB
  have := takes_sound (P := P) (S := S) (Q := NoPanic Q) hs (fun _ _ _ _ _ h => h) (m := M.length + l.len) (K := wpMix P ops S (NoPanic Q) pre M l) (k := mixB ops pre (schB ops l) M.length M) (fun listed a w hB hS hK => by
    obtain ⟨A, val, F, rfl, hst, hend⟩ := hK
    exact mix_sound hst (fun i hi j hj => by have := h3 i hi j hj; simpa using this) (fun listed val w hB hS hF => wpSch_sound hs (fun _ _ _ _ _ h => h) l listed _ w hB hS (hend val w hS hF)) M.length M listed val w hB h4 (fun _ h => h) hS fun j hj hn => absurd hj hn) T _ a w.drew h2 hS h
  rw [h1] at this
  exact this

theorem takes_takeE {K : Act → World → Prop} {i : Nat} {r : List Nat} {a : Act} {w : World} {o : Oper} (hi : ops[i]? = some o) (hw : Region.wanted o (yielded ops a.tmps) = true)
    (h : ∃ v, (∀ w', S w' → takesAt P o a w' v) ∧ ∀ K' : Act → Prop, (∀ a, wpTakes P ops S K r a w → K' a) → K' (a.put o.dst v)) : wpTakes P ops S K (i :: r) a w := by
  obtain ⟨v, h1, h2⟩ := h
  exact ⟨o, hi, .inr ⟨hw, v, h1, h2 _ fun _ h => h⟩⟩
theorem takes_nil {K : Act → World → Prop} {a : Act} {w : World} (h : K a w) : wpTakes P ops S K [] a w := h
theorem mix_doK {A : (Nat → Value) → Act} {K0 : Act → World → Prop} {val : Nat → Value} {w : World} {o : Oper} {i : Nat} (hi : ops[i]? = some o) (hw : Region.wanted o (yielded ops (A val).tmps) = true)
    (h : ∀ K : Act → World → Prop, (∀ a w, K0 a w → K a w) → o.wp P (A val) w K Q) : ∃ o, ops[i]? = some o ∧ Region.wanted o (yielded ops (A val).tmps) = true ∧ o.wp P (A val) w K0 Q := ⟨o, hi, hw, h _ fun _ _ h => h⟩
theorem mix_puts (ds : List (Nat × Tmp)) {pre : Nat → List Nat} {M : List Nat} {l : Sch} {a0 : Act} {w : World} (F : Nat → Value → World → Prop) (val0 : Nat → Value) (h0 : a0 = ds.foldl (fun a p => a.put (some p.2) (val0 p.1)) a0)
    (hsteps : MixSteps P ops S Q pre M (fun val => ds.foldl (fun a p => a.put (some p.2) (val p.1)) a0) F) (hrest : ∀ (val : Nat → Value) w, S w → (∀ j ∈ M, F j (val j) w) → wpSch P ops S Q l (ds.foldl (fun a p => a.put (some p.2) (val p.1)) a0) w) : wpMix P ops S Q pre M l a0 w :=
  ⟨_, val0, F, h0, hsteps, hrest⟩
theorem op_K {o : Oper} {a : Act} {w : World} {K0 : Act → World → Prop} (h : ∀ K : Act → World → Prop, (∀ a w, K0 a w → K a w) → o.wp P a w K Q) : o.wp P a w K0 Q := h _ fun _ _ h => h
end
end Go.Proofs.YtfnjoceolcdeoaaGreatDoor

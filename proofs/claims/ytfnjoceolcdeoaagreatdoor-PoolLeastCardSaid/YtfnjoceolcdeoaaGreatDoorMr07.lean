/- A region that draws its order, walked in ONE order that a program checks: an operation marked 'true' may be taken now (it may come up, nobody who could come before it touches its slots, and it yields one value in every world of S); an operation marked 'false' is the only one that may come up now. No program is named · A region that draws its order, where at one place two operations may come up: both ways are walked. No program is named. -/
import Derived.WalkKit
import Derived.OrdersHeld
import Derived.RegionTactic
import Derived.Deep.RegionHeld3
namespace Go.Proofs.YtfnjoceolcdeoaaGreatDoor
set_option linter.unusedVariables false
open Go.RowKit

/-- The check of an order. -/
def schedB (ops : Array Oper) : List (Nat × Bool) → Array Bool → Bool
  | [], listed => (Region.ready .any ops listed).isEmpty
  | (i, true) :: r, listed => (Region.ready .any ops listed).contains i && Region.free .any ops listed i && schedB ops r (listed.setIfInBounds i true)
  | (i, false) :: r, listed => (Region.ready .any ops listed == [i]) && schedB ops r (listed.setIfInBounds i true)

/-- An operation that yields one value and leaves the world: as the walk reads it. -/
def takesAt (P : Program) (o : Oper) (a : Act) (w : World) (v : Value) : Prop := (execOp a.eval o).run P w = .ok (.value v) w

section
variable {P : Program} {ops : Array Oper} {S : World → Prop} {Q : Exit → Act → World → Prop}

/-- The walk in that order. -/
def wpSched (P : Program) (ops : Array Oper) (S : World → Prop) (Q : Exit → Act → World → Prop) : List (Nat × Bool) → Act → World → Prop
  | [], a, w => Q .normal a w
  | (i, b) :: r, a, w => ∃ o, ops[i]? = some o ∧
    ((Region.wanted o (yielded ops a.tmps) = false ∧ wpSched P ops S Q r (a.put o.dst undef) w) ∨
     (Region.wanted o (yielded ops a.tmps) = true ∧ (match b with
        | true => ∃ v, (∀ w', S w' → takesAt P o a w' v) ∧ wpSched P ops S Q r (a.put o.dst v) w
        | false => o.wp P a w (fun a' w' => S w' ∧ wpSched P ops S Q r a' w') Q)))

theorem wpSched_sound (hs : Region.noSelect ops = true) (hQ : ∀ (d : Option Tmp) v c a w, Q (.panic c) (a.put d v) w → Q (.panic c) a w) :
    ∀ (l : List (Nat × Bool)) (listed : Array Bool) (a : Act) (w : World), schedB ops l listed = true → S w → wpSched P ops S Q l a w → wpAnyH P .any ops Q S l.length listed a w := by
  intro l
  induction l with
  | nil =>
    intro listed a w hB _ h
    exact ⟨List.isEmpty_iff.1 hB, h⟩
  | cons ib r ih =>
    obtain ⟨i, b⟩ := ib
    intro listed a w hB hS h
    obtain ⟨o, hi, h⟩ := h
    cases b with
    | true =>
      simp only [schedB, Bool.and_eq_true] at hB
      obtain ⟨⟨hr, hf⟩, hB⟩ := hB
      rcases h with ⟨hw, h⟩ | ⟨hw, v, hv, h⟩
      · exact wpAnyH_take hi hs hf hr (hQ _ _) (.inr ⟨hw, rfl⟩) hS (ih _ _ _ hB hS h)
      · exact wpAnyH_take hi hs hf hr (hQ _ _) (.inl ⟨hw, hv⟩) hS (ih _ _ _ hB hS h)
    | false =>
      simp only [schedB, Bool.and_eq_true, beq_iff_eq] at hB
      obtain ⟨hr, hB⟩ := hB
      refine wpAnyH_all hr (by simp) fun j hj => ?_
      obtain rfl : j = i := by simpa using hj
      unfold wpOp
      simp only [hi]
      rcases h with ⟨hw, h⟩ | ⟨hw, h⟩
      · simp only [hw, Bool.false_eq_true, if_false]
        exact ⟨hS, ih _ _ _ hB hS h⟩
      · simp only [hw, if_true]
        exact .inl (Oper.wp_mono (fun a' w' h' => ⟨h'.1, ih _ _ _ hB h'.1 h'.2⟩) h)

/-- The law. -/
theorem wp_region_sched {id : Nat} {a : Act} {w : World} (l : List (Nat × Bool)) (hm : P.follows .mixedOrders = true) (hs : Region.noSelect ops = true) (hB : (l.length == ops.size && schedB ops l (Array.replicate ops.size false)) = true)
    (hQ : ∀ (d : Option Tmp) v c a w, Q (.panic c) (a.put d v) w → Q (.panic c) a w) (hS : S w.drew) (h : wpSched P ops S Q l a w.drew) : (Code.region id ops true).wp P Q a w := by
  simp only [Bool.and_eq_true, beq_iff_eq] at hB
  refine wp_region_held (S := S) hm ?_
  have := wpSched_sound (P := P) (S := S) hs hQ l _ a w.drew hB.2 hS h
  rw [hB.1] at this
  exact this

/-- .. of a region that does not panic: whatever follows. -/
theorem wp_region_order {id : Nat} {a : Act} {w : World} (S : World → Prop) (l : List (Nat × Bool)) (hm : P.follows .mixedOrders = true) (hs : Region.noSelect ops = true) (hB : (l.length == ops.size && schedB ops l (Array.replicate ops.size false)) = true)
    (hS : S w.drew) (h : wpSched P ops S (NoPanic Q) l a w.drew) : (Code.region id ops true).wp P Q a w :=
  wp_region_noPanic (wp_region_sched l hm hs hB (fun _ _ _ _ _ h => h) hS h)

/-! The steps of the walk. 'K' stands for what follows, so that the walk does not look into it. -/
theorem sched_take {i : Nat} {r : List (Nat × Bool)} {a : Act} {w : World} {o : Oper} (hi : ops[i]? = some o) (hw : Region.wanted o (yielded ops a.tmps) = true) {v : Value} (hv : ∀ w', S w' → takesAt P o a w' v)
    (h : wpSched P ops S Q r (a.put o.dst v) w) : wpSched P ops S Q ((i, true) :: r) a w := ⟨o, hi, .inr ⟨hw, v, hv, h⟩⟩
theorem sched_skip {i : Nat} {b : Bool} {r : List (Nat × Bool)} {a : Act} {w : World} {o : Oper} (hi : ops[i]? = some o) (hw : Region.wanted o (yielded ops a.tmps) = false)
    (h : wpSched P ops S Q r (a.put o.dst undef) w) : wpSched P ops S Q ((i, b) :: r) a w := ⟨o, hi, .inl ⟨hw, h⟩⟩
theorem sched_do {i : Nat} {r : List (Nat × Bool)} {a : Act} {w : World} {o : Oper} (hi : ops[i]? = some o) (hw : Region.wanted o (yielded ops a.tmps) = true)
    (h : o.wp P a w (fun a' w' => S w' ∧ wpSched P ops S Q r a' w') Q) : wpSched P ops S Q ((i, false) :: r) a w := ⟨o, hi, .inr ⟨hw, h⟩⟩
theorem sched_takeK {i : Nat} {r : List (Nat × Bool)} {a : Act} {w : World} {o : Oper} (hi : ops[i]? = some o) (hw : Region.wanted o (yielded ops a.tmps) = true) {v : Value} (hv : ∀ w', S w' → takesAt P o a w' v)
    (h : ∀ K : Act → Prop, (∀ a, wpSched P ops S Q r a w → K a) → K (a.put o.dst v)) : wpSched P ops S Q ((i, true) :: r) a w := sched_take hi hw hv (h _ fun _ h => h)
theorem sched_takeE {i : Nat} {r : List (Nat × Bool)} {a : Act} {w : World} {o : Oper} (hi : ops[i]? = some o) (hw : Region.wanted o (yielded ops a.tmps) = true)
    (h : ∃ v, (∀ w', S w' → takesAt P o a w' v) ∧ ∀ K : Act → Prop, (∀ a, wpSched P ops S Q r a w → K a) → K (a.put o.dst v)) : wpSched P ops S Q ((i, true) :: r) a w := by
  obtain ⟨v, h1, h2⟩ := h
  exact sched_take hi hw h1 (h2 _ fun _ h => h)
theorem sched_skipK {i : Nat} {b : Bool} {r : List (Nat × Bool)} {a : Act} {w : World} {o : Oper} (hi : ops[i]? = some o) (hw : Region.wanted o (yielded ops a.tmps) = false)
    (h : ∀ K : Act → Prop, (∀ a, wpSched P ops S Q r a w → K a) → K (a.put o.dst undef)) : wpSched P ops S Q ((i, b) :: r) a w := sched_skip hi hw (h _ fun _ h => h)
theorem sched_doK {i : Nat} {r : List (Nat × Bool)} {a : Act} {w : World} {o : Oper} (hi : ops[i]? = some o) (hw : Region.wanted o (yielded ops a.tmps) = true)
    (h : ∀ K : Act → World → Prop, (∀ a w, S w → wpSched P ops S Q r a w → K a w) → o.wp P a w K Q) : wpSched P ops S Q ((i, false) :: r) a w := sched_do hi hw (h _ fun _ _ h1 h2 => ⟨h1, h2⟩)
theorem sched_nil {a : Act} {w : World} (h : Q .normal a w) : wpSched P ops S Q [] a w := h
end
#print axioms wp_region_sched
end Go.Proofs.YtfnjoceolcdeoaaGreatDoor
namespace Go.Proofs.YtfnjoceolcdeoaaGreatDoor
set_option linter.unusedVariables false
open Go.RowKit

/-- An order with branchings. -/
inductive Sch where
  | nil
  | take (i : Nat) (r : Sch)
  | one (i : Nat) (r : Sch)
  | two (i : Nat) (r : Sch) (j : Nat) (s : Sch)

def Sch.len : Sch → Nat
  | nil => 0
  | take _ r => r.len + 1
  | one _ r => r.len + 1
  | two _ r _ _ => r.len + 1

def schB (ops : Array Oper) : Sch → Array Bool → Bool
  | .nil, listed => (Region.ready .any ops listed).isEmpty
  | .take i r, listed => (Region.ready .any ops listed).contains i && Region.free .any ops listed i && schB ops r (listed.setIfInBounds i true)
  | .one i r, listed => (Region.ready .any ops listed == [i]) && schB ops r (listed.setIfInBounds i true)
  | .two i r j s, listed => (Region.ready .any ops listed == [i, j]) && schB ops r (listed.setIfInBounds i true) && schB ops s (listed.setIfInBounds j true) && r.len == s.len

section
variable {P : Program} {ops : Array Oper} {S : World → Prop} {Q : Exit → Act → World → Prop}
/-- One operation, carried out, where it is wanted. -/
def doOp (P : Program) (ops : Array Oper) (S : World → Prop) (Q : Exit → Act → World → Prop) (i : Nat) (K : Act → World → Prop) (a : Act) (w : World) : Prop :=
  ∃ o, ops[i]? = some o ∧ ((Region.wanted o (yielded ops a.tmps) = false ∧ K (a.put o.dst undef) w) ∨ (Region.wanted o (yielded ops a.tmps) = true ∧ o.wp P a w (fun a' w' => S w' ∧ K a' w') Q))

def wpSch (P : Program) (ops : Array Oper) (S : World → Prop) (Q : Exit → Act → World → Prop) : Sch → Act → World → Prop
  | .nil, a, w => Q .normal a w
  | .take i r, a, w => ∃ o, ops[i]? = some o ∧ ((Region.wanted o (yielded ops a.tmps) = false ∧ wpSch P ops S Q r (a.put o.dst undef) w) ∨ (Region.wanted o (yielded ops a.tmps) = true ∧ ∃ v, (∀ w', S w' → takesAt P o a w' v) ∧ wpSch P ops S Q r (a.put o.dst v) w))
  | .one i r, a, w => doOp P ops S Q i (wpSch P ops S Q r) a w
  | .two i r j s, a, w => doOp P ops S Q i (wpSch P ops S Q r) a w ∧ doOp P ops S Q j (wpSch P ops S Q s) a w

theorem wpOp_of_do {n : Nat} {K : Act → World → Prop} {listed : Array Bool} {i : Nat} {a : Act} {w : World} (hS : S w) (h : doOp P ops S Q i K a w) (hK : ∀ a w, S w → K a w → wpAnyH P .any ops Q S n (listed.setIfInBounds i true) a w) :
    wpOp P ops Q i (fun a w => S w ∧ wpAnyH P .any ops Q S n (listed.setIfInBounds i true) a w) a w := by
  obtain ⟨o, hi, h⟩ := h
  unfold wpOp
  simp only [hi]
  rcases h with ⟨hw, h⟩ | ⟨hw, h⟩
  · simp only [hw, Bool.false_eq_true, if_false]
    exact ⟨hS, hK _ _ hS h⟩
  · simp only [hw, if_true]
    exact .inl (Oper.wp_mono (fun a' w' h' => ⟨h'.1, hK _ _ h'.1 h'.2⟩) h)

theorem wpSch_sound (hs : Region.noSelect ops = true) (hQ : ∀ (d : Option Tmp) v c a w, Q (.panic c) (a.put d v) w → Q (.panic c) a w) :
    ∀ (l : Sch) (listed : Array Bool) (a : Act) (w : World), schB ops l listed = true → S w → wpSch P ops S Q l a w → wpAnyH P .any ops Q S l.len listed a w := by
  intro l
  induction l with
  | nil =>
    intro listed a w hB _ h
    exact ⟨List.isEmpty_iff.1 hB, h⟩
  | take i r ih =>
    intro listed a w hB hS h
    obtain ⟨o, hi, h⟩ := h
    simp only [schB, Bool.and_eq_true] at hB
    obtain ⟨⟨hr, hf⟩, hB⟩ := hB
    rcases h with ⟨hw, h⟩ | ⟨hw, v, hv, h⟩
    · exact wpAnyH_take hi hs hf hr (hQ _ _) (.inr ⟨hw, rfl⟩) hS (ih _ _ _ hB hS h)
    · exact wpAnyH_take hi hs hf hr (hQ _ _) (.inl ⟨hw, hv⟩) hS (ih _ _ _ hB hS h)
  | one i r ih =>
    intro listed a w hB hS h
    simp only [schB, Bool.and_eq_true, beq_iff_eq] at hB
    obtain ⟨hr, hB⟩ := hB
    refine wpAnyH_all hr (by simp) fun j hj => ?_
    obtain rfl : j = i := by simpa using hj
    exact wpOp_of_do hS h fun a w hS h => ih _ _ _ hB hS h
  | two i r j s ih1 ih2 =>
    intro listed a w hB hS h
    simp only [schB, Bool.and_eq_true, beq_iff_eq] at hB
    obtain ⟨⟨⟨hr, hB1⟩, hB2⟩, hl⟩ := hB
    refine wpAnyH_all hr (by simp) fun k hk => ?_
    simp only [List.mem_cons, List.not_mem_nil, or_false] at hk
    rcases hk with rfl | rfl
    · exact wpOp_of_do hS h.1 fun a w hS h => ih1 _ _ _ hB1 hS h
    · exact wpOp_of_do hS h.2 fun a w hS h => by have := ih2 _ _ _ hB2 hS h; rw [← hl] at this; exact this

theorem wp_region_sch {id : Nat} {a : Act} {w : World} (S : World → Prop) (l : Sch) (hm : P.follows .mixedOrders = true) (hs : Region.noSelect ops = true) (hB : (l.len == ops.size && schB ops l (Array.replicate ops.size false)) = true)
    (hS : S w.drew) (h : wpSch P ops S (NoPanic Q) l a w.drew) : (Code.region id ops true).wp P Q a w := by
  refine wp_region_noPanic (wp_region_held (S := S) hm ?_)
  simp only [Bool.and_eq_true, beq_iff_eq] at hB
  have := wpSch_sound (P := P) (S := S) hs (fun _ _ _ _ _ h => h) l _ a w.drew hB.2 hS h
  rw [hB.1] at this
  exact this

theorem sch_takeE {i : Nat} {r : Sch} {a : Act} {w : World} {o : Oper} (hi : ops[i]? = some o) (hw : Region.wanted o (yielded ops a.tmps) = true)
    (h : ∃ v, (∀ w', S w' → takesAt P o a w' v) ∧ ∀ K : Act → Prop, (∀ a, wpSch P ops S Q r a w → K a) → K (a.put o.dst v)) : wpSch P ops S Q (.take i r) a w := by
  obtain ⟨v, h1, h2⟩ := h
  exact ⟨o, hi, .inr ⟨hw, v, h1, h2 _ fun _ h => h⟩⟩
theorem do_doK {K0 : Act → World → Prop} {i : Nat} {a : Act} {w : World} {o : Oper} (hi : ops[i]? = some o) (hw : Region.wanted o (yielded ops a.tmps) = true)
    (h : ∀ K : Act → World → Prop, (∀ a w, S w → K0 a w → K a w) → o.wp P a w K Q) : doOp P ops S Q i K0 a w := ⟨o, hi, .inr ⟨hw, h _ fun _ _ h1 h2 => ⟨h1, h2⟩⟩⟩
theorem sch_doK {i : Nat} {r : Sch} {a : Act} {w : World} {o : Oper} (hi : ops[i]? = some o) (hw : Region.wanted o (yielded ops a.tmps) = true)
    (h : ∀ K : Act → World → Prop, (∀ a w, S w → wpSch P ops S Q r a w → K a w) → o.wp P a w K Q) : wpSch P ops S Q (.one i r) a w := do_doK hi hw h
theorem sch_two {i : Nat} {r : Sch} {j : Nat} {s : Sch} {a : Act} {w : World} (h1 : doOp P ops S Q i (wpSch P ops S Q r) a w) (h2 : doOp P ops S Q j (wpSch P ops S Q s) a w) : wpSch P ops S Q (.two i r j s) a w := ⟨h1, h2⟩
theorem sch_nil {a : Act} {w : World} (h : Q .normal a w) : wpSch P ops S Q .nil a w := h
end
end Go.Proofs.YtfnjoceolcdeoaaGreatDoor

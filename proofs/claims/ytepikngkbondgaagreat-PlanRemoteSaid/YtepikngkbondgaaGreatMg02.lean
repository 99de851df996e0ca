/- slices.SortFunc at a ring's places: an own row of them · A region that draws its order, walked in ONE order that a program checks: an operation marked 'true' may be taken now (it may come up, nobody who could come before it touches its slots, and it yields one value in every world of S); an operation marked 'false' is the only one that may come up now. No program is named · A region that draws its order, where at one place two operations may come up: both ways are walked. No program is named · ring.New: a copy, sorted; refused where a host has no name, or a token is there twice · slices.CompactFunc at a ring's places: shorter where a token is there twice · slices.CompactFunc at a ring's places, walked · ring.New · Texts: the comparison by bytes · hosts, plainly: hosts by rising names; what a refresh makes of them; how far one is; their ring's places. No program is named · hosts, plainly: how far one is; the places of the ring; what is new, what is gone. No program is named · hosts: Refresh's first loop: what stands behind i of its rounds (plain law) · Several rows of one's own: an append to one leaves the others as they are · map[string]bool · A map as a list of pairs: reading and writing. No program is named · hosts: the picture of a table in the heap: its block, its map, its hosts' token rows; what is the table's own. -/
import Derived.Test.YtepikngkbondgaaGreatMg01
import Derived.Test.YtepikngkbondgaaGreatRgShelf
import Derived.WalkKit
import Derived.OrdersHeld
import Derived.RegionTactic
import Derived.Deep.RegionHeld3
import Derived.Deep.LoopGhost
import Derived.Laws.OwnMore
import Derived.Lib.SliceRun
import Derived.Laws.StructEq
namespace Go.Proofs.YtepikngkbondgaaGreat
set_option linter.unusedVariables false
open Go.RowKit Go.Sort Go.Shelf

theorem flatK_list {α : Type} [Inhabited α] {enc : α → List Value} {k : Nat} (hk : ∀ x, (enc x).length = k) (l : List α) : (flatK enc k l.toArray).toList = l.flatMap enc := by
  apply List.ext_getElem?
  intro t
  have hfl : (l.flatMap enc).length = l.length * k := flat_len hk l
  by_cases ht : t < l.length * k
  · have k0 : 0 < k := by rcases Nat.eq_zero_or_pos k with h | h; · subst h; simp at ht
                          · exact h
    have hi : t / k < l.length := (Nat.div_lt_iff_lt_mul k0).2 ht
    have hj : t % k < k := Nat.mod_lt _ k0
    have h1 := flat_get hk l (t / k) (t % k) l[t / k] (List.getElem?_eq_getElem hi) hj
    rw [show t / k * k + t % k = t by rw [Nat.mul_comm]; exact Nat.div_add_mod t k] at h1
    rw [h1]
    have h2 : (flatK enc k l.toArray).toList.length = l.length * k := by simp
    rw [List.getElem?_eq_getElem (by rw [h2]; exact ht), List.getElem?_eq_getElem (by rw [hk]; exact hj)]
    have h3 := get_flatK enc k l.toArray t (by simpa using ht)
    rw [getElem!_pos _ t (by simpa using ht)] at h3
    simp only [Array.getElem_toList]
    rw [h3]
    simp [getElem!_pos, hi, hk, hj]
  · rw [List.getElem?_eq_none (show (flatK enc k l.toArray).toList.length ≤ t by simp; omega), List.getElem?_eq_none (show (l.flatMap enc).length ≤ t by rw [hfl]; omega)]

section
variable {W : World} {blk m n cap : Nat} {cur : Array Value} {e : TypeId} {d : Array Value} {os : Array Obj}
theorem swv_block (h : W.heap[blk]? = some (.cells cur e (0, 0))) : (sortWorld id W blk 0 m d os).heap[blk]? = some (.cells (putCells id 0 d cur) e (0, 0)) := by
  have hlt : blk < W.heap.size := lt_of_heap h
  unfold sortWorld
  rw [heap_grow_old _ _ (by unfold putRow mapBlock; rw [Array.size_modify]; exact hlt)]
  unfold putRow mapBlock
  show (W.heap.modify blk _)[blk]? = _
  rw [Array.getElem?_modify, if_pos rfl, h]
  rfl
theorem swv_kept : Kept (fun i => i = blk) W (sortWorld id W blk 0 m d os) := by
  have hsz : (putRow id (Go.Sort.ahead W m) blk 0 d).heap.size = W.heap.size := by unfold putRow mapBlock; rw [Array.size_modify]; rfl
  refine ⟨rfl, rfl, rfl, by unfold sortWorld; rw [size_grow, hsz]; exact Nat.le_add_right _ _, fun k hk hn => ?_⟩
  unfold sortWorld
  rw [heap_grow_old _ _ (by rw [hsz]; exact hk)]
  unfold putRow mapBlock
  show (W.heap.modify blk _)[k]? = _
  rw [Array.getElem?_modify, if_neg (fun e => hn e.symm)]
end

def cmpP (a b : Pl) : Int := cmpZ a.1 b.1
theorem cmpP_lt (a b : Pl) : Go.Proofs.ltOf cmpP a b = decide (a.1 < b.1) := by
  unfold Go.Proofs.ltOf cmpP cmpZ
  by_cases h1 : a.1 < b.1
  · simp [h1]
  · by_cases h2 : b.1 < a.1 <;> simp [h1, h2]
theorem cmpP_swo : SWO (Go.Proofs.ltOf cmpP) where
  irrefl x := by rw [cmpP_lt]; simp
  trans x y z := by simp only [cmpP_lt, decide_eq_true_eq]; omega
  ntrans x y z := by simp only [cmpP_lt, decide_eq_false_iff_not]; omega

theorem PSort_at {W : World} {n₀ : Nat} {v : Value} {xs : List Pl} (hown : W.ownsRow n₀ 104 2 v xs.length (xs.flatMap pC)) (hlen : xs.length ≤ 1000000) :
    Calls Tryz.prog 64 #[v, .func (.func 65) #[] #[]] W fun e w' => e = .returned (.tuple #[]) ∧ ∃ S : List Pl, S.Perm xs ∧ S.Pairwise (fun a b => a.1 ≤ b.1) ∧ Sl w' 104 2 v xs.length (S.flatMap pC) ∧ Kept (fun i => v.ownBlock = some i) W w' := by
  have hown0 := hown
  obtain ⟨hl, hown⟩ := hown
  rcases hown with ⟨rfl, h0⟩ | ⟨g', cap, cur, rfl, hb, hh, hnc, hm, hcs, hx⟩
  · have : xs = [] := List.eq_nil_of_length_eq_zero h0
    subst this
    refine Calls.mono (AnyF.slices_SortFunc_none { Tryz.psort with } none 0 _ W) ?_
    rintro e w' ⟨rfl, rfl⟩
    exact ⟨rfl, [], .nil, .nil, SlK.nil _ _ _, Kept.refl _ _⟩
  · have hsz : xs.toArray.size = xs.length := by simp
    have hfz : (flatK pC 2 xs.toArray).size = xs.length * 2 := by simp
    have hcell : ∀ (d : List Pl) (j : Nat), j < d.length * 2 → some ((flatK pC 2 d.toArray)[j]!) = (d.flatMap pC)[j]? := by
      intro d j hj
      rw [← flatK_list (enc := pC) (k := 2) (fun _ => rfl) d, Array.getElem?_toList]
      have : j < (flatK pC 2 d.toArray).size := by simpa using hj
      rw [getElem!_pos _ j this, Array.getElem?_eq_getElem this]
    have hH : HoldsK pC 2 W g' 0 xs.toArray := by
      intro j hj
      rw [hfz] at hj
      refine ⟨?_, by simp [World.frozen?, hh]⟩
      rw [cell_of_row W g' (0 + j) cur _ _ hh, Nat.zero_add]
      have h1 : (cur.toList.take (xs.length * 2))[j]? = (xs.flatMap pC)[j]? := by rw [hx]
      rw [List.getElem?_take_of_lt hj, Array.getElem?_toList] at h1
      rw [h1, ← hcell xs j hj]
      rfl
    have hcmp : CmpLays Tryz.prog 65 #[] pC 2 cmpP g' 0 xs.toArray.size W := by
      intro m os dk hs x y
      exact Rnew1_at x y _
    have hcon := AnyQ.slices_SortFunc Tryz.psort 2 (Tryz.isAgg104) (Tryz.sizeOf104) pC (fun _ => rfl) (fun x v hv => by
      simp only [pC, List.mem_cons, List.not_mem_nil, or_false] at hv
      rcases hv with rfl | rfl <;> rfl) cmpP cmpP_swo 65 #[] g' 0 cap xs.toArray W (enters_of Tryz.func65 (by kernel_rfl) rfl) hcmp hH (lt_of_heap hh) (by rw [hsz]; omega)
    rw [hsz] at hcon
    refine Calls.mono hcon ?_
    rintro e w' ⟨rfl, d', m, os, hp, hs, rfl⟩
    obtain ⟨hp1, -, hp3⟩ := hp
    have hd : d'.size = xs.length := by rw [hp1, hsz]
    have hperm : d'.toList.Perm xs := by
      have e1 : (d'.extract 0 xs.length).toList = d'.toList := by rw [← hd]; simp
      have e2 : (xs.toArray.extract 0 xs.length).toList = xs := by simp
      rw [e1, e2] at hp3
      exact hp3
    have hdl : d'.toList.length = xs.length := by rw [Array.length_toList, hd]
    refine ⟨rfl, d'.toList, hperm, ?_, ⟨by rw [pC_len, hdl], _, _, rfl, hnc, hm, .inr ⟨g', 0, _, _, _, rfl, swv_block hh, rfl, fun j u hu => ?_⟩⟩, swv_kept.mono fun i _ e => by simp [Value.ownBlock, e]⟩
    · rw [List.pairwise_iff_getElem]
      intro i j hi hj hij
      rw [hdl] at hi hj
      have h1 := hs i j (Nat.zero_le _) hij hj
      rw [cmpP_lt, decide_eq_false_iff_not, getElem!_pos d' j (by omega), getElem!_pos d' i (by omega)] at h1
      simp only [Array.getElem_toList]
      omega
    · have hj : j < xs.length * 2 := by have := (List.getElem?_eq_some_iff.1 hu).1; rw [pC_len, hdl] at this; exact this
      rw [Nat.zero_add]
      show (putCells id 0 (flatK pC 2 d') cur)[j]? = some u
      unfold putCells
      have hjc : j < cur.size := by
        have : xs.length * 2 ≤ cap * 2 := Nat.mul_le_mul_right _ hnc
        omega
      rw [Array.getElem?_mapIdx, Array.getElem?_eq_getElem hjc]
      simp only [Option.map_some, Nat.zero_le, true_and, Nat.zero_add, Nat.sub_zero, size_flatK, hd, hj, if_true, id]
      rw [← hu]
      have := hcell d'.toList j (by rw [hdl]; exact hj)
      simpa using this
end Go.Proofs.YtepikngkbondgaaGreat
namespace Go.Proofs.YtepikngkbondgaaGreat
set_option linter.unusedVariables false
open Go.RowKit

/-- The check of an order. -/
def schedB (ops : Array Oper) : List (Nat × Bool) → Array Bool → Bool
  | [], listed => (Region.ready .any ops listed).isEmpty
  | (i, true) :: r, listed => (Region.ready .any ops listed).contains i && Region.free .any ops listed i && schedB ops r (listed.setIfInBounds i true)
  | (i, false) :: r, listed => (Region.ready .any ops listed == [i]) && schedB ops r (listed.setIfInBounds i true)

/-- An operation that yields one value and leaves the world: as the walk reads it. -/
def takesAt (P : Program) (o : Oper) (a : Act) (w : World) (v : Value) : Prop := (execOp a.eval o).run P w = .ok (.value v) w

section
variable {P : Program} {ops : Array Oper} {S : World → Prop} {Q : Exit → Act → World → Prop}

/-- The walk in that order. -/
def wpSched (P : Program) (ops : Array Oper) (S : World → Prop) (Q : Exit → Act → World → Prop) : List (Nat × Bool) → Act → World → Prop
  | [], a, w => Q .normal a w
  | (i, b) :: r, a, w => ∃ o, ops[i]? = some o ∧
    ((Region.wanted o (yielded ops a.tmps) = false ∧ wpSched P ops S Q r (a.put o.dst undef) w) ∨
     (Region.wanted o (yielded ops a.tmps) = true ∧ (match b with
        | true => ∃ v, (∀ w', S w' → takesAt P o a w' v) ∧ wpSched P ops S Q r (a.put o.dst v) w
        | false => o.wp P a w (fun a' w' => S w' ∧ wpSched P ops S Q r a' w') Q)))

theorem wpSched_sound (hs : Region.noSelect ops = true) (hQ : ∀ (d : Option Tmp) v c a w, Q (.panic c) (a.put d v) w → Q (.panic c) a w) :
    ∀ (l : List (Nat × Bool)) (listed : Array Bool) (a : Act) (w : World), schedB ops l listed = true → S w → wpSched P ops S Q l a w → wpAnyH P .any ops Q S l.length listed a w := by
  intro l
  induction l with
  | nil =>
    intro listed a w hB _ h
    exact ⟨List.isEmpty_iff.1 hB, h⟩
  | cons ib r ih =>
    obtain ⟨i, b⟩ := ib
    intro listed a w hB hS h
    obtain ⟨o, hi, h⟩ := h
    cases b with
    | true =>
      simp only [schedB, Bool.and_eq_true] at hB
      obtain ⟨⟨hr, hf⟩, hB⟩ := hB
      rcases h with ⟨hw, h⟩ | ⟨hw, v, hv, h⟩
      · exact wpAnyH_take hi hs hf hr (hQ _ _) (.inr ⟨hw, rfl⟩) hS (ih _ _ _ hB hS h)
      · exact wpAnyH_take hi hs hf hr (hQ _ _) (.inl ⟨hw, hv⟩) hS (ih _ _ _ hB hS h)
    | false =>
      simp only [schedB, Bool.and_eq_true, beq_iff_eq] at hB
      obtain ⟨hr, hB⟩ := hB
      refine wpAnyH_all hr (by simp) fun j hj => ?_
      obtain rfl : j = i := by simpa using hj
      unfold wpOp
      simp only [hi]
      rcases h with ⟨hw, h⟩ | ⟨hw, h⟩
      · simp only [hw, Bool.false_eq_true, if_false]
        exact ⟨hS, ih _ _ _ hB hS h⟩
      · simp only [hw, if_true]
        exact .inl (Oper.wp_mono (fun a' w' h' => ⟨h'.1, ih _ _ _ hB h'.1 h'.2⟩) h)

/-- The law. -/
theorem wp_region_sched {id : Nat} {a : Act} {w : World} (l : List (Nat × Bool)) (hm : P.follows .mixedOrders = true) (hs : Region.noSelect ops = true) (hB : (l.length == ops.size && schedB ops l (Array.replicate ops.size false)) = true)
    (hQ : ∀ (d : Option Tmp) v c a w, Q (.panic c) (a.put d v) w → Q (.panic c) a w) (hS : S w.drew) (h : wpSched P ops S Q l a w.drew) : (Code.region id ops true).wp P Q a w := by
  simp only [Bool.and_eq_true, beq_iff_eq] at hB
  refine wp_region_held (S := S) hm ?_
  have := wpSched_sound (P := P) (S := S) hs hQ l _ a w.drew hB.2 hS h
  rw [hB.1] at this
  exact this

/-- .. of a region that does not panic: whatever follows. -/
theorem wp_region_order {id : Nat} {a : Act} {w : World} (S : World → Prop) (l : List (Nat × Bool)) (hm : P.follows .mixedOrders = true) (hs : Region.noSelect ops = true) (hB : (l.length == ops.size && schedB ops l (Array.replicate ops.size false)) = true)
    (hS : S w.drew) (h : wpSched P ops S (NoPanic Q) l a w.drew) : (Code.region id ops true).wp P Q a w :=
  wp_region_noPanic (wp_region_sched l hm hs hB (fun _ _ _ _ _ h => h) hS h)

/-! The steps of the walk. 'K' stands for what follows, so that the walk does not look into it. -/
theorem sched_take {i : Nat} {r : List (Nat × Bool)} {a : Act} {w : World} {o : Oper} (hi : ops[i]? = some o) (hw : Region.wanted o (yielded ops a.tmps) = true) {v : Value} (hv : ∀ w', S w' → takesAt P o a w' v)
    (h : wpSched P ops S Q r (a.put o.dst v) w) : wpSched P ops S Q ((i, true) :: r) a w := ⟨o, hi, .inr ⟨hw, v, hv, h⟩⟩
theorem sched_skip {i : Nat} {b : Bool} {r : List (Nat × Bool)} {a : Act} {w : World} {o : Oper} (hi : ops[i]? = some o) (hw : Region.wanted o (yielded ops a.tmps) = false)
    (h : wpSched P ops S Q r (a.put o.dst undef) w) : wpSched P ops S Q ((i, b) :: r) a w := ⟨o, hi, .inl ⟨hw, h⟩⟩
theorem sched_do {i : Nat} {r : List (Nat × Bool)} {a : Act} {w : World} {o : Oper} (hi : ops[i]? = some o) (hw : Region.wanted o (yielded ops a.tmps) = true)
    (h : o.wp P a w (fun a' w' => S w' ∧ wpSched P ops S Q r a' w') Q) : wpSched P ops S Q ((i, false) :: r) a w := ⟨o, hi, .inr ⟨hw, h⟩⟩
theorem sched_takeK {i : Nat} {r : List (Nat × Bool)} {a : Act} {w : World} {o : Oper} (hi : ops[i]? = some o) (hw : Region.wanted o (yielded ops a.tmps) = true) {v : Value} (hv : ∀ w', S w' → takesAt P o a w' v)
    (h : ∀ K : Act → Prop, (∀ a, wpSched P ops S Q r a w → K a) → K (a.put o.dst v)) : wpSched P ops S Q ((i, true) :: r) a w := sched_take hi hw hv (h _ fun _ h => h)
theorem sched_takeE {i : Nat} {r : List (Nat × Bool)} {a : Act} {w : World} {o : Oper} (hi : ops[i]? = some o) (hw : Region.wanted o (yielded ops a.tmps) = true)
    (h : ∃ v, (∀ w', S w' → takesAt P o a w' v) ∧ ∀ K : Act → Prop, (∀ a, wpSched P ops S Q r a w → K a) → K (a.put o.dst v)) : wpSched P ops S Q ((i, true) :: r) a w := by
  obtain ⟨v, h1, h2⟩ := h
  exact sched_take hi hw h1 (h2 _ fun _ h => h)
theorem sched_skipK {i : Nat} {b : Bool} {r : List (Nat × Bool)} {a : Act} {w : World} {o : Oper} (hi : ops[i]? = some o) (hw : Region.wanted o (yielded ops a.tmps) = false)
    (h : ∀ K : Act → Prop, (∀ a, wpSched P ops S Q r a w → K a) → K (a.put o.dst undef)) : wpSched P ops S Q ((i, b) :: r) a w := sched_skip hi hw (h _ fun _ h => h)
theorem sched_doK {i : Nat} {r : List (Nat × Bool)} {a : Act} {w : World} {o : Oper} (hi : ops[i]? = some o) (hw : Region.wanted o (yielded ops a.tmps) = true)
    (h : ∀ K : Act → World → Prop, (∀ a w, S w → wpSched P ops S Q r a w → K a w) → o.wp P a w K Q) : wpSched P ops S Q ((i, false) :: r) a w := sched_do hi hw (h _ fun _ _ h1 h2 => ⟨h1, h2⟩)
theorem sched_nil {a : Act} {w : World} (h : Q .normal a w) : wpSched P ops S Q [] a w := h
end
#print axioms wp_region_sched
end Go.Proofs.YtepikngkbondgaaGreat
namespace Go.Proofs.YtepikngkbondgaaGreat
set_option linter.unusedVariables false
open Go.RowKit

/-- An order with branchings. -/
inductive Sch where
  | nil
  | take (i : Nat) (r : Sch)
  | one (i : Nat) (r : Sch)
  | two (i : Nat) (r : Sch) (j : Nat) (s : Sch)

def Sch.len : Sch → Nat
  | nil => 0
  | take _ r => r.len + 1
  | one _ r => r.len + 1
  | two _ r _ _ => r.len + 1

def schB (ops : Array Oper) : Sch → Array Bool → Bool
  | .nil, listed => (Region.ready .any ops listed).isEmpty
  | .take i r, listed => (Region.ready .any ops listed).contains i && Region.free .any ops listed i && schB ops r (listed.setIfInBounds i true)
  | .one i r, listed => (Region.ready .any ops listed == [i]) && schB ops r (listed.setIfInBounds i true)
  | .two i r j s, listed => (Region.ready .any ops listed == [i, j]) && schB ops r (listed.setIfInBounds i true) && schB ops s (listed.setIfInBounds j true) && r.len == s.len

section
variable {P : Program} {ops : Array Oper} {S : World → Prop} {Q : Exit → Act → World → Prop}
/-- One operation, carried out, where it is wanted. -/
def doOp (P : Program) (ops : Array Oper) (S : World → Prop) (Q : Exit → Act → World → Prop) (i : Nat) (K : Act → World → Prop) (a : Act) (w : World) : Prop :=
  ∃ o, ops[i]? = some o ∧ ((Region.wanted o (yielded ops a.tmps) = false ∧ K (a.put o.dst undef) w) ∨ (Region.wanted o (yielded ops a.tmps) = true ∧ o.wp P a w (fun a' w' => S w' ∧ K a' w') Q))

def wpSch (P : Program) (ops : Array Oper) (S : World → Prop) (Q : Exit → Act → World → Prop) : Sch → Act → World → Prop
  | .nil, a, w => Q .normal a w
  | .take i r, a, w => ∃ o, ops[i]? = some o ∧ ((Region.wanted o (yielded ops a.tmps) = false ∧ wpSch P ops S Q r (a.put o.dst undef) w) ∨ (Region.wanted o (yielded ops a.tmps) = true ∧ ∃ v, (∀ w', S w' → takesAt P o a w' v) ∧ wpSch P ops S Q r (a.put o.dst v) w))
  | .one i r, a, w => doOp P ops S Q i (wpSch P ops S Q r) a w
  | .two i r j s, a, w => doOp P ops S Q i (wpSch P ops S Q r) a w ∧ doOp P ops S Q j (wpSch P ops S Q s) a w

theorem wpOp_of_do {n : Nat} {K : Act → World → Prop} {listed : Array Bool} {i : Nat} {a : Act} {w : World} (hS : S w) (h : doOp P ops S Q i K a w) (hK : ∀ a w, S w → K a w → wpAnyH P .any ops Q S n (listed.setIfInBounds i true) a w) :
    wpOp P ops Q i (fun a w => S w ∧ wpAnyH P .any ops Q S n (listed.setIfInBounds i true) a w) a w := by
  obtain ⟨o, hi, h⟩ := h
  unfold wpOp
  simp only [hi]
  rcases h with ⟨hw, h⟩ | ⟨hw, h⟩
  · simp only [hw, Bool.false_eq_true, if_false]
    exact ⟨hS, hK _ _ hS h⟩
  · simp only [hw, if_true]
    exact .inl (Oper.wp_mono (fun a' w' h' => ⟨h'.1, hK _ _ h'.1 h'.2⟩) h)

theorem wpSch_sound (hs : Region.noSelect ops = true) (hQ : ∀ (d : Option Tmp) v c a w, Q (.panic c) (a.put d v) w → Q (.panic c) a w) :
    ∀ (l : Sch) (listed : Array Bool) (a : Act) (w : World), schB ops l listed = true → S w → wpSch P ops S Q l a w → wpAnyH P .any ops Q S l.len listed a w := by
  intro l
  induction l with
  | nil =>
    intro listed a w hB _ h
    exact ⟨List.isEmpty_iff.1 hB, h⟩
  | take i r ih =>
    intro listed a w hB hS h
    obtain ⟨o, hi, h⟩ := h
    simp only [schB, Bool.and_eq_true] at hB
    obtain ⟨⟨hr, hf⟩, hB⟩ := hB
    rcases h with ⟨hw, h⟩ | ⟨hw, v, hv, h⟩
    · exact wpAnyH_take hi hs hf hr (hQ _ _) (.inr ⟨hw, rfl⟩) hS (ih _ _ _ hB hS h)
    · exact wpAnyH_take hi hs hf hr (hQ _ _) (.inl ⟨hw, hv⟩) hS (ih _ _ _ hB hS h)
  | one i r ih =>
    intro listed a w hB hS h
    simp only [schB, Bool.and_eq_true, beq_iff_eq] at hB
    obtain ⟨hr, hB⟩ := hB
    refine wpAnyH_all hr (by simp) fun j hj => ?_
    obtain rfl : j = i := by simpa using hj
    exact wpOp_of_do hS h fun a w hS h => ih _ _ _ hB hS h
  | two i r j s ih1 ih2 =>
    intro listed a w hB hS h
    simp only [schB, Bool.and_eq_true, beq_iff_eq] at hB
    obtain ⟨⟨⟨hr, hB1⟩, hB2⟩, hl⟩ := hB
    refine wpAnyH_all hr (by simp) fun k hk => ?_
    simp only [List.mem_cons, List.not_mem_nil, or_false] at hk
    rcases hk with rfl | rfl
    · exact wpOp_of_do hS h.1 fun a w hS h => ih1 _ _ _ hB1 hS h
    · exact wpOp_of_do hS h.2 fun a w hS h => by have := ih2 _ _ _ hB2 hS h; rw [← hl] at this; exact this

theorem wp_region_sch {id : Nat} {a : Act} {w : World} (S : World → Prop) (l : Sch) (hm : P.follows .mixedOrders = true) (hs : Region.noSelect ops = true) (hB : (l.len == ops.size && schB ops l (Array.replicate ops.size false)) = true)
    (hS : S w.drew) (h : wpSch P ops S (NoPanic Q) l a w.drew) : (Code.region id ops true).wp P Q a w := by
  refine wp_region_noPanic (wp_region_held (S := S) hm ?_)
  simp only [Bool.and_eq_true, beq_iff_eq] at hB
  have := wpSch_sound (P := P) (S := S) hs (fun _ _ _ _ _ h => h) l _ a w.drew hB.2 hS h
  rw [hB.1] at this
  exact this

theorem sch_takeE {i : Nat} {r : Sch} {a : Act} {w : World} {o : Oper} (hi : ops[i]? = some o) (hw : Region.wanted o (yielded ops a.tmps) = true)
    (h : ∃ v, (∀ w', S w' → takesAt P o a w' v) ∧ ∀ K : Act → Prop, (∀ a, wpSch P ops S Q r a w → K a) → K (a.put o.dst v)) : wpSch P ops S Q (.take i r) a w := by
  obtain ⟨v, h1, h2⟩ := h
  exact ⟨o, hi, .inr ⟨hw, v, h1, h2 _ fun _ h => h⟩⟩
theorem do_doK {K0 : Act → World → Prop} {i : Nat} {a : Act} {w : World} {o : Oper} (hi : ops[i]? = some o) (hw : Region.wanted o (yielded ops a.tmps) = true)
    (h : ∀ K : Act → World → Prop, (∀ a w, S w → K0 a w → K a w) → o.wp P a w K Q) : doOp P ops S Q i K0 a w := ⟨o, hi, .inr ⟨hw, h _ fun _ _ h1 h2 => ⟨h1, h2⟩⟩⟩
theorem sch_doK {i : Nat} {r : Sch} {a : Act} {w : World} {o : Oper} (hi : ops[i]? = some o) (hw : Region.wanted o (yielded ops a.tmps) = true)
    (h : ∀ K : Act → World → Prop, (∀ a w, S w → wpSch P ops S Q r a w → K a w) → o.wp P a w K Q) : wpSch P ops S Q (.one i r) a w := do_doK hi hw h
theorem sch_two {i : Nat} {r : Sch} {j : Nat} {s : Sch} {a : Act} {w : World} (h1 : doOp P ops S Q i (wpSch P ops S Q r) a w) (h2 : doOp P ops S Q j (wpSch P ops S Q s) a w) : wpSch P ops S Q (.two i r j s) a w := ⟨h1, h2⟩
theorem sch_nil {a : Act} {w : World} (h : Q .normal a w) : wpSch P ops S Q .nil a w := h
end
end Go.Proofs.YtepikngkbondgaaGreat
namespace Go.Proofs.YtepikngkbondgaaGreat
set_option linter.unusedVariables false
open Go.RowKit

set_option maxHeartbeats 1000000 in
set_option maxRecDepth 100000 in
theorem PClone_at {w : World} {ok : Nat → TypeId → Prop} {v : Value} {n : Nat} {L : List Pl} (h : SlK w ok 2 v n (L.flatMap pC)) (hn : n ≤ 1000000) :
    Calls Tryz.prog 63 #[v] w fun e w' => ∃ v', e = .returned v' ∧ w'.ownsRow w.heap.size 104 2 v' n (L.flatMap pC) ∧ Kept noBlock w w' := by
  obtain ⟨A, c, rfl, -, -⟩ := h.shape
  cases A with
  | none =>
    have hz : n = 0 ∧ L.flatMap pC = [] := by
      obtain ⟨hl, A', c', e, -, -, hd⟩ := h
      cases e
      rcases hd with ⟨h0, -⟩ | ⟨g, off, cs, t, fz, e, -⟩
      · subst h0; exact ⟨rfl, List.eq_nil_of_length_eq_zero (by omega)⟩
      · cases e
    obtain ⟨rfl, hz⟩ := hz
    rw [hz]
    clear h hz
    have q1 : ∀ w, (binOp .eql 101 (.slice none 0 c) (.slice none 0 0)).run Tryz.prog w = .ok (.bool true) w := fun w => Lib.run_eql_slice_nil w _ _ none 0 c 0 0 Tryz.underlying101
    go_enter Tryz.func63, Tryz.ntmps63
    go_wp2
    go_ret
    exact ⟨_, rfl, World.ownsRow_nil _ _ _ _, Kept.refl _ _⟩
  | some A =>
    have H := Lib.hid h
    clear h
    have q1 : ∀ w, (binOp .eql 101 (.slice (some A) n c) (.slice none 0 0)).run Tryz.prog w = .ok (.bool false) w := fun w => Lib.run_eql_slice_nil w _ _ (some A) n c 0 0 Tryz.underlying101
    go_enter Tryz.func63, Tryz.ntmps63
    go_wp2_with (at_builtin; go_must (refine wpList_append_sl _ psT rfl (.tmp 5) (.tmp 6) rfl w.heap.size _ 0 [] rfl (World.ownsRow_made w #[] 0 (Nat.le_refl _) (Nat.zero_le _) rfl) _ n (L.flatMap pC) rfl (H.out.alloc _) (fun u hu => pC_one hu) ?c1 ?c2 ?_))
    case c1 => omega
    case c2 => simp
    intro v' w3 hap
    have hown := hap.own
    have hk := hap.below (World.ownsRow_made w #[] 0 (Nat.le_refl _) (Nat.zero_le _) rfl) ((Kept.refl noBlock w).alloc _) (Nat.le_refl _)
    clear hap
    go_wp2
    go_ret
    exact ⟨_, rfl, by simpa using hown, hk⟩

set_option maxHeartbeats 1000000 in
set_option maxRecDepth 100000 in
theorem PIdx_at {w : World} {v : Value} {L : List Pl} (h : Sl w 104 2 v L.length (L.flatMap pC)) (hn : L.length ≤ 1000000) :
    Calls Tryz.prog 95 #[v, .func (.func 68) #[] #[]] w fun e w' => ∃ i : Int, e = .returned (.int .i64 i) ∧ (0 ≤ i ↔ L.any (fun p => p.2.toList.isEmpty) = true) ∧ Kept noBlock w w' := by
  obtain ⟨A, c, rfl, -, -⟩ := h.shape
  have hlen := h.run_len psT
  have H := Lib.hid h
  have eg : ∀ args w, (callFunc 68 args).run Tryz.prog w = .ok (.enter 68 args) w := enters_of Tryz.func68 (by kernel_rfl) rfl
  clear h
  go_enter Tryz.func95, Tryz.ntmps95
  go_wp2_with fail
  go_loopg [8] L.length (fun j vi wr => ∃ k : Nat, k + j = L.length ∧ vi = .int .i64 k ∧ (L.take k).any (fun p => p.2.toList.isEmpty) = false ∧ Kept noBlock w wr)
  case atStart => exact ⟨0, by omega, rfl, by simp, Kept.refl _ _⟩
  case round =>
    obtain ⟨k, hkl, rfl, hany, hk⟩ := hrel
    have HKL := Lib.hid hkl
    have HANY := Lib.hid hany
    have HK := Lib.hid hk
    by_cases hlt : k < L.length
    · obtain ⟨p, hp⟩ : ∃ p, L[k]? = some p := ⟨_, List.getElem?_eq_getElem hlt⟩
      obtain ⟨g, off, hidx, hgl, hc0, hc1⟩ := p_at (SlK.keptNone H.out hk) psT hp
      have hcall := Rnew2_at p wr
      have hnext : (L.take (k + 1)).any (fun p => p.2.toList.isEmpty) = p.2.toList.isEmpty := by
        rw [List.take_add_one, hp, List.any_append, hany]; simp
      have hall : p.2.toList.isEmpty = true → L.any (fun p => p.2.toList.isEmpty) = true := fun e => List.any_eq_true.2 ⟨p, List.mem_of_getElem? hp, e⟩
      have HNEXT := Lib.hid hnext
      have HALL := Lib.hid hall
      clear hkl hany hk hp hnext hall
      obtain ⟨p1, p2⟩ := p
      have HCALL := Lib.hid hcall
      clear hcall
      simp only at hc0 hc1 HNEXT HALL
      go_wp2_with fail
      go_at_fn 68
      refine HCALL.out.mono ?_
      rintro e w4 ⟨rfl, hg4⟩
      have HK4 := Lib.hid (HK.out.trans hg4.kept (fun _ _ h => h))
      clear hg4
      cases hemp : p2.toList.isEmpty with
      | true =>
        go_wp2
        go_ret
        exact ⟨_, rfl, ⟨fun _ => HALL.out hemp, fun _ => by omega⟩, HK4.out⟩
      | false =>
        go_wp2
        go_roundg (L.length - (k + 1))
        case measure => have := HKL.out; omega
        case rel => exact ⟨k + 1, by have := HKL.out; omega, by go_num, by rw [HNEXT.out]; exact hemp, HK4.out⟩
    · obtain rfl : k = L.length := by omega
      rw [List.take_length] at hany
      have HANY2 := Lib.hid hany
      clear hkl hany HANY
      go_wp2
      go_ret
      exact ⟨_, rfl, ⟨fun e => by omega, fun e => by rw [HANY2.out] at e; cases e⟩, hk⟩
theorem PHas_at {w : World} {v : Value} {L : List Pl} (h : Sl w 104 2 v L.length (L.flatMap pC)) (hn : L.length ≤ 1000000) :
    Calls Tryz.prog 67 #[v, .func (.func 68) #[] #[]] w fun e w' => e = .returned (.bool (L.any fun p => p.2.toList.isEmpty)) ∧ Kept noBlock w w' := by
  have HI := Lib.hid (PIdx_at h hn)
  obtain ⟨A, c, rfl, -, -⟩ := h.shape
  clear h
  generalize L.any (fun p => p.2.toList.isEmpty) = b at *
  go_enter Tryz.func67, Tryz.ntmps67
  go_wp2_with fail
  go_at_call 95
  refine HI.out.mono ?_
  rintro e w1 ⟨i, rfl, hi, hk⟩
  go_wp2
  go_ret
  exact ⟨rfl, hk⟩
end Go.Proofs.YtepikngkbondgaaGreat
namespace Go.Proofs.YtepikngkbondgaaGreat
set_option linter.unusedVariables false
open Go.RowKit

theorem Grew.trans {a b c : World} (h : Grew a b) (k : Grew b c) : Grew a c := by
  obtain ⟨q, os, rfl⟩ := h
  obtain ⟨q', os', rfl⟩ := k
  exact ⟨q + q', os ++ os', by rw [← Go.Sort.grow_grow, ← World.drewN_drewN]; rfl⟩
theorem pl_idx {g o n c i : Nat} (hi : i < n) : ∀ kd w', (Instr.indexAt 101 (.slice (some ⟨g, o, none⟩) n c) (.int kd (i : Int))).run Tryz.prog w' = .ok (.pointer (some ⟨g, o + i * 2, none⟩)) w' := by
  intro kd w'
  have hi2 : (i : Int) < (n : Int) := by omega
  simp [Instr.indexAt, asIntOf, run_underlying psT.ht, psT.run_size, hi, Addr.add_lit]
theorem pl_from {g o n c k : Nat} (hk : k < n) (hn : n ≤ c) : ∀ kd w', (Instr.sliceAt 101 (.slice (some ⟨g, o, none⟩) n c) (some (.int kd (k : Int))) none none).run Tryz.prog w' = .ok (.slice (some ⟨g, o + k * 2, none⟩) (n - k) (c - k)) w' := by
  intro kd w'
  have h0 : (0 : Int) ≤ k := by omega
  have hi2 : (k : Int) ≤ (n : Int) := by omega
  have hk2 : k ≤ n := by omega
  have hck : ¬ c = k := by omega
  simp [Instr.sliceAt, run_underlying psT.ht, Instr.slice, Instr.sliceBounds, Instr.sliceBound, asIntOf, psT.run_size, hk2, hck, Addr.add_lit]
theorem pl_to {g o n c k : Nat} (hk : k ≤ n) (hn : n ≤ c) (hc : 0 < c) : ∀ kd w', (Instr.sliceAt 101 (.slice (some ⟨g, o, none⟩) n c) none (some (.int kd (k : Int))) none).run Tryz.prog w' = .ok (.slice (some ⟨g, o, none⟩) k c) w' := by
  intro kd w'
  have h0 : (0 : Int) ≤ k := by omega
  have hi2 : (k : Int) ≤ (c : Int) := by omega
  have hi3 : k ≤ c := by omega
  have hck : ¬ c = 0 := by omega
  simp [Instr.sliceAt, run_underlying psT.ht, Instr.slice, Instr.sliceBounds, Instr.sliceBound, asIntOf, psT.run_size, hi3, hck, Addr.add_lit]
theorem pl_idx0 {g n c i : Nat} (hi : i < n) : ∀ kd w', (Instr.indexAt 101 (.slice (some ⟨g, 0, none⟩) n c) (.int kd (i : Int))).run Tryz.prog w' = .ok (.pointer (some ⟨g, i * 2, none⟩)) w' := by
  have := pl_idx (g := g) (o := 0) (c := c) hi
  rw [Nat.zero_add] at this
  exact this
theorem pl_from0 {g n c k : Nat} (hk : k < n) (hn : n ≤ c) : ∀ kd w', (Instr.sliceAt 101 (.slice (some ⟨g, 0, none⟩) n c) (some (.int kd (k : Int))) none none).run Tryz.prog w' = .ok (.slice (some ⟨g, k * 2, none⟩) (n - k) (c - k)) w' := by
  have := pl_from (g := g) (o := 0) hk hn
  rw [Nat.zero_add] at this
  exact this
section
variable {w : World} {base g n cap : Nat} {L : List Pl}
theorem row_cells (h : w.ownsRow base 104 2 (.slice (some ⟨g, 0, none⟩) n cap) n (L.flatMap pC)) {i : Nat} {p : Pl} (hi : L[i]? = some p) : w.cell? ⟨g, i * 2, none⟩ = some (.int .i64 p.1) ∧ w.cell? ⟨g, i * 2 + 1, none⟩ = some (.string p.2) := by
  have h1 := (List.getElem?_eq_some_iff.1 hi).1
  have h2 := h.1
  rw [pC_len] at h2
  refine ⟨(h.cellAt (i * 2) (by omega)).trans ?_, (h.cellAt (i * 2 + 1) (by omega)).trans ?_⟩
  · have := flat_get (k := 2) (f := pC) (fun _ => rfl) L i 0 p hi (by decide)
    rw [Nat.add_zero] at this
    rw [this]; rfl
  · rw [flat_get (k := 2) (f := pC) (fun _ => rfl) L i 1 p hi (by decide)]; rfl
theorem flat_set {L : List Pl} {k : Nat} (p : Pl) (hk : k < L.length) : ((L.flatMap pC).set (k * 2) (.int .i64 p.1)).set (k * 2 + 1) (.string p.2) = (L.set k p).flatMap pC := by
  obtain ⟨A, x, B, rfl, hA⟩ : ∃ A x B, L = A ++ x :: B ∧ A.length = k := ⟨L.take k, L[k], L.drop (k + 1), by rw [← List.drop_eq_getElem_cons, List.take_append_drop], by rw [List.length_take]; omega⟩
  subst hA
  rw [List.set_append_right _ _ (Nat.le_refl _), Nat.sub_self, List.set_cons_zero, List.flatMap_append, List.flatMap_append]
  rw [List.set_append_right _ _ (by rw [pC_len]; omega), List.set_append_right _ _ (by rw [pC_len]; omega), pC_len]
  rw [show A.length * 2 - A.length * 2 = 0 by omega, show A.length * 2 + 1 - A.length * 2 = 1 by omega]
  rfl
theorem row_store (h : w.ownsRow base 104 2 (.slice (some ⟨g, 0, none⟩) n cap) n (L.flatMap pC)) {k : Nat} (p : Pl) (hk : k < n) :
    ((w.setCell ⟨g, k * 2, none⟩ (.int .i64 p.1)).setCell ⟨g, k * 2 + 1, none⟩ (.string p.2)).ownsRow base 104 2 (.slice (some ⟨g, 0, none⟩) n cap) n ((L.set k p).flatMap pC) := by
  have h2 := h.1
  rw [pC_len] at h2
  rw [← flat_set p (by omega)]
  exact ((h.stored (k * 2) (.int .i64 p.1)).1.stored (k * 2 + 1) (.string p.2)).1
theorem setCells_kept (g : Nat) : ∀ (vs : List Value) (o : Nat) (w : World), Kept (fun i => i = g) w (w.setCells g o vs)
  | [], o, w => Kept.refl _ _
  | v :: r, o, w => by
    rw [World.setCells]
    exact (((Kept.refl (fun i => i = g) w).setCell (p := ⟨g, o, none⟩) (fun _ => rfl) v)).trans (setCells_kept g r (o + 1) _) (fun _ _ h => h)
theorem run_clear_row (h : w.ownsRow base 104 2 (.slice (some ⟨g, 0, none⟩) n cap) n (L.flatMap pC)) {k : Nat} (hk : k < n) (ty : TypeId) :
    (Builtin.clear_ #[101] ty #[.slice (some ⟨g, k * 2, none⟩) (n - k) (cap - k)]).run Tryz.prog w = .ok (.tuple #[]) (w.setCells g (k * 2) (Builtin.zeroCells #[.int .i64 0, .string noStr] (n - k)).toList) := by
  have h2 := h.1
  have hzl : (Builtin.zeroCells #[.int .i64 0, .string noStr] (n - k)).toList.length = (n - k) * 2 := by simp [Builtin.zeroCells]
  have hst := run_storeCells_cells (P := Tryz.prog) g (k * 2) (Builtin.zeroCells #[.int .i64 0, .string noStr] (n - k)).toList 0 w (fun j hj => by
    rw [hzl] at hj
    rw [h.cellAt (k * 2 + 0 + j) (by omega), List.getElem?_eq_getElem (by omega)]; rfl) (fun j hj => h.frozenAt _) (fun v hv => by
    simp only [Builtin.zeroCells, Array.toList_map, List.mem_map] at hv
    obtain ⟨i, -, rfl⟩ := hv
    have : i % 2 = 0 ∨ i % 2 = 1 := by omega
    rcases this with e | e <;> simp [e, Value.oneCell'])
  simp only [Nat.add_zero] at hst
  obtain ⟨m, hm⟩ : ∃ m, n - k = m + 1 := ⟨n - k - 1, by omega⟩
  rw [hm] at hst ⊢
  simp only [noStr] at hst ⊢
  simp [Builtin.clear_, run_underlying psT.ht, Tryz.zeroValue104, hst, Value.cells]
end
end Go.Proofs.YtepikngkbondgaaGreat
namespace Go.Proofs.YtepikngkbondgaaGreat
set_option linter.unusedVariables false
open Go.RowKit

/-- No two tokens side by side are one. -/
def apart (L : List Pl) : Prop := ∀ (i : Nat) p q, L[i]? = some p → L[i + 1]? = some q → p.1 ≠ q.1
def CompPost (w : World) (v : Value) (L : List Pl) (e : Ending) (w' : World) : Prop :=
  ∃ A m c, e = .returned (.slice A m c) ∧ m ≤ L.length ∧ (apart L → m = L.length) ∧ (¬ apart L → m < L.length) ∧ Kept (fun i => v.ownBlock = some i) w w'

set_option maxHeartbeats 4000000 in
set_option maxRecDepth 100000 in
theorem PCompact_at {w : World} {base : Nat} {v : Value} {L : List Pl} (hown : w.ownsRow base 104 2 v L.length (L.flatMap pC)) (hn : L.length ≤ 1000000) :
    Calls Tryz.prog 70 #[v, .func (.func 69) #[] #[]] w (CompPost w v L) := by
  by_cases h2 : L.length < 2
  · have hap : apart L := fun i p q hp hq => by
      have := (List.getElem?_eq_some_iff.1 hq).1
      omega
    have HAP := Lib.hid hap
    obtain ⟨A, c, rfl, -, -⟩ := (Sl.of_own hown).shape
    clear hown hap
    go_enter Tryz.func70, Tryz.ntmps70
    go_wp2
    go_ret
    exact ⟨A, _, c, rfl, Nat.le_refl _, fun _ => rfl, fun e => absurd HAP.out e, Kept.refl _ _⟩
  · obtain ⟨g, cap, rfl⟩ := own_pos hown (by omega)
    have hcap : L.length ≤ cap ∧ 0 < cap := by
      obtain ⟨_, h⟩ := hown
      rcases h with ⟨h0, _⟩ | ⟨g', cap', cur, h0, _, _, hc, _⟩
      · cases h0
      · cases h0; omega
    obtain ⟨hcap1, hcap2⟩ := hcap
    have hgl := (hown.lt g rfl).2
    have H := Lib.hid hown
    have eg : ∀ args w, (callFunc 69 args).run Tryz.prog w = .ok (.enter 69 args) w := enters_of Tryz.func69 (by kernel_rfl) rfl
    have idx := fun i hi => pl_idx0 (g := g) (c := cap) (n := L.length) (i := i) hi
    clear hown
    generalize hln : L.length = n at *
    have HLN := Lib.hid hln
    clear hln
    go_enter Tryz.func70, Tryz.ntmps70
    go_wp2_with fail
    go_loopg [5] n (fun j vk wr => ∃ k : Nat, 1 ≤ k ∧ k ≤ n ∧ k + j = n + 1 ∧ vk = .int .i64 k ∧ (∀ (i : Nat) p q, i + 1 < k → L[i]? = some p → L[i + 1]? = some q → p.1 ≠ q.1) ∧ Kept noBlock w wr ∧ wr.ownsRow base 104 2 (.slice (some ⟨g, 0, none⟩) n cap) n (L.flatMap pC))
    case atStart => exact ⟨1, Nat.le_refl _, by omega, by omega, rfl, fun i p q hi => by omega, Kept.refl _ _, H.out⟩
    case round =>
      obtain ⟨k, hk1, hkle, hkn, rfl, hap, hk, hrow⟩ := hrel
      clear H
      have HKN := Lib.hid hkn
      have HAP := Lib.hid hap
      have HK := Lib.hid hk
      have HROW := Lib.hid hrow
      have hgr := (hrow.lt g rfl).2
      by_cases hlt : k < n
      · obtain ⟨p, hp⟩ : ∃ p, L[k]? = some p := ⟨_, List.getElem?_eq_getElem (by rw [HLN.out]; exact hlt)⟩
        obtain ⟨q, hq⟩ : ∃ q, L[k - 1]? = some q := ⟨_, List.getElem?_eq_getElem (by rw [HLN.out]; omega)⟩
        obtain ⟨q0, q1⟩ := row_cells hrow hp
        obtain ⟨q2, q3⟩ := row_cells hrow hq
        have i0 := idx k hlt
        have i1 : ∀ kd w', (Instr.indexAt 101 (.slice (some ⟨g, 0, none⟩) n cap) (.int kd ((k : Int) - 1))).run Tryz.prog w' = .ok (.pointer (some ⟨g, (k - 1) * 2, none⟩)) w' := by
          have := idx (k - 1) (by omega)
          rw [show ((k - 1 : Nat) : Int) = (k : Int) - 1 by omega] at this
          exact this
        have hw : IntKind.i64.wrap ((k : Int) - 1) = (k : Int) - 1 := by rw [IntKind.wrap_i64]; omega
        have HP := Lib.hid hp
        have HQ := Lib.hid hq
        clear hp hq hap hk hrow hkn
        obtain ⟨p1, p2⟩ := p
        obtain ⟨r1, r2⟩ := q
        simp only at q0 q1 q2 q3
        by_cases hdup : p1 = r1
        · subst hdup
          have hcl : ∀ W, Calls Tryz.prog 69 #[.agg #[.int .i64 p1, .string p2], .agg #[.int .i64 p1, .string r2]] W fun e w' => e = .returned (.bool true) ∧ Grew W w' := fun W => (Rnew3_at (p1, p2) (p1, r2) W).mono fun e w' h => ⟨by rw [h.1]; simp, h.2⟩
          go_wp2_with fail
          refine wp_region_sch (fun w' => Grew wr w') (.take 0 (.take 1 (.take 2 (.take 3 (.take 4 (.take 5 (.take 6 (.take 7 (.take 8 (.take 9 (.one 10 .nil))))))))))) (by kernel_rfl) (by kernel_rfl) (by kernel_rfl) (Grew.refl _).drew ?_
          repeat (first
            | (refine sch_takeE rfl rfl ?_
               apply Exists.intro
               refine ⟨fun w' hS => ?_, fun K hK => ?_⟩
               · (have hq := hS.kept
                  have z0 := (hq.cell (p := ⟨g, k * 2, none⟩) (by simp only; omega) (fun h => h)).trans q0
                  have z1 := (hq.cell (p := ⟨g, k * 2 + 1, none⟩) (by simp only; omega) (fun h => h)).trans q1
                  have z2 := (hq.cell (p := ⟨g, (k - 1) * 2, none⟩) (by simp only; omega) (fun h => h)).trans q2
                  have z3 := (hq.cell (p := ⟨g, (k - 1) * 2 + 1, none⟩) (by simp only; omega) (fun h => h)).trans q3
                  clear hq hS
                  unfold takesAt; go_simp; rfl)
               go_simp
               refine hK _ ?_
               clear hK K))
          refine sch_doK rfl rfl (fun K hK => ?_)
          go_simp
          go_at_fn 69
          refine (hcl _).mono ?_
          rintro e w4 ⟨rfl, hg4⟩
          have hg5 := (Grew.refl wr).drew.trans hg4
          refine hK _ _ hg5 ?_
          clear hK K
          refine sch_nil (NoPanic.normal ?_)
          have HK4 := Lib.hid (HK.out.trans hg5.kept (fun _ _ h => h))
          have HROW4 : Hid (w4.ownsRow base 104 2 (.slice (some ⟨g, 0, none⟩) n cap) n (L.flatMap pC)) := Lib.hid (own_kept HROW.out hg5.kept (fun _ _ h => h.elim))
          clear hg4 hg5 q0 q1 q2 q3
          have hfrom := pl_from0 (g := g) (n := n) (c := cap) (k := k) hlt hcap1
          have HNOT : Hid (¬ apart L) := Lib.hid (fun e => e (k - 1) (p1, r2) (p1, p2) HQ.out (by rw [show k - 1 + 1 = k by omega]; exact HP.out) rfl)
          have hnl : (L.length : Nat) = n := HLN.out
          go_wp2_with fail
          go_loopg [5, 7] (n - k - 1) (fun j vk v2 wx => ∃ (kk k2 : Nat) (M : List Pl), vk = .int .i64 kk ∧ v2 = .int .i64 k2 ∧ 1 ≤ k2 ∧ k2 + j = n - k ∧ kk + 1 ≤ k + k2 ∧ Kept (fun i => i = g) w wx ∧ wx.ownsRow base 104 2 (.slice (some ⟨g, 0, none⟩) n cap) n (M.flatMap pC))
          case atStart => exact ⟨k, 1, L, rfl, rfl, Nat.le_refl _, by omega, by omega, HK4.out.of_none, HROW4.out⟩
          case round =>
            obtain ⟨kk, k2, M, rfl, rfl, hk21, hk2j, hkk, hkx, hrx⟩ := hrel
            have hml : M.length = n := by have := hrx.1; rw [pC_len] at this; omega
            have HK2J := Lib.hid hk2j
            have HKX := Lib.hid hkx
            have HRX := Lib.hid hrx
            have hgx := (hrx.lt g rfl).2
            clear HK4 HROW4 HROW HK
            by_cases hlt2 : k2 < n - k
            · obtain ⟨p, hp⟩ : ∃ p, M[k + k2]? = some p := ⟨_, List.getElem?_eq_getElem (by omega)⟩
              obtain ⟨q, hq⟩ : ∃ q, M[k + (k2 - 1)]? = some q := ⟨_, List.getElem?_eq_getElem (by omega)⟩
              obtain ⟨o, ho⟩ : ∃ o, M[kk]? = some o := ⟨_, List.getElem?_eq_getElem (by omega)⟩
              obtain ⟨q0, q1⟩ := row_cells hrx hp
              obtain ⟨q2, q3⟩ := row_cells hrx hq
              obtain ⟨q4, q5⟩ := row_cells hrx ho
              rw [Nat.add_mul] at q0 q1 q2 q3
              have hfz := fun j => hrx.frozenAt j
              have j0 := pl_idx (g := g) (o := k * 2) (c := cap - k) hlt2
              have j1 : ∀ kd w', (Instr.indexAt 101 (.slice (some ⟨g, k * 2, none⟩) (n - k) (cap - k)) (.int kd ((k2 : Int) - 1))).run Tryz.prog w' = .ok (.pointer (some ⟨g, k * 2 + (k2 - 1) * 2, none⟩)) w' := by
                have := pl_idx (g := g) (o := k * 2) (n := n - k) (c := cap - k) (i := k2 - 1) (by omega)
                rw [show ((k2 - 1 : Nat) : Int) = (k2 : Int) - 1 by omega] at this
                exact this
              have j2 := idx kk (by omega)
              have hw2 : IntKind.i64.wrap ((k2 : Int) - 1) = (k2 : Int) - 1 := by rw [IntKind.wrap_i64]; omega
              clear hp hq ho hkx hrx hk2j
              obtain ⟨p1', p2'⟩ := p
              obtain ⟨r1', r2'⟩ := q
              obtain ⟨o1, o2⟩ := o
              simp only at q0 q1 q2 q3 q4 q5
              by_cases hd2 : p1' = r1'
              · subst hd2
                have hcl : ∀ W, Calls Tryz.prog 69 #[.agg #[.int .i64 p1', .string p2'], .agg #[.int .i64 p1', .string r2']] W fun e w' => e = .returned (.bool true) ∧ Grew W w' := fun W => (Rnew3_at (p1', p2') (p1', r2') W).mono fun e w' h => ⟨by rw [h.1]; simp, h.2⟩
                have hlt3 : (k2 : Int) < ((n - k : Nat) : Int) := by omega
                go_wp2_with fail
                refine wp_region_sch (fun w' => Grew wr w') (.take 0 (.take 1 (.take 2 (.take 3 (.take 4 (.take 5 (.take 6 (.take 7 (.take 8 (.take 9 (.one 10 (.take 11 .nil)))))))))))) (by kernel_rfl) (by kernel_rfl) (by kernel_rfl) (Grew.refl _).drew ?_
                repeat (first
                  | (refine sch_takeE rfl rfl ?_
                     apply Exists.intro
                     refine ⟨fun w' hS => ?_, fun K hK => ?_⟩
                     · (have hq := hS.kept
                        have z0 := (hq.cell (p := ⟨g, k * 2 + k2 * 2, none⟩) (by simp only; omega) (fun h => h)).trans q0
                        have z1 := (hq.cell (p := ⟨g, k * 2 + k2 * 2 + 1, none⟩) (by simp only; omega) (fun h => h)).trans q1
                        have z2 := (hq.cell (p := ⟨g, k * 2 + (k2 - 1) * 2, none⟩) (by simp only; omega) (fun h => h)).trans q2
                        have z3 := (hq.cell (p := ⟨g, k * 2 + (k2 - 1) * 2 + 1, none⟩) (by simp only; omega) (fun h => h)).trans q3
                        clear hq hS
                        unfold takesAt; go_simp; rfl)
                     go_simp
                     refine hK _ ?_
                     clear hK K))
                refine sch_doK rfl rfl (fun K hK => ?_)
                go_simp
                go_at_fn 69
                refine (hcl _).mono ?_
                rintro e w6 ⟨rfl, hg6⟩
                have hg7 := (Grew.refl wr).drew.trans hg6
                refine hK _ _ hg7 ?_
                clear hK K
                repeat (first
                  | (refine sch_takeE rfl rfl ?_
                     apply Exists.intro
                     refine ⟨fun w' hS => ?_, fun K hK => ?_⟩
                     · (unfold takesAt; go_simp; rfl)
                     go_simp
                     refine hK _ ?_
                     clear hK K))
                refine sch_nil (NoPanic.normal ?_)
                have HK6 := Lib.hid (HKX.out.trans hg7.kept (fun _ _ h => h.elim))
                have hrow6 := own_kept HRX.out hg7.kept (fun _ _ h => h.elim)
                have HROW6 := Lib.hid hrow6
                have z0 := (hg7.kept.cell (p := ⟨g, k * 2 + k2 * 2, none⟩) hgx (fun h => h)).trans q0
                have z1 := (hg7.kept.cell (p := ⟨g, k * 2 + k2 * 2 + 1, none⟩) hgx (fun h => h)).trans q1
                have z4 := (hg7.kept.cell (p := ⟨g, kk * 2, none⟩) hgx (fun h => h)).trans q4
                have z5 := (hg7.kept.cell (p := ⟨g, kk * 2 + 1, none⟩) hgx (fun h => h)).trans q5
                have hfz6 := fun j => hrow6.frozenAt j
                clear hg6 hg7 q0 q1 q2 q3 q4 q5 hfz hrow6
                go_wp2
                go_roundg (n - k - (k2 + 1))
                case measure => have := HK2J.out; omega
                case rel =>
                  have hk2j := HK2J.out
                  exact ⟨kk, k2 + 1, M, rfl, by go_num, by omega, by omega, by omega, HK6.out, HROW6.out⟩
              · have hcl : ∀ W, Calls Tryz.prog 69 #[.agg #[.int .i64 p1', .string p2'], .agg #[.int .i64 r1', .string r2']] W fun e w' => e = .returned (.bool false) ∧ Grew W w' := fun W => (Rnew3_at (p1', p2') (r1', r2') W).mono fun e w' h => ⟨by rw [h.1]; simp [hd2], h.2⟩
                have hlt3 : (k2 : Int) < ((n - k : Nat) : Int) := by omega
                go_wp2_with fail
                refine wp_region_sch (fun w' => Grew wr w') (.take 0 (.take 1 (.take 2 (.take 3 (.take 4 (.take 5 (.take 6 (.take 7 (.take 8 (.take 9 (.one 10 (.take 11 .nil)))))))))))) (by kernel_rfl) (by kernel_rfl) (by kernel_rfl) (Grew.refl _).drew ?_
                repeat (first
                  | (refine sch_takeE rfl rfl ?_
                     apply Exists.intro
                     refine ⟨fun w' hS => ?_, fun K hK => ?_⟩
                     · (have hq := hS.kept
                        have z0 := (hq.cell (p := ⟨g, k * 2 + k2 * 2, none⟩) (by simp only; omega) (fun h => h)).trans q0
                        have z1 := (hq.cell (p := ⟨g, k * 2 + k2 * 2 + 1, none⟩) (by simp only; omega) (fun h => h)).trans q1
                        have z2 := (hq.cell (p := ⟨g, k * 2 + (k2 - 1) * 2, none⟩) (by simp only; omega) (fun h => h)).trans q2
                        have z3 := (hq.cell (p := ⟨g, k * 2 + (k2 - 1) * 2 + 1, none⟩) (by simp only; omega) (fun h => h)).trans q3
                        clear hq hS
                        unfold takesAt; go_simp; rfl)
                     go_simp
                     refine hK _ ?_
                     clear hK K))
                refine sch_doK rfl rfl (fun K hK => ?_)
                go_simp
                go_at_fn 69
                refine (hcl _).mono ?_
                rintro e w6 ⟨rfl, hg6⟩
                have hg7 := (Grew.refl wr).drew.trans hg6
                refine hK _ _ hg7 ?_
                clear hK K
                repeat (first
                  | (refine sch_takeE rfl rfl ?_
                     apply Exists.intro
                     refine ⟨fun w' hS => ?_, fun K hK => ?_⟩
                     · (unfold takesAt; go_simp; rfl)
                     go_simp
                     refine hK _ ?_
                     clear hK K))
                refine sch_nil (NoPanic.normal ?_)
                have HK6 := Lib.hid (HKX.out.trans hg7.kept (fun _ _ h => h.elim))
                have hrow6 := own_kept HRX.out hg7.kept (fun _ _ h => h.elim)
                have HROW6 := Lib.hid hrow6
                have z0 := (hg7.kept.cell (p := ⟨g, k * 2 + k2 * 2, none⟩) hgx (fun h => h)).trans q0
                have z1 := (hg7.kept.cell (p := ⟨g, k * 2 + k2 * 2 + 1, none⟩) hgx (fun h => h)).trans q1
                have z4 := (hg7.kept.cell (p := ⟨g, kk * 2, none⟩) hgx (fun h => h)).trans q4
                have z5 := (hg7.kept.cell (p := ⟨g, kk * 2 + 1, none⟩) hgx (fun h => h)).trans q5
                have hfz6 := fun j => hrow6.frozenAt j
                clear hg6 hg7 q0 q1 q2 q3 q4 q5 hfz hrow6
                go_wp2
                go_roundg (n - k - (k2 + 1))
                case measure => have := HK2J.out; omega
                case rel =>
                  have hk2j := HK2J.out
                  refine ⟨kk + 1, k2 + 1, M.set kk (p1', p2'), by go_num, by go_num, by omega, by omega, by omega, (HK6.out.setCell (p := ⟨g, kk * 2, none⟩) (fun _ => rfl) _).setCell (p := ⟨g, kk * 2 + 1, none⟩) (fun _ => rfl) _, row_store HROW6.out (p1', p2') (by omega)⟩
            · obtain rfl : k2 = n - k := by have := HK2J.out; omega
              have hfrom2 := pl_from0 (g := g) (n := n) (c := cap) (k := kk) (by omega) hcap1
              have hto2 := pl_to (g := g) (o := 0) (n := n) (c := cap) (k := kk) (by omega) hcap1 hcap2
              have hclr := fun ty => run_clear_row hrx (k := kk) (by omega) ty
              have HK8 := Lib.hid (hkx.trans (setCells_kept g (Builtin.zeroCells #[.int .i64 0, .string noStr] (n - kk)).toList (kk * 2) wr) (fun _ _ h => h))
              have hkkn : kk < n := by omega
              have hlt3 : ¬ ((n - k : Nat) : Int) < ((n - k : Nat) : Int) := by omega
              clear hkx hrx HRX hk2j HKX
              go_wp2
              go_ret
              refine ⟨_, _, _, rfl, by rw [HLN.out]; omega, fun e => absurd e HNOT.out, fun _ => by rw [HLN.out]; exact hkkn, HK8.out.mono fun i _ e => by simp [Value.ownBlock, e]⟩
        · skip
          have hcl : ∀ W, Calls Tryz.prog 69 #[.agg #[.int .i64 p1, .string p2], .agg #[.int .i64 r1, .string r2]] W fun e w' => e = .returned (.bool false) ∧ Grew W w' := fun W => (Rnew3_at (p1, p2) (r1, r2) W).mono fun e w' h => ⟨by rw [h.1]; simp [hdup], h.2⟩
          go_wp2_with fail
          refine wp_region_sch (fun w' => Grew wr w') (.take 0 (.take 1 (.take 2 (.take 3 (.take 4 (.take 5 (.take 6 (.take 7 (.take 8 (.take 9 (.one 10 .nil))))))))))) (by kernel_rfl) (by kernel_rfl) (by kernel_rfl) (Grew.refl _).drew ?_
          repeat (first
            | (refine sch_takeE rfl rfl ?_
               apply Exists.intro
               refine ⟨fun w' hS => ?_, fun K hK => ?_⟩
               · (have hq := hS.kept
                  have z0 := (hq.cell (p := ⟨g, k * 2, none⟩) (by simp only; omega) (fun h => h)).trans q0
                  have z1 := (hq.cell (p := ⟨g, k * 2 + 1, none⟩) (by simp only; omega) (fun h => h)).trans q1
                  have z2 := (hq.cell (p := ⟨g, (k - 1) * 2, none⟩) (by simp only; omega) (fun h => h)).trans q2
                  have z3 := (hq.cell (p := ⟨g, (k - 1) * 2 + 1, none⟩) (by simp only; omega) (fun h => h)).trans q3
                  clear hq hS
                  unfold takesAt; go_simp; rfl)
               go_simp
               refine hK _ ?_
               clear hK K))
          refine sch_doK rfl rfl (fun K hK => ?_)
          go_simp
          go_at_fn 69
          refine (hcl _).mono ?_
          rintro e w4 ⟨rfl, hg4⟩
          have hg5 := (Grew.refl wr).drew.trans hg4
          refine hK _ _ hg5 ?_
          clear hK K
          refine sch_nil (NoPanic.normal ?_)
          have HK4 := Lib.hid (HK.out.trans hg5.kept (fun _ _ h => h))
          have HROW4 : Hid (w4.ownsRow base 104 2 (.slice (some ⟨g, 0, none⟩) n cap) n (L.flatMap pC)) := Lib.hid (own_kept HROW.out hg5.kept (fun _ _ h => h.elim))
          clear hg4 hg5 q0 q1 q2 q3
          go_wp2
          go_roundg (n - k)
          case measure => have := HKN.out; omega
          case rel =>
            have hkn := HKN.out
            refine ⟨k + 1, by omega, by omega, by omega, by go_num, fun i p q hi hp hq => ?_, HK4.out, HROW4.out⟩
            by_cases e : i + 1 < k
            · exact HAP.out i p q e hp hq
            · obtain rfl : i = k - 1 := by omega
              rw [show k - 1 + 1 = k by omega, HP.out] at hq
              rw [HQ.out] at hp
              injection hp with hp
              injection hq with hq
              subst hp; subst hq
              exact fun e => hdup e.symm
      · obtain rfl : k = n := by omega
        go_wp2
        go_ret
        refine ⟨_, _, _, rfl, by rw [HLN.out]; exact Nat.le_refl _, fun _ => HLN.out.symm, fun e => absurd (fun i p q hp hq => hap i p q (by have := (List.getElem?_eq_some_iff.1 hq).1; rw [HLN.out] at this; exact this) hp hq) e, hk.of_none⟩
end Go.Proofs.YtepikngkbondgaaGreat
namespace Go.Proofs.YtepikngkbondgaaGreat
set_option linter.unusedVariables false
open Go.RowKit

/-- A ring: its places, rising. -/
def RingAt (w : World) (g : Nat) (S : List Pl) : Prop := ∃ A c, Blk w g 138 #[.slice A S.length c] ∧ Sl w 104 2 (.slice A S.length c) S.length (S.flatMap pC)
theorem RingAt.kept {w w' : World} {g : Nat} {S : List Pl} (h : RingAt w g S) (hk : Kept noBlock w w') : RingAt w' g S := by
  obtain ⟨A, c, hb, hs⟩ := h
  exact ⟨A, c, hb.kept hk (fun h => h), hs.keptNone hk⟩
def unnamed (l : List Pl) : Bool := l.any fun p => p.2.toList.isEmpty
def rising (S : List Pl) : Prop := S.Pairwise fun a b => a.1 < b.1
/-- What New makes of places. -/
def RingOf (l : List Pl) (S : List Pl) : Prop := S.Perm l ∧ rising S ∧ unnamed l = false
def NewPost (w : World) (l : List Pl) (e : Ending) (w' : World) : Prop :=
  Kept noBlock w w' ∧ ((unnamed l = true ∧ e = .returned (.tuple #[.pointer none, .int .i64 1])) ∨
    (unnamed l = false ∧ ¬ (l.map (·.1)).Nodup ∧ e = .returned (.tuple #[.pointer none, .int .i64 11])) ∨
    (∃ g S, RingOf l S ∧ e = .returned (.tuple #[.pointer (some ⟨g, 0, none⟩), .int .i64 0]) ∧ RingAt w' g S ∧ w.heap.size ≤ g))

theorem unnamed_perm {l S : List Pl} (h : S.Perm l) : unnamed S = unnamed l := by
  unfold unnamed
  rw [Bool.eq_iff_iff, List.any_eq_true, List.any_eq_true]
  exact ⟨fun ⟨x, a, b⟩ => ⟨x, h.mem_iff.1 a, b⟩, fun ⟨x, a, b⟩ => ⟨x, h.mem_iff.2 a, b⟩⟩
theorem rising_of {S : List Pl} (h : S.Pairwise fun a b => a.1 ≤ b.1) (ha : apart S) : rising S := by
  unfold rising
  rw [List.pairwise_iff_getElem] at h ⊢
  intro i j hi hj hij
  have h1 := h i (i + 1) hi (by omega) (by omega)
  have h2 := ha i S[i] S[i + 1] (List.getElem?_eq_getElem hi) (List.getElem?_eq_getElem (by omega))
  have h3 : S[i + 1].1 ≤ S[j].1 := by
    by_cases e : i + 1 = j
    · subst e; exact Int.le_refl _
    · exact h (i + 1) j (by omega) hj (by omega)
  omega
theorem rising_nodup {S : List Pl} (h : rising S) : (S.map (·.1)).Nodup := List.pairwise_map.2 (h.imp fun e => by omega)
theorem apart_of_nodup {S : List Pl} (h : (S.map (·.1)).Nodup) : apart S := by
  intro i p q hp hq e
  obtain ⟨hi, rfl⟩ := List.getElem?_eq_some_iff.1 hp
  obtain ⟨hj, rfl⟩ := List.getElem?_eq_some_iff.1 hq
  have := List.pairwise_iff_getElem.1 h i (i + 1) (by simpa using hi) (by simpa using hj) (by omega)
  simp only [List.getElem_map] at this
  exact this e

set_option maxHeartbeats 2000000 in
set_option maxRecDepth 100000 in
theorem Rnew_at {w : World} {ok : Nat → TypeId → Prop} {v : Value} {l : List Pl} (h : SlK w ok 2 v l.length (l.flatMap pC)) (hl : l.length ≤ 1000) :
    Calls Tryz.prog 46 #[v] w (NewPost w l) := by
  obtain ⟨A, c, rfl, -, -⟩ := h.shape
  have HC := Lib.hid (PClone_at h (by omega))
  clear h
  go_enter Tryz.func46, Tryz.ntmps46
  go_wp2_with fail
  go_at_call 63
  refine HC.out.mono ?_
  rintro e w1 ⟨v1, rfl, hown1, hk1⟩
  have hs1 := Sl.of_own hown1
  obtain ⟨A1, c1, rfl, -, -⟩ := hs1.shape
  have HO1 := Lib.hid hown1
  have HK1 := Lib.hid hk1
  clear hown1 hk1 hs1 HC
  go_wp2_with fail
  go_at_call 64
  refine (PSort_at HO1.out (by omega)).mono ?_
  rintro e w2 ⟨rfl, S, hp, hle, hs2, hk2⟩
  have hk12 : Kept noBlock w w2 := HK1.out.trans hk2 (fun i hi e => by have := (HO1.out.lt i e).1; omega)
  have hlS : S.length = l.length := hp.length_eq
  have hs2' : Sl w2 104 2 (.slice A1 l.length c1) S.length (S.flatMap pC) := by rw [hlS]; exact hs2
  have HS2 := Lib.hid hs2'
  have HK2 := Lib.hid hk12
  have HP := Lib.hid hp
  have HLE := Lib.hid hle
  have HLS := Lib.hid hlS
  clear hp hle hs2 hk2 hk12 hs2' HO1 HK1
  go_wp2_with fail
  go_at_call 67
  refine (PHas_at HS2.out (by omega)).mono ?_
  rintro e w3 ⟨rfl, hk3⟩
  have hun : (S.any fun p => p.2.toList.isEmpty) = unnamed l := unnamed_perm HP.out
  rw [hun]
  have HS3 := Lib.hid (SlK.keptNone HS2.out hk3)
  have HK3 := Lib.hid (HK2.out.trans hk3 (fun _ _ h => h))
  clear hk3 HS2 HK2 hun hlS
  cases hu : unnamed l with
  | true =>
    have HU := Lib.hid hu
    clear hu
    go_wp2
    go_ret2
    exact ⟨HK3.out, .inl ⟨HU.out, rfl⟩⟩
  | false =>
    have HU := Lib.hid hu
    clear hu
    go_wp2_with fail
    go_at_call 63
    refine (PClone_at (n := S.length) HS3.out (by rw [HLS.out]; omega)).mono ?_
    rintro e w4 ⟨v4, rfl, hown4, hk4⟩
    have hs4 := Sl.of_own hown4
    obtain ⟨A4, c4, rfl, -, -⟩ := hs4.shape
    have HS4 := Lib.hid (SlK.keptNone (SlK.any HS3.out (ok' := fun g e => e = 104 ∧ g < w3.heap.size) (fun g e hg he => ⟨he, hg⟩)) hk4)
    have HK4 := Lib.hid (HK3.out.trans hk4 (fun _ _ h => h))
    have HO4 := Lib.hid hown4
    have hz := HK3.out.size
    clear hs4 hown4 hk4 HS3 HK3
    go_wp2_with fail
    go_at_call 70
    refine (PCompact_at HO4.out (by rw [HLS.out]; omega)).mono ?_
    rintro e w5 ⟨A5, m5, c5, rfl, hm1, hm2, hm3, hk5⟩
    have hk5b : Kept noBlock w w5 := HK4.out.trans hk5 (fun i hi e => by have := (HO4.out.lt i e).1; omega)
    have hs5 : Sl w5 104 2 (.slice A1 l.length c1) S.length (S.flatMap pC) := SlK.any (SlK.keptAll HS4.out hk5 (fun i e hi hv => by have := (HO4.out.lt i hv).1; have := hi.2; omega)) (fun g e _ he => he.1)
    rw [← HLS.out] at hs5
    have HS5 := Lib.hid hs5
    have HK5 := Lib.hid hk5b
    clear hk5 hk5b hs5 HS4 HK4 HO4
    by_cases hap : apart S
    · have hm := hm2 hap
      have hris := rising_of HLE.out hap
      have hmn : ¬ m5 < l.length := by rw [hm, HLS.out]; omega
      have HR := Lib.hid (⟨HP.out, hris, HU.out⟩ : RingOf l S)
      clear hap hris hm1 hm2 hm3 hm
      have hb := Blk.new w5 138 #[.slice A1 l.length c1]
      have HRA := Lib.hid (show RingAt (w5.alloc (.cells #[.slice A1 l.length c1] 138)) w5.heap.size S from ⟨A1, c1, by rw [HLS.out]; exact hb, HS5.out.alloc _⟩)
      have hz5 := HK5.out.size
      clear hb
      go_wp2
      go_ret2
      exact ⟨HK5.out.alloc _, .inr (.inr ⟨_, S, HR.out, rfl, HRA.out, hz5⟩)⟩
    · have hm := hm3 hap
      rw [HLS.out] at hm
      have hnd : ¬ (l.map (·.1)).Nodup := fun e => hap (apart_of_nodup ((HP.out.map (·.1)).nodup_iff.2 e))
      have HN := Lib.hid hnd
      clear hap hnd hm1 hm2 hm3
      go_wp2
      go_ret2
      exact ⟨HK5.out, .inr (.inl ⟨HU.out, HN.out, rfl⟩)⟩
end Go.Proofs.YtepikngkbondgaaGreat
namespace Go.Proofs.YtepikngkbondgaaGreat
set_option linter.unusedVariables false
open Go.RowKit

theorem strEq (a b : ByteArray) : (a.toList == b.toList) = decide (a = b) := by
  rw [← beq_toListBytes]
  cases a with
  | mk x =>
    cases b with
    | mk y =>
      show (x == y) = _
      by_cases h : x = y
      · subst h; simp
      · have h2 : ¬ (ByteArray.mk x = ByteArray.mk y) := fun e => h (by injection e)
        rw [decide_eq_false h2]
        simp [h]
theorem strEq_self (a : ByteArray) : (a.toList == a.toList) = true := by rw [strEq]; simp
theorem strEq_ne {a b : ByteArray} (h : a ≠ b) : (a.toList == b.toList) = false := by rw [strEq]; simp [h]
end Go.Proofs.YtepikngkbondgaaGreat
namespace Go.Proofs.YtepikngkbondgaaGreat
set_option linter.unusedVariables false
open Go.RowKit

structure Ho where
  name : ByteArray
  dc : ByteArray
  rack : ByteArray
  toks : List Int
  up : Bool
/-- A text is ahead of another one. -/
def nlt (a b : ByteArray) : Prop := a.toList < b.toList
theorem nlt_iff (a b : ByteArray) : a.data.toList < b.data.toList ↔ nlt a b := by unfold nlt; rw [ByteArray.toList_eq, ByteArray.toList_eq]
instance decNlt (a b : ByteArray) : Decidable (nlt a b) := decidable_of_iff (a.data.toList < b.data.toList) (nlt_iff a b)
theorem toList_inj {a b : ByteArray} (h : a.toList = b.toList) : a = b := by
  have := strEq a b
  rw [h] at this
  simpa using this
theorem nlt_irrefl (a : ByteArray) : ¬ nlt a a := List.lt_irrefl _
theorem nlt_trans {a b c : ByteArray} (h : nlt a b) (k : nlt b c) : nlt a c := List.lt_trans h k
theorem nlt_tri {a b : ByteArray} (h : ¬ nlt a b) (k : ¬ nlt b a) : a = b := toList_inj (List.le_antisymm (List.not_lt.1 k) (List.not_lt.1 h))
theorem nlt_asymm {a b : ByteArray} (h : nlt a b) : ¬ nlt b a := fun k => nlt_irrefl a (nlt_trans h k)
def risingH (S : List Ho) : Prop := S.Pairwise fun a b => nlt a.name b.name
def getS (x : ByteArray) (S : List Ho) : Option Ho := S.find? fun h => decide (h.name = x)
theorem getS_name {x : ByteArray} {S : List Ho} {h : Ho} (e : getS x S = some h) : h.name = x := by simpa using List.find?_some e
theorem getS_mem {x : ByteArray} {S : List Ho} {h : Ho} (e : getS x S = some h) : h ∈ S := List.mem_of_find?_eq_some e
theorem getS_none {x : ByteArray} {S : List Ho} : getS x S = none ↔ ∀ h ∈ S, h.name ≠ x := by
  unfold getS; rw [List.find?_eq_none]; simp
theorem rising_ne {S : List Ho} (hS : risingH S) : S.Pairwise fun a b => a.name ≠ b.name := List.Pairwise.imp (R := fun a b : Ho => nlt a.name b.name) (S := fun a b : Ho => a.name ≠ b.name) (fun {a b} h e => nlt_irrefl b.name (by rw [e] at h; exact h)) hS
theorem getS_of_mem : ∀ {S : List Ho} {h : Ho}, S.Pairwise (fun a b => a.name ≠ b.name) → h ∈ S → getS h.name S = some h
  | [], _, _, hh => by cases hh
  | a :: S, h, hS, hh => by
    obtain ⟨h1, h2⟩ := List.pairwise_cons.1 hS
    unfold getS
    rw [List.find?_cons]
    rcases List.mem_cons.1 hh with rfl | hh
    · simp
    · rw [decide_eq_false (h1 h hh)]
      exact getS_of_mem h2 hh
theorem ne_nodup {S : List Ho} (h : S.Pairwise fun a b => a.name ≠ b.name) : S.Nodup := h.imp fun h e => h (by rw [e])
/-- Two rows of the same hosts are a permutation of each other. -/
theorem perm_of_get {S S' : List Ho} (h : S.Pairwise fun a b => a.name ≠ b.name) (h' : S'.Pairwise fun a b => a.name ≠ b.name) (e : ∀ x, getS x S = getS x S') : S.Perm S' :=
  (List.perm_ext_iff_of_nodup (ne_nodup h) (ne_nodup h')).2 fun a => ⟨fun ha => getS_mem ((e a.name) ▸ getS_of_mem h ha), fun ha => getS_mem ((e a.name).symm ▸ getS_of_mem h' ha)⟩
theorem rising_ext {S S' : List Ho} (h : risingH S) (h' : risingH S') (e : ∀ x, getS x S = getS x S') : S = S' :=
  List.Perm.eq_of_pairwise (fun a b _ _ h1 h2 => absurd h2 (nlt_asymm h1)) h h' (perm_of_get (rising_ne h) (rising_ne h') e)
theorem nlt_nodup {A : List ByteArray} (h : A.Pairwise nlt) : A.Nodup := List.Pairwise.imp (R := nlt) (S := fun a b => a ≠ b) (fun {a b} h e => nlt_irrefl b (by rw [e] at h; exact h)) h
theorem names_ext {A B : List ByteArray} (h : A.Pairwise nlt) (h' : B.Pairwise nlt) (e : ∀ x, x ∈ A ↔ x ∈ B) : A = B :=
  List.Perm.eq_of_pairwise (fun a b _ _ h1 h2 => absurd h2 (nlt_asymm h1)) h h' ((List.perm_ext_iff_of_nodup (nlt_nodup h) (nlt_nodup h')).2 e)
theorem ints_ext {A B : List Int} (h : A.Pairwise (· < ·)) (h' : B.Pairwise (· < ·)) (e : ∀ x, x ∈ A ↔ x ∈ B) : A = B :=
  List.Perm.eq_of_pairwise (fun a b _ _ h1 h2 => by omega) h h' ((List.perm_ext_iff_of_nodup (h.imp fun h e => by omega) (h'.imp fun h e => by omega)).2 e)

/-! Tokens, rising, each one once. -/
def tokAt (l : List Int) (x : Int) : Nat := l.findIdx fun y => !decide (y < x)
def insTok (l : List Int) (x : Int) : List Int := if l[tokAt l x]? = some x then l else l.take (tokAt l x) ++ x :: l.drop (tokAt l x)
def tidyP (l : List Int) : List Int := l.foldl insTok []
theorem tokAt_le (l : List Int) (x : Int) : tokAt l x ≤ l.length := List.findIdx_le_length
theorem tokAt_lt {l : List Int} {x y : Int} {k : Nat} (h : k < tokAt l x) (hy : l[k]? = some y) : y < x := by
  have h1 := List.not_of_lt_findIdx h
  have h2 : l[k]'(Nat.lt_of_lt_of_le h (tokAt_le l x)) = y := (List.getElem?_eq_some_iff.1 hy).2
  rw [h2] at h1
  simpa using h1
theorem tokAt_ge {l : List Int} {x y : Int} (hy : l[tokAt l x]? = some y) : ¬ y < x := by
  obtain ⟨h1, h2⟩ := List.getElem?_eq_some_iff.1 hy
  have h3 := List.findIdx_getElem (w := h1)
  have h4 : (!decide (l[tokAt l x] < x)) = true := h3
  rw [h2] at h4
  simpa using h4
theorem insTok_spec {l : List Int} (h : l.Pairwise (· < ·)) (x : Int) : (insTok l x).Pairwise (· < ·) ∧ ∀ y, y ∈ insTok l x ↔ y = x ∨ y ∈ l := by
  unfold insTok
  by_cases e : l[tokAt l x]? = some x
  · rw [if_pos e]
    exact ⟨h, fun y => ⟨.inr, fun hy => hy.elim (fun e2 => e2 ▸ List.mem_of_getElem? e) id⟩⟩
  · rw [if_neg e]
    have hs := List.take_append_drop (tokAt l x) l
    have hm : ∀ y, y ∈ l ↔ y ∈ l.take (tokAt l x) ∨ y ∈ l.drop (tokAt l x) := fun y => by rw [← List.mem_append, hs]
    have h1 : ∀ y ∈ l.take (tokAt l x), y < x := by
      intro y hy
      obtain ⟨k, hk⟩ := List.getElem?_of_mem hy
      have hkl : k < tokAt l x := by
        have := (List.getElem?_eq_some_iff.1 hk).1
        rw [List.length_take] at this; omega
      rw [List.getElem?_take_of_lt hkl] at hk
      exact tokAt_lt hkl hk
    have h2 : ∀ y ∈ l.drop (tokAt l x), x < y := by
      rw [← hs] at h
      have hd := (List.pairwise_append.1 h).2.1
      cases hq : l.drop (tokAt l x) with
      | nil => intro y hy; cases hy
      | cons z r =>
        have hz : l[tokAt l x]? = some z := by
          have := congrArg (fun t => t[0]?) hq
          simpa using this
        have h3 := tokAt_ge hz
        have h4 : z ≠ x := fun e2 => e (by rw [hz, e2])
        rw [hq] at hd
        intro y hy
        rcases List.mem_cons.1 hy with rfl | hy
        · omega
        · have := (List.pairwise_cons.1 hd).1 y hy; omega
    rw [← hs] at h
    obtain ⟨p1, p2, p3⟩ := List.pairwise_append.1 h
    refine ⟨List.pairwise_append.2 ⟨p1, List.pairwise_cons.2 ⟨h2, p2⟩, fun a ha b hb => ?_⟩, fun y => ?_⟩
    · rcases List.mem_cons.1 hb with rfl | hb
      · exact h1 a ha
      · have := h1 a ha; have := h2 b hb; omega
    · rw [List.mem_append, List.mem_cons, hm]
      constructor
      · rintro (h | h | h)
        · exact .inr (.inl h)
        · exact .inl h
        · exact .inr (.inr h)
      · rintro (h | h | h)
        · exact .inr (.inl h)
        · exact .inl h
        · exact .inr (.inr h)
theorem tidy_fold : ∀ (l out : List Int), out.Pairwise (· < ·) → (l.foldl insTok out).Pairwise (· < ·) ∧ ∀ y, y ∈ l.foldl insTok out ↔ y ∈ out ∨ y ∈ l
  | [], out, h => ⟨h, by simp⟩
  | a :: l, out, h => by
    obtain ⟨h1, h2⟩ := insTok_spec h a
    obtain ⟨h3, h4⟩ := tidy_fold l (insTok out a) h1
    refine ⟨h3, fun y => ?_⟩
    rw [List.foldl_cons, h4, h2, List.mem_cons]
    constructor
    · rintro ((h | h) | h)
      · exact .inr (.inl h)
      · exact .inl h
      · exact .inr (.inr h)
    · rintro (h | h | h)
      · exact .inl (.inr h)
      · exact .inl (.inl h)
      · exact .inr h
theorem tidy_spec (l : List Int) : (tidyP l).Pairwise (· < ·) ∧ ∀ y, y ∈ tidyP l ↔ y ∈ l := by
  have := tidy_fold l [] .nil
  exact ⟨this.1, fun y => (this.2 y).trans (by simp)⟩
theorem tidy_uniq {l out : List Int} (h : out.Pairwise (· < ·)) (hm : ∀ y, y ∈ out ↔ y ∈ l) : out = tidyP l :=
  ints_ext h (tidy_spec l).1 fun x => (hm x).trans ((tidy_spec l).2 x).symm

/-! A refresh. -/
abbrev View := ByteArray → Option Ho
def updH (V : View) (h : Ho) : Ho := { h with toks := tidyP h.toks, up := match V h.name with | some o => o.up | none => h.up }
/-- Who is there behind a refresh. -/
def refr (V : View) (l : List Ho) (x : ByteArray) : Option Ho := if x = noStr then none else (getS x l).map (updH V)
theorem refr_nil (V : View) (x : ByteArray) : refr V [] x = none := by unfold refr getS; split <;> rfl
theorem refr_snoc (V : View) (l : List Ho) (h : Ho) (x : ByteArray) : refr V (l ++ [h]) x = match refr V l x with
    | some o => some o
    | none => if h.name = x ∧ x ≠ noStr then some (updH V h) else none := by
  unfold refr getS
  by_cases e : x = noStr
  · rw [if_pos e, if_pos e]; simp [e]
  · rw [if_neg e, if_neg e, List.find?_append]
    cases hf : l.find? fun h => decide (h.name = x) with
    | some o => rfl
    | none =>
      by_cases e2 : h.name = x
      · simp [e, e2]
      · simp [e2]
theorem refr_name {V : View} {l : List Ho} {x : ByteArray} {h : Ho} (e : refr V l x = some h) : h.name = x ∧ x ≠ noStr := by
  unfold refr at e
  by_cases h1 : x = noStr
  · rw [if_pos h1] at e; cases e
  · rw [if_neg h1] at e
    obtain ⟨o, ho, rfl⟩ := Option.map_eq_some_iff.1 e
    exact ⟨show o.name = x from getS_name ho, h1⟩

/-! The reference's way: one behind the other, each at its place. -/
def hoAt (S : List Ho) (x : ByteArray) : Nat := S.findIdx fun o => !decide (nlt o.name x)
def insH (S : List Ho) (h : Ho) : List Ho := S.take (hoAt S h.name) ++ h :: S.drop (hoAt S h.name)
theorem insH_spec {S : List Ho} (hS : risingH S) {h : Ho} (hn : getS h.name S = none) : risingH (insH S h) ∧ ∀ x, getS x (insH S h) = if h.name = x then some h else getS x S := by
  have hne := getS_none.1 hn
  have hs := List.take_append_drop (hoAt S h.name) S
  have h1 : ∀ o ∈ S.take (hoAt S h.name), nlt o.name h.name := by
    intro o ho
    obtain ⟨k, hk⟩ := List.getElem?_of_mem ho
    have hkl : k < hoAt S h.name := by
      have := (List.getElem?_eq_some_iff.1 hk).1
      rw [List.length_take] at this; omega
    rw [List.getElem?_take_of_lt hkl] at hk
    have h3 := List.not_of_lt_findIdx hkl
    have h4 := (List.getElem?_eq_some_iff.1 hk).2
    rw [h4] at h3
    simpa using h3
  have h2 : ∀ o ∈ S.drop (hoAt S h.name), nlt h.name o.name := by
    have hS2 := hS
    unfold risingH at hS2
    rw [← hs] at hS2
    have hd := (List.pairwise_append.1 hS2).2.1
    cases hq : S.drop (hoAt S h.name) with
    | nil => intro o ho; cases ho
    | cons z r =>
      have hz : S[hoAt S h.name]? = some z := by
        have := congrArg (fun t => t[0]?) hq
        simpa using this
      obtain ⟨h5, h6⟩ := List.getElem?_eq_some_iff.1 hz
      have h7 := List.findIdx_getElem (w := h5)
      have h7' : (!decide (nlt (S[hoAt S h.name]).name h.name)) = true := h7
      rw [h6] at h7'
      have h8 : ¬ nlt z.name h.name := by simpa using h7'
      have h9 : nlt h.name z.name := Classical.byContradiction fun e => hne z (List.mem_of_getElem? hz) (nlt_tri h8 e)
      rw [hq] at hd
      intro o ho
      rcases List.mem_cons.1 ho with rfl | ho
      · exact h9
      · exact nlt_trans h9 ((List.pairwise_cons.1 hd).1 o ho)
  have hS2 := hS
  unfold risingH at hS2
  rw [← hs] at hS2
  obtain ⟨p1, p2, p3⟩ := List.pairwise_append.1 hS2
  constructor
  · exact List.pairwise_append.2 ⟨p1, List.pairwise_cons.2 ⟨h2, p2⟩, fun a ha b hb => by
      rcases List.mem_cons.1 hb with rfl | hb
      · exact h1 a ha
      · exact p3 a ha b hb⟩
  · intro x
    unfold insH getS
    conv => rhs; rw [← hs]
    rw [List.find?_append, List.find?_append, List.find?_cons]
    by_cases e : h.name = x
    · have hnt : (S.take (hoAt S h.name)).find? (fun o => decide (o.name = x)) = none := List.find?_eq_none.2 fun o ho => by
        have := hne o (List.mem_of_mem_take ho)
        rw [e] at this
        simpa using this
      rw [hnt, decide_eq_true e, if_pos e]; rfl
    · rw [decide_eq_false e, if_neg e]
def refStep (V : View) (now : List Ho) (h : Ho) : List Ho := if h.name = noStr ∨ (getS h.name now).isSome = true then now else insH now (updH V h)
def refNow (V : View) (l : List Ho) : List Ho := l.foldl (refStep V) []
theorem refNow_fold (V : View) : ∀ (l l0 now : List Ho), risingH now → (∀ x, getS x now = refr V l0 x) → risingH (l.foldl (refStep V) now) ∧ ∀ x, getS x (l.foldl (refStep V) now) = refr V (l0 ++ l) x
  | [], l0, now, h1, h2 => ⟨h1, by simpa using h2⟩
  | h :: l, l0, now, h1, h2 => by
    have key : risingH (refStep V now h) ∧ ∀ x, getS x (refStep V now h) = refr V (l0 ++ [h]) x := by
      unfold refStep
      by_cases e : h.name = noStr ∨ (getS h.name now).isSome = true
      · rw [if_pos e]
        refine ⟨h1, fun x => ?_⟩
        rw [refr_snoc, h2]
        cases hr : refr V l0 x with
        | some o => rfl
        | none =>
          have : ¬ (h.name = x ∧ x ≠ noStr) := by
            rintro ⟨e1, e2⟩
            rcases e with e | e
            · exact e2 (e1 ▸ e)
            · rw [e1, h2, hr] at e; cases e
          simp only [if_neg this]
      · rw [if_neg e]
        have en : getS (updH V h).name now = none := by
          cases hg : getS (updH V h).name now with
          | none => rfl
          | some o => exact absurd (.inr (by rw [show h.name = (updH V h).name from rfl, hg]; rfl)) e
        obtain ⟨g1, g2⟩ := insH_spec h1 en
        refine ⟨g1, fun x => ?_⟩
        rw [g2, refr_snoc, h2]
        by_cases e1 : h.name = x
        · have e2 : refr V l0 x = none := by rw [← h2, ← e1]; exact en
          have e3 : x ≠ noStr := fun e4 => e (.inl (e1.trans e4))
          rw [if_pos (show (updH V h).name = x from e1), e2]
          simp only [if_pos (And.intro e1 e3)]
        · rw [if_neg (show ¬ (updH V h).name = x from e1)]
          cases hr : refr V l0 x with
          | some o => rfl
          | none => simp only [if_neg (fun e4 : h.name = x ∧ x ≠ noStr => e1 e4.1)]
    have := refNow_fold V l (l0 ++ [h]) (refStep V now h) key.1 key.2
    rw [List.append_assoc] at this
    exact this
theorem refNow_spec (V : View) (l : List Ho) : risingH (refNow V l) ∧ ∀ x, getS x (refNow V l) = refr V l x := by
  have := refNow_fold V l [] [] .nil fun x => by rw [refr_nil]; rfl
  exact ⟨this.1, fun x => by have h := this.2 x; rw [List.nil_append] at h; exact h⟩
end Go.Proofs.YtepikngkbondgaaGreat
namespace Go.Proofs.YtepikngkbondgaaGreat
set_option linter.unusedVariables false
open Go.RowKit

/-! How far a host is. -/
def aheadN (S : List Ho) (d x : ByteArray) : Nat := (S.filter fun o => decide (o.dc = d) && decide (nlt o.name x)).length
def distP (dc : ByteArray) (rem : Int) (S : List Ho) (x : ByteArray) : Int :=
  match getS x S with
  | none => 0
  | some h => if h.dc = dc then 1 else if (aheadN S h.dc x : Int) < rem then 2 else 0
theorem ahead_perm {S S' : List Ho} (h : S.Perm S') (d x : ByteArray) : aheadN S d x = aheadN S' d x := (h.filter _).length_eq
theorem ahead_take {S : List Ho} (hS : risingH S) {at_ : Nat} {h : Ho} (ha : S[at_]? = some h) : aheadN S h.dc h.name = ((S.take at_).filter fun o => decide (o.dc = h.dc)).length := by
  have e : S = S.take at_ ++ h :: S.drop (at_ + 1) := by
    conv => lhs; rw [← List.take_append_drop at_ S]
    rw [List.drop_eq_getElem_cons (List.getElem?_eq_some_iff.1 ha).1, (List.getElem?_eq_some_iff.1 ha).2]
  have hS2 := hS
  unfold risingH at hS2
  rw [e] at hS2
  obtain ⟨-, p2, p3⟩ := List.pairwise_append.1 hS2
  obtain ⟨p4, -⟩ := List.pairwise_cons.1 p2
  unfold aheadN
  conv => lhs; rw [e]
  rw [List.filter_append, List.length_append]
  have h1 : (h :: S.drop (at_ + 1)).filter (fun o => decide (o.dc = h.dc) && decide (nlt o.name h.name)) = [] := by
    refine List.filter_eq_nil_iff.2 fun o ho e2 => ?_
    have e3 : nlt o.name h.name := by
      have := (Bool.and_eq_true_iff.1 e2).2
      simpa using this
    rcases List.mem_cons.1 ho with rfl | ho
    · exact nlt_irrefl _ e3
    · exact nlt_asymm (p4 o ho) e3
  have h2 : (S.take at_).filter (fun o => decide (o.dc = h.dc) && decide (nlt o.name h.name)) = (S.take at_).filter fun o => decide (o.dc = h.dc) := by
    refine List.filter_congr fun o ho => ?_
    have := p3 o ho h (List.mem_cons_self ..)
    rw [decide_eq_true this, Bool.and_true]
  rw [h1, h2]; rfl

/-! The places of the ring. -/
def pairsH (S : List Ho) : List Pl := S.flatMap fun h => h.toks.map fun k => (k, h.name)
def getP (k : Int) (l : List Pl) : Option Pl := l.find? fun p => decide (p.1 = k)
/-- The program's way: whose token was not taken yet. -/
def takeP (out : List Pl) (p : Pl) : List Pl := if (getP p.1 out).isSome = true then out else out ++ [p]
def placesP (S : List Ho) : List Pl := (pairsH S).foldl takeP []
theorem getP_snoc (k : Int) (l : List Pl) (p : Pl) : getP k (l ++ [p]) = match getP k l with
    | some o => some o
    | none => if p.1 = k then some p else none := by
  unfold getP
  rw [List.find?_append]
  cases l.find? fun p => decide (p.1 = k) with
  | some o => rfl
  | none => by_cases e : p.1 = k <;> simp [e]
theorem getP_none {k : Int} {l : List Pl} : getP k l = none ↔ ∀ p ∈ l, p.1 ≠ k := by
  unfold getP; rw [List.find?_eq_none]; simp
theorem getP_mem {k : Int} {l : List Pl} {p : Pl} (h : getP k l = some p) : p ∈ l ∧ p.1 = k := ⟨List.mem_of_find?_eq_some h, by simpa using List.find?_some h⟩
theorem takeP_fold : ∀ (l l0 out : List Pl), (out.map (·.1)).Nodup → (∀ k, getP k out = getP k l0) → ((l.foldl takeP out).map (·.1)).Nodup ∧ ∀ k, getP k (l.foldl takeP out) = getP k (l0 ++ l)
  | [], l0, out, h1, h2 => ⟨h1, by simpa using h2⟩
  | p :: l, l0, out, h1, h2 => by
    have key : ((takeP out p).map (·.1)).Nodup ∧ ∀ k, getP k (takeP out p) = getP k (l0 ++ [p]) := by
      unfold takeP
      by_cases e : (getP p.1 out).isSome = true
      · rw [if_pos e]
        refine ⟨h1, fun k => ?_⟩
        rw [getP_snoc, h2]
        cases hk : getP k l0 with
        | some o => rfl
        | none =>
          by_cases e2 : p.1 = k
          · rw [e2, h2, hk] at e; cases e
          · simp only [if_neg e2]
      · rw [if_neg e]
        have en : getP p.1 out = none := by simpa using e
        refine ⟨?_, fun k => by rw [getP_snoc, getP_snoc, h2]⟩
        rw [List.map_append, List.nodup_append]
        refine ⟨h1, by simp, ?_⟩
        rintro a ha b hb rfl
        obtain ⟨q, hq, rfl⟩ := List.mem_map.1 ha
        have : q.1 = p.1 := by simpa using hb
        exact getP_none.1 en q hq this
    have := takeP_fold l (l0 ++ [p]) (takeP out p) key.1 key.2
    rw [List.append_assoc] at this
    exact this
theorem places_spec (S : List Ho) : ((placesP S).map (·.1)).Nodup ∧ ∀ k, getP k (placesP S) = getP k (pairsH S) := by
  have := takeP_fold (pairsH S) [] [] .nil fun _ => rfl
  exact ⟨this.1, fun k => by have h := this.2 k; rw [List.nil_append] at h; exact h⟩
/-- The reference's way: each at its place. -/
def plAt (l : List Pl) (k : Int) : Nat := l.findIdx fun p => !decide (p.1 < k)
def insP (l : List Pl) (p : Pl) : List Pl := if (l[plAt l p.1]?).map (·.1) = some p.1 then l else l.take (plAt l p.1) ++ p :: l.drop (plAt l p.1)
def refRing (S : List Ho) : List Pl := (pairsH S).foldl insP []
theorem insP_spec {l : List Pl} (h : rising l) (p : Pl) : rising (insP l p) ∧ ∀ k, getP k (insP l p) = match getP k l with
    | some o => some o
    | none => if p.1 = k then some p else none := by
  have hs := List.take_append_drop (plAt l p.1) l
  have h1 : ∀ q ∈ l.take (plAt l p.1), q.1 < p.1 := by
    intro o ho
    obtain ⟨k, hk⟩ := List.getElem?_of_mem ho
    have hkl : k < plAt l p.1 := by
      have := (List.getElem?_eq_some_iff.1 hk).1
      rw [List.length_take] at this; omega
    rw [List.getElem?_take_of_lt hkl] at hk
    have h3 := List.not_of_lt_findIdx hkl
    have h4 := (List.getElem?_eq_some_iff.1 hk).2
    rw [h4] at h3
    simpa using h3
  unfold insP
  by_cases e : (l[plAt l p.1]?).map (·.1) = some p.1
  · rw [if_pos e]
    refine ⟨h, fun k => ?_⟩
    obtain ⟨o, ho, e2⟩ := Option.map_eq_some_iff.1 e
    cases hk : getP k l with
    | some o => rfl
    | none =>
      have : ¬ p.1 = k := fun e3 => getP_none.1 hk o (List.mem_of_getElem? ho) (e2.trans e3)
      simp only [if_neg this]
  · rw [if_neg e]
    have h2 : ∀ q ∈ l.drop (plAt l p.1), p.1 < q.1 := by
      have hS2 := h
      unfold rising at hS2
      rw [← hs] at hS2
      have hd := (List.pairwise_append.1 hS2).2.1
      cases hq : l.drop (plAt l p.1) with
      | nil => intro o ho; cases ho
      | cons z r =>
        have hz : l[plAt l p.1]? = some z := by
          have := congrArg (fun t => t[0]?) hq
          simpa using this
        obtain ⟨h5, h6⟩ := List.getElem?_eq_some_iff.1 hz
        have h7 := List.findIdx_getElem (w := h5)
        have h7' : (!decide ((l[plAt l p.1]).1 < p.1)) = true := h7
        rw [h6] at h7'
        have h8 : ¬ z.1 < p.1 := by simpa using h7'
        have h9 : z.1 ≠ p.1 := fun e2 => e (by rw [hz]; simp [e2])
        rw [hq] at hd
        intro o ho
        rcases List.mem_cons.1 ho with rfl | ho
        · omega
        · have := (List.pairwise_cons.1 hd).1 o ho; omega
    have hS2 := h
    unfold rising at hS2
    rw [← hs] at hS2
    obtain ⟨p1, p2, p3⟩ := List.pairwise_append.1 hS2
    constructor
    · exact List.pairwise_append.2 ⟨p1, List.pairwise_cons.2 ⟨h2, p2⟩, fun a ha b hb => by
        rcases List.mem_cons.1 hb with rfl | hb
        · exact h1 a ha
        · exact p3 a ha b hb⟩
    · intro k
      unfold getP
      conv => rhs; rw [← hs]
      rw [List.find?_append, List.find?_append, List.find?_cons]
      by_cases e1 : p.1 = k
      · have hnt : (l.take (plAt l p.1)).find? (fun o => decide (o.1 = k)) = none := List.find?_eq_none.2 fun o ho => by
          have := h1 o ho
          simp; omega
        have hnd : (l.drop (plAt l p.1)).find? (fun o => decide (o.1 = k)) = none := List.find?_eq_none.2 fun o ho => by
          have := h2 o ho
          simp; omega
        rw [hnt, hnd, decide_eq_true e1]
        simp [e1]
      · rw [decide_eq_false e1]
        cases hk : (l.take (plAt l p.1)).find? (fun o => decide (o.1 = k)) with
        | some o => rfl
        | none =>
          cases hk2 : (l.drop (plAt l p.1)).find? (fun o => decide (o.1 = k)) with
          | some o => rfl
          | none => simp [e1]
theorem insP_fold : ∀ (l l0 out : List Pl), rising out → (∀ k, getP k out = getP k l0) → rising (l.foldl insP out) ∧ ∀ k, getP k (l.foldl insP out) = getP k (l0 ++ l)
  | [], l0, out, h1, h2 => ⟨h1, by simpa using h2⟩
  | p :: l, l0, out, h1, h2 => by
    obtain ⟨g1, g2⟩ := insP_spec h1 p
    have := insP_fold l (l0 ++ [p]) (insP out p) g1 (fun k => by rw [g2, getP_snoc, h2])
    rw [List.append_assoc] at this
    exact this
theorem refRing_spec (S : List Ho) : rising (refRing S) ∧ ∀ k, getP k (refRing S) = getP k (pairsH S) := by
  have := insP_fold (pairsH S) [] [] .nil fun _ => rfl
  exact ⟨this.1, fun k => by have h := this.2 k; rw [List.nil_append] at h; exact h⟩
theorem getP_of_mem : ∀ {l : List Pl} {p : Pl}, (l.map (·.1)).Nodup → p ∈ l → getP p.1 l = some p
  | [], _, _, h => by cases h
  | a :: l, p, hn, h => by
    have hn' : a.1 ∉ l.map (·.1) ∧ (l.map (·.1)).Nodup := List.nodup_cons.1 hn
    unfold getP
    rw [List.find?_cons]
    rcases List.mem_cons.1 h with rfl | h
    · simp
    · rw [decide_eq_false (show ¬ a.1 = p.1 from fun e => hn'.1 (e ▸ List.mem_map.2 ⟨p, h, rfl⟩))]
      exact getP_of_mem hn'.2 h
theorem pl_nodup {l : List Pl} (h : (l.map (·.1)).Nodup) : l.Nodup := List.Pairwise.imp (R := fun a b : Pl => a.1 ≠ b.1) (S := fun a b : Pl => a ≠ b) (fun {a b} h e => h (by rw [e])) (List.pairwise_map.1 h)
/-- Both rings are of the same places. -/
theorem ring_perm (S : List Ho) : (refRing S).Perm (placesP S) := by
  have h1 := refRing_spec S
  have h2 := places_spec S
  have n1 := rising_nodup h1.1
  refine (List.perm_ext_iff_of_nodup (pl_nodup n1) (pl_nodup h2.1)).2 fun p => ⟨fun h => ?_, fun h => ?_⟩
  · have := getP_of_mem n1 h
    rw [h1.2, ← h2.2] at this
    exact (getP_mem this).1
  · have := getP_of_mem h2.1 h
    rw [h2.2, ← h1.2] at this
    exact (getP_mem this).1
theorem places_named {S : List Ho} (h : ∀ o ∈ S, o.name ≠ noStr) : ∀ p ∈ placesP S, p.2 ≠ noStr := by
  intro p hp
  have h2 := places_spec S
  have := getP_of_mem h2.1 hp
  rw [h2.2] at this
  obtain ⟨o, ho, hq⟩ := List.mem_flatMap.1 (getP_mem this).1
  obtain ⟨k, _, rfl⟩ := List.mem_map.1 hq
  exact h o ho

/-! What is new, what is gone. -/
def addedP (V : View) (S : List Ho) : List ByteArray := (S.filter fun h => (V h.name).isNone).map (·.name)
def goneP (S0 S : List Ho) : List ByteArray := (S0.filter fun h => (getS h.name S).isNone).map (·.name)
theorem rising_names {S : List Ho} (h : risingH S) (P : Ho → Bool) : ((S.filter P).map (·.name)).Pairwise nlt := List.pairwise_map.2 (List.Pairwise.filter P h)
theorem added_mem {V : View} {l : List Ho} {x : ByteArray} : x ∈ addedP V (refNow V l) ↔ (refr V l x).isSome = true ∧ V x = none := by
  have h := refNow_spec V l
  unfold addedP
  constructor
  · intro hx
    obtain ⟨o, ho, rfl⟩ := List.mem_map.1 hx
    obtain ⟨h1, h2⟩ := List.mem_filter.1 ho
    have := getS_of_mem (rising_ne h.1) h1
    rw [h.2] at this
    exact ⟨by rw [this]; rfl, by simpa using h2⟩
  · rintro ⟨h1, h2⟩
    obtain ⟨o, ho⟩ := Option.isSome_iff_exists.1 h1
    have h3 := ho
    rw [← h.2] at h3
    have h4 := getS_name h3
    exact List.mem_map.2 ⟨o, List.mem_filter.2 ⟨getS_mem h3, by rw [h4, h2]; rfl⟩, h4⟩
theorem gone_mem {S0 : List Ho} {V : View} {l : List Ho} {x : ByteArray} (h0 : risingH S0) : x ∈ goneP S0 (refNow V l) ↔ (getS x S0).isSome = true ∧ refr V l x = none := by
  have h := refNow_spec V l
  unfold goneP
  constructor
  · intro hx
    obtain ⟨o, ho, rfl⟩ := List.mem_map.1 hx
    obtain ⟨h1, h2⟩ := List.mem_filter.1 ho
    have := getS_of_mem (rising_ne h0) h1
    exact ⟨by rw [this]; rfl, by rw [← h.2]; simpa using h2⟩
  · rintro ⟨h1, h2⟩
    obtain ⟨o, ho⟩ := Option.isSome_iff_exists.1 h1
    have h4 := getS_name ho
    exact List.mem_map.2 ⟨o, List.mem_filter.2 ⟨getS_mem ho, by rw [h4, h.2, h2]; rfl⟩, h4⟩
end Go.Proofs.YtepikngkbondgaaGreat
namespace Go.Proofs.YtepikngkbondgaaGreat
set_option linter.unusedVariables false

theorem refr_has {V : View} {l : List Ho} {x : ByteArray} (hx : x ≠ noStr) : (refr V l x).isSome = true ↔ ∃ h ∈ l, h.name = x := by
  unfold refr getS
  rw [if_neg hx, Option.isSome_map, List.find?_isSome]
  constructor
  · rintro ⟨h, h1, h2⟩
    exact ⟨h, h1, by simpa using h2⟩
  · rintro ⟨h, h1, h2⟩
    exact ⟨h, h1, by simpa using h2⟩
theorem refr_empty (V : View) (l : List Ho) : refr V l noStr = none := by unfold refr; rw [if_pos rfl]
/-- A host that has been seen adds nothing. -/
theorem refr_seen {V : View} {l : List Ho} {h : Ho} (hs : h.name = noStr ∨ ∃ o ∈ l, o.name = h.name) (x : ByteArray) : refr V (l ++ [h]) x = refr V l x := by
  rw [refr_snoc]
  cases e : refr V l x with
  | some o => rfl
  | none =>
    show (if h.name = x ∧ x ≠ noStr then some (updH V h) else none) = none
    rw [if_neg]
    rintro ⟨rfl, hne⟩
    rcases hs with hs | hs
    · exact hne hs
    · have := (refr_has (V := V) hne).2 hs
      rw [e] at this
      cases this
/-- A new host is entered. -/
theorem refr_new {V : View} {l : List Ho} {h : Ho} (hn : h.name ≠ noStr) (hs : ¬ ∃ o ∈ l, o.name = h.name) (x : ByteArray) : refr V (l ++ [h]) x = if h.name = x then some (updH V h) else refr V l x := by
  rw [refr_snoc]
  by_cases e : h.name = x
  · subst e
    have h1 : refr V l h.name = none := by
      cases e : refr V l h.name with
      | none => rfl
      | some o => exact absurd ((refr_has hn).1 (by rw [e]; rfl)) hs
    rw [h1, if_pos rfl]
    show (if h.name = h.name ∧ h.name ≠ noStr then some (updH V h) else none) = _
    rw [if_pos ⟨rfl, hn⟩]
  · rw [if_neg e]
    cases refr V l x with
    | some o => rfl
    | none =>
      show (if h.name = x ∧ x ≠ noStr then some (updH V h) else none) = none
      rw [if_neg fun k => e k.1]
/-- The map's view behind the hosts l. -/
def viewR (V : View) (l : List Ho) : View := fun x => match refr V l x with
  | some h => some h
  | none => V x
theorem viewR_nil (V : View) (x : ByteArray) : viewR V [] x = V x := by unfold viewR; rw [refr_nil]
theorem viewR_seen {V : View} {l : List Ho} {h : Ho} (hs : h.name = noStr ∨ ∃ o ∈ l, o.name = h.name) (x : ByteArray) : viewR V (l ++ [h]) x = viewR V l x := by unfold viewR; rw [refr_seen hs]
theorem viewR_new {V : View} {l : List Ho} {h : Ho} (hn : h.name ≠ noStr) (hs : ¬ ∃ o ∈ l, o.name = h.name) (x : ByteArray) : viewR V (l ++ [h]) x = if h.name = x then some (updH V h) else viewR V l x := by
  unfold viewR
  rw [refr_new hn hs]
  by_cases e : h.name = x
  · rw [if_pos e, if_pos e]
  · rw [if_neg e, if_neg e]
theorem viewR_old {V : View} {l : List Ho} {x : ByteArray} (hs : ¬ ∃ o ∈ l, o.name = x) : viewR V l x = V x := by
  unfold viewR
  cases e : refr V l x with
  | none => rfl
  | some o =>
    by_cases hx : x = noStr
    · subst hx; rw [refr_empty] at e; cases e
    · exact absurd ((refr_has hx).1 (by rw [e]; rfl)) hs
/-- The names added by the hosts l, as they come. -/
def addsR (V : View) (l : List Ho) (A : List ByteArray) : Prop := A.Nodup ∧ ∀ x, x ∈ A ↔ (refr V l x).isSome = true ∧ V x = none
theorem addsR_nil (V : View) : addsR V [] [] := ⟨.nil, fun x => by rw [refr_nil]; simp⟩
theorem addsR_seen {V : View} {l : List Ho} {h : Ho} {A : List ByteArray} (hs : h.name = noStr ∨ ∃ o ∈ l, o.name = h.name) (hA : addsR V l A) : addsR V (l ++ [h]) A :=
  ⟨hA.1, fun x => by rw [refr_seen hs]; exact hA.2 x⟩
theorem addsR_old {V : View} {l : List Ho} {h : Ho} {A : List ByteArray} (hn : h.name ≠ noStr) (hs : ¬ ∃ o ∈ l, o.name = h.name) (hV : V h.name ≠ none) (hA : addsR V l A) : addsR V (l ++ [h]) A :=
  ⟨hA.1, fun x => by
    rw [refr_new hn hs]
    by_cases e : h.name = x
    · subst e
      rw [if_pos rfl, hA.2]
      simp [hV]
    · rw [if_neg e]; exact hA.2 x⟩
theorem addsR_new {V : View} {l : List Ho} {h : Ho} {A : List ByteArray} (hn : h.name ≠ noStr) (hs : ¬ ∃ o ∈ l, o.name = h.name) (hV : V h.name = none) (hA : addsR V l A) : addsR V (l ++ [h]) (A ++ [h.name]) := by
  have hni : h.name ∉ A := fun hm => hs ((refr_has hn).1 ((hA.2 _).1 hm).1)
  refine ⟨List.nodup_append.2 ⟨hA.1, by simp, fun a ha b hb => by simp only [List.mem_singleton] at hb; subst hb; exact fun e => hni (e ▸ ha)⟩, fun x => ?_⟩
  rw [refr_new hn hs, List.mem_append, hA.2]
  by_cases e : h.name = x
  · subst e
    rw [if_pos rfl]
    simp [hV]
  · rw [if_neg e]
    simp [Ne.symm e]
end Go.Proofs.YtepikngkbondgaaGreat
namespace Go.Proofs.YtepikngkbondgaaGreat
set_option linter.unusedVariables false
open Go.RowKit

section
variable {w w' W : World} {base : Nat} {S : Nat → Prop}
theorem own_keptB {e : TypeId} {sz n : Nat} {v : Value} {xs : List Value} (h : w.ownsRow base e sz v n xs) (hk : Kept S w w') (hS : ∀ k, v.ownBlock = some k → ¬ S k) : w'.ownsRow base e sz v n xs := by
  obtain ⟨hl, h⟩ := h
  refine ⟨hl, ?_⟩
  rcases h with h | ⟨g, cap, cur, rfl, hb, hh, r⟩
  · exact .inl h
  · exact .inr ⟨g, cap, cur, rfl, hb, (hk.block g (lt_of_heap hh) (hS g rfl)).trans hh, r⟩
theorem own_lt {e : TypeId} {sz n : Nat} {v : Value} {xs : List Value} (h : w.ownsRow base e sz v n xs) {k : Nat} (hk : v.ownBlock = some k) : k < w.heap.size := by
  obtain ⟨_, cs, hh⟩ := own_type h hk
  exact lt_of_heap hh
structure Rw where
  e : TypeId
  sz : Nat
  v : Value
  n : Nat
  xs : List Value
/-- Rows of one's own that share no block. -/
def Fam (w : World) (base : Nat) (L : List Rw) : Prop :=
  (∀ (i : Nat) (r : Rw), L[i]? = some r → w.ownsRow base r.e r.sz r.v r.n r.xs) ∧ ∀ (i j : Nat) (a b : Rw), i ≠ j → L[i]? = some a → L[j]? = some b → ∀ k, a.v.ownBlock = some k → b.v.ownBlock ≠ some k
theorem Fam.nil : Fam w base [] := ⟨fun i r h => by simp at h, fun i j a b _ h => by simp at h⟩
/-- One more row, empty. -/
theorem Fam.more {L : List Rw} (h : Fam w base L) (e : TypeId) (sz : Nat) : Fam w base (L ++ [⟨e, sz, .slice none 0 0, 0, []⟩]) := by
  have key : ∀ i r, (L ++ [(⟨e, sz, .slice none 0 0, 0, []⟩ : Rw)])[i]? = some r → (i < L.length ∧ L[i]? = some r) ∨ (i = L.length ∧ r = ⟨e, sz, .slice none 0 0, 0, []⟩) := by
    intro i r hr
    by_cases hl : i < L.length
    · rw [List.getElem?_append_left hl] at hr; exact .inl ⟨hl, hr⟩
    · rw [List.getElem?_append_right (by omega)] at hr
      have h0 : i - L.length = 0 := by
        have := (List.getElem?_eq_some_iff.1 hr).1
        simp at this; omega
      rw [h0] at hr
      exact .inr ⟨by omega, (Option.some.inj hr).symm⟩
  refine ⟨fun i r hr => ?_, fun i j a b hij ha hb k hk => ?_⟩
  · rcases key i r hr with ⟨_, h1⟩ | ⟨_, rfl⟩
    · exact h.1 i r h1
    · exact World.ownsRow_nil _ _ _ _
  · rcases key i a ha with ⟨_, h1⟩ | ⟨_, rfl⟩
    · rcases key j b hb with ⟨_, h2⟩ | ⟨_, rfl⟩
      · exact h.2 i j a b hij h1 h2 k hk
      · simp [Value.ownBlock]
    · simp [Value.ownBlock] at hk
theorem Fam.get {L : List Rw} (h : Fam w base L) (i : Nat) {r : Rw} (hi : L[i]? = some r) : w.ownsRow base r.e r.sz r.v r.n r.xs := h.1 i r hi
theorem Fam.sl {L : List Rw} (h : Fam w base L) (i : Nat) {r : Rw} (hi : L[i]? = some r) : Sl w r.e r.sz r.v r.n r.xs := Sl.of_own (h.1 i r hi)
theorem Fam.kept {L : List Rw} (h : Fam w base L) (hk : Kept S w w') (hS : ∀ k, S k → k < base) : Fam w' base L :=
  ⟨fun i r hr => own_keptB (h.1 i r hr) hk fun k e hs => by have := (own_type (h.1 i r hr) e).1; have := hS k hs; omega, h.2⟩
theorem Fam.keptN {L : List Rw} (h : Fam w base L) (hk : Kept noBlock w w') : Fam w' base L := h.kept hk fun _ e => False.elim e
theorem Fam.app {L : List Rw} {r : Rw} {v' : Value} {n' : Nat} {xs' : List Value} (h : Fam w base L) (i : Nat) (hi : L[i]? = some r) (hk : Kept noBlock w W) (ha : Appended W w' base r.e r.sz r.v v' n' xs') : Fam w' base (L.set i { r with v := v', n := n', xs := xs' }) := by
  have hil := (List.getElem?_eq_some_iff.1 hi).1
  have hnew : ∀ k, v'.ownBlock = some k → r.v.ownBlock = some k ∨ k = W.heap.size := by
    intro k hk
    rcases ha.at_ with h1 | h1
    · rw [h1] at hk; exact .inl hk
    · rw [h1] at hk; exact .inr (Option.some.inj hk).symm
  have hap : ∀ j b, i ≠ j → L[j]? = some b → ∀ k, v'.ownBlock = some k → b.v.ownBlock ≠ some k := by
    intro j b hij hb k e e2
    rcases hnew k e with h1 | h1
    · exact h.2 i j r b hij hi hb k h1 e2
    · have := own_lt (h.1 j b hb) e2
      have := hk.size
      omega
  refine ⟨fun j b hj => ?_, fun j m a b hjm hj hm k e => ?_⟩
  · rw [List.getElem?_set] at hj
    by_cases e : i = j
    · rw [if_pos e, if_pos hil] at hj
      cases hj
      exact ha.own
    · rw [if_neg e] at hj
      exact own_keptB (own_keptB (h.1 j b hj) hk fun k _ e => e) ha.kept fun k e1 e2 => h.2 i j r b e hi hj k e2 e1
  · rw [List.getElem?_set] at hj hm
    by_cases e1 : i = j
    · rw [if_pos e1, if_pos hil] at hj
      cases hj
      rw [if_neg (fun e2 => hjm (e1.symm.trans e2))] at hm
      exact hap m b (fun e2 => hjm (e1.symm.trans e2)) hm k e
    · rw [if_neg e1] at hj
      by_cases e2 : i = m
      · rw [if_pos e2, if_pos hil] at hm
        cases hm
        intro e3
        exact hap j a e1 hj k e3 e
      · rw [if_neg e2] at hm
        exact h.2 j m a b hjm hj hm k e
end
end Go.Proofs.YtepikngkbondgaaGreat
namespace Go.Proofs.YtepikngkbondgaaGreat
set_option linter.unusedVariables false
open Go.RowKit

theorem msbM : Tryz.prog.underlying 81 = some (.map 9 4) := by kernel_rfl
theorem strU : Tryz.prog.underlying 9 = some .string := by kernel_rfl
theorem zero_bool (w : World) : (zeroValue 4).run Tryz.prog w = .ok (.bool false) w := Tryz.zeroValue4 w
end Go.Proofs.YtepikngkbondgaaGreat
namespace Go.Proofs.YtepikngkbondgaaGreat
set_option linter.unusedVariables false
open Go.RowKit

section
variable {α β : Type} [DecidableEq α]
theorem aget_aput (k k' : α) (v : β) : ∀ (l : List (α × β)), aget k (aput k' v l) = if k' = k then some v else aget k l
  | [] => by
    by_cases h : k' = k
    · subst h; simp [aput, aget]
    · simp [aput, aget, h]
  | (a, b) :: l => by
    by_cases h1 : a = k'
    · subst h1
      by_cases h : a = k
      · subst h; simp [aput, aget]
      · simp [aput, aget, h]
    · by_cases h2 : a = k
      · subst h2
        have h3 : ¬ k' = a := fun e => h1 e.symm
        simp [aput, aget, h1, h3]
      · simp only [aput, aget, h1, h2, if_false, aget_aput k k' v l]
theorem mem_aput {k : α} {v : β} {p : α × β} : ∀ {l : List (α × β)}, (l.map (·.1)).Nodup → p ∈ aput k v l → p = (k, v) ∨ (p ∈ l ∧ p.1 ≠ k)
  | [], _, h => by simp [aput] at h; exact .inl h
  | (a, b) :: l, hn, h => by
    have hn' : a ∉ l.map (·.1) ∧ (l.map (·.1)).Nodup := List.nodup_cons.1 hn
    by_cases h1 : a = k
    · subst h1
      simp only [aput, if_true] at h
      rcases List.mem_cons.1 h with h | h
      · exact .inl h
      · exact .inr ⟨List.mem_cons_of_mem _ h, fun e => hn'.1 (List.mem_map.2 ⟨p, h, e⟩)⟩
    · simp only [aput, h1, if_false] at h
      rcases List.mem_cons.1 h with h | h
      · subst h; exact .inr ⟨List.mem_cons_self .., h1⟩
      · rcases mem_aput hn'.2 h with h | ⟨h, h2⟩
        · exact .inl h
        · exact .inr ⟨List.mem_cons_of_mem _ h, h2⟩
theorem aput_keys {k : α} {v : β} : ∀ {l : List (α × β)}, k ∈ l.map (·.1) → (aput k v l).map (·.1) = l.map (·.1)
  | [], h => by simp at h
  | (a, b) :: l, h => by
    by_cases h1 : a = k
    · subst h1; simp [aput]
    · have : k ∈ l.map (·.1) := by
        rcases List.mem_cons.1 h with h | h
        · exact absurd h.symm h1
        · exact h
      simp [aput, h1, aput_keys this]
theorem aget_mem {k : α} {v : β} {l : List (α × β)} (h : aget k l = some v) : (k, v) ∈ l := by
  obtain ⟨A, B, rfl, _⟩ := aget_some_split h
  simp
theorem aget_of_mem {k : α} {v : β} : ∀ {l : List (α × β)}, (l.map (·.1)).Nodup → (k, v) ∈ l → aget k l = some v
  | [], _, h => by cases h
  | (a, b) :: l, hn, h => by
    have hn' : a ∉ l.map (·.1) ∧ (l.map (·.1)).Nodup := List.nodup_cons.1 hn
    rcases List.mem_cons.1 h with h | h
    · cases h; simp [aget]
    · have : ¬ a = k := fun e => hn'.1 (e ▸ List.mem_map.2 ⟨(k, v), h, rfl⟩)
      simp [aget, this, aget_of_mem hn'.2 h]
theorem aput_map {γ : Type} (f : β → γ) (k : α) (v : β) : ∀ (l : List (α × β)), (aput k v l).map (fun p => (p.1, f p.2)) = aput k (f v) (l.map fun p => (p.1, f p.2))
  | [] => by simp [aput]
  | (a, b) :: l => by
    by_cases h1 : a = k
    · subst h1; simp [aput]
    · simp [aput, h1, aput_map f k v l]
theorem aput_same {k : α} {v : β} : ∀ {l : List (α × β)}, aget k l = some v → aput k v l = l
  | [], h => by simp [aget] at h
  | (a, b) :: l, h => by
    by_cases h1 : a = k
    · subst h1; simp [aget] at h; subst h; simp [aput]
    · simp only [aget, h1, if_false] at h
      simp [aput, h1, aput_same h]
end
end Go.Proofs.YtepikngkbondgaaGreat
namespace Go.Proofs.YtepikngkbondgaaGreat
set_option linter.unusedVariables false
open Go.RowKit
open Go.ChangeMaps (setBlock)

/-- A host as the map holds it: its tokens' slice, and what it reads as. -/
structure HV where
  name : ByteArray
  dc : ByteArray
  rack : ByteArray
  ta : Option Addr
  tn : Nat
  tc : Nat
  toks : List Int
  up : Bool
def HV.tv (h : HV) : Value := .slice h.ta h.tn h.tc
def HV.abs (h : HV) : Ho := ⟨h.name, h.dc, h.rack, h.toks, h.up⟩
def hvV (h : HV) : Value := .agg #[.string h.name, .string h.dc, .string h.rack, .slice h.ta h.tn h.tc, .bool h.up]
def hvC (h : HV) : List Value := [.string h.name, .string h.dc, .string h.rack, .slice h.ta h.tn h.tc, .bool h.up]
theorem mshM : Tryz.prog.underlying 91 = some (.map 9 48) := by kernel_rfl
abbrev HoMap := KMap (β := HV) .string (fun s : ByteArray => Value.string s) hvV
theorem zero_host (w : World) : (zeroValue 48).run Tryz.prog w = .ok (.agg #[.string noStr, .string noStr, .string noStr, .slice none 0 0, .bool false]) w := Tryz.zeroValue48 w

/-- A table: g its block, m its map; own: the blocks that are its own. -/
structure TabAt (w : World) (own : Nat → Prop) (g m : Nat) (dc : ByteArray) (rem : Int) (L : List (ByteArray × HV)) : Prop where
  blk : Blk w g 93 #[.string dc, .int .i64 rem, .map (some m)]
  map : HoMap w m L
  nd : (L.map (·.1)).Nodup
  og : own g
  om : own m
  ot : ∀ p ∈ L, SlK w (fun k _ => own k ∧ k ≠ g ∧ k ≠ m) 1 p.2.tv p.2.tn (p.2.toks.map (Value.int .i64))
  nm : ∀ p ∈ L, p.2.name = p.1 ∧ p.1 ≠ noStr
  lt : ∀ k, own k → k < w.heap.size
section
variable {w w' : World} {own : Nat → Prop} {g m : Nat} {dc : ByteArray} {rem : Int} {L : List (ByteArray × HV)} {T : Nat → Prop}
theorem TabAt.kept (h : TabAt w own g m dc rem L) (hk : Kept T w w') (hT : ∀ k, own k → ¬ T k) : TabAt w' own g m dc rem L :=
  ⟨h.blk.kept hk (hT _ h.og), h.map.kept hk (hT _ h.om), h.nd, h.og, h.om, fun p hp => (h.ot p hp).keptAll hk fun k _ hk => hT k hk.1, h.nm, fun k hk' => Nat.lt_of_lt_of_le (h.lt k hk') hk.size⟩
theorem TabAt.keptN (h : TabAt w own g m dc rem L) (hk : Kept noBlock w w') : TabAt w' own g m dc rem L := h.kept hk fun _ _ e => e
/-- The table's hosts, by rising names. -/
def TabS (w : World) (own : Nat → Prop) (g : Nat) (dc : ByteArray) (rem : Int) (S : List Ho) : Prop :=
  ∃ m L, TabAt w own g m dc rem L ∧ risingH S ∧ ∀ x, (aget x L).map HV.abs = getS x S
theorem TabS.kept {S : List Ho} (h : TabS w own g dc rem S) (hk : Kept T w w') (hT : ∀ k, own k → ¬ T k) : TabS w' own g dc rem S := by
  obtain ⟨m, L, h1, h2⟩ := h
  exact ⟨m, L, h1.kept hk hT, h2⟩
/-- The map's hosts are the table's, in some order. -/
theorem tab_perm {S : List Ho} (hn : (L.map (·.1)).Nodup) (hm : ∀ p ∈ L, p.2.name = p.1 ∧ p.1 ≠ noStr) (hS : risingH S) (h : ∀ x, (aget x L).map HV.abs = getS x S) : (L.map fun p => p.2.abs).Perm S := by
  have hp : (L.map fun p => p.2.abs).Pairwise fun a b => a.name ≠ b.name := by
    rw [List.pairwise_map]
    have h1 := List.pairwise_map.1 hn
    refine List.Pairwise.imp_of_mem (fun {a b} ha hb hne e => ?_) h1
    have e1 : a.2.name = b.2.name := e
    rw [(hm a ha).1, (hm b hb).1] at e1
    exact hne e1
  refine perm_of_get hp (rising_ne hS) fun x => ?_
  rw [← h]
  cases hx : aget x L with
  | none =>
    refine getS_none.2 fun o ho => ?_
    obtain ⟨p, hpL, rfl⟩ := List.mem_map.1 ho
    have := aget_eq_none.1 hx p hpL
    show p.2.name ≠ x
    rw [(hm p hpL).1]; exact this
  | some v =>
    have hmem := aget_mem hx
    have h2 := getS_of_mem hp (List.mem_map.2 ⟨(x, v), hmem, rfl⟩)
    have h3 : (HV.abs v).name = x := (hm _ hmem).1
    have h4 : getS (HV.abs v).name (L.map fun p => p.2.abs) = some (HV.abs v) := h2
    rw [h3] at h4
    exact h4
theorem aput_nodup {β : Type} {x : ByteArray} {v : β} {L : List (ByteArray × β)} (h : (L.map (·.1)).Nodup) : ((aput x v L).map (·.1)).Nodup := by
  by_cases e : x ∈ L.map (·.1)
  · rw [aput_keys e]; exact h
  · rw [aput_none fun p hp e2 => e (List.mem_map.2 ⟨p, hp, e2⟩), List.map_append, List.nodup_append]
    exact ⟨h, by simp, fun a ha b hb e2 => by
      have : b = x := by simpa using hb
      subst this; exact e (e2 ▸ ha)⟩
/-- A host is written into the map. -/
theorem TabAt.put {W : World} {es : Array MapEntry} {ck : Nat} {x : ByteArray} {v : HV} (h : TabAt w own g m dc rem L) (hk : Kept noBlock w W) (hm : HoMap (setBlock W m (.map es ck)) m (aput x v L)) (hn : v.name = x ∧ x ≠ noStr)
    (ht : SlK W (fun k _ => own k ∧ k ≠ g ∧ k ≠ m) 1 v.tv v.tn (v.toks.map (Value.int .i64))) : TabAt (setBlock W m (.map es ck)) own g m dc rem (aput x v L) := by
  have hk2 : Kept (fun k => k = m) W (setBlock W m (.map es ck)) := (Kept.refl (fun k => k = m) W).setBlock (m := m) (fun _ => rfl) _
  have hgm : g ≠ m := fun e => h.map.ne_blk h.blk e
  refine ⟨(h.blk.kept hk (fun e => e)).kept hk2 hgm, hm, aput_nodup h.nd, h.og, h.om, fun p hp => ?_, fun p hp => ?_, fun k e => Nat.lt_of_lt_of_le (h.lt k e) (by rw [size_setBlock]; exact hk.size)⟩
  · rcases mem_aput h.nd hp with rfl | ⟨hp, -⟩
    · exact ht.keptAll hk2 fun k _ e e2 => e.2.2 e2
    · exact ((h.ot p hp).keptNone hk).keptAll hk2 fun k _ e e2 => e.2.2 e2
  · rcases mem_aput h.nd hp with rfl | ⟨hp, -⟩
    · exact hn
    · exact h.nm p hp
/-- More blocks become the table's own. -/
theorem TabAt.wide {own' : Nat → Prop} (h : TabAt w own g m dc rem L) (ho : ∀ k, own k → own' k) (hl : ∀ k, own' k → k < w.heap.size) : TabAt w own' g m dc rem L :=
  ⟨h.blk, h.map, h.nd, ho _ h.og, ho _ h.om, fun p hp => (h.ot p hp).any fun _ _ _ e => ⟨ho _ e.1, e.2⟩, h.nm, hl⟩

/-! Marking. -/
def markP (S : List Ho) (x : ByteArray) (up : Bool) : List Ho × Bool :=
  match getS x S with
  | none => (S, false)
  | some h => if h.up = up then (S, false) else (S.map fun o => if o.name = x then { o with up := up } else o, true)
def setUp (x : ByteArray) (up : Bool) (o : Ho) : Ho := if o.name = x then { o with up := up } else o
theorem setUp_name (x : ByteArray) (up : Bool) (o : Ho) : (setUp x up o).name = o.name := by unfold setUp; split <;> rfl
theorem mark_rising {S : List Ho} (h : risingH S) (x : ByteArray) (up : Bool) : risingH (S.map (setUp x up)) := by
  refine List.pairwise_map.2 (List.Pairwise.imp (fun {a b} e => ?_) h)
  rw [setUp_name, setUp_name]; exact e
theorem mark_get (x y : ByteArray) (up : Bool) : ∀ (S : List Ho), getS y (S.map (setUp x up)) = (getS y S).map (setUp x up)
  | [] => rfl
  | o :: S => by
    unfold getS
    rw [List.map_cons, List.find?_cons, List.find?_cons, setUp_name]
    by_cases e : o.name = y
    · rw [decide_eq_true e]; rfl
    · rw [decide_eq_false e]
      exact mark_get x y up S
end
end Go.Proofs.YtepikngkbondgaaGreat

/- A slice of structs of one number of cells: its i-th element. No program is named · Words on rows and worlds that all walks share: an append below, texts, pairs; worlds that have only drawn, and grown · Several rows of one's own: an append to one leaves the others as they are. -/
import Derived.Test.YtfnjoceolcdeoaaGreatDoorMg03
import Derived.Test.YtfnjoceolcdeoaaGreatDoorProg
import Derived.Shelf.SlSortCmp.KitK
import Derived.Shelf.SlicesQ.IndexFunc
namespace Go.Proofs.YtfnjoceolcdeoaaGreatDoor
set_option linter.unusedVariables false
theorem flat_len {α : Type} {f : α → List Value} {k : Nat} (hf : ∀ a, (f a).length = k) (l : List α) : (l.flatMap f).length = l.length * k := by
  induction l with
  | nil => simp
  | cons a t ih => simp [List.flatMap_cons, ih, hf, Nat.add_mul]; omega
theorem flat_get {α : Type} {f : α → List Value} {k : Nat} (hf : ∀ a, (f a).length = k) : ∀ (l : List α) (i j : Nat) (a : α), l[i]? = some a → j < k → (l.flatMap f)[i * k + j]? = (f a)[j]? := by
  intro l
  induction l with
  | nil => intro i j a h; simp at h
  | cons b t ih =>
    intro i j a h hj
    rw [List.flatMap_cons]
    cases i with
    | zero =>
      simp only [List.getElem?_cons_zero, Option.some.injEq] at h
      subst h
      rw [Nat.zero_mul, Nat.zero_add, List.getElem?_append_left (by rw [hf]; exact hj)]
    | succ i =>
      have e : (i + 1) * k + j = k + (i * k + j) := by rw [Nat.add_mul]; omega
      rw [e, List.getElem?_append_right (by rw [hf]; omega), hf, Nat.add_sub_cancel_left]
      exact ih i j a (by simpa using h) hj
end Go.Proofs.YtfnjoceolcdeoaaGreatDoor
namespace Go.Proofs.YtfnjoceolcdeoaaGreatDoor
set_option linter.unusedVariables false
open Go.RowKit

section
variable {w w' : World} {base : Nat} {e : TypeId} {sz k n : Nat} {v v' : Value} {xs ys : List Value}
theorem Blk.appended {g : Nat} {t : TypeId} {cs : Array Value} (hb : Blk w g t cs) (h : Appended w w' base e sz v v' k xs) (ho : w.ownsRow base e sz v n ys) (hne : e ≠ t) : Blk w' g t cs :=
  hb.kept h.kept fun hg => by
    obtain ⟨_, cs', hh⟩ := own_type ho hg
    exact Blk.ne_ (t := e) hh hb hne rfl
theorem Appended.below {S : Nat → Prop} (h : Appended w w' base e sz v v' k xs) (ho : w.ownsRow base e sz v n ys) {w0 : World} (hk : Kept S w0 w) (hb : w0.heap.size ≤ base) : Kept S w0 w' :=
  hk.trans h.kept fun i hi hv => by have := (own_type ho hv).1; omega
theorem Appended.keptNil {xs : List Value} (h : Appended w w' base e sz (.slice none 0 0) v' k xs) : Kept noBlock w w' := h.kept.mono fun i hi e => by simp [Value.ownBlock] at e
theorem Sl.made_at {g : Nat} {cs : Array Value} (hb : Blk w g e cs) (l : List Value) (hl : cs.toList = l) (hn : cs.size = n * sz) (hm : n ≤ maxLen) : Sl w e sz (.slice (some ⟨g, 0, none⟩) n n) n l := hl ▸ Sl.made hb hn hm
/-- What was there ahead of an own row is kept behind an append to it. -/
theorem SlK.appended {B : Nat} {sz' n' : Nat} {u : Value} {zs : List Value} (hs : Lo w B sz' u n' zs) (h : Appended w w' base e sz v v' k xs) (ho : w.ownsRow base e sz v n ys) (hB : B ≤ base) : Lo w' B sz' u n' zs :=
  Lo.kept hs h.kept fun g hg hv => by have := (own_type ho hv).1; omega
theorem own_pos (h : w.ownsRow base e sz v n xs) (hn : 0 < n) : ∃ g cap, v = .slice (some ⟨g, 0, none⟩) n cap := by
  rcases h.2 with ⟨_, h0⟩ | ⟨g, cap, _, rfl, _⟩
  · omega
  · exact ⟨g, cap, rfl⟩
end

def noStr : ByteArray := ⟨#[]⟩
instance decStr : DecidableEq ByteArray := fun a b => if h : a.data = b.data then isTrue (by cases a; cases b; cases h; rfl) else isFalse fun e => h (by rw [e])
abbrev Pl := Int × ByteArray
def pC (p : Pl) : List Value := [.int .i64 p.1, .string p.2]
theorem pC_len (l : List Pl) : (l.flatMap pC).length = l.length * 2 := flat_len (k := 2) (fun _ => rfl) l
theorem pC_one {l : List Pl} {u : Value} (hu : u ∈ l.flatMap pC) : u.oneCell' = true := by
  obtain ⟨a, _, h⟩ := List.mem_flatMap.1 hu
  simp only [pC, List.mem_cons, List.not_mem_nil, or_false] at h
  rcases h with rfl | rfl <;> rfl
theorem strsT : SlT Tryz.prog 31 9 (.string noStr) 1 16 := ⟨Tryz.underlying31, by kernel_rfl, rfl, by decide, by decide⟩
theorem p_at {w : World} {ok : Nat → TypeId → Prop} {v : Value} {L : List Pl} {n : Nat} (h : SlK w ok 2 v n (L.flatMap pC)) {t e : TypeId} {z : Value} (T : SlT Tryz.prog t e z 2 24) {i : Nat} {p : Pl} (hi : L[i]? = some p) :
    ∃ g off, (∀ kd w', (Instr.indexAt t v (.int kd (i : Int))).run Tryz.prog w' = .ok (.pointer (some ⟨g, off, none⟩)) w') ∧ g < w.heap.size ∧ w.cell? ⟨g, off, none⟩ = some (.int .i64 p.1) ∧ w.cell? ⟨g, off + 1, none⟩ = some (.string p.2) := by
  have hlt : i < n := by
    have h1 := (List.getElem?_eq_some_iff.1 hi).1
    have h2 := h.len
    rw [pC_len] at h2
    omega
  obtain ⟨g, off, h1, h2, h4, h3⟩ := h.run_index T (i := (i : Int)) (k := i) rfl hlt
  refine ⟨g, off, h1, h2, h3 0 _ ?_, h3 1 _ ?_⟩
  · rw [flat_get (k := 2) (fun _ => rfl) L i 0 p hi (by decide)]; rfl
  · rw [flat_get (k := 2) (fun _ => rfl) L i 1 p hi (by decide)]; rfl
theorem str_at {w : World} {ok : Nat → TypeId → Prop} {v : Value} {L : List ByteArray} {n : Nat} (h : SlK w ok 1 v n (L.map Value.string)) {i : Nat} {s : ByteArray} (hi : L[i]? = some s) :
    ∃ g off, (∀ kd w', (Instr.indexAt 31 v (.int kd (i : Int))).run Tryz.prog w' = .ok (.pointer (some ⟨g, off, none⟩)) w') ∧ g < w.heap.size ∧ w.cell? ⟨g, off, none⟩ = some (.string s) := by
  have hlt : i < n := by
    have h1 := (List.getElem?_eq_some_iff.1 hi).1
    have h2 := h.len
    rw [List.length_map] at h2
    omega
  obtain ⟨g, off, h1, h2, h4, h3⟩ := h.run_index strsT (i := (i : Int)) (k := i) rfl hlt
  exact ⟨g, off, h1, h2, h3 0 _ (by rw [Nat.mul_one, Nat.add_zero, List.getElem?_map, hi]; rfl)⟩

def cmpZ (a b : Int) : Int := if a < b then -1 else if b < a then 1 else 0
/-- Worlds that have only drawn, and grown. -/
def Grew (w w' : World) : Prop := ∃ q os, w' = Go.Sort.grow (w.drewN q) os
theorem Grew.refl (w : World) : Grew w w := ⟨0, #[], by rw [Go.Sort.grow_empty]; rfl⟩
theorem Grew.drew {w w' : World} (h : Grew w w') : Grew w w'.drew := by
  obtain ⟨q, os, rfl⟩ := h
  exact ⟨q + 1, os, rfl⟩
theorem Grew.alloc {w w' : World} (h : Grew w w') (o : Obj) : Grew w (w'.alloc o) := by
  obtain ⟨q, os, rfl⟩ := h
  exact ⟨q, os ++ #[o], by rw [Go.Sort.alloc_eq_grow, Go.Sort.grow_grow]⟩
theorem Grew.kept {w w' : World} (h : Grew w w') : Kept noBlock w w' := by
  obtain ⟨q, os, rfl⟩ := h
  exact ⟨rfl, rfl, rfl, by rw [Go.Sort.size_grow]; exact Nat.le_add_right _ _, fun k hk _ => Go.Sort.heap_grow_old _ _ hk⟩
theorem Grew.trans {a b c : World} (h : Grew a b) (k : Grew b c) : Grew a c := by
  obtain ⟨q, os, rfl⟩ := h
  obtain ⟨q', os', rfl⟩ := k
  exact ⟨q + q', os ++ os', by rw [← Go.Sort.grow_grow, ← World.drewN_drewN]; rfl⟩
def rising (S : List Pl) : Prop := S.Pairwise fun a b => a.1 < b.1
theorem rising_nodup {S : List Pl} (h : rising S) : (S.map (·.1)).Nodup := List.pairwise_map.2 (h.imp fun e => by omega)
end Go.Proofs.YtfnjoceolcdeoaaGreatDoor
namespace Go.Proofs.YtfnjoceolcdeoaaGreatDoor
set_option linter.unusedVariables false
open Go.RowKit

section
variable {w w' W : World} {base : Nat} {S : Nat → Prop}
theorem own_keptB {e : TypeId} {sz n : Nat} {v : Value} {xs : List Value} (h : w.ownsRow base e sz v n xs) (hk : Kept S w w') (hS : ∀ k, v.ownBlock = some k → ¬ S k) : w'.ownsRow base e sz v n xs := by
  obtain ⟨hl, h⟩ := h
  refine ⟨hl, ?_⟩
  rcases h with h | ⟨g, cap, cur, rfl, hb, hh, r⟩
  · exact .inl h
  · exact .inr ⟨g, cap, cur, rfl, hb, (hk.block g (lt_of_heap hh) (hS g rfl)).trans hh, r⟩
theorem own_lt {e : TypeId} {sz n : Nat} {v : Value} {xs : List Value} (h : w.ownsRow base e sz v n xs) {k : Nat} (hk : v.ownBlock = some k) : k < w.heap.size := by
  obtain ⟨_, cs, hh⟩ := own_type h hk
  exact lt_of_heap hh
structure Rw where
  e : TypeId
  sz : Nat
  v : Value
  n : Nat
  xs : List Value
/-- Rows of one's own that share no block. -/
def Fam (w : World) (base : Nat) (L : List Rw) : Prop :=
  (∀ (i : Nat) (r : Rw), L[i]? = some r → w.ownsRow base r.e r.sz r.v r.n r.xs) ∧ ∀ (i j : Nat) (a b : Rw), i ≠ j → L[i]? = some a → L[j]? = some b → ∀ k, a.v.ownBlock = some k → b.v.ownBlock ≠ some k
theorem Fam.nil : Fam w base [] := ⟨fun i r h => by simp at h, fun i j a b _ h => by simp at h⟩
/-- One more row, empty. -/
theorem Fam.more {L : List Rw} (h : Fam w base L) (e : TypeId) (sz : Nat) : Fam w base (L ++ [⟨e, sz, .slice none 0 0, 0, []⟩]) := by
  have key : ∀ i r, (L ++ [(⟨e, sz, .slice none 0 0, 0, []⟩ : Rw)])[i]? = some r → (i < L.length ∧ L[i]? = some r) ∨ (i = L.length ∧ r = ⟨e, sz, .slice none 0 0, 0, []⟩) := by
    intro i r hr
    by_cases hl : i < L.length
    · rw [List.getElem?_append_left hl] at hr; exact .inl ⟨hl, hr⟩
    · rw [List.getElem?_append_right (by omega)] at hr
      have h0 : i - L.length = 0 := by
        have := (List.getElem?_eq_some_iff.1 hr).1
        simp at this; omega
      rw [h0] at hr
      exact .inr ⟨by omega, (Option.some.inj hr).symm⟩
  refine ⟨fun i r hr => ?_, fun i j a b hij ha hb k hk => ?_⟩
  · rcases key i r hr with ⟨_, h1⟩ | ⟨_, rfl⟩
    · exact h.1 i r h1
    · exact World.ownsRow_nil _ _ _ _
  · rcases key i a ha with ⟨_, h1⟩ | ⟨_, rfl⟩
    · rcases key j b hb with ⟨_, h2⟩ | ⟨_, rfl⟩
      · exact h.2 i j a b hij h1 h2 k hk
      · simp [Value.ownBlock]
    · simp [Value.ownBlock] at hk
theorem Fam.get {L : List Rw} (h : Fam w base L) (i : Nat) {r : Rw} (hi : L[i]? = some r) : w.ownsRow base r.e r.sz r.v r.n r.xs := h.1 i r hi
theorem Fam.sl {L : List Rw} (h : Fam w base L) (i : Nat) {r : Rw} (hi : L[i]? = some r) : Sl w r.e r.sz r.v r.n r.xs := Sl.of_own (h.1 i r hi)
theorem Fam.kept {L : List Rw} (h : Fam w base L) (hk : Kept S w w') (hS : ∀ k, S k → k < base) : Fam w' base L :=
  ⟨fun i r hr => own_keptB (h.1 i r hr) hk fun k e hs => by have := (own_type (h.1 i r hr) e).1; have := hS k hs; omega, h.2⟩
theorem Fam.keptN {L : List Rw} (h : Fam w base L) (hk : Kept noBlock w w') : Fam w' base L := h.kept hk fun _ e => False.elim e
theorem Fam.app {L : List Rw} {r : Rw} {v' : Value} {n' : Nat} {xs' : List Value} (h : Fam w base L) (i : Nat) (hi : L[i]? = some r) (hk : Kept noBlock w W) (ha : Appended W w' base r.e r.sz r.v v' n' xs') : Fam w' base (L.set i { r with v := v', n := n', xs := xs' }) := by
  have hil := (List.getElem?_eq_some_iff.1 hi).1
  have hnew : ∀ k, v'.ownBlock = some k → r.v.ownBlock = some k ∨ k = W.heap.size := by
    intro k hk
    rcases ha.at_ with h1 | h1
    · rw [h1] at hk; exact .inl hk
    · rw [h1] at hk; exact .inr (Option.some.inj hk).symm
  have hap : ∀ j b, i ≠ j → L[j]? = some b → ∀ k, v'.ownBlock = some k → b.v.ownBlock ≠ some k := by
    intro j b hij hb k e e2
    rcases hnew k e with h1 | h1
    · exact h.2 i j r b hij hi hb k h1 e2
    · have := own_lt (h.1 j b hb) e2
      have := hk.size
      omega
  refine ⟨fun j b hj => ?_, fun j m a b hjm hj hm k e => ?_⟩
  · rw [List.getElem?_set] at hj
    by_cases e : i = j
    · rw [if_pos e, if_pos hil] at hj
      cases hj
      exact ha.own
    · rw [if_neg e] at hj
      exact own_keptB (own_keptB (h.1 j b hj) hk fun k _ e => e) ha.kept fun k e1 e2 => h.2 i j r b e hi hj k e2 e1
  · rw [List.getElem?_set] at hj hm
    by_cases e1 : i = j
    · rw [if_pos e1, if_pos hil] at hj
      cases hj
      rw [if_neg (fun e2 => hjm (e1.symm.trans e2))] at hm
      exact hap m b (fun e2 => hjm (e1.symm.trans e2)) hm k e
    · rw [if_neg e1] at hj
      by_cases e2 : i = m
      · rw [if_pos e2, if_pos hil] at hm
        cases hm
        intro e3
        exact hap j a e1 hj k e3 e
      · rw [if_neg e2] at hm
        exact h.2 j m a b hjm hj hm k e
end
end Go.Proofs.YtfnjoceolcdeoaaGreatDoor

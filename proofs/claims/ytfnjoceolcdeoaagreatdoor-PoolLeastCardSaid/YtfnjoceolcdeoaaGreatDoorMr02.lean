/- Words for memory that all walks of this family share: what may change (Kept), a block known whole (Blk), a slice that reads as a list (Sl), a map that reads as a list of pairs (KMap). No program is named. -/
import Derived.WalkKit
import Derived.WalkSpells
import Derived.WalkLawsBesides
import Derived.MapKept
import Derived.ChangeMaps5
import Derived.Lib.Hide
namespace Go.Proofs.YtfnjoceolcdeoaaGreatDoor
set_option linter.unusedVariables false
open Go.RowKit Go.MapKept
open Go.ChangeMaps (setBlock)

/-! ## What may change -/

/-- From w to w' no block that was there has changed, but for those of S; the streams are as they were. -/
structure Kept (S : Nat → Prop) (w w' : World) : Prop where
  os : w'.os = w.os
  tape : w'.tape = w.tape
  output : w'.output = w.output
  size : w.heap.size ≤ w'.heap.size
  block : ∀ k, k < w.heap.size → ¬ S k → w'.heap[k]? = w.heap[k]?

def noBlock : Nat → Prop := fun _ => False

section
variable {S T : Nat → Prop} {a b c w w' : World}
theorem Kept.refl (S : Nat → Prop) (w : World) : Kept S w w := ⟨rfl, rfl, rfl, Nat.le_refl _, fun _ _ _ => rfl⟩
theorem Kept.mono (h : Kept S w w') (hS : ∀ k, k < w.heap.size → S k → T k) : Kept T w w' :=
  ⟨h.os, h.tape, h.output, h.size, fun k hk hn => h.block k hk fun hs => hn (hS k hk hs)⟩
theorem Kept.trans (h : Kept S a b) (k : Kept T b c) (hT : ∀ i, i < a.heap.size → T i → S i) : Kept S a c :=
  ⟨k.os.trans h.os, k.tape.trans h.tape, k.output.trans h.output, Nat.le_trans h.size k.size, fun i hi hn => (k.block i (Nat.lt_of_lt_of_le hi h.size) fun ht => hn (hT i hi ht)).trans (h.block i hi hn)⟩
theorem Kept.of_none (h : Kept noBlock w w') : Kept S w w' := h.mono fun _ _ h => h.elim
theorem Kept.drew (h : Kept S a w) : Kept S a w.drew := ⟨h.os, h.tape, h.output, h.size, h.block⟩
theorem Kept.drewN (h : Kept S a w) (n : Nat) : Kept S a (w.drewN n) := ⟨h.os, h.tape, h.output, h.size, h.block⟩
theorem Kept.alloc (h : Kept S a w) (o : Obj) : Kept S a (w.alloc o) :=
  h.trans (T := fun _ => False) ⟨rfl, rfl, rfl, by simp, fun k hk _ => Below.heap_alloc _ _ _ hk⟩ fun _ _ h => h.elim
theorem Kept.setCell (h : Kept S a w) {p : Addr} (hp : p.block < a.heap.size → S p.block) (u : Value) : Kept S a (w.setCell p u) :=
  h.trans (T := fun k => k = p.block) ⟨rfl, rfl, rfl, by simp [World.setCell], fun k _ hk => Below.heap_setCell _ _ _ _ hk⟩ fun i hi e => e ▸ hp (e ▸ hi)
theorem heap_setBlock (w : World) (m : Nat) (o : Obj) (k : Nat) (h : k ≠ m) : (setBlock w m o).heap[k]? = w.heap[k]? := by
  simp only [setBlock]; rw [Array.getElem?_setIfInBounds_ne (Ne.symm h)]
theorem size_setBlock (w : World) (m : Nat) (o : Obj) : (setBlock w m o).heap.size = w.heap.size := by simp [setBlock]
theorem sz_setCell (w : World) (p : Addr) (u : Value) : (w.setCell p u).heap.size = w.heap.size := by simp [World.setCell]
theorem sz_alloc (w : World) (o : Obj) : (w.alloc o).heap.size = w.heap.size + 1 := by simp
theorem sz_drew (w : World) : w.drew.heap.size = w.heap.size := rfl
theorem sz_drewN (w : World) (n : Nat) : (w.drewN n).heap.size = w.heap.size := rfl
theorem Kept.setBlock (h : Kept S a w) {m : Nat} (hp : m < a.heap.size → S m) (o : Obj) : Kept S a (setBlock w m o) :=
  h.trans (T := fun k => k = m) ⟨rfl, rfl, rfl, by rw [size_setBlock]; exact Nat.le_refl _, fun k _ hk => heap_setBlock _ _ _ _ hk⟩ fun i hi e => e ▸ hp (e ▸ hi)
theorem Kept.of_below (h : Below w.heap.size w w') : Kept S w w' := ⟨h.os, h.tape, h.output, h.size, fun k hk _ => h.block k hk⟩
theorem Kept.below {B : Nat} (h : Kept S w w') (hB : B ≤ w.heap.size) (hS : ∀ k, k < w.heap.size → S k → B ≤ k) : Below B w w' :=
  ⟨h.os, h.tape, h.output, h.size, fun k hk => h.block k (by omega) fun hs => by have := hS k (by omega) hs; omega⟩
theorem Kept.grown {row : Option Nat} (h : Kept S a w) (hg : w.grownBy w' row) (hr : ∀ k, row = some k → k < a.heap.size → S k) : Kept S a w' :=
  h.trans (T := fun k => row = some k) ⟨hg.os, hg.tape, hg.output, hg.size, fun k hk hn => hg.block k hk fun e => hn e.symm⟩ fun i hi e => hr i e hi
theorem Kept.cell {p : Addr} (h : Kept S w w') (hp : p.block < w.heap.size) (hn : ¬ S p.block) : w'.cell? p = w.cell? p := World.cell?_of_block (w := w) (h.block _ hp hn)
theorem Kept.frozen {p : Addr} (h : Kept S w w') (hp : p.block < w.heap.size) (hn : ¬ S p.block) : w'.frozen? p = w.frozen? p := World.frozen?_of_block (w := w) (h.block _ hp hn)
end

/-! ## A block known whole -/

def Blk (w : World) (g : Nat) (t : TypeId) (cs : Array Value) : Prop := w.heap[g]? = some (.cells cs t (0, 0))

section
variable {w w' : World} {g : Nat} {t : TypeId} {cs : Array Value} {S : Nat → Prop}
theorem lt_of_heap {o : Obj} (h : w.heap[g]? = some o) : g < w.heap.size := by
  rcases Nat.lt_or_ge g w.heap.size with hlt | hge
  · exact hlt
  · rw [Array.getElem?_eq_none hge] at h; cases h
theorem Blk.lt (h : Blk w g t cs) : g < w.heap.size := lt_of_heap h
theorem Blk.cell (h : Blk w g t cs) (i : Nat) : w.cell? ⟨g, i, none⟩ = cs[i]? := cell_of_row w g i cs t (0, 0) h
theorem Blk.frozen (h : Blk w g t cs) (i : Nat) : w.frozen? ⟨g, i, none⟩ = false := by
  unfold Blk at h
  simp [World.frozen?, h]
theorem Blk.new (w : World) (t : TypeId) (cs : Array Value) : Blk (w.alloc (.cells cs t)) w.heap.size t cs := heap_alloc_new w _
theorem Blk.new_at {k : Nat} (w : World) (t : TypeId) (cs : Array Value) (h : k = w.heap.size) : Blk (w.alloc (.cells cs t)) k t cs := by subst h; exact heap_alloc_new w _
theorem Blk.drew (h : Blk w g t cs) : Blk w.drew g t cs := h
theorem Blk.drewN (h : Blk w g t cs) (n : Nat) : Blk (w.drewN n) g t cs := h
theorem Blk.alloc (h : Blk w g t cs) (o : Obj) : Blk (w.alloc o) g t cs := (Below.heap_alloc w o g h.lt).trans h
theorem Blk.set_ (h : Blk w g t cs) (i : Nat) (u : Value) : Blk (w.setCell ⟨g, i, none⟩ u) g t (cs.setIfInBounds i u) := by
  unfold Blk at h ⊢
  simp [World.setCell, Array.getElem?_modify, h]
theorem Blk.far (h : Blk w g t cs) {p : Addr} (hp : g ≠ p.block) (u : Value) : Blk (w.setCell p u) g t cs := (Below.heap_setCell w p u g hp).trans h
theorem Blk.setBlock (h : Blk w g t cs) {m : Nat} (hm : g ≠ m) (o : Obj) : Blk (setBlock w m o) g t cs := (heap_setBlock w m o g hm).trans h
theorem Blk.kept (h : Blk w g t cs) (hk : Kept S w w') (hg : ¬ S g) : Blk w' g t cs := (hk.block g h.lt hg).trans h
theorem Blk.ne_ {g' : Nat} {t' : TypeId} {cs' : Array Value} (h : Blk w g t cs) (h' : Blk w g' t' cs') (hne : t ≠ t') : g ≠ g' := by
  rintro rfl
  unfold Blk at h h'
  rw [h] at h'
  injection h' with h'
  injection h' with _ ht
  exact hne ht
end

theorem one_max : 1 ≤ maxLen := by decide

/-! ## A slice that reads as a list: n elements of sz cells each; nil let in; 'ok' is what is known of its block: its number and its element type -/

def SlK (w : World) (ok : Nat → TypeId → Prop) (sz : Nat) (v : Value) (n : Nat) (xs : List Value) : Prop :=
  xs.length = n * sz ∧ ∃ A cap, v = .slice A n cap ∧ n ≤ cap ∧ cap ≤ maxLen ∧
    ((n = 0 ∧ cap = 0) ∨ ∃ g off cs e fz, A = some ⟨g, off, none⟩ ∧ w.heap[g]? = some (.cells cs e fz) ∧ ok g e ∧ ∀ j u, xs[j]? = some u → cs[off + j]? = some u)

/-- Its block is of element type e: no store into a block of another type changes it. -/
abbrev Sl (w : World) (e : TypeId) (sz : Nat) (v : Value) (n : Nat) (xs : List Value) : Prop := SlK w (fun _ e' => e' = e) sz v n xs
/-- Its block lies below block number B. -/
abbrev Lo (w : World) (B : Nat) (sz : Nat) (v : Value) (n : Nat) (xs : List Value) : Prop := SlK w (fun g _ => g < B) sz v n xs

section
variable {w w' : World} {ok : Nat → TypeId → Prop} {e : TypeId} {sz n : Nat} {v : Value} {xs : List Value} {S : Nat → Prop}
theorem SlK.nil (w : World) (ok : Nat → TypeId → Prop) (sz : Nat) : SlK w ok sz (.slice none 0 0) 0 [] := ⟨by simp, none, 0, rfl, Nat.le_refl _, by simp [maxLen], .inl ⟨rfl, rfl⟩⟩
theorem Sl.nil (w : World) (e : TypeId) (sz : Nat) : Sl w e sz (.slice none 0 0) 0 [] := SlK.nil w _ sz
theorem SlK.keep (h : SlK w ok sz v n xs) (hk : ∀ (g : Nat) (cs : Array Value) (e : TypeId) (fz : Nat × Nat), ok g e → w.heap[g]? = some (Obj.cells cs e fz) → w'.heap[g]? = some (Obj.cells cs e fz)) : SlK w' ok sz v n xs := by
  obtain ⟨hl, A, cap, hv, h1, h2, h3⟩ := h
  refine ⟨hl, A, cap, hv, h1, h2, ?_⟩
  rcases h3 with h3 | ⟨g, off, cs, e, fz, hA, hh, ho, hc⟩
  · exact .inl h3
  · exact .inr ⟨g, off, cs, e, fz, hA, hk g cs e fz ho hh, ho, hc⟩
theorem SlK.any (h : SlK w ok sz v n xs) {ok' : Nat → TypeId → Prop} (hk : ∀ g e, g < w.heap.size → ok g e → ok' g e) : SlK w ok' sz v n xs := by
  obtain ⟨hl, A, cap, hv, h1, h2, h3⟩ := h
  refine ⟨hl, A, cap, hv, h1, h2, ?_⟩
  rcases h3 with h3 | ⟨g, off, cs, e, fz, hA, hh, ho, hc⟩
  · exact .inl h3
  · exact .inr ⟨g, off, cs, e, fz, hA, hh, hk g e (lt_of_heap hh) ho, hc⟩
/-- From w on it is known to lie below w's own end. -/
theorem SlK.lo (h : SlK w ok sz v n xs) : Lo w w.heap.size sz v n xs := h.any fun _ _ hg _ => hg
theorem SlK.kept (h : Sl w e sz v n xs) (hk : Kept S w w') (hS : ∀ (g : Nat) (cs : Array Value) (fz : Nat × Nat), S g → w.heap[g]? ≠ some (Obj.cells cs e fz)) : Sl w' e sz v n xs :=
  SlK.keep h fun g cs e' fz he hg => (hk.block g (lt_of_heap hg) fun hs => hS g cs fz hs (he ▸ hg)).trans hg
theorem SlK.keptAll (h : SlK w ok sz v n xs) (hk : Kept S w w') (hS : ∀ g e, ok g e → ¬ S g) : SlK w' ok sz v n xs :=
  h.keep fun g cs e fz ho hg => (hk.block g (lt_of_heap hg) (hS g e ho)).trans hg
theorem Lo.kept {B : Nat} (h : Lo w B sz v n xs) (hk : Kept S w w') (hS : ∀ g, g < B → ¬ S g) : Lo w' B sz v n xs := SlK.keptAll h hk fun g _ ho => hS g ho
theorem SlK.keptNone (h : SlK w ok sz v n xs) (hk : Kept noBlock w w') : SlK w' ok sz v n xs := h.keptAll hk fun _ _ _ h => h
theorem SlK.drew (h : SlK w ok sz v n xs) : SlK w.drew ok sz v n xs := h
theorem SlK.drewN (h : SlK w ok sz v n xs) (k : Nat) : SlK (w.drewN k) ok sz v n xs := h
theorem SlK.alloc (h : SlK w ok sz v n xs) (o : Obj) : SlK (w.alloc o) ok sz v n xs := h.keep fun g _ _ _ _ hg => (Below.heap_alloc w o g (lt_of_heap hg)).trans hg
theorem SlK.far {t : TypeId} {g : Nat} {cs : Array Value} (h : Sl w e sz v n xs) (hb : Blk w g t cs) (ht : t ≠ e) (i : Nat) (u : Value) : Sl (w.setCell ⟨g, i, none⟩ u) e sz v n xs :=
  SlK.keep h fun k cs' e' fz he hk => (Below.heap_setCell w ⟨g, i, none⟩ u k (by
    rintro rfl
    unfold Blk at hb
    rw [hb] at hk
    injection hk with hk
    injection hk with _ h2
    exact ht (h2.trans he))).trans hk
theorem Lo.far {B : Nat} (h : Lo w B sz v n xs) {p : Addr} (hp : B ≤ p.block) (u : Value) : Lo (w.setCell p u) B sz v n xs :=
  SlK.keep h fun k cs' e' fz he hk => (Below.heap_setCell w p u k (by omega)).trans hk
theorem SlK.setBlock {m : Nat} {es : Array MapEntry} {ck : Nat} (h : SlK w ok sz v n xs) (hm : w.heap[m]? = some (.map es ck)) (o : Obj) : SlK (setBlock w m o) ok sz v n xs :=
  h.keep fun k cs' e' fz _ hk => (heap_setBlock w m o k (by rintro rfl; rw [hm] at hk; cases hk)).trans hk
/-- The slice's own form where it has an element. -/
theorem SlK.form (h : SlK w ok sz v n xs) (hn : 0 < n) : ∃ g off cap, v = .slice (some ⟨g, off, none⟩) n cap ∧ n ≤ cap ∧ cap ≤ maxLen ∧ g < w.heap.size ∧ (∀ j u, xs[j]? = some u → w.cell? ⟨g, off + j, none⟩ = some u) := by
  obtain ⟨_, A, cap, hv, h1, h2, h3⟩ := h
  rcases h3 with ⟨h0, _⟩ | ⟨g, off, cs, e, fz, rfl, hh, _, hc⟩
  · omega
  · exact ⟨g, off, cap, hv, h1, h2, lt_of_heap hh, fun j u hu => by rw [cell_of_row w g (off + j) cs e fz hh]; exact hc j u hu⟩
theorem SlK.len (h : SlK w ok sz v n xs) : xs.length = n * sz := h.1
theorem SlK.shape (h : SlK w ok sz v n xs) : ∃ A cap, v = .slice A n cap ∧ n ≤ cap ∧ cap ≤ maxLen := by
  obtain ⟨_, A, cap, hv, h1, h2, _⟩ := h
  exact ⟨A, cap, hv, h1, h2⟩
/-- A block that has just been made, read as a slice. -/
theorem Sl.made {g : Nat} {cs : Array Value} (hb : Blk w g e cs) (hn : cs.size = n * sz) (hm : n ≤ maxLen) : Sl w e sz (.slice (some ⟨g, 0, none⟩) n n) n cs.toList :=
  ⟨by simpa using hn, some ⟨g, 0, none⟩, n, rfl, Nat.le_refl _, hm, .inr ⟨g, 0, cs, e, (0, 0), rfl, hb, rfl, fun j u hu => by simpa using hu⟩⟩
/-- .. its first k elements, where an element is one cell. -/
theorem Sl.cutAt {g k N : Nat} {cs : Array Value} (hb : Blk w g e cs) (hN : cs.size = N) (hk : k ≤ N) (hm : N ≤ maxLen) : Sl w e 1 (.slice (some ⟨g, 0, none⟩) k N) k (cs.toList.take k) :=
  ⟨by simp; omega, _, _, rfl, hk, hm, .inr ⟨g, 0, cs, e, (0, 0), rfl, hb, rfl, fun j u hu => by
    have := (List.getElem?_eq_some_iff.1 hu).1
    rw [List.getElem?_take_of_lt (by simp at this; omega)] at hu
    simpa using hu⟩⟩
end

/-! ## A map that reads as a list of pairs, as they were put in -/

section
variable {α β : Type} [DecidableEq α]
def aget (k : α) : List (α × β) → Option β
  | [] => none
  | (a, b) :: t => if a = k then some b else aget k t
def aput (k : α) (v : β) : List (α × β) → List (α × β)
  | [] => [(k, v)]
  | (a, b) :: t => if a = k then (k, v) :: t else (a, b) :: aput k v t
def adel (k : α) : List (α × β) → List (α × β)
  | [] => []
  | (a, b) :: t => if a = k then t else (a, b) :: adel k t

theorem aget_none {k : α} : ∀ {l : List (α × β)}, (∀ p ∈ l, p.1 ≠ k) → aget k l = none
  | [], _ => rfl
  | (a, b) :: t, h => by rw [aget, if_neg (h _ (.head _))]; exact aget_none fun p hp => h p (.tail _ hp)
theorem aput_none {k : α} {v : β} : ∀ {l : List (α × β)}, (∀ p ∈ l, p.1 ≠ k) → aput k v l = l ++ [(k, v)]
  | [], _ => rfl
  | (a, b) :: t, h => by rw [aput, if_neg (h _ (.head _)), aput_none fun p hp => h p (.tail _ hp)]; rfl
theorem adel_none {k : α} : ∀ {l : List (α × β)}, (∀ p ∈ l, p.1 ≠ k) → adel k l = l
  | [], _ => rfl
  | (a, b) :: t, h => by rw [adel, if_neg (h _ (.head _)), adel_none fun p hp => h p (.tail _ hp)]
theorem aget_mid {k : α} {v : β} : ∀ {l : List (α × β)} {r}, (∀ p ∈ l, p.1 ≠ k) → aget k (l ++ (k, v) :: r) = some v
  | [], _, _ => by simp [aget]
  | (a, b) :: t, r, h => by
    show (if a = k then some b else aget k (t ++ (k, v) :: r)) = _
    rw [if_neg (h _ (.head _))]; exact aget_mid fun p hp => h p (.tail _ hp)
theorem aput_mid {k : α} {v u : β} : ∀ {l : List (α × β)} {r}, (∀ p ∈ l, p.1 ≠ k) → aput k u (l ++ (k, v) :: r) = l ++ (k, u) :: r
  | [], _, _ => by simp [aput]
  | (a, b) :: t, r, h => by
    show (if a = k then _ else (a, b) :: aput k u (t ++ (k, v) :: r)) = _
    rw [if_neg (h _ (.head _)), aput_mid fun p hp => h p (.tail _ hp)]; rfl
theorem adel_mid {k : α} {v : β} : ∀ {l : List (α × β)} {r}, (∀ p ∈ l, p.1 ≠ k) → adel k (l ++ (k, v) :: r) = l ++ r
  | [], _, _ => by simp [adel]
  | (a, b) :: t, r, h => by
    show (if a = k then _ else (a, b) :: adel k (t ++ (k, v) :: r)) = _
    rw [if_neg (h _ (.head _)), adel_mid fun p hp => h p (.tail _ hp)]; rfl
theorem aget_eq_none {k : α} {l : List (α × β)} : aget k l = none ↔ ∀ p ∈ l, p.1 ≠ k := by
  induction l with
  | nil => simp [aget]
  | cons p t ih =>
    obtain ⟨a, b⟩ := p
    by_cases h : a = k
    · simp [aget, h]
    · simp [aget, h]; simpa using ih
theorem aget_some_split {k : α} {v : β} {l : List (α × β)} (h : aget k l = some v) : ∃ A B, l = A ++ (k, v) :: B ∧ ∀ p ∈ A, p.1 ≠ k := by
  induction l with
  | nil => simp [aget] at h
  | cons p t ih =>
    obtain ⟨a, b⟩ := p
    by_cases e : a = k
    · simp [aget, e] at h; subst h; subst e; exact ⟨[], t, rfl, by simp⟩
    · rw [aget, if_neg e] at h
      obtain ⟨A, B, rfl, hA⟩ := ih h
      exact ⟨(a, b) :: A, B, rfl, by intro p hp; cases hp with | head => exact e | tail _ hp => exact hA p hp⟩
end

section
variable {α β : Type}
/-- How keys stand in a map: each is one of the kind d, and no two are alike. -/
structure KeyEmb (d : TypeDesc) (key : α → Value) : Prop where
  is : ∀ a, IsKey d (key a)
  inj : ∀ a b, key a = key b → a = b

theorem int_emb (k : IntKind) : KeyEmb (.int k) (fun n : Int => Value.int k n) := ⟨fun _ => rfl, fun _ _ h => by injection h⟩
theorem string_emb : KeyEmb .string (fun s : ByteArray => Value.string s) := ⟨fun _ => trivial, fun _ _ h => by injection h⟩

def KMap (d : TypeDesc) (key : α → Value) (val : β → Value) (w : World) (m : Nat) (L : List (α × β)) : Prop :=
  ∃ es clock, w.heap[m]? = some (.map es clock) ∧ Stamped es clock ∧ es.toList.map (fun e => (e.key, e.val)) = L.map (fun p => (key p.1, val p.2))

variable {d : TypeDesc} {key : α → Value} {val : β → Value} {w w' : World} {m : Nat} {L : List (α × β)} {S : Nat → Prop} {P : Program} {mt kt et : TypeId}

theorem KMap.lt (h : KMap d key val w m L) : m < w.heap.size := by obtain ⟨es, ck, hh, _⟩ := h; exact lt_of_heap hh
theorem KMap.heap (h : KMap d key val w m L) : ∃ es ck, w.heap[m]? = some (.map es ck) := by obtain ⟨es, ck, hh, _⟩ := h; exact ⟨es, ck, hh⟩
theorem KMap.keep (h : KMap d key val w m L) (hk : w'.heap[m]? = w.heap[m]?) : KMap d key val w' m L := by
  obtain ⟨es, ck, hh, h2⟩ := h
  exact ⟨es, ck, hk.trans hh, h2⟩
theorem KMap.kept (h : KMap d key val w m L) (hk : Kept S w w') (hS : ¬ S m) : KMap d key val w' m L := h.keep (hk.block m h.lt hS)
theorem KMap.drew (h : KMap d key val w m L) : KMap d key val w.drew m L := h
theorem KMap.drewN (h : KMap d key val w m L) (n : Nat) : KMap d key val (w.drewN n) m L := h
theorem KMap.alloc (h : KMap d key val w m L) (o : Obj) : KMap d key val (w.alloc o) m L := h.keep (Below.heap_alloc w o m h.lt)
theorem KMap.ne_blk {g : Nat} {t : TypeId} {cs : Array Value} (h : KMap d key val w m L) (hb : Blk w g t cs) : g ≠ m := by
  rintro rfl
  obtain ⟨es, ck, hh, _⟩ := h
  unfold Blk at hb
  rw [hb] at hh; cases hh
theorem KMap.setCell {p : Addr} (h : KMap d key val w m L) (hp : m ≠ p.block) (u : Value) : KMap d key val (w.setCell p u) m L := h.keep (Below.heap_setCell w p u m hp)
theorem KMap.setBlock {g : Nat} (h : KMap d key val w m L) (hp : m ≠ g) (o : Obj) : KMap d key val (setBlock w g o) m L := h.keep (heap_setBlock w g o m hp)
theorem KMap.new (w : World) : KMap d key val (w.alloc (.map #[] 0)) w.heap.size ([] : List (α × β)) :=
  ⟨#[], 0, heap_alloc_new w _, stamped_empty _, rfl⟩
theorem cell?_setBlock_map {es : Array MapEntry} {ck : Nat} {es' : Array MapEntry} {ck' : Nat} (hb : w.heap[m]? = some (.map es ck)) (a : Addr) : (setBlock w m (.map es' ck')).cell? a = w.cell? a := by
  unfold World.cell?
  by_cases e : a.block = m
  · rw [e, Go.ChangeMaps.heap_setBlock_same hb, hb]
  · rw [heap_setBlock _ _ _ _ e]
theorem frozen?_setBlock_map {es : Array MapEntry} {ck : Nat} {es' : Array MapEntry} {ck' : Nat} (hb : w.heap[m]? = some (.map es ck)) (a : Addr) : (setBlock w m (.map es' ck')).frozen? a = w.frozen? a := by
  unfold World.frozen?
  by_cases e : a.block = m
  · rw [e, Go.ChangeMaps.heap_setBlock_same hb, hb]
  · rw [heap_setBlock _ _ _ _ e]
/-- What a change to a map's block leaves as it was: rules for a walk. -/
theorem KMap.rules (h : KMap d key val w m L) (es : Array MapEntry) (ck : Nat) : (∀ a, (Go.ChangeMaps.setBlock w m (.map es ck)).cell? a = w.cell? a) ∧ (∀ a, (Go.ChangeMaps.setBlock w m (.map es ck)).frozen? a = w.frozen? a) ∧ (Go.ChangeMaps.setBlock w m (.map es ck)).heap.size = w.heap.size := by
  obtain ⟨es0, ck0, hh, _⟩ := h
  exact ⟨cell?_setBlock_map hh, frozen?_setBlock_map hh, size_setBlock _ _ _⟩
theorem KMap.nodup (h : KMap d key val w m L) (K : KeyEmb d key) : (L.map (·.1)).Nodup := by
  obtain ⟨es, ck, _, hst, hL⟩ := h
  have h3 := hst.2.2
  have e1 : es.toList.map (·.key) = (L.map (·.1)).map key := by
    have := congrArg (List.map Prod.fst) hL
    simpa [List.map_map, Function.comp_def] using this
  rw [e1] at h3
  exact (List.pairwise_map.1 h3).imp fun hne e => hne (by rw [e])

variable [DecidableEq α]
omit [DecidableEq α] in
theorem KMap.find (es : Array MapEntry) (K : KeyEmb d key) (hL : es.toList.map (fun e => (e.key, e.val)) = L.map (fun p => (key p.1, val p.2))) (k : α) :
    (Instr.findNow d (key k) es.toList 0 = some none ∧ (∀ x ∈ es.toList, x.key ≠ key k) ∧ ∀ p ∈ L, p.1 ≠ k) ∨
    ∃ A B v E F x, L = A ++ (k, v) :: B ∧ (∀ p ∈ A, p.1 ≠ k) ∧ es.toList = E ++ x :: F ∧ E.length = A.length ∧ x.key = key k ∧ x.val = val v ∧
      E.map (fun e => (e.key, e.val)) = A.map (fun p => (key p.1, val p.2)) ∧ F.map (fun e => (e.key, e.val)) = B.map (fun p => (key p.1, val p.2)) ∧
      Instr.findNow d (key k) es.toList 0 = some (some (A.length, val v)) := by
  have gen : ∀ (l : List MapEntry) (L : List (α × β)) (i : Nat), l.map (fun e => (e.key, e.val)) = L.map (fun p => (key p.1, val p.2)) →
      (Instr.findNow d (key k) l i = some none ∧ (∀ x ∈ l, x.key ≠ key k) ∧ ∀ p ∈ L, p.1 ≠ k) ∨
      ∃ A B v E F x, L = A ++ (k, v) :: B ∧ (∀ p ∈ A, p.1 ≠ k) ∧ l = E ++ x :: F ∧ E.length = A.length ∧ x.key = key k ∧ x.val = val v ∧
        E.map (fun e => (e.key, e.val)) = A.map (fun p => (key p.1, val p.2)) ∧ F.map (fun e => (e.key, e.val)) = B.map (fun p => (key p.1, val p.2)) ∧
        Instr.findNow d (key k) l i = some (some (i + A.length, val v)) := by
    intro l
    induction l with
    | nil =>
      intro L i h
      cases L with
      | nil => exact .inl ⟨rfl, by simp, by simp⟩
      | cons p t => simp at h
    | cons x t ih =>
      intro L i h
      cases L with
      | nil => simp at h
      | cons p T =>
        obtain ⟨a, b⟩ := p
        simp only [List.map_cons, List.cons.injEq, Prod.mk.injEq] at h
        obtain ⟨⟨hx, hv⟩, ht⟩ := h
        obtain ⟨r, hr, hiff⟩ := sameNow_of_keys (K.is k) (K.is a)
        by_cases e : a = k
        · subst e
          have : r = true := hiff.2 rfl
          subst this
          exact .inr ⟨[], T, b, [], t, x, rfl, by simp, rfl, rfl, hx, hv, rfl, ht, by simp [Instr.findNow, hx, hr, hv]⟩
        · have : r = false := by
            cases r with
            | false => rfl
            | true => exact absurd (K.inj _ _ (hiff.1 rfl)).symm e
          subst this
          rcases ih T (i + 1) ht with ⟨h1, h2, h3⟩ | ⟨A, B, v, E, F, y, rfl, hA, rfl, hE, hy, hyv, hEA, hFB, hf⟩
          · refine .inl ⟨by simp [Instr.findNow, hx, hr, h1], ?_, ?_⟩
            · intro y hy
              cases hy with
              | head => rw [hx]; exact fun q => e (K.inj _ _ q)
              | tail _ hy => exact h2 y hy
            · intro y hy
              cases hy with
              | head => exact e
              | tail _ hy => exact h3 y hy
          · refine .inr ⟨(a, b) :: A, B, v, x :: E, F, y, rfl, ?_, rfl, by simp [hE], hy, hyv, by simp [hEA, hx, hv], hFB, ?_⟩
            · intro y hy
              cases hy with
              | head => exact e
              | tail _ hy => exact hA y hy
            · simp [Instr.findNow, hx, hr, hf]; omega
  have := gen es.toList L 0 hL
  simpa using this

/-- A look-up. -/
theorem KMap.run_lookup (h : KMap d key val w m L) (K : KeyEmb d key) (hm : P.underlying mt = some (.map kt et)) (hk : P.underlying kt = some d) {z : Value} (hz : (zeroValue et).run P w = .ok z w) (k : α) (ok : Bool) :
    (Instr.lookup mt (.map (some m)) (key k) ok).run P w = .ok (if ok then .tuple #[((aget k L).map val).getD z, .bool (aget k L).isSome] else ((aget k L).map val).getD z) w := by
  obtain ⟨es, ck, hh, hst, hL⟩ := h
  rcases KMap.find es K hL k with ⟨h1, _, h3⟩ | ⟨A, B, v, E, F, x, rfl, hA, he, hE, hx, hv, hEA, hFB, hf⟩
  · simp [Instr.lookup, run_underlying hm, MapKept.run_getObj_map hh, MapKept.run_checkKey hk (K.is k), MapKept.run_findKey hk h1, hz, aget_none h3]
  · simp [Instr.lookup, run_underlying hm, MapKept.run_getObj_map hh, MapKept.run_checkKey hk (K.is k), MapKept.run_findKey hk hf, aget_mid hA]

theorem modify_mid {γ : Type} (E : List γ) (x : γ) (F : List γ) (f : γ → γ) : (E ++ x :: F).modify E.length f = E ++ f x :: F := by
  induction E with
  | nil => rfl
  | cons y t ih => simpa using ih

/-- A store. -/
theorem KMap.run_update (h : KMap d key val w m L) (K : KeyEmb d key) (hm : P.underlying mt = some (.map kt et)) (hk : P.underlying kt = some d) (k : α) (v : β) :
    ∃ es ck, (Instr.mapUpdate mt (.map (some m)) (key k) (val v)).run P w = .ok () (Go.ChangeMaps.setBlock w m (.map es ck)) ∧ KMap d key val (Go.ChangeMaps.setBlock w m (.map es ck)) m (aput k v L) := by
  obtain ⟨es, ck, hh, hst, hL⟩ := h
  rcases KMap.find es K hL k with ⟨h1, h2, h3⟩ | ⟨A, B, v', E, F, x, rfl, hA, he, hE, hx, hv, hEA, hFB, hf⟩
  · refine ⟨es.push { key := key k, val := val v, born := ck }, ck + 1, ?_, _, _, Go.ChangeMaps.heap_setBlock_same hh _, stamped_push hst h2, ?_⟩
    · simp [Instr.mapUpdate, run_underlying hm, MapKept.run_getObj_map hh, MapKept.run_checkKey hk (K.is k), MapKept.run_findKey hk h1, MapKept.run_setObj_map _ hh, Result.andThen, Go.ChangeMaps.setBlock]
    · rw [aput_none h3]; simp [hL]
  · have hj : es[A.length]? = some x := by
      have : es.toList[A.length]? = some x := by rw [he, ← hE]; simp
      simpa using this
    have hkey : ∀ e', es[A.length]? = some e' → ({ e' with key := key k, val := val v } : MapEntry).key = e'.key := fun e' he' => by rw [hj] at he'; cases he'; exact hx.symm
    refine ⟨es.modify A.length (fun e' => { e' with key := key k, val := val v }), ck, ?_, _, _, Go.ChangeMaps.heap_setBlock_same hh _, stamped_modify hst _ _ (fun _ _ => rfl) (fun e' _ he' => hkey e' he'), ?_⟩
    · simp [Instr.mapUpdate, run_underlying hm, MapKept.run_getObj_map hh, MapKept.run_checkKey hk (K.is k), MapKept.run_findKey hk hf, hj, hx, run_keyThatStays (K.is k), MapKept.run_setObj_map _ hh, Result.andThen, Go.ChangeMaps.setBlock]
    · rw [aput_mid hA, Array.toList_modify, he, ← hE]
      rw [modify_mid]
      simp [hEA, hFB]

/-- A deletion. -/
theorem KMap.run_delete (h : KMap d key val w m L) (K : KeyEmb d key) (hm : P.underlying mt = some (.map kt et)) (hk : P.underlying kt = some d) (k : α) :
    ∃ es ck, (∀ ty kt', (Builtin.delete_ #[mt, kt'] ty #[.map (some m), key k]).run P w = .ok (.tuple #[]) (Go.ChangeMaps.setBlock w m (.map es ck))) ∧ KMap d key val (Go.ChangeMaps.setBlock w m (.map es ck)) m (adel k L) := by
  obtain ⟨es, ck, hh, hst, hL⟩ := h
  rcases KMap.find es K hL k with ⟨h1, h2, h3⟩ | ⟨A, B, v', E, F, x, rfl, hA, he, hE, hx, hv, hEA, hFB, hf⟩
  · refine ⟨es, ck, ?_, _, _, Go.ChangeMaps.heap_setBlock_same hh _, hst, ?_⟩
    · intro ty kt'; simp [Builtin.delete_, run_underlying hm, MapKept.run_getObj_map hh, MapKept.run_checkKey hk (K.is k), MapKept.run_findKey hk h1, MapKept.run_setObj_map _ hh, Result.andThen, Go.ChangeMaps.setBlock]
    · rw [adel_none h3]; exact hL
  · have hlt : A.length < es.size := by
      have := congrArg List.length he
      simp at this; omega
    refine ⟨es.eraseIdxIfInBounds A.length, ck, ?_, _, _, Go.ChangeMaps.heap_setBlock_same hh _, stamped_erase hst _, ?_⟩
    · intro ty kt'; simp [Builtin.delete_, run_underlying hm, MapKept.run_getObj_map hh, MapKept.run_checkKey hk (K.is k), MapKept.run_findKey hk hf, MapKept.run_setObj_map _ hh, Result.andThen, Go.ChangeMaps.setBlock]
    · rw [adel_mid hA]
      have : (es.eraseIdxIfInBounds A.length).toList = E ++ F := by
        unfold Array.eraseIdxIfInBounds
        rw [dif_pos hlt, Array.toList_eraseIdx, he, ← hE]
        simp [List.eraseIdx_append_of_length_le]
      rw [this]
      simp [hEA, hFB]

omit [DecidableEq α] in
/-- All gone. -/
theorem KMap.run_clear (h : KMap d key val w m L) (hm : P.underlying mt = some (.map kt et)) :
    ∃ es ck, (∀ ty, (Builtin.clear_ #[mt] ty #[.map (some m)]).run P w = .ok (.tuple #[]) (Go.ChangeMaps.setBlock w m (.map es ck))) ∧ KMap d key val (Go.ChangeMaps.setBlock w m (.map es ck)) m ([] : List (α × β)) := by
  obtain ⟨es, ck, hh, hst, hL⟩ := h
  exact ⟨#[], ck, fun ty => by simp [Builtin.clear_, run_underlying hm, MapKept.run_getObj_map hh, MapKept.run_setObj_map _ hh, Result.andThen, Go.ChangeMaps.setBlock], _, _, Go.ChangeMaps.heap_setBlock_same hh _, stamped_empty _, rfl⟩

omit [DecidableEq α] in
/-- How many there are. -/
theorem KMap.run_len (h : KMap d key val w m L) (hm : P.underlying mt = some (.map kt et)) (ty : TypeId) :
    (Builtin.len_ #[mt] ty #[.map (some m)]).run P w = .ok (.int .i64 L.length) w := by
  obtain ⟨es, ck, hh, hst, hL⟩ := h
  have e : es.size = L.length := by simpa using congrArg List.length hL
  simp [Builtin.len_, run_underlying hm, MapKept.run_getObj_map hh, e, goInt]
end

#print axioms KMap.run_update
#print axioms KMap.run_delete
end Go.Proofs.YtfnjoceolcdeoaaGreatDoor

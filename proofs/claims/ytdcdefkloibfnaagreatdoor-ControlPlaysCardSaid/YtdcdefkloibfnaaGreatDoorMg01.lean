/- Words for memory that all walks of this family share: what may change (Kept), a block known whole (Blk), a slice that reads as a list (Sl), a map that reads as a list of pairs (KMap). No program is named · Append onto a row of the call's own, whatever the source is (nil, empty, cut); the words of Base go with it. No program is named · A slice of structs of one number of cells: its i-th element. No program is named · control, plainly: the name of an address. No program is named · Words on rows and worlds that all walks share: an append below, texts, pairs; worlds that have only drawn, and grown. -/
import Derived.WalkKit
import Derived.WalkSpells
import Derived.WalkLawsBesides
import Derived.MapKept
import Derived.ChangeMaps5
import Derived.Lib.Hide
import Derived.Maps.AppendAt
import Derived.Deep.AppendLies
import Derived.RegionTactic
import Derived.OwnWalk
import Derived.StillTailTactics
import Derived.Deep.RegionWith
import Derived.Deep.QuietTactic
import Derived.BigQuiet
import Derived.BigRegion
import Derived.Lib.ItoaNum
import Derived.Lib.Join
import Derived.Test.YtdcdefkloibfnaaGreatDoorProg
import Derived.Shelf.SlSortCmp.KitK
import Derived.Shelf.SlicesQ.IndexFunc
namespace Go.Proofs.YtdcdefkloibfnaaGreatDoor
set_option linter.unusedVariables false
open Go.RowKit Go.MapKept
open Go.ChangeMaps (setBlock)

/-! ## What may change -/

/-- From w to w' no block that was there has changed, but for those of S; the streams are as they were. -/
structure Kept (S : Nat → Prop) (w w' : World) : Prop where
  os : w'.os = w.os
  tape : w'.tape = w.tape
  output : w'.output = w.output
  size : w.heap.size ≤ w'.heap.size
  block : ∀ k, k < w.heap.size → ¬ S k → w'.heap[k]? = w.heap[k]?

def noBlock : Nat → Prop := fun _ => False

section
variable {S T : Nat → Prop} {a b c w w' : World}
theorem Kept.refl (S : Nat → Prop) (w : World) : Kept S w w := ⟨rfl, rfl, rfl, Nat.le_refl _, fun _ _ _ => rfl⟩
theorem Kept.mono (h : Kept S w w') (hS : ∀ k, k < w.heap.size → S k → T k) : Kept T w w' :=
  ⟨h.os, h.tape, h.output, h.size, fun k hk hn => h.block k hk fun hs => hn (hS k hk hs)⟩
theorem Kept.trans (h : Kept S a b) (k : Kept T b c) (hT : ∀ i, i < a.heap.size → T i → S i) : Kept S a c :=
  ⟨k.os.trans h.os, k.tape.trans h.tape, k.output.trans h.output, Nat.le_trans h.size k.size, fun i hi hn => (k.block i (Nat.lt_of_lt_of_le hi h.size) fun ht => hn (hT i hi ht)).trans (h.block i hi hn)⟩
theorem Kept.of_none (h : Kept noBlock w w') : Kept S w w' := h.mono fun _ _ h => h.elim
theorem Kept.drew (h : Kept S a w) : Kept S a w.drew := ⟨h.os, h.tape, h.output, h.size, h.block⟩
theorem Kept.drewN (h : Kept S a w) (n : Nat) : Kept S a (w.drewN n) := ⟨h.os, h.tape, h.output, h.size, h.block⟩
theorem Kept.alloc (h : Kept S a w) (o : Obj) : Kept S a (w.alloc o) :=
  h.trans (T := fun _ => False) ⟨rfl, rfl, rfl, by simp, fun k hk _ => Below.heap_alloc _ _ _ hk⟩ fun _ _ h => h.elim
theorem Kept.setCell (h : Kept S a w) {p : Addr} (hp : p.block < a.heap.size → S p.block) (u : Value) : Kept S a (w.setCell p u) :=
  h.trans (T := fun k => k = p.block) ⟨rfl, rfl, rfl, by simp [World.setCell], fun k _ hk => Below.heap_setCell _ _ _ _ hk⟩ fun i hi e => e ▸ hp (e ▸ hi)
theorem heap_setBlock (w : World) (m : Nat) (o : Obj) (k : Nat) (h : k ≠ m) : (setBlock w m o).heap[k]? = w.heap[k]? := by
  simp only [setBlock]; rw [Array.getElem?_setIfInBounds_ne (Ne.symm h)]
theorem size_setBlock (w : World) (m : Nat) (o : Obj) : (setBlock w m o).heap.size = w.heap.size := by simp [setBlock]
theorem sz_setCell (w : World) (p : Addr) (u : Value) : (w.setCell p u).heap.size = w.heap.size := by simp [World.setCell]
theorem sz_alloc (w : World) (o : Obj) : (w.alloc o).heap.size = w.heap.size + 1 := by simp
theorem sz_drew (w : World) : w.drew.heap.size = w.heap.size := rfl
theorem sz_drewN (w : World) (n : Nat) : (w.drewN n).heap.size = w.heap.size := rfl
theorem Kept.setBlock (h : Kept S a w) {m : Nat} (hp : m < a.heap.size → S m) (o : Obj) : Kept S a (setBlock w m o) :=
  h.trans (T := fun k => k = m) ⟨rfl, rfl, rfl, by rw [size_setBlock]; exact Nat.le_refl _, fun k _ hk => heap_setBlock _ _ _ _ hk⟩ fun i hi e => e ▸ hp (e ▸ hi)
theorem Kept.of_below (h : Below w.heap.size w w') : Kept S w w' := ⟨h.os, h.tape, h.output, h.size, fun k hk _ => h.block k hk⟩
theorem Kept.below {B : Nat} (h : Kept S w w') (hB : B ≤ w.heap.size) (hS : ∀ k, k < w.heap.size → S k → B ≤ k) : Below B w w' :=
  ⟨h.os, h.tape, h.output, h.size, fun k hk => h.block k (by omega) fun hs => by have := hS k (by omega) hs; omega⟩
theorem Kept.grown {row : Option Nat} (h : Kept S a w) (hg : w.grownBy w' row) (hr : ∀ k, row = some k → k < a.heap.size → S k) : Kept S a w' :=
  h.trans (T := fun k => row = some k) ⟨hg.os, hg.tape, hg.output, hg.size, fun k hk hn => hg.block k hk fun e => hn e.symm⟩ fun i hi e => hr i e hi
theorem Kept.cell {p : Addr} (h : Kept S w w') (hp : p.block < w.heap.size) (hn : ¬ S p.block) : w'.cell? p = w.cell? p := World.cell?_of_block (w := w) (h.block _ hp hn)
theorem Kept.frozen {p : Addr} (h : Kept S w w') (hp : p.block < w.heap.size) (hn : ¬ S p.block) : w'.frozen? p = w.frozen? p := World.frozen?_of_block (w := w) (h.block _ hp hn)
end

/-! ## A block known whole -/

def Blk (w : World) (g : Nat) (t : TypeId) (cs : Array Value) : Prop := w.heap[g]? = some (.cells cs t (0, 0))

section
variable {w w' : World} {g : Nat} {t : TypeId} {cs : Array Value} {S : Nat → Prop}
theorem lt_of_heap {o : Obj} (h : w.heap[g]? = some o) : g < w.heap.size := by
  rcases Nat.lt_or_ge g w.heap.size with hlt | hge
  · exact hlt
  · rw [Array.getElem?_eq_none hge] at h; cases h
theorem Blk.lt (h : Blk w g t cs) : g < w.heap.size := lt_of_heap h
theorem Blk.cell (h : Blk w g t cs) (i : Nat) : w.cell? ⟨g, i, none⟩ = cs[i]? := cell_of_row w g i cs t (0, 0) h
theorem Blk.frozen (h : Blk w g t cs) (i : Nat) : w.frozen? ⟨g, i, none⟩ = false := by
  unfold Blk at h
  simp [World.frozen?, h]
theorem Blk.new (w : World) (t : TypeId) (cs : Array Value) : Blk (w.alloc (.cells cs t)) w.heap.size t cs := heap_alloc_new w _
theorem Blk.new_at {k : Nat} (w : World) (t : TypeId) (cs : Array Value) (h : k = w.heap.size) : Blk (w.alloc (.cells cs t)) k t cs := by subst h; exact heap_alloc_new w _
theorem Blk.drew (h : Blk w g t cs) : Blk w.drew g t cs := h
theorem Blk.drewN (h : Blk w g t cs) (n : Nat) : Blk (w.drewN n) g t cs := h
theorem Blk.alloc (h : Blk w g t cs) (o : Obj) : Blk (w.alloc o) g t cs := (Below.heap_alloc w o g h.lt).trans h
theorem Blk.set_ (h : Blk w g t cs) (i : Nat) (u : Value) : Blk (w.setCell ⟨g, i, none⟩ u) g t (cs.setIfInBounds i u) := by
  unfold Blk at h ⊢
  simp [World.setCell, Array.getElem?_modify, h]
theorem Blk.far (h : Blk w g t cs) {p : Addr} (hp : g ≠ p.block) (u : Value) : Blk (w.setCell p u) g t cs := (Below.heap_setCell w p u g hp).trans h
theorem Blk.setBlock (h : Blk w g t cs) {m : Nat} (hm : g ≠ m) (o : Obj) : Blk (setBlock w m o) g t cs := (heap_setBlock w m o g hm).trans h
theorem Blk.kept (h : Blk w g t cs) (hk : Kept S w w') (hg : ¬ S g) : Blk w' g t cs := (hk.block g h.lt hg).trans h
theorem Blk.ne_ {g' : Nat} {t' : TypeId} {cs' : Array Value} (h : Blk w g t cs) (h' : Blk w g' t' cs') (hne : t ≠ t') : g ≠ g' := by
  rintro rfl
  unfold Blk at h h'
  rw [h] at h'
  injection h' with h'
  injection h' with _ ht
  exact hne ht
end

theorem one_max : 1 ≤ maxLen := by decide

/-! ## A slice that reads as a list: n elements of sz cells each; nil let in; 'ok' is what is known of its block: its number and its element type -/

def SlK (w : World) (ok : Nat → TypeId → Prop) (sz : Nat) (v : Value) (n : Nat) (xs : List Value) : Prop :=
  xs.length = n * sz ∧ ∃ A cap, v = .slice A n cap ∧ n ≤ cap ∧ cap ≤ maxLen ∧
    ((n = 0 ∧ cap = 0) ∨ ∃ g off cs e fz, A = some ⟨g, off, none⟩ ∧ w.heap[g]? = some (.cells cs e fz) ∧ ok g e ∧ ∀ j u, xs[j]? = some u → cs[off + j]? = some u)

/-- Its block is of element type e: no store into a block of another type changes it. -/
abbrev Sl (w : World) (e : TypeId) (sz : Nat) (v : Value) (n : Nat) (xs : List Value) : Prop := SlK w (fun _ e' => e' = e) sz v n xs
/-- Its block lies below block number B. -/
abbrev Lo (w : World) (B : Nat) (sz : Nat) (v : Value) (n : Nat) (xs : List Value) : Prop := SlK w (fun g _ => g < B) sz v n xs

section
variable {w w' : World} {ok : Nat → TypeId → Prop} {e : TypeId} {sz n : Nat} {v : Value} {xs : List Value} {S : Nat → Prop}
theorem SlK.nil (w : World) (ok : Nat → TypeId → Prop) (sz : Nat) : SlK w ok sz (.slice none 0 0) 0 [] := ⟨by simp, none, 0, rfl, Nat.le_refl _, by simp [maxLen], .inl ⟨rfl, rfl⟩⟩
theorem Sl.nil (w : World) (e : TypeId) (sz : Nat) : Sl w e sz (.slice none 0 0) 0 [] := SlK.nil w _ sz
theorem SlK.keep (h : SlK w ok sz v n xs) (hk : ∀ (g : Nat) (cs : Array Value) (e : TypeId) (fz : Nat × Nat), ok g e → w.heap[g]? = some (Obj.cells cs e fz) → w'.heap[g]? = some (Obj.cells cs e fz)) : SlK w' ok sz v n xs := by
  obtain ⟨hl, A, cap, hv, h1, h2, h3⟩ := h
  refine ⟨hl, A, cap, hv, h1, h2, ?_⟩
  rcases h3 with h3 | ⟨g, off, cs, e, fz, hA, hh, ho, hc⟩
  · exact .inl h3
  · exact .inr ⟨g, off, cs, e, fz, hA, hk g cs e fz ho hh, ho, hc⟩
theorem SlK.any (h : SlK w ok sz v n xs) {ok' : Nat → TypeId → Prop} (hk : ∀ g e, g < w.heap.size → ok g e → ok' g e) : SlK w ok' sz v n xs := by
  obtain ⟨hl, A, cap, hv, h1, h2, h3⟩ := h
  refine ⟨hl, A, cap, hv, h1, h2, ?_⟩
  rcases h3 with h3 | ⟨g, off, cs, e, fz, hA, hh, ho, hc⟩
  · exact .inl h3
  · exact .inr ⟨g, off, cs, e, fz, hA, hh, hk g e (lt_of_heap hh) ho, hc⟩
/-- From w on it is known to lie below w's own end. -/
theorem SlK.lo (h : SlK w ok sz v n xs) : Lo w w.heap.size sz v n xs := h.any fun _ _ hg _ => hg
theorem SlK.kept (h : Sl w e sz v n xs) (hk : Kept S w w') (hS : ∀ (g : Nat) (cs : Array Value) (fz : Nat × Nat), S g → w.heap[g]? ≠ some (Obj.cells cs e fz)) : Sl w' e sz v n xs :=
  SlK.keep h fun g cs e' fz he hg => (hk.block g (lt_of_heap hg) fun hs => hS g cs fz hs (he ▸ hg)).trans hg
theorem SlK.keptAll (h : SlK w ok sz v n xs) (hk : Kept S w w') (hS : ∀ g e, ok g e → ¬ S g) : SlK w' ok sz v n xs :=
  h.keep fun g cs e fz ho hg => (hk.block g (lt_of_heap hg) (hS g e ho)).trans hg
theorem Lo.kept {B : Nat} (h : Lo w B sz v n xs) (hk : Kept S w w') (hS : ∀ g, g < B → ¬ S g) : Lo w' B sz v n xs := SlK.keptAll h hk fun g _ ho => hS g ho
theorem SlK.keptNone (h : SlK w ok sz v n xs) (hk : Kept noBlock w w') : SlK w' ok sz v n xs := h.keptAll hk fun _ _ _ h => h
theorem SlK.drew (h : SlK w ok sz v n xs) : SlK w.drew ok sz v n xs := h
theorem SlK.drewN (h : SlK w ok sz v n xs) (k : Nat) : SlK (w.drewN k) ok sz v n xs := h
theorem SlK.alloc (h : SlK w ok sz v n xs) (o : Obj) : SlK (w.alloc o) ok sz v n xs := h.keep fun g _ _ _ _ hg => (Below.heap_alloc w o g (lt_of_heap hg)).trans hg
theorem SlK.far {t : TypeId} {g : Nat} {cs : Array Value} (h : Sl w e sz v n xs) (hb : Blk w g t cs) (ht : t ≠ e) (i : Nat) (u : Value) : Sl (w.setCell ⟨g, i, none⟩ u) e sz v n xs :=
  SlK.keep h fun k cs' e' fz he hk => (Below.heap_setCell w ⟨g, i, none⟩ u k (by
    rintro rfl
    unfold Blk at hb
    rw [hb] at hk
    injection hk with hk
    injection hk with _ h2
    exact ht (h2.trans he))).trans hk
theorem Lo.far {B : Nat} (h : Lo w B sz v n xs) {p : Addr} (hp : B ≤ p.block) (u : Value) : Lo (w.setCell p u) B sz v n xs :=
  SlK.keep h fun k cs' e' fz he hk => (Below.heap_setCell w p u k (by omega)).trans hk
theorem SlK.setBlock {m : Nat} {es : Array MapEntry} {ck : Nat} (h : SlK w ok sz v n xs) (hm : w.heap[m]? = some (.map es ck)) (o : Obj) : SlK (setBlock w m o) ok sz v n xs :=
  h.keep fun k cs' e' fz _ hk => (heap_setBlock w m o k (by rintro rfl; rw [hm] at hk; cases hk)).trans hk
/-- The slice's own form where it has an element. -/
theorem SlK.form (h : SlK w ok sz v n xs) (hn : 0 < n) : ∃ g off cap, v = .slice (some ⟨g, off, none⟩) n cap ∧ n ≤ cap ∧ cap ≤ maxLen ∧ g < w.heap.size ∧ (∀ j u, xs[j]? = some u → w.cell? ⟨g, off + j, none⟩ = some u) := by
  obtain ⟨_, A, cap, hv, h1, h2, h3⟩ := h
  rcases h3 with ⟨h0, _⟩ | ⟨g, off, cs, e, fz, rfl, hh, _, hc⟩
  · omega
  · exact ⟨g, off, cap, hv, h1, h2, lt_of_heap hh, fun j u hu => by rw [cell_of_row w g (off + j) cs e fz hh]; exact hc j u hu⟩
theorem SlK.len (h : SlK w ok sz v n xs) : xs.length = n * sz := h.1
theorem SlK.shape (h : SlK w ok sz v n xs) : ∃ A cap, v = .slice A n cap ∧ n ≤ cap ∧ cap ≤ maxLen := by
  obtain ⟨_, A, cap, hv, h1, h2, _⟩ := h
  exact ⟨A, cap, hv, h1, h2⟩
/-- A block that has just been made, read as a slice. -/
theorem Sl.made {g : Nat} {cs : Array Value} (hb : Blk w g e cs) (hn : cs.size = n * sz) (hm : n ≤ maxLen) : Sl w e sz (.slice (some ⟨g, 0, none⟩) n n) n cs.toList :=
  ⟨by simpa using hn, some ⟨g, 0, none⟩, n, rfl, Nat.le_refl _, hm, .inr ⟨g, 0, cs, e, (0, 0), rfl, hb, rfl, fun j u hu => by simpa using hu⟩⟩
/-- .. its first k elements, where an element is one cell. -/
theorem Sl.cutAt {g k N : Nat} {cs : Array Value} (hb : Blk w g e cs) (hN : cs.size = N) (hk : k ≤ N) (hm : N ≤ maxLen) : Sl w e 1 (.slice (some ⟨g, 0, none⟩) k N) k (cs.toList.take k) :=
  ⟨by simp; omega, _, _, rfl, hk, hm, .inr ⟨g, 0, cs, e, (0, 0), rfl, hb, rfl, fun j u hu => by
    have := (List.getElem?_eq_some_iff.1 hu).1
    rw [List.getElem?_take_of_lt (by simp at this; omega)] at hu
    simpa using hu⟩⟩
end

/-! ## A map that reads as a list of pairs, as they were put in -/

section
variable {α β : Type} [DecidableEq α]
def aget (k : α) : List (α × β) → Option β
  | [] => none
  | (a, b) :: t => if a = k then some b else aget k t
def aput (k : α) (v : β) : List (α × β) → List (α × β)
  | [] => [(k, v)]
  | (a, b) :: t => if a = k then (k, v) :: t else (a, b) :: aput k v t
def adel (k : α) : List (α × β) → List (α × β)
  | [] => []
  | (a, b) :: t => if a = k then t else (a, b) :: adel k t

theorem aget_none {k : α} : ∀ {l : List (α × β)}, (∀ p ∈ l, p.1 ≠ k) → aget k l = none
  | [], _ => rfl
  | (a, b) :: t, h => by rw [aget, if_neg (h _ (.head _))]; exact aget_none fun p hp => h p (.tail _ hp)
theorem aput_none {k : α} {v : β} : ∀ {l : List (α × β)}, (∀ p ∈ l, p.1 ≠ k) → aput k v l = l ++ [(k, v)]
  | [], _ => rfl
  | (a, b) :: t, h => by rw [aput, if_neg (h _ (.head _)), aput_none fun p hp => h p (.tail _ hp)]; rfl
theorem adel_none {k : α} : ∀ {l : List (α × β)}, (∀ p ∈ l, p.1 ≠ k) → adel k l = l
  | [], _ => rfl
  | (a, b) :: t, h => by rw [adel, if_neg (h _ (.head _)), adel_none fun p hp => h p (.tail _ hp)]
theorem aget_mid {k : α} {v : β} : ∀ {l : List (α × β)} {r}, (∀ p ∈ l, p.1 ≠ k) → aget k (l ++ (k, v) :: r) = some v
  | [], _, _ => by simp [aget]
  | (a, b) :: t, r, h => by
    show (if a = k then some b else aget k (t ++ (k, v) :: r)) = _
    rw [if_neg (h _ (.head _))]; exact aget_mid fun p hp => h p (.tail _ hp)
theorem aput_mid {k : α} {v u : β} : ∀ {l : List (α × β)} {r}, (∀ p ∈ l, p.1 ≠ k) → aput k u (l ++ (k, v) :: r) = l ++ (k, u) :: r
  | [], _, _ => by simp [aput]
  | (a, b) :: t, r, h => by
    show (if a = k then _ else (a, b) :: aput k u (t ++ (k, v) :: r)) = _
    rw [if_neg (h _ (.head _)), aput_mid fun p hp => h p (.tail _ hp)]; rfl
theorem adel_mid {k : α} {v : β} : ∀ {l : List (α × β)} {r}, (∀ p ∈ l, p.1 ≠ k) → adel k (l ++ (k, v) :: r) = l ++ r
  | [], _, _ => by simp [adel]
  | (a, b) :: t, r, h => by
    show (if a = k then _ else (a, b) :: adel k (t ++ (k, v) :: r)) = _
    rw [if_neg (h _ (.head _)), adel_mid fun p hp => h p (.tail _ hp)]; rfl
theorem aget_eq_none {k : α} {l : List (α × β)} : aget k l = none ↔ ∀ p ∈ l, p.1 ≠ k := by
  induction l with
  | nil => simp [aget]
  | cons p t ih =>
    obtain ⟨a, b⟩ := p
    by_cases h : a = k
    · simp [aget, h]
    · simp [aget, h]; simpa using ih
theorem aget_some_split {k : α} {v : β} {l : List (α × β)} (h : aget k l = some v) : ∃ A B, l = A ++ (k, v) :: B ∧ ∀ p ∈ A, p.1 ≠ k := by
  induction l with
  | nil => simp [aget] at h
  | cons p t ih =>
    obtain ⟨a, b⟩ := p
    by_cases e : a = k
    · simp [aget, e] at h; subst h; subst e; exact ⟨[], t, rfl, by simp⟩
    · rw [aget, if_neg e] at h
      obtain ⟨A, B, rfl, hA⟩ := ih h
      exact ⟨(a, b) :: A, B, rfl, by intro p hp; cases hp with | head => exact e | tail _ hp => exact hA p hp⟩
end

section
variable {α β : Type}
/-- How keys stand in a map: each is one of the kind d, and no two are alike. -/
structure KeyEmb (d : TypeDesc) (key : α → Value) : Prop where
  is : ∀ a, IsKey d (key a)
  inj : ∀ a b, key a = key b → a = b

theorem int_emb (k : IntKind) : KeyEmb (.int k) (fun n : Int => Value.int k n) := ⟨fun _ => rfl, fun _ _ h => by injection h⟩
theorem string_emb : KeyEmb .string (fun s : ByteArray => Value.string s) := ⟨fun _ => trivial, fun _ _ h => by injection h⟩

def KMap (d : TypeDesc) (key : α → Value) (val : β → Value) (w : World) (m : Nat) (L : List (α × β)) : Prop :=
  ∃ es clock, w.heap[m]? = some (.map es clock) ∧ Stamped es clock ∧ es.toList.map (fun e => (e.key, e.val)) = L.map (fun p => (key p.1, val p.2))

variable {d : TypeDesc} {key : α → Value} {val : β → Value} {w w' : World} {m : Nat} {L : List (α × β)} {S : Nat → Prop} {P : Program} {mt kt et : TypeId}

theorem KMap.lt (h : KMap d key val w m L) : m < w.heap.size := by obtain ⟨es, ck, hh, _⟩ := h; exact lt_of_heap hh
theorem KMap.heap (h : KMap d key val w m L) : ∃ es ck, w.heap[m]? = some (.map es ck) := by obtain ⟨es, ck, hh, _⟩ := h; exact ⟨es, ck, hh⟩
theorem KMap.keep (h : KMap d key val w m L) (hk : w'.heap[m]? = w.heap[m]?) : KMap d key val w' m L := by
  obtain ⟨es, ck, hh, h2⟩ := h
  exact ⟨es, ck, hk.trans hh, h2⟩
theorem KMap.kept (h : KMap d key val w m L) (hk : Kept S w w') (hS : ¬ S m) : KMap d key val w' m L := h.keep (hk.block m h.lt hS)
theorem KMap.drew (h : KMap d key val w m L) : KMap d key val w.drew m L := h
theorem KMap.drewN (h : KMap d key val w m L) (n : Nat) : KMap d key val (w.drewN n) m L := h
theorem KMap.alloc (h : KMap d key val w m L) (o : Obj) : KMap d key val (w.alloc o) m L := h.keep (Below.heap_alloc w o m h.lt)
theorem KMap.ne_blk {g : Nat} {t : TypeId} {cs : Array Value} (h : KMap d key val w m L) (hb : Blk w g t cs) : g ≠ m := by
  rintro rfl
  obtain ⟨es, ck, hh, _⟩ := h
  unfold Blk at hb
  rw [hb] at hh; cases hh
theorem KMap.setCell {p : Addr} (h : KMap d key val w m L) (hp : m ≠ p.block) (u : Value) : KMap d key val (w.setCell p u) m L := h.keep (Below.heap_setCell w p u m hp)
theorem KMap.setBlock {g : Nat} (h : KMap d key val w m L) (hp : m ≠ g) (o : Obj) : KMap d key val (setBlock w g o) m L := h.keep (heap_setBlock w g o m hp)
theorem KMap.new (w : World) : KMap d key val (w.alloc (.map #[] 0)) w.heap.size ([] : List (α × β)) :=
  ⟨#[], 0, heap_alloc_new w _, stamped_empty _, rfl⟩
theorem cell?_setBlock_map {es : Array MapEntry} {ck : Nat} {es' : Array MapEntry} {ck' : Nat} (hb : w.heap[m]? = some (.map es ck)) (a : Addr) : (setBlock w m (.map es' ck')).cell? a = w.cell? a := by
  unfold World.cell?
  by_cases e : a.block = m
  · rw [e, Go.ChangeMaps.heap_setBlock_same hb, hb]
  · rw [heap_setBlock _ _ _ _ e]
theorem frozen?_setBlock_map {es : Array MapEntry} {ck : Nat} {es' : Array MapEntry} {ck' : Nat} (hb : w.heap[m]? = some (.map es ck)) (a : Addr) : (setBlock w m (.map es' ck')).frozen? a = w.frozen? a := by
  unfold World.frozen?
  by_cases e : a.block = m
  · rw [e, Go.ChangeMaps.heap_setBlock_same hb, hb]
  · rw [heap_setBlock _ _ _ _ e]
/-- What a change to a map's block leaves as it was: rules for a walk. -/
theorem KMap.rules (h : KMap d key val w m L) (es : Array MapEntry) (ck : Nat) : (∀ a, (Go.ChangeMaps.setBlock w m (.map es ck)).cell? a = w.cell? a) ∧ (∀ a, (Go.ChangeMaps.setBlock w m (.map es ck)).frozen? a = w.frozen? a) ∧ (Go.ChangeMaps.setBlock w m (.map es ck)).heap.size = w.heap.size := by
  obtain ⟨es0, ck0, hh, _⟩ := h
  exact ⟨cell?_setBlock_map hh, frozen?_setBlock_map hh, size_setBlock _ _ _⟩
theorem KMap.nodup (h : KMap d key val w m L) (K : KeyEmb d key) : (L.map (·.1)).Nodup := by
  obtain ⟨es, ck, _, hst, hL⟩ := h
  have h3 := hst.2.2
  have e1 : es.toList.map (·.key) = (L.map (·.1)).map key := by
    have := congrArg (List.map Prod.fst) hL
    simpa [List.map_map, Function.comp_def] using this
  rw [e1] at h3
  exact (List.pairwise_map.1 h3).imp fun hne e => hne (by rw [e])

variable [DecidableEq α]
omit [DecidableEq α] in
theorem KMap.find (es : Array MapEntry) (K : KeyEmb d key) (hL : es.toList.map (fun e => (e.key, e.val)) = L.map (fun p => (key p.1, val p.2))) (k : α) :
    (Instr.findNow d (key k) es.toList 0 = some none ∧ (∀ x ∈ es.toList, x.key ≠ key k) ∧ ∀ p ∈ L, p.1 ≠ k) ∨
    ∃ A B v E F x, L = A ++ (k, v) :: B ∧ (∀ p ∈ A, p.1 ≠ k) ∧ es.toList = E ++ x :: F ∧ E.length = A.length ∧ x.key = key k ∧ x.val = val v ∧
      E.map (fun e => (e.key, e.val)) = A.map (fun p => (key p.1, val p.2)) ∧ F.map (fun e => (e.key, e.val)) = B.map (fun p => (key p.1, val p.2)) ∧
      Instr.findNow d (key k) es.toList 0 = some (some (A.length, val v)) := by
  have gen : ∀ (l : List MapEntry) (L : List (α × β)) (i : Nat), l.map (fun e => (e.key, e.val)) = L.map (fun p => (key p.1, val p.2)) →
      (Instr.findNow d (key k) l i = some none ∧ (∀ x ∈ l, x.key ≠ key k) ∧ ∀ p ∈ L, p.1 ≠ k) ∨
      ∃ A B v E F x, L = A ++ (k, v) :: B ∧ (∀ p ∈ A, p.1 ≠ k) ∧ l = E ++ x :: F ∧ E.length = A.length ∧ x.key = key k ∧ x.val = val v ∧
        E.map (fun e => (e.key, e.val)) = A.map (fun p => (key p.1, val p.2)) ∧ F.map (fun e => (e.key, e.val)) = B.map (fun p => (key p.1, val p.2)) ∧
        Instr.findNow d (key k) l i = some (some (i + A.length, val v)) := by
    intro l
    induction l with
    | nil =>
      intro L i h
      cases L with
      | nil => exact .inl ⟨rfl, by simp, by simp⟩
      | cons p t => simp at h
    | cons x t ih =>
      intro L i h
      cases L with
      | nil => simp at h
      | cons p T =>
        obtain ⟨a, b⟩ := p
        simp only [List.map_cons, List.cons.injEq, Prod.mk.injEq] at h
        obtain ⟨⟨hx, hv⟩, ht⟩ := h
        obtain ⟨r, hr, hiff⟩ := sameNow_of_keys (K.is k) (K.is a)
        by_cases e : a = k
        · subst e
          have : r = true := hiff.2 rfl
          subst this
          exact .inr ⟨[], T, b, [], t, x, rfl, by simp, rfl, rfl, hx, hv, rfl, ht, by simp [Instr.findNow, hx, hr, hv]⟩
        · have : r = false := by
            cases r with
            | false => rfl
            | true => exact absurd (K.inj _ _ (hiff.1 rfl)).symm e
          subst this
          rcases ih T (i + 1) ht with ⟨h1, h2, h3⟩ | ⟨A, B, v, E, F, y, rfl, hA, rfl, hE, hy, hyv, hEA, hFB, hf⟩
          · refine .inl ⟨by simp [Instr.findNow, hx, hr, h1], ?_, ?_⟩
            · intro y hy
              cases hy with
              | head => rw [hx]; exact fun q => e (K.inj _ _ q)
              | tail _ hy => exact h2 y hy
            · intro y hy
              cases hy with
              | head => exact e
              | tail _ hy => exact h3 y hy
          · refine .inr ⟨(a, b) :: A, B, v, x :: E, F, y, rfl, ?_, rfl, by simp [hE], hy, hyv, by simp [hEA, hx, hv], hFB, ?_⟩
            · intro y hy
              cases hy with
              | head => exact e
              | tail _ hy => exact hA y hy
            · simp [Instr.findNow, hx, hr, hf]; omega
  have := gen es.toList L 0 hL
  simpa using this

/-- A look-up. -/
theorem KMap.run_lookup (h : KMap d key val w m L) (K : KeyEmb d key) (hm : P.underlying mt = some (.map kt et)) (hk : P.underlying kt = some d) {z : Value} (hz : (zeroValue et).run P w = .ok z w) (k : α) (ok : Bool) :
    (Instr.lookup mt (.map (some m)) (key k) ok).run P w = .ok (if ok then .tuple #[((aget k L).map val).getD z, .bool (aget k L).isSome] else ((aget k L).map val).getD z) w := by
  obtain ⟨es, ck, hh, hst, hL⟩ := h
  rcases KMap.find es K hL k with ⟨h1, _, h3⟩ | ⟨A, B, v, E, F, x, rfl, hA, he, hE, hx, hv, hEA, hFB, hf⟩
  · simp [Instr.lookup, run_underlying hm, MapKept.run_getObj_map hh, MapKept.run_checkKey hk (K.is k), MapKept.run_findKey hk h1, hz, aget_none h3]
  · simp [Instr.lookup, run_underlying hm, MapKept.run_getObj_map hh, MapKept.run_checkKey hk (K.is k), MapKept.run_findKey hk hf, aget_mid hA]

theorem modify_mid {γ : Type} (E : List γ) (x : γ) (F : List γ) (f : γ → γ) : (E ++ x :: F).modify E.length f = E ++ f x :: F := by
  induction E with
  | nil => rfl
  | cons y t ih => simpa using ih

/-- A store. -/
theorem KMap.run_update (h : KMap d key val w m L) (K : KeyEmb d key) (hm : P.underlying mt = some (.map kt et)) (hk : P.underlying kt = some d) (k : α) (v : β) :
    ∃ es ck, (Instr.mapUpdate mt (.map (some m)) (key k) (val v)).run P w = .ok () (Go.ChangeMaps.setBlock w m (.map es ck)) ∧ KMap d key val (Go.ChangeMaps.setBlock w m (.map es ck)) m (aput k v L) := by
  obtain ⟨es, ck, hh, hst, hL⟩ := h
  rcases KMap.find es K hL k with ⟨h1, h2, h3⟩ | ⟨A, B, v', E, F, x, rfl, hA, he, hE, hx, hv, hEA, hFB, hf⟩
  · refine ⟨es.push { key := key k, val := val v, born := ck }, ck + 1, ?_, _, _, Go.ChangeMaps.heap_setBlock_same hh _, stamped_push hst h2, ?_⟩
    · simp [Instr.mapUpdate, run_underlying hm, MapKept.run_getObj_map hh, MapKept.run_checkKey hk (K.is k), MapKept.run_findKey hk h1, MapKept.run_setObj_map _ hh, Result.andThen, Go.ChangeMaps.setBlock]
    · rw [aput_none h3]; simp [hL]
  · have hj : es[A.length]? = some x := by
      have : es.toList[A.length]? = some x := by rw [he, ← hE]; simp
      simpa using this
    have hkey : ∀ e', es[A.length]? = some e' → ({ e' with key := key k, val := val v } : MapEntry).key = e'.key := fun e' he' => by rw [hj] at he'; cases he'; exact hx.symm
    refine ⟨es.modify A.length (fun e' => { e' with key := key k, val := val v }), ck, ?_, _, _, Go.ChangeMaps.heap_setBlock_same hh _, stamped_modify hst _ _ (fun _ _ => rfl) (fun e' _ he' => hkey e' he'), ?_⟩
    · simp [Instr.mapUpdate, run_underlying hm, MapKept.run_getObj_map hh, MapKept.run_checkKey hk (K.is k), MapKept.run_findKey hk hf, hj, hx, run_keyThatStays (K.is k), MapKept.run_setObj_map _ hh, Result.andThen, Go.ChangeMaps.setBlock]
    · rw [aput_mid hA, Array.toList_modify, he, ← hE]
      rw [modify_mid]
      simp [hEA, hFB]

/-- A deletion. -/
theorem KMap.run_delete (h : KMap d key val w m L) (K : KeyEmb d key) (hm : P.underlying mt = some (.map kt et)) (hk : P.underlying kt = some d) (k : α) :
    ∃ es ck, (∀ ty kt', (Builtin.delete_ #[mt, kt'] ty #[.map (some m), key k]).run P w = .ok (.tuple #[]) (Go.ChangeMaps.setBlock w m (.map es ck))) ∧ KMap d key val (Go.ChangeMaps.setBlock w m (.map es ck)) m (adel k L) := by
  obtain ⟨es, ck, hh, hst, hL⟩ := h
  rcases KMap.find es K hL k with ⟨h1, h2, h3⟩ | ⟨A, B, v', E, F, x, rfl, hA, he, hE, hx, hv, hEA, hFB, hf⟩
  · refine ⟨es, ck, ?_, _, _, Go.ChangeMaps.heap_setBlock_same hh _, hst, ?_⟩
    · intro ty kt'; simp [Builtin.delete_, run_underlying hm, MapKept.run_getObj_map hh, MapKept.run_checkKey hk (K.is k), MapKept.run_findKey hk h1, MapKept.run_setObj_map _ hh, Result.andThen, Go.ChangeMaps.setBlock]
    · rw [adel_none h3]; exact hL
  · have hlt : A.length < es.size := by
      have := congrArg List.length he
      simp at this; omega
    refine ⟨es.eraseIdxIfInBounds A.length, ck, ?_, _, _, Go.ChangeMaps.heap_setBlock_same hh _, stamped_erase hst _, ?_⟩
    · intro ty kt'; simp [Builtin.delete_, run_underlying hm, MapKept.run_getObj_map hh, MapKept.run_checkKey hk (K.is k), MapKept.run_findKey hk hf, MapKept.run_setObj_map _ hh, Result.andThen, Go.ChangeMaps.setBlock]
    · rw [adel_mid hA]
      have : (es.eraseIdxIfInBounds A.length).toList = E ++ F := by
        unfold Array.eraseIdxIfInBounds
        rw [dif_pos hlt, Array.toList_eraseIdx, he, ← hE]
        simp [List.eraseIdx_append_of_length_le]
      rw [this]
      simp [hEA, hFB]

omit [DecidableEq α] in
/-- All gone. -/
theorem KMap.run_clear (h : KMap d key val w m L) (hm : P.underlying mt = some (.map kt et)) :
    ∃ es ck, (∀ ty, (Builtin.clear_ #[mt] ty #[.map (some m)]).run P w = .ok (.tuple #[]) (Go.ChangeMaps.setBlock w m (.map es ck))) ∧ KMap d key val (Go.ChangeMaps.setBlock w m (.map es ck)) m ([] : List (α × β)) := by
  obtain ⟨es, ck, hh, hst, hL⟩ := h
  exact ⟨#[], ck, fun ty => by simp [Builtin.clear_, run_underlying hm, MapKept.run_getObj_map hh, MapKept.run_setObj_map _ hh, Result.andThen, Go.ChangeMaps.setBlock], _, _, Go.ChangeMaps.heap_setBlock_same hh _, stamped_empty _, rfl⟩

omit [DecidableEq α] in
/-- How many there are. -/
theorem KMap.run_len (h : KMap d key val w m L) (hm : P.underlying mt = some (.map kt et)) (ty : TypeId) :
    (Builtin.len_ #[mt] ty #[.map (some m)]).run P w = .ok (.int .i64 L.length) w := by
  obtain ⟨es, ck, hh, hst, hL⟩ := h
  have e : es.size = L.length := by simpa using congrArg List.length hL
  simp [Builtin.len_, run_underlying hm, MapKept.run_getObj_map hh, e, goInt]
end

#print axioms KMap.run_update
#print axioms KMap.run_delete
end Go.Proofs.YtdcdefkloibfnaaGreatDoor
namespace Go.Proofs.YtdcdefkloibfnaaGreatDoor
set_option linter.unusedVariables false
open Go.RowKit

theorem quiet_same {P : Program} {f : FuncId} {args : Array Value} {w : World} {n : Nat} {v : Value}
    (h : Calls P f args (w.drewN n) fun e w' => e = .returned v ∧ w.drewN n = w') : Calls P f args (w.drewN n) fun e w'' => e = .returned v ∧ ∃ m, w'' = w.drewN m :=
  h.mono fun _ _ ⟨he, hm⟩ => ⟨he, n, hm.symm⟩

theorem quiet_same2 {P : Program} {f : FuncId} {args : Array Value} {w : World} {k n : Nat} {v : Value}
    (h : Calls P f args (w.drewN (k + n)) fun e w' => e = .returned v ∧ w.drewN (k + n) = w') : Calls P f args (w.drewN (k + n)) fun e w'' => e = .returned v ∧ ∃ m, w'' = w.drewN (k + m) :=
  h.mono fun _ _ ⟨he, hm⟩ => ⟨he, n, hm.symm⟩
theorem quiet_any {P : Program} {f : FuncId} {args : Array Value} {w : World} {n : Nat} {v : Value}
    (h : Calls P f args (w.drewN n) fun e w' => e = .returned v ∧ ∃ m, w' = (w.drewN n).drewN m) : Calls P f args (w.drewN n) fun e w'' => e = .returned v ∧ ∃ m, w'' = w.drewN m :=
  h.mono fun _ _ ⟨he, m, hm⟩ => ⟨he, n + m, by rw [hm, World.drewN_drewN]⟩
theorem quiet_any2 {P : Program} {f : FuncId} {args : Array Value} {w : World} {k n : Nat} {v : Value}
    (h : Calls P f args (w.drewN (k + n)) fun e w' => e = .returned v ∧ ∃ m, w' = (w.drewN (k + n)).drewN m) : Calls P f args (w.drewN (k + n)) fun e w'' => e = .returned v ∧ ∃ m, w'' = w.drewN (k + m) :=
  h.mono fun _ _ ⟨he, m, hm⟩ => ⟨he, n + m, by rw [hm, World.drewN_drewN, Nat.add_assoc]⟩

/-- A region that draws its order, whose first n operations only read and whose others follow in one order: met in the world w.drew. -/
theorem still_tail {P : Program} {id : Nat} {Q : Exit → Act → World → Prop} {a : Act} {w : World} {l : List Oper} (n : Nat) (hm : P.follows .mixedOrders = true) (hB : Region.lexTailB .any l.toArray n = true)
    (h : wpStill P l.toArray w.drew (fun a' => wpList P l.toArray Q (l.drop n) a' w.drew) (l.take n) a) : (Code.region id l.toArray true).wp P Q a w :=
  wp_region_still_tail n hm hB h

/-- What a slice's type and its element's type are in a program. -/
structure SlT (P : Program) (t e : TypeId) (z : Value) (sz bytes : Nat) : Prop where
  ht : P.underlying t = some (.slice e)
  info : (P.info? e).map (fun i => (i.zero, i.size, i.bytes)) = some (some z, sz, bytes)
  hzs : z.cells.size = sz
  hsz : 0 < sz
  hby : 0 < bytes

section
variable {w w' : World} {base : Nat} {e : TypeId} {sz n : Nat} {v : Value} {xs : List Value} {S : Nat → Prop}
theorem Sl.of_own (h : w.ownsRow base e sz v n xs) : Sl w e sz v n xs := by
  obtain ⟨hl, h⟩ := h
  rcases h with ⟨rfl, rfl⟩ | ⟨g, cap, cur, rfl, _, hh, hnc, hm, _, hx⟩
  · exact ⟨hl, none, 0, rfl, Nat.le_refl _, Nat.zero_le _, .inl ⟨rfl, rfl⟩⟩
  · refine ⟨hl, _, _, rfl, hnc, hm, .inr ⟨g, 0, cur, e, (0, 0), rfl, hh, rfl, fun j u hu => ?_⟩⟩
    rw [← hx] at hu
    have hj : j < n * sz := by
      have := (List.getElem?_eq_some_iff.1 hu).1
      simp at this; omega
    rw [List.getElem?_take_of_lt hj] at hu
    simpa using hu
theorem own_kept (h : w.ownsRow base e sz v n xs) (hk : Kept S w w') (hS : ∀ g cs, S g → base ≤ g → w.heap[g]? ≠ some (Obj.cells cs e (0, 0))) : w'.ownsRow base e sz v n xs := by
  obtain ⟨hl, h⟩ := h
  refine ⟨hl, ?_⟩
  rcases h with h | ⟨g, cap, cur, hv, hb, hh, r⟩
  · exact .inl h
  · exact .inr ⟨g, cap, cur, hv, hb, (hk.block g (lt_of_heap hh) fun hs => hS g cur hs hb hh).trans hh, r⟩
theorem own_setBlock (h : w.ownsRow base e sz v n xs) {m : Nat} {es : Array MapEntry} {ck : Nat} (hm : w.heap[m]? = some (.map es ck)) (o : Obj) : (Go.ChangeMaps.setBlock w m o).ownsRow base e sz v n xs := by
  obtain ⟨hl, h⟩ := h
  refine ⟨hl, ?_⟩
  rcases h with h | ⟨g, cap, cur, hv, hb, hh, r⟩
  · exact .inl h
  · exact .inr ⟨g, cap, cur, hv, hb, (heap_setBlock w m o g (by rintro rfl; rw [hm] at hh; cases hh)).trans hh, r⟩
theorem own_far {t : TypeId} {g : Nat} {cs : Array Value} (h : w.ownsRow base e sz v n xs) (hb : Blk w g t cs) (ht : t ≠ e) (i : Nat) (u : Value) : (w.setCell ⟨g, i, none⟩ u).ownsRow base e sz v n xs := by
  obtain ⟨hl, h⟩ := h
  refine ⟨hl, ?_⟩
  rcases h with h | ⟨k, cap, cur, hv, hb', hh, r⟩
  · exact .inl h
  · exact .inr ⟨k, cap, cur, hv, hb', (Below.heap_setCell w ⟨g, i, none⟩ u k (Blk.ne_ (t := e) hh hb (Ne.symm ht))).trans hh, r⟩
theorem Kept.of_grown {row : Option Nat} (hg : w.grownBy w' row) (hr : ∀ k, row = some k → k < w.heap.size → S k) : Kept S w w' := (Kept.refl S w).grown hg hr
end

section
variable {P : Program}

theorem run_append_of_nil (w : World) (base : Nat) (t ty e : TypeId) (i : TypeInfo) (size : Nat) (ht : P.underlying t = some (.slice e)) (hi : P.info? e = some i)
    (v : Value) (n : Nat) (xs : List Value) (hown : w.ownsRow base e size v n xs) (A : Option Addr) (c : Nat) : (Builtin.append_ #[t, t] ty #[v, .slice A 0 c]).run P w = .ok v w := by
  have hl : ∀ a : Addr, (loadCells a 0).run P w = .ok #[] w := fun a => by simp [loadCells, loadCellsFrom]
  rcases hown.2 with ⟨rfl, rfl⟩ | ⟨g, cap, cur, rfl, _, _, hnc, _⟩
  · cases A <;> simp [Builtin.append_, run_underlying ht, sizeOf, typeInfo, hi, Builtin.lenOf, Builtin.firstCells, hl]
  · cases A <;> simp [Builtin.append_, run_underlying ht, sizeOf, typeInfo, hi, Builtin.lenOf, Builtin.firstCells, hnc, storeCells, hl]

/-- What an append onto an own row leaves. -/
structure Appended (w w' : World) (base : Nat) (e : TypeId) (sz : Nat) (v v' : Value) (k : Nat) (xs : List Value) : Prop where
  own : w'.ownsRow base e sz v' k xs
  grown : w.grownBy w' v.ownBlock
  at_ : v'.ownBlock = v.ownBlock ∨ v'.ownBlock = some w.heap.size

theorem own_type {w : World} {base : Nat} {e : TypeId} {sz n : Nat} {v : Value} {xs : List Value} (h : w.ownsRow base e sz v n xs) {g : Nat} (hg : v.ownBlock = some g) : base ≤ g ∧ ∃ cs, w.heap[g]? = some (Obj.cells cs e (0, 0)) := by
  rcases h.2 with ⟨rfl, _⟩ | ⟨k, cap, cur, rfl, hb, hh, _⟩
  · simp [Value.ownBlock] at hg
  · simp only [Value.ownBlock, Option.some.injEq] at hg
    subst hg
    exact ⟨hb, cur, hh⟩
theorem Appended.kept {w w' : World} {base : Nat} {e : TypeId} {sz k : Nat} {v v' : Value} {xs : List Value} (h : Appended w w' base e sz v v' k xs) : Kept (fun i => v.ownBlock = some i) w w' := Kept.of_grown h.grown fun _ h _ => h
/-- A slice of another element type is as it was behind an append. -/
theorem Sl.appended {w w' : World} {base : Nat} {e : TypeId} {sz k n : Nat} {v v' : Value} {xs ys : List Value} {e' : TypeId} {sz' n' : Nat} {u : Value} {zs : List Value} (hs : Sl w e' sz' u n' zs) (h : Appended w w' base e sz v v' k xs) (ho : w.ownsRow base e sz v n ys) (hne : e ≠ e') : Sl w' e' sz' u n' zs :=
  SlK.kept hs h.kept fun g cs fz hg hc => by
    obtain ⟨_, cs', hh⟩ := own_type ho hg
    rw [hh] at hc
    injection hc with hc
    injection hc with _ h2
    exact hne h2

theorem run_append_sl (w : World) {t e : TypeId} {z : Value} {sz bytes : Nat} (T : SlT P t e z sz bytes) (ty : TypeId) (base : Nat) (v : Value) (n : Nat) (xs : List Value) (hown : w.ownsRow base e sz v n xs)
    (u : Value) (m : Nat) (news : List Value) {ok : Nat → TypeId → Prop} (hr : SlK w ok sz u m news) (h1 : ∀ u ∈ news, u.oneCell' = true) (hbytes : (n + m) * bytes ≤ 140737488355328) (hbase : base ≤ w.heap.size) :
    ∃ v' w', (Builtin.append_ #[t, t] ty #[v, u]).run P w = .ok v' w' ∧ Appended w w' base e sz v v' (n + m) (xs ++ news) := by
  obtain ⟨i, hi, hz, hsize, hby⟩ := info_parts T.info
  have h63 : n + m ≤ maxLen := by
    have h2 : (n + m) * 1 ≤ (n + m) * bytes := Nat.mul_le_mul_left _ T.hby
    unfold maxLen; omega
  obtain ⟨hlen, A, cap, rfl, hc1, hc2, hA⟩ := hr
  rcases hA with ⟨rfl, rfl⟩ | ⟨g, off, cs, e1, fz, rfl, hh, _, hc⟩
  · have hn : news = [] := List.eq_nil_of_length_eq_zero (by simpa using hlen)
    subst hn
    exact ⟨v, w, run_append_of_nil w base t ty e i sz T.ht hi v n xs hown A 0, by simpa using hown, World.grownBy.refl w _, .inl rfl⟩
  · obtain ⟨v', w', hrun, h2, h3, _, h5⟩ := run_append_own_at (P := P) w base t ty e i z sz bytes T.ht hi hz hsize hby T.hzs T.hsz v n xs hown ⟨g, off, none⟩ m cap news hlen
      (fun j u hu => by
        rw [Addr.add_lit, cell_of_row w g (off + j) cs e1 fz hh]
        exact hc j u hu) h1 h63 hbytes hbase
    exact ⟨v', w', hrun, h2, h3, h5⟩

theorem wp_append_sl (w : World) {t e : TypeId} {z : Value} {sz bytes : Nat} (T : SlT P t e z sz bytes) {o : Oper} {a : Act} {K : Act → World → Prop} {Q : Exit → Act → World → Prop} (s x : Operand)
    (ho : o.op = .call { callee := .builtin .append, args := #[s, x], argTypes := #[t, t] }) (base : Nat)
    (v : Value) (n : Nat) (xs : List Value) (hs : a.eval s = v) (hown : w.ownsRow base e sz v n xs)
    (u : Value) (m : Nat) (news : List Value) (hx : a.eval x = u) {ok : Nat → TypeId → Prop} (hr : SlK w ok sz u m news) (h1 : ∀ u ∈ news, u.oneCell' = true)
    (hbytes : (n + m) * bytes ≤ 140737488355328) (hbase : base ≤ w.heap.size)
    (h : ∀ v' w', Appended w w' base e sz v v' (n + m) (xs ++ news) → K (a.put o.dst v') w') : o.wp P a w K Q := by
  obtain ⟨v', w', hrun, h2⟩ := run_append_sl (P := P) w T o.type base v n xs hown u m news hr h1 hbytes hbase
  unfold Oper.wp execOp
  simp only [ho, resolve, invoke, builtin, Sem.run_bind, Sem.run_pure, Result.andThen_ok, List.map_toArray, List.map_cons, List.map_nil, hs, hx, hrun]
  exact h v' w' h2

theorem wpList_append_sl (w : World) {t e : TypeId} {z : Value} {sz bytes : Nat} (T : SlT P t e z sz bytes) {ops : Array Oper} {rest : List Oper} {o : Oper} {a : Act} {Q : Exit → Act → World → Prop} (hgd : o.guard = none) (s x : Operand)
    (ho : o.op = .call { callee := .builtin .append, args := #[s, x], argTypes := #[t, t] }) (base : Nat)
    (v : Value) (n : Nat) (xs : List Value) (hs : a.eval s = v) (hown : w.ownsRow base e sz v n xs)
    (u : Value) (m : Nat) (news : List Value) (hx : a.eval x = u) {ok : Nat → TypeId → Prop} (hr : SlK w ok sz u m news) (h1 : ∀ u ∈ news, u.oneCell' = true)
    (hbytes : (n + m) * bytes ≤ 140737488355328) (hbase : base ≤ w.heap.size)
    (h : ∀ v' w', Appended w w' base e sz v v' (n + m) (xs ++ news) → wpList P ops Q rest (a.put o.dst v') w') : wpList P ops Q (o :: rest) a w :=
  wpList_plain hgd fun _ hK => wp_append_sl w T s x ho base v n xs hs hown u m news hx hr h1 hbytes hbase fun v' w' h2 => hK _ _ (h v' w' h2)

theorem step_append_sl (w : World) {t e : TypeId} {z : Value} {sz bytes : Nat} (T : SlT P t e z sz bytes) {ops : Array Oper} {o : Oper} {a : Act} {K : Act → World → Prop} {Q : Exit → Act → World → Prop} {E : Prop} (hgd : o.guard = none) (s x : Operand)
    (ho : o.op = .call { callee := .builtin .append, args := #[s, x], argTypes := #[t, t] }) (base : Nat)
    (v : Value) (n : Nat) (xs : List Value) (hs : a.eval s = v) (hown : w.ownsRow base e sz v n xs)
    (u : Value) (m : Nat) (news : List Value) (hx : a.eval x = u) {ok : Nat → TypeId → Prop} (hr : SlK w ok sz u m news) (h1 : ∀ u ∈ news, u.oneCell' = true)
    (hbytes : (n + m) * bytes ≤ 140737488355328) (hbase : base ≤ w.heap.size)
    (h : ∀ v' w', Appended w w' base e sz v v' (n + m) (xs ++ news) → K (a.put o.dst v') w') :
    if Region.wanted o (yielded ops a.tmps) = true then Oper.wp P o a w K Q else E := by
  have hw : Region.wanted o (yielded ops a.tmps) = true := by simp [Region.wanted, hgd]
  rw [if_pos hw]
  exact wp_append_sl w T s x ho base v n xs hs hown u m news hx hr h1 hbytes hbase h
end
/-! ## Operations on a slice whose value is a letter: laid ahead of a walk, they are its rules -/
section
variable {P : Program} {t e : TypeId} {z : Value} {sz bytes : Nat} {w : World} {ok : Nat → TypeId → Prop} {v : Value} {n : Nat} {xs : List Value}

theorem SlK.run_len (T : SlT P t e z sz bytes) (h : SlK w ok sz v n xs) : ∀ ty w', (Builtin.len_ #[t] ty #[v]).run P w' = .ok (.int .i64 n) w' := by
  obtain ⟨_, A, cap, rfl, _⟩ := h
  intro ty w'
  simp [Builtin.len_, run_underlying T.ht, goInt]

theorem SlT.run_size (T : SlT P t e z sz bytes) (w' : World) : (sizeOf e).run P w' = .ok sz w' := by
  obtain ⟨i, hi, hz, hsize, hby⟩ := info_parts T.info
  simp [sizeOf, typeInfo, hi, hsize]

theorem SlK.run_index (T : SlT P t e z sz bytes) (h : SlK w ok sz v n xs) {i : Int} {k : Nat} (hi : i = k) (hk : k < n) :
    ∃ g off, (∀ kd w', (Instr.indexAt t v (.int kd i)).run P w' = .ok (.pointer (some ⟨g, off, none⟩)) w') ∧ g < w.heap.size ∧ (∃ cs e' fz, w.heap[g]? = some (.cells cs e' fz) ∧ ok g e') ∧ ∀ j u, xs[k * sz + j]? = some u → w.cell? ⟨g, off + j, none⟩ = some u := by
  obtain ⟨hlen, A, cap, rfl, h1, h2, h3⟩ := h
  rcases h3 with ⟨h0, _⟩ | ⟨g, off, cs, e1, fz, rfl, hh, ho, hc⟩
  · omega
  · subst hi
    refine ⟨g, off + k * sz, fun kd w' => ?_, lt_of_heap hh, ⟨cs, e1, fz, hh, ho⟩, fun j u hu => ?_⟩
    · have hi2 : (k : Int) < (n : Int) := by omega
      simp [Instr.indexAt, asIntOf, run_underlying T.ht, T.run_size, hk, Addr.add_lit]
    · rw [cell_of_row w g _ cs e1 fz hh, Nat.add_assoc]
      exact hc _ _ hu

theorem SlK.run_from (T : SlT P t e z sz bytes) (h : SlK w ok sz v n xs) {i : Int} {k : Nat} (hi : i = k) (hk : k ≤ n) :
    ∃ A c, (∀ kd w', (Instr.sliceAt t v (some (.int kd i)) none none).run P w' = .ok (.slice A (n - k) c) w') ∧ SlK w ok sz (.slice A (n - k) c) (n - k) (xs.drop (k * sz)) := by
  obtain ⟨hlen, A, cap, rfl, h1, h2, h3⟩ := h
  subst hi
  refine ⟨(if cap = k then A else A.map (·.add (k * sz))), (cap - k), fun kd w' => ?_, by rw [List.length_drop, hlen, Nat.sub_mul], _, _, rfl, by omega, by omega, ?_⟩
  · have h0 : (0 : Int) ≤ k := by omega
    have hi2 : (k : Int) ≤ (n : Int) := by omega
    simp [Instr.sliceAt, run_underlying T.ht, Instr.slice, Instr.sliceBounds, Instr.sliceBound, asIntOf, T.run_size, hk]
  · rcases h3 with ⟨rfl, rfl⟩ | ⟨g, off, cs, e1, fz, rfl, hh, ho, hc⟩
    · have : k = 0 := by omega
      subst this
      exact .inl ⟨by simp, rfl⟩
    · by_cases hck : cap = k
      · rw [if_pos hck]
        refine .inr ⟨g, off, cs, e1, fz, rfl, hh, ho, fun j u hu => ?_⟩
        have : xs.drop (k * sz) = [] := by
          apply List.drop_eq_nil_of_le
          have hnk : n = k := by omega
          rw [hlen, hnk]; exact Nat.le_refl _
        rw [this] at hu; simp at hu
      · rw [if_neg hck]
        refine .inr ⟨g, off + k * sz, cs, e1, fz, by simp [Addr.add_lit], hh, ho, fun j u hu => ?_⟩
        rw [List.getElem?_drop] at hu
        rw [Nat.add_assoc]
        exact hc _ _ hu

theorem SlK.run_to (T : SlT P t e z sz bytes) (h : SlK w ok sz v n xs) {i : Int} {k : Nat} (hi : i = k) (hk : k ≤ n) :
    ∃ A c, (∀ kd w', (Instr.sliceAt t v none (some (.int kd i)) none).run P w' = .ok (.slice A k c) w') ∧ SlK w ok sz (.slice A k c) k (xs.take (k * sz)) := by
  obtain ⟨hlen, A, cap, rfl, h1, h2, h3⟩ := h
  subst hi
  have hmul : k * sz ≤ n * sz := Nat.mul_le_mul_right _ hk
  refine ⟨(if cap = 0 then A else A.map (·.add (0 * sz))), cap, fun kd w' => ?_, by rw [List.length_take, hlen]; omega, _, cap, rfl, by omega, by omega, ?_⟩
  · have h0 : (0 : Int) ≤ k := by omega
    have hi2 : (k : Int) ≤ (cap : Int) := by omega
    have hi3 : k ≤ cap := by omega
    simp [Instr.sliceAt, run_underlying T.ht, Instr.slice, Instr.sliceBounds, Instr.sliceBound, asIntOf, T.run_size, hi3]
  · rcases h3 with ⟨rfl, rfl⟩ | ⟨g, off, cs, e1, fz, rfl, hh, ho, hc⟩
    · exact .inl ⟨by omega, rfl⟩
    · refine .inr ⟨g, off, cs, e1, fz, ?_, hh, ho, fun j u hu => ?_⟩
      · split <;> simp [Addr.add]
      · have := List.getElem?_eq_some_iff.1 hu
        obtain ⟨hl, _⟩ := this
        rw [List.getElem?_take_of_lt (by simp at hl; omega)] at hu
        exact hc _ _ hu

theorem SlK.run_mid (T : SlT P t e z sz bytes) (h : SlK w ok sz v n xs) {i i' : Int} {k k' : Nat} (hi : i = k) (hi' : i' = k') (hk : k ≤ k') (hk' : k' ≤ n) :
    ∃ A c, (∀ kd kd' w', (Instr.sliceAt t v (some (.int kd i)) (some (.int kd' i')) none).run P w' = .ok (.slice A (k' - k) c) w') ∧ SlK w ok sz (.slice A (k' - k) c) (k' - k) ((xs.take (k' * sz)).drop (k * sz)) := by
  obtain ⟨hlen, A, cap, rfl, h1, h2, h3⟩ := h
  subst hi
  subst hi'
  have hmul : k' * sz ≤ n * sz := Nat.mul_le_mul_right _ hk'
  have hmul2 : k * sz ≤ k' * sz := Nat.mul_le_mul_right _ hk
  refine ⟨(if cap = k then A else A.map (·.add (k * sz))), (cap - k), fun kd kd' w' => ?_, by rw [List.length_drop, List.length_take, hlen, Nat.sub_mul]; omega, _, _, rfl, by omega, by omega, ?_⟩
  · have hi3 : k' ≤ cap := by omega
    simp [Instr.sliceAt, run_underlying T.ht, Instr.slice, Instr.sliceBounds, Instr.sliceBound, asIntOf, T.run_size, hk, hi3]
  · rcases h3 with ⟨rfl, rfl⟩ | ⟨g, off, cs, e1, fz, rfl, hh, ho, hc⟩
    · have : k = 0 := by omega
      subst this
      exact .inl ⟨by omega, rfl⟩
    · by_cases hck : cap = k
      · rw [if_pos hck]
        refine .inr ⟨g, off, cs, e1, fz, rfl, hh, ho, fun j u hu => ?_⟩
        have := (List.getElem?_eq_some_iff.1 hu).1
        have hnk : k' = k := by omega
        subst hnk
        simp at this
      · rw [if_neg hck]
        refine .inr ⟨g, off + k * sz, cs, e1, fz, by simp [Addr.add_lit], hh, ho, fun j u hu => ?_⟩
        have := (List.getElem?_eq_some_iff.1 hu).1
        simp at this
        rw [List.getElem?_drop, List.getElem?_take_of_lt (by omega)] at hu
        rw [Nat.add_assoc]
        exact hc _ _ hu
end
end Go.Proofs.YtdcdefkloibfnaaGreatDoor
namespace Go.Proofs.YtdcdefkloibfnaaGreatDoor
set_option linter.unusedVariables false
theorem flat_len {α : Type} {f : α → List Value} {k : Nat} (hf : ∀ a, (f a).length = k) (l : List α) : (l.flatMap f).length = l.length * k := by
  induction l with
  | nil => simp
  | cons a t ih => simp [List.flatMap_cons, ih, hf, Nat.add_mul]; omega
theorem flat_get {α : Type} {f : α → List Value} {k : Nat} (hf : ∀ a, (f a).length = k) : ∀ (l : List α) (i j : Nat) (a : α), l[i]? = some a → j < k → (l.flatMap f)[i * k + j]? = (f a)[j]? := by
  intro l
  induction l with
  | nil => intro i j a h; simp at h
  | cons b t ih =>
    intro i j a h hj
    rw [List.flatMap_cons]
    cases i with
    | zero =>
      simp only [List.getElem?_cons_zero, Option.some.injEq] at h
      subst h
      rw [Nat.zero_mul, Nat.zero_add, List.getElem?_append_left (by rw [hf]; exact hj)]
    | succ i =>
      have e : (i + 1) * k + j = k + (i * k + j) := by rw [Nat.add_mul]; omega
      rw [e, List.getElem?_append_right (by rw [hf]; omega), hf, Nat.add_sub_cancel_left]
      exact ih i j a (by simpa using h) hj
end Go.Proofs.YtdcdefkloibfnaaGreatDoor
namespace Go.Proofs.YtdcdefkloibfnaaGreatDoor
set_option linter.unusedVariables false

/-! The decimal digits of a byte. -/
def dec3 (n : Nat) : List UInt8 := (if 100 ≤ n then [UInt8.ofNat (48 + n / 100)] else []) ++ ((if 10 ≤ n then [UInt8.ofNat (48 + n / 10 % 10)] else []) ++ [UInt8.ofNat (48 + n % 10)])
theorem dec3_itoa {n : Nat} (h : n < 1000) : Lib.itoa (n : Int) = dec3 n := by
  unfold Lib.itoa dec3
  rw [if_neg (by omega), Int.toNat_natCast, Lib.decDigits]
  by_cases h1 : n < 10
  · rw [dif_pos h1, if_neg (by omega), if_neg (by omega), Nat.mod_eq_of_lt h1]; rfl
  · rw [dif_neg h1, Lib.decDigits]
    by_cases h2 : n / 10 < 10
    · rw [dif_pos h2, if_neg (by omega), if_pos (by omega), Nat.mod_eq_of_lt h2]; rfl
    · rw [dif_neg h2, Lib.decDigits, dif_pos (by omega), if_pos (by omega), if_pos (by omega)]
      have e : n / 10 / 10 = n / 100 := by omega
      rw [e]; rfl
def val3 (l : List UInt8) : Nat := l.foldl (fun x c => 10 * x + (c.toNat - 48)) 0
theorem dec3_all : ∀ n : Fin 256, val3 (dec3 n.val) = n.val ∧ (dec3 n.val).all (fun c => decide (48 ≤ c.toNat ∧ c.toNat ≤ 57)) = true ∧ 1 ≤ (dec3 n.val).length ∧ (dec3 n.val).length ≤ 3 := by decide +kernel
theorem dec3_val {n : Nat} (h : n < 256) : val3 (dec3 n) = n := (dec3_all ⟨n, h⟩).1
theorem dec3_dig {n : Nat} (h : n < 256) {c : UInt8} (hc : c ∈ dec3 n) : 48 ≤ c.toNat ∧ c.toNat ≤ 57 := of_decide_eq_true (List.all_eq_true.1 (dec3_all ⟨n, h⟩).2.1 c hc)
theorem dec3_len {n : Nat} (h : n < 256) : 1 ≤ (dec3 n).length ∧ (dec3 n).length ≤ 3 := (dec3_all ⟨n, h⟩).2.2
/-! Two digits by 16. -/
def hexD (n : Nat) : UInt8 := UInt8.ofNat (if n < 10 then 48 + n else 87 + n)
def hex2 (b : UInt8) : List UInt8 := [hexD (b.toNat / 16), hexD (b.toNat % 16)]
def unhex (c : UInt8) : Nat := if c.toNat < 58 then c.toNat - 48 else c.toNat - 87
theorem hexD_all : ∀ n : Fin 16, unhex (hexD n.val) = n.val ∧ ((48 ≤ (hexD n.val).toNat ∧ (hexD n.val).toNat ≤ 57) ∨ (97 ≤ (hexD n.val).toNat ∧ (hexD n.val).toNat ≤ 102)) := by decide +kernel
theorem hexD_un {n : Nat} (h : n < 16) : unhex (hexD n) = n := (hexD_all ⟨n, h⟩).1
theorem hexD_dig {n : Nat} (h : n < 16) : (48 ≤ (hexD n).toNat ∧ (hexD n).toNat ≤ 57) ∨ (97 ≤ (hexD n).toNat ∧ (hexD n).toNat ≤ 102) := (hexD_all ⟨n, h⟩).2
theorem byte_lt (b : UInt8) : b.toNat < 256 := b.toNat_lt
theorem hex2_inj {a b : UInt8} (h : hex2 a = hex2 b) : a = b := by
  unfold hex2 at h
  injection h with h1 h2
  injection h2 with h2 _
  have e1 := congrArg unhex h1
  have e2 := congrArg unhex h2
  have := byte_lt a
  have := byte_lt b
  rw [hexD_un (by omega), hexD_un (by omega)] at e1 e2
  exact UInt8.toNat_inj.1 (by omega)
/-- The name of an address. -/
def nameP (l : List UInt8) : List UInt8 :=
  if l.length = 4 then Lib.join (l.map fun b => Lib.itoa (b.toNat : Int)) [46] else if l.length = 16 then l.flatMap hex2 else []
theorem name4 (a b c d : UInt8) : nameP [a, b, c, d] = dec3 a.toNat ++ 46 :: (dec3 b.toNat ++ 46 :: (dec3 c.toNat ++ 46 :: dec3 d.toNat)) := by
  have h := fun x : UInt8 => dec3_itoa (n := x.toNat) (by have := byte_lt x; omega)
  unfold nameP Lib.join
  rw [if_pos (show [a, b, c, d].length = 4 from rfl)]
  simp only [List.map_cons, List.map_nil, h, List.intercalate, List.intersperse, List.flatten_cons, List.flatten_nil, List.append_nil]
  simp
theorem four_of {l : List UInt8} (h : l.length = 4) : ∃ a b c d, l = [a, b, c, d] := by
  match l, h with
  | [a, b, c, d], _ => exact ⟨a, b, c, d, rfl⟩
theorem dot_split {x y r s : List UInt8} (hx : ∀ c ∈ x, c ≠ 46) (hy : ∀ c ∈ y, c ≠ 46) (h : x ++ 46 :: r = y ++ 46 :: s) : x = y ∧ r = s := by
  induction x generalizing y with
  | nil =>
    cases y with
    | nil => injection h with _ h; exact ⟨rfl, h⟩
    | cons c y =>
      injection h with h1 _
      exact absurd h1.symm (hy c (.head _))
  | cons a x ih =>
    cases y with
    | nil =>
      injection h with h1 _
      exact absurd h1 (hx a (.head _))
    | cons c y =>
      injection h with h1 h2
      obtain ⟨e1, e2⟩ := ih (fun c h => hx c (.tail _ h)) (fun c h => hy c (.tail _ h)) h2
      exact ⟨by rw [h1, e1], e2⟩
theorem dec3_nodot {n : Nat} (h : n < 256) : ∀ c ∈ dec3 n, c ≠ 46 := fun c hc e => by
  have := (dec3_dig h hc).1
  rw [e] at this
  exact absurd this (by decide)
theorem dec3_inj {a b : UInt8} (h : dec3 a.toNat = dec3 b.toNat) : a = b := by
  have := congrArg val3 h
  rw [dec3_val (byte_lt a), dec3_val (byte_lt b)] at this
  exact UInt8.toNat_inj.1 this
theorem name4_inj {l m : List UInt8} (hl : l.length = 4) (hm : m.length = 4) (h : nameP l = nameP m) : l = m := by
  obtain ⟨a, b, c, d, rfl⟩ := four_of hl
  obtain ⟨a', b', c', d', rfl⟩ := four_of hm
  rw [name4, name4] at h
  obtain ⟨h1, h⟩ := dot_split (dec3_nodot (byte_lt _)) (dec3_nodot (byte_lt _)) h
  obtain ⟨h2, h⟩ := dot_split (dec3_nodot (byte_lt _)) (dec3_nodot (byte_lt _)) h
  obtain ⟨h3, h4⟩ := dot_split (dec3_nodot (byte_lt _)) (dec3_nodot (byte_lt _)) h
  rw [dec3_inj h1, dec3_inj h2, dec3_inj h3, dec3_inj h4]
theorem name16 {l : List UInt8} (h : l.length = 16) : nameP l = l.flatMap hex2 := by unfold nameP; rw [if_neg (by omega), if_pos h]
theorem hexs_inj : ∀ (l m : List UInt8), l.flatMap hex2 = m.flatMap hex2 → l = m
  | [], [], _ => rfl
  | [], b :: m, h => by simp [hex2] at h
  | a :: l, [], h => by simp [hex2] at h
  | a :: l, b :: m, h => by
    rw [List.flatMap_cons, List.flatMap_cons] at h
    have h1 : hex2 a ++ l.flatMap hex2 = hex2 b ++ m.flatMap hex2 := h
    obtain ⟨e1, e2⟩ := List.append_inj h1 rfl
    rw [hex2_inj e1, hexs_inj l m e2]
theorem hexs_len (l : List UInt8) : (l.flatMap hex2).length = 2 * l.length := by
  induction l with
  | nil => rfl
  | cons a l ih => rw [List.flatMap_cons, List.length_append, ih, List.length_cons]; show 2 + _ = _; omega
theorem hexs_dig {l : List UInt8} {c : UInt8} (h : c ∈ l.flatMap hex2) : (48 ≤ c.toNat ∧ c.toNat ≤ 57) ∨ (97 ≤ c.toNat ∧ c.toNat ≤ 102) := by
  obtain ⟨b, -, hb⟩ := List.mem_flatMap.1 h
  have := byte_lt b
  have h2 : c = hexD (b.toNat / 16) ∨ c = hexD (b.toNat % 16) := by simpa [hex2] using hb
  rcases h2 with rfl | rfl
  · exact hexD_dig (by omega)
  · exact hexD_dig (by omega)
/-- May an address have so many bytes? -/
def fineA (l : List UInt8) : Bool := decide (l.length = 4) || decide (l.length = 16)
def dotsN (l : List UInt8) : Nat := (l.filter fun c => decide (c = 46)).length
theorem dots_none {l : List UInt8} (h : ∀ c ∈ l, c ≠ 46) : dotsN l = 0 := by
  unfold dotsN
  rw [List.filter_eq_nil_iff.2 fun c hc => by simpa using h c hc]; rfl
theorem dots_app (l m : List UInt8) : dotsN (l ++ m) = dotsN l + dotsN m := by unfold dotsN; rw [List.filter_append, List.length_append]
theorem dots_dot (m : List UInt8) : dotsN (46 :: m) = dotsN m + 1 := by unfold dotsN; simp
/-- What the law asks of a name. -/
structure NameLaw (l : List UInt8) : Prop where
  empty : nameP l = [] ↔ fineA l = false
  chars : ∀ c ∈ nameP l, c = 46 ∨ (48 ≤ c.toNat ∧ c.toNat ≤ 57) ∨ (97 ≤ c.toNat ∧ c.toNat ≤ 102)
  ends : (l.length = 4 ∧ dotsN (nameP l) = 3 ∧ 7 ≤ (nameP l).length ∧ (nameP l).length ≤ 15) ∨ (l.length = 16 ∧ dotsN (nameP l) = 0 ∧ (nameP l).length = 32) ∨ fineA l = false
theorem name_law (l : List UInt8) : NameLaw l := by
  by_cases h4 : l.length = 4
  · obtain ⟨a, b, c, d, rfl⟩ := four_of h4
    have ha := dec3_len (byte_lt a)
    have hb := dec3_len (byte_lt b)
    have hc := dec3_len (byte_lt c)
    have hd := dec3_len (byte_lt d)
    refine ⟨?_, ?_, .inl ⟨rfl, ?_, ?_⟩⟩
    · rw [name4]
      constructor
      · intro h; simp at h
      · intro h; cases h
    · rw [name4]
      intro x hx
      have key : ∀ n : UInt8, x ∈ dec3 n.toNat → x = 46 ∨ (48 ≤ x.toNat ∧ x.toNat ≤ 57) ∨ (97 ≤ x.toNat ∧ x.toNat ≤ 102) := fun n h => .inr (.inl (dec3_dig (byte_lt n) h))
      rcases List.mem_append.1 hx with h | h
      · exact key _ h
      · rcases List.mem_cons.1 h with h | h
        · exact .inl h
        · rcases List.mem_append.1 h with h | h
          · exact key _ h
          · rcases List.mem_cons.1 h with h | h
            · exact .inl h
            · rcases List.mem_append.1 h with h | h
              · exact key _ h
              · rcases List.mem_cons.1 h with h | h
                · exact .inl h
                · exact key _ h
    · rw [name4, dots_app, dots_dot, dots_app, dots_dot, dots_app, dots_dot, dots_none (dec3_nodot (byte_lt a)), dots_none (dec3_nodot (byte_lt b)), dots_none (dec3_nodot (byte_lt c)), dots_none (dec3_nodot (byte_lt d))]
    · rw [name4]
      simp only [List.length_append, List.length_cons]
      omega
  · by_cases h16 : l.length = 16
    · have hn := name16 h16
      have hl := hexs_len l
      refine ⟨?_, ?_, .inr (.inl ⟨h16, ?_, ?_⟩)⟩
      · rw [hn]
        constructor
        · intro h; rw [h] at hl; simp at hl; omega
        · intro h; unfold fineA at h; rw [decide_eq_true h16] at h; simp at h
      · rw [hn]
        exact fun c hc => .inr (hexs_dig hc)
      · rw [hn]
        exact dots_none fun c hc e => by
          have := hexs_dig hc
          rw [e] at this
          exact absurd this (by decide)
      · rw [hn, hl, h16]
    · have hf : fineA l = false := by unfold fineA; rw [decide_eq_false h4, decide_eq_false h16]; rfl
      have hn : nameP l = [] := by unfold nameP; rw [if_neg h4, if_neg h16]
      exact ⟨⟨fun _ => hf, fun _ => hn⟩, (by rw [hn]; intro c hc; cases hc), .inr (.inr hf)⟩
/-- Addresses that may be have different names. -/
theorem name_inj {l m : List UInt8} (hl : fineA l = true) (hm : fineA m = true) : nameP l = nameP m ↔ l = m := by
  constructor
  · intro h
    have h1 := (name_law l).ends
    have h2 := (name_law m).ends
    rw [hl] at h1
    rw [hm] at h2
    rw [h] at h1
    rcases h1 with ⟨a1, a2, -⟩ | ⟨a1, a2, -⟩ | h1
    · rcases h2 with ⟨b1, -⟩ | ⟨b1, b2, -⟩ | h2
      · exact name4_inj a1 b1 h
      · omega
      · cases h2
    · rcases h2 with ⟨b1, b2, -⟩ | ⟨b1, b2, -⟩ | h2
      · omega
      · rw [name16 a1, name16 b1] at h
        exact hexs_inj _ _ h
      · cases h2
    · cases h1
  · rintro rfl; rfl
end Go.Proofs.YtdcdefkloibfnaaGreatDoor
namespace Go.Proofs.YtdcdefkloibfnaaGreatDoor
set_option linter.unusedVariables false
open Go.RowKit

section
variable {w w' : World} {base : Nat} {e : TypeId} {sz k n : Nat} {v v' : Value} {xs ys : List Value}
theorem Blk.appended {g : Nat} {t : TypeId} {cs : Array Value} (hb : Blk w g t cs) (h : Appended w w' base e sz v v' k xs) (ho : w.ownsRow base e sz v n ys) (hne : e ≠ t) : Blk w' g t cs :=
  hb.kept h.kept fun hg => by
    obtain ⟨_, cs', hh⟩ := own_type ho hg
    exact Blk.ne_ (t := e) hh hb hne rfl
theorem Appended.below {S : Nat → Prop} (h : Appended w w' base e sz v v' k xs) (ho : w.ownsRow base e sz v n ys) {w0 : World} (hk : Kept S w0 w) (hb : w0.heap.size ≤ base) : Kept S w0 w' :=
  hk.trans h.kept fun i hi hv => by have := (own_type ho hv).1; omega
theorem Appended.keptNil {xs : List Value} (h : Appended w w' base e sz (.slice none 0 0) v' k xs) : Kept noBlock w w' := h.kept.mono fun i hi e => by simp [Value.ownBlock] at e
theorem Sl.made_at {g : Nat} {cs : Array Value} (hb : Blk w g e cs) (l : List Value) (hl : cs.toList = l) (hn : cs.size = n * sz) (hm : n ≤ maxLen) : Sl w e sz (.slice (some ⟨g, 0, none⟩) n n) n l := hl ▸ Sl.made hb hn hm
/-- What was there ahead of an own row is kept behind an append to it. -/
theorem SlK.appended {B : Nat} {sz' n' : Nat} {u : Value} {zs : List Value} (hs : Lo w B sz' u n' zs) (h : Appended w w' base e sz v v' k xs) (ho : w.ownsRow base e sz v n ys) (hB : B ≤ base) : Lo w' B sz' u n' zs :=
  Lo.kept hs h.kept fun g hg hv => by have := (own_type ho hv).1; omega
theorem own_pos (h : w.ownsRow base e sz v n xs) (hn : 0 < n) : ∃ g cap, v = .slice (some ⟨g, 0, none⟩) n cap := by
  rcases h.2 with ⟨_, h0⟩ | ⟨g, cap, _, rfl, _⟩
  · omega
  · exact ⟨g, cap, rfl⟩
end

def noStr : ByteArray := ⟨#[]⟩
instance decStr : DecidableEq ByteArray := fun a b => if h : a.data = b.data then isTrue (by cases a; cases b; cases h; rfl) else isFalse fun e => h (by rw [e])
abbrev Pl := Int × ByteArray
def pC (p : Pl) : List Value := [.int .i64 p.1, .string p.2]
theorem pC_len (l : List Pl) : (l.flatMap pC).length = l.length * 2 := flat_len (k := 2) (fun _ => rfl) l
theorem pC_one {l : List Pl} {u : Value} (hu : u ∈ l.flatMap pC) : u.oneCell' = true := by
  obtain ⟨a, _, h⟩ := List.mem_flatMap.1 hu
  simp only [pC, List.mem_cons, List.not_mem_nil, or_false] at h
  rcases h with rfl | rfl <;> rfl
theorem strsT : SlT Tryz.prog 63 9 (.string noStr) 1 16 := ⟨Tryz.underlying63, by kernel_rfl, rfl, by decide, by decide⟩
theorem p_at {w : World} {ok : Nat → TypeId → Prop} {v : Value} {L : List Pl} {n : Nat} (h : SlK w ok 2 v n (L.flatMap pC)) {t e : TypeId} {z : Value} (T : SlT Tryz.prog t e z 2 24) {i : Nat} {p : Pl} (hi : L[i]? = some p) :
    ∃ g off, (∀ kd w', (Instr.indexAt t v (.int kd (i : Int))).run Tryz.prog w' = .ok (.pointer (some ⟨g, off, none⟩)) w') ∧ g < w.heap.size ∧ w.cell? ⟨g, off, none⟩ = some (.int .i64 p.1) ∧ w.cell? ⟨g, off + 1, none⟩ = some (.string p.2) := by
  have hlt : i < n := by
    have h1 := (List.getElem?_eq_some_iff.1 hi).1
    have h2 := h.len
    rw [pC_len] at h2
    omega
  obtain ⟨g, off, h1, h2, h4, h3⟩ := h.run_index T (i := (i : Int)) (k := i) rfl hlt
  refine ⟨g, off, h1, h2, h3 0 _ ?_, h3 1 _ ?_⟩
  · rw [flat_get (k := 2) (fun _ => rfl) L i 0 p hi (by decide)]; rfl
  · rw [flat_get (k := 2) (fun _ => rfl) L i 1 p hi (by decide)]; rfl
theorem str_at {w : World} {ok : Nat → TypeId → Prop} {v : Value} {L : List ByteArray} {n : Nat} (h : SlK w ok 1 v n (L.map Value.string)) {i : Nat} {s : ByteArray} (hi : L[i]? = some s) :
    ∃ g off, (∀ kd w', (Instr.indexAt 63 v (.int kd (i : Int))).run Tryz.prog w' = .ok (.pointer (some ⟨g, off, none⟩)) w') ∧ g < w.heap.size ∧ w.cell? ⟨g, off, none⟩ = some (.string s) := by
  have hlt : i < n := by
    have h1 := (List.getElem?_eq_some_iff.1 hi).1
    have h2 := h.len
    rw [List.length_map] at h2
    omega
  obtain ⟨g, off, h1, h2, h4, h3⟩ := h.run_index strsT (i := (i : Int)) (k := i) rfl hlt
  exact ⟨g, off, h1, h2, h3 0 _ (by rw [Nat.mul_one, Nat.add_zero, List.getElem?_map, hi]; rfl)⟩

def cmpZ (a b : Int) : Int := if a < b then -1 else if b < a then 1 else 0
/-- Worlds that have only drawn, and grown. -/
def Grew (w w' : World) : Prop := ∃ q os, w' = Go.Sort.grow (w.drewN q) os
theorem Grew.refl (w : World) : Grew w w := ⟨0, #[], by rw [Go.Sort.grow_empty]; rfl⟩
theorem Grew.drew {w w' : World} (h : Grew w w') : Grew w w'.drew := by
  obtain ⟨q, os, rfl⟩ := h
  exact ⟨q + 1, os, rfl⟩
theorem Grew.alloc {w w' : World} (h : Grew w w') (o : Obj) : Grew w (w'.alloc o) := by
  obtain ⟨q, os, rfl⟩ := h
  exact ⟨q, os ++ #[o], by rw [Go.Sort.alloc_eq_grow, Go.Sort.grow_grow]⟩
theorem Grew.kept {w w' : World} (h : Grew w w') : Kept noBlock w w' := by
  obtain ⟨q, os, rfl⟩ := h
  exact ⟨rfl, rfl, rfl, by rw [Go.Sort.size_grow]; exact Nat.le_add_right _ _, fun k hk _ => Go.Sort.heap_grow_old _ _ hk⟩
theorem Grew.trans {a b c : World} (h : Grew a b) (k : Grew b c) : Grew a c := by
  obtain ⟨q, os, rfl⟩ := h
  obtain ⟨q', os', rfl⟩ := k
  exact ⟨q + q', os ++ os', by rw [← Go.Sort.grow_grow, ← World.drewN_drewN]; rfl⟩
def rising (S : List Pl) : Prop := S.Pairwise fun a b => a.1 < b.1
theorem rising_nodup {S : List Pl} (h : rising S) : (S.map (·.1)).Nodup := List.pairwise_map.2 (h.imp fun e => by omega)
end Go.Proofs.YtdcdefkloibfnaaGreatDoor

/- An argument that is a slice, opened: its elements as a list, each read by the caller's own reading. No program is named · A slice among the cells of what came in. No program is named · What the rows list, and what the world's shape says: the library's variables; rows of uint64 that came in · A law's row out of its walk: whatever its arguments are, if the call answers true and leaves all that was there as it was. No program is named · What has come of a map's entries, while it is ranged over · Sorted rows of one's own, plainly. -/
import Derived.Test.YtfnjoceolcdeoaaGreatDoorMr03
import Derived.Deep.Slices
import Derived.WideShapes
import Derived.Test.YtfnjoceolcdeoaaGreatDoorMr09
import Derived.Test.YtfnjoceolcdeoaaGreatDoorMr11
import Derived.Lib.LaidTab
import Derived.Shelf.Vars
import Derived.OpenShut
import Derived.WalkKit
import Derived.ProofKit
import Derived.ShutString
import Derived.Lib.SmallJoins
import Derived.Test.YtfnjoceolcdeoaaGreatDoorMr02
import Derived.Test.YtfnjoceolcdeoaaGreatDoorMr23
import Derived.Laws.IdiomRangeMap
import Derived.Test.YtfnjoceolcdeoaaGreatDoorMr04
import Derived.Shelf.SlSortCmp.NoneTotal
import Derived.Shelf.Abstract
namespace Go.Proofs.YtfnjoceolcdeoaaGreatDoor
set_option linter.unusedVariables false
open Go.ChangeShapes Go.WideShapes Go.Deep Go.RowKit

theorem list_of {α : Type} {n : Nat} {R : Nat → α → Prop} (h : ∀ i, i < n → ∃ a, R i a) : ∃ l : List α, l.length = n ∧ ∀ i a, l[i]? = some a → R i a := by
  induction n with
  | zero => exact ⟨[], rfl, by simp⟩
  | succ n ih =>
    obtain ⟨l, hl, hr⟩ := ih fun i hi => h i (by omega)
    obtain ⟨a, ha⟩ := h n (by omega)
    refine ⟨l ++ [a], by simp [hl], fun i b hb => ?_⟩
    by_cases hi : i < l.length
    · rw [List.getElem?_append_left hi] at hb; exact hr i b hb
    · have : i = n := by
        have := (List.getElem?_eq_some_iff.1 hb).1
        simp at this; omega
      subst this
      rw [List.getElem?_append_right (by omega), hl, Nat.sub_self] at hb
      simp at hb; subst hb; exact ha

theorem flat_of {α : Type} {f : α → List Value} {k : Nat} (hf : ∀ a, (f a).length = k) (hk : 0 < k) {l : List α} {P : Nat → Value → Prop} (h : ∀ i a j u, l[i]? = some a → (f a)[j]? = some u → P (i * k + j) u) : ∀ j u, (l.flatMap f)[j]? = some u → P j u := by
  induction l generalizing P with
  | nil => intro j u h; simp at h
  | cons a t ih =>
    intro j u hu
    rw [List.flatMap_cons] at hu
    by_cases hj : j < k
    · rw [List.getElem?_append_left (by rw [hf]; exact hj)] at hu
      have := h 0 a j u rfl hu
      simpa using this
    · rw [List.getElem?_append_right (by rw [hf]; omega), hf] at hu
      have := ih (P := fun j u => P (k + j) u) (fun i b j' u' hb hu' => by
        have := h (i + 1) b j' u' (by simpa using hb) hu'
        rw [Nat.add_mul, Nat.one_mul, Nat.add_assoc, Nat.add_comm, Nat.add_assoc] at this
        rw [show k + (i * k + j') = j' + (k + i * k) by omega]
        rw [show k + (j' + i * k) = j' + (k + i * k) by omega] at this
        exact this) (j - k) u hu
      simpa [show k + (j - k) = j by omega] using this

section
variable {H : Type} {enc : TypeId × Value → H} {P : Program} {W : World}
theorem open_lo {t e : TypeId} {k : Nat} (ht : P.underlying t = some (.slice e)) (hC : P.cellsOf e = k) (hk : 0 < k) {v : Value} {d : DataW H} {p : List MemPlace} {r : Reach} {base : Nat} (hval : Value.okWide P W r base t v)
    (h : DataW.Trod enc P W 0 (fun _ => true) true t v d p) {α : Type} (f : α → List Value) (hf : ∀ a, (f a).length = k)
    (hread : ∀ cs n y, cs.length = k → DataW.trod enc P W 0 (fun _ => true) true n e cs = some y → ∃ a, cs = f a) :
    ∃ l : List α, Lo W W.heap.size k v l.length (l.flatMap f) := by
  obtain ⟨a0, len0, cap0, rfl⟩ := okWide_slice ht hval
  obtain ⟨fuel, hfu⟩ := h
  rcases open_slice ht hfu with ⟨hcs, _⟩ | ⟨a, len, cap, m, n, D, Pl, hcs, _, hl, hm, hmm, _, hi⟩
  · have : Value.slice a0 len0 cap0 = .slice none 0 0 := by simpa [Value.cells] using hcs
    rw [this]
    exact ⟨[], SlK.nil _ _ _⟩
  · have hv : Value.slice a0 len0 cap0 = .slice (some a) len cap := by simpa [Value.cells] using hcs
    rw [hv]
    simp only [if_true] at hmm
    obtain rfl := hmm.symm
    by_cases hc0 : cap = 0
    · subst hc0
      obtain rfl : len = 0 := by omega
      exact ⟨[], by simp, _, _, rfl, Nat.le_refl _, Nat.zero_le _, .inl ⟨rfl, rfl⟩⟩
    · have hel : ∀ i, i < len → ∃ x, W.cells? 0 (a.add (i * k)) k = some (f x) := fun i hi' => by
        obtain ⟨cs', h1, h2⟩ := hi i (by omega)
        rw [hC] at h1
        obtain ⟨_, hlen, _⟩ := World.cells?_some h1
        obtain ⟨x, rfl⟩ := hread cs' _ _ hlen h2
        exact ⟨x, h1⟩
      obtain ⟨l, hll, hlr⟩ := list_of hel
      -- the block is read at its first cell
      obtain ⟨cs0, h0, _⟩ := hi 0 (by omega)
      rw [hC, Nat.zero_mul] at h0
      obtain ⟨_, hlen0, hat0⟩ := World.cells?_some h0
      have hc := hat0 0 hk
      have hadd : (a.add 0).add 0 = a := by simp [Addr.add]
      rw [hadd, List.getElem?_eq_getElem (by omega)] at hc
      have hsp : a.spot = none := by
        unfold World.cell? at hc
        split at hc
        · split at hc
          · cases hc
          · rename_i hs; simpa using hs
        · cases hc
      have hblk : ∃ cs e' fz, W.heap[a.block]? = some (.cells cs e' fz) := by
        unfold World.cell? at hc
        split at hc
        · rename_i cs e' fz hh; exact ⟨cs, e', fz, hh⟩
        · cases hc
      obtain ⟨cs, e', fz, hh⟩ := hblk
      obtain ⟨g, off, sp⟩ := a
      simp only at hsp hh
      subst hsp
      refine ⟨l, flat_len hf l, _, _, by rw [hll], by rw [hll]; exact hl, hm, .inr ⟨g, off, cs, e', fz, rfl, hh, lt_of_heap hh, ?_⟩⟩
      refine flat_of hf hk fun i x j u hx hu => ?_
      obtain ⟨_, _, hat⟩ := World.cells?_some (hlr i x hx)
      have hj : j < k := by have := (List.getElem?_eq_some_iff.1 hu).1; rw [hf] at this; exact this
      have := hat j hj
      rw [hu, Addr.add_lit, Addr.add_lit, cell_of_row W g _ cs e' fz hh, Nat.add_assoc] at this
      exact this
end
end Go.Proofs.YtfnjoceolcdeoaaGreatDoor
namespace Go.Proofs.YtfnjoceolcdeoaaGreatDoor
set_option linter.unusedVariables false
open Go.ChangeShapes Go.WideShapes Go.Deep Go.RowKit
section
variable {H : Type} {enc : TypeId × Value → H} {P : Program} {W : World}
/-- A slice among the cells of what came in. -/
theorem open_cell {t e : TypeId} {k : Nat} (ht : P.underlying t = some (.slice e)) (hC : P.cellsOf e = k) (hk : 0 < k) {fuel : Nat} {cs : List Value} {x : DataW H × List MemPlace}
    (hfu : DataW.trod enc P W 0 (fun _ => true) true fuel t cs = some x) {α : Type} (f : α → List Value) (hf : ∀ a, (f a).length = k)
    (hread : ∀ cs n y, cs.length = k → DataW.trod enc P W 0 (fun _ => true) true n e cs = some y → ∃ a, cs = f a) :
    ∃ A n c, cs = [.slice A n c] ∧ ∃ l : List α, l.length = n ∧ Lo W W.heap.size k (.slice A n c) n (l.flatMap f) := by
  rcases open_slice ht hfu with ⟨hcs, _⟩ | ⟨a, len, cap, m, n, D, Pl, hcs, _, hl, hm, hmm, _, hi⟩
  · exact ⟨none, 0, 0, hcs, [], rfl, SlK.nil _ _ _⟩
  · refine ⟨some a, len, cap, hcs, ?_⟩
    simp only [if_true] at hmm
    obtain rfl := hmm.symm
    by_cases hc0 : cap = 0
    · subst hc0
      obtain rfl : len = 0 := by omega
      exact ⟨[], rfl, by simp, _, _, rfl, Nat.le_refl _, Nat.zero_le _, .inl ⟨rfl, rfl⟩⟩
    · have hel : ∀ i, i < len → ∃ x, W.cells? 0 (a.add (i * k)) k = some (f x) := fun i hi' => by
        obtain ⟨cs', h1, h2⟩ := hi i (by omega)
        rw [hC] at h1
        obtain ⟨_, hlen, _⟩ := World.cells?_some h1
        obtain ⟨x, rfl⟩ := hread cs' _ _ hlen h2
        exact ⟨x, h1⟩
      obtain ⟨l, hll, hlr⟩ := list_of hel
      obtain ⟨cs0, h0, _⟩ := hi 0 (by omega)
      rw [hC, Nat.zero_mul] at h0
      obtain ⟨_, hlen0, hat0⟩ := World.cells?_some h0
      have hc := hat0 0 hk
      have hadd : (a.add 0).add 0 = a := by simp [Addr.add]
      rw [hadd, List.getElem?_eq_getElem (by omega)] at hc
      have hsp : a.spot = none := by
        unfold World.cell? at hc
        split at hc
        · split at hc
          · cases hc
          · rename_i hs; simpa using hs
        · cases hc
      have hblk : ∃ cs e' fz, W.heap[a.block]? = some (.cells cs e' fz) := by
        unfold World.cell? at hc
        split at hc
        · rename_i cs e' fz hh; exact ⟨cs, e', fz, hh⟩
        · cases hc
      obtain ⟨cs, e', fz, hh⟩ := hblk
      obtain ⟨g, off, sp⟩ := a
      simp only at hsp hh
      subst hsp
      refine ⟨l, hll, by rw [flat_len hf l, hll], _, _, rfl, hl, hm, .inr ⟨g, off, cs, e', fz, rfl, hh, lt_of_heap hh, ?_⟩⟩
      refine flat_of hf hk fun i x j u hx hu => ?_
      obtain ⟨_, _, hat⟩ := World.cells?_some (hlr i x hx)
      have hj : j < k := by have := (List.getElem?_eq_some_iff.1 hu).1; rw [hf] at this; exact this
      have := hat j hj
      rw [hu, Addr.add_lit, Addr.add_lit, cell_of_row W g _ cs e' fz hh, Nat.add_assoc] at this
      exact this
end
section
variable {H : Type} {enc : TypeId × Value → H} {P : Program} {w : World} {base : Nat} {spare : Nat → Bool} {held : Bool}
theorem field_read {t : TypeId} {fs : Array Field} {fuel : Nat} {cs : List Value} {x : DataW H × List MemPlace} (ht : P.underlying t = some (.struct fs)) (h : DataW.trod enc P w base spare held fuel t cs = some x) {i : Nat} {f : Field} (hf : fs[i]? = some f)
    {k : Nat} (hk : P.cellsOf f.type = k) {c : List Value} (hc : (cs.drop f.offset).take k = c) : ∃ n y, DataW.trod enc P w base spare held n f.type c = some y := by
  obtain ⟨xs, n, _, _, _, hl, hg⟩ := DataW.trod_struct ht h
  have h1 := hg i f hf
  have hi : i < xs.length := by rw [hl]; exact (Array.getElem?_eq_some_iff.1 hf).1
  rw [hk, hc, List.getElem?_eq_getElem hi] at h1
  exact ⟨n, _, h1⟩
end
end Go.Proofs.YtfnjoceolcdeoaaGreatDoor
namespace Go.Proofs.YtfnjoceolcdeoaaGreatDoor
set_option linter.unusedVariables false
open Go.ChangeShapes Go.WideShapes Go.Deep Go.RowKit

theorem maxL_of_shape {W : World} (h : W.ShapedOpen Tryz.prog) : MaxL W :=
  cell_of_shapedOpen_int (g := 3) (t := 3) (zero := #[.int .i64 0]) (k := .i64) h (of_decide_eq_true (by kernel_rfl)) (by kernel_rfl) rfl (by kernel_rfl) (by kernel_rfl) Tryz.underlying3
theorem natsP (l : List Nat) (j : Nat) : (l.map fun x : Nat => (x : Int)).getD j 0 = ((l.getD j 0 : Nat) : Int) := by
  simp only [List.getD_eq_getElem?_getD, List.getElem?_map]
  cases l[j]? <;> rfl
theorem tab_of_laid {W : World} {r : List (String × DataW Unit)} (h : laidMet Tryz.prog (("math/bits.deBruijn64tab", Lib.tabData .u8 (Lib.deBruijn64tab.map fun x : Nat => (x : Int))) :: r) W) : Tab W := by
  have ht : Lib.TabIs Tryz.prog W "math/bits.deBruijn64tab" .u8 (Lib.deBruijn64tab.map fun x : Nat => (x : Int)) := Lib.tabIs_of_head (g := 2) (t := 231) (e := 5) (n := 64) (by kernel_rfl) (by kernel_rfl) (by kernel_rfl) (by kernel_rfl) (by kernel_rfl) (by kernel_rfl) h
  intro j hj
  have := ht.cell (g := 2) (by kernel_rfl) j (by rw [List.length_map]; exact hj)
  rw [natsP] at this
  exact this
section
variable {H : Type} {enc : TypeId × Value → H} {W : World} {base : Nat} {v : Value} {d : DataW H} {p : List MemPlace}
theorem nat_u64P {a : Int} (h : (Lit.int .u64 a).wf = true) : ∃ b : Nat, a = (b : Int) ∧ b < 18446744073709551616 :=
  ⟨a.toNat, by have := (bounds_u64 h).1; omega, by have := (bounds_u64 h).1; have := (bounds_u64 h).2; omega⟩
theorem nat_u32P {a : Int} (h : (Lit.int .u32 a).wf = true) : ∃ b : Nat, a = (b : Int) ∧ b ≤ 4294967295 :=
  ⟨a.toNat, by have := (bounds_u32 h).1; omega, by have := (bounds_u32 h).1; have := (bounds_u32 h).2; omega⟩
theorem u64C_flat (l : List { b : Nat // b < 18446744073709551616 }) : l.flatMap (fun b => [Value.int .u64 (b.1 : Int)]) = (l.map (·.1)).map fun x : Nat => Value.int .u64 (x : Int) := by
  induction l with
  | nil => rfl
  | cons a l ih => rw [List.flatMap_cons, ih]; rfl
set_option maxRecDepth 100000 in
theorem open_u64sP {hval : Value.okWide Tryz.prog W .any base 24 v} (h : DataW.Trod enc Tryz.prog W 0 (fun _ => true) true 24 v d p) :
    ∃ A n c, v = .slice A n c ∧ ∃ l : List Nat, l.length = n ∧ (∀ x ∈ l, x < 18446744073709551616) ∧ Lo W W.heap.size 1 (.slice A n c) n (l.map fun x : Nat => Value.int .u64 (x : Int)) := by
  obtain ⟨a0, len0, cap0, rfl⟩ := okWide_slice Tryz.underlying24 hval
  obtain ⟨fuel, hfu⟩ := h
  obtain ⟨A, n, c, hcs, l, hl, hlo⟩ := open_cell (k := 1) Tryz.underlying24 (by kernel_rfl) (by decide) hfu (fun b : { b : Nat // b < 18446744073709551616 } => [Value.int .u64 (b.1 : Int)]) (fun _ => rfl) (fun cs n y hl h => by
    obtain ⟨b, e, -, hw⟩ := DataW.trod_int Tryz.underlying23 h
    obtain ⟨u, rfl, hu⟩ := nat_u64P hw
    exact ⟨⟨u, hu⟩, e⟩)
  rw [u64C_flat] at hlo
  have hv : Value.slice a0 len0 cap0 = .slice A n c := by simpa [Value.cells] using hcs
  refine ⟨A, n, c, hv, l.map (·.1), by rw [List.length_map]; exact hl, fun x hx => ?_, hlo⟩
  obtain ⟨y, -, rfl⟩ := List.mem_map.1 hx
  exact y.2
end
end Go.Proofs.YtfnjoceolcdeoaaGreatDoor
namespace Go.Proofs.YtfnjoceolcdeoaaGreatDoor
set_option linter.unusedVariables false
open Go.ChangeShapes Go.WideShapes Go.ChangeAt Go.RowKit

theorem trodAll_stays {H : Type} {enc : TypeId × Value → H} {P : Program} (hl : laidOutB P = true) {W W' : World} (hb : Below W.heap.size W W') :
    ∀ (ts : List TypeId) (vs : List Value) (ds : List (DataW H)) (ps : List MemPlace), (∀ t ∈ ts, P.readableRec t = true ∧ t < P.types.size) → DataW.TrodAll enc P W 0 (fun _ => true) true ts vs ds ps → (∀ x ∈ ps, x.block < W.heap.size) →
      DataW.TrodAll enc P W' 0 (fun b => decide (b < W.heap.size)) true ts vs ds ps
  | [], [], [], _, _, h, _ => h
  | t :: ts, v :: vs, d :: ds, ps, hr, h, hlt => by
    obtain ⟨p, q, h1, h2, rfl⟩ := h
    obtain ⟨hr1, hr2⟩ := hr t (.head _)
    exact ⟨p, q, Below.trod hl hr1 hr2 h1 hb (fun x hx => hlt x (List.mem_append.2 (.inl hx))), trodAll_stays hl hb ts vs ds q (fun t ht => hr t (.tail _ ht)) h2 (fun x hx => hlt x (List.mem_append.2 (.inr hx))), rfl⟩
  | [], [], _ :: _, _, _, h, _ => h.elim
  | [], _ :: _, _, _, _, h, _ => h.elim
  | _ :: _, [], _, _, _, h, _ => h.elim
  | _ :: _, _ :: _, [], _, _, h, _ => h.elim

theorem law_post {H : Type} {enc : TypeId × Value → H} {P : Program} {f : Func} {s : ChangeSpec} {tb : TypeId} {W W' : World} {args : Array Value} {ds gs : List (DataW H)} {before : List MemPlace} (hl : laidOutB P = true)
    (hW : DataW.Whole enc P f.params.toList s.vars false W args.toList ds gs before) (hvars : s.vars = []) (hparams : ∀ t ∈ f.params.toList, P.readableRec t = true ∧ t < P.types.size) (hres : f.resultTypes = #[tb]) (htb : P.underlying tb = some .bool)
    (h1 : (s.fn H (ds ++ gs)).results = [.lit (.bool true)]) (h2 : (s.fn H (ds ++ gs)).args = ds) (h3 : (s.fn H (ds ++ gs)).vars = []) (hb : Below W.heap.size W W') : s.post enc P f false true false false W args (.bool true) W' := by
  have hlt := hW.lt
  have hW0 := hW
  obtain ⟨p, q, hA, hV, rfl, hfz, hnd⟩ := hW0
  rw [hvars] at hV
  obtain ⟨rfl, rfl⟩ := trodVars_none hV
  refine ⟨ds, [], p ++ [], [], p, [], hW, ?_, ?_, ?_, ?_, fun h => by cases h⟩
  · rw [h1, hres]
    exact trodAll_cons_mk (shut_bool htb _) trodAll_mk0
  · rw [h2]
    exact trodAll_stays hl hb _ _ _ _ hparams hA (fun x hx => hlt x (by simpa using hx))
  · rw [hvars, h3]; rfl
  · exact hb.frame _
end Go.Proofs.YtfnjoceolcdeoaaGreatDoor
namespace Go.Proofs.YtfnjoceolcdeoaaGreatDoor
set_option linter.unusedVariables false
open Go.RowKit

/-- What has come of the map's values. -/
def visG {α : Type} (seen : Array Nat) : List MapEntry → List α → List α
  | e :: es, v :: vs => if seen.contains e.born = true then v :: visG seen es vs else visG seen es vs
  | _, _ => []
theorem visG_none {α : Type} : ∀ (es : List MapEntry) (vs : List α), visG #[] es vs = []
  | [], _ => rfl
  | _ :: _, [] => rfl
  | e :: es, v :: vs => by rw [visG, if_neg (by simp)]; exact visG_none es vs
theorem visG_all {α : Type} {seen : Array Nat} : ∀ (es : List MapEntry) (vs : List α), es.length = vs.length → (∀ e ∈ es, seen.contains e.born = true) → visG seen es vs = vs
  | [], [], _, _ => rfl
  | [], _ :: _, h, _ => by simp at h
  | _ :: _, [], h, _ => by simp at h
  | e :: es, v :: vs, h, ha => by
    rw [visG, if_pos (ha e (List.mem_cons_self ..)), visG_all es vs (by simpa using h) fun x hx => ha x (List.mem_cons_of_mem _ hx)]
theorem visG_other {α : Type} {seen : Array Nat} {b : Nat} : ∀ (es : List MapEntry) (vs : List α), (∀ e ∈ es, e.born ≠ b) → visG (seen.push b) es vs = visG seen es vs
  | [], _, _ => rfl
  | _ :: _, [], _ => rfl
  | e :: es, v :: vs, h => by
    have h1 := h e (List.mem_cons_self ..)
    have h2 : (seen.push b).contains e.born = seen.contains e.born := by
      rw [contains_push]
      simp [h1]
    rw [visG, visG, h2, visG_other es vs fun x hx => h x (List.mem_cons_of_mem _ hx)]
theorem visG_step {α : Type} {seen : Array Nat} {e : MapEntry} {v : α} : ∀ (es : List MapEntry) (vs : List α) (i : Nat), (es.map (·.born)).Nodup → es[i]? = some e → vs[i]? = some v → seen.contains e.born = false → (visG (seen.push e.born) es vs).Perm (visG seen es vs ++ [v])
  | [], _, _, _, h, _, _ => by simp at h
  | _ :: _, [], _, _, _, h, _ => by simp at h
  | a :: es, w :: vs, 0, hn, he, hv, hs => by
    simp only [List.getElem?_cons_zero, Option.some.injEq] at he hv
    subst he hv
    have hn' : a.born ∉ es.map (·.born) ∧ (es.map (·.born)).Nodup := List.nodup_cons.1 hn
    rw [visG, visG, if_pos (by rw [contains_push]; simp), if_neg (by rw [hs]; simp), visG_other es vs (fun x hx (e : x.born = a.born) => hn'.1 (e ▸ List.mem_map.2 ⟨x, hx, rfl⟩))]
    exact (List.perm_append_comm (l₁ := [w]) (l₂ := visG seen es vs))
  | a :: es, w :: vs, i + 1, hn, he, hv, hs => by
    simp only [List.getElem?_cons_succ] at he hv
    have hn' : a.born ∉ es.map (·.born) ∧ (es.map (·.born)).Nodup := List.nodup_cons.1 hn
    have hne : a.born ≠ e.born := fun e2 => hn'.1 (e2 ▸ List.mem_map.2 ⟨e, List.mem_of_getElem? he, rfl⟩)
    have h2 : (seen.push e.born).contains a.born = seen.contains a.born := by
      rw [contains_push]
      simp [hne]
    have ih := visG_step es vs i hn'.2 he hv hs
    rw [visG, visG, h2]
    by_cases h3 : seen.contains a.born = true
    · rw [if_pos h3, if_pos h3]; exact ih.cons w
    · rw [if_neg h3, if_neg h3]; exact ih
theorem visG_len {α : Type} {seen : Array Nat} : ∀ (es : List MapEntry) (vs : List α), (visG seen es vs).length ≤ vs.length
  | [], _ => Nat.zero_le _
  | _ :: _, [] => Nat.le_refl _
  | e :: es, v :: vs => by
    have ih := visG_len (seen := seen) es vs
    rw [visG]
    split
    · simp only [List.length_cons]; omega
    · simp only [List.length_cons]; omega
end Go.Proofs.YtfnjoceolcdeoaaGreatDoor
namespace Go.Proofs.YtfnjoceolcdeoaaGreatDoor
set_option linter.unusedVariables false
open Go.RowKit Go.Sort Go.Shelf

theorem flatK_list {α : Type} [Inhabited α] {enc : α → List Value} {k : Nat} (hk : ∀ x, (enc x).length = k) (l : List α) : (flatK enc k l.toArray).toList = l.flatMap enc := by
  apply List.ext_getElem?
  intro t
  have hfl : (l.flatMap enc).length = l.length * k := flat_len hk l
  by_cases ht : t < l.length * k
  · have k0 : 0 < k := by rcases Nat.eq_zero_or_pos k with h | h; · subst h; simp at ht
                          · exact h
    have hi : t / k < l.length := (Nat.div_lt_iff_lt_mul k0).2 ht
    have hj : t % k < k := Nat.mod_lt _ k0
    have h1 := flat_get hk l (t / k) (t % k) l[t / k] (List.getElem?_eq_getElem hi) hj
    rw [show t / k * k + t % k = t by rw [Nat.mul_comm]; exact Nat.div_add_mod t k] at h1
    rw [h1]
    have h2 : (flatK enc k l.toArray).toList.length = l.length * k := by simp
    rw [List.getElem?_eq_getElem (by rw [h2]; exact ht), List.getElem?_eq_getElem (by rw [hk]; exact hj)]
    have h3 := get_flatK enc k l.toArray t (by simpa using ht)
    rw [getElem!_pos _ t (by simpa using ht)] at h3
    simp only [Array.getElem_toList]
    rw [h3]
    simp [getElem!_pos, hi, hk, hj]
  · rw [List.getElem?_eq_none (show (flatK enc k l.toArray).toList.length ≤ t by simp; omega), List.getElem?_eq_none (show (l.flatMap enc).length ≤ t by rw [hfl]; omega)]

section
variable {W : World} {blk m n cap : Nat} {cur : Array Value} {e : TypeId} {d : Array Value} {os : Array Obj}
theorem swv_block (h : W.heap[blk]? = some (.cells cur e (0, 0))) : (sortWorld id W blk 0 m d os).heap[blk]? = some (.cells (putCells id 0 d cur) e (0, 0)) := by
  have hlt : blk < W.heap.size := lt_of_heap h
  unfold sortWorld
  rw [heap_grow_old _ _ (by unfold putRow mapBlock; rw [Array.size_modify]; exact hlt)]
  unfold putRow mapBlock
  show (W.heap.modify blk _)[blk]? = _
  rw [Array.getElem?_modify, if_pos rfl, h]
  rfl
theorem swv_kept : Kept (fun i => i = blk) W (sortWorld id W blk 0 m d os) := by
  have hsz : (putRow id (Go.Sort.ahead W m) blk 0 d).heap.size = W.heap.size := by unfold putRow mapBlock; rw [Array.size_modify]; rfl
  refine ⟨rfl, rfl, rfl, by unfold sortWorld; rw [size_grow, hsz]; exact Nat.le_add_right _ _, fun k hk hn => ?_⟩
  unfold sortWorld
  rw [heap_grow_old _ _ (by rw [hsz]; exact hk)]
  unfold putRow mapBlock
  show (W.heap.modify blk _)[k]? = _
  rw [Array.getElem?_modify, if_neg (fun e => hn e.symm)]
end
end Go.Proofs.YtfnjoceolcdeoaaGreatDoor

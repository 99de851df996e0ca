/- An argument that is a slice, opened: its elements as a list, each read by the caller's own reading. No program is named. -/
import Derived.Test.YtjkmgpmknadhjaaGreatFlat
import Derived.Deep.Slices
import Derived.WideShapes
namespace Go.Proofs.YtjkmgpmknadhjaaGreat
set_option linter.unusedVariables false
open Go.ChangeShapes Go.WideShapes Go.Deep Go.RowKit

theorem list_of {α : Type} {n : Nat} {R : Nat → α → Prop} (h : ∀ i, i < n → ∃ a, R i a) : ∃ l : List α, l.length = n ∧ ∀ i a, l[i]? = some a → R i a := by
  induction n with
  | zero => exact ⟨[], rfl, by simp⟩
  | succ n ih =>
    obtain ⟨l, hl, hr⟩ := ih fun i hi => h i (by omega)
    obtain ⟨a, ha⟩ := h n (by omega)
    refine ⟨l ++ [a], by simp [hl], fun i b hb => ?_⟩
    by_cases hi : i < l.length
    · rw [List.getElem?_append_left hi] at hb; exact hr i b hb
    · have : i = n := by
        have := (List.getElem?_eq_some_iff.1 hb).1
        simp at this; omega
      subst this
      rw [List.getElem?_append_right (by omega), hl, Nat.sub_self] at hb
      simp at hb; subst hb; exact ha

theorem flat_of {α : Type} {f : α → List Value} {k : Nat} (hf : ∀ a, (f a).length = k) (hk : 0 < k) {l : List α} {P : Nat → Value → Prop} (h : ∀ i a j u, l[i]? = some a → (f a)[j]? = some u → P (i * k + j) u) : ∀ j u, (l.flatMap f)[j]? = some u → P j u := by
  induction l generalizing P with
  | nil => intro j u h; simp at h
  | cons a t ih =>
    intro j u hu
    rw [List.flatMap_cons] at hu
    by_cases hj : j < k
    · rw [List.getElem?_append_left (by rw [hf]; exact hj)] at hu
      have := h 0 a j u rfl hu
      simpa using this
    · rw [List.getElem?_append_right (by rw [hf]; omega), hf] at hu
      have := ih (P := fun j u => P (k + j) u) (fun i b j' u' hb hu' => by
        have := h (i + 1) b j' u' (by simpa using hb) hu'
        rw [Nat.add_mul, Nat.one_mul, Nat.add_assoc, Nat.add_comm, Nat.add_assoc] at this
        rw [show k + (i * k + j') = j' + (k + i * k) by omega]
        rw [show k + (j' + i * k) = j' + (k + i * k) by omega] at this
        exact this) (j - k) u hu
      simpa [show k + (j - k) = j by omega] using this

section
variable {H : Type} {enc : TypeId × Value → H} {P : Program} {W : World}
theorem open_lo {t e : TypeId} {k : Nat} (ht : P.underlying t = some (.slice e)) (hC : P.cellsOf e = k) (hk : 0 < k) {v : Value} {d : DataW H} {p : List MemPlace} {r : Reach} {base : Nat} (hval : Value.okWide P W r base t v)
    (h : DataW.Trod enc P W 0 (fun _ => true) true t v d p) {α : Type} (f : α → List Value) (hf : ∀ a, (f a).length = k)
    (hread : ∀ cs n y, cs.length = k → DataW.trod enc P W 0 (fun _ => true) true n e cs = some y → ∃ a, cs = f a) :
    ∃ l : List α, Lo W W.heap.size k v l.length (l.flatMap f) := by
  obtain ⟨a0, len0, cap0, rfl⟩ := okWide_slice ht hval
  obtain ⟨fuel, hfu⟩ := h
  rcases open_slice ht hfu with ⟨hcs, _⟩ | ⟨a, len, cap, m, n, D, Pl, hcs, _, hl, hm, hmm, _, hi⟩
  · have : Value.slice a0 len0 cap0 = .slice none 0 0 := by simpa [Value.cells] using hcs
    rw [this]
    exact ⟨[], SlK.nil _ _ _⟩
  · have hv : Value.slice a0 len0 cap0 = .slice (some a) len cap := by simpa [Value.cells] using hcs
    rw [hv]
    simp only [if_true] at hmm
    obtain rfl := hmm.symm
    by_cases hc0 : cap = 0
    · subst hc0
      obtain rfl : len = 0 := by omega
      exact ⟨[], by simp, _, _, rfl, Nat.le_refl _, Nat.zero_le _, .inl ⟨rfl, rfl⟩⟩
    · have hel : ∀ i, i < len → ∃ x, W.cells? 0 (a.add (i * k)) k = some (f x) := fun i hi' => by
        obtain ⟨cs', h1, h2⟩ := hi i (by omega)
        rw [hC] at h1
        obtain ⟨_, hlen, _⟩ := World.cells?_some h1
        obtain ⟨x, rfl⟩ := hread cs' _ _ hlen h2
        exact ⟨x, h1⟩
      obtain ⟨l, hll, hlr⟩ := list_of hel
      -- the block is read at its first cell
      obtain ⟨cs0, h0, _⟩ := hi 0 (by omega)
      rw [hC, Nat.zero_mul] at h0
      obtain ⟨_, hlen0, hat0⟩ := World.cells?_some h0
      have hc := hat0 0 hk
      have hadd : (a.add 0).add 0 = a := by simp [Addr.add]
      rw [hadd, List.getElem?_eq_getElem (by omega)] at hc
      have hsp : a.spot = none := by
        unfold World.cell? at hc
        split at hc
        · split at hc
          · cases hc
          · rename_i hs; simpa using hs
        · cases hc
      have hblk : ∃ cs e' fz, W.heap[a.block]? = some (.cells cs e' fz) := by
        unfold World.cell? at hc
        split at hc
        · rename_i cs e' fz hh; exact ⟨cs, e', fz, hh⟩
        · cases hc
      obtain ⟨cs, e', fz, hh⟩ := hblk
      obtain ⟨g, off, sp⟩ := a
      simp only at hsp hh
      subst hsp
      refine ⟨l, flat_len hf l, _, _, by rw [hll], by rw [hll]; exact hl, hm, .inr ⟨g, off, cs, e', fz, rfl, hh, lt_of_heap hh, ?_⟩⟩
      refine flat_of hf hk fun i x j u hx hu => ?_
      obtain ⟨_, _, hat⟩ := World.cells?_some (hlr i x hx)
      have hj : j < k := by have := (List.getElem?_eq_some_iff.1 hu).1; rw [hf] at this; exact this
      have := hat j hj
      rw [hu, Addr.add_lit, Addr.add_lit, cell_of_row W g _ cs e' fz hh, Nat.add_assoc] at this
      exact this
end
end Go.Proofs.YtjkmgpmknadhjaaGreat

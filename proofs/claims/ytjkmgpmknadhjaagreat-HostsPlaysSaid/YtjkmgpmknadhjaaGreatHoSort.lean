/- hosts: slices.Sort at texts. -/
import Derived.Test.YtjkmgpmknadhjaaGreatHoTidy
namespace Go.Proofs.YtjkmgpmknadhjaaGreat
set_option linter.unusedVariables false
open Go.RowKit Go.Sort Go.Shelf

def bytesOf (a : ByteArray) : List UInt8 := a.data.toList
theorem bytes_eq (a : ByteArray) : a.toList = bytesOf a := ByteArray.toList_eq a
theorem enc_bytes (a : ByteArray) : encStr (bytesOf a) = Value.string a := by
  cases a with
  | mk d => simp [encStr, bytesOf]
def ofBytes (l : List UInt8) : ByteArray := ⟨l.toArray⟩
theorem of_bytes (a : ByteArray) : ofBytes (bytesOf a) = a := by
  cases a with
  | mk d => simp [ofBytes, bytesOf]
theorem bytes_of (l : List UInt8) : bytesOf (ofBytes l) = l := by simp [ofBytes, bytesOf]
def sortN (xs : List ByteArray) : List ByteArray := ((xs.map bytesOf).mergeSort fun x y => decide (x ≤ y)).map ofBytes
theorem sortN_perm (xs : List ByteArray) : (sortN xs).Perm xs := by
  have h := (List.mergeSort_perm (xs.map bytesOf) fun x y => decide (x ≤ y)).map ofBytes
  rw [List.map_map] at h
  have e : (ofBytes ∘ bytesOf) = id := by funext a; exact of_bytes a
  rw [e, List.map_id] at h
  exact h
theorem sortN_sorted (xs : List ByteArray) : (sortN xs).Pairwise fun a b => ¬ nlt b a := by
  have h := List.pairwise_mergeSort (le := fun x y : List UInt8 => decide (x ≤ y)) (fun a b c h1 h2 => by
    simp only [decide_eq_true_eq] at *; exact List.le_trans h1 h2) (fun a b => by
    simp only [Bool.or_eq_true, decide_eq_true_eq]; exact List.le_total a b) (xs.map bytesOf)
  unfold sortN
  rw [List.pairwise_map]
  refine h.imp fun {a b} hab => ?_
  unfold nlt
  rw [bytes_eq, bytes_eq, bytes_of, bytes_of]
  have : a ≤ b := by simpa using hab
  exact List.not_lt.2 this
/-- What is sorted, and of the same texts, each once, is that. -/
theorem sortN_eq {xs S : List ByteArray} (hS : S.Pairwise nlt) (hn : xs.Nodup) (hm : ∀ x, x ∈ xs ↔ x ∈ S) : sortN xs = S := by
  have hp : (sortN xs).Pairwise nlt := by
    have hnd : (sortN xs).Nodup := (sortN_perm xs).nodup_iff.2 hn
    refine List.Pairwise.imp₂ ?_ (sortN_sorted xs) hnd
    intro a b h1 h2
    exact Classical.byContradiction fun h3 => h2 (nlt_tri h3 h1)
  exact names_ext hp hS fun x => ((sortN_perm xs).mem_iff).trans (hm x)
theorem SSort_at {W : World} {n₀ : Nat} {v : Value} {xs : List ByteArray} (hown : W.ownsRow n₀ 9 1 v xs.length (xs.map Value.string)) (hlen : xs.length ≤ 1000000) :
    Calls Tryz.prog 23 #[v] W fun e w' => e = .returned (.tuple #[]) ∧ w'.ownsRow n₀ 9 1 v xs.length ((sortN xs).map Value.string) ∧ Kept (fun i => v.ownBlock = some i) W w' := by
  have hmap : xs.map Value.string = (xs.map bytesOf).map encStr := by rw [List.map_map]; exact List.map_congr_left fun a _ => (enc_bytes a).symm
  obtain ⟨hl, hown⟩ := hown
  rcases hown with ⟨rfl, h0⟩ | ⟨g', cap, cur, rfl, hb, hh, hnc, hm, hcs, hx⟩
  · have : xs = [] := List.eq_nil_of_length_eq_zero h0
    subst this
    refine Calls.mono (AnyM.slices_Sort_string_none Tryz.sortS none 0 W) ?_
    rintro e w' ⟨rfl, rfl⟩
    exact ⟨rfl, by simpa [sortN] using World.ownsRow_nil _ _ _ _, Kept.refl _ _⟩
  · rw [hmap] at hx
    have hll : (xs.map bytesOf).length = xs.length := List.length_map ..
    have hH : Holds encStr W g' 0 (xs.map bytesOf).toArray := holds_own hh (by rw [hll]; exact hx)
    have hc := AnyM.slices_Sort_string Tryz.sortS g' 0 cap (xs.map bytesOf) W hH (lt_of_heap hh) (by omega)
    rw [hll] at hc
    refine Calls.mono hc ?_
    rintro e w' ⟨rfl, m, os, rfl⟩
    have hml : ((xs.map bytesOf).mergeSort fun x y => decide (x ≤ y)).length = xs.length := by rw [List.length_mergeSort, hll]
    have hbk := rw_block (enc := encStr) (m := m) (d := ((xs.map bytesOf).mergeSort fun x y => decide (x ≤ y)).toArray) (os := os) hh
    have hres : (sortN xs).map Value.string = ((xs.map bytesOf).mergeSort fun x y => decide (x ≤ y)).map encStr := by
      unfold sortN
      rw [List.map_map]
      refine List.map_congr_left fun a _ => ?_
      show Value.string (ofBytes a) = encStr a
      rw [← enc_bytes, bytes_of]
    refine ⟨rfl, ⟨by rw [hres, List.length_map, hml, Nat.mul_one], .inr ⟨g', cap, _, rfl, hb, hbk, hnc, hm, by rw [put_size]; exact hcs, ?_⟩⟩, (rw_kept (enc := encStr) (W := W) (blk := g')).mono fun i _ e => by simp [Value.ownBlock, e]⟩
    have := put_take (enc := encStr) (cur := cur) (l := (xs.map bytesOf).mergeSort fun x y => decide (x ≤ y)) (by rw [hml]; omega)
    rw [hml] at this
    rw [Nat.mul_one, hres]
    exact this
end Go.Proofs.YtjkmgpmknadhjaaGreat

/- Places of a ring (a token and a host): how a slice of them reads; what the ring's closures say. -/
import Derived.Test.YtjkmgpmknadhjaaGreatOwn
import Derived.Test.YtjkmgpmknadhjaaGreatFlat
import Derived.Test.YtjkmgpmknadhjaaGreatProg
import Derived.Shelf.SlSortCmp.KitK
import Derived.Shelf.SlicesQ.IndexFunc
namespace Go.Proofs.YtjkmgpmknadhjaaGreat
set_option linter.unusedVariables false
open Go.RowKit

section
variable {w w' : World} {base : Nat} {e : TypeId} {sz k n : Nat} {v v' : Value} {xs ys : List Value}
theorem Blk.appended {g : Nat} {t : TypeId} {cs : Array Value} (hb : Blk w g t cs) (h : Appended w w' base e sz v v' k xs) (ho : w.ownsRow base e sz v n ys) (hne : e ≠ t) : Blk w' g t cs :=
  hb.kept h.kept fun hg => by
    obtain ⟨_, cs', hh⟩ := own_type ho hg
    exact Blk.ne_ (t := e) hh hb hne rfl
theorem Appended.below {S : Nat → Prop} (h : Appended w w' base e sz v v' k xs) (ho : w.ownsRow base e sz v n ys) {w0 : World} (hk : Kept S w0 w) (hb : w0.heap.size ≤ base) : Kept S w0 w' :=
  hk.trans h.kept fun i hi hv => by have := (own_type ho hv).1; omega
theorem Appended.keptNil {xs : List Value} (h : Appended w w' base e sz (.slice none 0 0) v' k xs) : Kept noBlock w w' := h.kept.mono fun i hi e => by simp [Value.ownBlock] at e
theorem Sl.made_at {g : Nat} {cs : Array Value} (hb : Blk w g e cs) (l : List Value) (hl : cs.toList = l) (hn : cs.size = n * sz) (hm : n ≤ maxLen) : Sl w e sz (.slice (some ⟨g, 0, none⟩) n n) n l := hl ▸ Sl.made hb hn hm
/-- What was there ahead of an own row is kept behind an append to it. -/
theorem SlK.appended {B : Nat} {sz' n' : Nat} {u : Value} {zs : List Value} (hs : Lo w B sz' u n' zs) (h : Appended w w' base e sz v v' k xs) (ho : w.ownsRow base e sz v n ys) (hB : B ≤ base) : Lo w' B sz' u n' zs :=
  Lo.kept hs h.kept fun g hg hv => by have := (own_type ho hv).1; omega
theorem own_pos (h : w.ownsRow base e sz v n xs) (hn : 0 < n) : ∃ g cap, v = .slice (some ⟨g, 0, none⟩) n cap := by
  rcases h.2 with ⟨_, h0⟩ | ⟨g, cap, _, rfl, _⟩
  · omega
  · exact ⟨g, cap, rfl⟩
end

def noStr : ByteArray := ⟨#[]⟩
instance decStr : DecidableEq ByteArray := fun a b => if h : a.data = b.data then isTrue (by cases a; cases b; cases h; rfl) else isFalse fun e => h (by rw [e])
abbrev Pl := Int × ByteArray
def pC (p : Pl) : List Value := [.int .i64 p.1, .string p.2]
theorem pC_len (l : List Pl) : (l.flatMap pC).length = l.length * 2 := flat_len (k := 2) (fun _ => rfl) l
theorem pC_one {l : List Pl} {u : Value} (hu : u ∈ l.flatMap pC) : u.oneCell' = true := by
  obtain ⟨a, _, h⟩ := List.mem_flatMap.1 hu
  simp only [pC, List.mem_cons, List.not_mem_nil, or_false] at h
  rcases h with rfl | rfl <;> rfl
theorem psT : SlT Tryz.prog 43 54 (.agg #[.int .i64 0, .string noStr]) 2 24 := ⟨Tryz.underlying43, by kernel_rfl, rfl, by decide, by decide⟩
theorem strsT : SlT Tryz.prog 36 9 (.string noStr) 1 16 := ⟨Tryz.underlying36, by kernel_rfl, rfl, by decide, by decide⟩
theorem p_at {w : World} {ok : Nat → TypeId → Prop} {v : Value} {L : List Pl} {n : Nat} (h : SlK w ok 2 v n (L.flatMap pC)) {t e : TypeId} {z : Value} (T : SlT Tryz.prog t e z 2 24) {i : Nat} {p : Pl} (hi : L[i]? = some p) :
    ∃ g off, (∀ kd w', (Instr.indexAt t v (.int kd (i : Int))).run Tryz.prog w' = .ok (.pointer (some ⟨g, off, none⟩)) w') ∧ g < w.heap.size ∧ w.cell? ⟨g, off, none⟩ = some (.int .i64 p.1) ∧ w.cell? ⟨g, off + 1, none⟩ = some (.string p.2) := by
  have hlt : i < n := by
    have h1 := (List.getElem?_eq_some_iff.1 hi).1
    have h2 := h.len
    rw [pC_len] at h2
    omega
  obtain ⟨g, off, h1, h2, h4, h3⟩ := h.run_index T (i := (i : Int)) (k := i) rfl hlt
  refine ⟨g, off, h1, h2, h3 0 _ ?_, h3 1 _ ?_⟩
  · rw [flat_get (k := 2) (fun _ => rfl) L i 0 p hi (by decide)]; rfl
  · rw [flat_get (k := 2) (fun _ => rfl) L i 1 p hi (by decide)]; rfl
theorem str_at {w : World} {ok : Nat → TypeId → Prop} {v : Value} {L : List ByteArray} {n : Nat} (h : SlK w ok 1 v n (L.map Value.string)) {i : Nat} {s : ByteArray} (hi : L[i]? = some s) :
    ∃ g off, (∀ kd w', (Instr.indexAt 36 v (.int kd (i : Int))).run Tryz.prog w' = .ok (.pointer (some ⟨g, off, none⟩)) w') ∧ g < w.heap.size ∧ w.cell? ⟨g, off, none⟩ = some (.string s) := by
  have hlt : i < n := by
    have h1 := (List.getElem?_eq_some_iff.1 hi).1
    have h2 := h.len
    rw [List.length_map] at h2
    omega
  obtain ⟨g, off, h1, h2, h4, h3⟩ := h.run_index strsT (i := (i : Int)) (k := i) rfl hlt
  exact ⟨g, off, h1, h2, h3 0 _ (by rw [Nat.mul_one, Nat.add_zero, List.getElem?_map, hi]; rfl)⟩

def cmpZ (a b : Int) : Int := if a < b then -1 else if b < a then 1 else 0
theorem nan64_at (a : Int) (w : World) : Calls Tryz.prog 64 #[.int .i64 a] w fun e w' => e = .returned (.bool false) ∧ w' = w := by
  go_enter Tryz.func64, Tryz.ntmps64
  go_wp2
  go_ret
  exact ⟨rfl, rfl⟩
theorem cmp64_at (a b : Int) (w : World) : Calls Tryz.prog 40 #[.int .i64 a, .int .i64 b] w fun e w' => e = .returned (.int .i64 (cmpZ a b)) ∧ w' = w := by
  by_cases h1 : a < b
  · have hz : cmpZ a b = -1 := by unfold cmpZ; rw [if_pos h1]
    rw [hz]
    clear hz
    go_enter Tryz.func40, Tryz.ntmps40
    go_wp2_with (go_at_call 64; refine (nan64_at _ _).mono ?_; rintro e w' ⟨rfl, rfl⟩)
    go_ret
    exact ⟨rfl, rfl⟩
  · by_cases h2 : b < a
    · have hz : cmpZ a b = 1 := by unfold cmpZ; rw [if_neg h1, if_pos h2]
      rw [hz]
      clear hz
      go_enter Tryz.func40, Tryz.ntmps40
      go_wp2_with (go_at_call 64; refine (nan64_at _ _).mono ?_; rintro e w' ⟨rfl, rfl⟩)
      go_ret
      exact ⟨rfl, rfl⟩
    · have hz : cmpZ a b = 0 := by unfold cmpZ; rw [if_neg h1, if_neg h2]
      rw [hz]
      clear hz
      go_enter Tryz.func40, Tryz.ntmps40
      go_wp2_with (go_at_call 64; refine (nan64_at _ _).mono ?_; rintro e w' ⟨rfl, rfl⟩)
      go_ret
      exact ⟨rfl, rfl⟩

/-- Worlds that have only drawn, and grown. -/
def Grew (w w' : World) : Prop := ∃ q os, w' = Go.Sort.grow (w.drewN q) os
theorem Grew.refl (w : World) : Grew w w := ⟨0, #[], by rw [Go.Sort.grow_empty]; rfl⟩
theorem Grew.drew {w w' : World} (h : Grew w w') : Grew w w'.drew := by
  obtain ⟨q, os, rfl⟩ := h
  exact ⟨q + 1, os, rfl⟩
theorem Grew.alloc {w w' : World} (h : Grew w w') (o : Obj) : Grew w (w'.alloc o) := by
  obtain ⟨q, os, rfl⟩ := h
  exact ⟨q, os ++ #[o], by rw [Go.Sort.alloc_eq_grow, Go.Sort.grow_grow]⟩
theorem Grew.kept {w w' : World} (h : Grew w w') : Kept noBlock w w' := by
  obtain ⟨q, os, rfl⟩ := h
  exact ⟨rfl, rfl, rfl, by rw [Go.Sort.size_grow]; exact Nat.le_add_right _ _, fun k hk _ => Go.Sort.heap_grow_old _ _ hk⟩
theorem Rnew1_at (a b : Pl) (w : World) : Calls Tryz.prog 39 #[.agg (pC a).toArray, .agg (pC b).toArray] w fun e w' => e = .returned (.int .i64 (cmpZ a.1 b.1)) ∧ Grew w w' := by
  obtain ⟨a1, a2⟩ := a
  obtain ⟨b1, b2⟩ := b
  unfold pC
  go_enter Tryz.func39, Tryz.ntmps39
  go_wp2_with (go_at_call 40; refine (cmp64_at _ _ _).mono ?_; rintro e w' ⟨rfl, rfl⟩)
  go_ret
  exact ⟨rfl, ((Grew.refl _).alloc _).alloc _⟩
theorem Rat1_at (a : Pl) (t : Int) (w : World) : Calls Tryz.prog 50 #[.agg (pC a).toArray, .int .i64 t] w fun e w' => e = .returned (.int .i64 (cmpZ a.1 t)) ∧ Grew w w' := by
  obtain ⟨a1, a2⟩ := a
  unfold pC
  go_enter Tryz.func50, Tryz.ntmps50
  go_wp2_with (go_at_call 40; refine (cmp64_at _ _ _).mono ?_; rintro e w' ⟨rfl, rfl⟩)
  go_ret
  exact ⟨rfl, (Grew.refl _).alloc _⟩
theorem Rnew2_at (a : Pl) (w : World) : Calls Tryz.prog 42 #[.agg (pC a).toArray] w fun e w' => e = .returned (.bool a.2.toList.isEmpty) ∧ Grew w w' := by
  obtain ⟨a1, a2⟩ := a
  unfold pC
  go_enter Tryz.func42, Tryz.ntmps42
  go_wp2
  go_ret
  exact ⟨rfl, (Grew.refl _).alloc _⟩
theorem Rnew3_at (a b : Pl) (w : World) : Calls Tryz.prog 43 #[.agg (pC a).toArray, .agg (pC b).toArray] w fun e w' => e = .returned (.bool (a.1 == b.1)) ∧ Grew w w' := by
  obtain ⟨a1, a2⟩ := a
  obtain ⟨b1, b2⟩ := b
  unfold pC
  go_enter Tryz.func43, Tryz.ntmps43
  go_wp2
  go_ret
  exact ⟨rfl, ((Grew.refl _).alloc _).alloc _⟩
end Go.Proofs.YtjkmgpmknadhjaaGreat

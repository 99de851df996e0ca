/- Words on rows and worlds that all walks share: an append below, texts, pairs; worlds that have only drawn, and grown · Several rows of one's own: an append to one leaves the others as they are · octets.Put: a number in so many bytes · slices.Contains of bytes. -/
import Derived.Test.YtfnjoceolcdeoaaGreatDoorMr03
import Derived.Test.YtfnjoceolcdeoaaGreatDoorProg
import Derived.Shelf.SlSortCmp.KitK
import Derived.Shelf.SlicesQ.IndexFunc
import Derived.Test.YtfnjoceolcdeoaaGreatDoorMr01
import Derived.Deep.LoopGhost
import Derived.Lib.UnsafeStr
namespace Go.Proofs.YtfnjoceolcdeoaaGreatDoor
set_option linter.unusedVariables false
open Go.RowKit

section
variable {w w' : World} {base : Nat} {e : TypeId} {sz k n : Nat} {v v' : Value} {xs ys : List Value}
theorem Blk.appended {g : Nat} {t : TypeId} {cs : Array Value} (hb : Blk w g t cs) (h : Appended w w' base e sz v v' k xs) (ho : w.ownsRow base e sz v n ys) (hne : e ≠ t) : Blk w' g t cs :=
  hb.kept h.kept fun hg => by
    obtain ⟨_, cs', hh⟩ := own_type ho hg
    exact Blk.ne_ (t := e) hh hb hne rfl
theorem Appended.below {S : Nat → Prop} (h : Appended w w' base e sz v v' k xs) (ho : w.ownsRow base e sz v n ys) {w0 : World} (hk : Kept S w0 w) (hb : w0.heap.size ≤ base) : Kept S w0 w' :=
  hk.trans h.kept fun i hi hv => by have := (own_type ho hv).1; omega
theorem Appended.keptNil {xs : List Value} (h : Appended w w' base e sz (.slice none 0 0) v' k xs) : Kept noBlock w w' := h.kept.mono fun i hi e => by simp [Value.ownBlock] at e
theorem Sl.made_at {g : Nat} {cs : Array Value} (hb : Blk w g e cs) (l : List Value) (hl : cs.toList = l) (hn : cs.size = n * sz) (hm : n ≤ maxLen) : Sl w e sz (.slice (some ⟨g, 0, none⟩) n n) n l := hl ▸ Sl.made hb hn hm
/-- What was there ahead of an own row is kept behind an append to it. -/
theorem SlK.appended {B : Nat} {sz' n' : Nat} {u : Value} {zs : List Value} (hs : Lo w B sz' u n' zs) (h : Appended w w' base e sz v v' k xs) (ho : w.ownsRow base e sz v n ys) (hB : B ≤ base) : Lo w' B sz' u n' zs :=
  Lo.kept hs h.kept fun g hg hv => by have := (own_type ho hv).1; omega
theorem own_pos (h : w.ownsRow base e sz v n xs) (hn : 0 < n) : ∃ g cap, v = .slice (some ⟨g, 0, none⟩) n cap := by
  rcases h.2 with ⟨_, h0⟩ | ⟨g, cap, _, rfl, _⟩
  · omega
  · exact ⟨g, cap, rfl⟩
end

def noStr : ByteArray := ⟨#[]⟩
instance decStr : DecidableEq ByteArray := fun a b => if h : a.data = b.data then isTrue (by cases a; cases b; cases h; rfl) else isFalse fun e => h (by rw [e])
abbrev Pl := Int × ByteArray
def pC (p : Pl) : List Value := [.int .i64 p.1, .string p.2]
theorem pC_len (l : List Pl) : (l.flatMap pC).length = l.length * 2 := flat_len (k := 2) (fun _ => rfl) l
theorem pC_one {l : List Pl} {u : Value} (hu : u ∈ l.flatMap pC) : u.oneCell' = true := by
  obtain ⟨a, _, h⟩ := List.mem_flatMap.1 hu
  simp only [pC, List.mem_cons, List.not_mem_nil, or_false] at h
  rcases h with rfl | rfl <;> rfl
theorem strsT : SlT Tryz.prog 31 9 (.string noStr) 1 16 := ⟨Tryz.underlying31, by kernel_rfl, rfl, by decide, by decide⟩
theorem p_at {w : World} {ok : Nat → TypeId → Prop} {v : Value} {L : List Pl} {n : Nat} (h : SlK w ok 2 v n (L.flatMap pC)) {t e : TypeId} {z : Value} (T : SlT Tryz.prog t e z 2 24) {i : Nat} {p : Pl} (hi : L[i]? = some p) :
    ∃ g off, (∀ kd w', (Instr.indexAt t v (.int kd (i : Int))).run Tryz.prog w' = .ok (.pointer (some ⟨g, off, none⟩)) w') ∧ g < w.heap.size ∧ w.cell? ⟨g, off, none⟩ = some (.int .i64 p.1) ∧ w.cell? ⟨g, off + 1, none⟩ = some (.string p.2) := by
  have hlt : i < n := by
    have h1 := (List.getElem?_eq_some_iff.1 hi).1
    have h2 := h.len
    rw [pC_len] at h2
    omega
  obtain ⟨g, off, h1, h2, h4, h3⟩ := h.run_index T (i := (i : Int)) (k := i) rfl hlt
  refine ⟨g, off, h1, h2, h3 0 _ ?_, h3 1 _ ?_⟩
  · rw [flat_get (k := 2) (fun _ => rfl) L i 0 p hi (by decide)]; rfl
  · rw [flat_get (k := 2) (fun _ => rfl) L i 1 p hi (by decide)]; rfl
theorem str_at {w : World} {ok : Nat → TypeId → Prop} {v : Value} {L : List ByteArray} {n : Nat} (h : SlK w ok 1 v n (L.map Value.string)) {i : Nat} {s : ByteArray} (hi : L[i]? = some s) :
    ∃ g off, (∀ kd w', (Instr.indexAt 31 v (.int kd (i : Int))).run Tryz.prog w' = .ok (.pointer (some ⟨g, off, none⟩)) w') ∧ g < w.heap.size ∧ w.cell? ⟨g, off, none⟩ = some (.string s) := by
  have hlt : i < n := by
    have h1 := (List.getElem?_eq_some_iff.1 hi).1
    have h2 := h.len
    rw [List.length_map] at h2
    omega
  obtain ⟨g, off, h1, h2, h4, h3⟩ := h.run_index strsT (i := (i : Int)) (k := i) rfl hlt
  exact ⟨g, off, h1, h2, h3 0 _ (by rw [Nat.mul_one, Nat.add_zero, List.getElem?_map, hi]; rfl)⟩

def cmpZ (a b : Int) : Int := if a < b then -1 else if b < a then 1 else 0
/-- Worlds that have only drawn, and grown. -/
def Grew (w w' : World) : Prop := ∃ q os, w' = Go.Sort.grow (w.drewN q) os
theorem Grew.refl (w : World) : Grew w w := ⟨0, #[], by rw [Go.Sort.grow_empty]; rfl⟩
theorem Grew.drew {w w' : World} (h : Grew w w') : Grew w w'.drew := by
  obtain ⟨q, os, rfl⟩ := h
  exact ⟨q + 1, os, rfl⟩
theorem Grew.alloc {w w' : World} (h : Grew w w') (o : Obj) : Grew w (w'.alloc o) := by
  obtain ⟨q, os, rfl⟩ := h
  exact ⟨q, os ++ #[o], by rw [Go.Sort.alloc_eq_grow, Go.Sort.grow_grow]⟩
theorem Grew.kept {w w' : World} (h : Grew w w') : Kept noBlock w w' := by
  obtain ⟨q, os, rfl⟩ := h
  exact ⟨rfl, rfl, rfl, by rw [Go.Sort.size_grow]; exact Nat.le_add_right _ _, fun k hk _ => Go.Sort.heap_grow_old _ _ hk⟩
theorem Grew.trans {a b c : World} (h : Grew a b) (k : Grew b c) : Grew a c := by
  obtain ⟨q, os, rfl⟩ := h
  obtain ⟨q', os', rfl⟩ := k
  exact ⟨q + q', os ++ os', by rw [← Go.Sort.grow_grow, ← World.drewN_drewN]; rfl⟩
def rising (S : List Pl) : Prop := S.Pairwise fun a b => a.1 < b.1
theorem rising_nodup {S : List Pl} (h : rising S) : (S.map (·.1)).Nodup := List.pairwise_map.2 (h.imp fun e => by omega)
end Go.Proofs.YtfnjoceolcdeoaaGreatDoor
namespace Go.Proofs.YtfnjoceolcdeoaaGreatDoor
set_option linter.unusedVariables false
open Go.RowKit

section
variable {w w' W : World} {base : Nat} {S : Nat → Prop}
theorem own_keptB {e : TypeId} {sz n : Nat} {v : Value} {xs : List Value} (h : w.ownsRow base e sz v n xs) (hk : Kept S w w') (hS : ∀ k, v.ownBlock = some k → ¬ S k) : w'.ownsRow base e sz v n xs := by
  obtain ⟨hl, h⟩ := h
  refine ⟨hl, ?_⟩
  rcases h with h | ⟨g, cap, cur, rfl, hb, hh, r⟩
  · exact .inl h
  · exact .inr ⟨g, cap, cur, rfl, hb, (hk.block g (lt_of_heap hh) (hS g rfl)).trans hh, r⟩
theorem own_lt {e : TypeId} {sz n : Nat} {v : Value} {xs : List Value} (h : w.ownsRow base e sz v n xs) {k : Nat} (hk : v.ownBlock = some k) : k < w.heap.size := by
  obtain ⟨_, cs, hh⟩ := own_type h hk
  exact lt_of_heap hh
structure Rw where
  e : TypeId
  sz : Nat
  v : Value
  n : Nat
  xs : List Value
/-- Rows of one's own that share no block. -/
def Fam (w : World) (base : Nat) (L : List Rw) : Prop :=
  (∀ (i : Nat) (r : Rw), L[i]? = some r → w.ownsRow base r.e r.sz r.v r.n r.xs) ∧ ∀ (i j : Nat) (a b : Rw), i ≠ j → L[i]? = some a → L[j]? = some b → ∀ k, a.v.ownBlock = some k → b.v.ownBlock ≠ some k
theorem Fam.nil : Fam w base [] := ⟨fun i r h => by simp at h, fun i j a b _ h => by simp at h⟩
/-- One more row, empty. -/
theorem Fam.more {L : List Rw} (h : Fam w base L) (e : TypeId) (sz : Nat) : Fam w base (L ++ [⟨e, sz, .slice none 0 0, 0, []⟩]) := by
  have key : ∀ i r, (L ++ [(⟨e, sz, .slice none 0 0, 0, []⟩ : Rw)])[i]? = some r → (i < L.length ∧ L[i]? = some r) ∨ (i = L.length ∧ r = ⟨e, sz, .slice none 0 0, 0, []⟩) := by
    intro i r hr
    by_cases hl : i < L.length
    · rw [List.getElem?_append_left hl] at hr; exact .inl ⟨hl, hr⟩
    · rw [List.getElem?_append_right (by omega)] at hr
      have h0 : i - L.length = 0 := by
        have := (List.getElem?_eq_some_iff.1 hr).1
        simp at this; omega
      rw [h0] at hr
      exact .inr ⟨by omega, (Option.some.inj hr).symm⟩
  refine ⟨fun i r hr => ?_, fun i j a b hij ha hb k hk => ?_⟩
  · rcases key i r hr with ⟨_, h1⟩ | ⟨_, rfl⟩
    · exact h.1 i r h1
    · exact World.ownsRow_nil _ _ _ _
  · rcases key i a ha with ⟨_, h1⟩ | ⟨_, rfl⟩
    · rcases key j b hb with ⟨_, h2⟩ | ⟨_, rfl⟩
      · exact h.2 i j a b hij h1 h2 k hk
      · simp [Value.ownBlock]
    · simp [Value.ownBlock] at hk
theorem Fam.get {L : List Rw} (h : Fam w base L) (i : Nat) {r : Rw} (hi : L[i]? = some r) : w.ownsRow base r.e r.sz r.v r.n r.xs := h.1 i r hi
theorem Fam.sl {L : List Rw} (h : Fam w base L) (i : Nat) {r : Rw} (hi : L[i]? = some r) : Sl w r.e r.sz r.v r.n r.xs := Sl.of_own (h.1 i r hi)
theorem Fam.kept {L : List Rw} (h : Fam w base L) (hk : Kept S w w') (hS : ∀ k, S k → k < base) : Fam w' base L :=
  ⟨fun i r hr => own_keptB (h.1 i r hr) hk fun k e hs => by have := (own_type (h.1 i r hr) e).1; have := hS k hs; omega, h.2⟩
theorem Fam.keptN {L : List Rw} (h : Fam w base L) (hk : Kept noBlock w w') : Fam w' base L := h.kept hk fun _ e => False.elim e
theorem Fam.app {L : List Rw} {r : Rw} {v' : Value} {n' : Nat} {xs' : List Value} (h : Fam w base L) (i : Nat) (hi : L[i]? = some r) (hk : Kept noBlock w W) (ha : Appended W w' base r.e r.sz r.v v' n' xs') : Fam w' base (L.set i { r with v := v', n := n', xs := xs' }) := by
  have hil := (List.getElem?_eq_some_iff.1 hi).1
  have hnew : ∀ k, v'.ownBlock = some k → r.v.ownBlock = some k ∨ k = W.heap.size := by
    intro k hk
    rcases ha.at_ with h1 | h1
    · rw [h1] at hk; exact .inl hk
    · rw [h1] at hk; exact .inr (Option.some.inj hk).symm
  have hap : ∀ j b, i ≠ j → L[j]? = some b → ∀ k, v'.ownBlock = some k → b.v.ownBlock ≠ some k := by
    intro j b hij hb k e e2
    rcases hnew k e with h1 | h1
    · exact h.2 i j r b hij hi hb k h1 e2
    · have := own_lt (h.1 j b hb) e2
      have := hk.size
      omega
  refine ⟨fun j b hj => ?_, fun j m a b hjm hj hm k e => ?_⟩
  · rw [List.getElem?_set] at hj
    by_cases e : i = j
    · rw [if_pos e, if_pos hil] at hj
      cases hj
      exact ha.own
    · rw [if_neg e] at hj
      exact own_keptB (own_keptB (h.1 j b hj) hk fun k _ e => e) ha.kept fun k e1 e2 => h.2 i j r b e hi hj k e2 e1
  · rw [List.getElem?_set] at hj hm
    by_cases e1 : i = j
    · rw [if_pos e1, if_pos hil] at hj
      cases hj
      rw [if_neg (fun e2 => hjm (e1.symm.trans e2))] at hm
      exact hap m b (fun e2 => hjm (e1.symm.trans e2)) hm k e
    · rw [if_neg e1] at hj
      by_cases e2 : i = m
      · rw [if_pos e2, if_pos hil] at hm
        cases hm
        intro e3
        exact hap j a e1 hj k e3 e
      · rw [if_neg e2] at hm
        exact h.2 j m a b hjm hj hm k e
end
end Go.Proofs.YtfnjoceolcdeoaaGreatDoor
namespace Go.Proofs.YtfnjoceolcdeoaaGreatDoor
set_option linter.unusedVariables false
open Go.RowKit

set_option maxHeartbeats 1000000 in
set_option maxRecDepth 100000 in
theorem oSizeP_at (n : Int) (h1 : 1 ≤ n) (h8 : n ≤ 8) (w : World) : Calls Tryz.prog 129 #[.int .i64 n] w fun e w' => e = .returned (.bool true) ∧ w' = w := by
  go_enter Tryz.func129, Tryz.ntmps129
  go_wp2
  go_ret
  exact ⟨rfl, rfl⟩

set_option maxHeartbeats 2000000 in
set_option maxRecDepth 100000 in
theorem oPut_at (x n : Nat) (hx : x < 18446744073709551616) (h1 : 1 ≤ n) (h8 : n ≤ 8) (w : World) :
    Calls Tryz.prog 111 #[.int .u64 x, .int .i64 n] w fun e w' => ∃ v', e = .returned v' ∧ w'.ownsRow w.heap.size 5 1 v' n (Lib.byteCells (putB x n)) ∧ Kept noBlock w w' := by
  obtain ⟨it, hi, hz, hsize, hby⟩ : ∃ it, Tryz.prog.info? 5 = some it ∧ it.zero = some (.int .u8 0) ∧ it.size = 1 ∧ it.bytes = 1 := by
    obtain ⟨it, h, hh⟩ := Option.map_eq_some_iff.1 (show (Tryz.prog.info? 5).map (fun i => (i.zero, i.size, i.bytes)) = some (some (.int .u8 0), 1, 1) by kernel_rfl)
    simp only [Prod.mk.injEq] at hh
    exact ⟨it, h, hh.1, hh.2.1, hh.2.2⟩
  go_enter Tryz.func111, Tryz.ntmps111
  go_wp2_with fail
  go_at_call 129
  refine (oSizeP_at (n : Int) (by omega) (by omega) w).mono ?_
  rintro e w0 ⟨rfl, hw0⟩
  subst hw0
  go_wp2_with (refine wpList_make_full w0 rfl (.tmp 10) (.tmp 10) 30 rfl w0.heap.size 5 it (.int .u8 0) 1 Tryz.underlying30 hi hz hsize .i64 .i64 (n : Int) (n : Int) n rfl rfl rfl rfl (by rw [hby]; omega) (by unfold maxLen; omega) (Nat.le_refl _) ?_)
  intro w1 hown hgr
  have hk1 : Kept noBlock w0 w1 := Kept.of_grown hgr fun k e => by cases e
  generalize hg : w0.heap.size = g at *
  have HK1 := Lib.hid hk1
  have hX : Hid (w1.ownsRow g 5 1 (.slice (some ⟨g, 0, none⟩) n n) n (List.replicate n (.int .u8 0))) := Lib.hid (by
    have : w1.ownsRow g 5 1 (.slice (some ⟨g, 0, none⟩) n n) n (madeCells #[.int .u8 0] n).toList := by simpa using hown
    rw [toList_madeCells_one] at this
    exact this)
  clear hown hgr hk1
  go_wp2_with fail
  go_loopg [13] n (fun j vi wr => ∃ (i : Nat) (X : List Value), i + j = n ∧ vi = .int .i64 i ∧ wr.ownsRow g 5 1 (.slice (some ⟨g, 0, none⟩) n n) n X ∧ (∀ q, q < i → X[n - 1 - q]? = some (.int .u8 ((UInt8.ofNat (x / 256 ^ q)).toNat : Int))) ∧ Kept noBlock w0 wr)
  case atStart => exact ⟨0, _, by omega, rfl, hX.out, fun q hq => by omega, HK1.out⟩
  case round =>
    obtain ⟨i, X, hij, rfl, hown, hXq, hk⟩ := hrel
    have HIJ := Lib.hid hij
    have HO := Lib.hid hown
    have HXQ := Lib.hid hXq
    have HK := Lib.hid hk
    by_cases hlt : i < n
    · have hc := hown.cellAt (n - 1 - i) (by omega)
      obtain ⟨u, hu⟩ : ∃ u, X[n - 1 - i]? = some u := ⟨_, List.getElem?_eq_getElem (by have := hown.1; omega)⟩
      rw [hu] at hc
      have hf := hown.frozenAt (n - 1 - i)
      obtain ⟨v, hv⟩ : ∃ v : Int, v = ((UInt8.ofNat (x / 256 ^ i)).toNat : Int) := ⟨_, rfl⟩
      have hval : (x : Int) / 2 ^ (8 * i) % 256 = v := by
        rw [hv, UInt8.toNat_ofNat', show (256 : Nat) ^ i = 2 ^ (8 * i) by rw [Nat.pow_mul]]
        have : ((2 : Int) ^ (8 * i)) = ((2 ^ (8 * i) : Nat) : Int) := by rw [Int.natCast_pow]; rfl
        rw [this, ← Int.natCast_ediv]
        omega
      have hs := (hown.stored (n - 1 - i) (.int .u8 v)).1
      have FIN : Hid ((wr.setCell ⟨g, n - 1 - i, none⟩ (.int .u8 v)).ownsRow g 5 1 (.slice (some ⟨g, 0, none⟩) n n) n (X.set (n - 1 - i) (.int .u8 v)) ∧ (∀ q, q < i + 1 → (X.set (n - 1 - i) (.int .u8 v))[n - 1 - q]? = some (.int .u8 ((UInt8.ofNat (x / 256 ^ q)).toNat : Int))) ∧ Kept noBlock w0 (wr.setCell ⟨g, n - 1 - i, none⟩ (.int .u8 v))) := Lib.hid ⟨hs, fun q hq => by
        rw [List.getElem?_set]
        by_cases e : q = i
        · subst e
          rw [if_pos rfl, if_pos (by have := hown.1; omega), hv]
        · rw [if_neg (by omega)]
          exact hXq q (by omega), hk.setCell (p := ⟨g, n - 1 - i, none⟩) (fun h => absurd h (by simp only []; omega)) _⟩
      clear hij hown hXq hk hs hv hu
      go_wp2_with fail
      go_roundg (n - (i + 1))
      case measure => have := HIJ.out; omega
      case rel => exact ⟨i + 1, _, by have := HIJ.out; omega, by go_num, FIN.out.1, FIN.out.2.1, FIN.out.2.2⟩
    · obtain rfl : n = i := by omega
      have hfin : Hid (X = Lib.byteCells (putB x n)) := Lib.hid (by
        refine List.ext_getElem? fun j => ?_
        by_cases hj : j < n
        · have h2 := hXq (n - 1 - j) (by omega)
          rw [show n - 1 - (n - 1 - j) = j by omega] at h2
          have h3 := putB_at x n (n - 1 - j) (by omega)
          rw [show n - 1 - (n - 1 - j) = j by omega] at h3
          rw [h2]
          unfold Lib.byteCells
          rw [List.getElem?_map, h3]; rfl
        · have h2 := hown.1
          rw [List.getElem?_eq_none (by omega), List.getElem?_eq_none (by unfold Lib.byteCells; rw [List.length_map, putB_len]; omega)])
      clear hij hown hXq hk
      go_wp2
      go_ret
      rw [← hfin.out, hg]
      exact ⟨_, rfl, HO.out, HK.out⟩
end Go.Proofs.YtfnjoceolcdeoaaGreatDoor
namespace Go.Proofs.YtfnjoceolcdeoaaGreatDoor
set_option linter.unusedVariables false
open Go.RowKit

theorem byteCells_app (a b : List UInt8) : Lib.byteCells (a ++ b) = Lib.byteCells a ++ Lib.byteCells b := by unfold Lib.byteCells; rw [List.map_append]
theorem byteCells_one {l : List UInt8} {u : Value} (hu : u ∈ Lib.byteCells l) : u.oneCell' = true := by
  unfold Lib.byteCells at hu
  obtain ⟨x, -, rfl⟩ := List.mem_map.1 hu; rfl
theorem byteCells_length (l : List UInt8) : (Lib.byteCells l).length = l.length := by unfold Lib.byteCells; rw [List.length_map]
theorem bytesQT : SlT Tryz.prog 30 5 (.int .u8 0) 1 1 := ⟨Tryz.underlying30, by kernel_rfl, rfl, by decide, by decide⟩
set_option maxHeartbeats 1000000 in
set_option maxRecDepth 100000 in
theorem BIndex_at {w : World} {ok : Nat → TypeId → Prop} {A : Option Addr} {n c : Nat} {l : List UInt8} (h : SlK w ok 1 (.slice A n c) n (Lib.byteCells l)) (b : UInt8) :
    Calls Tryz.prog 137 #[.slice A n c, .int .u8 (b.toNat : Int)] w fun e w' => ∃ i : Int, e = .returned (.int .i64 i) ∧ (0 ≤ i ↔ b ∈ l) ∧ w' = w := by
  have hln : l.length = n := by have := h.len; unfold Lib.byteCells at this; rw [List.length_map, Nat.mul_one] at this; exact this
  have hlen := h.run_len bytesQT
  have hnm : n ≤ 9223372036854775807 := by obtain ⟨_, _, hv, h1, h2⟩ := h.shape; cases hv; unfold maxLen at h2; omega
  have H := Lib.hid h
  have HL := Lib.hid hln
  clear h hln
  go_enter Tryz.func137, Tryz.ntmps137
  go_wp2_with fail
  go_loopg [8] n (fun j vi wr => ∃ i : Nat, i + j = n ∧ vi = .int .i64 i ∧ (∀ q x, l[q]? = some x → q < i → x ≠ b) ∧ wr = w)
  case atStart => exact ⟨0, by omega, rfl, fun _ _ _ h => by omega, rfl⟩
  case round =>
    obtain ⟨i, hij, rfl, hno, rfl⟩ := hrel
    have HIJ := Lib.hid hij
    have HNO := Lib.hid hno
    by_cases hi : i < n
    · obtain ⟨x, hx⟩ : ∃ x, l[i]? = some x := ⟨_, List.getElem?_eq_getElem (by rw [HL.out]; exact hi)⟩
      obtain ⟨g, off, hidx, -, -, h3⟩ := H.out.run_index bytesQT (i := (i : Int)) (k := i) rfl hi
      have c0 : wr.cell? ⟨g, off, none⟩ = some (.int .u8 (x.toNat : Int)) := h3 0 _ (by rw [Nat.mul_one, Nat.add_zero]; unfold Lib.byteCells; rw [List.getElem?_map, hx]; rfl)
      have HX := Lib.hid hx
      clear hij hno h3 hx
      by_cases e : x = b
      · have hq : ((b.toNat : Int) == (x.toNat : Int)) = true := by rw [e]; exact beq_self_eq_true _
        have HM := Lib.hid (show b ∈ l from e ▸ List.mem_of_getElem? HX.out)
        clear e
        go_wp2
        go_ret
        exact ⟨_, rfl, ⟨fun _ => HM.out, fun _ => by omega⟩, rfl⟩
      · have hq : ((b.toNat : Int) == (x.toNat : Int)) = false := by
          rw [beq_eq_false_iff_ne]
          intro h
          exact e (UInt8.toNat_inj.1 (by omega)).symm
        have HE := Lib.hid e
        clear e
        go_wp2_with fail
        go_roundg (n - (i + 1))
        case measure => have := HIJ.out; omega
        case rel =>
          refine ⟨i + 1, by have := HIJ.out; omega, by go_num, fun q y hy hqk => ?_, rfl⟩
          by_cases he : q = i
          · subst he
            rw [HX.out] at hy
            cases hy
            exact HE.out
          · exact HNO.out q y hy (by omega)
    · obtain rfl : n = i := by omega
      have HM : Hid (¬ b ∈ l) := Lib.hid fun hm => by
        obtain ⟨q, hq⟩ := List.getElem?_of_mem hm
        exact HNO.out q b hq (by have := (List.getElem?_eq_some_iff.1 hq).1; have := HL.out; omega) rfl
      clear hij hno
      go_wp2
      go_ret
      exact ⟨_, rfl, ⟨fun h => by omega, fun h => absurd h HM.out⟩, rfl⟩
set_option maxHeartbeats 1000000 in
set_option maxRecDepth 100000 in
theorem BContains_at {w : World} {ok : Nat → TypeId → Prop} {A : Option Addr} {n c : Nat} {l : List UInt8} (h : SlK w ok 1 (.slice A n c) n (Lib.byteCells l)) (b : UInt8) :
    Calls Tryz.prog 105 #[.slice A n c, .int .u8 (b.toNat : Int)] w fun e w' => e = .returned (.bool (decide (b ∈ l))) ∧ w' = w := by
  have HI := Lib.hid (BIndex_at h b)
  clear h
  go_enter Tryz.func105, Tryz.ntmps105
  go_wp2_with fail
  go_at_call 137
  refine HI.out.mono ?_
  rintro e w1 ⟨i, rfl, him, hw⟩
  subst hw
  by_cases h0 : 0 ≤ i
  · have HD : Hid (decide (b ∈ l) = true) := Lib.hid (decide_eq_true (him.1 h0))
    clear him
    go_wp2
    go_ret
    rw [HD.out]
    exact ⟨rfl, rfl⟩
  · have HD : Hid (decide (b ∈ l) = false) := Lib.hid (decide_eq_false fun h => h0 (him.2 h))
    clear him
    have hdi : decide (0 ≤ i) = false := decide_eq_false h0
    go_wp2
    go_ret
    rw [HD.out]
    first
      | exact ⟨rfl, rfl⟩
      | exact ⟨by rw [← hdi]; rfl, rfl⟩
end Go.Proofs.YtfnjoceolcdeoaaGreatDoor

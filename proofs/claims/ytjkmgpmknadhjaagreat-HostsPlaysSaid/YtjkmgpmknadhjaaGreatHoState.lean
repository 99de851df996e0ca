/- hosts: the picture of a table in the heap: its block, its map, its hosts' token rows; what is the table's own. -/
import Derived.Test.YtjkmgpmknadhjaaGreatHoPure2
import Derived.Test.YtjkmgpmknadhjaaGreatFam
import Derived.Test.YtjkmgpmknadhjaaGreatMsb
import Derived.Test.YtjkmgpmknadhjaaGreatAget
namespace Go.Proofs.YtjkmgpmknadhjaaGreat
set_option linter.unusedVariables false
open Go.RowKit
open Go.ChangeMaps (setBlock)

/-- A host as the map holds it: its tokens' slice, and what it reads as. -/
structure HV where
  name : ByteArray
  dc : ByteArray
  rack : ByteArray
  ta : Option Addr
  tn : Nat
  tc : Nat
  toks : List Int
  up : Bool
def HV.tv (h : HV) : Value := .slice h.ta h.tn h.tc
def HV.abs (h : HV) : Ho := ⟨h.name, h.dc, h.rack, h.toks, h.up⟩
def hvV (h : HV) : Value := .agg #[.string h.name, .string h.dc, .string h.rack, .slice h.ta h.tn h.tc, .bool h.up]
def hvC (h : HV) : List Value := [.string h.name, .string h.dc, .string h.rack, .slice h.ta h.tn h.tc, .bool h.up]
theorem mshM : Tryz.prog.underlying 62 = some (.map 9 59) := by kernel_rfl
abbrev HoMap := KMap (β := HV) .string (fun s : ByteArray => Value.string s) hvV
theorem zero_host (w : World) : (zeroValue 59).run Tryz.prog w = .ok (.agg #[.string noStr, .string noStr, .string noStr, .slice none 0 0, .bool false]) w := Tryz.zeroValue59 w

/-- A table: g its block, m its map; own: the blocks that are its own. -/
structure TabAt (w : World) (own : Nat → Prop) (g m : Nat) (dc : ByteArray) (rem : Int) (L : List (ByteArray × HV)) : Prop where
  blk : Blk w g 64 #[.string dc, .int .i64 rem, .map (some m)]
  map : HoMap w m L
  nd : (L.map (·.1)).Nodup
  og : own g
  om : own m
  ot : ∀ p ∈ L, SlK w (fun k _ => own k ∧ k ≠ g ∧ k ≠ m) 1 p.2.tv p.2.tn (p.2.toks.map (Value.int .i64))
  nm : ∀ p ∈ L, p.2.name = p.1 ∧ p.1 ≠ noStr
  lt : ∀ k, own k → k < w.heap.size
section
variable {w w' : World} {own : Nat → Prop} {g m : Nat} {dc : ByteArray} {rem : Int} {L : List (ByteArray × HV)} {T : Nat → Prop}
theorem TabAt.kept (h : TabAt w own g m dc rem L) (hk : Kept T w w') (hT : ∀ k, own k → ¬ T k) : TabAt w' own g m dc rem L :=
  ⟨h.blk.kept hk (hT _ h.og), h.map.kept hk (hT _ h.om), h.nd, h.og, h.om, fun p hp => (h.ot p hp).keptAll hk fun k _ hk => hT k hk.1, h.nm, fun k hk' => Nat.lt_of_lt_of_le (h.lt k hk') hk.size⟩
theorem TabAt.keptN (h : TabAt w own g m dc rem L) (hk : Kept noBlock w w') : TabAt w' own g m dc rem L := h.kept hk fun _ _ e => e
/-- The table's hosts, by rising names. -/
def TabS (w : World) (own : Nat → Prop) (g : Nat) (dc : ByteArray) (rem : Int) (S : List Ho) : Prop :=
  ∃ m L, TabAt w own g m dc rem L ∧ risingH S ∧ ∀ x, (aget x L).map HV.abs = getS x S
theorem TabS.kept {S : List Ho} (h : TabS w own g dc rem S) (hk : Kept T w w') (hT : ∀ k, own k → ¬ T k) : TabS w' own g dc rem S := by
  obtain ⟨m, L, h1, h2⟩ := h
  exact ⟨m, L, h1.kept hk hT, h2⟩
/-- The map's hosts are the table's, in some order. -/
theorem tab_perm {S : List Ho} (hn : (L.map (·.1)).Nodup) (hm : ∀ p ∈ L, p.2.name = p.1 ∧ p.1 ≠ noStr) (hS : risingH S) (h : ∀ x, (aget x L).map HV.abs = getS x S) : (L.map fun p => p.2.abs).Perm S := by
  have hp : (L.map fun p => p.2.abs).Pairwise fun a b => a.name ≠ b.name := by
    rw [List.pairwise_map]
    have h1 := List.pairwise_map.1 hn
    refine List.Pairwise.imp_of_mem (fun {a b} ha hb hne e => ?_) h1
    have e1 : a.2.name = b.2.name := e
    rw [(hm a ha).1, (hm b hb).1] at e1
    exact hne e1
  refine perm_of_get hp (rising_ne hS) fun x => ?_
  rw [← h]
  cases hx : aget x L with
  | none =>
    refine getS_none.2 fun o ho => ?_
    obtain ⟨p, hpL, rfl⟩ := List.mem_map.1 ho
    have := aget_eq_none.1 hx p hpL
    show p.2.name ≠ x
    rw [(hm p hpL).1]; exact this
  | some v =>
    have hmem := aget_mem hx
    have h2 := getS_of_mem hp (List.mem_map.2 ⟨(x, v), hmem, rfl⟩)
    have h3 : (HV.abs v).name = x := (hm _ hmem).1
    have h4 : getS (HV.abs v).name (L.map fun p => p.2.abs) = some (HV.abs v) := h2
    rw [h3] at h4
    exact h4
theorem aput_nodup {β : Type} {x : ByteArray} {v : β} {L : List (ByteArray × β)} (h : (L.map (·.1)).Nodup) : ((aput x v L).map (·.1)).Nodup := by
  by_cases e : x ∈ L.map (·.1)
  · rw [aput_keys e]; exact h
  · rw [aput_none fun p hp e2 => e (List.mem_map.2 ⟨p, hp, e2⟩), List.map_append, List.nodup_append]
    exact ⟨h, by simp, fun a ha b hb e2 => by
      have : b = x := by simpa using hb
      subst this; exact e (e2 ▸ ha)⟩
/-- A host is written into the map. -/
theorem TabAt.put {W : World} {es : Array MapEntry} {ck : Nat} {x : ByteArray} {v : HV} (h : TabAt w own g m dc rem L) (hk : Kept noBlock w W) (hm : HoMap (setBlock W m (.map es ck)) m (aput x v L)) (hn : v.name = x ∧ x ≠ noStr)
    (ht : SlK W (fun k _ => own k ∧ k ≠ g ∧ k ≠ m) 1 v.tv v.tn (v.toks.map (Value.int .i64))) : TabAt (setBlock W m (.map es ck)) own g m dc rem (aput x v L) := by
  have hk2 : Kept (fun k => k = m) W (setBlock W m (.map es ck)) := (Kept.refl (fun k => k = m) W).setBlock (m := m) (fun _ => rfl) _
  have hgm : g ≠ m := fun e => h.map.ne_blk h.blk e
  refine ⟨(h.blk.kept hk (fun e => e)).kept hk2 hgm, hm, aput_nodup h.nd, h.og, h.om, fun p hp => ?_, fun p hp => ?_, fun k e => Nat.lt_of_lt_of_le (h.lt k e) (by rw [size_setBlock]; exact hk.size)⟩
  · rcases mem_aput h.nd hp with rfl | ⟨hp, -⟩
    · exact ht.keptAll hk2 fun k _ e e2 => e.2.2 e2
    · exact ((h.ot p hp).keptNone hk).keptAll hk2 fun k _ e e2 => e.2.2 e2
  · rcases mem_aput h.nd hp with rfl | ⟨hp, -⟩
    · exact hn
    · exact h.nm p hp
/-- More blocks become the table's own. -/
theorem TabAt.wide {own' : Nat → Prop} (h : TabAt w own g m dc rem L) (ho : ∀ k, own k → own' k) (hl : ∀ k, own' k → k < w.heap.size) : TabAt w own' g m dc rem L :=
  ⟨h.blk, h.map, h.nd, ho _ h.og, ho _ h.om, fun p hp => (h.ot p hp).any fun _ _ _ e => ⟨ho _ e.1, e.2⟩, h.nm, hl⟩

/-! Marking. -/
def markP (S : List Ho) (x : ByteArray) (up : Bool) : List Ho × Bool :=
  match getS x S with
  | none => (S, false)
  | some h => if h.up = up then (S, false) else (S.map fun o => if o.name = x then { o with up := up } else o, true)
def setUp (x : ByteArray) (up : Bool) (o : Ho) : Ho := if o.name = x then { o with up := up } else o
theorem setUp_name (x : ByteArray) (up : Bool) (o : Ho) : (setUp x up o).name = o.name := by unfold setUp; split <;> rfl
theorem mark_rising {S : List Ho} (h : risingH S) (x : ByteArray) (up : Bool) : risingH (S.map (setUp x up)) := by
  refine List.pairwise_map.2 (List.Pairwise.imp (fun {a b} e => ?_) h)
  rw [setUp_name, setUp_name]; exact e
theorem mark_get (x y : ByteArray) (up : Bool) : ∀ (S : List Ho), getS y (S.map (setUp x up)) = (getS y S).map (setUp x up)
  | [] => rfl
  | o :: S => by
    unfold getS
    rw [List.map_cons, List.find?_cons, List.find?_cons, setUp_name]
    by_cases e : o.name = y
    · rw [decide_eq_true e]; rfl
    · rw [decide_eq_false e]
      exact mark_get x y up S
end
end Go.Proofs.YtjkmgpmknadhjaaGreat

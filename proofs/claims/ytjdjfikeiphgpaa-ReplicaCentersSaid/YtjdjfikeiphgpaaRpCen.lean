/- replica.Network: its stages, plainly; a new center; the picture at the start. -/
import Derived.Test.YtjdjfikeiphgpaaRpHost2
import Derived.Test.YtjdjfikeiphgpaaRpBack
namespace Go.Proofs.Ytjdjfikeiphgpaa
set_option linter.unusedVariables false
open Go.RowKit
open Go.ChangeMaps (setBlock)

/-- The sites by their host: what is stored later counts. -/
def smOf (zs : List Si) : List (ByteArray × Si) := zs.foldl (fun m s => aput s.1 s m) []
theorem smOf_append (a : List Si) (s : Si) : smOf (a ++ [s]) = aput s.1 s (smOf a) := by simp [smOf]
theorem smOf_get (h : ByteArray) : ∀ (zs : List Si), aget h (smOf zs.reverse) = zs.find? fun s => decide (s.1 = h)
  | [] => rfl
  | s :: zs => by
    rw [List.reverse_cons, smOf_append, aget_aput, smOf_get h zs, List.find?_cons]
    by_cases e : s.1 = h
    · simp [e]
    · simp [e]
theorem smOf_key : ∀ (zs : List Si) {h : ByteArray} {s : Si}, aget h (smOf zs.reverse) = some s → s.1 = h := by
  intro zs h s e
  rw [smOf_get] at e
  simpa using List.find?_some e

def countH (s : Si) (cs : List (ByteArray × Cr)) : List (ByteArray × Cr) :=
  match aget s.2.1 cs with
  | none => cs
  | some c => aput s.2.1 { c with need := c.need + 1, racks := aput s.2.2 false c.racks } cs
def countAll (sm : List (ByteArray × Si)) (l : List ByteArray) (cs : List (ByteArray × Cr)) : List (ByteArray × Cr) :=
  l.foldl (fun cs h => match aget h sm with | some s => countH s cs | none => cs) cs
def needF (f : Fa) (cs : List (ByteArray × Cr)) : List (ByteArray × Cr) :=
  match aget f.1 cs with
  | none => cs
  | some c => aput f.1 { c with need := max (min c.need f.2) 0 } cs
def needAll (fs : List Fa) (cs : List (ByteArray × Cr)) : List (ByteArray × Cr) := fs.foldl (fun cs f => needF f cs) cs
theorem countAll_keys (sm : List (ByteArray × Si)) : ∀ (l : List ByteArray) (cs : List (ByteArray × Cr)), (countAll sm l cs).map (·.1) = cs.map (·.1)
  | [], _ => rfl
  | h :: l, cs => by
    show (countAll sm l (match aget h sm with | some s => countH s cs | none => cs)).map (·.1) = _
    rw [countAll_keys sm l]
    cases aget h sm with
    | none => rfl
    | some s =>
      simp only []
      unfold countH
      cases hs : aget s.2.1 cs with
      | none => rfl
      | some c => exact aput_keys (List.mem_map.2 ⟨_, aget_mem hs, rfl⟩)
theorem needAll_keys : ∀ (fs : List Fa) (cs : List (ByteArray × Cr)), (needAll fs cs).map (·.1) = cs.map (·.1)
  | [], _ => rfl
  | f :: fs, cs => by
    show (needAll fs (needF f cs)).map (·.1) = _
    rw [needAll_keys fs]
    unfold needF
    cases hs : aget f.1 cs with
    | none => rfl
    | some c => exact aput_keys (List.mem_map.2 ⟨_, aget_mem hs, rfl⟩)
def hostAll (sm : List (ByteArray × Si)) (l : List ByteArray) (cs : List (ByteArray × Cr)) : List (ByteArray × Cr) × List ByteArray :=
  l.foldl (fun st h => match aget h sm with | some s => stepH s h st.1 st.2 | none => st) (cs, [])
/-- The centers as they are made. -/
def Fresh (fs : List Fa) (cs : List (ByteArray × Cr)) : Prop := cs.map (·.1) = fs.map (·.1) ∧ ∀ p ∈ cs, p.2.need = 0 ∧ p.2.tk = 0 ∧ p.2.racks = [] ∧ p.2.ws = []
def Zero (cs : List (ByteArray × Cr)) : Prop := (cs.map (·.1)).Nodup ∧ ∀ p ∈ cs, p.2.tk = 0 ∧ p.2.ws = []
theorem Zero.put {cs : List (ByteArray × Cr)} {d : ByteArray} {c c' : Cr} (h : Zero cs) (hd : aget d cs = some c) (h1 : c'.tk = c.tk) (h2 : c'.ws = c.ws) : Zero (aput d c' cs) := by
  have hc := h.2 _ (aget_mem hd)
  refine ⟨by rw [aput_keys (List.mem_map.2 ⟨_, aget_mem hd, rfl⟩)]; exact h.1, fun p hp => ?_⟩
  rcases mem_aput h.1 hp with rfl | ⟨hp, -⟩
  · exact ⟨h1.trans hc.1, h2.trans hc.2⟩
  · exact h.2 p hp
theorem Zero.count {sm : List (ByteArray × Si)} : ∀ (l : List ByteArray) {cs : List (ByteArray × Cr)}, Zero cs → Zero (countAll sm l cs)
  | [], _, h => h
  | x :: l, cs, h => by
    show Zero (countAll sm l (match aget x sm with | some s => countH s cs | none => cs))
    refine Zero.count l ?_
    cases aget x sm with
    | none => exact h
    | some s =>
      simp only []
      unfold countH
      cases hs : aget s.2.1 cs with
      | none => exact h
      | some c => exact h.put hs rfl rfl
theorem Zero.need : ∀ (fs : List Fa) {cs : List (ByteArray × Cr)}, Zero cs → Zero (needAll fs cs)
  | [], _, h => h
  | f :: fs, cs, h => by
    show Zero (needAll fs (needF f cs))
    refine Zero.need fs ?_
    unfold needF
    cases hs : aget f.1 cs with
    | none => exact h
    | some c => exact h.put hs rfl rfl
theorem hostAll_snoc {sm : List (ByteArray × Si)} {l : List ByteArray} {cs : List (ByteArray × Cr)} {i : Nat} {x : ByteArray} {s : Si} (hx : l[i]? = some x) (hs : aget x sm = some s) : hostAll sm (l.take (i + 1)) cs = stepH s x (hostAll sm (l.take i) cs).1 (hostAll sm (l.take i) cs).2 := by
  unfold hostAll
  rw [List.take_add_one, hx, List.foldl_append]
  simp only [Option.toList_some, List.foldl_cons, List.foldl_nil, hs]
/-- What Network hands back where all is well. -/
def NetOut (sm : List (ByteArray × Si)) (l : List ByteArray) (fs : List Fa) (out : List ByteArray) : Prop :=
  ∃ cs, Fresh fs cs ∧ out = (hostAll sm l (needAll fs (countAll sm l cs))).2

section
variable {w W : World} {base bX mS mC : Nat} {sm : List (ByteArray × Si)} {cs : List (ByteArray × Cr)} {out : List ByteArray} {own : Nat → Own} {vo : Value}
/-- The picture at the start: no center yet. -/
theorem ChO.start (hb : Blk w bX 74 #[.map (some mS), .map (some mC), .slice none 0 0]) (hs : SiMap w mS sm) (hc : CeMap w mC ([] : List (ByteArray × Nat))) (hne : mS ≠ mC) :
    ChO w w.heap.size bX mS mC sm [] [] (fun k => if k = bX then .x else .m) (.slice none 0 0) := by
  have e1 : ¬ mS = bX := fun e => hs.ne_blk hb e.symm
  have e2 : ¬ mC = bX := fun e => hc.ne_blk hb e.symm
  refine ⟨hb, if_pos rfl, hs, if_neg e1, hc, if_neg e2, World.ownsRow_nil _ _ _ _, fun k e => by simp [Value.ownBlock] at e, List.nodup_nil, (fun p hp => by simp at hp), fun k e => ?_, Nat.le_refl _, fun k e => if_neg ?_, hne⟩
  · by_cases h : k = bX
    · exact .inl h
    · exact absurd (if_neg h) e
  · rintro rfl
    exact absurd hb.lt (by omega)
/-- A new center. -/
theorem ChO.cen {d : ByteArray} {g mr : Nat} {es : Array MapEntry} {ck : Nat} (hO : ChO w base bX mS mC sm cs out own vo) (hd : aget d cs = none) (hk : Kept noBlock w W)
    (hg : Blk W g 81 #[.int .i64 0, .int .i64 0, .map (some mr), .slice none 0 0]) (hm : SMap W mr []) (hgn : w.heap.size ≤ g) (hmn : w.heap.size ≤ mr)
    (hC : CeMap (setBlock W mC (.map es ck)) mC (aput d g (cs.map fun p => (p.1, p.2.g)))) :
    ∃ own', ChO (setBlock W mC (.map es ck)) base bX mS mC sm (cs ++ [(d, ⟨g, mr, 0, 0, [], []⟩)]) out own' vo ∧ ∀ k, k < w.heap.size → own' k = own k := by
  have hmC := hO.cens.lt
  have hk2 : Kept (fun k => k = mC) w (setBlock W mC (.map es ck)) := (hk.of_none (S := fun k => k = mC)).setBlock (m := mC) (fun _ => rfl) _
  have hsz : (setBlock W mC (.map es ck)).heap.size = W.heap.size := size_setBlock _ _ _
  have hgm : g ≠ mr := hm.ne_blk hg
  have hold : ∀ k, k < w.heap.size → (if k = g ∨ k = mr then Own.c d else own k) = own k := fun k h => if_neg (by omega)
  have hne : ∀ k, own k ≠ .m → k ≠ mC := by rintro k h rfl; exact h hO.oc
  have hg2 : Blk (setBlock W mC (.map es ck)) g 81 #[.int .i64 0, .int .i64 0, .map (some mr), .slice none 0 0] := hg.setBlock (m := mC) (by omega) _
  have hm2 : SMap (setBlock W mC (.map es ck)) mr [] := hm.setBlock (g := mC) (by omega) _
  refine ⟨fun k => if k = g ∨ k = mr then .c d else own k, ⟨hO.blk.kept hk2 (hne _ (by rw [hO.ox]; simp)), (hold _ hO.blk.lt).trans hO.ox, hO.sites.kept hk2 hO.ne, (hold _ hO.sites.lt).trans hO.os, ?_, (hold _ hmC).trans hO.oc,
    own_keptB hO.row hk2 fun k e => hne k (by rw [hO.ow k e]; simp), fun k e => (hold _ (own_lt hO.row e)).trans (hO.ow k e), ?_, ?_, ?_, ?_, ?_, hO.ne⟩, hold⟩
  · have e : aput d g (cs.map fun p => (p.1, p.2.g)) = (cs ++ [(d, (⟨g, mr, 0, 0, [], []⟩ : Cr))]).map fun p => (p.1, p.2.g) := by
      rw [aput_none (aget_eq_none.1 (cen_none hd))]; simp
    rw [← e]; exact hC
  · rw [List.map_append, List.nodup_append]
    refine ⟨hO.nd, by simp, ?_⟩
    rintro x hx y hy rfl
    obtain ⟨p, hp, rfl⟩ := List.mem_map.1 hx
    have : p.1 = d := by simpa using hy
    exact aget_eq_none.1 hd p hp this
  · intro p hp
    rcases List.mem_append.1 hp with hp | hp
    · obtain ⟨vw, h⟩ := hO.cr p hp
      exact ⟨vw, h.kept hk2 (fun k e => hne k (by rw [e]; simp)) hold⟩
    · obtain rfl : p = (d, ⟨g, mr, 0, 0, [], []⟩) := by simpa using hp
      exact ⟨.slice none 0 0, hg2, hm2, World.ownsRow_nil _ _ _ _, if_pos (.inl rfl), if_pos (.inr rfl), fun k e => by simp [Value.ownBlock] at e⟩
  · intro k e
    by_cases h : k = g ∨ k = mr
    · have := hO.low; exact .inr (by omega)
    · rw [if_neg h] at e; exact hO.far k e
  · rw [hsz]; exact Nat.le_trans hO.low hk.size
  · intro k e
    rw [hsz] at e
    have h1 := hg.lt
    have h2 := hm.lt
    show (if k = g ∨ k = mr then Own.c d else own k) = .m
    rw [if_neg (by omega)]
    exact hO.top k (Nat.le_trans hk.size e)
end
end Go.Proofs.Ytjdjfikeiphgpaa

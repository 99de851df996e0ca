/- replica.Network, plainly: what one center makes of its hosts; the hosts that are out, center by center. -/
import Derived.Test.YtjdjfikeiphgpaaRpCen
import Derived.Test.YtjdjfikeiphgpaaUniq
namespace Go.Proofs.Ytjdjfikeiphgpaa
set_option linter.unusedVariables false

/-- What a center makes of a host of a rack: the center behind it, the hosts that go out. -/
def kstep (c : Cr) (r h : ByteArray) : Cr × List ByteArray :=
  if c.need ≤ (c.tk : Int) then (c, [])
  else if c.racks.all (·.2) = true then (c.more, [h])
  else if aget r c.racks = some true then ({ c with ws := c.ws ++ [h] }, [])
  else if (aput r true c.racks).all (·.2) = true then ((c.marked r).flush c.ws.length, h :: c.ws.take (c.marked r).room)
  else (c.marked r, [h])
theorem stepH_k (s : Si) (h : ByteArray) (cs : List (ByteArray × Cr)) (out : List ByteArray) :
    stepH s h cs out = match aget s.2.1 cs with
      | none => (cs, out)
      | some c => (aput s.2.1 (kstep c s.2.2 h).1 cs, out ++ (kstep c s.2.2 h).2) := by
  unfold stepH kstep
  cases hd : aget s.2.1 cs with
  | none => rfl
  | some c =>
    simp only []
    by_cases h1 : c.need ≤ (c.tk : Int)
    · rw [if_pos h1, if_pos h1, aput_same hd, List.append_nil]
    · rw [if_neg h1, if_neg h1]
      by_cases h2 : c.racks.all (·.2) = true
      · rw [if_pos h2, if_pos h2]
        unfold takeCs takeOut
        rw [if_pos (by omega), if_pos (by omega)]
      · rw [if_neg h2, if_neg h2]
        by_cases h3 : aget s.2.2 c.racks = some true
        · rw [if_pos h3, if_pos h3, List.append_nil]
        · rw [if_neg h3, if_neg h3]
          unfold newCs newOut
          by_cases h4 : (aput s.2.2 true c.racks).all (·.2) = true
          · rw [if_pos h4, if_pos h4, if_pos h4]; simp
          · rw [if_neg h4, if_neg h4, if_neg h4]

/-- Each host's center, and who goes out at it. -/
def runT : List (ByteArray × Cr) → List Si → List (ByteArray × List ByteArray)
  | _, [] => []
  | cs, s :: T => match aget s.2.1 cs with
    | none => (s.2.1, []) :: runT cs T
    | some c => (s.2.1, (kstep c s.2.2 s.1).2) :: runT (aput s.2.1 (kstep c s.2.2 s.1).1 cs) T
/-- One center's hosts, one behind the other. -/
def kall : Cr → List Si → List (List ByteArray)
  | _, [] => []
  | c, s :: T => (kstep c s.2.2 s.1).2 :: kall (kstep c s.2.2 s.1).1 T
/-- The hosts of a walk as sites. -/
def sitesW (sm : List (ByteArray × Si)) (l : List ByteArray) : List Si := l.filterMap fun h => aget h sm
theorem hostAll_run {sm : List (ByteArray × Si)} (hk : ∀ h s, aget h sm = some s → s.1 = h) : ∀ (l : List ByteArray) (cs : List (ByteArray × Cr)) (o : List ByteArray),
    (l.foldl (fun st h => match aget h sm with | some s => stepH s h st.1 st.2 | none => st) (cs, o)).2 = o ++ (runT cs (sitesW sm l)).flatMap (·.2)
  | [], cs, o => by simp [sitesW, runT]
  | h :: l, cs, o => by
    rw [List.foldl_cons]
    unfold sitesW
    rw [List.filterMap_cons]
    cases hs : aget h sm with
    | none => exact hostAll_run hk l cs o
    | some s =>
      obtain rfl := hk h s hs
      simp only []
      rw [stepH_k, runT]
      cases hd : aget s.2.1 cs with
      | none =>
        simp only []
        rw [hostAll_run hk l cs o]
        simp [sitesW]
      | some c =>
        simp only []
        rw [hostAll_run hk l _ _]
        simp [sitesW]
def ofDc (d : ByteArray) (T : List Si) : List Si := T.filter fun s => decide (s.2.1 = d)
theorem runT_len : ∀ (T : List Si) (cs : List (ByteArray × Cr)), (runT cs T).length = T.length
  | [], _ => rfl
  | s :: T, cs => by
    rw [runT]
    cases aget s.2.1 cs with
    | none => simp [runT_len T]
    | some c => simp [runT_len T]
theorem runT_center {d : ByteArray} : ∀ (T : List Si) (cs : List (ByteArray × Cr)) (c : Cr), aget d cs = some c → ((runT cs T).filter fun p => decide (p.1 = d)).map (·.2) = kall c (ofDc d T)
  | [], _, _, _ => rfl
  | s :: T, cs, c, hc => by
    rw [runT]
    unfold ofDc
    by_cases e : s.2.1 = d
    · subst e
      rw [hc]
      simp only [List.filter_cons, decide_true, if_true, List.map_cons, kall]
      rw [runT_center T _ _ (by rw [aget_aput, if_pos rfl])]
      rfl
    · cases hd : aget s.2.1 cs with
      | none =>
        simp only [List.filter_cons, decide_eq_false e, Bool.false_eq_true, if_false]
        exact runT_center T cs c hc
      | some c' =>
        simp only [List.filter_cons, decide_eq_false e, Bool.false_eq_true, if_false]
        exact runT_center T _ c (by rw [aget_aput, if_neg e]; exact hc)
theorem runT_none {d : ByteArray} : ∀ (T : List Si) (cs : List (ByteArray × Cr)), aget d cs = none → ∀ p ∈ runT cs T, p.1 = d → p.2 = []
  | [], _, _, p, hp, _ => by simp [runT] at hp
  | s :: T, cs, hn, p, hp, e => by
    rw [runT] at hp
    cases hd : aget s.2.1 cs with
    | none =>
      rw [hd] at hp
      rcases List.mem_cons.1 hp with rfl | hp
      · rfl
      · exact runT_none T cs hn p hp e
    | some c =>
      rw [hd] at hp
      rcases List.mem_cons.1 hp with rfl | hp
      · rw [show s.2.1 = d from e, hn] at hd; cases hd
      · have hne : ¬ s.2.1 = d := fun e => by rw [e, hn] at hd; cases hd
        exact runT_none T _ (by rw [aget_aput, if_neg hne]; exact hn) p hp e
theorem runT_dc : ∀ (T : List Si) (cs : List (ByteArray × Cr)), (runT cs T).map (·.1) = T.map (·.2.1)
  | [], _ => rfl
  | s :: T, cs => by
    rw [runT]
    cases aget s.2.1 cs with
    | none => simp [runT_dc T]
    | some c => simp [runT_dc T]
/-- Who goes out of a center was there, or waited. -/
theorem kall_mem : ∀ (T : List Si) (c : Cr), ∀ g ∈ kall c T, ∀ h ∈ g, h ∈ c.ws ∨ h ∈ T.map (·.1)
  | [], _, g, hg, _, _ => by simp [kall] at hg
  | s :: T, c, g, hg, h, hh => by
    rw [kall] at hg
    have hst : ((kstep c s.2.2 s.1).1.ws = c.ws ∨ (kstep c s.2.2 s.1).1.ws = c.ws ++ [s.1]) ∧ ∀ h ∈ (kstep c s.2.2 s.1).2, h ∈ c.ws ∨ h = s.1 := by
      unfold kstep
      split
      · exact ⟨.inl rfl, fun h hh => by simp at hh⟩
      · split
        · exact ⟨.inl rfl, fun h hh => by simp at hh; exact .inr hh⟩
        · split
          · exact ⟨.inr rfl, fun h hh => by simp at hh⟩
          · split
            · refine ⟨.inl rfl, fun h hh => ?_⟩
              rcases List.mem_cons.1 hh with hh | hh
              · exact .inr hh
              · exact .inl (List.mem_of_mem_take hh)
            · exact ⟨.inl rfl, fun h hh => by simp at hh; exact .inr hh⟩
    rcases List.mem_cons.1 hg with rfl | hg
    · rcases hst.2 h hh with h1 | h1
      · exact .inl h1
      · exact .inr (by rw [h1]; exact List.mem_cons_self ..)
    · rcases kall_mem T _ g hg h hh with h1 | h1
      · rcases hst.1 with h2 | h2
        · rw [h2] at h1; exact .inl h1
        · rw [h2] at h1
          rcases List.mem_append.1 h1 with h1 | h1
          · exact .inl h1
          · obtain rfl := List.mem_singleton.1 h1
            exact .inr (List.mem_cons_self ..)
      · exact .inr (List.mem_cons_of_mem _ h1)

/-! What the centers are ahead of the last loop. -/
theorem countH_get (s : Si) (cs : List (ByteArray × Cr)) (d : ByteArray) : aget d (countH s cs) = (aget d cs).map fun c => if s.2.1 = d then { c with need := c.need + 1, racks := aput s.2.2 false c.racks } else c := by
  unfold countH
  cases hs : aget s.2.1 cs with
  | none =>
    simp only []
    by_cases e : s.2.1 = d
    · subst e; rw [hs]; rfl
    · simp only [if_neg e, Option.map_id']
  | some c =>
    simp only []
    rw [aget_aput]
    by_cases e : s.2.1 = d
    · subst e; rw [hs]; simp
    · simp only [if_neg e, Option.map_id']
theorem countH_keys (s : Si) (cs : List (ByteArray × Cr)) : (countH s cs).map (·.1) = cs.map (·.1) := by
  unfold countH
  cases hs : aget s.2.1 cs with
  | none => rfl
  | some c => exact aput_keys (List.mem_map.2 ⟨_, aget_mem hs, rfl⟩)
def Cr.seen (c : Cr) (T : List Si) : Cr := { c with need := c.need + T.length, racks := T.foldl (fun m s => aput s.2.2 false m) c.racks }
theorem countAll_get (sm : List (ByteArray × Si)) (d : ByteArray) : ∀ (l : List ByteArray) (cs : List (ByteArray × Cr)), aget d (countAll sm l cs) = (aget d cs).map fun c => c.seen (ofDc d (sitesW sm l))
  | [], cs => by
    show aget d cs = _
    unfold Cr.seen ofDc sitesW
    simp
  | h :: l, cs => by
    have e : countAll sm (h :: l) cs = countAll sm l (match aget h sm with | some s => countH s cs | none => cs) := rfl
    rw [e, countAll_get sm d l]
    unfold sitesW
    rw [List.filterMap_cons]
    cases hs : aget h sm with
    | none => rfl
    | some s =>
      simp only []
      rw [countH_get, Option.map_map]
      congr 1
      funext c
      unfold ofDc Cr.seen
      by_cases e : s.2.1 = d
      · simp only [Function.comp, if_pos e, List.filter_cons, decide_eq_true e, if_true, List.foldl_cons, List.length_cons]
        rw [show c.need + 1 + ((List.filter (fun s => decide (s.2.1 = d)) (List.filterMap (fun h => aget h sm) l)).length : Int) = c.need + ((List.filter (fun s => decide (s.2.1 = d)) (List.filterMap (fun h => aget h sm) l)).length + 1 : Nat) by omega]
      · simp only [Function.comp, if_neg e, List.filter_cons, decide_eq_false e, Bool.false_eq_true, if_false]
theorem needF_get (f : Fa) (cs : List (ByteArray × Cr)) (d : ByteArray) : aget d (needF f cs) = (aget d cs).map fun c => if f.1 = d then { c with need := max (min c.need f.2) 0 } else c := by
  unfold needF
  cases hs : aget f.1 cs with
  | none =>
    simp only []
    by_cases e : f.1 = d
    · rw [← e, hs]; rfl
    · simp only [if_neg e, Option.map_id']
  | some c =>
    simp only []
    rw [aget_aput]
    by_cases e : f.1 = d
    · rw [if_pos e, ← e, hs]; simp
    · simp only [if_neg e, Option.map_id']
theorem needAll_none {d : ByteArray} : ∀ (fs : List Fa) (cs : List (ByteArray × Cr)), d ∉ fs.map (·.1) → aget d (needAll fs cs) = aget d cs
  | [], _, _ => rfl
  | f :: fs, cs, h => by
    have h1 : ¬ f.1 = d := fun e => h (e ▸ List.mem_cons_self ..)
    have h2 : d ∉ fs.map (·.1) := fun e => h (List.mem_cons_of_mem _ e)
    show aget d (needAll fs (needF f cs)) = _
    rw [needAll_none fs _ h2, needF_get]
    simp only [if_neg h1, Option.map_id']
theorem needAll_get {d : ByteArray} {n : Int} : ∀ (fs : List Fa) (cs : List (ByteArray × Cr)), (fs.map (·.1)).Nodup → (d, n) ∈ fs → aget d (needAll fs cs) = (aget d cs).map fun c => { c with need := max (min c.need n) 0 }
  | [], _, _, h => by simp at h
  | f :: fs, cs, hn, h => by
    have hn' : f.1 ∉ fs.map (·.1) ∧ (fs.map (·.1)).Nodup := List.nodup_cons.1 hn
    show aget d (needAll fs (needF f cs)) = _
    by_cases e : f.1 = d
    · have e2 : f = (d, n) := by
        rcases List.mem_cons.1 h with h | h
        · exact h.symm
        · exact absurd (List.mem_map.2 ⟨_, h, rfl⟩) (e ▸ hn'.1)
      subst e2
      rw [needAll_none fs _ hn'.1, needF_get]
      simp
    · have h2 : (d, n) ∈ fs := by
        rcases List.mem_cons.1 h with h | h
        · rw [← h] at e; exact absurd rfl e
        · exact h
      rw [needAll_get fs _ hn'.2 h2, needF_get]
      simp only [if_neg e, Option.map_id']
/-- A center ahead of the last loop. -/
def cen0 (g mr : Nat) (n : Int) (H : List Si) : Cr := ⟨g, mr, max (min (H.length : Int) n) 0, 0, H.foldl (fun m s => aput s.2.2 false m) [], []⟩
theorem start_get {fs : List Fa} {cs : List (ByteArray × Cr)} {sm : List (ByteArray × Si)} {l : List ByteArray} {d : ByteArray} {n : Int} (hf : Fresh fs cs) (hn : (fs.map (·.1)).Nodup) (h : (d, n) ∈ fs) :
    ∃ g mr, aget d (needAll fs (countAll sm l cs)) = some (cen0 g mr n (ofDc d (sitesW sm l))) := by
  have hd : d ∈ cs.map (·.1) := hf.1 ▸ List.mem_map.2 ⟨_, h, rfl⟩
  obtain ⟨⟨d', c⟩, hp, rfl⟩ := List.mem_map.1 hd
  have hc := aget_of_mem (hf.1 ▸ hn) hp
  obtain ⟨h1, h2, h3, h4⟩ := hf.2 _ hp
  rw [needAll_get fs _ hn h, countAll_get]
  show ∃ g mr, Option.map _ (Option.map _ (aget d' cs)) = _
  rw [hc]
  obtain ⟨g, mr, need, tk, racks, ws⟩ := c
  simp only at h1 h2 h3 h4
  subst h1 h2 h3 h4
  refine ⟨g, mr, ?_⟩
  simp [Cr.seen, cen0]
theorem start_none {fs : List Fa} {cs : List (ByteArray × Cr)} {sm : List (ByteArray × Si)} {l : List ByteArray} {d : ByteArray} (hf : Fresh fs cs) (h : d ∉ fs.map (·.1)) : aget d (needAll fs (countAll sm l cs)) = none := by
  rw [needAll_none fs _ h, countAll_get]
  have : aget d cs = none := aget_eq_none.2 fun p hp e => h (hf.1 ▸ List.mem_map.2 ⟨p, hp, e⟩)
  rw [this]; rfl
end Go.Proofs.Ytjdjfikeiphgpaa

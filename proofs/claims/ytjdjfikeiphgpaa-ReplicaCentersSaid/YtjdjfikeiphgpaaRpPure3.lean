/- replica.Network, plainly: of each center as many as are needed, none twice, of as many racks as can be; one center does not hang on the others; simple cases. -/
import Derived.Test.YtjdjfikeiphgpaaRpPure2
namespace Go.Proofs.Ytjdjfikeiphgpaa
set_option linter.unusedVariables false

def qaft (R : Nat) (N : Int) (q : Qs) (H : List Si) : Qs := H.foldl (fun q s => (qstep R N q s.2.2 s.1).1) q
theorem qall_snoc (R : Nat) (N : Int) (s : Si) : ∀ (A : List Si) (q : Qs), qall R N q (A ++ [s]) = qall R N q A ++ [(qstep R N (qaft R N q A) s.2.2 s.1).2]
  | [], _ => rfl
  | a :: A, q => by
    rw [List.cons_append, qall, qall, qall_snoc R N s A]
    rfl
theorem qaft_snoc (R : Nat) (N : Int) (s : Si) (A : List Si) (q : Qs) : qaft R N q (A ++ [s]) = (qstep R N (qaft R N q A) s.2.2 s.1).1 := by
  unfold qaft; rw [List.foldl_append]; rfl
/-- The hosts of one center that go out. -/
def outOf (n : Int) (H : List Si) : List ByteArray := (qall (racksOf H).length n q0 H).flatten

structure QI (K : List ByteArray) (N : Int) (rk : ByteArray → ByteArray) (P : List ByteArray) (o : List ByteArray) (q : Qs) : Prop where
  n : o.length = q.n
  cap : (q.n : Int) ≤ max N 0
  snd : q.seen.Nodup
  sub : ∀ r ∈ q.seen, r ∈ K
  nd : (o ++ if q.seen.length < K.length then q.ws else []).Nodup
  inP : ∀ h ∈ o ++ (if q.seen.length < K.length then q.ws else []), h ∈ P
  all : (q.n : Int) < N → ∀ h ∈ P, h ∈ o ++ (if q.seen.length < K.length then q.ws else [])
  wr : q.seen.length < K.length → o.map rk = q.seen ∧ ∀ h ∈ q.ws, rk h ∈ q.seen
  full : q.seen.length = K.length → ∀ r ∈ K, r ∈ o.map rk
theorem QI.step {K : List ByteArray} {N : Int} {rk : ByteArray → ByteArray} {P o : List ByteArray} {q : Qs} (I : QI K N rk P o q) {r h : ByteArray} (hr : r ∈ K) (hrk : rk h = r) (hP : h ∉ P) :
    QI K N rk (P ++ [h]) (o ++ (qstep K.length N q r h).2) (qstep K.length N q r h).1 := by
  have hle := nodup_le I.snd I.sub
  have hcap := I.cap
  have hn := I.n
  unfold qstep
  by_cases h1 : N ≤ (q.n : Int)
  · rw [if_pos h1]
    simp only [List.append_nil]
    exact ⟨I.n, I.cap, I.snd, I.sub, I.nd, fun x hx => List.mem_append_left _ (I.inP x hx), fun e => absurd h1 (by omega), I.wr, I.full⟩
  · rw [if_neg h1]
    have hall := I.all (by omega)
    by_cases h2 : q.seen.length = K.length
    · have hnl : ¬ q.seen.length < K.length := by omega
      rw [if_neg (fun e => hnl e.1), if_pos h2]
      have h3 := I.nd
      have h4 := I.inP
      rw [if_neg hnl, List.append_nil] at h3 h4 hall
      refine ⟨by simp [hn], by show ((q.n + 1 : Nat) : Int) ≤ _; omega, I.snd, I.sub, ?_, ?_, ?_, fun e => absurd e hnl, fun e r' hr' => ?_⟩
      · simp only []
        rw [if_neg hnl, List.append_nil, List.nodup_append]
        exact ⟨h3, by simp, fun a ha b hb e => by obtain rfl := List.mem_singleton.1 hb; exact hP (e ▸ h4 a ha)⟩
      · simp only []
        rw [if_neg hnl, List.append_nil]
        intro x hx
        rcases List.mem_append.1 hx with hx | hx
        · exact List.mem_append_left _ (h4 x hx)
        · exact List.mem_append_right _ hx
      · intro _ x hx
        simp only []
        rw [if_neg hnl, List.append_nil]
        rcases List.mem_append.1 hx with hx | hx
        · exact List.mem_append_left _ (hall x hx)
        · exact List.mem_append_right _ hx
      · rw [List.map_append]
        exact List.mem_append_left _ (I.full h2 r' hr')
    · have hlt : q.seen.length < K.length := by omega
      have h3 := I.nd
      have h4 := I.inP
      rw [if_pos hlt] at h3 h4 hall
      obtain ⟨w1, w2⟩ := I.wr hlt
      by_cases h5 : has q.seen r = true
      · rw [if_pos ⟨hlt, h5⟩]
        simp only [List.append_nil]
        refine ⟨I.n, I.cap, I.snd, I.sub, ?_, ?_, ?_, fun _ => ⟨w1, ?_⟩, fun e => absurd e h2⟩
        · simp only []
          rw [if_pos hlt, ← List.append_assoc, List.nodup_append]
          exact ⟨h3, by simp, fun a ha b hb e => by obtain rfl := List.mem_singleton.1 hb; exact hP (e ▸ h4 a ha)⟩
        · simp only []
          rw [if_pos hlt, ← List.append_assoc]
          intro x hx
          rcases List.mem_append.1 hx with hx | hx
          · exact List.mem_append_left _ (h4 x hx)
          · exact List.mem_append_right _ hx
        · intro _ x hx
          simp only []
          rw [if_pos hlt, ← List.append_assoc]
          rcases List.mem_append.1 hx with hx | hx
          · exact List.mem_append_left _ (hall x hx)
          · exact List.mem_append_right _ hx
        · intro x hx
          rcases List.mem_append.1 hx with hx | hx
          · exact w2 x hx
          · obtain rfl := List.mem_singleton.1 hx
            rw [hrk]; exact has_iff.1 h5
      · have hrs : r ∉ q.seen := fun e => h5 (has_iff.2 e)
        have s1 : (q.seen ++ [r]).Nodup := by
          rw [List.nodup_append]
          exact ⟨I.snd, by simp, fun a ha b hb e => by obtain rfl := List.mem_singleton.1 hb; exact hrs (e ▸ ha)⟩
        have u1 : ∀ r' ∈ q.seen ++ [r], r' ∈ K := by
          intro r' h'
          rcases List.mem_append.1 h' with h' | h'
          · exact I.sub r' h'
          · obtain rfl := List.mem_singleton.1 h'; exact hr
        have l1 : (q.seen ++ [r]).length = q.seen.length + 1 := by rw [List.length_append]; rfl
        have hbig : (o ++ h :: q.ws).Nodup := by
          have hp : ((o ++ q.ws) ++ [h]).Perm (o ++ h :: q.ws) := by
            rw [List.append_assoc]
            refine List.Perm.append_left o ?_
            exact List.perm_append_comm
          refine hp.nodup_iff.1 ?_
          rw [List.nodup_append]
          exact ⟨h3, by simp, fun a ha b hb e => by obtain rfl := List.mem_singleton.1 hb; exact hP (e ▸ h4 a ha)⟩
        rw [if_neg (fun e => h5 e.2), if_neg h2]
        by_cases h6 : q.seen.length + 1 = K.length
        · rw [if_pos h6]
          have hnl : ¬ (q.seen ++ [r]).length < K.length := by omega
          refine ⟨by simp [hn]; omega, ?_, s1, u1, ?_, ?_, ?_, fun e => absurd e hnl, fun _ r' hr' => ?_⟩
          · show ((q.n + 1 + (q.ws.take (N - (q.n + 1 : Nat)).toNat).length : Nat) : Int) ≤ _
            rw [List.length_take]; omega
          · simp only []
            rw [if_neg hnl, List.append_nil]
            exact hbig.sublist (List.Sublist.append_left ((List.take_sublist _ _).cons_cons h) o)
          · simp only []
            rw [if_neg hnl, List.append_nil]
            intro x hx
            rcases List.mem_append.1 hx with hx | hx
            · exact List.mem_append_left _ (h4 x (List.mem_append_left _ hx))
            · rcases List.mem_cons.1 hx with rfl | hx
              · exact List.mem_append_right _ (List.mem_singleton.2 rfl)
              · exact List.mem_append_left _ (h4 x (List.mem_append_right _ (List.mem_of_mem_take hx)))
          · intro e x hx
            simp only []
            rw [if_neg hnl, List.append_nil]
            have e' : ((q.n + 1 + (q.ws.take (N - (q.n + 1 : Nat)).toNat).length : Nat) : Int) < N := e
            rw [List.length_take] at e'
            rw [List.take_of_length_le (by omega)]
            rcases List.mem_append.1 hx with hx | hx
            · rcases List.mem_append.1 (hall x hx) with hx | hx
              · exact List.mem_append_left _ hx
              · exact List.mem_append_right _ (List.mem_cons_of_mem _ hx)
            · obtain rfl := List.mem_singleton.1 hx
              exact List.mem_append_right _ (List.mem_cons_self ..)
          · have := nodup_sup s1 u1 (by omega) r' hr'
            rw [List.map_append, w1]
            rcases List.mem_append.1 this with h' | h'
            · exact List.mem_append_left _ h'
            · obtain rfl := List.mem_singleton.1 h'
              refine List.mem_append_right _ ?_
              rw [List.map_cons, hrk]; exact List.mem_cons_self ..
        · rw [if_neg h6]
          have hlt2 : (q.seen ++ [r]).length < K.length := by omega
          have hp : (o ++ h :: q.ws).Perm ((o ++ [h]) ++ q.ws) := by rw [List.append_assoc]; exact List.Perm.refl _
          refine ⟨by simp [hn], by show ((q.n + 1 : Nat) : Int) ≤ _; omega, s1, u1, ?_, ?_, ?_, fun _ => ⟨?_, fun x hx => List.mem_append_left _ (w2 x hx)⟩, fun e => ?_⟩
          · simp only []
            rw [if_pos hlt2]
            exact hp.nodup_iff.1 hbig
          · simp only []
            rw [if_pos hlt2]
            intro x hx
            have hx := hp.mem_iff.2 hx
            rcases List.mem_append.1 hx with hx | hx
            · exact List.mem_append_left _ (h4 x (List.mem_append_left _ hx))
            · rcases List.mem_cons.1 hx with rfl | hx
              · exact List.mem_append_right _ (List.mem_singleton.2 rfl)
              · exact List.mem_append_left _ (h4 x (List.mem_append_right _ hx))
          · intro _ x hx
            simp only []
            rw [if_pos hlt2]
            refine hp.mem_iff.1 ?_
            rcases List.mem_append.1 hx with hx | hx
            · rcases List.mem_append.1 (hall x hx) with hx | hx
              · exact List.mem_append_left _ hx
              · exact List.mem_append_right _ (List.mem_cons_of_mem _ hx)
            · obtain rfl := List.mem_singleton.1 hx
              exact List.mem_append_right _ (List.mem_cons_self ..)
          · rw [List.map_append, w1, List.map_cons, hrk]; rfl
          · have e' : (q.seen ++ [r]).length = K.length := e
            omega
theorem ite_nil {p : Prop} [Decidable p] : (if p then ([] : List ByteArray) else []) = [] := by split <;> rfl
theorem QI.all_ {K : List ByteArray} {N : Int} {rk : ByteArray → ByteArray} (H : List Si) (hk : ∀ s ∈ H, s.2.2 ∈ K) (hrk : ∀ s ∈ H, rk s.1 = s.2.2) (hn : (H.map (·.1)).Nodup) :
    ∀ i, i ≤ H.length → QI K N rk ((H.take i).map (·.1)) (qall K.length N q0 (H.take i)).flatten (qaft K.length N q0 (H.take i))
  | 0, _ => ⟨rfl, by show ((0 : Nat) : Int) ≤ _; omega, .nil, fun r h => by simp [qaft, q0] at h, by show (([] : List ByteArray) ++ if 0 < K.length then ([] : List ByteArray) else []).Nodup; rw [ite_nil]; simp, by show ∀ h ∈ (([] : List ByteArray) ++ if 0 < K.length then ([] : List ByteArray) else []), h ∈ _; rw [ite_nil]; simp, fun _ h hh => by simp at hh, fun _ => ⟨rfl, fun h hh => by simp [qaft, q0] at hh⟩, fun e r hr => by
      have : K.length = 0 := e.symm
      have : K = [] := List.length_eq_zero_iff.1 this
      subst this
      simp at hr⟩
  | i + 1, hi => by
    obtain ⟨s, hs⟩ : ∃ s, H[i]? = some s := ⟨_, List.getElem?_eq_getElem (by omega)⟩
    have hm := List.mem_of_getElem? hs
    have e : H.take (i + 1) = H.take i ++ [s] := by rw [List.take_add_one, hs]; rfl
    have ih := QI.all_ (N := N) H hk hrk hn i (by omega)
    rw [e, qall_snoc, qaft_snoc, List.map_append, List.flatten_append]
    have h2 : [(qstep K.length N (qaft K.length N q0 (List.take i H)) s.2.2 s.1).2].flatten = (qstep K.length N (qaft K.length N q0 (List.take i H)) s.2.2 s.1).2 := by simp
    rw [h2]
    refine ih.step (hk s hm) (hrk s hm) ?_
    have h3 : H.map (·.1) = (H.take i).map (·.1) ++ s.1 :: (H.drop (i + 1)).map (·.1) := by
      conv => lhs; rw [← List.take_append_drop i H]
      rw [List.map_append, List.drop_eq_getElem_cons (by omega), (List.getElem?_eq_some_iff.1 hs).2]
      rfl
    rw [h3, List.nodup_append] at hn
    exact fun hh => hn.2.2 _ hh _ (List.mem_cons_self ..) rfl
/-- What one center's hosts are: none twice, as many as are needed, of as many racks as can be. -/
theorem out_law {n : Int} {H : List Si} {rk : ByteArray → ByteArray} (h0 : 0 ≤ n) (hrk : ∀ s ∈ H, rk s.1 = s.2.2) (hn : (H.map (·.1)).Nodup) :
    (outOf n H).Nodup ∧ ((outOf n H).length : Int) = min n H.length ∧ (∀ h ∈ outOf n H, h ∈ H.map (·.1)) ∧ ∀ U : List ByteArray, U.Nodup → (∀ x, x ∈ U ↔ x ∈ (outOf n H).map rk) → U.length = min (outOf n H).length (racksOf H).length := by
  have I := QI.all_ (K := racksOf H) (N := n) (rk := rk) H (fun s hs => racks_mem hs) hrk hn H.length (Nat.le_refl _)
  rw [List.take_length] at I
  have hX : (qall (racksOf H).length n q0 H).flatten = outOf n H := rfl
  rw [hX] at I
  generalize outOf n H = o at *
  generalize qaft (racksOf H).length n q0 H = q at *
  have hKn : (racksOf H).Nodup := uniq_nodup _ _ .nil
  have hKm : ∀ r ∈ racksOf H, ∃ s ∈ H, s.2.2 = r := by
    intro r hr
    rcases (uniq_mem _ _ _).1 hr with h | h
    · simp at h
    · obtain ⟨s, hs, e⟩ := List.mem_map.1 h; exact ⟨s, hs, e⟩
  have hKr : ∀ s ∈ H, s.2.2 ∈ racksOf H := fun s hs => racks_mem hs
  generalize racksOf H = K at *
  have hle := nodup_le I.snd I.sub
  have hcap := I.cap
  have hnn := I.n
  have hond : o.Nodup := (List.nodup_append.1 I.nd).1
  have hoH : ∀ h ∈ o, h ∈ H.map (·.1) := fun h hh => I.inP h (List.mem_append_left _ hh)
  have hol := nodup_le hond hoH
  rw [List.length_map] at hol
  refine ⟨hond, ?_, hoH, fun U hU hm => ?_⟩
  · by_cases h1 : n ≤ (q.n : Int)
    · omega
    · have hall := I.all (by omega)
      by_cases h2 : q.seen.length = K.length
      · rw [if_neg (by omega), List.append_nil] at hall
        have := nodup_len hond hn fun x => ⟨hoH x, hall x⟩
        rw [List.length_map] at this
        omega
      · exfalso
        have hlt : q.seen.length < K.length := by omega
        rw [if_pos hlt] at hall
        obtain ⟨w1, w2⟩ := I.wr hlt
        have : K.length ≤ q.seen.length := nodup_le hKn fun r hr => by
          obtain ⟨s, hs, rfl⟩ := hKm r hr
          rcases List.mem_append.1 (hall s.1 (List.mem_map.2 ⟨s, hs, rfl⟩)) with h | h
          · rw [← w1, ← hrk s hs]; exact List.mem_map.2 ⟨_, h, rfl⟩
          · rw [← hrk s hs]; exact w2 _ h
        omega
  · by_cases h2 : q.seen.length = K.length
    · have hf := I.full h2
      have e1 : U.length = K.length := nodup_len hU hKn fun x => by
        rw [hm x]
        refine ⟨fun h => ?_, fun h => hf x h⟩
        obtain ⟨y, hy, rfl⟩ := List.mem_map.1 h
        obtain ⟨s, hs, rfl⟩ := List.mem_map.1 (hoH y hy)
        rw [hrk s hs]; exact hKr s hs
      have e2 : K.length ≤ (o.map rk).length := nodup_le hKn hf
      rw [List.length_map] at e2
      omega
    · have hlt : q.seen.length < K.length := by omega
      obtain ⟨w1, w2⟩ := I.wr hlt
      have e1 : U.length = q.seen.length := nodup_len hU I.snd fun x => by rw [hm x, w1]
      have e2 : o.length = q.seen.length := by rw [← w1, List.length_map]
      omega

/-! One center, and two. -/
theorem flat_if {G : List (ByteArray × List ByteArray)} {d : ByteArray} (h : ∀ p ∈ G, p.1 ≠ d → p.2 = []) : G.flatMap (·.2) = ((G.filter fun p => decide (p.1 = d)).map (·.2)).flatten := by
  induction G with
  | nil => rfl
  | cons p G ih =>
    have ih := ih fun p hp => h p (List.mem_cons_of_mem _ hp)
    rw [List.flatMap_cons, ih]
    by_cases e : p.1 = d
    · simp [e]
    · rw [h p (List.mem_cons_self ..) e]
      simp [e]
theorem out_one {T : List Si} {cs : List (ByteArray × Cr)} {d : ByteArray} {n : Int} {g mr : Nat} (h1 : aget d cs = some (cen0 g mr n (ofDc d T))) (h2 : ∀ x, x ≠ d → aget x cs = none) : (runT cs T).flatMap (·.2) = outOf n (ofDc d T) := by
  rw [flat_if (d := d) fun p hp e => runT_none T cs (h2 p.1 e) p hp rfl, runT_center T cs _ h1, kall_start]
  rfl
theorem flat_two {G : List (ByteArray × List ByteArray)} {d : ByteArray} {P : ByteArray → Bool} (h1 : ∀ p ∈ G, p.1 = d → ∀ h ∈ p.2, P h = true) (h2 : ∀ p ∈ G, p.1 ≠ d → ∀ h ∈ p.2, P h = false) :
    (G.flatMap (·.2)).filter P = ((G.filter fun p => decide (p.1 = d)).map (·.2)).flatten := by
  induction G with
  | nil => rfl
  | cons p G ih =>
    have ih := ih (fun p hp => h1 p (List.mem_cons_of_mem _ hp)) (fun p hp => h2 p (List.mem_cons_of_mem _ hp))
    rw [List.flatMap_cons, List.filter_append, ih]
    by_cases e : p.1 = d
    · rw [List.filter_eq_self.2 (h1 p (List.mem_cons_self ..) e)]
      simp [e]
    · rw [List.filter_eq_nil_iff.2 fun h hh => by rw [h2 p (List.mem_cons_self ..) e h hh]; simp]
      simp [e]
theorem runT_mem {T : List Si} {cs : List (ByteArray × Cr)} {d : ByteArray} {g mr : Nat} {n : Int} (hc : aget d cs = some (cen0 g mr n (ofDc d T))) {p : ByteArray × List ByteArray} (hp : p ∈ runT cs T) (e : p.1 = d) :
    (∀ h ∈ p.2, h ∈ outOf n (ofDc d T)) ∧ ∀ h ∈ p.2, h ∈ (ofDc d T).map (·.1) := by
  have h1 : p.2 ∈ kall (cen0 g mr n (ofDc d T)) (ofDc d T) := by
    rw [← runT_center T cs _ hc]
    exact List.mem_map.2 ⟨p, List.mem_filter.2 ⟨hp, by simpa using e⟩, rfl⟩
  refine ⟨fun h hh => ?_, fun h hh => ?_⟩
  · rw [kall_start] at h1
    exact List.mem_flatten.2 ⟨_, h1, hh⟩
  · rcases kall_mem _ _ _ h1 h hh with h2 | h2
    · simp [cen0] at h2
    · exact h2
/-- The hosts of both centers, but for those of one, are those of the other one alone. -/
theorem out_two {T : List Si} {cs : List (ByteArray × Cr)} {d x : ByteArray} {n m : Int} {g mr g' mr' : Nat} (hdx : d ≠ x) (h1 : aget d cs = some (cen0 g mr n (ofDc d T))) (h2 : aget x cs = some (cen0 g' mr' m (ofDc x T))) (h3 : ∀ y, y ≠ d → y ≠ x → aget y cs = none)
    (hT : ∀ s ∈ T, ∀ s' ∈ T, s.1 = s'.1 → s = s') :
    ((runT cs T).flatMap (·.2)).filter (has (outOf n (ofDc d T))) = outOf n (ofDc d T) ∧ ((runT cs T).flatMap (·.2)).filter (fun h => !has (outOf n (ofDc d T)) h) = outOf m (ofDc x T) := by
  have hout : ∀ h ∈ outOf n (ofDc d T), h ∈ (ofDc d T).map (·.1) := by
    intro h hh
    have : outOf n (ofDc d T) = (kall (cen0 g mr n (ofDc d T)) (ofDc d T)).flatten := by rw [kall_start]; rfl
    rw [this] at hh
    obtain ⟨l, hl, hh⟩ := List.mem_flatten.1 hh
    rcases kall_mem _ _ _ hl h hh with h2 | h2
    · simp [cen0] at h2
    · exact h2
  have a1 : ∀ p ∈ runT cs T, p.1 = d → ∀ h ∈ p.2, has (outOf n (ofDc d T)) h = true := fun p hp e h hh => has_iff.2 ((runT_mem h1 hp e).1 h hh)
  have a2 : ∀ p ∈ runT cs T, p.1 ≠ d → ∀ h ∈ p.2, has (outOf n (ofDc d T)) h = false := by
    intro p hp e h hh
    by_cases e2 : p.1 = x
    · have hx := (runT_mem h2 hp e2).2 h hh
      refine Bool.eq_false_iff.2 fun hc => ?_
      have hd := hout h (has_iff.1 hc)
      obtain ⟨s, hs, rfl⟩ := List.mem_map.1 hd
      obtain ⟨s', hs', e3⟩ := List.mem_map.1 hx
      obtain ⟨m1, c1⟩ := List.mem_filter.1 hs
      obtain ⟨m2, c2⟩ := List.mem_filter.1 hs'
      have := hT s m1 s' m2 e3.symm
      subst this
      simp only [decide_eq_true_eq] at c1 c2
      exact hdx (c1.symm.trans c2)
    · have h4 := runT_none T cs (h3 p.1 e e2) p hp rfl
      rw [h4] at hh
      simp at hh
  constructor
  · rw [flat_two a1 a2, runT_center T cs _ h1, kall_start]; rfl
  · rw [flat_two (d := x) (P := fun h => !has (outOf n (ofDc d T)) h) (fun p hp e h hh => by rw [a2 p hp (fun e2 => hdx (e2.symm.trans e)) h hh]; rfl) ?_, runT_center T cs _ h2, kall_start]
    · rfl
    · intro p hp e h hh
      by_cases e2 : p.1 = d
      · rw [a1 p hp e2 h hh]; rfl
      · have h4 := runT_none T cs (h3 p.1 e2 e) p hp rfl
        rw [h4] at hh
        simp at hh

/-! Where nobody waits: the first ones. -/
theorem q_free {R : Nat} {N : Int} : ∀ (H : List Si) (q : Qs), q.ws = [] → (∀ i s, H[i]? = some s → ¬ ((qaft R N q (H.take i)).seen.length < R ∧ has (qaft R N q (H.take i)).seen s.2.2 = true)) →
    (qall R N q H).flatten = (H.map (·.1)).take (N - q.n).toNat
  | [], _, _, _ => by simp [qall]
  | s :: H, q, hw, hf => by
    have h0 := hf 0 s rfl
    have h0' : ¬ (q.seen.length < R ∧ has q.seen s.2.2 = true) := h0
    have hf' : ∀ i s', H[i]? = some s' → ¬ ((qaft R N (qstep R N q s.2.2 s.1).1 (H.take i)).seen.length < R ∧ has (qaft R N (qstep R N q s.2.2 s.1).1 (H.take i)).seen s'.2.2 = true) := fun i s' h => hf (i + 1) s' (by simpa using h)
    rw [qall, List.flatten_cons, List.map_cons]
    have hst : (qstep R N q s.2.2 s.1).1.ws = [] := by
      unfold qstep
      by_cases h1 : N ≤ (q.n : Int)
      · rw [if_pos h1]; exact hw
      · rw [if_neg h1, if_neg h0']
        split
        · exact hw
        · split
          · exact hw
          · exact hw
    rw [q_free H _ hst hf']
    by_cases h1 : N ≤ (q.n : Int)
    · have e : qstep R N q s.2.2 s.1 = (q, []) := by unfold qstep; rw [if_pos h1]
      rw [e]
      have : (N - q.n).toNat = 0 := by omega
      simp [this]
    · have e : (qstep R N q s.2.2 s.1).2 = [s.1] ∧ (qstep R N q s.2.2 s.1).1.n = q.n + 1 := by
        unfold qstep
        rw [if_neg h1, if_neg h0']
        split
        · exact ⟨rfl, rfl⟩
        · split
          · simp [hw]
          · exact ⟨rfl, rfl⟩
      rw [e.1, e.2]
      obtain ⟨k, hk⟩ : ∃ k, (N - q.n).toNat = k + 1 := ⟨(N - q.n).toNat - 1, by omega⟩
      have hk2 : (N - (q.n + 1 : Nat)).toNat = k := by omega
      rw [hk, hk2, List.take_succ_cons]
      rfl
theorem seen_sub {R : Nat} {N : Int} : ∀ (H : List Si) (q : Qs), ∀ r ∈ (qaft R N q H).seen, r ∈ q.seen ∨ r ∈ H.map (·.2.2)
  | [], _, r, h => .inl h
  | s :: H, q, r, h => by
    have h : r ∈ (qaft R N (qstep R N q s.2.2 s.1).1 H).seen := h
    have hs : ∀ r ∈ (qstep R N q s.2.2 s.1).1.seen, r ∈ q.seen ∨ r = s.2.2 := by
      unfold qstep
      intro r hr
      split at hr
      · exact .inl hr
      · split at hr
        · exact .inl hr
        · split at hr
          · exact .inl hr
          · split at hr <;> exact (List.mem_append.1 hr).imp id List.mem_singleton.1
    rcases seen_sub H _ r h with h1 | h1
    · rcases hs r h1 with h2 | h2
      · exact .inl h2
      · exact .inr (by rw [h2]; exact List.mem_cons_self ..)
    · exact .inr (List.mem_cons_of_mem _ h1)
/-- Of one rack, or of as many racks as hosts: the first ones. -/
theorem out_many {n : Int} {H : List Si} (h : (∃ r, ∀ s ∈ H, s.2.2 = r) ∨ ((∀ s ∈ H, s.2.2 = s.1) ∧ (H.map (·.1)).Nodup)) : outOf n H = (H.map (·.1)).take n.toNat := by
  unfold outOf
  have e : n.toNat = (n - ((q0.n : Nat) : Int)).toNat := by simp [q0]
  rw [e]
  refine q_free H q0 rfl fun i s hs hc => ?_
  obtain ⟨c1, c2⟩ := hc
  have c2 := has_iff.1 c2
  have hm := seen_sub (R := (racksOf H).length) (N := n) (H.take i) q0 s.2.2 c2
  rcases hm with hm | hm
  · simp [q0] at hm
  rcases h with ⟨r, hr⟩ | ⟨hr, hn⟩
  · have h1 : (racksOf H).length ≤ [r].length := nodup_le (uniq_nodup _ _ .nil) fun x hx => by
      rcases (uniq_mem _ _ _).1 hx with h | h
      · simp at h
      · obtain ⟨s', hs', rfl⟩ := List.mem_map.1 h
        rw [hr s' hs']; exact List.mem_singleton.2 rfl
    have := List.length_pos_of_mem c2
    simp only [List.length_singleton] at h1
    omega
  · obtain ⟨s', hs', e2⟩ := List.mem_map.1 hm
    have hm' := List.mem_of_mem_take hs'
    rw [hr s' hm', hr s (List.mem_of_getElem? hs)] at e2
    have h3 : H.map (·.1) = (H.take i).map (·.1) ++ s.1 :: (H.drop (i + 1)).map (·.1) := by
      conv => lhs; rw [← List.take_append_drop i H]
      rw [List.map_append, List.drop_eq_getElem_cons (List.getElem?_eq_some_iff.1 hs).1, (List.getElem?_eq_some_iff.1 hs).2]
      rfl
    rw [h3, List.nodup_append] at hn
    exact hn.2.2 _ (List.mem_map.2 ⟨s', hs', rfl⟩) _ (List.mem_cons_self ..) e2

/-! The document's way: all hosts of one center, each with its place. -/
def oneQ (R : Nat) (N : Int) : Qs → List (Si × Nat) → List (ByteArray × Nat)
  | _, [] => []
  | q, (s, i) :: E => (qstep R N q s.2.2 s.1).2.map (fun h => (h, i)) ++ oneQ R N (qstep R N q s.2.2 s.1).1 E
def ofDcE (d : ByteArray) (E : List (Si × Nat)) : List (Si × Nat) := E.filter fun p => decide (p.1.2.1 = d)
theorem oneQ_snd {R : Nat} {N : Int} : ∀ (E : List (Si × Nat)) (q : Qs) (p : ByteArray × Nat), p ∈ oneQ R N q E → p.2 ∈ E.map (·.2)
  | [], _, p, h => by simp [oneQ] at h
  | (s, i) :: E, q, p, h => by
    rw [oneQ] at h
    rcases List.mem_append.1 h with h | h
    · obtain ⟨x, _, rfl⟩ := List.mem_map.1 h
      exact List.mem_cons_self ..
    · exact List.mem_cons_of_mem _ (oneQ_snd E _ p h)
theorem zip_snd {d : ByteArray} (T : List Si) (k : Nat) : ∀ j ∈ (ofDcE d (T.zipIdx k)).map (·.2), k ≤ j := by
  intro j hj
  obtain ⟨p, hp, rfl⟩ := List.mem_map.1 hj
  exact (List.mem_zipIdx (List.mem_filter.1 hp).1).1
theorem pick_none {R : Nat} {N : Int} {E : List (Si × Nat)} {q : Qs} {j : Nat} (h : j ∉ E.map (·.2)) : (oneQ R N q E).filter (fun p => decide (p.2 = j)) = [] :=
  List.filter_eq_nil_iff.2 fun p hp e => h ((of_decide_eq_true e) ▸ oneQ_snd E q p hp)
theorem one_pick {R : Nat} {N : Int} {d : ByteArray} : ∀ (T : List Si) (k : Nat) (q : Qs) (i : Nat), ((oneQ R N q (ofDcE d (T.zipIdx k))).filter fun p => decide (p.2 = k + i)).map (·.1) = atQ R N d q T i
  | [], k, q, i => by simp [ofDcE, oneQ, atQ]
  | s :: T, k, q, 0 => by
    have hz : ¬ (k + 0) ∈ (ofDcE d (T.zipIdx (k + 1))).map (·.2) := fun h => by have := zip_snd T (k + 1) _ h; omega
    rw [List.zipIdx_cons, atQ]
    unfold ofDcE
    rw [List.filter_cons]
    by_cases e : s.2.1 = d
    · simp only [decide_eq_true e, if_true, if_pos e]
      rw [oneQ, List.filter_append, show List.filter (fun p : Si × Nat => decide (p.1.2.1 = d)) (T.zipIdx (k + 1)) = ofDcE d (T.zipIdx (k + 1)) from rfl, pick_none hz, List.append_nil, List.filter_eq_self.2]
      · simp [Function.comp_def]
      · intro p hp
        obtain ⟨x, _, rfl⟩ := List.mem_map.1 hp
        simp
    · simp only [decide_eq_false e, Bool.false_eq_true, if_false, if_neg e]
      rw [show List.filter (fun p : Si × Nat => decide (p.1.2.1 = d)) (T.zipIdx (k + 1)) = ofDcE d (T.zipIdx (k + 1)) from rfl, pick_none hz]
      rfl
  | s :: T, k, q, i + 1 => by
    have ih := fun q => one_pick (R := R) (N := N) (d := d) T (k + 1) q i
    rw [List.zipIdx_cons, atQ]
    unfold ofDcE
    rw [List.filter_cons]
    have ek : k + (i + 1) = k + 1 + i := by omega
    rw [ek]
    by_cases e : s.2.1 = d
    · simp only [decide_eq_true e, if_true, if_pos e]
      rw [oneQ, List.filter_append, List.filter_eq_nil_iff.2, List.nil_append]
      · exact ih _
      · intro p hp
        obtain ⟨x, _, rfl⟩ := List.mem_map.1 hp
        simp; omega
    · simp only [decide_eq_false e, Bool.false_eq_true, if_false, if_neg e]
      exact ih q
end Go.Proofs.Ytjdjfikeiphgpaa

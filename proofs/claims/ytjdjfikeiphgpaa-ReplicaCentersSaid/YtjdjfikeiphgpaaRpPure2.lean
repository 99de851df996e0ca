/- replica.Network, plainly: a center counted without maps; the document's order. -/
import Derived.Test.YtjdjfikeiphgpaaRpPure
namespace Go.Proofs.Ytjdjfikeiphgpaa
set_option linter.unusedVariables false

theorem nodup_le {α : Type} [DecidableEq α] : ∀ {a b : List α}, a.Nodup → (∀ x ∈ a, x ∈ b) → a.length ≤ b.length
  | [], b, _, _ => Nat.zero_le _
  | x :: a, b, hn, hs => by
    have hn' : x ∉ a ∧ a.Nodup := List.nodup_cons.1 hn
    have hx := hs x (List.mem_cons_self ..)
    have h1 : a.length ≤ (b.erase x).length := nodup_le hn'.2 fun y hy => (List.mem_erase_of_ne (fun e => by subst e; exact hn'.1 hy)).2 (hs y (List.mem_cons_of_mem _ hy))
    rw [List.length_erase_of_mem hx] at h1
    have := List.length_pos_of_mem hx
    simp only [List.length_cons]; omega
theorem nodup_sup {α : Type} [DecidableEq α] {a b : List α} (hn : a.Nodup) (hs : ∀ x ∈ a, x ∈ b) (hl : b.length ≤ a.length) : ∀ x ∈ b, x ∈ a := by
  intro x hx
  refine Classical.byContradiction fun h => ?_
  have := nodup_le (a := x :: a) (b := b) (List.nodup_cons.2 ⟨h, hn⟩) fun y hy => by
    rcases List.mem_cons.1 hy with rfl | hy
    · exact hx
    · exact hs y hy
  simp only [List.length_cons] at this
  omega
theorem nodup_len {α : Type} [DecidableEq α] {a b : List α} (ha : a.Nodup) (hb : b.Nodup) (h : ∀ x, x ∈ a ↔ x ∈ b) : a.length = b.length :=
  Nat.le_antisymm (nodup_le ha fun x hx => (h x).1 hx) (nodup_le hb fun x hx => (h x).2 hx)

/-- A center: how many are out, the racks that were taken of, who waits. -/
structure Qs where
  n : Nat
  seen : List ByteArray
  ws : List ByteArray
def qstep (R : Nat) (N : Int) (q : Qs) (r h : ByteArray) : Qs × List ByteArray :=
  if N ≤ (q.n : Int) then (q, [])
  else if q.seen.length < R ∧ has q.seen r = true then ({ q with ws := q.ws ++ [h] }, [])
  else if q.seen.length = R then ({ q with n := q.n + 1 }, [h])
  else if q.seen.length + 1 = R then ({ n := q.n + 1 + (q.ws.take (N - (q.n + 1 : Nat)).toNat).length, seen := q.seen ++ [r], ws := q.ws }, h :: q.ws.take (N - (q.n + 1 : Nat)).toNat)
  else ({ n := q.n + 1, seen := q.seen ++ [r], ws := q.ws }, [h])
def qall (R : Nat) (N : Int) : Qs → List Si → List (List ByteArray)
  | _, [] => []
  | q, s :: T => (qstep R N q s.2.2 s.1).2 :: qall R N (qstep R N q s.2.2 s.1).1 T

structure KQ (K : List ByteArray) (N : Int) (M i : Nat) (c : Cr) (q : Qs) : Prop where
  need : c.need = max (min (M : Int) N) 0
  tk : c.tk = q.n
  keys : c.racks.map (·.1) = K
  nd : K.Nodup
  val : ∀ r b, aget r c.racks = some b → (b = true ↔ r ∈ q.seen)
  snd : q.seen.Nodup
  sub : ∀ r ∈ q.seen, r ∈ K
  ws : q.seen.length < K.length → c.ws = q.ws
  low : q.n ≤ i
  room : q.seen.length < K.length → q.n + q.ws.length ≤ i
theorem aget_key {m : List (ByteArray × Bool)} {r : ByteArray} (h : r ∈ m.map (·.1)) : ∃ b, aget r m = some b := by
  cases e : aget r m with
  | some b => exact ⟨b, rfl⟩
  | none =>
    obtain ⟨p, hp, rfl⟩ := List.mem_map.1 h
    exact absurd rfl (aget_eq_none.1 e p hp)
theorem all_seen_iff {m : List (ByteArray × Bool)} {K seen : List ByteArray} (hk : m.map (·.1) = K) (nd : K.Nodup) (hv : ∀ r b, aget r m = some b → (b = true ↔ r ∈ seen)) (hs : seen.Nodup) (hsub : ∀ r ∈ seen, r ∈ K) :
    m.all (·.2) = true ↔ seen.length = K.length := by
  constructor
  · intro h
    rw [List.all_eq_true] at h
    refine Nat.le_antisymm (nodup_le hs hsub) (nodup_le nd fun r hr => ?_)
    rw [← hk] at hr
    obtain ⟨b, hb⟩ := aget_key hr
    have := h _ (aget_mem hb)
    exact (hv r b hb).1 this
  · intro h
    rw [List.all_eq_true]
    rintro ⟨r, b⟩ hp
    have hr : r ∈ K := hk ▸ List.mem_map.2 ⟨_, hp, rfl⟩
    exact (hv r b (aget_of_mem (hk ▸ nd) hp)).2 (nodup_sup hs hsub (by omega) r hr)
theorem has_mem {l : List ByteArray} {h : ByteArray} : has l h = true ↔ h ∈ l := has_iff
theorem KQ.step {K : List ByteArray} {N : Int} {M i : Nat} {c : Cr} {q : Qs} (H : KQ K N M i c q) (hi : i < M) {r h : ByteArray} (hr : r ∈ K) :
    (kstep c r h).2 = (qstep K.length N q r h).2 ∧ KQ K N M (i + 1) (kstep c r h).1 (qstep K.length N q r h).1 := by
  have hall := all_seen_iff H.keys H.nd H.val H.snd H.sub
  have hle := nodup_le H.snd H.sub
  have hlow := H.low
  have hneed := H.need
  have htk := H.tk
  have hfull : c.need ≤ (c.tk : Int) ↔ N ≤ (q.n : Int) := by omega
  unfold kstep qstep
  by_cases h1 : N ≤ (q.n : Int)
  · rw [if_pos h1, if_pos (hfull.2 h1)]
    exact ⟨rfl, ⟨H.need, H.tk, H.keys, H.nd, H.val, H.snd, H.sub, H.ws, by show q.n ≤ i + 1; omega, fun e => by have := H.room e; show q.n + q.ws.length ≤ i + 1; omega⟩⟩
  · rw [if_neg h1, if_neg (fun e => h1 (hfull.1 e))]
    by_cases h2 : q.seen.length = K.length
    · rw [if_pos (hall.2 h2), if_neg (fun e => by omega), if_pos h2]
      exact ⟨rfl, ⟨H.need, by show c.tk + 1 = q.n + 1; omega, H.keys, H.nd, H.val, H.snd, H.sub, fun e => absurd h2 (Nat.ne_of_lt e), by show q.n + 1 ≤ i + 1; omega, fun e => absurd h2 (Nat.ne_of_lt e)⟩⟩
    · rw [if_neg (fun e => h2 (hall.1 e))]
      have hlt : q.seen.length < K.length := by omega
      obtain ⟨b, hb⟩ := aget_key (m := c.racks) (r := r) (by rw [H.keys]; exact hr)
      have hbv := H.val r b hb
      have hroom := H.room hlt
      by_cases h3 : has q.seen r = true
      · have hbt : b = true := hbv.2 (has_iff.1 h3)
        rw [if_pos (by rw [hb, hbt]), if_pos ⟨hlt, h3⟩]
        refine ⟨rfl, ⟨H.need, H.tk, H.keys, H.nd, H.val, H.snd, H.sub, fun e => by show c.ws ++ [h] = q.ws ++ [h]; rw [H.ws hlt], by show q.n ≤ i + 1; omega, fun e => ?_⟩⟩
        show q.n + (q.ws ++ [h]).length ≤ i + 1
        rw [List.length_append]; simp; omega
      · have hbt : ¬ b = true := fun e => h3 (has_iff.2 (hbv.1 e))
        have hrs : r ∉ q.seen := fun e => h3 (has_iff.2 e)
        rw [if_neg (by rw [hb]; simpa using hbt), if_neg (show ¬ (q.seen.length < K.length ∧ has q.seen r = true) from fun e => h3 e.2), if_neg h2]
        have k1 : (aput r true c.racks).map (·.1) = K := by rw [aput_keys (by rw [H.keys]; exact hr), H.keys]
        have v1 : ∀ r' b', aget r' (aput r true c.racks) = some b' → (b' = true ↔ r' ∈ q.seen ++ [r]) := by
          intro r' b' h'
          rw [aget_aput] at h'
          rw [List.mem_append, List.mem_singleton]
          by_cases e : r = r'
          · rw [if_pos e] at h'; cases h'; exact ⟨fun _ => .inr e.symm, fun _ => rfl⟩
          · rw [if_neg e] at h'
            rw [H.val r' b' h']
            exact ⟨.inl, fun h => h.elim id fun e2 => absurd e2.symm e⟩
        have s1 : (q.seen ++ [r]).Nodup := by
          rw [List.nodup_append]
          exact ⟨H.snd, by simp, fun a ha b hb e => by obtain rfl := List.mem_singleton.1 hb; exact hrs (e ▸ ha)⟩
        have u1 : ∀ r' ∈ q.seen ++ [r], r' ∈ K := by
          intro r' h'
          rcases List.mem_append.1 h' with h' | h'
          · exact H.sub r' h'
          · obtain rfl := List.mem_singleton.1 h'; exact hr
        have l1 : (q.seen ++ [r]).length = q.seen.length + 1 := by rw [List.length_append]; rfl
        have hall1 := all_seen_iff k1 H.nd v1 s1 u1
        rw [l1] at hall1
        by_cases h4 : q.seen.length + 1 = K.length
        · rw [if_pos h4, if_pos (hall1.2 h4)]
          have hws := H.ws hlt
          have e0 : (c.marked r).room = (c.need - (c.tk + 1 : Nat)).toNat := rfl
          have hw : c.ws.take (c.marked r).room = q.ws.take (N - (q.n + 1 : Nat)).toNat := by
            rw [hws, e0]
            by_cases h5 : N ≤ (M : Int)
            · have : (c.need - (c.tk + 1 : Nat)).toNat = (N - (q.n + 1 : Nat)).toNat := by omega
              rw [this]
            · rw [List.take_of_length_le (by omega), List.take_of_length_le (by omega)]
          refine ⟨by rw [hw], ⟨H.need, ?_, k1, H.nd, v1, s1, u1, fun e => ?_, ?_, fun e => ?_⟩⟩
          · show c.tk + 1 + min c.ws.length (c.marked r).room = q.n + 1 + (q.ws.take _).length
            rw [← hw, List.length_take, htk, Nat.min_comm]
          · exact absurd e (by show ¬ (q.seen ++ [r]).length < _; omega)
          · show q.n + 1 + (q.ws.take _).length ≤ i + 1
            rw [List.length_take]; omega
          · exact absurd e (by show ¬ (q.seen ++ [r]).length < _; omega)
        · rw [if_neg h4, if_neg (fun e => h4 (hall1.1 e))]
          exact ⟨rfl, ⟨H.need, by show c.tk + 1 = q.n + 1; omega, k1, H.nd, v1, s1, u1, fun _ => H.ws hlt, by show q.n + 1 ≤ i + 1; omega, fun _ => by show q.n + 1 + q.ws.length ≤ i + 1; omega⟩⟩
theorem kall_q {K : List ByteArray} {N : Int} {M : Nat} : ∀ (H : List Si) (i : Nat) (c : Cr) (q : Qs), KQ K N M i c q → i + H.length = M → (∀ s ∈ H, s.2.2 ∈ K) → kall c H = qall K.length N q H
  | [], _, _, _, _, _, _ => rfl
  | s :: H, i, c, q, h, hm, hk => by
    have h1 := h.step (by simp at hm; omega) (r := s.2.2) (h := s.1) (hk s (List.mem_cons_self ..))
    rw [kall, qall, h1.1, kall_q H (i + 1) _ _ h1.2 (by simp at hm; omega) fun s hs => hk s (List.mem_cons_of_mem _ hs)]
def q0 : Qs := ⟨0, [], []⟩
def racksOf (H : List Si) : List ByteArray := uniq [] (H.map (·.2.2))
theorem fold_keys : ∀ (H : List Si) (m : List (ByteArray × Bool)), (H.foldl (fun m s => aput s.2.2 false m) m).map (·.1) = uniq (m.map (·.1)) (H.map (·.2.2))
  | [], _ => by simp [uniq]
  | s :: H, m => by
    rw [List.foldl_cons, fold_keys H, List.map_cons, uniq]
    by_cases e : has (m.map (·.1)) s.2.2 = true
    · rw [if_pos e, aput_keys (has_iff.1 e)]
    · rw [if_neg e]
      have : aget s.2.2 m = none := aget_eq_none.2 fun p hp e2 => e (has_iff.2 (List.mem_map.2 ⟨p, hp, e2⟩))
      rw [aput_none (aget_eq_none.1 this)]
      simp
theorem fold_false : ∀ (H : List Si) (m : List (ByteArray × Bool)), (∀ r b, aget r m = some b → b = false) → ∀ r b, aget r (H.foldl (fun m s => aput s.2.2 false m) m) = some b → b = false
  | [], _, h, r, b, e => h r b e
  | s :: H, m, h, r, b, e => by
    refine fold_false H _ (fun r b e => ?_) r b e
    rw [aget_aput] at e
    by_cases h1 : s.2.2 = r
    · rw [if_pos h1] at e; cases e; rfl
    · rw [if_neg h1] at e; exact h r b e
theorem KQ.start (g mr : Nat) (n : Int) (H : List Si) : KQ (racksOf H) n H.length 0 (cen0 g mr n H) q0 := by
  refine ⟨rfl, rfl, fold_keys H [], uniq_nodup _ _ .nil, fun r b e => ?_, .nil, fun r h => by simp [q0] at h, fun _ => rfl, Nat.le_refl _, fun _ => Nat.le_refl _⟩
  have : b = false := fold_false H [] (fun r b e => by simp [aget] at e) r b e
  subst this
  simp [q0]
theorem racks_mem {H : List Si} {s : Si} (h : s ∈ H) : s.2.2 ∈ racksOf H := (uniq_mem _ _ _).2 (.inr (List.mem_map.2 ⟨s, h, rfl⟩))
/-- One center's hosts, as the document counts them. -/
theorem kall_start (g mr : Nat) (n : Int) (H : List Si) : kall (cen0 g mr n H) H = qall (racksOf H).length n q0 H :=
  kall_q H 0 _ _ (KQ.start g mr n H) (by simp) fun _ h => racks_mem h

/-! The document's order: who goes out of one center at a place of the walk. -/
def atQ (R : Nat) (N : Int) (d : ByteArray) : Qs → List Si → Nat → List ByteArray
  | _, [], _ => []
  | q, s :: _, 0 => if s.2.1 = d then (qstep R N q s.2.2 s.1).2 else []
  | q, s :: T, i + 1 => atQ R N d (if s.2.1 = d then (qstep R N q s.2.2 s.1).1 else q) T i
theorem runT_at {K : List ByteArray} {N : Int} {M : Nat} {d : ByteArray} : ∀ (T : List Si) (cs : List (ByteArray × Cr)) (j : Nat) (c : Cr) (q : Qs), aget d cs = some c → KQ K N M j c q → j + (ofDc d T).length = M → (∀ s ∈ ofDc d T, s.2.2 ∈ K) →
    ∀ i g, (runT cs T)[i]? = some (d, g) → atQ K.length N d q T i = g
  | [], _, _, _, _, _, _, _, _, i, g, h => by simp [runT] at h
  | s :: T, cs, j, c, q, hc, hq, hm, hk, i, g, h => by
    by_cases e : s.2.1 = d
    · have e2 : ofDc d (s :: T) = s :: ofDc d T := by unfold ofDc; rw [List.filter_cons, decide_eq_true e, if_pos rfl]
      rw [e2] at hm hk
      have h1 := hq.step (by simp at hm; omega) (r := s.2.2) (h := s.1) (hk s (List.mem_cons_self ..))
      rw [runT, e, hc] at h
      cases i with
      | zero =>
        simp only [List.getElem?_cons_zero, Option.some.injEq, Prod.mk.injEq, true_and] at h
        rw [atQ, if_pos e, ← h1.1, h]
      | succ i =>
        simp only [List.getElem?_cons_succ] at h
        rw [atQ, if_pos e]
        exact runT_at T _ (j + 1) _ _ (by rw [aget_aput, if_pos rfl]) h1.2 (by simp at hm; omega) (fun s hs => hk s (List.mem_cons_of_mem _ hs)) i g h
    · have e2 : ofDc d (s :: T) = ofDc d T := by unfold ofDc; rw [List.filter_cons, decide_eq_false e]; rfl
      rw [e2] at hm hk
      rw [runT] at h
      cases i with
      | zero =>
        exfalso
        cases hd : aget s.2.1 cs with
        | none => rw [hd] at h; simp at h; exact e h.1
        | some c' => rw [hd] at h; simp at h; exact e h.1
      | succ i =>
        rw [atQ, if_neg e]
        cases hd : aget s.2.1 cs with
        | none =>
          rw [hd] at h
          simp only [List.getElem?_cons_succ] at h
          exact runT_at T cs j c q hc hq hm hk i g h
        | some c' =>
          rw [hd] at h
          simp only [List.getElem?_cons_succ] at h
          exact runT_at T _ j c q (by rw [aget_aput, if_neg e]; exact hc) hq hm hk i g h
theorem atQ_other {R : Nat} {N : Int} {d : ByteArray} : ∀ (T : List Si) (q : Qs) (i : Nat) (s : Si), T[i]? = some s → s.2.1 ≠ d → atQ R N d q T i = []
  | [], _, _, _, h, _ => by simp at h
  | s :: T, q, 0, s', h, e => by
    simp only [List.getElem?_cons_zero, Option.some.injEq] at h
    subst h
    rw [atQ, if_neg e]
  | s :: T, q, i + 1, s', h, e => by
    rw [atQ]
    exact atQ_other T _ i s' (by simpa using h) e
/-- The document's answer, at a place: all centers' hosts that go out there. -/
def refAt (T : List Si) (fs : List Fa) (i : Nat) : List ByteArray := fs.flatMap fun f => atQ (racksOf (ofDc f.1 T)).length f.2 f.1 q0 T i
def refOut (T : List Si) (fs : List Fa) : List ByteArray := (List.range T.length).flatMap (refAt T fs)
theorem flat_one {β γ : Type} {f : β → List γ} {x : β} : ∀ {l : List β}, (∀ y ∈ l, y ≠ x → f y = []) → l.Nodup → x ∈ l → l.flatMap f = f x
  | [], _, _, h => by simp at h
  | y :: l, hf, hn, h => by
    have hn' : y ∉ l ∧ l.Nodup := List.nodup_cons.1 hn
    rw [List.flatMap_cons]
    by_cases e : y = x
    · subst e
      have : l.flatMap f = [] := List.flatMap_eq_nil_iff.2 fun z hz => hf z (List.mem_cons_of_mem _ hz) fun e => hn'.1 (e ▸ hz)
      rw [this, List.append_nil]
    · rw [hf y (List.mem_cons_self ..) e, List.nil_append]
      refine flat_one (fun z hz => hf z (List.mem_cons_of_mem _ hz)) hn'.2 ?_
      rcases List.mem_cons.1 h with h | h
      · exact absurd h.symm e
      · exact h
theorem run_ref {fs : List Fa} {T : List Si} {cs : List (ByteArray × Cr)} (hn : (fs.map (·.1)).Nodup) (h1 : ∀ d n, (d, n) ∈ fs → ∃ g mr, aget d cs = some (cen0 g mr n (ofDc d T))) (h2 : ∀ d, d ∉ fs.map (·.1) → aget d cs = none) :
    (runT cs T).flatMap (·.2) = refOut T fs := by
  have hnf : fs.Nodup := by
    have := List.pairwise_map.1 hn
    exact this.imp fun h e => h (by rw [e])
  have hlen := runT_len T cs
  have key : ∀ i, i < T.length → ∀ p, (runT cs T)[i]? = some p → p.2 = refAt T fs i := by
    rintro i hi ⟨d, g⟩ hp
    obtain ⟨s, hs⟩ : ∃ s, T[i]? = some s := ⟨_, List.getElem?_eq_getElem hi⟩
    have hdc : s.2.1 = d := by
      have := congrArg (fun l => l[i]?) (runT_dc T cs)
      simp only [List.getElem?_map, hp, hs, Option.map_some, Option.some.injEq] at this
      exact this.symm
    by_cases hd : d ∈ fs.map (·.1)
    · obtain ⟨⟨d', n⟩, hf, rfl⟩ := List.mem_map.1 hd
      obtain ⟨ge, mr, hc⟩ := h1 d' n hf
      have h := runT_at T cs 0 _ _ hc (KQ.start ge mr n (ofDc d' T)) (by simp) (fun _ h => racks_mem h) i g hp
      unfold refAt
      rw [flat_one (x := (d', n)) ?_ hnf hf]
      · exact h.symm
      · rintro ⟨d2, n2⟩ hf2 hne
        refine atQ_other T q0 i s hs fun e => hne ?_
        have e1 : d' = d2 := hdc.symm.trans e
        have := aget_of_mem hn hf
        have h3 := aget_of_mem hn hf2
        rw [← e1, this] at h3
        cases h3
        rw [e1]
    · have h := runT_none T cs (h2 d hd) (d, g) (List.mem_of_getElem? hp) rfl
      have h3 : g = [] := h
      subst h3
      symm
      refine List.flatMap_eq_nil_iff.2 fun f hf => atQ_other T q0 i s hs fun e => hd ?_
      rw [← hdc, e]
      exact List.mem_map.2 ⟨f, hf, rfl⟩
  unfold refOut
  have e : runT cs T = (List.range T.length).map fun i => ((runT cs T)[i]?).getD (⟨#[]⟩, []) := by
    refine List.ext_getElem? fun i => ?_
    rw [List.getElem?_map]
    by_cases hi : i < T.length
    · rw [List.getElem?_range hi]
      obtain ⟨p, hp⟩ : ∃ p, (runT cs T)[i]? = some p := ⟨_, List.getElem?_eq_getElem (by omega)⟩
      simp [hp]
    · rw [List.getElem?_eq_none (by omega), List.getElem?_eq_none (by simp; omega)]; rfl
  rw [e, List.flatMap_map]
  unfold List.flatMap
  refine congrArg List.flatten (List.map_congr_left fun i hi => ?_)
  have hi' : i < T.length := by simpa using hi
  obtain ⟨p, hp⟩ : ∃ p, (runT cs T)[i]? = some p := ⟨_, List.getElem?_eq_getElem (by omega)⟩
  rw [hp]
  exact key i hi' p hp
end Go.Proofs.Ytjdjfikeiphgpaa

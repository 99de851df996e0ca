/- The reference of chapter 14, one center: its steps, plainly. -/
import Derived.Test.YtjdjfikeiphgpaaRpPure3
import Derived.Test.YtjdjfikeiphgpaaR4Site
namespace Go.Proofs.Ytjdjfikeiphgpaa
set_option linter.unusedVariables false

def qE (R : Nat) (N : Int) (q : Qs) (E : List (Si × Nat)) : Qs := qaft R N q (E.map (·.1))
theorem oneQ_append (R : Nat) (N : Int) (B : List (Si × Nat)) : ∀ (A : List (Si × Nat)) (q : Qs), oneQ R N q (A ++ B) = oneQ R N q A ++ oneQ R N (qE R N q A) B
  | [], _ => rfl
  | (s, i) :: A, q => by
    rw [List.cons_append, oneQ, oneQ, oneQ_append R N B A, List.append_assoc]
    rfl
theorem oneQ_full {R : Nat} {N : Int} : ∀ (E : List (Si × Nat)) {q : Qs}, N ≤ (q.n : Int) → oneQ R N q E = []
  | [], _, _ => rfl
  | (s, i) :: E, q, h => by
    have e : qstep R N q s.2.2 s.1 = (q, []) := by unfold qstep; rw [if_pos h]
    rw [oneQ, e]
    exact oneQ_full E h
theorem qE_snoc (R : Nat) (N : Int) (q : Qs) (A : List (Si × Nat)) (s : Si) (i : Nat) : qE R N q (A ++ [(s, i)]) = (qstep R N (qE R N q A) s.2.2 s.1).1 := by
  unfold qE; rw [List.map_append]; exact qaft_snoc R N s _ _
theorem oneQ_snoc (R : Nat) (N : Int) (q : Qs) (A : List (Si × Nat)) (s : Si) (i : Nat) : oneQ R N q (A ++ [(s, i)]) = oneQ R N q A ++ (qstep R N (qE R N q A) s.2.2 s.1).2.map fun h => (h, i) := by
  rw [oneQ_append, oneQ, oneQ, List.append_nil]
theorem enum_step {T : List Si} {d : ByteArray} {i : Nat} {s : Si} (h : T[i]? = some s) : ofDcE d ((T.take (i + 1)).zipIdx) = if s.2.1 = d then ofDcE d ((T.take i).zipIdx) ++ [(s, i)] else ofDcE d ((T.take i).zipIdx) := by
  have hl : (T.take i).length = i := by rw [List.length_take]; have := (List.getElem?_eq_some_iff.1 h).1; omega
  have e : T.take (i + 1) = T.take i ++ [s] := by rw [List.take_add_one, h]; rfl
  rw [e, List.zipIdx_append, hl]
  unfold ofDcE
  rw [List.filter_append]
  by_cases hs : s.2.1 = d
  · simp [hs]
  · simp [hs]
theorem racks_step (H : List Si) (s : Si) : racksOf (H ++ [s]) = if has (racksOf H) s.2.2 = true then racksOf H else racksOf H ++ [s.2.2] := by
  unfold racksOf
  rw [List.map_append, uniq_append]
  show uniq _ [s.2.2] = _
  rw [uniq]
  split <;> rfl
/-- The document's way of a step: who goes out ahead, who waited. -/
theorem qstep_full {R : Nat} {N : Int} {q : Qs} {r h : ByteArray} (h1 : N ≤ (q.n : Int)) : qstep R N q r h = (q, []) := by unfold qstep; rw [if_pos h1]
theorem qstep_wait {R : Nat} {N : Int} {q : Qs} {r h : ByteArray} (h1 : ¬ N ≤ (q.n : Int)) (h2 : q.seen.length < R) (h3 : has q.seen r = true) : qstep R N q r h = ({ q with ws := q.ws ++ [h] }, []) := by
  unfold qstep; rw [if_neg h1, if_pos ⟨h2, h3⟩]
theorem qstep_all {R : Nat} {N : Int} {q : Qs} {r h : ByteArray} (h1 : ¬ N ≤ (q.n : Int)) (h2 : q.seen.length = R) : qstep R N q r h = ({ q with n := q.n + 1 }, [h]) := by
  unfold qstep; rw [if_neg h1, if_neg (fun e => by omega), if_pos h2]
theorem qstep_last {R : Nat} {N : Int} {q : Qs} {r h : ByteArray} (h1 : ¬ N ≤ (q.n : Int)) (h2 : q.seen.length + 1 = R) (h3 : has q.seen r = false) : qstep R N q r h = ({ n := q.n + 1 + (q.ws.take (N - (q.n + 1 : Nat)).toNat).length, seen := q.seen ++ [r], ws := q.ws }, h :: q.ws.take (N - (q.n + 1 : Nat)).toNat) := by
  unfold qstep; rw [if_neg h1, if_neg (fun e => by rw [h3] at e; exact absurd e.2 (by simp)), if_neg (by omega), if_pos h2]
theorem qstep_new {R : Nat} {N : Int} {q : Qs} {r h : ByteArray} (h1 : ¬ N ≤ (q.n : Int)) (h2 : q.seen.length + 1 < R) (h3 : has q.seen r = false) : qstep R N q r h = ({ n := q.n + 1, seen := q.seen ++ [r], ws := q.ws }, [h]) := by
  unfold qstep; rw [if_neg h1, if_neg (fun e => by rw [h3] at e; exact absurd e.2 (by simp)), if_neg (by omega), if_neg (by omega)]
theorem ws_le (R : Nat) (N : Int) : ∀ (H : List Si) (q : Qs), (qaft R N q H).ws.length ≤ q.ws.length + H.length
  | [], q => Nat.le_refl _
  | s :: H, q => by
    have h : (qaft R N (qstep R N q s.2.2 s.1).1 H).ws.length ≤ (qstep R N q s.2.2 s.1).1.ws.length + H.length := ws_le R N H _
    have h2 : (qstep R N q s.2.2 s.1).1.ws.length ≤ q.ws.length + 1 := by
      unfold qstep
      split
      · exact Nat.le_succ _
      · split
        · simp
        · split
          · exact Nat.le_succ _
          · split <;> exact Nat.le_succ _
    show (qaft R N (qstep R N q s.2.2 s.1).1 H).ws.length ≤ _
    simp only [List.length_cons]; omega
theorem one_flat (R : Nat) (N : Int) : ∀ (E : List (Si × Nat)) (q : Qs), (oneQ R N q E).map (·.1) = (qall R N q (E.map (·.1))).flatten
  | [], _ => rfl
  | (s, i) :: E, q => by
    rw [oneQ, List.map_append, one_flat R N E, List.map_cons, qall, List.flatten_cons, List.map_map]
    have : ((fun x : ByteArray × Nat => x.1) ∘ fun h => (h, i)) = id := rfl
    rw [this, List.map_id]
theorem qE_le {N : Int} (E : List (Si × Nat)) (hn : ((E.map (·.1)).map (·.1)).Nodup) (i : Nat) (hi : i ≤ E.length) :
    (qE (racksOf (E.map (·.1))).length N q0 (E.take i)).seen.length ≤ (racksOf (E.map (·.1))).length ∧ (qE (racksOf (E.map (·.1))).length N q0 (E.take i)).ws.length ≤ i ∧ (qE (racksOf (E.map (·.1))).length N q0 (E.take i)).n = (oneQ (racksOf (E.map (·.1))).length N q0 (E.take i)).length ∧
      (qE (racksOf (E.map (·.1))).length N q0 (E.take i)).n ≤ i := by
  generalize hH : E.map (·.1) = H at *
  have hrk : ∀ s ∈ H, (fun h => ((aget h H).map (·.2)).getD noStr) s.1 = s.2.2 := by
    intro s hs
    have : aget s.1 H = some s.2 := aget_of_mem hn hs
    simp [this]
  have I := QI.all_ (K := racksOf H) (N := N) (rk := fun h => ((aget h H).map (·.2)).getD noStr) H (fun s hs => racks_mem hs) hrk hn i (by rw [← hH]; simpa using hi)
  have he : (E.take i).map (·.1) = H.take i := by rw [List.map_take, hH]
  have hq : qE (racksOf H).length N q0 (E.take i) = qaft (racksOf H).length N q0 (H.take i) := by unfold qE; rw [he]
  have hf := one_flat (racksOf H).length N (E.take i) q0
  rw [he] at hf
  rw [hq]
  have hw := ws_le (racksOf H).length N (H.take i) q0
  have hl : (H.take i).length = i := by rw [← he, List.length_map, List.length_take]; omega
  refine ⟨nodup_le I.snd I.sub, by rw [hl] at hw; simpa [q0] using hw, by rw [← I.n, ← hf, List.length_map], ?_⟩
  rw [← I.n]
  have := nodup_le (List.nodup_append.1 I.nd).1 fun h hh => I.inP h (List.mem_append_left _ hh)
  rw [List.length_map, hl] at this
  exact this
theorem qstep_go {R : Nat} {N : Int} {q : Qs} {r : ByteArray} (h : ByteArray) (h1 : ¬ N ≤ (q.n : Int)) (h2 : q.seen.length < R) (h3 : has q.seen r = false) :
    ∃ m, m ≤ q.ws.length ∧ (∀ k, k ≤ m → (k < m ↔ (k < q.ws.length ∧ q.seen.length + 1 = R ∧ ((q.n + 1 + k : Nat) : Int) < N))) ∧ qstep R N q r h = (⟨q.n + 1 + m, q.seen ++ [r], q.ws⟩, h :: q.ws.take m) := by
  by_cases h4 : q.seen.length + 1 = R
  · refine ⟨min q.ws.length (N - (q.n + 1 : Nat)).toNat, Nat.min_le_left _ _, fun k hk => ?_, ?_⟩
    · omega
    · rw [qstep_last h1 h4 h3]
      have e : q.ws.take (N - (q.n + 1 : Nat)).toNat = q.ws.take (min q.ws.length (N - (q.n + 1 : Nat)).toNat) := by
        by_cases h5 : q.ws.length ≤ (N - (q.n + 1 : Nat)).toNat
        · rw [List.take_of_length_le h5, Nat.min_eq_left h5, List.take_length]
        · rw [Nat.min_eq_right (by omega)]
      rw [e, List.length_take]
      have e2 : min (min q.ws.length (N - (q.n + 1 : Nat)).toNat) q.ws.length = min q.ws.length (N - (q.n + 1 : Nat)).toNat := by omega
      rw [e2]
  · refine ⟨0, Nat.zero_le _, fun k hk => ?_, ?_⟩
    · constructor
      · intro e; omega
      · intro e; exact absurd e.2.1 h4
    · rw [qstep_new h1 (by omega) h3]; rfl
theorem zip_fst {d : ByteArray} : ∀ (T : List Si) (k : Nat), (ofDcE d (T.zipIdx k)).map (·.1) = ofDc d T
  | [], _ => rfl
  | s :: T, k => by
    have ih := zip_fst (d := d) T (k + 1)
    unfold ofDcE ofDc at *
    rw [List.zipIdx_cons, List.filter_cons, List.filter_cons]
    by_cases e : s.2.1 = d
    · simp only [decide_eq_true e, if_true, List.map_cons, ih]
    · simp only [decide_eq_false e, Bool.false_eq_true, if_false, ih]
end Go.Proofs.Ytjdjfikeiphgpaa

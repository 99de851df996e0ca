/- The reference of chapter 14, one center: its steps, plainly · The reference of chapter 14, one center: the walk · The reference of chapter 14: Network, the walk · replica.Simple and the document's: the first hosts of a walk · A ring as the laws see it (new, walk): a pointer, nil where it was refused; its places · replica.Network and the document's, as the laws see them: both hand back the same · plan, plainly: a token's hosts, hosts by turns, the plan; what it holds. No program is named · A table as the plan's laws see it: a pointer, nil too; its hosts; replica.Network over its ring. -/
import Derived.Test.YtepikngkbondgaaGreatMg07
import Derived.Test.YtepikngkbondgaaGreatMg04
import Derived.Test.YtepikngkbondgaaGreatMg06
import Derived.Test.YtepikngkbondgaaGreatMg05
import Derived.Test.YtepikngkbondgaaGreatMg02
namespace Go.Proofs.YtepikngkbondgaaGreat
set_option linter.unusedVariables false

def qE (R : Nat) (N : Int) (q : Qs) (E : List (Si × Nat)) : Qs := qaft R N q (E.map (·.1))
theorem oneQ_append (R : Nat) (N : Int) (B : List (Si × Nat)) : ∀ (A : List (Si × Nat)) (q : Qs), oneQ R N q (A ++ B) = oneQ R N q A ++ oneQ R N (qE R N q A) B
  | [], _ => rfl
  | (s, i) :: A, q => by
    rw [List.cons_append, oneQ, oneQ, oneQ_append R N B A, List.append_assoc]
    rfl
theorem oneQ_full {R : Nat} {N : Int} : ∀ (E : List (Si × Nat)) {q : Qs}, N ≤ (q.n : Int) → oneQ R N q E = []
  | [], _, _ => rfl
  | (s, i) :: E, q, h => by
    have e : qstep R N q s.2.2 s.1 = (q, []) := by unfold qstep; rw [if_pos h]
    rw [oneQ, e]
    exact oneQ_full E h
theorem qE_snoc (R : Nat) (N : Int) (q : Qs) (A : List (Si × Nat)) (s : Si) (i : Nat) : qE R N q (A ++ [(s, i)]) = (qstep R N (qE R N q A) s.2.2 s.1).1 := by
  unfold qE; rw [List.map_append]; exact qaft_snoc R N s _ _
theorem oneQ_snoc (R : Nat) (N : Int) (q : Qs) (A : List (Si × Nat)) (s : Si) (i : Nat) : oneQ R N q (A ++ [(s, i)]) = oneQ R N q A ++ (qstep R N (qE R N q A) s.2.2 s.1).2.map fun h => (h, i) := by
  rw [oneQ_append, oneQ, oneQ, List.append_nil]
theorem enum_step {T : List Si} {d : ByteArray} {i : Nat} {s : Si} (h : T[i]? = some s) : ofDcE d ((T.take (i + 1)).zipIdx) = if s.2.1 = d then ofDcE d ((T.take i).zipIdx) ++ [(s, i)] else ofDcE d ((T.take i).zipIdx) := by
  have hl : (T.take i).length = i := by rw [List.length_take]; have := (List.getElem?_eq_some_iff.1 h).1; omega
  have e : T.take (i + 1) = T.take i ++ [s] := by rw [List.take_add_one, h]; rfl
  rw [e, List.zipIdx_append, hl]
  unfold ofDcE
  rw [List.filter_append]
  by_cases hs : s.2.1 = d
  · simp [hs]
  · simp [hs]
theorem racks_step (H : List Si) (s : Si) : racksOf (H ++ [s]) = if has (racksOf H) s.2.2 = true then racksOf H else racksOf H ++ [s.2.2] := by
  unfold racksOf
  rw [List.map_append, uniq_append]
  show uniq _ [s.2.2] = _
  rw [uniq]
  split <;> rfl
/-- The document's way of a step: who goes out ahead, who waited. -/
theorem qstep_full {R : Nat} {N : Int} {q : Qs} {r h : ByteArray} (h1 : N ≤ (q.n : Int)) : qstep R N q r h = (q, []) := by unfold qstep; rw [if_pos h1]
theorem qstep_wait {R : Nat} {N : Int} {q : Qs} {r h : ByteArray} (h1 : ¬ N ≤ (q.n : Int)) (h2 : q.seen.length < R) (h3 : has q.seen r = true) : qstep R N q r h = ({ q with ws := q.ws ++ [h] }, []) := by
  unfold qstep; rw [if_neg h1, if_pos ⟨h2, h3⟩]
theorem qstep_all {R : Nat} {N : Int} {q : Qs} {r h : ByteArray} (h1 : ¬ N ≤ (q.n : Int)) (h2 : q.seen.length = R) : qstep R N q r h = ({ q with n := q.n + 1 }, [h]) := by
  unfold qstep; rw [if_neg h1, if_neg (fun e => by omega), if_pos h2]
theorem qstep_last {R : Nat} {N : Int} {q : Qs} {r h : ByteArray} (h1 : ¬ N ≤ (q.n : Int)) (h2 : q.seen.length + 1 = R) (h3 : has q.seen r = false) : qstep R N q r h = ({ n := q.n + 1 + (q.ws.take (N - (q.n + 1 : Nat)).toNat).length, seen := q.seen ++ [r], ws := q.ws }, h :: q.ws.take (N - (q.n + 1 : Nat)).toNat) := by
  unfold qstep; rw [if_neg h1, if_neg (fun e => by rw [h3] at e; exact absurd e.2 (by simp)), if_neg (by omega), if_pos h2]
theorem qstep_new {R : Nat} {N : Int} {q : Qs} {r h : ByteArray} (h1 : ¬ N ≤ (q.n : Int)) (h2 : q.seen.length + 1 < R) (h3 : has q.seen r = false) : qstep R N q r h = ({ n := q.n + 1, seen := q.seen ++ [r], ws := q.ws }, [h]) := by
  unfold qstep; rw [if_neg h1, if_neg (fun e => by rw [h3] at e; exact absurd e.2 (by simp)), if_neg (by omega), if_neg (by omega)]
theorem ws_le (R : Nat) (N : Int) : ∀ (H : List Si) (q : Qs), (qaft R N q H).ws.length ≤ q.ws.length + H.length
  | [], q => Nat.le_refl _
  | s :: H, q => by
    have h : (qaft R N (qstep R N q s.2.2 s.1).1 H).ws.length ≤ (qstep R N q s.2.2 s.1).1.ws.length + H.length := ws_le R N H _
    have h2 : (qstep R N q s.2.2 s.1).1.ws.length ≤ q.ws.length + 1 := by
      unfold qstep
      split
      · exact Nat.le_succ _
      · split
        · simp
        · split
          · exact Nat.le_succ _
          · split <;> exact Nat.le_succ _
    show (qaft R N (qstep R N q s.2.2 s.1).1 H).ws.length ≤ _
    simp only [List.length_cons]; omega
theorem one_flat (R : Nat) (N : Int) : ∀ (E : List (Si × Nat)) (q : Qs), (oneQ R N q E).map (·.1) = (qall R N q (E.map (·.1))).flatten
  | [], _ => rfl
  | (s, i) :: E, q => by
    rw [oneQ, List.map_append, one_flat R N E, List.map_cons, qall, List.flatten_cons, List.map_map]
    have : ((fun x : ByteArray × Nat => x.1) ∘ fun h => (h, i)) = id := rfl
    rw [this, List.map_id]
theorem qE_le {N : Int} (E : List (Si × Nat)) (hn : ((E.map (·.1)).map (·.1)).Nodup) (i : Nat) (hi : i ≤ E.length) :
    (qE (racksOf (E.map (·.1))).length N q0 (E.take i)).seen.length ≤ (racksOf (E.map (·.1))).length ∧ (qE (racksOf (E.map (·.1))).length N q0 (E.take i)).ws.length ≤ i ∧ (qE (racksOf (E.map (·.1))).length N q0 (E.take i)).n = (oneQ (racksOf (E.map (·.1))).length N q0 (E.take i)).length ∧
      (qE (racksOf (E.map (·.1))).length N q0 (E.take i)).n ≤ i := by
  generalize hH : E.map (·.1) = H at *
  have hrk : ∀ s ∈ H, (fun h => ((aget h H).map (·.2)).getD noStr) s.1 = s.2.2 := by
    intro s hs
    have : aget s.1 H = some s.2 := aget_of_mem hn hs
    simp [this]
  have I := QI.all_ (K := racksOf H) (N := N) (rk := fun h => ((aget h H).map (·.2)).getD noStr) H (fun s hs => racks_mem hs) hrk hn i (by rw [← hH]; simpa using hi)
  have he : (E.take i).map (·.1) = H.take i := by rw [List.map_take, hH]
  have hq : qE (racksOf H).length N q0 (E.take i) = qaft (racksOf H).length N q0 (H.take i) := by unfold qE; rw [he]
  have hf := one_flat (racksOf H).length N (E.take i) q0
  rw [he] at hf
  rw [hq]
  have hw := ws_le (racksOf H).length N (H.take i) q0
  have hl : (H.take i).length = i := by rw [← he, List.length_map, List.length_take]; omega
  refine ⟨nodup_le I.snd I.sub, by rw [hl] at hw; simpa [q0] using hw, by rw [← I.n, ← hf, List.length_map], ?_⟩
  rw [← I.n]
  have := nodup_le (List.nodup_append.1 I.nd).1 fun h hh => I.inP h (List.mem_append_left _ hh)
  rw [List.length_map, hl] at this
  exact this
theorem qstep_go {R : Nat} {N : Int} {q : Qs} {r : ByteArray} (h : ByteArray) (h1 : ¬ N ≤ (q.n : Int)) (h2 : q.seen.length < R) (h3 : has q.seen r = false) :
    ∃ m, m ≤ q.ws.length ∧ (∀ k, k ≤ m → (k < m ↔ (k < q.ws.length ∧ q.seen.length + 1 = R ∧ ((q.n + 1 + k : Nat) : Int) < N))) ∧ qstep R N q r h = (⟨q.n + 1 + m, q.seen ++ [r], q.ws⟩, h :: q.ws.take m) := by
  by_cases h4 : q.seen.length + 1 = R
  · refine ⟨min q.ws.length (N - (q.n + 1 : Nat)).toNat, Nat.min_le_left _ _, fun k hk => ?_, ?_⟩
    · omega
    · rw [qstep_last h1 h4 h3]
      have e : q.ws.take (N - (q.n + 1 : Nat)).toNat = q.ws.take (min q.ws.length (N - (q.n + 1 : Nat)).toNat) := by
        by_cases h5 : q.ws.length ≤ (N - (q.n + 1 : Nat)).toNat
        · rw [List.take_of_length_le h5, Nat.min_eq_left h5, List.take_length]
        · rw [Nat.min_eq_right (by omega)]
      rw [e, List.length_take]
      have e2 : min (min q.ws.length (N - (q.n + 1 : Nat)).toNat) q.ws.length = min q.ws.length (N - (q.n + 1 : Nat)).toNat := by omega
      rw [e2]
  · refine ⟨0, Nat.zero_le _, fun k hk => ?_, ?_⟩
    · constructor
      · intro e; omega
      · intro e; exact absurd e.2.1 h4
    · rw [qstep_new h1 (by omega) h3]; rfl
theorem zip_fst {d : ByteArray} : ∀ (T : List Si) (k : Nat), (ofDcE d (T.zipIdx k)).map (·.1) = ofDc d T
  | [], _ => rfl
  | s :: T, k => by
    have ih := zip_fst (d := d) T (k + 1)
    unfold ofDcE ofDc at *
    rw [List.zipIdx_cons, List.filter_cons, List.filter_cons]
    by_cases e : s.2.1 = d
    · simp only [decide_eq_true e, if_true, List.map_cons, ih]
    · simp only [decide_eq_false e, Bool.false_eq_true, if_false, ih]
end Go.Proofs.YtepikngkbondgaaGreat
namespace Go.Proofs.YtepikngkbondgaaGreat
set_option linter.unusedVariables false
open Go.RowKit

theorem intsT : SlT Tryz.prog 123 3 (.int .i64 0) 1 8 := ⟨Tryz.underlying123, by kernel_rfl, rfl, by decide, by decide⟩
def rS (v : Value) (n : Nat) (l : List ByteArray) : Rw := ⟨9, 1, v, n, l.map Value.string⟩
def rI (v : Value) (n : Nat) (l : List Nat) : Rw := ⟨3, 1, v, n, l.map fun (i : Nat) => Value.int .i64 (i : Int)⟩
theorem int_at {w : World} {ok : Nat → TypeId → Prop} {v : Value} {L : List Nat} {n : Nat} (h : SlK w ok 1 v n (L.map fun (i : Nat) => Value.int .i64 (i : Int))) {i : Nat} {s : Nat} (hi : L[i]? = some s) :
    ∃ g off, (∀ kd w', (Instr.indexAt 123 v (.int kd (i : Int))).run Tryz.prog w' = .ok (.pointer (some ⟨g, off, none⟩)) w') ∧ g < w.heap.size ∧ w.cell? ⟨g, off, none⟩ = some (.int .i64 (s : Int)) := by
  have hlt : i < n := by
    have h1 := (List.getElem?_eq_some_iff.1 hi).1
    have h2 := h.len
    rw [List.length_map] at h2
    omega
  obtain ⟨g, off, h1, h2, h4, h3⟩ := h.run_index intsT (i := (i : Int)) (k := i) rfl hlt
  exact ⟨g, off, h1, h2, h3 0 _ (by rw [Nat.mul_one, Nat.add_zero, List.getElem?_map, hi]; rfl)⟩
theorem Fam.slS {w : World} {base : Nat} {L : List Rw} (h : Fam w base L) (i : Nat) {v : Value} {n : Nat} {l : List ByteArray} (hi : L[i]? = some (rS v n l)) : Sl w 9 1 v n (l.map Value.string) := h.sl i hi
theorem Fam.slI {w : World} {base : Nat} {L : List Rw} (h : Fam w base L) (i : Nat) {v : Value} {n : Nat} {l : List Nat} (hi : L[i]? = some (rI v n l)) : Sl w 3 1 v n (l.map fun (i : Nat) => Value.int .i64 (i : Int)) := h.sl i hi
theorem Fam.addS {w W w' : World} {base : Nat} {L : List Rw} {v v' : Value} {n : Nat} {l : List ByteArray} {x : ByteArray} (h : Fam w base L) (i : Nat) (hi : L[i]? = some (rS v n l)) (hk : Kept noBlock w W) (ha : Appended W w' base 9 1 v v' (n + 1) (l.map Value.string ++ [.string x])) : Fam w' base (L.set i (rS v' (n + 1) (l ++ [x]))) := by
  have e : l.map Value.string ++ [.string x] = (l ++ [x]).map Value.string := by simp
  rw [e] at ha
  exact h.app (r := rS v n l) i hi hk ha
theorem Fam.addI {w W w' : World} {base : Nat} {L : List Rw} {v v' : Value} {n : Nat} {l : List Nat} {x : Nat} (h : Fam w base L) (i : Nat) (hi : L[i]? = some (rI v n l)) (hk : Kept noBlock w W) (ha : Appended W w' base 3 1 v v' (n + 1) ((l.map fun (i : Nat) => Value.int .i64 (i : Int)) ++ [.int .i64 (x : Int)])) : Fam w' base (L.set i (rI v' (n + 1) (l ++ [x]))) := by
  have e : (l.map fun (i : Nat) => Value.int .i64 (i : Int)) ++ [.int .i64 (x : Int)] = (l ++ [x]).map fun (i : Nat) => Value.int .i64 (i : Int) := by simp
  rw [e] at ha
  exact h.app (r := rI v n l) i hi hk ha

/-- The first loop: the hosts of the center, their places, their racks. -/
def R4a (wz wr : World) (base : Nat) (T : List Si) (d : ByteArray) (i : Nat) (vh va vr : Value) : Prop :=
  ∃ nh nr, Fam wr base [rS vh nh ((ofDcE d ((T.take i).zipIdx)).map (·.1.1)), rI va nh ((ofDcE d ((T.take i).zipIdx)).map (·.2)), rS vr nr (racksOf ((ofDcE d ((T.take i).zipIdx)).map (·.1)))] ∧ nh = (ofDcE d ((T.take i).zipIdx)).length ∧ nr = (racksOf ((ofDcE d ((T.take i).zipIdx)).map (·.1))).length ∧ Kept noBlock wz wr
/-- The second loop: who goes out, when; the racks that were taken of; who waits. -/
def R4b (wz wr : World) (base : Nat) (E : List (Si × Nat)) (N : Int) (nh nr : Nat) (vh va vr : Value) (i : Nat) (vo vw vs vws : Value) : Prop :=
  ∃ no ns nw, Fam wr base [rS vh nh (E.map (·.1.1)), rI va nh (E.map (·.2)), rS vr nr (racksOf (E.map (·.1))), rS vo no ((oneQ (racksOf (E.map (·.1))).length N q0 (E.take i)).map (·.1)), rI vw no ((oneQ (racksOf (E.map (·.1))).length N q0 (E.take i)).map (·.2)), rS vs ns (qE (racksOf (E.map (·.1))).length N q0 (E.take i)).seen, rS vws nw (qE (racksOf (E.map (·.1))).length N q0 (E.take i)).ws] ∧
    no = (qE (racksOf (E.map (·.1))).length N q0 (E.take i)).n ∧ ns = (qE (racksOf (E.map (·.1))).length N q0 (E.take i)).seen.length ∧ nw = (qE (racksOf (E.map (·.1))).length N q0 (E.take i)).ws.length ∧ Kept noBlock wz wr
theorem ofDcE_len (d : ByteArray) (E : List (Si × Nat)) : (ofDcE d E).length ≤ E.length := List.length_filter_le _ _
theorem racksOf_len (H : List Si) : (racksOf H).length ≤ H.length := by
  have := uniq_len (H.map (·.2.2)) []
  rw [List.length_map] at this
  unfold racksOf
  simpa using this

set_option maxHeartbeats 8000000 in
set_option maxRecDepth 100000 in
theorem r4one_at {w : World} {ok ok2 : Nat → TypeId → Prop} {vl vs : Value} {T : List Si} {L : List S4i} {d : ByteArray} {N : Int} (hl : SlK w ok 1 vl T.length ((T.map (·.1)).map Value.string)) (hs : SlK w ok2 3 vs L.length (L.flatMap s4C)) (hT : ∀ s ∈ T, siteOf L s.1 = some s) (hnd : (T.map (·.1)).Nodup) (hn : T.length ≤ 1000) (hL : L.length ≤ 1000) :
    Calls Tryz.prog 51 #[vl, vs, .agg #[.string d, .int .i64 N]] w fun e w' => ∃ v1 v2, e = .returned (.tuple #[v1, v2]) ∧ ∃ n base, w.heap.size ≤ base ∧ Fam w' base [rS v1 n ((oneQ (racksOf (ofDc d T)).length N q0 (ofDcE d T.zipIdx)).map (·.1)), rI v2 n ((oneQ (racksOf (ofDc d T)).length N q0 (ofDcE d T.zipIdx)).map (·.2))] ∧ Kept noBlock w w' := by
  obtain ⟨Al, cl, rfl, -, -⟩ := hl.shape
  obtain ⟨As, cs, rfl, -, -⟩ := hs.shape
  have hlen := hl.run_len strsT
  have HL := Lib.hid hl
  have HS := Lib.hid hs
  have HTT := Lib.hid hT
  have HND := Lib.hid hnd
  clear hl hs hT hnd
  go_enter Tryz.func51, Tryz.ntmps51
  have hkz : Kept noBlock w (w.alloc (.cells #[.string d, .int .i64 N] 79)) := (Kept.refl noBlock w).alloc _
  have hbz : Blk (w.alloc (.cells #[.string d, .int .i64 N] 79)) w.heap.size 79 #[.string d, .int .i64 N] := Blk.new _ _ _
  have hbase : (w.alloc (.cells #[.string d, .int .i64 N] 79)).heap.size = w.heap.size + 1 := sz_alloc _ _
  have HKZ := Lib.hid hkz
  have HBZ := Lib.hid hbz
  have HBASE := Lib.hid hbase
  have hfam0 : Fam (w.alloc (.cells #[.string d, .int .i64 N] 79)) (w.heap.size + 1) [rS (.slice none 0 0) 0 [], rI (.slice none 0 0) 0 [], rS (.slice none 0 0) 0 []] := ((Fam.nil.more 9 1).more 3 1).more 9 1
  have HF0 := Lib.hid hfam0
  clear hkz hbz hbase hfam0
  go_wp2_with fail
  generalize w.alloc (.cells #[.string d, .int .i64 N] 79) = wz at *
  generalize hZ : w.heap.size = Z at *
  have hwz : wz.heap.size = Z + 1 := HBASE.out
  go_loopg [8, 9, 10, 11] T.length (fun j vh va vr vi wr => ∃ i : Nat, i + j = T.length ∧ vi = .int .i64 i ∧ R4a wz wr (Z + 1) T d i vh va vr)
  case atStart => exact ⟨0, by omega, rfl, 0, 0, HF0.out, rfl, rfl, Kept.refl _ _⟩
  case round =>
    obtain ⟨i, hij, rfl, nh, nr, hfam, hnh, hnr, hk⟩ := hrel
    have HIJ := Lib.hid hij
    have HK := Lib.hid hk
    have HNH := Lib.hid hnh
    have HNR := Lib.hid hnr
    have HFAM := Lib.hid hfam
    have hzs := hk.size
    have hbz := HBZ.out.kept hk (fun e => e)
    have hls := SlK.keptNone (SlK.keptNone HL.out HKZ.out) hk
    have hss := SlK.keptNone (SlK.keptNone HS.out HKZ.out) hk
    by_cases hlt : i < T.length
    · obtain ⟨⟨sh, sd, sr⟩, hs⟩ : ∃ s, T[i]? = some s := ⟨_, List.getElem?_eq_getElem hlt⟩
      have hsx : (T.map (·.1))[i]? = some sh := by rw [List.getElem?_map, hs]; rfl
      obtain ⟨gl, ol, hil, hgl, hcl⟩ := str_at hls hsx
      have hso := HTT.out _ (List.mem_of_getElem? hs)
      have hen := enum_step (d := d) hs
      have HEN := Lib.hid hen
      have HSO := Lib.hid hso
      have HSS := Lib.hid hss
      have hnhi : nh ≤ i := by
        have h1 := ofDcE_len d ((T.take i).zipIdx)
        rw [List.length_zipIdx, List.length_take] at h1
        omega
      have hnri : nr ≤ i := by
        have h1 := ofDcE_len d ((T.take i).zipIdx)
        have h2 := racksOf_len ((ofDcE d ((T.take i).zipIdx)).map (·.1))
        rw [List.length_zipIdx, List.length_take] at h1
        rw [List.length_map] at h2
        omega
      have hbs : Blk (wr.alloc (.cells #[.string sh, .string sd, .string sr] 75)) wr.heap.size 75 #[.string sh, .string sd, .string sr] := Blk.new _ _ _
      have hbz1 := hbz.alloc (.cells #[.string sh, .string sd, .string sr] 75)
      have z0 := hbz1.cell 0
      have y1 := hbs.cell 1
      have y2 := hbs.cell 2
      simp only [List.getElem?_toArray, List.getElem?_cons_succ, List.getElem?_cons_zero] at z0 y1 y2
      have HBS := Lib.hid hbs
      clear hij hfam hnh hnr hk hbz hls hss hs hsx hen hso hbs hbz1
      go_wp2_with fail
      go_at_call 50
      refine (r4site_at (h := sh) HSS.out (by omega)).mono ?_
      rintro e w2 ⟨rfl, z, rfl, hz⟩
      rcases hz with ⟨k, s', hks, hso', rfl⟩ | ⟨hno, -⟩
      case inr => rw [HSO.out] at hno; cases hno
      obtain rfl : (sh, sd, sr) = s' := Option.some.inj (HSO.out.symm.trans hso')
      obtain ⟨g, off, hix, hgx, x0, x1, x2⟩ := s4_at HSS.out hks
      simp only at x0 x1 x2
      clear hks hso'
      by_cases hsd : sd = d
      · rw [if_pos hsd] at HEN
        subst hsd
        have hbe := strEq_self sd
        have HKS : Hid (Kept noBlock w2 (w2.alloc (.cells #[.string sh, .string sd, .string sr] 75))) := Lib.hid ((Kept.refl noBlock w2).alloc _)
        have HF1 := Lib.hid (HFAM.out.keptN HKS.out)
        have hsz1 : (w2.alloc (.cells #[.string sh, .string sd, .string sr] 75)).heap.size = w2.heap.size + 1 := sz_alloc _ _
        go_wp2_with (at_builtin; go_must (refine wpList_append_sl _ strsT rfl (.tmp 41) (.tmp 46) rfl (Z + 1) _ nh _ rfl ((HF1.out.keptN ((Kept.refl noBlock _).alloc _)).get 0 rfl) _ 1 [.string sh] rfl (Sl.made_at (Blk.new_at _ 9 #[.string sh] hsz1.symm) _ rfl rfl one_max) (by simp [Value.oneCell']) ?c1 ?c2 ?_))
        case c1 => omega
        case c2 => simp only [sz_alloc]; omega
        intro v3 w3 hap
        have hown1 := (HF1.out.keptN ((Kept.refl noBlock _).alloc (.cells #[.string sh] 9))).get 0 rfl
        have HF2 := Lib.hid (HF1.out.addS 0 rfl ((Kept.refl noBlock _).alloc _) hap)
        have hk3 : Kept noBlock wz w3 := hap.below hown1 ((HK.out.trans HKS.out (fun _ _ e => e)).alloc _) (by omega)
        have hbs3 := Blk.appended (HBS.out.alloc (.cells #[.string sh] 9)) hap hown1 (by decide)
        have HK3 := Lib.hid hk3
        have HBS3 := Lib.hid hbs3
        have hz3 := hk3.size
        clear hap hown1 hk3 hbs3
        go_wp2_with (at_builtin; go_must (refine wpList_append_sl _ intsT rfl (.tmp 48) (.tmp 50) rfl (Z + 1) _ nh _ rfl ((HF2.out.keptN ((Kept.refl noBlock _).alloc _)).get 1 rfl) _ 1 [.int .i64 (i : Int)] rfl (Sl.made_at (Blk.new_at _ 3 #[.int .i64 (i : Int)] rfl) _ rfl rfl one_max) (by simp [Value.oneCell']) ?c1 ?c2 ?_))
        case c1 => omega
        case c2 => simp only [sz_alloc]; omega
        intro v4 w4 hap
        have hown1 := (HF2.out.keptN ((Kept.refl noBlock _).alloc (.cells #[.int .i64 (i : Int)] 3))).get 1 rfl
        have hfam3 := HF2.out.addI 1 rfl ((Kept.refl noBlock _).alloc _) hap
        have hk4 : Kept noBlock wz w4 := hap.below hown1 (HK3.out.alloc _) (by omega)
        have hbs4 := Blk.appended (HBS3.out.alloc (.cells #[.int .i64 (i : Int)] 3)) hap hown1 (by decide)
        have q2 := hbs4.cell 2
        simp only [List.getElem?_toArray, List.getElem?_cons_succ, List.getElem?_cons_zero] at q2
        have hrs := hfam3.slS 2 rfl
        have HF3 := Lib.hid hfam3
        have HRS := Lib.hid hrs
        have HK4 := Lib.hid hk4
        have hz4 := hk4.size
        have hst := racks_step ((ofDcE sd ((T.take i).zipIdx)).map (·.1)) (sh, sd, sr)
        have HST := Lib.hid hst
        have HE2 : Hid ((ofDcE sd ((T.take i).zipIdx) ++ [((sh, sd, sr), i)]).length = nh + 1) := Lib.hid (by rw [List.length_append, ← HNH.out]; rfl)
        clear hap hown1 hk4 hbs4 hst hrs hfam3 z0 y1 y2 hbe
        cases hh : has (racksOf ((ofDcE sd ((T.take i).zipIdx)).map (·.1))) sr with
        | true =>
          have HHH := Lib.hid hh
          clear hh
          go_wp2_with fail
          go_at_call 18
          refine (R3Has_at (l := racksOf ((ofDcE sd ((T.take i).zipIdx)).map (·.1))) (s := sr) (by rw [← HNR.out]; exact HRS.out) (by rw [← HNR.out]; omega)).mono ?_
          rintro e w5 ⟨rfl, rfl⟩
          rw [HHH.out]
          go_wp2
          go_roundg (T.length - (i + 1))
          case measure => have := HIJ.out; omega
          case rel =>
            have e3 := HST.out
            rw [if_pos HHH.out] at e3
            refine ⟨i + 1, by have := HIJ.out; omega, by go_num, nh + 1, nr, ?_, ?_, ?_, HK4.out⟩
            · rw [HEN.out, List.map_append, List.map_append, List.map_append]
              show Fam _ _ [rS _ _ _, rI _ _ _, rS _ _ (racksOf (_ ++ [(sh, sd, sr)]))]
              rw [e3]
              exact HF3.out
            · rw [HEN.out, HE2.out]
            · rw [HEN.out, List.map_append]
              show nr = (racksOf (_ ++ [(sh, sd, sr)])).length
              rw [e3]; exact HNR.out
        | false =>
          have HHH := Lib.hid hh
          clear hh
          go_wp2_with fail
          go_at_call 18
          refine (R3Has_at (l := racksOf ((ofDcE sd ((T.take i).zipIdx)).map (·.1))) (s := sr) (by rw [← HNR.out]; exact HRS.out) (by rw [← HNR.out]; omega)).mono ?_
          rintro e w5 ⟨rfl, rfl⟩
          rw [HHH.out]
          go_wp2_with (at_builtin; go_must (refine wpList_append_sl _ strsT rfl (.tmp 57) (.tmp 60) rfl (Z + 1) _ nr _ rfl ((HF3.out.keptN ((Kept.refl noBlock _).alloc _)).get 2 rfl) _ 1 [.string sr] rfl (Sl.made_at (Blk.new_at _ 9 #[.string sr] rfl) _ rfl rfl one_max) (by simp [Value.oneCell']) ?c1 ?c2 ?_))
          case c1 => omega
          case c2 => simp only [sz_alloc]; omega
          intro v6 w6 hap
          have hown1 := (HF3.out.keptN ((Kept.refl noBlock _).alloc (.cells #[.string sr] 9))).get 2 rfl
          have HF4 := Lib.hid (HF3.out.addS 2 rfl ((Kept.refl noBlock _).alloc _) hap)
          have HK6 : Hid (Kept noBlock wz w6) := Lib.hid (hap.below hown1 (HK4.out.alloc _) (by omega))
          clear hap hown1
          go_wp2
          go_roundg (T.length - (i + 1))
          case measure => have := HIJ.out; omega
          case rel =>
            have e3 := HST.out
            rw [if_neg (by rw [HHH.out]; simp)] at e3
            refine ⟨i + 1, by have := HIJ.out; omega, by go_num, nh + 1, nr + 1, ?_, ?_, ?_, HK6.out⟩
            · rw [HEN.out, List.map_append, List.map_append, List.map_append]
              show Fam _ _ [rS _ _ _, rI _ _ _, rS _ _ (racksOf (_ ++ [(sh, sd, sr)]))]
              rw [e3]
              exact HF4.out
            · rw [HEN.out, HE2.out]
            · rw [HEN.out, List.map_append]
              show nr + 1 = (racksOf (_ ++ [(sh, sd, sr)])).length
              rw [e3, List.length_append, ← HNR.out]; rfl
      · rw [if_neg hsd] at HEN
        have hbe := strEq_ne hsd
        have HK5 : Hid (Kept noBlock wz (w2.alloc (.cells #[.string sh, .string sd, .string sr] 75))) := Lib.hid (HK.out.alloc _)
        have HF1 : Hid (Fam (w2.alloc (.cells #[.string sh, .string sd, .string sr] 75)) (Z + 1) _) := Lib.hid (HFAM.out.keptN ((Kept.refl noBlock w2).alloc _))
        clear hsd
        go_wp2
        go_roundg (T.length - (i + 1))
        case measure => have := HIJ.out; omega
        case rel =>
          refine ⟨i + 1, by have := HIJ.out; omega, by go_num, nh, nr, ?_, ?_, ?_, HK5.out⟩
          · rw [HEN.out]; exact HF1.out
          · rw [HEN.out]; exact HNH.out
          · rw [HEN.out]; exact HNR.out
    · obtain rfl : i = T.length := by omega
      rw [List.take_length] at hfam hnh hnr
      obtain ⟨E, hE⟩ : ∃ E, E = ofDcE d T.zipIdx := ⟨_, rfl⟩
      rw [← hE] at hfam hnh hnr
      have hEH : E.map (·.1) = ofDc d T := by rw [hE]; exact zip_fst T 0
      have hEn : ((E.map (·.1)).map (·.1)).Nodup := by
        rw [hEH]
        exact HND.out.sublist (List.Sublist.map _ List.filter_sublist)
      have hEs : ∀ p ∈ E, siteOf L p.1.1 = some p.1 := by
        intro p hp
        have : p.1 ∈ ofDc d T := by rw [← hEH]; exact List.mem_map.2 ⟨p, hp, rfl⟩
        exact HTT.out _ (List.mem_filter.1 this).1
      have hEl : E.length ≤ 1000 := by
        have h1 := ofDcE_len d T.zipIdx
        rw [List.length_zipIdx] at h1
        rw [hE]; omega
      have hnhl : nh ≤ 1000 := by omega
      have hnrl : nr ≤ 1000 := by
        have h1 := racksOf_len (E.map (·.1))
        rw [List.length_map] at h1
        omega
      have HE := Lib.hid hE
      have HEH := Lib.hid hEH
      have HEN := Lib.hid hEn
      have HES := Lib.hid hEs
      have HNH1 := Lib.hid hnh
      have HNR1 := Lib.hid hnr
      have hlh := (hfam.slS 0 rfl).run_len strsT
      have hlr := (hfam.slS 2 rfl).run_len strsT
      have hf7 := (((hfam.more 9 1).more 3 1).more 9 1).more 9 1
      have HF7 : Hid (Fam wr (Z + 1) [rS u8 nh (E.map (·.1.1)), rI u9 nh (E.map (·.2)), rS u10 nr (racksOf (E.map (·.1))), rS (.slice none 0 0) 0 [], rI (.slice none 0 0) 0 [], rS (.slice none 0 0) 0 [], rS (.slice none 0 0) 0 []]) := Lib.hid hf7
      clear hE hEH hEn hEs hnh hnr hf7 hfam hij HFAM HNH HNR HIJ hls hss hbz hlt
      go_wp2_with fail
      go_loopg [13, 14, 15, 16, 17] nh (fun j vo vw vs vws vi wx => ∃ i : Nat, i + j = nh ∧ vi = .int .i64 i ∧ R4b wz wx (Z + 1) E N nh nr u8 u9 u10 i vo vw vs vws)
      case atStart => exact ⟨0, by omega, rfl, 0, 0, 0, HF7.out, rfl, rfl, rfl, HK.out⟩
      case round =>
        obtain ⟨i, hij, rfl, no, ns, nw, hfam, hno, hns, hnw, hk⟩ := hrel
        have hzx := hk.size
        have hle := qE_le (N := N) E HEN.out i (by have := HNH1.out; omega)
        by_cases hlt : i < nh
        · obtain ⟨⟨⟨sh, sd, sr⟩, at_⟩, hp⟩ : ∃ p, E[i]? = some p := ⟨_, List.getElem?_eq_getElem (by have := HNH1.out; omega)⟩
          have e1 : E.take (i + 1) = E.take i ++ [((sh, sd, sr), at_)] := by rw [List.take_add_one, hp]; rfl
          have hq1 := qE_snoc (racksOf (E.map (·.1))).length N q0 (E.take i) (sh, sd, sr) at_
          have hO1 := oneQ_snoc (racksOf (E.map (·.1))).length N q0 (E.take i) (sh, sd, sr) at_
          rw [← e1] at hq1 hO1
          have hcut : oneQ (racksOf (E.map (·.1))).length N q0 E = oneQ (racksOf (E.map (·.1))).length N q0 (E.take i) ++ oneQ (racksOf (E.map (·.1))).length N (qE (racksOf (E.map (·.1))).length N q0 (E.take i)) (E.drop i) := by
            have := oneQ_append (racksOf (E.map (·.1))).length N (E.drop i) (E.take i) q0
            rw [List.take_append_drop] at this
            exact this
          have hso := HES.out _ (List.mem_of_getElem? hp)
          have hx0 : (E.map (·.1.1))[i]? = some sh := by rw [List.getElem?_map, hp]; rfl
          have hx1 : (E.map (·.2))[i]? = some at_ := by rw [List.getElem?_map, hp]; rfl
          generalize qE (racksOf (E.map (·.1))).length N q0 (E.take i) = q at *
          generalize oneQ (racksOf (E.map (·.1))).length N q0 (E.take i) = O at *
          obtain ⟨hle1, hle2, -, hle3⟩ := hle
          have hnn : no ≤ 1000 ∧ ns ≤ nr ∧ nw ≤ 1000 := by have := HNR1.out; omega
          obtain ⟨hnn1, hnn2, hnn3⟩ := hnn
          have HX0 := Lib.hid hx0
          have HX1 := Lib.hid hx1
          have HSO : Hid (siteOf L sh = some (sh, sd, sr)) := Lib.hid hso
          have HQ1 := Lib.hid hq1
          have HO1 := Lib.hid hO1
          have HCUT := Lib.hid hcut
          have HIJ := Lib.hid hij
          have HK := Lib.hid hk
          have HFAM := Lib.hid hfam
          have HNO := Lib.hid hno
          have HNS := Lib.hid hns
          have HNW := Lib.hid hnw
          have hbz := HBZ.out.kept hk (fun e => e)
          have hss := SlK.keptNone (SlK.keptNone HS.out HKZ.out) hk
          have HSS := Lib.hid hss
          have z1 := hbz.cell 1
          simp only [List.getElem?_toArray, List.getElem?_cons_succ, List.getElem?_cons_zero] at z1
          obtain ⟨gl, ol, hil, hgl, hcl⟩ := str_at (hfam.slS 0 rfl) hx0
          have hlo := (hfam.slS 3 rfl).run_len strsT
          have hls := (hfam.slS 5 rfl).run_len strsT
          have hlw := (hfam.slS 6 rfl).run_len strsT
          clear hp e1 hq1 hO1 hcut hso hx0 hx1 hle1 hle2 hle3 hij hk hfam hno hns hnw hbz hss
          go_wp2_with fail
          go_at_call 50
          refine (r4site_at (h := sh) HSS.out (by omega)).mono ?_
          rintro e w2 ⟨rfl, z, rfl, hz⟩
          rcases hz with ⟨k, s', hks, hso', rfl⟩ | ⟨hno, -⟩
          case inr => rw [HSO.out] at hno; cases hno
          obtain rfl : (sh, sd, sr) = s' := Option.some.inj (HSO.out.symm.trans hso')
          obtain ⟨g, off, hix, hgx, x0, x1, x2⟩ := s4_at HSS.out hks
          simp only at x0 x1 x2
          clear hks hso'
          by_cases hfull : N ≤ (no : Int)
          · have HFU := Lib.hid hfull
            have hend : oneQ (racksOf (E.map (·.1))).length N q0 E = O := by
              rw [HCUT.out, oneQ_full _ (by rw [← HNO.out]; exact hfull), List.append_nil]
            have HEND := Lib.hid hend
            have HR1 := Lib.hid (HFAM.out.two 3 4 (by decide) rfl rfl)
            clear hend
            go_wp2
            refine bodyPost_ret (v := .tuple #[u13, u14]) (by simp [results, Tryz.results51, go_sem]) rfl ?_
            refine ⟨_, _, rfl, no, Z + 1, by omega, ?_, HKZ.out.trans HK.out (fun _ _ e => e)⟩
            rw [← HEH.out, ← HE.out, HEND.out]
            exact HR1.out
          · have HFU : Hid (¬ N ≤ (q.n : Int)) := Lib.hid (by rw [← HNO.out]; exact hfull)
            by_cases hsn : ns < nr
            · have HSN : Hid (q.seen.length < (racksOf (E.map (·.1))).length) := Lib.hid (by rw [← HNS.out, ← HNR1.out]; exact hsn)
              have hHas := R3Has_at (l := q.seen) (s := sr) (by rw [← HNS.out]; exact HFAM.out.slS 5 rfl) (by rw [← HNS.out]; omega)
              have HHAS := Lib.hid hHas
              clear hHas
              cases hh : has q.seen sr with
              | true =>
                have HST := Lib.hid (qstep_wait (h := sh) HFU.out HSN.out hh)
                rw [hh] at HHAS
                clear hh
                go_wp2_with fail
                refine HHAS.out.mono ?_
                rintro e w5 ⟨rfl, rfl⟩
                go_wp2_with (at_builtin; go_must (refine wpList_append_sl _ strsT rfl (.tmp 93) (.tmp 98) rfl (Z + 1) _ nw _ rfl ((HFAM.out.keptN ((Kept.refl noBlock _).alloc _)).get 6 rfl) _ 1 [.string sh] rfl (Sl.made_at (Blk.new_at _ 9 #[.string sh] rfl) _ rfl rfl one_max) (by simp [Value.oneCell']) ?c1 ?c2 ?_))
                case c1 => omega
                case c2 => simp only [sz_alloc]; omega
                intro va1 wa1 hap
                have hown1 := (HFAM.out.keptN ((Kept.refl noBlock _).alloc (.cells #[.string sh] 9))).get 6 rfl
                have HF1 := Lib.hid (HFAM.out.addS 6 rfl ((Kept.refl noBlock _).alloc _) hap)
                have HK1 : Hid (Kept noBlock wz wa1) := Lib.hid (hap.below hown1 (HK.out.alloc _) (by omega))
                have hzz1 := HK1.out.size
                clear hap hown1
                go_wp2
                go_roundg (nh - (i + 1))
                case measure => have := HIJ.out; omega
                case rel =>
                  refine ⟨i + 1, by have := HIJ.out; omega, by go_num, no, ns, nw + 1, ?_, ?_, ?_, ?_, HK1.out⟩
                  · rw [HO1.out, HQ1.out, HST.out, List.map_nil, List.append_nil]
                    exact HF1.out
                  · rw [HQ1.out, HST.out]; exact HNO.out
                  · rw [HQ1.out, HST.out]; exact HNS.out
                  · rw [HQ1.out, HST.out, HNW.out]
                    show _ = (q.ws ++ [sh]).length
                    rw [List.length_append]; rfl
              | false =>
                obtain ⟨m, hmw, hmk, hst⟩ := qstep_go sh HFU.out HSN.out hh
                have HST := Lib.hid hst
                have hmk2 : ∀ k, k ≤ m → (k < m ↔ (k < nw ∧ ns + 1 = nr ∧ ((no + 1 + k : Nat) : Int) < N)) := fun k hk => by rw [HNW.out, HNS.out, HNR1.out, HNO.out]; exact hmk k hk
                have HMK := Lib.hid hmk2
                have hmw2 : m ≤ nw := by rw [HNW.out]; exact hmw
                rw [hh] at HHAS
                clear hh hmw hmk hst hmk2
                go_wp2_with fail
                refine HHAS.out.mono ?_
                rintro e w5 ⟨rfl, rfl⟩
                go_wp2_with (at_builtin; go_must (refine wpList_append_sl _ strsT rfl (.tmp 105) (.tmp 110) rfl (Z + 1) _ no _ rfl ((HFAM.out.keptN ((Kept.refl noBlock _).alloc _)).get 3 rfl) _ 1 [.string sh] rfl (Sl.made_at (Blk.new_at _ 9 #[.string sh] rfl) _ rfl rfl one_max) (by simp [Value.oneCell']) ?c1 ?c2 ?_))
                case c1 => omega
                case c2 => simp only [sz_alloc]; omega
                intro va1 wa1 hap
                have hown1 := (HFAM.out.keptN ((Kept.refl noBlock _).alloc (.cells #[.string sh] 9))).get 3 rfl
                have HF1 := Lib.hid (HFAM.out.addS 3 rfl ((Kept.refl noBlock _).alloc _) hap)
                have HK1 : Hid (Kept noBlock wz wa1) := Lib.hid (hap.below hown1 (HK.out.alloc _) (by omega))
                have hzz1 := HK1.out.size
                clear hap hown1
                obtain ⟨jag, jao, jai, jal, jac⟩ := int_at ((HF1.out).slI 1 rfl) HX1.out
                go_wp2_with (at_builtin; go_must (refine wpList_append_sl _ intsT rfl (.tmp 112) (.tmp 117) rfl (Z + 1) _ no _ rfl ((HF1.out.keptN ((Kept.refl noBlock _).alloc _)).get 4 rfl) _ 1 [.int .i64 (at_ : Int)] rfl (Sl.made_at (Blk.new_at _ 3 #[.int .i64 (at_ : Int)] rfl) _ rfl rfl one_max) (by simp [Value.oneCell']) ?c1 ?c2 ?_))
                case c1 => omega
                case c2 => simp only [sz_alloc]; omega
                intro va2 wa2 hap
                have hown1 := (HF1.out.keptN ((Kept.refl noBlock _).alloc (.cells #[.int .i64 (at_ : Int)] 3))).get 4 rfl
                have HF2 := Lib.hid (HF1.out.addI 4 rfl ((Kept.refl noBlock _).alloc _) hap)
                have HK2 : Hid (Kept noBlock wz wa2) := Lib.hid (hap.below hown1 (HK1.out.alloc _) (by omega))
                have hzz2 := HK2.out.size
                clear hap hown1
                go_wp2_with (at_builtin; go_must (refine wpList_append_sl _ strsT rfl (.tmp 120) (.tmp 122) rfl (Z + 1) _ ns _ rfl ((HF2.out.keptN ((Kept.refl noBlock _).alloc _)).get 5 rfl) _ 1 [.string sr] rfl (Sl.made_at (Blk.new_at _ 9 #[.string sr] rfl) _ rfl rfl one_max) (by simp [Value.oneCell']) ?c1 ?c2 ?_))
                case c1 => omega
                case c2 => simp only [sz_alloc]; omega
                intro va3 wa3 hap
                have hown1 := (HF2.out.keptN ((Kept.refl noBlock _).alloc (.cells #[.string sr] 9))).get 5 rfl
                have HF3 := Lib.hid (HF2.out.addS 5 rfl ((Kept.refl noBlock _).alloc _) hap)
                have HK3 : Hid (Kept noBlock wz wa3) := Lib.hid (hap.below hown1 (HK2.out.alloc _) (by omega))
                have hzz3 := HK3.out.size
                clear hap hown1
                have hf3 := HF3.out
                have hls3 := (hf3.slS 5 rfl).run_len strsT
                have HF3' : Hid (Fam wa3 (Z + 1) [rS u8 nh (E.map (·.1.1)), rI u9 nh (E.map (·.2)), rS u10 nr (racksOf (E.map (·.1))), rS va1 (no + 1) (O.map (·.1) ++ sh :: q.ws.take 0), rI va2 (no + 1) (O.map (·.2) ++ List.replicate (0 + 1) at_), rS va3 (ns + 1) (q.seen ++ [sr]), rS u16 nw q.ws]) := Lib.hid hf3
                clear hf3 hls hlo jai jac
                go_wp2_with fail
                go_loopg [13, 14, 20] m (fun j vo vw vk wx => ∃ k n', k + j = m ∧ n' = no + 1 + k ∧ vk = .int .i64 (k : Nat) ∧ Fam wx (Z + 1) [rS u8 nh (E.map (·.1.1)), rI u9 nh (E.map (·.2)), rS u10 nr (racksOf (E.map (·.1))), rS vo n' (O.map (·.1) ++ sh :: q.ws.take k), rI vw n' (O.map (·.2) ++ List.replicate (k + 1) at_), rS va3 (ns + 1) (q.seen ++ [sr]), rS u16 nw q.ws] ∧ Kept noBlock wz wx)
                case atStart => exact ⟨0, no + 1, by omega, rfl, rfl, HF3'.out, HK3.out⟩
                case round =>
                  obtain ⟨k, n', hkm, hn', rfl, hfk, hkk⟩ := hrel
                  have hzk := hkk.size
                  have HFK := Lib.hid hfk
                  have HKK := Lib.hid hkk
                  have hlok := (hfk.slS 3 rfl).run_len strsT
                  have hbk := HBZ.out.kept hkk (fun e => e)
                  have zk := hbk.cell 1
                  simp only [List.getElem?_toArray, List.getElem?_cons_succ, List.getElem?_cons_zero] at zk
                  have HKM := Lib.hid hkm
                  have hkc := HMK.out k (by omega)
                  by_cases hlt2 : k < m
                  · obtain ⟨hk1, hk2, hk3⟩ := hkc.1 hlt2
                    have hk3' : (n' : Int) < N := by rw [hn']; exact hk3
                    have hn1 : n' ≤ 5000 := by omega
                    have HN' := Lib.hid hn'
                    obtain ⟨x, hx⟩ : ∃ x, q.ws[k]? = some x := ⟨_, List.getElem?_eq_getElem (by have := HNW.out; omega)⟩
                    have HXX := Lib.hid hx
                    obtain ⟨kg, ko, ki, kl, kc⟩ := str_at (hfk.slS 6 rfl) hx
                    clear hfk hkk hbk hkm hkc hk3 hx hn'
                    go_wp2_with (at_builtin; go_must (refine wpList_append_sl _ strsT rfl (.tmp 144) (.tmp 149) rfl (Z + 1) _ n' _ rfl ((HFK.out.keptN ((Kept.refl noBlock _).alloc _)).get 3 rfl) _ 1 [.string x] rfl (Sl.made_at (Blk.new_at _ 9 #[.string x] rfl) _ rfl rfl one_max) (by simp [Value.oneCell']) ?c1 ?c2 ?_))
                    case c1 => omega
                    case c2 => simp only [sz_alloc]; omega
                    intro vb1 wb1 hap
                    have hown1 := (HFK.out.keptN ((Kept.refl noBlock _).alloc (.cells #[.string x] 9))).get 3 rfl
                    have HG1 := Lib.hid (HFK.out.addS 3 rfl ((Kept.refl noBlock _).alloc _) hap)
                    have HKB1 : Hid (Kept noBlock wz wb1) := Lib.hid (hap.below hown1 (HKK.out.alloc _) (by omega))
                    have hzb1 := HKB1.out.size
                    clear hap hown1
                    obtain ⟨iag, iao, iai, ial, iac⟩ := int_at ((HG1.out).slI 1 rfl) HX1.out
                    go_wp2_with (at_builtin; go_must (refine wpList_append_sl _ intsT rfl (.tmp 151) (.tmp 156) rfl (Z + 1) _ n' _ rfl ((HG1.out.keptN ((Kept.refl noBlock _).alloc _)).get 4 rfl) _ 1 [.int .i64 (at_ : Int)] rfl (Sl.made_at (Blk.new_at _ 3 #[.int .i64 (at_ : Int)] rfl) _ rfl rfl one_max) (by simp [Value.oneCell']) ?c1 ?c2 ?_))
                    case c1 => omega
                    case c2 => simp only [sz_alloc]; omega
                    intro vb2 wb2 hap
                    have hown1 := (HG1.out.keptN ((Kept.refl noBlock _).alloc (.cells #[.int .i64 (at_ : Int)] 3))).get 4 rfl
                    have HG2 := Lib.hid (HG1.out.addI 4 rfl ((Kept.refl noBlock _).alloc _) hap)
                    have HKB2 : Hid (Kept noBlock wz wb2) := Lib.hid (hap.below hown1 (HKB1.out.alloc _) (by omega))
                    clear hap hown1
                    go_wp2
                    go_roundg (m - (k + 1))
                    case measure => have := HKM.out; omega
                    case rel =>
                      refine ⟨k + 1, n' + 1, by have := HKM.out; omega, by have := HN'.out; omega, by go_num, ?_, HKB2.out⟩
                      have a1 : O.map (·.1) ++ sh :: q.ws.take (k + 1) = (O.map (·.1) ++ sh :: q.ws.take k) ++ [x] := by rw [List.take_add_one, HXX.out]; simp
                      have a2 : O.map (·.2) ++ List.replicate (k + 1 + 1) at_ = (O.map (·.2) ++ List.replicate (k + 1) at_) ++ [at_] := by rw [List.replicate_succ' (n := k + 1)]; simp
                      rw [a1, a2]
                      exact HG2.out
                  · obtain rfl : k = m := by omega
                    have FIN : Hid (R4b wz wr (Z + 1) E N nh nr u8 u9 u10 (i + 1) u13 u14 va3 u16) := Lib.hid (by
                      refine ⟨n', ns + 1, nw, ?_, ?_, ?_, ?_, hkk⟩
                      · rw [HO1.out, HQ1.out, HST.out, List.map_append, List.map_append]
                        have a1 : ((sh :: q.ws.take k).map fun h => (h, at_)).map (·.1) = sh :: q.ws.take k := by rw [List.map_map]; exact List.map_id _
                        have a2 : ((sh :: q.ws.take k).map fun h => (h, at_)).map (·.2) = List.replicate (k + 1) at_ := by
                          rw [List.map_map]
                          have : (sh :: q.ws.take k).length = k + 1 := by rw [List.length_cons, List.length_take, ← HNW.out]; omega
                          rw [← this]
                          exact List.map_const' ..
                        rw [a1, a2]
                        exact hfk
                      · rw [HQ1.out, HST.out, hn', HNO.out]
                      · rw [HQ1.out, HST.out, HNS.out]
                        show _ = (q.seen ++ [sr]).length
                        rw [List.length_append]; rfl
                      · rw [HQ1.out, HST.out]; exact HNW.out)
                    have hno3 := fun e => Nat.lt_irrefl _ (hkc.2 e)
                    have hn1 : n' ≤ 5000 := by omega
                    by_cases hb1 : k < nw
                    · by_cases hb2 : ns + 1 = nr
                      · have hb3 : ¬ (n' : Int) < N := fun e => hno3 ⟨hb1, hb2, by rw [← hn']; exact e⟩
                        clear hfk hkk hbk hkm hkc hno3 hn'
                        go_wp2
                        go_roundg (nh - (i + 1))
                        case measure => have := HIJ.out; omega
                        case rel => exact ⟨i + 1, by have := HIJ.out; omega, by go_num, FIN.out⟩
                      · clear hfk hkk hbk hkm hkc hno3 hn'
                        go_wp2
                        go_roundg (nh - (i + 1))
                        case measure => have := HIJ.out; omega
                        case rel => exact ⟨i + 1, by have := HIJ.out; omega, by go_num, FIN.out⟩
                    · clear hfk hkk hbk hkm hkc hno3 hn'
                      go_wp2
                      go_roundg (nh - (i + 1))
                      case measure => have := HIJ.out; omega
                      case rel => exact ⟨i + 1, by have := HIJ.out; omega, by go_num, FIN.out⟩
            · obtain rfl : ns = nr := by omega
              have HST := Lib.hid (qstep_all (R := (racksOf (E.map (·.1))).length) (r := sr) (h := sh) HFU.out (by rw [← HNS.out, ← HNR1.out]))
              go_wp2_with (at_builtin; go_must (refine wpList_append_sl _ strsT rfl (.tmp 105) (.tmp 110) rfl (Z + 1) _ no _ rfl ((HFAM.out.keptN ((Kept.refl noBlock _).alloc _)).get 3 rfl) _ 1 [.string sh] rfl (Sl.made_at (Blk.new_at _ 9 #[.string sh] rfl) _ rfl rfl one_max) (by simp [Value.oneCell']) ?c1 ?c2 ?_))
              case c1 => omega
              case c2 => simp only [sz_alloc]; omega
              intro va1 wa1 hap
              have hown1 := (HFAM.out.keptN ((Kept.refl noBlock _).alloc (.cells #[.string sh] 9))).get 3 rfl
              have HF1 := Lib.hid (HFAM.out.addS 3 rfl ((Kept.refl noBlock _).alloc _) hap)
              have HK1 : Hid (Kept noBlock wz wa1) := Lib.hid (hap.below hown1 (HK.out.alloc _) (by omega))
              have hzz1 := HK1.out.size
              clear hap hown1
              obtain ⟨jag, jao, jai, jal, jac⟩ := int_at ((HF1.out).slI 1 rfl) HX1.out
              go_wp2_with (at_builtin; go_must (refine wpList_append_sl _ intsT rfl (.tmp 112) (.tmp 117) rfl (Z + 1) _ no _ rfl ((HF1.out.keptN ((Kept.refl noBlock _).alloc _)).get 4 rfl) _ 1 [.int .i64 (at_ : Int)] rfl (Sl.made_at (Blk.new_at _ 3 #[.int .i64 (at_ : Int)] rfl) _ rfl rfl one_max) (by simp [Value.oneCell']) ?c1 ?c2 ?_))
              case c1 => omega
              case c2 => simp only [sz_alloc]; omega
              intro va2 wa2 hap
              have hown1 := (HF1.out.keptN ((Kept.refl noBlock _).alloc (.cells #[.int .i64 (at_ : Int)] 3))).get 4 rfl
              have HF2 := Lib.hid (HF1.out.addI 4 rfl ((Kept.refl noBlock _).alloc _) hap)
              have HK2 : Hid (Kept noBlock wz wa2) := Lib.hid (hap.below hown1 (HK1.out.alloc _) (by omega))
              have hzz2 := HK2.out.size
              clear hap hown1
              go_wp2
              go_roundg (nh - (i + 1))
              case measure => have := HIJ.out; omega
              case rel =>
                refine ⟨i + 1, by have := HIJ.out; omega, by go_num, no + 1, ns, nw, ?_, ?_, ?_, ?_, HK2.out⟩
                · rw [HO1.out, HQ1.out, HST.out, List.map_append, List.map_append]
                  exact HF2.out
                · rw [HQ1.out, HST.out, HNO.out]
                · rw [HQ1.out, HST.out]; exact HNS.out
                · rw [HQ1.out, HST.out]; exact HNW.out
        · obtain rfl : i = nh := by omega
          have hEt : E.take i = E := List.take_of_length_le (by have := HNH1.out; omega)
          rw [hEt] at hfam hno
          have HR1 := Lib.hid (hfam.two 3 4 (by decide) rfl rfl)
          have HK := Lib.hid hk
          clear hfam hno hns hnw hk hle hEt
          go_wp2
          refine bodyPost_ret (v := .tuple #[u13, u14]) (by simp [results, Tryz.results51, go_sem]) rfl ?_
          refine ⟨_, _, rfl, no, Z + 1, by omega, ?_, HKZ.out.trans HK.out (fun _ _ e => e)⟩
          rw [← HEH.out, ← HE.out]
          exact HR1.out
end Go.Proofs.YtepikngkbondgaaGreat
namespace Go.Proofs.YtepikngkbondgaaGreat
set_option linter.unusedVariables false
open Go.RowKit

theorem f4sT : SlT Tryz.prog 39 79 (.agg #[.string noStr, .int .i64 0]) 2 24 := ⟨Tryz.underlying39, by kernel_rfl, rfl, by decide, by decide⟩
theorem f4_at {w : World} {ok : Nat → TypeId → Prop} {v : Value} {L : List Fa} {n : Nat} (h : SlK w ok 2 v n (L.flatMap fC)) {i : Nat} {s : Fa} (hi : L[i]? = some s) :
    ∃ g off, (∀ kd w', (Instr.indexAt 39 v (.int kd (i : Int))).run Tryz.prog w' = .ok (.pointer (some ⟨g, off, none⟩)) w') ∧ g < w.heap.size ∧ w.cell? ⟨g, off, none⟩ = some (.string s.1) ∧ w.cell? ⟨g, off + 1, none⟩ = some (.int .i64 s.2) := by
  have hlt : i < n := by
    have h1 := (List.getElem?_eq_some_iff.1 hi).1
    have h2 := h.len
    rw [flat_len (k := 2) (fun _ => rfl) L] at h2
    omega
  obtain ⟨g, off, h1, h2, h4, h3⟩ := h.run_index f4sT (i := (i : Int)) (k := i) rfl hlt
  refine ⟨g, off, h1, h2, h3 0 _ ?_, h3 1 _ ?_⟩
  · rw [flat_get (k := 2) (fun _ => rfl) L i 0 s hi (by decide)]; rfl
  · rw [flat_get (k := 2) (fun _ => rfl) L i 1 s hi (by decide)]; rfl
/-- The walk's hosts as sites. -/
def sitesOfL (L : List S4i) (l : List ByteArray) : List Si := l.filterMap (siteOf L)
theorem siteOf_key {L : List S4i} {h : ByteArray} {s : S4i} (e : siteOf L h = some s) : s.1 = h := by
  have := List.find?_some e
  simpa using this
theorem sitesOfL_map {L : List S4i} : ∀ (l : List ByteArray), (∀ h ∈ l, ∃ s, siteOf L h = some s) → (sitesOfL L l).map (·.1) = l
  | [], _ => rfl
  | h :: l, hs => by
    obtain ⟨s, e⟩ := hs h (List.mem_cons_self ..)
    unfold sitesOfL
    rw [List.filterMap_cons, e]
    simp only [List.map_cons]
    rw [siteOf_key e]
    congr 1
    exact sitesOfL_map l fun x hx => hs x (List.mem_cons_of_mem _ hx)
theorem sitesOfL_mem {L : List S4i} {l : List ByteArray} : ∀ s ∈ sitesOfL L l, siteOf L s.1 = some s := by
  intro s hs
  obtain ⟨h, _, e⟩ := List.mem_filterMap.1 hs
  rw [siteOf_key e]; exact e
/-- What the document's Network hands back. -/
def R4Post (w : World) (L : List S4i) (l : List ByteArray) (fs : List Fa) (e : Ending) (w' : World) : Prop :=
  Kept noBlock w w' ∧ (((¬ (fs.map (·.1)).Nodup ∨ ∃ h ∈ l, siteOf L h = none) ∧ e = .returned (.tuple #[.slice none 0 0, .int .i64 1])) ∨
    ((fs.map (·.1)).Nodup ∧ (∀ h ∈ l, ∃ s, siteOf L h = some s) ∧ ∃ v n, e = .returned (.tuple #[v, .int .i64 0]) ∧ Sl w' 9 1 v n ((refOut (sitesOfL L l) fs).map Value.string)))
theorem keys_take {fs : List Fa} {i : Nat} {f : Fa} (h : fs[i]? = some f) : (fs.take (i + 1)).map (·.1) = (fs.take i).map (·.1) ++ [f.1] := by
  rw [List.take_add_one, h, List.map_append]; rfl
theorem nodup_snoc {l : List ByteArray} {x : ByteArray} : (l ++ [x]).Nodup ↔ l.Nodup ∧ x ∉ l := by
  rw [List.nodup_append]
  constructor
  · rintro ⟨h1, _, h3⟩; exact ⟨h1, fun h => h3 x h x (List.mem_singleton.2 rfl) rfl⟩
  · rintro ⟨h1, h2⟩; exact ⟨h1, by simp, fun a ha b hb e => by obtain rfl := List.mem_singleton.1 hb; exact h2 (e ▸ ha)⟩

theorem dup_not {ks : List ByteArray} {i k : Nat} {d : ByteArray} (hi : ks[i]? = some d) (hk : ks[k]? = some d) (h : k < i) : ¬ ks.Nodup := by
  intro hn
  obtain ⟨hi1, hi2⟩ := List.getElem?_eq_some_iff.1 hi
  obtain ⟨hk1, hk2⟩ := List.getElem?_eq_some_iff.1 hk
  exact List.pairwise_iff_getElem.1 hn k i hk1 hi1 h (by rw [hi2, hk2])
theorem one_len {N : Int} {T : List Si} {d : ByteArray} (hn : (T.map (·.1)).Nodup) : (oneQ (racksOf (ofDc d T)).length N q0 (ofDcE d T.zipIdx)).length ≤ T.length := by
  have hH : (ofDcE d T.zipIdx).map (·.1) = ofDc d T := zip_fst T 0
  have h1 := qE_le (N := N) (ofDcE d T.zipIdx) (by rw [hH]; exact hn.sublist (List.Sublist.map _ List.filter_sublist)) (ofDcE d T.zipIdx).length (Nat.le_refl _)
  rw [List.take_length, hH] at h1
  have h2 := ofDcE_len d T.zipIdx
  rw [List.length_zipIdx] at h2
  omega
theorem Fam.one {w : World} {base : Nat} {L : List Rw} {a : Rw} (h : Fam w base L) (i : Nat) (hi : L[i]? = some a) : Fam w base [a] := by
  refine ⟨fun m r hm => ?_, fun m n x y hmn hm hn k hk => ?_⟩
  · rcases m with _ | m
    · cases hm; exact h.1 i a hi
    · simp at hm
  · rcases m with _ | m <;> rcases n with _ | n
    · exact absurd rfl hmn
    · simp at hn
    · simp at hm
    · simp at hm
theorem filt_step {O : List (ByteArray × Nat)} {i a : Nat} {x : ByteArray × Nat} (h : O[i]? = some x) : ((O.take (i + 1)).filter fun p => decide (p.2 = a)).map (·.1) = if x.2 = a then ((O.take i).filter fun p => decide (p.2 = a)).map (·.1) ++ [x.1] else ((O.take i).filter fun p => decide (p.2 = a)).map (·.1) := by
  rw [List.take_add_one, h, List.filter_append]
  by_cases e : x.2 = a
  · simp [e]
  · simp [e]

set_option maxHeartbeats 8000000 in
set_option maxRecDepth 100000 in
theorem r4Network_in {w : World} {rv vs vf : Value} {t : Int} {l : List ByteArray} {L : List S4i} {fs : List Fa} {ok ok2 : Nat → TypeId → Prop}
    (hs : SlK w ok 3 vs L.length (L.flatMap s4C)) (hf : SlK w ok2 2 vf fs.length (fs.flatMap fC)) (hnd : l.Nodup)
    (hw : Calls Tryz.prog 49 #[rv, .int .i64 t] w fun e w' => ∃ v, e = .returned v ∧ Sl w' 9 1 v l.length (l.map Value.string) ∧ Kept noBlock w w')
    (hL : L.length ≤ 1000) (hfl : fs.length ≤ 1000) (hll : l.length ≤ 1000) :
    Calls Tryz.prog 30 #[rv, .int .i64 t, vs, vf] w fun e w' => R4Post w L l fs e w' := by
  obtain ⟨As, cs, rfl, -, -⟩ := hs.shape
  obtain ⟨Af, cf, rfl, -, -⟩ := hf.shape
  have hlf := hf.run_len f4sT
  have HS := Lib.hid hs
  have HF := Lib.hid hf
  have HW := Lib.hid hw
  have HND := Lib.hid hnd
  clear hs hf hw hnd
  go_enter Tryz.func30, Tryz.ntmps30
  go_wp2_with fail
  go_at_call 49
  refine HW.out.mono ?_
  rintro e w1 ⟨v, rfl, hsl, hk1⟩
  obtain ⟨A, c, rfl, -, -⟩ := hsl.shape
  have hll' := hsl.run_len strsT
  have HS1 := Lib.hid (SlK.keptNone HS.out hk1)
  have HF1 := Lib.hid (SlK.keptNone HF.out hk1)
  have HSL := Lib.hid hsl
  have HK1 := Lib.hid hk1
  clear hsl hk1 HS HF
  go_wp2_with fail
  go_loopg [11] fs.length (fun j vi wr => ∃ i n : Nat, i + j = fs.length ∧ vi = .int .i64 i ∧ ((fs.take i).map (·.1)).Nodup ∧ wr = w1.drewN n)
  case atStart => exact ⟨0, 0, by omega, rfl, by simp, rfl⟩
  case round =>
    obtain ⟨i, n, hij, rfl, hnd, rfl⟩ := hrel
    have HIJ := Lib.hid hij
    have HNDI := Lib.hid hnd
    clear hij hnd
    by_cases hlt : i < fs.length
    · obtain ⟨f, hfi⟩ : ∃ f, fs[i]? = some f := ⟨_, List.getElem?_eq_getElem hlt⟩
      have HFI := Lib.hid hfi
      obtain ⟨ga, oa, hia, -, hca, -⟩ := f4_at (HF1.out) hfi
      obtain ⟨d, N⟩ := f
      simp only at hca
      clear hfi
      go_wp2_with fail
      go_loopg [12] i (fun j vk wr => ∃ k n' : Nat, k + j = i ∧ vk = .int .i64 k ∧ d ∉ (fs.take k).map (·.1) ∧ wr = w1.drewN n')
      case atStart => exact ⟨0, n, by omega, rfl, by simp, rfl⟩
      case round =>
        obtain ⟨k, n', hkj, rfl, hnk, rfl⟩ := hrel
        have HKJ := Lib.hid hkj
        have HNK := Lib.hid hnk
        clear hkj hnk
        by_cases hki : k < i
        · obtain ⟨f2, hfk⟩ : ∃ f2, fs[k]? = some f2 := ⟨_, List.getElem?_eq_getElem (by omega)⟩
          have HFK := Lib.hid hfk
          obtain ⟨gb, ob, hib, -, hcb, -⟩ := f4_at (HF1.out) hfk
          obtain ⟨d2, N2⟩ := f2
          simp only at hcb
          clear hfk
          by_cases hdd : d = d2
          · subst hdd
            have hbe := strEq_self d
            go_wp2
            go_quiet (fail)
            go_wp2
            go_ret2
            exact ⟨HK1.out.trans (((Kept.refl noBlock w1).drewN _).drewN _) (fun _ _ e => e), .inl ⟨.inl (dup_not (i := i) (k := k) (d := d) (by rw [List.getElem?_map, HFI.out]; rfl) (by rw [List.getElem?_map, HFK.out]; rfl) hki), rfl⟩⟩
          · have hbe := strEq_ne hdd
            have HDD := Lib.hid hdd
            clear hdd
            go_wp2
            go_quiet (fail)
            go_wp2
            go_roundg (i - (k + 1))
            case measure => have := HKJ.out; omega
            case rel =>
              refine ⟨k + 1, n' + nq, by have := HKJ.out; omega, by go_num, ?_, rfl⟩
              rw [keys_take HFK.out, List.mem_append, List.mem_singleton]
              exact fun h => h.elim HNK.out HDD.out
        · obtain rfl : k = i := by have := HKJ.out; omega
          go_wp2
          go_roundg (fs.length - (k + 1))
          case measure => have := HIJ.out; omega
          case rel =>
            refine ⟨k + 1, n', by have := HIJ.out; omega, by go_num, ?_, rfl⟩
            rw [keys_take HFI.out]
            exact nodup_snoc.2 ⟨HNDI.out, HNK.out⟩
    · obtain rfl : i = fs.length := by have := HIJ.out; omega
      have hndf : (fs.map (·.1)).Nodup := by have := HNDI.out; rw [List.take_length] at this; exact this
      have HNDF := Lib.hid hndf
      clear hndf HNDI HIJ
      go_wp2_with fail
      have hkn := (Kept.refl noBlock w1).drewN n
      have HS2 := Lib.hid (SlK.keptNone HS1.out hkn)
      have HF2 := Lib.hid (SlK.keptNone HF1.out hkn)
      have HSL2 := Lib.hid (SlK.keptNone HSL.out hkn)
      have HK2 := Lib.hid (HK1.out.trans hkn (fun _ _ e => e))
      clear hkn HS1 HF1 HSL HK1
      generalize w1.drewN n = w2 at *
      go_loopg [13] l.length (fun j vi wr => ∃ i : Nat, i + j = l.length ∧ vi = .int .i64 i ∧ (∀ h ∈ l.take i, ∃ s, siteOf L h = some s) ∧ wr = w2)
      case atStart => exact ⟨0, by omega, rfl, fun h hh => by simp at hh, rfl⟩
      case round =>
        obtain ⟨i, hij, rfl, hall, rfl⟩ := hrel
        have HIJ := Lib.hid hij
        have HALL := Lib.hid hall
        clear hij hall
        by_cases hlt : i < l.length
        · obtain ⟨x, hx⟩ : ∃ x, l[i]? = some x := ⟨_, List.getElem?_eq_getElem hlt⟩
          obtain ⟨gl, ol, hil, hgl, hcl⟩ := str_at HSL2.out hx
          have HX := Lib.hid hx
          clear hx
          go_wp2_with fail
          go_at_call 50
          refine (r4site_at (h := x) HS2.out (by omega)).mono ?_
          rintro e w3 ⟨rfl, z, rfl, hz⟩
          rcases hz with ⟨k, s', hks, hso', rfl⟩ | ⟨hno, rfl⟩
          · have hneg : ¬ (k : Int) < 0 := by omega
            have HSO := Lib.hid hso'
            clear hks hso'
            go_wp2_with fail
            go_roundg (l.length - (i + 1))
            case measure => have := HIJ.out; omega
            case rel =>
              refine ⟨i + 1, by have := HIJ.out; omega, by go_num, ?_, rfl⟩
              intro h hh
              rw [List.take_add_one, HX.out] at hh
              rcases List.mem_append.1 hh with hh | hh
              · exact HALL.out h hh
              · obtain rfl : h = x := by simpa using hh
                exact ⟨_, HSO.out⟩
          · have HNO := Lib.hid hno
            clear hno
            go_wp2_with fail
            go_ret2
            exact ⟨HK2.out, .inl ⟨.inr ⟨x, List.mem_of_getElem? HX.out, HNO.out⟩, rfl⟩⟩
        · obtain rfl : i = l.length := by have := HIJ.out; omega
          have hall : ∀ h ∈ l, ∃ s, siteOf L h = some s := by have := HALL.out; rw [List.take_length] at this; exact this
          obtain ⟨T, hT⟩ : ∃ T, T = sitesOfL L l := ⟨_, rfl⟩
          have hTm : T.map (·.1) = l := by rw [hT]; exact sitesOfL_map l hall
          have hTs : ∀ s ∈ T, siteOf L s.1 = some s := by rw [hT]; exact sitesOfL_mem
          have hTl : T.length = l.length := by rw [← hTm, List.length_map]
          have HT := Lib.hid hT
          have HTM := Lib.hid hTm
          have HTS := Lib.hid hTs
          have HTL := Lib.hid hTl
          have HALL2 := Lib.hid hall
          obtain ⟨w4, hw4⟩ : ∃ w4, w4 = wr := ⟨_, rfl⟩
          subst hw4
          clear hT hTm hTs hTl hall HALL HIJ
          go_wp2_with fail
          go_loopg [14, 15] l.length (fun j vo va wr => ∃ a n : Nat, a + j = l.length ∧ va = .int .i64 a ∧ Fam wr w4.heap.size [rS vo n ((List.range a).flatMap (refAt T fs))] ∧ n ≤ a * 2000000 ∧ Kept noBlock w4 wr)
          case atStart => exact ⟨0, 0, by omega, rfl, Fam.nil.more 9 1, Nat.zero_le _, Kept.refl _ _⟩
          case round =>
            obtain ⟨a, n, haj, rfl, hfam, hna, hk⟩ := hrel
            have HAJ := Lib.hid haj
            have HFAM := Lib.hid hfam
            have HK := Lib.hid hk
            have HNA := Lib.hid hna
            by_cases hlt : a < l.length
            · have hra : (List.range (a + 1)).flatMap (refAt T fs) = (List.range a).flatMap (refAt T fs) ++ refAt T fs a := by rw [List.range_succ, List.flatMap_append]; simp
              have HRA := Lib.hid hra
              clear haj hfam hna hk hra
              go_wp2_with fail
              obtain ⟨w5, hw5⟩ : ∃ w5, w5 = wr := ⟨_, rfl⟩
              subst hw5
              go_loopg [14, 16] fs.length (fun j vo vk wx => ∃ k n : Nat, k + j = fs.length ∧ vk = .int .i64 k ∧ Fam wx w4.heap.size [rS vo n ((List.range a).flatMap (refAt T fs) ++ (fs.take k).flatMap fun f => atQ (racksOf (ofDc f.1 T)).length f.2 f.1 q0 T a)] ∧ n ≤ a * 2000000 + k * 2000 ∧ Kept noBlock w4 wx)
              case atStart => exact ⟨0, n, by omega, rfl, by simpa using HFAM.out, Nat.le_trans HNA.out (Nat.le_add_right _ _), HK.out⟩
              case round =>
                obtain ⟨k, n2, hkj, rfl, hfam, hnk, hk⟩ := hrel
                have HKJ := Lib.hid hkj
                have HNK := Lib.hid hnk
                have HFAM2 := Lib.hid hfam
                have HK3 := Lib.hid hk
                by_cases hkf : k < fs.length
                · obtain ⟨f, hfi⟩ : ∃ f, fs[k]? = some f := ⟨_, List.getElem?_eq_getElem hkf⟩
                  obtain ⟨gb, ob, hib, -, hcb, hcb1⟩ := f4_at (SlK.keptNone HF2.out hk) hfi
                  have hfk : (fs.take (k + 1)).flatMap (fun f => atQ (racksOf (ofDc f.1 T)).length f.2 f.1 q0 T a) = ((fs.take k).flatMap fun f => atQ (racksOf (ofDc f.1 T)).length f.2 f.1 q0 T a) ++ atQ (racksOf (ofDc f.1 T)).length f.2 f.1 q0 T a := by
                    rw [List.take_add_one, hfi, List.flatMap_append]; simp
                  obtain ⟨d, N⟩ := f
                  simp only at hcb hcb1
                  have HFK : Hid (_ = _ ++ atQ (racksOf (ofDc d T)).length N d q0 T a) := Lib.hid hfk
                  have hone := r4one_at (d := d) (N := N) (T := T) (vl := .slice A l.length c) (L := L) (by rw [HTL.out, HTM.out]; exact SlK.keptNone HSL2.out hk) (SlK.keptNone HS2.out hk) HTS.out (by rw [HTM.out]; exact HND.out) (by rw [HTL.out]; exact hll) hL
                  have HONE := Lib.hid hone
                  have holen := one_len (N := N) (d := d) (T := T) (by rw [HTM.out]; exact HND.out)
                  have hpick := one_pick (R := (racksOf (ofDc d T)).length) (N := N) (d := d) T 0 q0 a
                  rw [Nat.zero_add] at hpick
                  rw [HTL.out] at holen
                  have HPICK := Lib.hid hpick
                  clear hkj hnk hfam hk hfi hfk hone hpick
                  go_wp2_with fail
                  go_at_call 51
                  refine HONE.out.mono ?_
                  rintro e w6 ⟨v1, v2, rfl, m, base, hbase, hfam2, hk6⟩
                  generalize oneQ (racksOf (ofDc d T)).length N q0 (ofDcE d T.zipIdx) = O at *
                  have hml : m = O.length := by
                    have := (hfam2.slS 0 rfl).len
                    simpa using this.symm
                  have HML := Lib.hid hml
                  have hm1 : m ≤ 1000 := by omega
                  have hzz := HK3.out.size
                  obtain ⟨PRE, hpre⟩ : ∃ PRE, PRE = (List.range a).flatMap (refAt T fs) ++ (fs.take k).flatMap fun f => atQ (racksOf (ofDc f.1 T)).length f.2 f.1 q0 T a := ⟨_, rfl⟩
                  rw [← hpre] at HFAM2
                  have HPRE := Lib.hid hpre
                  clear hpre
                  have HF6 : Hid (Fam w6 w4.heap.size [rS _ n2 _, rS v1 m (O.map (·.1)), rI v2 m (O.map (·.2))]) := Lib.hid (HFAM2.out.join hk6 hbase (by omega) hfam2)
                  have HK6 := Lib.hid (HK3.out.trans hk6 (fun _ _ e => e))
                  have hl1 := (HF6.out.slS 1 rfl).run_len strsT
                  clear hbase hfam2 hk6 hml holen hcb hcb1 hib
                  go_wp2_with fail
                  obtain ⟨w7, hw7⟩ : ∃ w7, w7 = w6 := ⟨_, rfl⟩
                  subst hw7
                  go_loopg [14, 19] m (fun j vo vi wy => ∃ i n3 : Nat, i + j = m ∧ vi = .int .i64 i ∧ Fam wy w4.heap.size [rS vo n3 (PRE ++ ((O.take i).filter fun p => decide (p.2 = a)).map (·.1)), rS v1 m (O.map (·.1)), rI v2 m (O.map (·.2))] ∧ n3 ≤ n2 + i ∧ Kept noBlock w4 wy)
                  case atStart => exact ⟨0, n2, by omega, rfl, by simpa using HF6.out, by omega, HK6.out⟩
                  case round =>
                    obtain ⟨i, n3, hij, rfl, hfam, hn3, hk⟩ := hrel
                    have HIJ := Lib.hid hij
                    have HN3 := Lib.hid hn3
                    have HF7 := Lib.hid hfam
                    have HK7 := Lib.hid hk
                    have hz7 := hk.size
                    by_cases him : i < m
                    · obtain ⟨⟨x, y⟩, hx⟩ : ∃ p, O[i]? = some p := ⟨_, List.getElem?_eq_getElem (by have := HML.out; omega)⟩
                      obtain ⟨g1, o1, i1, -, c1⟩ := str_at (hfam.slS 1 rfl) (i := i) (s := x) (by rw [List.getElem?_map, hx]; rfl)
                      obtain ⟨g2, o2, i2, -, c2⟩ := int_at (hfam.slI 2 rfl) (i := i) (s := y) (by rw [List.getElem?_map, hx]; rfl)
                      have hfs := filt_step (a := a) hx
                      have HFS := Lib.hid hfs
                      have hn3b : n3 ≤ 3000000000 := by
                        have h1 := HNK.out
                        have h2 : a * 2000000 ≤ 1000 * 2000000 := Nat.mul_le_mul_right _ (by omega)
                        have h3 : k * 2000 ≤ 1000 * 2000 := Nat.mul_le_mul_right _ (by omega)
                        omega
                      by_cases hya : y = a
                      · subst hya
                        rw [if_pos rfl] at HFS
                        clear hij hfam hn3 hk hx hfs
                        go_wp2_with (at_builtin; go_must (refine wpList_append_sl _ strsT rfl (.tmp 92) (.tmp 97) rfl w4.heap.size _ n3 _ rfl ((HF7.out.keptN ((Kept.refl noBlock _).alloc _)).get 0 rfl) _ 1 [.string x] rfl (Sl.made_at (Blk.new_at _ 9 #[.string x] rfl) _ rfl rfl one_max) (by simp [Value.oneCell']) ?c1 ?c2 ?_))
                        case c1 => omega
                        case c2 => first | omega | (simp only [sz_alloc]; omega)
                        intro vb1 wb1 hap
                        have hown1 := (HF7.out.keptN ((Kept.refl noBlock _).alloc (.cells #[.string x] 9))).get 0 rfl
                        have HG1 := Lib.hid (HF7.out.addS 0 rfl ((Kept.refl noBlock _).alloc _) hap)
                        have HKB1 : Hid (Kept noBlock w4 wb1) := Lib.hid (hap.below hown1 (HK7.out.alloc _) (Nat.le_refl _))
                        clear hap hown1
                        go_wp2
                        go_roundg (m - (i + 1))
                        case measure => have := HIJ.out; omega
                        case rel =>
                          refine ⟨i + 1, n3 + 1, by have := HIJ.out; omega, by go_num, ?_, by have := HN3.out; omega, HKB1.out⟩
                          rw [HFS.out, ← List.append_assoc]
                          exact HG1.out
                      · rw [if_neg hya] at HFS
                        have hbe : ((y : Int) == (a : Int)) = false := by simp; omega
                        clear hij hfam hn3 hk hx hfs hya
                        go_wp2
                        go_roundg (m - (i + 1))
                        case measure => have := HIJ.out; omega
                        case rel =>
                          refine ⟨i + 1, n3, by have := HIJ.out; omega, by go_num, ?_, by have := HN3.out; omega, HK7.out⟩
                          rw [HFS.out]; exact HF7.out
                    · obtain rfl : i = m := by omega
                      have hot : O.take i = O := List.take_of_length_le (by have := HML.out; omega)
                      rw [hot, HPICK.out, HPRE.out, List.append_assoc, ← HFK.out] at hfam
                      have HF8 := Lib.hid (hfam.one 0 rfl)
                      clear hij hfam hn3 hk hot
                      go_wp2
                      go_roundg (fs.length - (k + 1))
                      case measure => have := HKJ.out; omega
                      case rel => exact ⟨k + 1, n3, by have := HKJ.out; omega, by go_num, HF8.out, by have := HN3.out; have := HNK.out; omega, HK7.out⟩
                · obtain rfl : k = fs.length := by omega
                  rw [List.take_length] at hfam
                  have HF9 := Lib.hid hfam
                  clear hkj hnk hfam hk
                  go_wp2
                  go_roundg (l.length - (a + 1))
                  case measure => have := HAJ.out; omega
                  case rel =>
                    refine ⟨a + 1, n2, by have := HAJ.out; omega, by go_num, ?_, ?_, HK3.out⟩
                    · rw [HRA.out]; exact HF9.out
                    · have h1 := HNK.out
                      have h2 : fs.length * 2000 ≤ 1000 * 2000 := Nat.mul_le_mul_right _ hfl
                      omega
            · obtain rfl : a = l.length := by omega
              have hr := hfam.slS 0 rfl
              have HR := Lib.hid hr
              clear haj hfam hna hk hr
              go_wp2
              go_ret2
              refine ⟨HK2.out.trans HK.out (fun _ _ e => e), .inr ⟨HNDF.out, HALL2.out, _, n, rfl, ?_⟩⟩
              have e : refOut (sitesOfL L l) fs = (List.range l.length).flatMap (refAt T fs) := by
                unfold refOut; rw [← HT.out, HTL.out]
              rw [e]
              exact HR.out
end Go.Proofs.YtepikngkbondgaaGreat
namespace Go.Proofs.YtepikngkbondgaaGreat
set_option linter.unusedVariables false
open Go.RowKit

set_option maxHeartbeats 2000000 in
set_option maxRecDepth 100000 in
theorem rSimple_in {w : World} {rv : Value} {t n : Int} {l : List ByteArray} {k : Nat} (hll : l.length ≤ 1000) (hk : k = (max (min n (l.length : Int)) 0).toNat)
    (hw : Calls Tryz.prog 45 #[rv, .int .i64 t] w fun e w' => ∃ v, e = .returned v ∧ Sl w' 9 1 v l.length (l.map Value.string) ∧ Kept noBlock w w') :
    Calls Tryz.prog 25 #[rv, .int .i64 t, .int .i64 n] w fun e w' => ∃ v, e = .returned v ∧ Sl w' 9 1 v k ((l.take k).map Value.string) ∧ Kept noBlock w w' := by
  have HW := Lib.hid hw
  have HKK := Lib.hid hk
  clear hw hk
  go_enter Tryz.func25, Tryz.ntmps25
  go_wp2_with fail
  go_at_call 45
  refine HW.out.mono ?_
  rintro e w1 ⟨v, rfl, hs, hk1⟩
  obtain ⟨A, c, rfl, -, -⟩ := hs.shape
  have hlen := hs.run_len strsT
  obtain ⟨A2, c2, hto, hs2⟩ := hs.run_to strsT (i := max (min n (l.length : Int)) 0) (k := k) (by have := HKK.out; omega) (by have := HKK.out; omega)
  have e : (l.map Value.string).take (k * 1) = (l.take k).map Value.string := by rw [Nat.mul_one, List.map_take]
  rw [e] at hs2
  have HS2 := Lib.hid hs2
  have HK1 := Lib.hid hk1
  clear hs hs2 hk1 e
  go_wp2_with fail
  go_ret
  exact ⟨_, rfl, HS2.out, HK1.out⟩

set_option maxHeartbeats 2000000 in
set_option maxRecDepth 100000 in
theorem r4Simple_in {w : World} {rv : Value} {t n : Int} {l : List ByteArray} {k : Nat} (hll : l.length ≤ 1000) (hk : k = (max (min n (l.length : Int)) 0).toNat)
    (hw : Calls Tryz.prog 49 #[rv, .int .i64 t] w fun e w' => ∃ v, e = .returned v ∧ Sl w' 9 1 v l.length (l.map Value.string) ∧ Kept noBlock w w') :
    Calls Tryz.prog 29 #[rv, .int .i64 t, .int .i64 n] w fun e w' => ∃ v, e = .returned v ∧ Sl w' 9 1 v k ((l.take k).map Value.string) ∧ Kept noBlock w w' := by
  have HW := Lib.hid hw
  have hkl : k ≤ l.length := by omega
  have HKI : Hid (∀ i : Nat, i ≤ k → ((i : Int) < l.length ∧ (i : Int) < n ↔ i < k)) := Lib.hid fun i hi => by omega
  clear hw hk
  go_enter Tryz.func29, Tryz.ntmps29
  go_wp2_with fail
  go_at_call 49
  refine HW.out.mono ?_
  rintro e w1 ⟨v, rfl, hs, hk1⟩
  obtain ⟨A, c, rfl, -, -⟩ := hs.shape
  have hlen := hs.run_len strsT
  have HS := Lib.hid hs
  have HK1 := Lib.hid hk1
  clear hs hk1
  go_wp2_with fail
  go_loopg [8, 9] k (fun j vo vi wr => ∃ i : Nat, i + j = k ∧ vi = .int .i64 i ∧ wr.ownsRow w1.heap.size 9 1 vo i ((l.take i).map Value.string) ∧ Kept noBlock w1 wr)
  case atStart => exact ⟨0, by omega, rfl, World.ownsRow_nil _ _ _ _, Kept.refl _ _⟩
  case round =>
    obtain ⟨i, hij, rfl, hown, hk⟩ := hrel
    have HIJ := Lib.hid hij
    have HO := Lib.hid hown
    have HK := Lib.hid hk
    have hz := hk.size
    by_cases hik : i < k
    · obtain ⟨hc1, hc2⟩ := (HKI.out i (by omega)).2 hik
      obtain ⟨x, hx⟩ : ∃ x, l[i]? = some x := ⟨_, List.getElem?_eq_getElem (by omega)⟩
      obtain ⟨g, off, hidx, hgl, hc0⟩ := str_at (SlK.keptNone HS.out hk) hx
      have hnx : (l.take (i + 1)).map Value.string = (l.take i).map Value.string ++ [.string x] := by rw [List.take_add_one, hx]; simp
      have HNX := Lib.hid hnx
      clear hij hown hk hx hnx
      go_wp2_with (at_builtin; go_must (refine wpList_append_sl _ strsT rfl (.tmp 24) (.tmp 29) rfl w1.heap.size _ i ((l.take i).map Value.string) rfl (HO.out.alloc _) _ 1 [.string x] rfl (Sl.made_at (Blk.new_at _ _ _ rfl) _ rfl rfl one_max) (by simp [Value.oneCell']) ?d1 ?d2 ?_))
      case d1 => omega
      case d2 => first | omega | (simp; omega)
      intro v' w3 hap
      have HK3 := Lib.hid (hap.below (HO.out.alloc _) (HK.out.alloc _) (Nat.le_refl _))
      have HO3 := Lib.hid hap.own
      clear hap
      go_wp2
      go_roundg (k - (i + 1))
      case measure => have := HIJ.out; omega
      case rel =>
        have hij := HIJ.out
        refine ⟨i + 1, by omega, by go_num, ?_, HK3.out⟩
        rw [HNX.out, List.map_take]; exact HO3.out
    · obtain rfl : i = k := by omega
      have hs2 := Sl.of_own hown
      obtain ⟨A5, c5, rfl, -, -⟩ := hs2.shape
      rw [List.map_take] at hs2
      have HS2 := Lib.hid hs2
      have hno : ¬ ((i : Int) < l.length ∧ (i : Int) < n) := fun e => hik ((HKI.out i (Nat.le_refl _)).1 e)
      clear hij hown hk hs2
      by_cases hil : (i : Int) < l.length
      · have hin : ¬ (i : Int) < n := fun e => hno ⟨hil, e⟩
        go_wp2
        go_ret
        exact ⟨_, rfl, HS2.out, HK1.out.trans HK.out (fun _ _ e => e)⟩
      · go_wp2
        go_ret
        exact ⟨_, rfl, HS2.out, HK1.out.trans HK.out (fun _ _ e => e)⟩
end Go.Proofs.YtepikngkbondgaaGreat
namespace Go.Proofs.YtepikngkbondgaaGreat
set_option linter.unusedVariables false
open Go.RowKit

/-- What New tells of places: a number, and what they become. -/
def RS (l : List Pl) (code : Int) (S : List Pl) : Prop :=
  (unnamed l = true ∧ code = 1 ∧ S = []) ∨ (unnamed l = false ∧ ¬ (l.map (·.1)).Nodup ∧ code = 11 ∧ S = []) ∨ (RingOf l S ∧ code = 0)
theorem RingOf.nodup {l S : List Pl} (h : RingOf l S) : (l.map (·.1)).Nodup := (h.1.map (·.1)).nodup_iff.1 (rising_nodup h.2.1)
theorem rising_uniq {S T : List Pl} (hS : rising S) (hT : rising T) (h : S.Perm T) : S = T :=
  List.Perm.eq_of_pairwise (fun a b ha hb h1 h2 => by omega) hS hT h
theorem RS.uniq {l S S' : List Pl} {c c' : Int} (h : RS l c S) (h' : RS l c' S') : c = c' ∧ S = S' := by
  rcases h with ⟨a, rfl, rfl⟩ | ⟨a, b, rfl, rfl⟩ | ⟨a, rfl⟩ <;> rcases h' with ⟨a', rfl, rfl⟩ | ⟨a', b', rfl, rfl⟩ | ⟨a', rfl⟩
  · exact ⟨rfl, rfl⟩
  · rw [a] at a'; cases a'
  · rw [a'.2.2] at a; cases a
  · rw [a] at a'; cases a'
  · exact ⟨rfl, rfl⟩
  · exact absurd a'.nodup b
  · rw [a.2.2] at a'; cases a'
  · exact absurd a.nodup b'
  · exact ⟨rfl, rising_uniq a.2.1 a'.2.1 (a.1.trans a'.1.symm)⟩
theorem RS.rising {l S : List Pl} {c : Int} (h : RS l c S) : rising S := by
  rcases h with ⟨-, -, rfl⟩ | ⟨-, -, -, rfl⟩ | ⟨a, -⟩
  · exact .nil
  · exact .nil
  · exact a.2.1
theorem RS.len {l S : List Pl} {c : Int} (h : RS l c S) : S.length ≤ l.length := by
  rcases h with ⟨-, -, rfl⟩ | ⟨-, -, -, rfl⟩ | ⟨a, -⟩
  · simp
  · simp
  · exact Nat.le_of_eq a.1.length_eq
def RV (w : World) (p : Option Addr) (S : List Pl) : Prop := (p = none ∧ S = []) ∨ ∃ g, p = some ⟨g, 0, none⟩ ∧ RingAt w g S
theorem RV.kept {w w' : World} {p : Option Addr} {S : List Pl} (h : RV w p S) (hk : Kept noBlock w w') : RV w' p S := by
  rcases h with h | ⟨g, hp, h⟩
  · exact .inl h
  · exact .inr ⟨g, hp, h.kept hk⟩
section
variable {w : World} {p : Option Addr} {S : List Pl} {t : Int}
theorem Rnew_view {ok : Nat → TypeId → Prop} {v : Value} {l : List Pl} (h : SlK w ok 2 v l.length (l.flatMap pC)) (hl : l.length ≤ 1000) :
    Calls Tryz.prog 46 #[v] w fun e w' => ∃ p code S, e = .returned (.tuple #[.pointer p, .int .i64 code]) ∧ RS l code S ∧ RV w' p S ∧ (p = none ↔ code ≠ 0) ∧ Kept noBlock w w' := by
  refine (Rnew_at h hl).mono ?_
  rintro e w' ⟨hk, ⟨hu, rfl⟩ | ⟨hu, hnd, rfl⟩ | ⟨g, S, hS, rfl, hra, -⟩⟩
  · exact ⟨none, 1, [], rfl, .inl ⟨hu, rfl, rfl⟩, .inl ⟨rfl, rfl⟩, by simp, hk⟩
  · exact ⟨none, 11, [], rfl, .inr (.inl ⟨hu, hnd, rfl, rfl⟩), .inl ⟨rfl, rfl⟩, by simp, hk⟩
  · exact ⟨some ⟨g, 0, none⟩, 0, S, rfl, .inr (.inr ⟨hS, rfl⟩), .inr ⟨g, rfl, hra⟩, by simp, hk⟩
theorem Rwalk_view (h : RV w p S) (hr : rising S) (hn : S.length ≤ 1000) :
    Calls Tryz.prog 45 #[.pointer p, .int .i64 t] w fun e w' => ∃ A c, e = .returned (.slice A (rwalk S t).length c) ∧ Sl w' 9 1 (.slice A (rwalk S t).length c) (rwalk S t).length ((rwalk S t).map Value.string) ∧ Kept noBlock w w' := by
  rcases h with ⟨rfl, rfl⟩ | ⟨g, rfl, h⟩
  · refine (RwalkN_at t w).mono ?_
    rintro e w' ⟨rfl, rfl⟩
    exact ⟨none, 0, rfl, Sl.nil _ _ _, Kept.refl _ _⟩
  · refine (Rwalk_at h hr hn).mono ?_
    rintro e w' ⟨v, rfl, hs, hk⟩
    obtain ⟨A, c, rfl, -, -⟩ := hs.shape
    exact ⟨A, c, rfl, hs, hk⟩
end
end Go.Proofs.YtepikngkbondgaaGreat
namespace Go.Proofs.YtepikngkbondgaaGreat
set_option linter.unusedVariables false
open Go.RowKit

theorem sC_eq : sC = s4C := rfl
theorem sm_site (zs : List Si) (h : ByteArray) : aget h (smOf zs.reverse) = siteOf zs h := smOf_get h zs
theorem sites_eq (zs : List Si) (l : List ByteArray) : sitesW (smOf zs.reverse) l = sitesOfL zs l := by
  unfold sitesW sitesOfL
  congr 1
  funext h
  exact sm_site zs h
theorem net_out {zs : List Si} {l : List ByteArray} {fs : List Fa} {out : List ByteArray} (h : NetOut (smOf zs.reverse) l fs out) (hn : (fs.map (·.1)).Nodup) : out = refOut (sitesOfL zs l) fs ∧ ∃ cs, (∀ d n, (d, n) ∈ fs → ∃ g mr, aget d cs = some (cen0 g mr n (ofDc d (sitesOfL zs l)))) ∧ (∀ d, d ∉ fs.map (·.1) → aget d cs = none) ∧ out = (runT cs (sitesOfL zs l)).flatMap (·.2) := by
  obtain ⟨cs, hf, rfl⟩ := h
  have h1 : ∀ d n, (d, n) ∈ fs → ∃ g mr, aget d (needAll fs (countAll (smOf zs.reverse) l cs)) = some (cen0 g mr n (ofDc d (sitesOfL zs l))) := fun d n hd => by
    rw [← sites_eq]; exact start_get hf hn hd
  have h2 : ∀ d, d ∉ fs.map (·.1) → aget d (needAll fs (countAll (smOf zs.reverse) l cs)) = none := fun d hd => start_none hf hd
  have h3 := hostAll_run (sm := smOf zs.reverse) (fun h s e => smOf_key zs e) l (needAll fs (countAll (smOf zs.reverse) l cs)) []
  rw [List.nil_append, sites_eq] at h3
  have h4 : (hostAll (smOf zs.reverse) l (needAll fs (countAll (smOf zs.reverse) l cs))).2 = (runT (needAll fs (countAll (smOf zs.reverse) l cs)) (sitesOfL zs l)).flatMap (·.2) := h3
  exact ⟨h4.trans (run_ref hn h1 h2), _, h1, h2, h4⟩
/-- What both hand back. -/
def NetV (w : World) (zs : List Si) (l : List ByteArray) (fs : List Fa) (e : Ending) (w' : World) : Prop :=
  Kept noBlock w w' ∧ (((¬ (fs.map (·.1)).Nodup ∨ ∃ h ∈ l, siteOf zs h = none) ∧ e = .returned (.tuple #[.slice none 0 0, .int .i64 1])) ∨
    ((fs.map (·.1)).Nodup ∧ (∀ h ∈ l, ∃ s, siteOf zs h = some s) ∧ ∃ A n c out, e = .returned (.tuple #[.slice A n c, .int .i64 0]) ∧ n = out.length ∧ n ≤ 40200 ∧ Sl w' 9 1 (.slice A n c) n (out.map Value.string) ∧
      out = refOut (sitesOfL zs l) fs ∧ ∃ cs, (∀ d n, (d, n) ∈ fs → ∃ g mr, aget d cs = some (cen0 g mr n (ofDc d (sitesOfL zs l)))) ∧ (∀ d, d ∉ fs.map (·.1) → aget d cs = none) ∧ out = (runT cs (sitesOfL zs l)).flatMap (·.2)))
section
variable {w : World} {p : Option Addr} {S : List Pl} {t : Int} {ok ok2 : Nat → TypeId → Prop} {vs vf : Value} {zs : List Si} {fs : List Fa}
theorem rwalk_len (S : List Pl) (t : Int) : (rwalk S t).length ≤ S.length := by
  have := uniq_len ((turned S t).map (·.2)) []
  rw [List.length_map, (turned_perm S t).length_eq] at this
  unfold rwalk
  simpa using this
theorem Network_view (h : RV w p S) (hr : rising S) (hS : S.length ≤ 200) (hs : SlK w ok 3 vs zs.length (zs.flatMap sC)) (hf : SlK w ok2 2 vf fs.length (fs.flatMap fC)) (hz : zs.length ≤ 1000) (hfl : fs.length ≤ 1000) (hfn : ∀ f ∈ fs, -9223372036854775808 ≤ f.2 ∧ f.2 < 9223372036854775808) :
    Calls Tryz.prog 27 #[.pointer p, .int .i64 t, vs, vf] w fun e w' => NetV w zs (rwalk S t) fs e w' := by
  obtain ⟨A1, c1, rfl, -, -⟩ := hs.shape
  obtain ⟨A2, c2, rfl, -, -⟩ := hf.shape
  have hl : (rwalk S t).length ≤ 200 := Nat.le_trans (rwalk_len S t) hS
  have hw : ∀ W, Kept noBlock w W → Calls Tryz.prog 45 #[.pointer p, .int .i64 t] W fun e w' => ∃ v, e = .returned v ∧ w'.ownsRow W.heap.size 9 1 v (rwalk S t).length ((rwalk S t).map Value.string) ∧ Kept noBlock W w' := by
    intro W hk
    rcases h with ⟨rfl, rfl⟩ | ⟨g, rfl, h⟩
    · refine (RwalkN_at t W).mono ?_
      rintro e w' ⟨rfl, rfl⟩
      exact ⟨_, rfl, World.ownsRow_nil _ _ _ _, Kept.refl _ _⟩
    · exact Rwalk_own (h.kept hk) hr (by omega)
  refine (callsIn_wide.1 (rNetwork_in rfl rfl hs.lo hf.lo hw hz hfl hl hfn)).mono ?_
  rintro e w' ⟨hk, ⟨h1, h2⟩ | ⟨h1, h2, out, v, h3, h4, h5, h6⟩⟩
  · refine ⟨hk, .inl ⟨h1.imp id fun ⟨x, hx, e⟩ => ⟨x, hx, by rw [← sm_site]; exact e⟩, h2⟩⟩
  · obtain ⟨A, c, rfl, -, -⟩ := h5.shape
    obtain ⟨g1, g2⟩ := net_out h3 h1
    exact ⟨hk, .inr ⟨h1, fun x hx => by rw [← sm_site]; exact h2 x hx, A, _, c, out, h4, rfl, h6, h5, g1, g2⟩⟩
end
end Go.Proofs.YtepikngkbondgaaGreat
namespace Go.Proofs.YtepikngkbondgaaGreat
set_option linter.unusedVariables false
open Go.RowKit

def sitesS (S : List Ho) : List Si := S.map fun o => (o.name, o.dc, o.rack)
theorem site_get (S : List Ho) (x : ByteArray) : siteOf (sitesS S) x = (getS x S).map fun o => (o.name, o.dc, o.rack) := by
  induction S with
  | nil => rfl
  | cons o S ih =>
    unfold sitesS siteOf getS at *
    rw [List.map_cons, List.find?_cons, List.find?_cons]
    by_cases e : o.name = x
    · rw [decide_eq_true e]; rfl
    · rw [decide_eq_false e]; exact ih
def ringW (S : List Ho) (t : Int) : List ByteArray := rwalk (refRing S) t
theorem ringW_nodup (S : List Ho) (t : Int) : (ringW S t).Nodup := uniq_nodup _ _ List.nodup_nil
theorem uniq_sub : ∀ (l out : List ByteArray), ∀ x ∈ uniq out l, x ∈ out ∨ x ∈ l
  | [], _, x, h => .inl h
  | y :: l, out, x, h => by
    rw [uniq] at h
    split at h
    · rcases uniq_sub l out x h with h | h
      · exact .inl h
      · exact .inr (.tail _ h)
    · rcases uniq_sub l _ x h with h | h
      · rcases List.mem_append.1 h with h | h
        · exact .inl h
        · have : x = y := by simpa using h
          subst this; exact .inr (.head _)
      · exact .inr (.tail _ h)
theorem ringW_mem {S : List Ho} {t : Int} {x : ByteArray} (h : x ∈ ringW S t) : ∃ o ∈ S, o.name = x := by
  rcases uniq_sub _ _ x h with h | h
  · cases h
  obtain ⟨p, hp, rfl⟩ := List.mem_map.1 h
  have h1 : p ∈ refRing S := by
    unfold turned at hp
    rcases List.mem_append.1 hp with hp | hp
    · exact List.mem_of_mem_drop hp
    · exact List.mem_of_mem_take hp
  obtain ⟨o, ho, -, e⟩ := toks_mem.1 (places_mem ((ring_perm S).mem_iff.1 h1)).1
  exact ⟨o, ho, e.symm⟩
theorem ringW_len {S : List Ho} (t : Int) : (ringW S t).length ≤ S.length := by
  have := nodup_le (b := S.map (·.name)) (ringW_nodup S t) fun x hx => by
    obtain ⟨o, ho, e⟩ := ringW_mem hx
    exact List.mem_map.2 ⟨o, ho, e⟩
  rwa [List.length_map] at this
theorem ringW_site {S : List Ho} {t : Int} : ∀ h ∈ ringW S t, ∃ s, siteOf (sitesS S) h = some s := fun h hh => by
  obtain ⟨o, ho, e⟩ := ringW_mem hh
  rw [site_get]
  cases hg : getS h S with
  | none => exact absurd e (getS_none.1 hg o ho)
  | some o => exact ⟨_, rfl⟩
/-- The hosts that have a token's data. -/
def replP (S : List Ho) (n : Int) (fs : List Fa) (t : Int) : List ByteArray :=
  if fs.length = 0 then (ringW S t).take (max (min n ((ringW S t).length : Int)) 0).toNat
  else if (fs.map (·.1)).Nodup then refOut (sitesOfL (sitesS S) (ringW S t)) fs else []
def upS (S : List Ho) (x : ByteArray) : Bool := match getS x S with | some o => o.up | none => false
def farL (dc : ByteArray) (rem : Int) (S : List Ho) (d : Int) : List ByteArray := (S.filter fun o => decide (distP dc rem S o.name = d)).map (·.name)
def turnL (l : List ByteArray) (k : Nat) : List ByteArray := l.drop (k % l.length) ++ l.take (k % l.length)
theorem turnL_perm (l : List ByteArray) (k : Nat) : (turnL l k).Perm l := by
  unfold turnL
  have h := List.perm_append_comm (l₁ := l.drop (k % l.length)) (l₂ := l.take (k % l.length))
  rwa [List.take_append_drop] at h
theorem turnL_len (l : List ByteArray) (k : Nat) : (turnL l k).length = l.length := (turnL_perm l k).length_eq
theorem turnL_get {l : List ByteArray} {k i : Nat} (hi : i < l.length) : (turnL l k)[i]? = l[(k % l.length + i) % l.length]? := by
  have hr : k % l.length < l.length := Nat.mod_lt _ (by omega)
  unfold turnL
  generalize k % l.length = r at *
  by_cases h : i < l.length - r
  · rw [List.getElem?_append_left (by rw [List.length_drop]; exact h), List.getElem?_drop, Nat.mod_eq_of_lt (by omega)]
  · rw [List.getElem?_append_right (by rw [List.length_drop]; omega), List.length_drop, List.getElem?_take_of_lt (by omega)]
    congr 1
    rw [show r + i = (r + i - l.length) + l.length by omega, Nat.add_mod_right, Nat.mod_eq_of_lt (by omega)]
    omega
/-- A host is put into a plan. -/
def putN (dc : ByteArray) (rem : Int) (S : List Ho) (d : Int) (out : List ByteArray) (x : ByteArray) : List ByteArray :=
  if upS S x = true ∧ has out x = false ∧ distP dc rem S x = d then out ++ [x] else out
def putP (dc : ByteArray) (rem : Int) (S : List Ho) (d : Int) (out names : List ByteArray) : List ByteArray := names.foldl (putN dc rem S d) out
def planP (dc : ByteArray) (rem : Int) (S : List Ho) (n : Int) (fs : List Fa) (routed : Bool) (t : Int) (k : Nat) : List ByteArray :=
  putP dc rem S 2 (putP dc rem S 1 (putP dc rem S 1 [] (if routed = true then replP S n fs t else [])) (turnL (farL dc rem S 1) k)) (turnL (farL dc rem S 2) k)
/-- The reference's form. -/
def addU (S : List Ho) (out : List ByteArray) (x : ByteArray) : List ByteArray := if upS S x = true ∧ has out x = false then out ++ [x] else out
def allP (dc : ByteArray) (rem : Int) (S : List Ho) (n : Int) (fs : List Fa) (routed : Bool) (t : Int) (k : Nat) : List ByteArray :=
  (if routed = true then (replP S n fs t).filter fun x => decide (distP dc rem S x = 1) else []) ++ turnL (farL dc rem S 1) k ++ turnL (farL dc rem S 2) k
section
variable {dc : ByteArray} {rem : Int} {S : List Ho} {d : Int}
theorem put_filter (d : Int) : ∀ (l out : List ByteArray), l.foldl (putN dc rem S d) out = (l.filter fun x => decide (distP dc rem S x = d)).foldl (addU S) out
  | [], _ => rfl
  | x :: l, out => by
    rw [List.foldl_cons, List.filter_cons]
    by_cases e : distP dc rem S x = d
    · rw [decide_eq_true e, if_pos rfl, List.foldl_cons, put_filter d l]
      congr 1
      unfold putN addU
      simp [e]
    · rw [decide_eq_false e, put_filter d l]
      have : putN dc rem S d out x = out := by unfold putN; rw [if_neg fun h => e h.2.2]
      rw [this]; rfl
theorem far_dist {k : Nat} (x : ByteArray) (h : x ∈ turnL (farL dc rem S d) k) : distP dc rem S x = d := by
  obtain ⟨o, ho, rfl⟩ := List.mem_map.1 ((turnL_perm _ _).mem_iff.1 h)
  exact of_decide_eq_true (List.mem_filter.1 ho).2
theorem far_all (k : Nat) : ((turnL (farL dc rem S d) k).filter fun x => decide (distP dc rem S x = d)) = turnL (farL dc rem S d) k := List.filter_eq_self.2 fun x hx => decide_eq_true (far_dist x hx)
/-- Both forms are the same. -/
theorem plan_ref (n : Int) (fs : List Fa) (routed : Bool) (t : Int) (k : Nat) : (allP dc rem S n fs routed t k).foldl (addU S) [] = planP dc rem S n fs routed t k := by
  unfold planP putP allP
  rw [put_filter, put_filter, put_filter, far_all, far_all, List.foldl_append, List.foldl_append]
  congr 2
  cases routed <;> rfl
theorem dist_some {x : ByteArray} (h : distP dc rem S x ≠ 0) : ∃ o, getS x S = some o := by
  cases hg : getS x S with
  | none => unfold distP at h; rw [hg] at h; exact absurd rfl h
  | some o => exact ⟨o, rfl⟩
/-- What a put leaves. -/
theorem put_spec (d : Int) : ∀ (l out : List ByteArray), ∃ new, l.foldl (putN dc rem S d) out = out ++ new ∧ new.Nodup ∧ ∀ x, x ∈ new ↔ x ∈ l ∧ upS S x = true ∧ distP dc rem S x = d ∧ x ∉ out
  | [], out => ⟨[], by simp, List.nodup_nil, fun x => by simp⟩
  | y :: l, out => by
    rw [List.foldl_cons]
    by_cases e : upS S y = true ∧ has out y = false ∧ distP dc rem S y = d
    · have e1 : putN dc rem S d out y = out ++ [y] := by unfold putN; rw [if_pos e]
      obtain ⟨new, h1, h2, h3⟩ := put_spec d l (out ++ [y])
      have hy : y ∉ out := fun h => by have := has_iff.2 h; rw [e.2.1] at this; cases this
      refine ⟨y :: new, by rw [e1, h1]; simp, List.nodup_cons.2 ⟨fun h => ?_, h2⟩, fun x => ?_⟩
      · exact ((h3 y).1 h).2.2.2 (by simp)
      · rw [List.mem_cons, List.mem_cons, h3]
        constructor
        · rintro (rfl | ⟨h, h4, h5, h6⟩)
          · exact ⟨.inl rfl, e.1, e.2.2, hy⟩
          · exact ⟨.inr h, h4, h5, fun h7 => h6 (by simp [h7])⟩
        · rintro ⟨h, h4, h5, h6⟩
          by_cases e2 : x = y
          · exact .inl e2
          · exact .inr ⟨h.resolve_left e2, h4, h5, fun h7 => by simp at h7; exact h7.elim h6 e2⟩
    · have e1 : putN dc rem S d out y = out := by unfold putN; rw [if_neg e]
      obtain ⟨new, h1, h2, h3⟩ := put_spec d l out
      refine ⟨new, by rw [e1, h1], h2, fun x => ?_⟩
      rw [h3, List.mem_cons]
      constructor
      · rintro ⟨h, h4⟩; exact ⟨.inr h, h4⟩
      · rintro ⟨h, h4, h5, h6⟩
        rcases h with rfl | h
        · exact absurd ⟨h4, by rw [Bool.eq_false_iff]; exact fun h => h6 (has_iff.1 h), h5⟩ e
        · exact ⟨h, h4, h5, h6⟩
theorem put_len (d : Int) (l out : List ByteArray) : (putP dc rem S d out l).length ≤ out.length + l.length := by
  unfold putP
  induction l generalizing out with
  | nil => simp
  | cons x l ih =>
    rw [List.foldl_cons]
    refine Nat.le_trans (ih _) ?_
    unfold putN
    split <;> simp <;> omega
theorem mem_far {x : ByteArray} (hS : risingH S) (hd : d ≠ 0) : x ∈ farL dc rem S d ↔ distP dc rem S x = d := by
  unfold farL
  constructor
  · intro h
    obtain ⟨o, ho, rfl⟩ := List.mem_map.1 h
    exact of_decide_eq_true (List.mem_filter.1 ho).2
  · intro h
    obtain ⟨o, ho⟩ := dist_some (by rw [h]; exact hd)
    have := getS_name ho
    subst this
    exact List.mem_map.2 ⟨o, List.mem_filter.2 ⟨getS_mem ho, decide_eq_true h⟩, rfl⟩
theorem mem_turn {x : ByteArray} {l : List ByteArray} {k : Nat} : x ∈ turnL l k ↔ x ∈ l := (turnL_perm l k).mem_iff
/-- What a plan holds: the token's own near ones, other near ones, far ones. -/
theorem plan_spec (hS : risingH S) (n : Int) (fs : List Fa) (routed : Bool) (t : Int) (k : Nat) :
    ∃ A B C, planP dc rem S n fs routed t k = A ++ B ++ C ∧ (A ++ B ++ C).Nodup ∧ (∀ x, x ∈ A ↔ (routed = true ∧ x ∈ replP S n fs t) ∧ upS S x = true ∧ distP dc rem S x = 1) ∧
      (∀ x, x ∈ B ↔ upS S x = true ∧ distP dc rem S x = 1 ∧ x ∉ A) ∧ (∀ x, x ∈ C ↔ upS S x = true ∧ distP dc rem S x = 2) := by
  obtain ⟨A, h1, h2, h3⟩ := put_spec (dc := dc) (rem := rem) (S := S) 1 (if routed = true then replP S n fs t else []) []
  obtain ⟨B, h4, h5, h6⟩ := put_spec (dc := dc) (rem := rem) (S := S) 1 (turnL (farL dc rem S 1) k) A
  obtain ⟨C, h7, h8, h9⟩ := put_spec (dc := dc) (rem := rem) (S := S) 2 (turnL (farL dc rem S 2) k) (A ++ B)
  have hA : ∀ x, x ∈ A ↔ (routed = true ∧ x ∈ replP S n fs t) ∧ upS S x = true ∧ distP dc rem S x = 1 := fun x => by
    rw [h3]
    cases routed <;> simp
  have hB : ∀ x, x ∈ B ↔ upS S x = true ∧ distP dc rem S x = 1 ∧ x ∉ A := fun x => by
    rw [h6, mem_turn, mem_far hS (by decide)]
    constructor
    · rintro ⟨-, h⟩; exact h
    · rintro ⟨h, h', h''⟩; exact ⟨h', h, h', h''⟩
  have hC : ∀ x, x ∈ C ↔ upS S x = true ∧ distP dc rem S x = 2 := fun x => by
    rw [h9, mem_turn, mem_far hS (by decide)]
    constructor
    · rintro ⟨-, h, h', -⟩; exact ⟨h, h'⟩
    · rintro ⟨h, h'⟩
      refine ⟨h', h, h', fun hm => ?_⟩
      rcases List.mem_append.1 hm with hm | hm
      · have := ((hA x).1 hm).2.2; omega
      · have := ((hB x).1 hm).2.1; omega
  refine ⟨A, B, C, ?_, ?_, hA, hB, hC⟩
  · unfold planP putP
    rw [h1, List.nil_append, h4, h7]
  · rw [List.nodup_append, List.nodup_append]
    refine ⟨⟨h2, h5, fun a ha b hb e => ?_⟩, h8, fun a ha b hb e => ?_⟩
    · subst e; exact ((hB a).1 hb).2.2 ha
    · subst e
      exact ((h9 a).1 hb).2.2.2 ha
end
end Go.Proofs.YtepikngkbondgaaGreat
namespace Go.Proofs.YtepikngkbondgaaGreat
set_option linter.unusedVariables false
open Go.RowKit
open Go.ChangeMaps (setBlock)

def TV (w : World) (own : Nat → Prop) (p : Option Addr) (dc : ByteArray) (rem : Int) (S : List Ho) : Prop := (p = none ∧ S = []) ∨ ∃ g, p = some ⟨g, 0, none⟩ ∧ TabS w own g dc rem S
section
variable {w w' : World} {own : Nat → Prop} {p : Option Addr} {dc : ByteArray} {rem : Int} {S : List Ho} {T : Nat → Prop}
theorem TV.kept (h : TV w own p dc rem S) (hk : Kept T w w') (hT : ∀ k, own k → ¬ T k) : TV w' own p dc rem S := by
  rcases h with h | ⟨g, hp, h⟩
  · exact .inl h
  · exact .inr ⟨g, hp, h.kept hk hT⟩
theorem TV.keptN (h : TV w own p dc rem S) (hk : Kept noBlock w w') : TV w' own p dc rem S := h.kept hk fun _ _ e => e
theorem hAll_tv (h : TV w own p dc rem S) (hS : S.length ≤ 100000) (hk : ∀ o ∈ S, o.toks.length ≤ 1000000) :
    Calls Tryz.prog 17 #[.pointer p] w fun e w' => ∃ A n c T, e = .returned (.slice A n c) ∧ Told w w' A n c T S ∧ Kept noBlock w w' := by
  rcases h with ⟨rfl, rfl⟩ | ⟨g, rfl, h⟩
  · refine (hAllN_at w).mono ?_
    rintro e w' ⟨rfl, rfl⟩
    exact ⟨none, 0, 0, [], rfl, ⟨rfl, rfl, World.ownsRow_nil _ _ _ _, fun x hx => absurd hx List.not_mem_nil⟩, Kept.refl _ _⟩
  · exact hAll_told h hS hk
theorem hDist_tv (h : TV w own p dc rem S) (x : ByteArray) (hS : S.length ≤ 1000000) : Calls Tryz.prog 19 #[.pointer p, .string x] w fun e w' => e = .returned (.int .i64 (distP dc rem S x)) ∧ Kept noBlock w w' := by
  rcases h with ⟨rfl, rfl⟩ | ⟨g, rfl, h⟩
  · refine (hDistN_at x w).mono ?_
    rintro e w' ⟨rfl, rfl⟩
    exact ⟨rfl, Kept.refl _ _⟩
  · exact hDist_at h x hS
theorem hRing_tv (h : TV w own p dc rem S) (hS : S.length ≤ 100000) (hk : ∀ o ∈ S, o.toks.length ≤ 1000000) (hP : (pairsH S).length ≤ 1000) (hnm : ∀ o ∈ S, o.name ≠ noStr) :
    Calls Tryz.prog 26 #[.pointer p] w fun e w' => ∃ q, e = .returned (.pointer q) ∧ RV w' q (refRing S) ∧ Kept noBlock w w' := by
  rcases h with ⟨rfl, rfl⟩ | ⟨g, rfl, h⟩
  · refine (hRingN_at w).mono ?_
    rintro e w' ⟨rfl, rfl⟩
    exact ⟨none, rfl, .inl ⟨rfl, rfl⟩, Kept.refl _ _⟩
  · refine (hRing_at h hS hk hP hnm).mono ?_
    rintro e w' ⟨gr, rfl, hr, hk, -⟩
    exact ⟨_, rfl, .inr ⟨gr, rfl, hr⟩, hk⟩
end
section
variable {w : World} {p : Option Addr} {S : List Pl} {t : Int} {ok ok2 : Nat → TypeId → Prop} {vs vf : Value} {zs : List Si} {fs : List Fa}
theorem Network_tv (h : RV w p S) (hr : rising S) (hS : S.length ≤ 1000) (hl : (rwalk S t).length ≤ 200) (hs : SlK w ok 3 vs zs.length (zs.flatMap sC)) (hf : SlK w ok2 2 vf fs.length (fs.flatMap fC)) (hz : zs.length ≤ 1000) (hfl : fs.length ≤ 1000) (hfn : ∀ f ∈ fs, -9223372036854775808 ≤ f.2 ∧ f.2 < 9223372036854775808) :
    Calls Tryz.prog 27 #[.pointer p, .int .i64 t, vs, vf] w fun e w' => NetV w zs (rwalk S t) fs e w' := by
  obtain ⟨A1, c1, rfl, -, -⟩ := hs.shape
  obtain ⟨A2, c2, rfl, -, -⟩ := hf.shape
  have hw : ∀ W, Kept noBlock w W → Calls Tryz.prog 45 #[.pointer p, .int .i64 t] W fun e w' => ∃ v, e = .returned v ∧ w'.ownsRow W.heap.size 9 1 v (rwalk S t).length ((rwalk S t).map Value.string) ∧ Kept noBlock W w' := by
    intro W hk
    rcases h with ⟨rfl, rfl⟩ | ⟨g, rfl, h⟩
    · refine (RwalkN_at t W).mono ?_
      rintro e w' ⟨rfl, rfl⟩
      exact ⟨_, rfl, World.ownsRow_nil _ _ _ _, Kept.refl _ _⟩
    · exact Rwalk_own (h.kept hk) hr (by omega)
  refine (callsIn_wide.1 (rNetwork_in rfl rfl hs.lo hf.lo hw hz hfl hl hfn)).mono ?_
  rintro e w' ⟨hk, ⟨h1, h2⟩ | ⟨h1, h2, out, v, h3, h4, h5, h6⟩⟩
  · refine ⟨hk, .inl ⟨h1.imp id fun ⟨x, hx, e⟩ => ⟨x, hx, by rw [← sm_site]; exact e⟩, h2⟩⟩
  · obtain ⟨A, c, rfl, -, -⟩ := h5.shape
    obtain ⟨g1, g2⟩ := net_out h3 h1
    exact ⟨hk, .inr ⟨h1, fun x hx => by rw [← sm_site]; exact h2 x hx, A, _, c, out, h4, rfl, h6, h5, g1, g2⟩⟩
/-- The first hosts of a walk. -/
theorem Simple_tv {n : Int} (h : RV w p S) (hr : rising S) (hS : S.length ≤ 1000) :
    Calls Tryz.prog 25 #[.pointer p, .int .i64 t, .int .i64 n] w fun e w' => ∃ A c, e = .returned (.slice A (max (min n ((rwalk S t).length : Int)) 0).toNat c) ∧ Sl w' 9 1 (.slice A (max (min n ((rwalk S t).length : Int)) 0).toNat c) (max (min n ((rwalk S t).length : Int)) 0).toNat (((rwalk S t).take (max (min n ((rwalk S t).length : Int)) 0).toNat).map Value.string) ∧ Kept noBlock w w' := by
  have hl : (rwalk S t).length ≤ 1000 := Nat.le_trans (rwalk_len S t) hS
  refine (rSimple_in (l := rwalk S t) hl rfl ((Rwalk_view h hr hS).mono ?_)).mono ?_
  · rintro e w' ⟨A, c, rfl, hs, hk⟩
    exact ⟨_, rfl, hs, hk⟩
  · rintro e w' ⟨v, rfl, hs, hk⟩
    obtain ⟨A, c, rfl, -, -⟩ := hs.shape
    exact ⟨A, c, rfl, hs, hk⟩
end
end Go.Proofs.YtepikngkbondgaaGreat

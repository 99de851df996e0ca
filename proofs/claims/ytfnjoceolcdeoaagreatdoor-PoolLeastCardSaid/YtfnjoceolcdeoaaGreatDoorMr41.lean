/- A region that draws its order, where many operations may come up in any order once one has: a check that does not go through the orders. No program is named · conn.next: the steps of the handshake. -/
import Derived.Test.YtfnjoceolcdeoaaGreatDoorMr12
import Derived.Test.YtfnjoceolcdeoaaGreatDoorMr40
import Derived.Test.YtfnjoceolcdeoaaGreatDoorMr10
namespace Go.Proofs.YtfnjoceolcdeoaaGreatDoor
set_option linter.unusedVariables false
open Go.RowKit

/-- Does j wait for i? -/
def waitsOn (ops : Array Oper) (j i : Nat) : Bool := match ops[j]? with
  | some o => o.after.any fun e => Region.binds .any e && e.on == i
  | none => true
def setAll (M : List Nat) (listed : Array Bool) : Array Bool := M.foldl (fun l i => l.setIfInBounds i true) listed
/-- All of M may come up now, and whatever else is left waits for all of them. -/
def setB (ops : Array Oper) (k : Array Bool → Bool) (M : List Nat) (listed : Array Bool) : Bool :=
  M.all (fun i => (Region.ready .any ops listed).contains i) && (List.range ops.size).all (fun j => listed.getD j true || M.contains j || M.all fun i => waitsOn ops j i) && k (setAll M listed) && decide M.Nodup
def preSetB (ops : Array Oper) (p : Nat) (k : Array Bool → Bool) (M : List Nat) (listed : Array Bool) : Bool :=
  Region.ready .any ops listed == [p] && !M.contains p && setB ops k M (listed.setIfInBounds p true)
def pre0 (_ : Nat) : List Nat := []

theorem setAll_size (M : List Nat) : ∀ (l : Array Bool), (setAll M l).size = l.size := by
  induction M with
  | nil => intro l; rfl
  | cons a t ih => intro l; show (setAll t _).size = _; rw [ih]; simp
theorem setAll_get (M : List Nat) : ∀ (l : Array Bool) (j : Nat), (setAll M l)[j]? = if j < l.size then (if j ∈ M then some true else l[j]?) else none := by
  induction M with
  | nil => intro l j; show l[j]? = _; by_cases h : j < l.size <;> simp [h]
  | cons a t ih =>
    intro l j
    show (setAll t (l.setIfInBounds a true))[j]? = _
    rw [ih]
    by_cases h : j < l.size
    · rw [if_pos (by simpa using h), if_pos h]
      by_cases h1 : j ∈ t
      · rw [if_pos h1, if_pos (List.mem_cons_of_mem _ h1)]
      · rw [if_neg h1]
        by_cases h2 : j = a
        · subst h2
          rw [if_pos (List.mem_cons_self)]
          simp [h]
        · rw [if_neg (by simp [h1, h2])]
          rw [Array.getElem?_setIfInBounds_ne (Ne.symm h2)]
    · rw [if_neg (by simpa using h), if_neg h]
theorem mix_of_set {ops : Array Oper} {k : Array Bool → Bool} {M0 : List Nat} {l0 : Array Bool} (h : setB ops k M0 l0 = true) :
    ∀ (n : Nat) (N : List Nat) (cur : Array Bool), N.length = n → N.Nodup → (∀ i ∈ N, i ∈ M0) → cur.size = l0.size → (∀ j, cur[j]? = if j < l0.size then (if j ∈ M0 ∧ j ∉ N then some true else l0[j]?) else none) → mixB ops pre0 k n N cur = true := by
  simp only [setB, Bool.and_eq_true, List.all_eq_true, decide_eq_true_eq, Bool.or_eq_true] at h
  obtain ⟨⟨⟨h1, h2⟩, h3⟩, h4⟩ := h
  have hrd : ∀ i ∈ M0, i ∈ Region.ready .any ops l0 := fun i hi => by simpa using h1 i hi
  intro n
  induction n with
  | zero =>
    intro N cur hn hnd hN hs hc
    obtain rfl : N = [] := List.eq_nil_of_length_eq_zero hn
    have e : cur = setAll M0 l0 := by
      apply Array.ext_getElem?
      intro j
      rw [hc, setAll_get]
      simp
    simp [mixB, e, h3]
  | succ n ih =>
    intro N cur hn hnd hN hs hc
    have hready : ∀ i, i ∈ Region.ready .any ops cur → i ∈ N := fun i hi => by
      rw [mem_ready] at hi
      obtain ⟨hl, o, ho, hall⟩ := hi
      have hsz : i < ops.size := (Array.getElem?_eq_some_iff.1 ho).1
      have hil : i < l0.size ∧ ¬ (i ∈ M0 ∧ i ∉ N) := by
        rw [Array.getD_eq_getD_getElem?, hc] at hl
        by_cases hb : i < l0.size
        · rw [if_pos hb] at hl
          refine ⟨hb, fun e => ?_⟩
          rw [if_pos e] at hl
          simp at hl
        · rw [if_neg hb] at hl
          simp at hl
      by_cases hM : i ∈ M0
      · exact Classical.byContradiction fun hn => hil.2 ⟨hM, hn⟩
      · exfalso
        obtain ⟨m, hm⟩ : ∃ m, m ∈ N := by
          cases N with
          | nil => simp at hn
          | cons a t => exact ⟨a, List.mem_cons_self⟩
        rcases h2 i (List.mem_range.2 hsz) with (h5 | h5) | h5
        · rw [Array.getD_eq_getD_getElem?, hc, if_pos hil.1, if_neg hil.2] at hl
          rw [Array.getD_eq_getD_getElem?] at h5
          rw [h5] at hl; cases hl
        · exact hM (by simpa using h5)
        · have hw := h5 m (hN m hm)
          unfold waitsOn at hw
          rw [ho] at hw
          simp only [Array.any_eq_true, Bool.and_eq_true, beq_iff_eq] at hw
          obtain ⟨x, hx, hbx, hex⟩ := hw
          have := hall _ (Array.getElem_mem hx) hbx
          rw [hex, Array.getD_eq_getD_getElem?, hc] at this
          have hml : m < l0.size := by
            have h6 := hrd m (hN m hm)
            rw [mem_ready] at h6
            obtain ⟨h6, _⟩ := h6
            rw [Array.getD_eq_getD_getElem?] at h6
            by_cases hb : m < l0.size
            · exact hb
            · rw [Array.getElem?_eq_none (by omega)] at h6; simp at h6
          have hmf : l0[m]? = some false := by
            have h6 := hrd m (hN m hm)
            rw [mem_ready] at h6
            obtain ⟨h6, _⟩ := h6
            rw [Array.getD_eq_getD_getElem?] at h6
            rw [Array.getElem?_eq_getElem hml] at h6 ⊢
            simp at h6
            rw [h6]
          rw [if_pos hml, if_neg (fun e => e.2 hm), hmf] at this
          simp at this
    have hin : ∀ i ∈ N, i ∈ Region.ready .any ops cur := fun i hi => by
      have h6 := hrd i (hN i hi)
      rw [mem_ready] at h6 ⊢
      obtain ⟨h6, o, ho, hall⟩ := h6
      refine ⟨?_, o, ho, fun e he hb => ?_⟩
      · rw [Array.getD_eq_getD_getElem?, hc]
        by_cases hb : i < l0.size
        · rw [if_pos hb, if_neg (fun e => e.2 hi)]
          rw [Array.getD_eq_getD_getElem?] at h6; exact h6
        · rw [Array.getD_eq_getD_getElem?, Array.getElem?_eq_none (by omega)] at h6; simp at h6
      · have h7 := hall e he hb
        rw [Array.getD_eq_getD_getElem?] at h7 ⊢
        rw [hc]
        by_cases hb : e.on < l0.size
        · rw [if_pos hb]
          split
          · rfl
          · exact h7
        · rw [Array.getElem?_eq_none (by omega)] at h7; simp at h7
    simp only [mixB, Bool.and_eq_true, List.all_eq_true]
    refine ⟨?_, fun i hi => ⟨⟨by simpa using hready i hi, fun j hj => ?_⟩, ih _ _ ?_ (hnd.erase i) (fun j hj => hN j (List.mem_of_mem_erase hj)) (by simp [hs]) fun j => ?_⟩⟩
    · cases N with
      | nil => simp at hn
      | cons a t =>
        have := hin a List.mem_cons_self
        cases hr : Region.ready .any ops cur with
        | nil => rw [hr] at this; cases this
        | cons _ _ => rfl
    · cases hj
    · rw [List.length_erase_of_mem (hready i hi), hn]; rfl
    · have hiN := hready i hi
      by_cases hji : j = i
      · subst hji
        by_cases hb : j < l0.size
        · rw [if_pos hb, if_pos ⟨hN _ hiN, fun h => by have := (List.Nodup.mem_erase_iff hnd).1 h; exact this.1 rfl⟩]
          simp [hs, hb]
        · rw [if_neg hb, Array.getElem?_eq_none (by simp [hs]; omega)]
      · rw [Array.getElem?_setIfInBounds_ne (Ne.symm hji), hc]
        by_cases hb : j < l0.size
        · rw [if_pos hb, if_pos hb]
          by_cases hq : j ∈ M0 ∧ j ∉ N
          · rw [if_pos hq, if_pos ⟨hq.1, fun h => hq.2 (List.mem_of_mem_erase h)⟩]
          · rw [if_neg hq, if_neg fun h => hq ⟨h.1, fun h2 => h.2 ((List.mem_erase_of_ne hji).2 h2)⟩]
        · rw [if_neg hb, if_neg hb]
theorem takesB_mono {ops : Array Oper} {k k' : Array Bool → Bool} (h : ∀ l, k' l = true → k l = true) : ∀ (T : List Nat) (l : Array Bool), takesB ops k' T l = true → takesB ops k T l = true
  | [], l, ht => h l ht
  | i :: r, l, ht => by
    simp only [takesB, Bool.and_eq_true] at ht ⊢
    exact ⟨ht.1, takesB_mono h r _ ht.2⟩
theorem wpAnyH_weak {P : Program} {md : Region.Mode} {ops : Array Oper} {Q : Exit → Act → World → Prop} {S S' : World → Prop} (h : ∀ w, S' w → S w) : ∀ (n : Nat) (listed : Array Bool) (a : Act) (w : World), wpAnyH P md ops Q S' n listed a w → wpAnyH P md ops Q S n listed a w
  | 0, _, _, _, hh => hh
  | n + 1, _, _, _, hh => ⟨hh.1, fun i hi => wpOp_mono (fun a' w' h2 => ⟨h _ h2.1, wpAnyH_weak h n _ a' w' h2.2⟩) (hh.2 i hi)⟩
/-- The operation that comes ahead of the mix, and the mix. -/
def wpPre (P : Program) (ops : Array Oper) (S' : World → Prop) (Q : Exit → Act → World → Prop) (p : Nat) (M : List Nat) (l : Sch) (a : Act) (w : World) : Prop :=
  ∃ o, ops[p]? = some o ∧ Region.wanted o (yielded ops a.tmps) = true ∧ o.wp P a w (fun a' w' => S' w' ∧ wpMix P ops S' Q pre0 M l a' w') Q
/-- The law: first takes, then one operation, then those of M in any order, then the rest. -/
theorem wp_region_set {P : Program} {ops : Array Oper} {Q : Exit → Act → World → Prop} {id : Nat} {a : Act} {w : World} (S S' : World → Prop) (hSS : ∀ w, S' w → S w) (T : List Nat) (p : Nat) (M : List Nat) (l : Sch) (hm : P.follows .mixedOrders = true) (hs : Region.noSelect ops = true)
    (hB : (T.length + (M.length + l.len + 1) == ops.size && takesB ops (preSetB ops p (schB ops l) M) T (Array.replicate ops.size false)) = true)
    (hS : S w.drew) (h : wpTakes P ops S (wpPre P ops S' (NoPanic Q) p M l) T a w.drew) : (Code.region id ops true).wp P Q a w := by
  refine wp_region_noPanic (wp_region_held (S := S) hm ?_)
  simp only [Bool.and_eq_true, beq_iff_eq] at hB
  obtain ⟨h1, h2⟩ := hB
  have := takes_sound (P := P) (S := S) (Q := NoPanic Q) hs (fun _ _ _ _ _ h => h) (m := M.length + l.len + 1) (K := wpPre P ops S' (NoPanic Q) p M l) (k := preSetB ops p (schB ops l) M) (fun listed a w hB hS hK => by
    obtain ⟨o, ho, hw, hwp⟩ := hK
    simp only [preSetB, Bool.and_eq_true, beq_iff_eq] at hB
    obtain ⟨⟨hr, -⟩, hset⟩ := hB
    have hnd : M.Nodup := by
      simp only [setB, Bool.and_eq_true, decide_eq_true_eq] at hset
      exact hset.2
    refine wpAnyH_all hr (by simp) fun i hi => ?_
    obtain rfl : i = p := by simpa using hi
    unfold wpOp
    simp only [ho, hw, if_true]
    refine .inl (Oper.wp_mono (fun a' w' h' => ?_) hwp)
    obtain ⟨hS', A, val, F, rfl, hst, hend⟩ := h'
    refine ⟨hSS _ hS', wpAnyH_weak hSS _ _ _ _ ?_⟩
    have hmx : mixB ops pre0 (schB ops l) M.length M (listed.setIfInBounds i true) = true := mix_of_set hset _ M _ rfl hnd (fun _ h => h) rfl fun j => by
      by_cases hb : j < (listed.setIfInBounds i true).size
      · rw [if_pos hb, if_neg (fun e => e.2 e.1)]
      · rw [if_neg hb, Array.getElem?_eq_none (by omega)]
    exact mix_sound hst (fun i hi j hj => by cases hj) (fun listed val w hB hS hF => wpSch_sound hs (fun _ _ _ _ _ h => h) l listed _ w hB hS (hend val w hS hF)) M.length M _ val w' hmx hnd (fun _ h => h) hS' fun j hj hn => absurd hj hn) T _ a w.drew h2 hS h
  rw [h1] at this
  exact this
end Go.Proofs.YtfnjoceolcdeoaaGreatDoor
namespace Go.Proofs.YtfnjoceolcdeoaaGreatDoor
set_option linter.unusedVariables false
open Go.RowKit
open Go.ChangeMaps (setBlock)

/-- The rows of the table, by their operations. -/
def nxR (i : Nat) : (Int × Int) × Int := if i = 2 then ((1, 6), 1) else if i = 4 then ((2, 2), 2) else if i = 6 then ((2, 3), 3) else if i = 8 then ((3, 16), 2) else if i = 10 then ((3, 14), 3) else if i = 12 then ((4, 8), 2) else ((5, 2), 2)
def nxT : List ((Int × Int) × Int) := [((1, 6), 1), ((2, 2), 2), ((2, 3), 3), ((3, 16), 2), ((3, 14), 3), ((4, 8), 2), ((5, 2), 2)]
/-- The map so far. -/
def NxM (g : Nat) (W : World) : Prop := ∃ L, M2 W g L ∧ ∀ p ∈ L, p ∈ nxT
theorem nxT_one {k : Int × Int} {u v : Int} (h1 : (k, u) ∈ nxT) (h2 : (k, v) ∈ nxT) : u = v := by
  obtain ⟨a, b⟩ := k
  simp only [nxT, List.mem_cons, List.not_mem_nil, or_false, Prod.mk.injEq] at h1 h2
  omega
theorem rowV_inj (x y : (Int × Int) × Int) (h : (ek x.1, Value.int .i64 x.2) = (ek y.1, Value.int .i64 y.2)) : x = y := by
  have h1 : ek x.1 = ek y.1 := congrArg Prod.fst h
  have h2 : Value.int .i64 x.2 = Value.int .i64 y.2 := congrArg Prod.snd h
  have h3 : x.2 = y.2 := by injection h2
  exact Prod.ext (ek_inj h1) h3
theorem M2.one {w : World} {g : Nat} {L L2 : List ((Int × Int) × Int)} (h : M2 w g L) (h2 : M2 w g L2) : L = L2 := by
  obtain ⟨-, es1, ck1, hh1, he1⟩ := h
  obtain ⟨-, es2, ck2, hh2, he2⟩ := h2
  rw [hh1] at hh2
  cases hh2
  rw [he1] at he2
  exact (List.map_inj_right rowV_inj).1 he2
theorem nx_put {g : Nat} {w0 W : World} {k : Int × Int} {v : Int} (hk : Kept noBlock w0 W) (hg : w0.heap.size ≤ g) (hm : NxM g W) (ht : (k, v) ∈ nxT) (hsk : sml k) :
    ∃ es ck, (Instr.mapUpdate 194 (.map (some g)) (ek k) (.int .i64 v)).run Tryz.prog W = .ok () (setBlock W g (.map es ck)) ∧ Kept noBlock w0 (setBlock W g (.map es ck)) ∧ NxM g (setBlock W g (.map es ck)) ∧ (∃ L, M2 (setBlock W g (.map es ck)) g L ∧ (k, v) ∈ L) ∧ ∀ p, (∃ L, M2 W g L ∧ p ∈ L) → ∃ L, M2 (setBlock W g (.map es ck)) g L ∧ p ∈ L := by
  obtain ⟨L, hL, hT⟩ := hm
  obtain ⟨es, ck, hrun, L', hL', hiff⟩ := hL.run_put k v hsk fun u hu => nxT_one (hT _ hu) ht
  refine ⟨es, ck, hrun, hk.setBlock (fun h => by omega) _, ⟨L', hL', fun p hp => ?_⟩, ⟨L', hL', (hiff _).2 (.inr rfl)⟩, fun p ⟨L2, hL2, hp⟩ => ⟨L', hL', (hiff _).2 (.inl ?_)⟩⟩
  · rcases (hiff p).1 hp with h | h
    · exact hT p h
    · rw [h]; exact ht
  · rw [M2.one hL hL2]; exact hp
set_option maxHeartbeats 4000000 in
set_option maxRecDepth 100000 in
theorem cnNext_at (w : World) : Calls Tryz.prog 92 #[] w fun e w' => ∃ g, e = .returned (.map (some g)) ∧ w.heap.size ≤ g ∧ (∃ L, M2 w' g L ∧ ∀ p, p ∈ L ↔ p ∈ nxT) ∧ Kept noBlock w w' := by
  have hmm := @run_makeMap Tryz.prog
  go_enter Tryz.func92, Tryz.ntmps92
  go_wp2_with fail
  refine wp_region_set (fun _ => True) (fun W => Kept noBlock w W ∧ NxM w.heap.size W) (fun _ _ => trivial) [1, 3, 5, 7, 9, 11, 13] 0 [2, 4, 6, 8, 10, 12, 14] (.take 15 (.take 16 .nil)) (by kernel_rfl) (by kernel_rfl) (by kernel_rfl) trivial ?_
  repeat (first
    | (refine takes_takeE rfl rfl ?_
       apply Exists.intro
       refine ⟨fun w' hS => ?_, fun K hK => ?_⟩
       · (clear hS
          unfold takesAt; go_simp; rfl)
       go_simp
       refine hK _ ?_
       clear hK K))
  refine takes_nil ?_
  refine ⟨_, rfl, rfl, op_K fun K hK => ?_⟩
  go_simp
  have HK0 := Lib.hid (((Kept.refl noBlock w).alloc (.map #[] 0)).drew)
  refine hK _ _ ⟨⟨HK0.out, [], ⟨fun p hp => (List.not_mem_nil hp).elim, #[], 0, heap_alloc_new w _, rfl⟩, fun p hp => (List.not_mem_nil hp).elim⟩, ?_⟩
  clear hK K
  refine ⟨fun _ => { tmps := #[.map none, .map (some w.heap.size), .agg #[.int .i64 1, .int .i64 6], .agg #[.int .i64 2, .int .i64 2], .agg #[.int .i64 2, .int .i64 3], .agg #[.int .i64 3, .int .i64 16], .agg #[.int .i64 3, .int .i64 14], .agg #[.int .i64 4, .int .i64 8], .agg #[.int .i64 5, .int .i64 2], undef], defers := [] },
    fun _ => undef, fun i _ W => ∃ L, M2 W w.heap.size L ∧ nxR i ∈ L, rfl, ?_, ?_⟩
  · intro i hi val W hS hF
    simp only [List.mem_cons, List.not_mem_nil, or_false] at hi
    rcases hi with rfl | rfl | rfl | rfl | rfl | rfl | rfl
    · obtain ⟨es, ck, hrun, hk, hm, hf, hst⟩ := nx_put (k := (1, 6)) (v := 1) hS.1 (Nat.le_refl _) hS.2 (by decide) (by unfold sml; decide)
      simp only [ek] at hrun
      refine ⟨_, rfl, rfl, op_K fun K hK => ?_⟩
      go_simp
      exact hK _ _ ⟨⟨hk, hm⟩, undef, rfl, hf, fun j _ u h => hst _ h⟩
    · obtain ⟨es, ck, hrun, hk, hm, hf, hst⟩ := nx_put (k := (2, 2)) (v := 2) hS.1 (Nat.le_refl _) hS.2 (by decide) (by unfold sml; decide)
      simp only [ek] at hrun
      refine ⟨_, rfl, rfl, op_K fun K hK => ?_⟩
      go_simp
      exact hK _ _ ⟨⟨hk, hm⟩, undef, rfl, hf, fun j _ u h => hst _ h⟩
    · obtain ⟨es, ck, hrun, hk, hm, hf, hst⟩ := nx_put (k := (2, 3)) (v := 3) hS.1 (Nat.le_refl _) hS.2 (by decide) (by unfold sml; decide)
      simp only [ek] at hrun
      refine ⟨_, rfl, rfl, op_K fun K hK => ?_⟩
      go_simp
      exact hK _ _ ⟨⟨hk, hm⟩, undef, rfl, hf, fun j _ u h => hst _ h⟩
    · obtain ⟨es, ck, hrun, hk, hm, hf, hst⟩ := nx_put (k := (3, 16)) (v := 2) hS.1 (Nat.le_refl _) hS.2 (by decide) (by unfold sml; decide)
      simp only [ek] at hrun
      refine ⟨_, rfl, rfl, op_K fun K hK => ?_⟩
      go_simp
      exact hK _ _ ⟨⟨hk, hm⟩, undef, rfl, hf, fun j _ u h => hst _ h⟩
    · obtain ⟨es, ck, hrun, hk, hm, hf, hst⟩ := nx_put (k := (3, 14)) (v := 3) hS.1 (Nat.le_refl _) hS.2 (by decide) (by unfold sml; decide)
      simp only [ek] at hrun
      refine ⟨_, rfl, rfl, op_K fun K hK => ?_⟩
      go_simp
      exact hK _ _ ⟨⟨hk, hm⟩, undef, rfl, hf, fun j _ u h => hst _ h⟩
    · obtain ⟨es, ck, hrun, hk, hm, hf, hst⟩ := nx_put (k := (4, 8)) (v := 2) hS.1 (Nat.le_refl _) hS.2 (by decide) (by unfold sml; decide)
      simp only [ek] at hrun
      refine ⟨_, rfl, rfl, op_K fun K hK => ?_⟩
      go_simp
      exact hK _ _ ⟨⟨hk, hm⟩, undef, rfl, hf, fun j _ u h => hst _ h⟩
    · obtain ⟨es, ck, hrun, hk, hm, hf, hst⟩ := nx_put (k := (5, 2)) (v := 2) hS.1 (Nat.le_refl _) hS.2 (by decide) (by unfold sml; decide)
      simp only [ek] at hrun
      refine ⟨_, rfl, rfl, op_K fun K hK => ?_⟩
      go_simp
      exact hK _ _ ⟨⟨hk, hm⟩, undef, rfl, hf, fun j _ u h => hst _ h⟩
  · intro val W hS hF
    have HFIN : Hid (∃ L, M2 W w.heap.size L ∧ ∀ p, p ∈ L ↔ p ∈ nxT) := Lib.hid (by
      obtain ⟨L, hL, hT⟩ := hS.2
      refine ⟨L, hL, fun p => ⟨hT p, fun hp => ?_⟩⟩
      have hall : ∀ j ∈ [2, 4, 6, 8, 10, 12, 14], nxR j ∈ L := fun j hj => by
        obtain ⟨L2, hL2, h⟩ := hF j hj
        rw [hL.one hL2]; exact h
      simp only [nxT, List.mem_cons, List.not_mem_nil, or_false] at hp
      rcases hp with rfl | rfl | rfl | rfl | rfl | rfl | rfl
      · exact hall 2 (by decide)
      · exact hall 4 (by decide)
      · exact hall 6 (by decide)
      · exact hall 8 (by decide)
      · exact hall 10 (by decide)
      · exact hall 12 (by decide)
      · exact hall 14 (by decide))
    have HKW := Lib.hid hS.1
    dsimp only
    repeat (first
      | (refine sch_takeE rfl rfl ?_
         apply Exists.intro
         refine ⟨fun w' hS => ?_, fun K hK => ?_⟩
         · (clear hS
            unfold takesAt; go_simp; rfl)
         go_simp
         refine hK _ ?_
         clear hK K))
    refine sch_nil (NoPanic.normal ?_)
    go_wp2
    go_ret
    obtain ⟨L, h1, h2⟩ := HFIN.out
    exact ⟨_, rfl, Nat.le_refl _, ⟨L, h1, fun a b c => h2 _⟩, HKW.out⟩
/-- What stands in the table. -/
def nxV (st op : Int) : Int := (nxT.find? fun p => decide (p.1 = (st, op))).elim 0 (·.2)
theorem nx_look {w : World} {g : Nat} {L : List ((Int × Int) × Int)} (h : M2 w g L) (hL : ∀ p, p ∈ L ↔ p ∈ nxT) (st op : Int) (hs : sml (st, op)) : (Instr.lookup 194 (.map (some g)) (.agg #[.int .i64 st, .int .i64 op]) false).run Tryz.prog w = .ok (.int .i64 (nxV st op)) w := by
  obtain ⟨v, hrun, hv⟩ := h.run_lookup (st, op) hs
  have e : v = nxV st op := by
    unfold nxV
    cases hf : nxT.find? (fun p => decide (p.1 = (st, op))) with
    | none =>
      rcases hv with ⟨h0, -⟩ | hm
      · exact h0
      · have := List.find?_eq_none.1 hf _ ((hL _).1 hm)
        simp at this
    | some p =>
      have hp1 := List.find?_some hf
      have hp2 := List.mem_of_find?_eq_some hf
      have hpe : p.1 = (st, op) := of_decide_eq_true hp1
      rcases hv with ⟨-, hno⟩ | hm
      · exact absurd hpe (hno p ((hL p).2 hp2))
      · show v = p.2
        refine nxT_one (k := (st, op)) ((hL _).1 hm) ?_
        rw [← hpe]; exact hp2
  rw [← e]; exact hrun
end Go.Proofs.YtfnjoceolcdeoaaGreatDoor

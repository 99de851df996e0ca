/- Chapter 18's reference: Mark, Distance, Same; the law's sameTexts, hostsOf. -/
import Derived.Test.YtjkmgpmknadhjaaGreatR18C
namespace Go.Proofs.YtjkmgpmknadhjaaGreat
set_option linter.unusedVariables false
open Go.RowKit
open Go.ChangeMaps (setBlock)

theorem t18_agg (w : World) (dc : ByteArray) (rem : Int) (v : Value) : True := trivial
def hostsEqB (S S' : List Ho) : Bool := decide (S.map (fun o => (o.name, o.dc, o.rack, o.toks, o.up)) = S'.map (fun o => (o.name, o.dc, o.rack, o.toks, o.up)))
section
variable {w : World} {ok ok' : Nat → Prop} {A A' : Option Addr} {n n' c c' : Nat} {l l' : List HV} {S S' : List Ho}
theorem findV_some {x : ByteArray} {o : Ho} (h : getS x S = some o) : findV S x = (findI S x : Int) ∧ findI S x < S.length ∧ S[findI S x]? = some o := by
  rw [findI_get] at h
  have h1 := (List.getElem?_eq_some_iff.1 h).1
  exact ⟨by unfold findV; rw [if_pos h1], h1, h⟩
theorem findV_none {x : ByteArray} (h : getS x S = none) : findV S x = -1 := by
  rw [findI_get] at h
  have h1 := List.getElem?_eq_none_iff.1 h
  unfold findV; rw [if_neg (by omega)]
theorem mark_set {x : ByteArray} {up : Bool} {o : Ho} (hS : risingH S) (h : getS x S = some o) : S.map (setUp x up) = S.set (findI S x) { o with up := up } := by
  obtain ⟨-, h1, h2⟩ := findV_some h
  refine List.ext_getElem? fun i => ?_
  rw [List.getElem?_map, List.getElem?_set]
  by_cases e : findI S x = i
  · subst e
    rw [if_pos rfl, if_pos h1, h2]
    simp only [Option.map_some, setUp]
    rw [if_pos (findI_at h2)]
  · rw [if_neg e]
    cases hi : S[i]? with
    | none => rfl
    | some q =>
      simp only [Option.map_some, setUp]
      rw [if_neg fun hq => ?_]
      obtain ⟨hi1, hi2⟩ := List.getElem?_eq_some_iff.1 hi
      obtain ⟨hj1, hj2⟩ := List.getElem?_eq_some_iff.1 h2
      have hne := rising_ne hS
      rcases Nat.lt_or_ge (findI S x) i with hlt | hge
      · have := List.pairwise_iff_getElem.1 hne _ _ hj1 hi1 hlt
        rw [hj2, hi2, hq] at this
        exact this (findI_at h2)
      · have := List.pairwise_iff_getElem.1 hne _ _ hi1 hj1 (by omega)
        rw [hj2, hi2, hq] at this
        exact this (findI_at h2).symm
theorem flat_setH {l : List HV} {i : Nat} {x : HV} (hi : l[i]? = some x) (u : Bool) : (l.flatMap hvC).set (i * 5 + 4) (.bool u) = (l.set i { x with up := u }).flatMap hvC := flat_setK (k := 5) (f := hvC) (a' := { x with up := u }) (fun _ => rfl) (by decide) l i x hi rfl
theorem hvC_one {l : List HV} {u : Value} (hu : u ∈ l.flatMap hvC) : u.oneCell' = true := by
  obtain ⟨x, -, hx⟩ := List.mem_flatMap.1 hu
  simp only [hvC, List.mem_cons, List.not_mem_nil, or_false] at hx
  rcases hx with rfl | rfl | rfl | rfl | rfl <;> simp [Value.oneCell']
theorem ownH18_at {w : World} {base : Nat} {v : Value} {L : List HV} {n i : Nat} {x : HV} (h : w.ownsRow base 67 5 v n (L.flatMap hvC)) (hi : L[i]? = some x) :
    ∃ g cap off, v = .slice (some ⟨g, 0, none⟩) n cap ∧ off = i * 5 ∧ base ≤ g ∧ (∃ cs, w.heap[g]? = some (.cells cs 67 (0, 0))) ∧ (∀ kd w', (Instr.indexAt 26 v (.int kd (i : Int))).run Tryz.prog w' = .ok (.pointer (some ⟨g, off, none⟩)) w') ∧
      w.cell? ⟨g, off, none⟩ = some (.string x.name) ∧ w.cell? ⟨g, off + 1, none⟩ = some (.string x.dc) ∧ w.cell? ⟨g, off + 2, none⟩ = some (.string x.rack) ∧ w.cell? ⟨g, off + 3, none⟩ = some (.slice x.ta x.tn x.tc) ∧ w.cell? ⟨g, off + 4, none⟩ = some (.bool x.up) := by
  have hlt : i < n := by
    have h1 := (List.getElem?_eq_some_iff.1 hi).1
    have h2 := h.1
    rw [hvC_len] at h2
    omega
  rcases h.2 with ⟨rfl, rfl⟩ | ⟨g, cap, cs, rfl, hb, hg, -⟩
  · omega
  refine ⟨g, cap, i * 5, rfl, rfl, hb, ⟨cs, hg⟩, fun kd w' => ?_, ?_, ?_, ?_, ?_, ?_⟩
  · have hi2 : (i : Int) < (n : Int) := by omega
    simp [Instr.indexAt, asIntOf, run_underlying h18sT.ht, h18sT.run_size, hlt, Addr.add_lit]
  · exact (h.cellAt (i * 5 + 0) (by omega)).trans ((flat_get (k := 5) (fun _ => rfl) L i 0 x hi (by decide)).trans rfl)
  · exact (h.cellAt (i * 5 + 1) (by omega)).trans ((flat_get (k := 5) (fun _ => rfl) L i 1 x hi (by decide)).trans rfl)
  · exact (h.cellAt (i * 5 + 2) (by omega)).trans ((flat_get (k := 5) (fun _ => rfl) L i 2 x hi (by decide)).trans rfl)
  · exact (h.cellAt (i * 5 + 3) (by omega)).trans ((flat_get (k := 5) (fun _ => rfl) L i 3 x hi (by decide)).trans rfl)
  · exact (h.cellAt (i * 5 + 4) (by omega)).trans ((flat_get (k := 5) (fun _ => rfl) L i 4 x hi (by decide)).trans rfl)
/-- A table's hosts, handed back in a struct. -/
def RT (w' : World) (ok : Nat → Prop) (dc : ByteArray) (rem : Int) (S : List Ho) (v : Value) : Prop := ∃ A n c l, v = .agg #[.string dc, .int .i64 rem, .slice A n c] ∧ RL w' ok A n c l S
set_option maxHeartbeats 8000000 in
set_option maxRecDepth 100000 in
theorem R18Mark_at (dc : ByteArray) (rem : Int) (h : RL w ok A n c l S) (hS : risingH S) (hn : S.length ≤ 1000) (x : ByteArray) (up : Bool) :
    Calls Tryz.prog 8 #[.agg #[.string dc, .int .i64 rem, .slice A n c], .string x, .bool up] w fun e w' => ∃ A' n' c' l', e = .returned (.tuple #[.agg #[.string dc, .int .i64 rem, .slice A' n' c'], .bool (markP S x up).2]) ∧ RL w' (fun k => ok k ∨ w.heap.size ≤ k) A' n' c' l' (markP S x up).1 ∧ Kept noBlock w w' := by
  have hb0 : Blk (w.alloc (.cells #[.string dc, .int .i64 rem, .slice A n c] 28)) w.heap.size 28 #[.string dc, .int .i64 rem, .slice A n c] := Blk.new _ _ _
  have hb := hb0.alloc (.cells #[.string ⟨#[]⟩, .int .i64 0, .slice none 0 0] 28)
  have hr : Blk ((w.alloc (.cells #[.string dc, .int .i64 rem, .slice A n c] 28)).alloc (.cells #[.string ⟨#[]⟩, .int .i64 0, .slice none 0 0] 28)) (w.heap.size + 1) 28 #[.string ⟨#[]⟩, .int .i64 0, .slice none 0 0] := Blk.new_at _ _ _ (by rw [sz_alloc])
  have hk2 : Kept noBlock w ((w.alloc (.cells #[.string dc, .int .i64 rem, .slice A n c] 28)).alloc (.cells #[.string ⟨#[]⟩, .int .i64 0, .slice none 0 0] 28)) := ((Kept.refl noBlock w).alloc _).alloc _
  have hz2 : ((w.alloc (.cells #[.string dc, .int .i64 rem, .slice A n c] 28)).alloc (.cells #[.string ⟨#[]⟩, .int .i64 0, .slice none 0 0] 28)).heap.size = w.heap.size + 1 + 1 := by rw [sz_alloc, sz_alloc]
  have h2 := h.keptN hk2
  have hSn := h.2.1
  have HF := R18find_at h2 x
  have HB := Lib.hid hb
  have HR := Lib.hid hr
  have HK2 := Lib.hid hk2
  have HZ2 := Lib.hid hz2
  have H2 := Lib.hid h2
  have H2B := Lib.hid ((h.wide (ok' := fun k => ok k ∧ k < w.heap.size) fun k hk e => ⟨e, hk⟩).keptN hk2)
  have HSN := Lib.hid hSn
  clear hb0 hb hr hk2 hz2 h2 h hSn
  go_enter Tryz.func8, Tryz.ntmps8
  go_wp2_with fail
  generalize (w.alloc (.cells #[.string dc, .int .i64 rem, .slice A n c] 28)).alloc (.cells #[.string ⟨#[]⟩, .int .i64 0, .slice none 0 0] 28) = w2 at *
  have p0 := HB.out.cell 0
  have p1 := HB.out.cell 1
  have p2 := HB.out.cell 2
  have r0 := HR.out.cell 0
  have r1 := HR.out.cell 1
  have r2 := HR.out.cell 2
  have fr0 := HR.out.frozen 0
  have fr1 := HR.out.frozen 1
  have fr2 := HR.out.frozen 2
  simp only [List.getElem?_toArray, List.getElem?_cons_succ, List.getElem?_cons_zero] at p0 p1 p2 r0 r1 r2
  cases hx : getS x S with
  | none =>
    have HM : Hid (markP S x up = (S, false)) := Lib.hid (by unfold markP; rw [hx])
    rw [findV_none hx] at HF
    clear hx
    refine HF.mono ?_
    rintro e w3 ⟨rfl, rfl⟩
    clear HF
    go_wp2_with fail
    have hw3 : Blk (((w2.setCell ⟨w.heap.size + 1, 0, none⟩ (.string dc)).setCell ⟨w.heap.size + 1, 1, none⟩ (.int .i64 rem)).setCell ⟨w.heap.size + 1, 2, none⟩ (.slice A n c)) (w.heap.size + 1) 28 #[.string dc, .int .i64 rem, .slice A n c] := (((HR.out).set_ 0 (.string dc)).set_ 1 (.int .i64 rem)).set_ 2 (.slice A n c)
    have hk3 : Kept noBlock w (((w2.setCell ⟨w.heap.size + 1, 0, none⟩ (.string dc)).setCell ⟨w.heap.size + 1, 1, none⟩ (.int .i64 rem)).setCell ⟨w.heap.size + 1, 2, none⟩ (.slice A n c)) := (((HK2.out).setCell (p := ⟨w.heap.size + 1, 0, none⟩) (fun h => absurd h (by simp only []; omega)) _).setCell (p := ⟨w.heap.size + 1, 1, none⟩) (fun h => absurd h (by simp only []; omega)) _).setCell (p := ⟨w.heap.size + 1, 2, none⟩) (fun h => absurd h (by simp only []; omega)) _
    have hkx : Kept (fun k => k = w.heap.size + 1) w2 (((w2.setCell ⟨w.heap.size + 1, 0, none⟩ (.string dc)).setCell ⟨w.heap.size + 1, 1, none⟩ (.int .i64 rem)).setCell ⟨w.heap.size + 1, 2, none⟩ (.slice A n c)) := (((Kept.refl (fun k => k = w.heap.size + 1) w2).setCell (p := ⟨w.heap.size + 1, 0, none⟩) (fun _ => rfl) _).setCell (p := ⟨w.heap.size + 1, 1, none⟩) (fun _ => rfl) _).setCell (p := ⟨w.heap.size + 1, 2, none⟩) (fun _ => rfl) _
    have d0 := hw3.cell 0
    have d1 := hw3.cell 1
    have d2 := hw3.cell 2
    simp only [List.getElem?_toArray, List.getElem?_cons_succ, List.getElem?_cons_zero] at d0 d1 d2
    generalize ((w2.setCell ⟨w.heap.size + 1, 0, none⟩ (.string dc)).setCell ⟨w.heap.size + 1, 1, none⟩ (.int .i64 rem)).setCell ⟨w.heap.size + 1, 2, none⟩ (.slice A n c) = W3 at *
    refine bodyPost_ret (v := .tuple #[.agg #[.string dc, .int .i64 rem, .slice A n c], .bool false]) (by simp [results, Tryz.results8, go_sem, d0, d1, d2]) rfl ?_
    rw [HM.out]
    exact ⟨A, n, c, l, rfl, (H2B.out.kept hkx fun k e e2 => by have := e.2; omega).wide fun k _ e => .inl e.1, hk3⟩
  | some o =>
    obtain ⟨hv, hlt, hso⟩ := findV_some hx
    obtain ⟨y, gi, oi, hyl, hyo, hidx, -, -, -, -, y4, -, -⟩ := H2.out.at hso
    rw [hv] at HF
    have HYL := Lib.hid hyl
    have HYO := Lib.hid hyo
    have hln : findI S x < n := by have := HSN.out; omega
    have hnn : n ≤ 1000 := by have := HSN.out; omega
    have HSET := Lib.hid (fun hu : o.up ≠ up => (show markP S x up = (S.set (findI S x) { o with up := up }, true) by rw [show markP S x up = (S.map (setUp x up), true) by unfold markP; rw [hx]; simp only []; rw [if_neg hu]; rfl, mark_set hS hx]))
    have HSAME := Lib.hid (fun hu : o.up = up => (show markP S x up = (S, false) by unfold markP; rw [hx]; simp only []; rw [if_pos hu]))
    have HLN := Lib.hid (show findI S x < S.length from hlt)
    clear hx hv hso hyl hyo hlt
    generalize findI S x = at_ at *
    refine HF.mono ?_
    rintro e w3 ⟨rfl, rfl⟩
    clear HF
    by_cases hu : o.up = up
    · have HM := Lib.hid (HSAME.out hu)
      have hbe : (o.up == up) = true := by rw [hu]; cases up <;> rfl
      clear hu
      go_wp2_with fail
      have hw3 : Blk (((w2.setCell ⟨w.heap.size + 1, 0, none⟩ (.string dc)).setCell ⟨w.heap.size + 1, 1, none⟩ (.int .i64 rem)).setCell ⟨w.heap.size + 1, 2, none⟩ (.slice A n c)) (w.heap.size + 1) 28 #[.string dc, .int .i64 rem, .slice A n c] := (((HR.out).set_ 0 (.string dc)).set_ 1 (.int .i64 rem)).set_ 2 (.slice A n c)
      have hk3 : Kept noBlock w (((w2.setCell ⟨w.heap.size + 1, 0, none⟩ (.string dc)).setCell ⟨w.heap.size + 1, 1, none⟩ (.int .i64 rem)).setCell ⟨w.heap.size + 1, 2, none⟩ (.slice A n c)) := (((HK2.out).setCell (p := ⟨w.heap.size + 1, 0, none⟩) (fun h => absurd h (by simp only []; omega)) _).setCell (p := ⟨w.heap.size + 1, 1, none⟩) (fun h => absurd h (by simp only []; omega)) _).setCell (p := ⟨w.heap.size + 1, 2, none⟩) (fun h => absurd h (by simp only []; omega)) _
      have hkx : Kept (fun k => k = w.heap.size + 1) w2 (((w2.setCell ⟨w.heap.size + 1, 0, none⟩ (.string dc)).setCell ⟨w.heap.size + 1, 1, none⟩ (.int .i64 rem)).setCell ⟨w.heap.size + 1, 2, none⟩ (.slice A n c)) := (((Kept.refl (fun k => k = w.heap.size + 1) w2).setCell (p := ⟨w.heap.size + 1, 0, none⟩) (fun _ => rfl) _).setCell (p := ⟨w.heap.size + 1, 1, none⟩) (fun _ => rfl) _).setCell (p := ⟨w.heap.size + 1, 2, none⟩) (fun _ => rfl) _
      have d0 := hw3.cell 0
      have d1 := hw3.cell 1
      have d2 := hw3.cell 2
      simp only [List.getElem?_toArray, List.getElem?_cons_succ, List.getElem?_cons_zero] at d0 d1 d2
      generalize ((w2.setCell ⟨w.heap.size + 1, 0, none⟩ (.string dc)).setCell ⟨w.heap.size + 1, 1, none⟩ (.int .i64 rem)).setCell ⟨w.heap.size + 1, 2, none⟩ (.slice A n c) = W3 at *
      refine bodyPost_ret (v := .tuple #[.agg #[.string dc, .int .i64 rem, .slice A n c], .bool false]) (by simp [results, Tryz.results8, go_sem, d0, d1, d2]) rfl ?_
      rw [HM.out]
      exact ⟨A, n, c, l, rfl, (H2B.out.kept hkx fun k e e2 => by have := e.2; omega).wide fun k _ e => .inl e.1, hk3⟩
    · have HM := Lib.hid (HSET.out hu)
      have hbe : (o.up == up) = false := beq_eq_false_iff_ne.2 hu
      clear hu
      go_wp2_with (at_builtin; go_must (refine wpList_append_sl _ h18sT rfl (.tmp 27) (.tmp 29) rfl w2.heap.size _ 0 [] rfl (World.ownsRow_nil _ _ _ _) _ n _ rfl H2.out.2.2.1 (fun u hu => hvC_one hu) ?c1 ?c2 ?_))
      case c1 => omega
      case c2 => exact Nat.le_refl _
      intro v1 w4 hap
      have hk4 := hap.keptNil
      have hown : w4.ownsRow w2.heap.size 67 5 v1 n (l.flatMap hvC) := by simpa using hap.own
      obtain ⟨g, cap, off, hv1, hoff, hgb, hgc, hidx1, -, -, -, -, -⟩ := ownH18_at hown HYL.out
      subst hv1
      have hs := hown.stored (at_ * 5 + 4) (.bool up)
      have hf1 := hown.frozenAt (at_ * 5 + 4)
      have hc1 := hown.cellAt (at_ * 5 + 4) (by omega)
      rw [flat_get (k := 5) (fun _ => rfl) l at_ 4 _ HYL.out (by decide)] at hc1
      have hc1' : w4.cell? ⟨g, at_ * 5 + 4, none⟩ = some (.bool y.up) := hc1
      rw [flat_setH HYL.out up] at hs
      have hb4 := HB.out.kept hk4 fun e => e
      have hr4 := HR.out.kept hk4 fun e => e
      have f2 := hb4.frozen 2
      have q0 := hb4.cell 0
      have q1 := hb4.cell 1
      have q2 := hb4.cell 2
      have s0 := hr4.cell 0
      have s1 := hr4.cell 1
      have s2 := hr4.cell 2
      have t0 := hr4.frozen 0
      have t1 := hr4.frozen 1
      have t2 := hr4.frozen 2
      simp only [List.getElem?_toArray, List.getElem?_cons_succ, List.getElem?_cons_zero] at q0 q1 q2 s0 s1 s2
      have hgN : ¬ g = w.heap.size := by have := HZ2.out; omega
      have hgN1 : ¬ g = w.heap.size + 1 := by have := HZ2.out; omega
      have hgN' : ¬ w.heap.size = g := fun e => hgN e.symm
      have hgN1' : ¬ w.heap.size + 1 = g := fun e => hgN1 e.symm
      have hb5 : Blk (w4.setCell ⟨g, at_ * 5 + 4, none⟩ (.bool up)) w.heap.size 28 #[.string dc, .int .i64 rem, .slice A n c] := hb4.far (p := ⟨g, at_ * 5 + 4, none⟩) hgN' _
      have hr5 : Blk (w4.setCell ⟨g, at_ * 5 + 4, none⟩ (.bool up)) (w.heap.size + 1) 28 #[.string ⟨#[]⟩, .int .i64 0, .slice none 0 0] := hr4.far (p := ⟨g, at_ * 5 + 4, none⟩) hgN1' _
      have hs1 := hs.1
      have hs2 := hs.2
      have HR6 : Hid (Blk ((w4.setCell ⟨g, at_ * 5 + 4, none⟩ (.bool up)).setCell ⟨w.heap.size, 2, none⟩ (.slice (some ⟨g, 0, none⟩) n cap)) (w.heap.size + 1) 28 #[.string ⟨#[]⟩, .int .i64 0, .slice none 0 0]) := Lib.hid (hr5.far (p := ⟨w.heap.size, 2, none⟩) (by simp only []; omega) _)
      have hk46 : Kept (fun k => k = g ∨ k = w.heap.size) w4 ((w4.setCell ⟨g, at_ * 5 + 4, none⟩ (.bool up)).setCell ⟨w.heap.size, 2, none⟩ (.slice (some ⟨g, 0, none⟩) n cap)) := ((Kept.refl (fun k => k = g ∨ k = w.heap.size) w4).setCell (p := ⟨g, at_ * 5 + 4, none⟩) (fun _ => .inl rfl) _).setCell (p := ⟨w.heap.size, 2, none⟩) (fun _ => .inr rfl) _
      have HK6 : Hid (Kept noBlock w ((w4.setCell ⟨g, at_ * 5 + 4, none⟩ (.bool up)).setCell ⟨w.heap.size, 2, none⟩ (.slice (some ⟨g, 0, none⟩) n cap))) := Lib.hid ((HK2.out.trans hk4 fun _ _ e => e).trans hk46 fun k hk e => absurd hk (by have := HZ2.out; omega))
      have HRL : Hid (RL ((w4.setCell ⟨g, at_ * 5 + 4, none⟩ (.bool up)).setCell ⟨w.heap.size, 2, none⟩ (.slice (some ⟨g, 0, none⟩) n cap)) (fun k => (ok k ∨ w.heap.size ≤ k) ∧ k ≠ w.heap.size + 1) (some ⟨g, 0, none⟩) n cap (l.set at_ { y with up := up }) (S.set at_ { o with up := up })) := Lib.hid (by
        have e1 := own_far hs1 hb5 (by decide) 2 (.slice (some ⟨g, 0, none⟩) n cap)
        refine ⟨?_, by rw [List.length_set]; exact HSN.out, (SlK.of_ownB e1).any fun k e _ he => ⟨.inr (by have := HZ2.out; have := he.1; omega), by have := HZ2.out; have := he.1; omega⟩, fun z hz => ?_⟩
        · rw [List.map_set, H2.out.1, ← HYO.out]; rfl
        · have hold : ∀ z' ∈ l, SlK ((w4.setCell ⟨g, at_ * 5 + 4, none⟩ (.bool up)).setCell ⟨w.heap.size, 2, none⟩ (.slice (some ⟨g, 0, none⟩) n cap)) (fun k _ => (ok k ∨ w.heap.size ≤ k) ∧ k ≠ w.heap.size + 1) 1 (.slice z'.ta z'.tn z'.tc) z'.tn (z'.toks.map (Value.int .i64)) := fun z' hz' => by
            have h1 := (H2B.out.2.2.2 z' hz').keptNone hk4
            exact (h1.keptAll hk46 fun k _ e e2 => by have := e.2; have := HZ2.out; omega).any fun k _ _ e => ⟨.inl e.1, by have := e.2; omega⟩
          rcases List.mem_or_eq_of_mem_set hz with hz | hz
          · exact hold z hz
          · rw [hz]
            exact hold y (List.mem_of_getElem? HYL.out))
      subst hoff
      clear hown hs hs1 hs2 hb4 hr4 hb5 hr5 hk46 hap hk4 hc1
      go_wp2_with fail
      generalize (w4.setCell ⟨g, at_ * 5 + 4, none⟩ (.bool up)).setCell ⟨w.heap.size, 2, none⟩ (.slice (some ⟨g, 0, none⟩) n cap) = w6 at *
      have hw3 : Blk (((w6.setCell ⟨w.heap.size + 1, 0, none⟩ (.string dc)).setCell ⟨w.heap.size + 1, 1, none⟩ (.int .i64 rem)).setCell ⟨w.heap.size + 1, 2, none⟩ (.slice (some ⟨g, 0, none⟩) n cap)) (w.heap.size + 1) 28 #[.string dc, .int .i64 rem, .slice (some ⟨g, 0, none⟩) n cap] := ((HR6.out.set_ 0 (.string dc)).set_ 1 (.int .i64 rem)).set_ 2 (.slice (some ⟨g, 0, none⟩) n cap)
      have hk3 : Kept noBlock w (((w6.setCell ⟨w.heap.size + 1, 0, none⟩ (.string dc)).setCell ⟨w.heap.size + 1, 1, none⟩ (.int .i64 rem)).setCell ⟨w.heap.size + 1, 2, none⟩ (.slice (some ⟨g, 0, none⟩) n cap)) := ((HK6.out.setCell (p := ⟨w.heap.size + 1, 0, none⟩) (fun h => absurd h (by simp only []; omega)) _).setCell (p := ⟨w.heap.size + 1, 1, none⟩) (fun h => absurd h (by simp only []; omega)) _).setCell (p := ⟨w.heap.size + 1, 2, none⟩) (fun h => absurd h (by simp only []; omega)) _
      have hkx : Kept (fun k => k = w.heap.size + 1) w6 (((w6.setCell ⟨w.heap.size + 1, 0, none⟩ (.string dc)).setCell ⟨w.heap.size + 1, 1, none⟩ (.int .i64 rem)).setCell ⟨w.heap.size + 1, 2, none⟩ (.slice (some ⟨g, 0, none⟩) n cap)) := (((Kept.refl (fun k => k = w.heap.size + 1) w6).setCell (p := ⟨w.heap.size + 1, 0, none⟩) (fun _ => rfl) _).setCell (p := ⟨w.heap.size + 1, 1, none⟩) (fun _ => rfl) _).setCell (p := ⟨w.heap.size + 1, 2, none⟩) (fun _ => rfl) _
      have d0 := hw3.cell 0
      have d1 := hw3.cell 1
      have d2 := hw3.cell 2
      simp only [List.getElem?_toArray, List.getElem?_cons_succ, List.getElem?_cons_zero] at d0 d1 d2
      generalize ((w6.setCell ⟨w.heap.size + 1, 0, none⟩ (.string dc)).setCell ⟨w.heap.size + 1, 1, none⟩ (.int .i64 rem)).setCell ⟨w.heap.size + 1, 2, none⟩ (.slice (some ⟨g, 0, none⟩) n cap) = W3 at *
      refine bodyPost_ret (v := .tuple #[.agg #[.string dc, .int .i64 rem, .slice (some ⟨g, 0, none⟩) n cap], .bool true]) (by simp [results, Tryz.results8, go_sem, d0, d1, d2]) rfl ?_
      rw [HM.out]
      exact ⟨_, n, cap, l.set at_ { y with up := up }, rfl, HRL.out.kept hkx (fun k e e2 => e.2 e2) |>.wide fun k _ e => e.1, hk3⟩
end
end Go.Proofs.YtjkmgpmknadhjaaGreat

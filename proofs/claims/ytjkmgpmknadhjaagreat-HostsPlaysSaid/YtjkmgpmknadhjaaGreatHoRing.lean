/- hosts: All by rising names; Ring. -/
import Derived.Test.YtjkmgpmknadhjaaGreatHoAll
import Derived.Test.YtjkmgpmknadhjaaGreatRgOwn0
namespace Go.Proofs.YtjkmgpmknadhjaaGreat
set_option linter.unusedVariables false
open Go.RowKit
open Go.ChangeMaps (setBlock)

theorem hAllN_at (w : World) : Calls Tryz.prog 17 #[.pointer none] w fun e w' => e = .returned (.slice none 0 0) ∧ w' = w := by
  go_enter Tryz.func17, Tryz.ntmps17
  go_wp2
  go_ret
  exact ⟨rfl, rfl⟩
theorem hRefreshN_at (v : Value) (w : World) : Calls Tryz.prog 9 #[.pointer none, v] w fun e w' => e = .returned (.tuple #[.slice none 0 0, .slice none 0 0]) ∧ w' = w := by
  go_enter Tryz.func9, Tryz.ntmps9
  go_wp2
  go_ret2
  exact ⟨rfl, rfl⟩
theorem hRingN_at (w : World) : Calls Tryz.prog 13 #[.pointer none] w fun e w' => e = .returned (.pointer none) ∧ w' = w := by
  go_enter Tryz.func13, Tryz.ntmps13
  go_wp2
  go_ret
  exact ⟨rfl, rfl⟩
/-- Hosts that are handed back, in new memory. -/
structure Told (w w' : World) (A : Option Addr) (n c : Nat) (T : List HV) (S : List Ho) : Prop where
  abs : T.map HV.abs = S
  len : T.length = n
  row : w'.ownsRow w.heap.size 59 5 (.slice A n c) n (T.flatMap hvC)
  toksO : ∀ x ∈ T, w'.ownsRow w.heap.size 2 1 (.slice x.ta x.tn x.tc) x.tn (x.toks.map (Value.int .i64))
theorem Told.kept {w w' w2 : World} {A : Option Addr} {n c : Nat} {T : List HV} {S : List Ho} {R : Nat → Prop} (h : Told w w' A n c T S) (hk : Kept R w' w2) (hR : ∀ k, w.heap.size ≤ k → ¬ R k) : Told w w2 A n c T S :=
  ⟨h.abs, h.len, own_keptB h.row hk fun k e e2 => hR k (own_type h.row e).1 e2, fun x hx => own_keptB (h.toksO x hx) hk fun k e e2 => hR k (own_type (h.toksO x hx) e).1 e2⟩
theorem Told.toks {w w' : World} {A : Option Addr} {n c : Nat} {T : List HV} {S : List Ho} (h : Told w w' A n c T S) : ∀ x ∈ T, SlK w' (fun k e => w.heap.size ≤ k ∧ e = 2) 1 (.slice x.ta x.tn x.tc) x.tn (x.toks.map (Value.int .i64)) := fun x hx => SlK.of_ownB (h.toksO x hx)
theorem hAll_told {w : World} {own : Nat → Prop} {g : Nat} {dc : ByteArray} {rem : Int} {S : List Ho} (hT : TabS w own g dc rem S) (hS : S.length ≤ 100000) (hk : ∀ o ∈ S, o.toks.length ≤ 1000000) :
    Calls Tryz.prog 17 #[.pointer (some ⟨g, 0, none⟩)] w fun e w' => ∃ A n c T, e = .returned (.slice A n c) ∧ Told w w' A n c T S ∧ Kept noBlock w w' := by
  obtain ⟨m, L, h1, h2, h3⟩ := hT
  have hp := tab_perm h1.nd h1.nm h2 h3
  have hL : L.length ≤ 100000 := by
    have := hp.length_eq
    rw [List.length_map] at this
    omega
  refine (hAll_at h1 hL fun p hpL => ?_).mono ?_
  · have h4 := (h1.ot p hpL).len
    rw [List.length_map, Nat.mul_one] at h4
    rw [← h4]
    exact hk p.2.abs (hp.mem_iff.1 (List.mem_map.2 ⟨p, hpL, rfl⟩))
  · rintro e w' ⟨v, T, rfl, q1, q2, q3, q4, q5⟩
    obtain ⟨A, c, rfl, -, -⟩ := (Sl.of_own q3).shape
    refine ⟨A, T.length, c, T, rfl, ⟨?_, rfl, q3, q4⟩, q5⟩
    have q6 : (T.map HV.abs).Perm S := q1.trans hp
    have q7 : (T.map HV.abs).Pairwise (fun a b => ¬ nlt b.name a.name) := List.pairwise_map.2 q2
    have q8 : (T.map HV.abs).Pairwise (fun a b => a.name ≠ b.name) := (q6.pairwise_iff (fun {a b} h e => h e.symm)).2 (rising_ne h2)
    have q9 : risingH (T.map HV.abs) := by
      refine List.Pairwise.imp (fun {a b} h => ?_) (q7.and q8)
      exact Classical.byContradiction fun hn => h.2 (nlt_tri hn h.1)
    exact List.Perm.eq_of_pairwise (fun a b _ _ h1 h2 => absurd h2 (nlt_asymm h1)) q9 h2 q6
theorem m64bM : Tryz.prog.underlying 72 = some (.map 2 4) := by kernel_rfl
theorem i64U : Tryz.prog.underlying 2 = some (.int .i64) := by kernel_rfl
/-- The places behind so many pairs, and the tokens that were taken. -/
def RingR (w1 : World) (Mt : Nat) (P : List Pl) (va : Value) (wr : World) : Prop :=
  ∃ K : List (Int × Bool), KMap (.int .i64) (fun k : Int => Value.int .i64 k) Value.bool wr Mt K ∧ (∀ k, (aget k K).getD false = (getP k (P.foldl takeP [])).isSome) ∧ wr.ownsRow w1.heap.size 54 2 va (P.foldl takeP []).length ((P.foldl takeP []).flatMap pC) ∧ Kept (fun k => k = Mt) w1 wr
theorem RingR.keptN {w1 wr w' : World} {Mt : Nat} {P : List Pl} {va : Value} (h : RingR w1 Mt P va wr) (hk : Kept noBlock wr w') : RingR w1 Mt P va w' := by
  obtain ⟨K, h1, h2, h3, h4⟩ := h
  exact ⟨K, h1.kept hk (fun e => e), h2, own_keptB h3 hk (fun _ _ e => e), h4.trans hk (fun _ _ e => e.elim)⟩
theorem fold_snoc (P : List Pl) (p : Pl) : (P ++ [p]).foldl takeP [] = takeP (P.foldl takeP []) p := by rw [List.foldl_append]; rfl
theorem take_len (P : List Pl) : (P.foldl takeP []).length ≤ P.length := by
  have : ∀ (l out : List Pl), (l.foldl takeP out).length ≤ out.length + l.length := by
    intro l
    induction l with
    | nil => intro out; simp
    | cons a l ih =>
      intro out
      rw [List.foldl_cons]
      have h1 := ih (takeP out a)
      have h2 : (takeP out a).length ≤ out.length + 1 := by unfold takeP; split <;> simp
      simp only [List.length_cons]; omega
  simpa using this P []
theorem pairs_snoc (l : List Ho) (h : Ho) : pairsH (l ++ [h]) = pairsH l ++ h.toks.map fun k => (k, h.name) := by unfold pairsH; rw [List.flatMap_append]; simp
theorem pairs_le {l : List Ho} {b : Nat} (h : ∀ o ∈ l, o.toks.length ≤ b) : (pairsH l).length ≤ l.length * b := by
  unfold pairsH
  induction l with
  | nil => simp
  | cons a l ih =>
    rw [List.flatMap_cons, List.length_append, List.length_map, List.length_cons, Nat.add_mul]
    have h1 := ih fun o ho => h o (List.mem_cons_of_mem _ ho)
    have h2 := h a (List.mem_cons_self ..)
    omega

set_option maxRecDepth 100000 in
set_option maxHeartbeats 8000000 in
theorem hRing_at {w : World} {own : Nat → Prop} {g : Nat} {dc : ByteArray} {rem : Int} {S : List Ho} (hT : TabS w own g dc rem S) (hS : S.length ≤ 100000) (hk : ∀ o ∈ S, o.toks.length ≤ 1000000) (hP : (pairsH S).length ≤ 1000) (hnm : ∀ o ∈ S, o.name ≠ noStr) :
    Calls Tryz.prog 13 #[.pointer (some ⟨g, 0, none⟩)] w fun e w' => ∃ gr, e = .returned (.pointer (some ⟨gr, 0, none⟩)) ∧ RingAt w' gr (refRing S) ∧ Kept noBlock w w' ∧ w.heap.size ≤ gr := by
  have hmk := @run_makeMap Tryz.prog
  obtain ⟨m, L, h1, h2, h3⟩ := hT
  have hT1 : TabS (w.alloc (.map #[] 0)) own g dc rem S := ⟨m, L, h1.keptN ((Kept.refl noBlock w).alloc _), h2, h3⟩
  have HA := hAll_told hT1 hS hk
  have HNM := Lib.hid (places_named hnm)
  have HRS := Lib.hid h2
  have k0 : KMap (.int .i64) (fun k : Int => Value.int .i64 k) Value.bool (w.alloc (.map #[] 0)) w.heap.size ([] : List (Int × Bool)) := KMap.new w
  have HK0 := Lib.hid k0
  have HKT := Lib.hid hk
  have HPP := Lib.hid hP
  clear h1 h2 h3 hT1 hnm k0 hk hP
  go_enter Tryz.func13, Tryz.ntmps13
  go_wp2_with fail
  refine HA.mono ?_
  rintro e w1 ⟨A, n, c, T, rfl, hTo, hk1⟩
  have hlen := (Sl.of_own hTo.row).run_len hostsT
  have hTl := hTo.len
  have hSl : S.length = n := by rw [← hTo.abs, List.length_map, hTl]
  have hn : n ≤ 100000 := by omega
  have HTo := Lib.hid hTo
  have HSL := Lib.hid hSl
  have HTL := Lib.hid hTl
  have hkw : Kept noBlock w w1 := ((Kept.refl noBlock w).alloc _).trans hk1 fun _ _ e => e
  have START : Hid (RingR w1 w.heap.size (pairsH (S.take 0)) (.slice none 0 0) w1) := Lib.hid ⟨[], HK0.out.kept hk1 (fun e => e), fun k => rfl, World.ownsRow_nil _ _ _ _, Kept.refl _ _⟩
  have HKW := Lib.hid hkw
  have HMT : Hid (w.heap.size < w1.heap.size) := Lib.hid (by have := hk1.size; rw [sz_alloc] at this; omega)
  clear hTo hSl hTl hk1 hkw HA HK0 hS
  go_wp2_with fail
  go_loopg [3, 17] n (fun j va vi wr => ∃ i : Nat, i + j = n ∧ vi = .int .i64 i ∧ RingR w1 w.heap.size (pairsH (S.take i)) va wr)
  case atStart => exact ⟨0, by omega, rfl, START.out⟩
  case round =>
    obtain ⟨i, hij, rfl, hR⟩ := hrel
    have HIJ := Lib.hid hij
    have HR := Lib.hid hR
    by_cases hi : i < n
    · obtain ⟨wo, rfl⟩ : ∃ wo : World, wo = wr := ⟨_, rfl⟩
      obtain ⟨x, hx⟩ : ∃ x, T[i]? = some x := ⟨_, List.getElem?_eq_getElem (by have := HTL.out; omega)⟩
      have hkr : Kept (fun k => k = w.heap.size) w1 wo := by obtain ⟨_, _, _, _, h⟩ := hR; exact h
      have hTr := HTo.out.kept hkr (fun k h e => by rw [sz_alloc] at h; omega)
      obtain ⟨gh, caph, off, hv, -, -, -, hidx, y0, y1, y2, y3, y4⟩ := ownH_at hTr.row hx
      have hxS : S[i]? = some x.abs := by rw [← HTo.out.abs, List.getElem?_map, hx]; rfl
      have hxt := HTo.out.toks x (List.mem_of_getElem? hx)
      have hxn : x.toks.length ≤ 1000000 := HKT.out x.abs (List.mem_of_getElem? hxS)
      have hpl : (pairsH (S.take i) ++ x.toks.map fun k => (k, x.name)).length ≤ 1000 := by
        have h9 := HPP.out
        rw [← List.take_append_drop (i + 1) S, List.take_add_one, hxS] at h9
        have : pairsH (S.take i ++ (some x.abs).toList ++ S.drop (i + 1)) = (pairsH (S.take i) ++ x.toks.map fun k => (k, x.name)) ++ pairsH (S.drop (i + 1)) := by
          unfold pairsH
          rw [List.flatMap_append, List.flatMap_append]; simp [HV.abs]
        rw [this, List.length_append] at h9
        omega
      obtain ⟨x1, x2, x3, x4, x5, x6, x7, x8⟩ := x
      simp only [] at y0 y1 y2 y3 y4 hxt hpl
      have hb : Blk (wo.alloc (.cells #[.string x1, .string x2, .string x3, .slice x4 x5 x6, .bool x8] 59)) wo.heap.size 59 #[.string x1, .string x2, .string x3, .slice x4 x5 x6, .bool x8] := Blk.new _ _ _
      have z3 := hb.cell 3
      simp only [List.getElem?_toArray, List.getElem?_cons_succ, List.getElem?_cons_zero] at z3
      have hx5 : x7.length = x5 := by have := hxt.len; rw [List.length_map, Nat.mul_one] at this; exact this
      have hx5n : x5 ≤ 1000000 := by have : x7.length ≤ 1000000 := hxn; omega
      have HX5 := Lib.hid hx5
      have HPL := Lib.hid hpl
      have HNX : Hid (pairsH (S.take (i + 1)) = pairsH (S.take i) ++ x7.map fun k => (k, x1)) := Lib.hid (by rw [List.take_add_one, hxS]; exact pairs_snoc _ _)
      have HXT := Lib.hid hxt
      have ST2 : Hid (RingR w1 w.heap.size (pairsH (S.take i) ++ (x7.take 0).map fun k => (k, x1)) u3 (wo.alloc (.cells #[.string x1, .string x2, .string x3, .slice x4 x5 x6, .bool x8] 59)) ∧ Blk (wo.alloc (.cells #[.string x1, .string x2, .string x3, .slice x4 x5 x6, .bool x8] 59)) wo.heap.size 59 #[.string x1, .string x2, .string x3, .slice x4 x5 x6, .bool x8]) := Lib.hid ⟨by rw [List.take_zero, List.map_nil, List.append_nil]; exact hR.keptN ((Kept.refl noBlock wo).alloc _), hb⟩
      cases hv
      clear hij hR hx hkr hTr hxS hxt hxn hpl hb hx5
      go_wp2_with fail
      generalize pairsH (S.take i) = P0 at *
      go_loopg [3, 24] x5 (fun jj va vi wr => ∃ j : Nat, j + jj = x5 ∧ vi = .int .i64 j ∧ RingR w1 w.heap.size (P0 ++ (x7.take j).map fun k => (k, x1)) va wr ∧ Blk wr wo.heap.size 59 #[.string x1, .string x2, .string x3, .slice x4 x5 x6, .bool x8])
      case atStart => exact ⟨0, by omega, rfl, ST2.out.1, ST2.out.2⟩
      case round =>
        obtain ⟨j, hjj, rfl, hR2, hb2⟩ := hrel
        have HJJ := Lib.hid hjj
        by_cases hj : j < x5
        · obtain ⟨k, hkx⟩ : ∃ k, x7[j]? = some k := ⟨_, List.getElem?_eq_getElem (by have := HX5.out; omega)⟩
          have hk2 : Kept (fun k => k = w.heap.size) w1 wr := by obtain ⟨_, _, _, _, h⟩ := hR2; exact h
          have hsl := HXT.out.keptAll hk2 fun b e h e2 => by have := h.1; rw [sz_alloc] at this; omega
          obtain ⟨gt, ot, hidx2, -, -, hct⟩ := hsl.run_index i64sT (i := (j : Int)) (k := j) rfl hj
          have ct : wr.cell? ⟨gt, ot, none⟩ = some (.int .i64 k) := hct 0 _ (by rw [Nat.mul_one, Nat.add_zero, List.getElem?_map, hkx]; rfl)
          have n0 := hb2.cell 0
          simp only [List.getElem?_toArray, List.getElem?_cons_zero] at n0
          have hpj : P0 ++ (x7.take (j + 1)).map (fun k => (k, x1)) = (P0 ++ (x7.take j).map fun k => (k, x1)) ++ [(k, x1)] := by rw [List.take_add_one, hkx, List.map_append, ← List.append_assoc]; rfl
          have hfo := fold_snoc (P0 ++ (x7.take j).map fun k => (k, x1)) (k, x1)
          rw [← hpj] at hfo
          obtain ⟨K, m1, m2, m3, m4⟩ := hR2
          have hOl : ((P0 ++ (x7.take j).map fun k => (k, x1)).foldl takeP []).length ≤ 1000 := by
            refine Nat.le_trans (take_len _) (Nat.le_trans ?_ HPL.out)
            rw [List.length_append, List.length_append, List.length_map, List.length_map, List.length_take]
            omega
          have HFO := Lib.hid hfo
          have HPJ := Lib.hid hpj
          have HB2 := Lib.hid hb2
          have HM4 := Lib.hid m4
          have HM1 := Lib.hid m1
          have k6 : ((aget k K).map Value.bool).getD (.bool false) = .bool ((aget k K).getD false) := by cases aget k K <;> rfl
          have lk := m1.run_lookup (P := Tryz.prog) (int_emb .i64) m64bM i64U (zero_bool _) k false
          rw [if_neg (by decide), k6, m2 k] at lk
          clear hpj hfo hjj hkx hsl hct k6
          generalize (P0 ++ (x7.take j).map fun k => (k, x1)).foldl takeP [] = O at *
          have HM2 := Lib.hid m2
          have HM3 := Lib.hid m3
          cases hs : (getP k O).isSome with
          | true =>
            rw [hs] at lk
            have FIN : Hid (RingR w1 w.heap.size (P0 ++ (x7.take (j + 1)).map fun k => (k, x1)) u3 wr) := Lib.hid (by
              refine ⟨K, m1, fun k' => ?_, ?_, m4⟩
              · rw [HFO.out]; unfold takeP; rw [if_pos hs]; exact m2 k'
              · rw [HFO.out]; unfold takeP; rw [if_pos hs]; exact m3)
            clear m1 m2 m3 m4 hs hk2 hb2
            go_wp2_with fail
            go_roundg (x5 - (j + 1))
            case measure => have := HJJ.out; omega
            case rel => exact ⟨j + 1, by have := HJJ.out; omega, by go_num, FIN.out, HB2.out⟩
          | false =>
            rw [hs] at lk
            obtain ⟨es, ck, hup, mB⟩ := m1.run_update (P := Tryz.prog) (int_emb .i64) m64bM i64U k true
            obtain ⟨hx1, hx2, hx3⟩ := m1.rules es ck
            obtain ⟨es0, ck0, hm0⟩ := m1.heap
            have HOB := Lib.hid (own_setBlock m3 hm0 (.map es ck))
            have hkB : Kept (fun k => k = w.heap.size) wr (setBlock wr w.heap.size (.map es ck)) := (Kept.refl (fun k => k = w.heap.size) wr).setBlock (m := w.heap.size) (fun _ => rfl) _
            have HKB := Lib.hid hkB
            have HMB := Lib.hid mB
            have HKey := Lib.hid hx3
            have HS := Lib.hid hs
            have hMw := m1.lt
            have hNo := hb2.lt
            have hne : ¬ wo.heap.size = w.heap.size := by have := HMT.out; obtain ⟨_, _, _, _, h⟩ := HR.out; have := h.size; omega
            have HBB := Lib.hid (hb2.kept hkB hne)
            clear m1 m2 m3 m4 hs hk2 hb2 mB hm0 hkB
            go_wp2_with (at_builtin; go_must (refine wpList_append_sl _ psT rfl (.tmp 34) (.tmp 39) rfl w1.heap.size _ O.length (O.flatMap pC) rfl (HOB.out.alloc _) _ 1 [.int .i64 k, .string x1] rfl (Sl.made_at (Blk.new_at _ _ _ HKey.out.symm) _ rfl rfl one_max) (by simp [Value.oneCell']) ?d1 ?d2 ?_))
            case d1 => omega
            case d2 => have := HM4.out.size; have := HKB.out.size; simp only [sz_alloc]; omega
            intro v' w5 hap
            have hk5 : Kept (fun b => u3.ownBlock = some b) (setBlock wr w.heap.size (.map es ck)) w5 := ((Kept.refl (fun b => u3.ownBlock = some b) _).alloc _).trans hap.kept (fun _ _ e => e)
            have hnm : u3.ownBlock ≠ some w.heap.size := fun e => by
              have h1 := (own_type HM3.out e).1
              have := HMT.out
              omega
            have hnb : u3.ownBlock ≠ some wo.heap.size := fun e => by
              obtain ⟨_, cs, h1⟩ := own_type HM3.out e
              have := HB2.out
              unfold Blk at this
              rw [this] at h1; injection h1 with h1; injection h1 with _ h1; exact absurd h1 (by decide)
            have FIN : Hid (RingR w1 w.heap.size (P0 ++ (x7.take (j + 1)).map fun k => (k, x1)) v' w5) := Lib.hid (by
              refine ⟨aput k true K, HMB.out.kept hk5 (fun e => hnm e), fun k' => ?_, ?_, (HM4.out.trans HKB.out fun _ _ e => e).trans hk5 fun b hb e => ?_⟩
              · rw [HFO.out, aget_aput]
                rw [show takeP O (k, x1) = O ++ [(k, x1)] from if_neg (by show ¬ (getP k O).isSome = true; rw [HS.out]; decide), getP_snoc]
                by_cases e : k = k'
                · subst e
                  rw [if_pos rfl]
                  cases hg : getP k O with
                  | none => simp
                  | some q => have := HS.out; rw [hg] at this; cases this
                · rw [if_neg e, HM2.out]
                  cases hg : getP k' O with
                  | none => simp [e]
                  | some q => rfl
              · rw [HFO.out]
                rw [show takeP O (k, x1) = O ++ [(k, x1)] from if_neg (by show ¬ (getP k O).isSome = true; rw [HS.out]; decide)]
                simpa [pC] using hap.own
              · have := (own_type HM3.out e).1; omega)
            have FIN2 := Lib.hid (HBB.out.kept hk5 (fun e => hnb e))
            clear hap hk5 hnm hnb hup lk hx1 hx2 hx3
            go_wp2
            go_roundg (x5 - (j + 1))
            case measure => have := HJJ.out; omega
            case rel => exact ⟨j + 1, by have := HJJ.out; omega, by go_num, FIN.out, FIN2.out⟩
        · obtain rfl : j = x5 := by omega
          have HF : Hid (RingR w1 w.heap.size (pairsH (S.take (i + 1))) u3 wr) := Lib.hid (by
            rw [HNX.out]
            rw [List.take_of_length_le (by have := HX5.out; omega)] at hR2
            exact hR2)
          clear hR2 hb2 hjj
          go_wp2_with fail
          go_roundg (n - (i + 1))
          case measure => have := HIJ.out; omega
          case rel => exact ⟨i + 1, by have := HIJ.out; omega, by go_num, HF.out⟩
    · obtain rfl : i = n := by omega
      have HST : Hid (S.take i = S) := Lib.hid (by rw [List.take_of_length_le (by have := HSL.out; omega)])
      rw [HST.out] at hR
      obtain ⟨K, m1, m2, m3, m4⟩ := hR
      have hPl : (placesP S).length ≤ 1000 := Nat.le_trans (take_len _) HPP.out
      have key : Calls Tryz.prog 26 #[u3] wr fun e w' => ∃ gr, e = .returned (.tuple #[.pointer (some ⟨gr, 0, none⟩), .int .i64 0]) ∧ RingAt w' gr (refRing S) ∧ Kept noBlock wr w' ∧ wr.heap.size ≤ gr := by
        refine (Rnew_at (l := placesP S) (Sl.of_own m3) hPl).mono ?_
        rintro e w' ⟨hk9, h9 | h9 | h9⟩
        · have h8 : unnamed (placesP S) = true := h9.1
          unfold unnamed at h8
          obtain ⟨p, hp, he⟩ := List.any_eq_true.1 h8
          exact absurd (toList_inj (b := noStr) (by rw [List.isEmpty_iff.1 he, ByteArray.toList_eq]; rfl)) (HNM.out p hp)
        · exact absurd (places_spec S).1 h9.2.1
        · obtain ⟨gr, S', h8, rfl, h7, h6⟩ := h9
          refine ⟨gr, rfl, ?_, hk9, h6⟩
          have e1 : S' = refRing S := List.Perm.eq_of_pairwise (fun a b _ _ h1 h2 => by omega) h8.2.1 (refRing_spec S).1 (h8.1.trans (ring_perm S).symm)
          rw [← e1]; exact h7
      have HK4 := Lib.hid m4
      clear m1 m2 m3 m4 hij HR
      go_wp2_with fail
      refine key.mono ?_
      rintro e w9 ⟨gr, rfl, hra, hk9, hgr⟩
      have hww : Kept noBlock w wr := HKW.out.trans HK4.out fun b hb e => by omega
      have FIN := Lib.hid (⟨hra, hww.trans hk9 fun _ _ e => e, Nat.le_trans hww.size hgr⟩ : RingAt w9 gr (refRing S) ∧ Kept noBlock w w9 ∧ w.heap.size ≤ gr)
      clear hra hww hk9 hgr
      go_wp2
      go_ret
      exact ⟨gr, rfl, FIN.out.1, FIN.out.2.1, FIN.out.2.2⟩
end Go.Proofs.YtjkmgpmknadhjaaGreat

/- Chapter 18's reference: Ring (written by gen/r18.py) · hosts, the reference: plain laws of its rows · Chapter 18's reference: Distance, Same; the law's sameTexts, hostsOf · The reference of chapter 19: Replicas · The reference of chapter 19: hosts of a distance, turned · The reference of chapter 19: the plan · The law's hostsOf. -/
import Derived.Test.YtepikngkbondgaaGreatMg06
import Derived.Test.YtepikngkbondgaaGreatMg09
import Derived.Test.YtepikngkbondgaaGreatMg02
namespace Go.Proofs.YtepikngkbondgaaGreat
set_option linter.unusedVariables false
open Go.RowKit
open Go.ChangeMaps (setBlock)

theorem pC_take (O : List Pl) (t : Nat) : (O.flatMap pC).take (t * 2) = (O.take t).flatMap pC := by
  by_cases h : t ≤ O.length
  · conv => lhs; rw [← List.take_append_drop t O]
    rw [List.flatMap_append, List.take_left' (by rw [pC_len, List.length_take]; congr 1; omega)]
  · rw [List.take_of_length_le (by rw [pC_len]; omega), List.take_of_length_le (by omega)]
theorem pC_drop (O : List Pl) (t : Nat) : (O.flatMap pC).drop (t * 2) = (O.drop t).flatMap pC := by
  by_cases h : t ≤ O.length
  · conv => lhs; rw [← List.take_append_drop t O]
    rw [List.flatMap_append, List.drop_left' (by rw [pC_len, List.length_take]; congr 1; omega)]
  · rw [List.drop_eq_nil_of_le (by rw [pC_len]; omega), List.drop_eq_nil_of_le (by omega)]; rfl
theorem plAt_le (l : List Pl) (k : Int) : plAt l k ≤ l.length := List.findIdx_le_length
theorem plAt_lt {l : List Pl} {k : Int} {i : Nat} {p : Pl} (h : i < plAt l k) (hp : l[i]? = some p) : p.1 < k := by
  have h1 := List.not_of_lt_findIdx h
  rw [(List.getElem?_eq_some_iff.1 hp).2] at h1
  simpa using h1
theorem plAt_ge {l : List Pl} {k : Int} {p : Pl} (hp : l[plAt l k]? = some p) : ¬ p.1 < k := by
  obtain ⟨h1, h2⟩ := List.getElem?_eq_some_iff.1 hp
  have h3 := List.findIdx_getElem (w := h1)
  have h4 : (!decide ((l[plAt l k]).1 < k)) = true := h3
  rw [h2] at h4
  simpa using h4
theorem insP_len (P : List Pl) : (P.foldl insP []).length ≤ P.length := by
  have : ∀ (l out : List Pl), (l.foldl insP out).length ≤ out.length + l.length := by
    intro l
    induction l with
    | nil => intro out; simp
    | cons a l ih =>
      intro out
      rw [List.foldl_cons]
      have h1 := ih (insP out a)
      have h2 : (insP out a).length ≤ out.length + 1 := by
        unfold insP
        split
        · omega
        · have := plAt_le out a.1
          simp; omega
      simp only [List.length_cons]; omega
  simpa using this P []
set_option maxHeartbeats 8000000 in
set_option maxRecDepth 100000 in
theorem R18Ring_at {w : World} {ok : Nat → Prop} {A : Option Addr} {n c : Nat} {l : List HV} {S : List Ho} (dc : ByteArray) (rem : Int) (h : RL w ok A n c l S) (hP : (pairsH S).length ≤ 1000) :
    Calls Tryz.prog 28 #[.agg #[.string dc, .int .i64 rem, .slice A n c]] w fun e w' => ∃ A' k c', e = .returned (.slice A' k c') ∧ k = (refRing S).length ∧ SlK w' (fun b e => w.heap.size ≤ b ∧ e = 120) 2 (.slice A' k c') k ((refRing S).flatMap pC) ∧ Kept noBlock w w' := by
  have hb : Blk (w.alloc (.cells #[.string dc, .int .i64 rem, .slice A n c] 32)) w.heap.size 32 #[.string dc, .int .i64 rem, .slice A n c] := Blk.new _ _ _
  have H := Lib.hid (h.keptN ((Kept.refl noBlock w).alloc (.cells #[.string dc, .int .i64 rem, .slice A n c] 32)))
  have hSn := h.2.1
  have HSN := Lib.hid hSn
  have hn : n ≤ 9223372036854775807 := by obtain ⟨_, _, hv, h1, h2⟩ := h.2.2.1.shape; cases hv; unfold maxLen at h2; omega
  have HB := Lib.hid hb
  have HP := Lib.hid hP
  have HW0 := Lib.hid ((Kept.refl noBlock w).alloc (.cells #[.string dc, .int .i64 rem, .slice A n c] 32))
  have hz : (w.alloc (.cells #[.string dc, .int .i64 rem, .slice A n c] 32)).heap.size = w.heap.size + 1 := sz_alloc _ _
  have HZ := Lib.hid hz
  clear h hb hP hSn hz
  go_enter Tryz.func28, Tryz.ntmps28
  go_wp2_with fail
  generalize w.alloc (.cells #[.string dc, .int .i64 rem, .slice A n c] 32) = wb at *
  have HKB : Hid (∀ W, Kept noBlock wb W → Blk W w.heap.size 32 #[.string dc, .int .i64 rem, .slice A n c]) := Lib.hid fun W hW => HB.out.kept hW fun e => e
  go_loopg [3, 4] n (fun j vo vi wr => ∃ (i : Nat) (A' : Option Addr) (q c' : Nat) (O : List Pl), i + j = n ∧ vi = .int .i64 i ∧ vo = .slice A' q c' ∧ Hid (O = (pairsH (S.take i)).foldl insP []) ∧ O.length = q ∧ SlK wr (fun b e => w.heap.size ≤ b ∧ e = 120) 2 (.slice A' q c') q (O.flatMap pC) ∧ Kept noBlock wb wr)
  case atStart => exact ⟨0, none, 0, 0, [], by omega, rfl, rfl, Lib.hid rfl, rfl, SlK.nil _ _ _, Kept.refl _ _⟩
  case round =>
    obtain ⟨i, A', q, c', O, hij, rfl, rfl, HO, hOk, hO, hk⟩ := hrel
    subst hOk
    have HIJ := Lib.hid hij
    have HKr := Lib.hid hk
    have HOS := Lib.hid hO
    have b2 := (HKB.out wr hk).cell 2
    simp only [List.getElem?_toArray, List.getElem?_cons_succ, List.getElem?_cons_zero] at b2
    by_cases hi : i < n
    · obtain ⟨o, ho⟩ : ∃ o, S[i]? = some o := ⟨_, List.getElem?_eq_getElem (by have := HSN.out; omega)⟩
      have HOI := Lib.hid ho
      have HNX : Hid (pairsH (S.take (i + 1)) = pairsH (S.take i) ++ o.toks.map fun k => (k, o.name)) := Lib.hid (by rw [List.take_add_one, ho]; exact pairs_snoc _ _)
      have HPB : Hid ((pairsH (S.take i) ++ o.toks.map fun k => (k, o.name)).length ≤ 1000) := Lib.hid (by
        have h9 := HP.out
        rw [← List.take_append_drop (i + 1) S] at h9
        have : pairsH (S.take (i + 1) ++ S.drop (i + 1)) = pairsH (S.take (i + 1)) ++ pairsH (S.drop (i + 1)) := by unfold pairsH; rw [List.flatMap_append]
        rw [this, HNX.out, List.length_append] at h9
        omega)
      have hot : o.toks.length ≤ 1000 := by have := HPB.out; rw [List.length_append, List.length_map] at this; omega
      obtain ⟨wo, rfl⟩ : ∃ wo : World, wo = wr := ⟨_, rfl⟩
      clear hij hk hO ho
      go_wp2_with fail
      clear b2
      go_loopg [3, 5] o.toks.length (fun jj vo vk wr => ∃ (k : Nat) (A' : Option Addr) (q c' : Nat) (O : List Pl), k + jj = o.toks.length ∧ vk = .int .i64 k ∧ vo = .slice A' q c' ∧ Hid (O = (pairsH (S.take i) ++ (o.toks.take k).map fun k => (k, o.name)).foldl insP []) ∧ O.length = q ∧ SlK wr (fun b e => w.heap.size ≤ b ∧ e = 120) 2 (.slice A' q c') q (O.flatMap pC) ∧ Kept noBlock wb wr)
      case atStart => exact ⟨0, A', _, c', O, by omega, rfl, rfl, Lib.hid (by rw [List.take_zero, List.map_nil, List.append_nil]; exact HO.out), rfl, HOS.out, HKr.out⟩
      case round =>
        clear HO HOS HKr
        obtain ⟨k, A', q, c', O, hkk, rfl, rfl, HO, hOk, hO, hk⟩ := hrel
        subst hOk
        have HKK := Lib.hid hkk
        have HKr := Lib.hid hk
        have HOS := Lib.hid hO
        have b2 := (HKB.out wr hk).cell 2
        simp only [List.getElem?_toArray, List.getElem?_cons_succ, List.getElem?_cons_zero] at b2
        obtain ⟨y, gi, oi, -, -, hidx, z0, -, -, z3, -, hyn, hts⟩ := (H.out.keptN hk).at HOI.out
        rw [hyn] at z3 hts
        have HZ0 := Lib.hid z0
        have HC2 := Lib.hid b2
        by_cases hj : k < o.toks.length
        · obtain ⟨x, hx⟩ : ∃ x, o.toks[k]? = some x := ⟨_, List.getElem?_eq_getElem hj⟩
          obtain ⟨gx, ox, hidt, ct⟩ := tok_at hts hx
          have HTK : Hid (pairsH (S.take i) ++ (o.toks.take (k + 1)).map (fun k => (k, o.name)) = (pairsH (S.take i) ++ (o.toks.take k).map fun k => (k, o.name)) ++ [(x, o.name)]) := Lib.hid (by rw [List.take_add_one, hx, List.map_append, ← List.append_assoc]; rfl)
          have HOL : Hid (O.length ≤ 1000) := Lib.hid (by
            rw [HO.out]
            refine Nat.le_trans (insP_len _) (Nat.le_trans ?_ HPB.out)
            rw [List.length_append, List.length_append, List.length_map, List.length_map, List.length_take]
            omega)
          have hpl := plAt_le O x
          have HLT : Hid (∀ a, a < plAt O x → ∃ y, O[a]? = some y ∧ y.1 < x) := Lib.hid fun a ha => ⟨_, List.getElem?_eq_getElem (by omega), plAt_lt ha (List.getElem?_eq_getElem (by omega))⟩
          have HAT : Hid (plAt O x < O.length → ∃ y, O[plAt O x]? = some y ∧ ¬ y.1 < x) := Lib.hid fun h => ⟨_, List.getElem?_eq_getElem h, plAt_ge (List.getElem?_eq_getElem h)⟩
          have HIN : Hid (insP O (x, o.name) = if (O[plAt O x]?).map (·.1) = some x then O else O.take (plAt O x) ++ (x, o.name) :: O.drop (plAt O x)) := Lib.hid rfl
          have HPL := Lib.hid hpl
          clear hkk hk hx hO hts hyn
          generalize plAt O x = t at *
          go_wp2_with fail
          clear z3 ct hidt
          go_loopg [7] t (fun q va wx => ∃ a : Nat, a + q = t ∧ va = .int .i64 a ∧ wx = wr)
          case atStart => exact ⟨0, by omega, rfl, rfl⟩
          case round =>
            obtain ⟨a, haq, rfl, rfl⟩ := hrel
            have HAQ := Lib.hid haq
            clear haq
            by_cases hat : a < t
            · have HATA := Lib.hid hat
              obtain ⟨y, hy, hyx⟩ := HLT.out a hat
              obtain ⟨gy, oy, hidy, -, cy, -⟩ := p_at HOS.out p3sT hy
              have hal2 : a < O.length := by have := HPL.out; omega
              have hal3 : a ≤ 1000000 := by have := HOL.out; omega
              clear hy
              go_wp2_with fail
              go_roundg (t - (a + 1))
              case measure => have := HAQ.out; omega
              case rel => exact ⟨a + 1, by have := HAQ.out; have := HATA.out; omega, by go_num, rfl⟩
            · obtain rfl : t = a := by have := HAQ.out; omega
              by_cases hend : t < O.length
              · obtain ⟨y, hy, hyx⟩ := HAT.out hend
                obtain ⟨gy, oy, hidy, -, cy, -⟩ := p_at HOS.out p3sT hy
                by_cases heq : y.1 = x
                · subst heq
                  have hbe : (y.1 == y.1) = true := by simp
                  have HIN2 : Hid (insP O (y.1, o.name) = O) := Lib.hid (by rw [HIN.out, if_pos (by rw [hy]; rfl)])
                  clear hy
                  go_wp2_with fail
                  go_roundg (o.toks.length - (k + 1))
                  case measure => have := HKK.out; omega
                  case rel => exact ⟨k + 1, A', _, c', O, by have := HKK.out; omega, by go_num, rfl, Lib.hid (by rw [HTK.out, List.foldl_append, ← HO.out]; exact HIN2.out.symm), rfl, HOS.out, HKr.out⟩
                · have hbe : (y.1 == x) = false := beq_eq_false_iff_ne.2 heq
                  have HIN2 : Hid (insP O (x, o.name) = O.take t ++ (x, o.name) :: O.drop t) := Lib.hid (by rw [HIN.out, if_neg (by rw [hy]; exact fun e => heq (Option.some.inj e))])
                  clear hy heq
                  have hk0 : Kept noBlock wr wr := Kept.refl noBlock wr
                  have hs0 := HOS.out
                  have HK0 := Lib.hid hk0
                  obtain ⟨A2, c2, hto, hst⟩ := hs0.run_to p3sT (i := (t : Int)) (k := t) rfl HPL.out
                  obtain ⟨A3, c3, hfrom, hsf⟩ := hs0.run_from p3sT (i := (t : Int)) (k := t) rfl HPL.out
                  rw [pC_take] at hst
                  rw [pC_drop] at hsf
                  have HS0 := Lib.hid (SlK.lo hst)
                  have HSF0 := Lib.hid (SlK.lo hsf)
                  have hlt2 : t ≤ O.length := HPL.out
                  have hO2 : O.length ≤ 1000 := HOL.out
                  clear hst hsf hs0 hk0
                  go_wp2_with (at_builtin; go_must (refine wpList_append_sl _ p3sT rfl (.tmp 64) (.tmp 67) rfl wr.heap.size _ 0 [] rfl (World.ownsRow_nil _ _ _ _) _ t _ rfl HS0.out (fun u hu => pC_one hu) ?c1 ?c2 ?_))
                  case c1 => omega
                  case c2 => first | omega | (simp; omega)
                  intro v1 w3 hap1
                  have hk3 : Kept noBlock wr w3 := HK0.out.trans hap1.keptNil (fun _ _ h => h)
                  have HF1 := Lib.hid (SlK.keptNone HSF0.out hap1.keptNil)
                  have HO1 := Lib.hid hap1.own
                  have hsz1 := hap1.keptNil.size
                  have q9 := hk3.cellOf HC2.out
                  have q8 := hk3.cellOf HZ0.out
                  have HK3 := Lib.hid hk3
                  clear hap1 hk3
                  go_wp2_with (at_builtin; go_must (refine wpList_append_sl _ p3sT rfl (.tmp 69) (.tmp 78) rfl wr.heap.size _ t _ rfl (World.ownsRow.alloc HO1.out _) _ 1 [.int .i64 x, .string o.name] rfl (Sl.made_at (Blk.new_at _ _ _ rfl) _ rfl rfl one_max) (by simp [Value.oneCell']) ?d1 ?d2 ?_))
                  case d1 => omega
                  case d2 => first | omega | (simp; omega)
                  intro v2 w4 hap2
                  have hf2 := SlK.appended (SlK.alloc HF1.out _) hap2 (World.ownsRow.alloc HO1.out _) (Nat.le_refl _)
                  have hk4 : Kept noBlock wr w4 := hap2.below (World.ownsRow.alloc HO1.out _) (HK3.out.alloc _) HK0.out.size
                  have HO2 := Lib.hid hap2.own
                  have hsz2 := (hap2.kept).size
                  rw [sz_alloc] at hsz2
                  have HK4 := Lib.hid hk4
                  have HF2 := Lib.hid hf2
                  clear hap2 hf2 hk4 HK3
                  go_wp2_with (at_builtin; go_must (refine wpList_append_sl _ p3sT rfl (.tmp 80) (.tmp 83) rfl wr.heap.size _ (t + 1) _ rfl HO2.out _ (O.length - t) _ rfl HF2.out (fun u hu => pC_one hu) ?e1 ?e2 ?_))
                  case e1 => omega
                  case e2 => omega
                  intro v3 w5 hap3
                  have hk5 : Kept noBlock wr w5 := hap3.below HO2.out HK4.out HK0.out.size
                  have HO5 := Lib.hid hap3.own
                  have HK5 := Lib.hid hk5
                  clear hap3 hk5 HK4
                  obtain ⟨A5, c5, rfl, -, -⟩ := (Sl.of_own HO5.out).shape
                  have HREL : Hid (SlK w5 (fun b e => w.heap.size ≤ b ∧ e = 120) 2 (.slice A5 (t + 1 + (O.length - t)) c5) (t + 1 + (O.length - t)) ((insP O (x, o.name)).flatMap pC)) := Lib.hid (by
                    have h1 := SlK.of_ownB HO5.out
                    rw [HIN2.out]
                    have e2 := h1.any (ok' := fun b e => w.heap.size ≤ b ∧ e = 120) fun b _ _ e => ⟨Nat.le_trans (Nat.le_trans HW0.out.size HKr.out.size) e.1, e.2⟩
                    simpa [List.flatMap_append, pC] using e2)
                  go_wp2_with fail
                  go_roundg (o.toks.length - (k + 1))
                  case measure => have := HKK.out; omega
                  case rel => exact ⟨k + 1, A5, _, c5, insP O (x, o.name), by have := HKK.out; omega, by go_num, rfl, Lib.hid (by rw [HTK.out, List.foldl_append, ← HO.out]; rfl), by rw [HIN2.out]; simp; omega, HREL.out, HKr.out.trans HK5.out fun _ _ e => e⟩
              · have HIN2 : Hid (insP O (x, o.name) = O.take t ++ (x, o.name) :: O.drop t) := Lib.hid (by rw [HIN.out, if_neg (by rw [List.getElem?_eq_none (by omega)]; exact fun e => by cases e)])
                have hk0 : Kept noBlock wr wr := Kept.refl noBlock wr
                have hs0 := HOS.out
                have HK0 := Lib.hid hk0
                obtain ⟨A2, c2, hto, hst⟩ := hs0.run_to p3sT (i := (t : Int)) (k := t) rfl HPL.out
                obtain ⟨A3, c3, hfrom, hsf⟩ := hs0.run_from p3sT (i := (t : Int)) (k := t) rfl HPL.out
                rw [pC_take] at hst
                rw [pC_drop] at hsf
                have HS0 := Lib.hid (SlK.lo hst)
                have HSF0 := Lib.hid (SlK.lo hsf)
                have hlt2 : t ≤ O.length := HPL.out
                have hO2 : O.length ≤ 1000 := HOL.out
                clear hst hsf hs0 hk0
                go_wp2_with (at_builtin; go_must (refine wpList_append_sl _ p3sT rfl (.tmp 64) (.tmp 67) rfl wr.heap.size _ 0 [] rfl (World.ownsRow_nil _ _ _ _) _ t _ rfl HS0.out (fun u hu => pC_one hu) ?c1 ?c2 ?_))
                case c1 => omega
                case c2 => first | omega | (simp; omega)
                intro v1 w3 hap1
                have hk3 : Kept noBlock wr w3 := HK0.out.trans hap1.keptNil (fun _ _ h => h)
                have HF1 := Lib.hid (SlK.keptNone HSF0.out hap1.keptNil)
                have HO1 := Lib.hid hap1.own
                have hsz1 := hap1.keptNil.size
                have q9 := hk3.cellOf HC2.out
                have q8 := hk3.cellOf HZ0.out
                have HK3 := Lib.hid hk3
                clear hap1 hk3
                go_wp2_with (at_builtin; go_must (refine wpList_append_sl _ p3sT rfl (.tmp 69) (.tmp 78) rfl wr.heap.size _ t _ rfl (World.ownsRow.alloc HO1.out _) _ 1 [.int .i64 x, .string o.name] rfl (Sl.made_at (Blk.new_at _ _ _ rfl) _ rfl rfl one_max) (by simp [Value.oneCell']) ?d1 ?d2 ?_))
                case d1 => omega
                case d2 => first | omega | (simp; omega)
                intro v2 w4 hap2
                have hf2 := SlK.appended (SlK.alloc HF1.out _) hap2 (World.ownsRow.alloc HO1.out _) (Nat.le_refl _)
                have hk4 : Kept noBlock wr w4 := hap2.below (World.ownsRow.alloc HO1.out _) (HK3.out.alloc _) HK0.out.size
                have HO2 := Lib.hid hap2.own
                have hsz2 := (hap2.kept).size
                rw [sz_alloc] at hsz2
                have HK4 := Lib.hid hk4
                have HF2 := Lib.hid hf2
                clear hap2 hf2 hk4 HK3
                go_wp2_with (at_builtin; go_must (refine wpList_append_sl _ p3sT rfl (.tmp 80) (.tmp 83) rfl wr.heap.size _ (t + 1) _ rfl HO2.out _ (O.length - t) _ rfl HF2.out (fun u hu => pC_one hu) ?e1 ?e2 ?_))
                case e1 => omega
                case e2 => omega
                intro v3 w5 hap3
                have hk5 : Kept noBlock wr w5 := hap3.below HO2.out HK4.out HK0.out.size
                have HO5 := Lib.hid hap3.own
                have HK5 := Lib.hid hk5
                clear hap3 hk5 HK4
                obtain ⟨A5, c5, rfl, -, -⟩ := (Sl.of_own HO5.out).shape
                have HREL : Hid (SlK w5 (fun b e => w.heap.size ≤ b ∧ e = 120) 2 (.slice A5 (t + 1 + (O.length - t)) c5) (t + 1 + (O.length - t)) ((insP O (x, o.name)).flatMap pC)) := Lib.hid (by
                  have h1 := SlK.of_ownB HO5.out
                  rw [HIN2.out]
                  have e2 := h1.any (ok' := fun b e => w.heap.size ≤ b ∧ e = 120) fun b _ _ e => ⟨Nat.le_trans (Nat.le_trans HW0.out.size HKr.out.size) e.1, e.2⟩
                  simpa [List.flatMap_append, pC] using e2)
                go_wp2_with fail
                go_roundg (o.toks.length - (k + 1))
                case measure => have := HKK.out; omega
                case rel => exact ⟨k + 1, A5, _, c5, insP O (x, o.name), by have := HKK.out; omega, by go_num, rfl, Lib.hid (by rw [HTK.out, List.foldl_append, ← HO.out]; rfl), by rw [HIN2.out]; simp; omega, HREL.out, HKr.out.trans HK5.out fun _ _ e => e⟩
        · obtain rfl : k = o.toks.length := by omega
          have HF : Hid (O = (pairsH (S.take (i + 1))).foldl insP []) := Lib.hid (by rw [HO.out, List.take_length, HNX.out])
          clear hkk hk hO hts hyn
          go_wp2_with fail
          go_roundg (n - (i + 1))
          case measure => have := HIJ.out; omega
          case rel => exact ⟨i + 1, A', _, c', O, by have := HIJ.out; omega, by go_num, rfl, HF, rfl, HOS.out, HKr.out⟩
    · obtain rfl : i = n := by omega
      have HT : Hid (O = refRing S) := Lib.hid (by rw [HO.out, List.take_of_length_le (by have := HSN.out; omega)]; rfl)
      clear hij hk hO
      go_wp2_with fail
      go_ret
      exact ⟨A', _, c', rfl, by rw [HT.out], by rw [← HT.out]; exact HOS.out, HW0.out.trans HKr.out fun _ _ e => e⟩
end Go.Proofs.YtepikngkbondgaaGreat
namespace Go.Proofs.YtepikngkbondgaaGreat
set_option linter.unusedVariables false
open Go.RowKit
open Go.ChangeMaps (setBlock)

theorem t18_agg (w : World) (dc : ByteArray) (rem : Int) (v : Value) : True := trivial
def hostsEqB (S S' : List Ho) : Bool := decide (S.map (fun o => (o.name, o.dc, o.rack, o.toks, o.up)) = S'.map (fun o => (o.name, o.dc, o.rack, o.toks, o.up)))
section
variable {w : World} {ok ok' : Nat → Prop} {A A' : Option Addr} {n n' c c' : Nat} {l l' : List HV} {S S' : List Ho}
theorem findV_some {x : ByteArray} {o : Ho} (h : getS x S = some o) : findV S x = (findI S x : Int) ∧ findI S x < S.length ∧ S[findI S x]? = some o := by
  rw [findI_get] at h
  have h1 := (List.getElem?_eq_some_iff.1 h).1
  exact ⟨by unfold findV; rw [if_pos h1], h1, h⟩
theorem findV_none {x : ByteArray} (h : getS x S = none) : findV S x = -1 := by
  rw [findI_get] at h
  have h1 := List.getElem?_eq_none_iff.1 h
  unfold findV; rw [if_neg (by omega)]
theorem mark_set {x : ByteArray} {up : Bool} {o : Ho} (hS : risingH S) (h : getS x S = some o) : S.map (setUp x up) = S.set (findI S x) { o with up := up } := by
  obtain ⟨-, h1, h2⟩ := findV_some h
  refine List.ext_getElem? fun i => ?_
  rw [List.getElem?_map, List.getElem?_set]
  by_cases e : findI S x = i
  · subst e
    rw [if_pos rfl, if_pos h1, h2]
    simp only [Option.map_some, setUp]
    rw [if_pos (findI_at h2)]
  · rw [if_neg e]
    cases hi : S[i]? with
    | none => rfl
    | some q =>
      simp only [Option.map_some, setUp]
      rw [if_neg fun hq => ?_]
      obtain ⟨hi1, hi2⟩ := List.getElem?_eq_some_iff.1 hi
      obtain ⟨hj1, hj2⟩ := List.getElem?_eq_some_iff.1 h2
      have hne := rising_ne hS
      rcases Nat.lt_or_ge (findI S x) i with hlt | hge
      · have := List.pairwise_iff_getElem.1 hne _ _ hj1 hi1 hlt
        rw [hj2, hi2, hq] at this
        exact this (findI_at h2)
      · have := List.pairwise_iff_getElem.1 hne _ _ hi1 hj1 (by omega)
        rw [hj2, hi2, hq] at this
        exact this (findI_at h2).symm
theorem flat_setH {l : List HV} {i : Nat} {x : HV} (hi : l[i]? = some x) (u : Bool) : (l.flatMap hvC).set (i * 5 + 4) (.bool u) = (l.set i { x with up := u }).flatMap hvC := flat_setK (k := 5) (f := hvC) (a' := { x with up := u }) (fun _ => rfl) (by decide) l i x hi rfl
theorem hvC_one {l : List HV} {u : Value} (hu : u ∈ l.flatMap hvC) : u.oneCell' = true := by
  obtain ⟨x, -, hx⟩ := List.mem_flatMap.1 hu
  simp only [hvC, List.mem_cons, List.not_mem_nil, or_false] at hx
  rcases hx with rfl | rfl | rfl | rfl | rfl <;> simp [Value.oneCell']
theorem ownH18_at {w : World} {base : Nat} {v : Value} {L : List HV} {n i : Nat} {x : HV} (h : w.ownsRow base 74 5 v n (L.flatMap hvC)) (hi : L[i]? = some x) :
    ∃ g cap off, v = .slice (some ⟨g, 0, none⟩) n cap ∧ off = i * 5 ∧ base ≤ g ∧ (∃ cs, w.heap[g]? = some (.cells cs 74 (0, 0))) ∧ (∀ kd w', (Instr.indexAt 30 v (.int kd (i : Int))).run Tryz.prog w' = .ok (.pointer (some ⟨g, off, none⟩)) w') ∧
      w.cell? ⟨g, off, none⟩ = some (.string x.name) ∧ w.cell? ⟨g, off + 1, none⟩ = some (.string x.dc) ∧ w.cell? ⟨g, off + 2, none⟩ = some (.string x.rack) ∧ w.cell? ⟨g, off + 3, none⟩ = some (.slice x.ta x.tn x.tc) ∧ w.cell? ⟨g, off + 4, none⟩ = some (.bool x.up) := by
  have hlt : i < n := by
    have h1 := (List.getElem?_eq_some_iff.1 hi).1
    have h2 := h.1
    rw [hvC_len] at h2
    omega
  rcases h.2 with ⟨rfl, rfl⟩ | ⟨g, cap, cs, rfl, hb, hg, -⟩
  · omega
  refine ⟨g, cap, i * 5, rfl, rfl, hb, ⟨cs, hg⟩, fun kd w' => ?_, ?_, ?_, ?_, ?_, ?_⟩
  · have hi2 : (i : Int) < (n : Int) := by omega
    simp [Instr.indexAt, asIntOf, run_underlying h18sT.ht, h18sT.run_size, hlt, Addr.add_lit]
  · exact (h.cellAt (i * 5 + 0) (by omega)).trans ((flat_get (k := 5) (fun _ => rfl) L i 0 x hi (by decide)).trans rfl)
  · exact (h.cellAt (i * 5 + 1) (by omega)).trans ((flat_get (k := 5) (fun _ => rfl) L i 1 x hi (by decide)).trans rfl)
  · exact (h.cellAt (i * 5 + 2) (by omega)).trans ((flat_get (k := 5) (fun _ => rfl) L i 2 x hi (by decide)).trans rfl)
  · exact (h.cellAt (i * 5 + 3) (by omega)).trans ((flat_get (k := 5) (fun _ => rfl) L i 3 x hi (by decide)).trans rfl)
  · exact (h.cellAt (i * 5 + 4) (by omega)).trans ((flat_get (k := 5) (fun _ => rfl) L i 4 x hi (by decide)).trans rfl)
/-- A table's hosts, handed back in a struct. -/
def RT (w' : World) (ok : Nat → Prop) (dc : ByteArray) (rem : Int) (S : List Ho) (v : Value) : Prop := ∃ A n c l, v = .agg #[.string dc, .int .i64 rem, .slice A n c] ∧ RL w' ok A n c l S
end
end Go.Proofs.YtepikngkbondgaaGreat
namespace Go.Proofs.YtepikngkbondgaaGreat
set_option linter.unusedVariables false
open Go.RowKit
open Go.ChangeMaps (setBlock)

section
variable {w : World} {ok ok' : Nat → Prop} {A A' : Option Addr} {n n' c c' : Nat} {l l' : List HV} {S S' : List Ho}
set_option maxHeartbeats 8000000 in
set_option maxRecDepth 100000 in
theorem R18Dist_at (dc : ByteArray) (rem : Int) (h : RL w ok A n c l S) (hS : risingH S) (hn : S.length ≤ 1000) (x : ByteArray) :
    Calls Tryz.prog 33 #[.agg #[.string dc, .int .i64 rem, .slice A n c], .string x] w fun e w' => e = .returned (.int .i64 (distP dc rem S x)) ∧ Kept noBlock w w' := by
  have hb : Blk (w.alloc (.cells #[.string dc, .int .i64 rem, .slice A n c] 32)) w.heap.size 32 #[.string dc, .int .i64 rem, .slice A n c] := Blk.new _ _ _
  have hk2 : Kept noBlock w (w.alloc (.cells #[.string dc, .int .i64 rem, .slice A n c] 32)) := (Kept.refl noBlock w).alloc _
  have h2 := h.keptN hk2
  have HF := R18find_at h2 x
  have HB := Lib.hid hb
  have HK2 := Lib.hid hk2
  have H2 := Lib.hid h2
  have HSN := Lib.hid h.2.1
  clear hb hk2 h2 h
  go_enter Tryz.func33, Tryz.ntmps33
  go_wp2_with fail
  generalize w.alloc (.cells #[.string dc, .int .i64 rem, .slice A n c] 32) = w2 at *
  have p0 := HB.out.cell 0
  have p1 := HB.out.cell 1
  have p2 := HB.out.cell 2
  simp only [List.getElem?_toArray, List.getElem?_cons_succ, List.getElem?_cons_zero] at p0 p1 p2
  cases hx : getS x S with
  | none =>
    have HD : Hid (distP dc rem S x = 0) := Lib.hid (by unfold distP; rw [hx])
    rw [findV_none hx] at HF
    clear hx
    refine HF.mono ?_
    rintro e w3 ⟨rfl, rfl⟩
    clear HF
    go_wp2_with fail
    go_ret
    exact ⟨by rw [HD.out]; rfl, HK2.out⟩
  | some o =>
    obtain ⟨hv, hlt, hso⟩ := findV_some hx
    obtain ⟨y, gi, oi, -, -, hidx, -, y1, -, -, -, -, -⟩ := H2.out.at hso
    rw [hv] at HF
    have HSO := Lib.hid hso
    have hon : o.name = x := getS_name hx
    have HD : Hid (distP dc rem S x = if o.dc = dc then 1 else if (sameN S o.dc (findI S x) : Int) < rem then 2 else 0) := Lib.hid (by have := dist_at hS hso dc rem; rw [hon] at this; exact this)
    have hln : findI S x < n := by have := HSN.out; omega
    have hnn : n ≤ 1000 := by have := HSN.out; omega
    clear hx hv hso hon hlt
    generalize findI S x = at_ at *
    refine HF.mono ?_
    rintro e w3 ⟨rfl, rfl⟩
    clear HF
    by_cases hd : o.dc = dc
    · have hb : (o.dc.toList == dc.toList) = true := by rw [hd]; exact strEq_self _
      have HDV : Hid (distP dc rem S x = 1) := Lib.hid (by rw [HD.out, if_pos hd])
      clear hd
      go_wp2_with fail
      go_quiet (fail)
      go_wp2_with fail
      go_ret
      exact ⟨by rw [HDV.out]; rfl, HK2.out.drewN _⟩
    · have hb : (o.dc.toList == dc.toList) = false := strEq_ne hd
      have HDV : Hid (distP dc rem S x = if (sameN S o.dc at_ : Int) < rem then 2 else 0) := Lib.hid (by rw [HD.out, if_neg hd])
      clear hd
      go_wp2_with fail
      go_quiet (fail)
      go_wp2_with fail
      go_loopg [6, 7] at_ (fun j vn vi wr => ∃ (i N : Nat), i + j = at_ ∧ vi = .int .i64 i ∧ vn = .int .i64 N ∧ Hid (N = sameN S o.dc i) ∧ N ≤ i ∧ Kept noBlock w2 wr)
      case atStart => exact ⟨0, 0, by omega, rfl, rfl, Lib.hid (sameN_zero S o.dc).symm, by omega, (Kept.refl _ _).drewN _⟩
      case round =>
        obtain ⟨i, N, hij, rfl, rfl, HN, hNi, hk⟩ := hrel
        have HIJ := Lib.hid hij
        have HK := Lib.hid hk
        have q1 := hk.cellOf p1
        have q2 := hk.cellOf p2
        by_cases hi : i < at_
        · obtain ⟨q, hq⟩ : ∃ q, S[i]? = some q := ⟨_, List.getElem?_eq_getElem (by have := HSN.out; omega)⟩
          obtain ⟨yk, gk, ok_, -, -, hidk, -, k1, -, -, -, -, -⟩ := (H2.out.keptN hk).at hq
          obtain ⟨yi, ga, oa, -, -, hida, -, a1, -, -, -, -, -⟩ := (H2.out.keptN hk).at HSO.out
          have HSU := Lib.hid (sameN_succ hq o.dc)
          clear hij hk hq hidx y1
          by_cases hqd : q.dc = o.dc
          · have hb1 : (q.dc.toList == o.dc.toList) = true := by rw [hqd]; exact strEq_self _
            have HFN : Hid (N + 1 = sameN S o.dc (i + 1)) := Lib.hid (by rw [HSU.out, if_pos hqd, ← HN.out])
            clear hqd
            go_wp2_with fail
            go_quiet (fail)
            go_wp2_with fail
            go_roundg (at_ - (i + 1))
            case measure => have := HIJ.out; omega
            case rel => exact ⟨i + 1, N + 1, by have := HIJ.out; omega, by go_num, by go_num, HFN, by omega, HK.out.drewN _⟩
          · have hb1 : (q.dc.toList == o.dc.toList) = false := strEq_ne hqd
            have HFN : Hid (N = sameN S o.dc (i + 1)) := Lib.hid (by rw [HSU.out, if_neg hqd, ← HN.out]; rfl)
            clear hqd
            go_wp2_with fail
            go_quiet (fail)
            go_wp2_with fail
            go_roundg (at_ - (i + 1))
            case measure => have := HIJ.out; omega
            case rel => exact ⟨i + 1, N, by have := HIJ.out; omega, by go_num, rfl, HFN, by omega, HK.out.drewN _⟩
        · obtain rfl : i = at_ := by omega
          have hdv := HDV.out
          rw [← HN.out] at hdv
          clear hij hk hidx y1
          by_cases hlt : (N : Int) < rem
          · rw [if_pos hlt] at hdv
            have HV := Lib.hid hdv
            clear hdv
            go_wp2_with fail
            go_ret
            exact ⟨by rw [HV.out]; rfl, HK2.out.trans HK.out fun _ _ e => e⟩
          · rw [if_neg hlt] at hdv
            have HV := Lib.hid hdv
            clear hdv
            go_wp2_with fail
            go_ret
            exact ⟨by rw [HV.out]; rfl, HK2.out.trans HK.out fun _ _ e => e⟩
set_option maxHeartbeats 8000000 in
set_option maxRecDepth 100000 in
/-- Two rows of the same texts are the same. -/
theorem texts_at {ok ok' : Nat → TypeId → Prop} {L : List ByteArray} (h : SlK w ok 1 (.slice A n c) n (L.map Value.string)) (h' : SlK w ok' 1 (.slice A' n' c') n' (L.map Value.string)) :
    Calls Tryz.prog 11 #[.slice A n c, .slice A' n' c'] w fun e w' => e = .returned (.bool true) ∧ Kept noBlock w w' := by
  have hn1 := h.len
  have hn2 := h'.len
  rw [List.length_map, Nat.mul_one] at hn1 hn2
  have HL := Lib.hid hn1
  obtain rfl : n = n' := hn1.symm.trans hn2
  have hnm : n ≤ 9223372036854775807 := by obtain ⟨_, _, hv, h1, h2⟩ := h.shape; cases hv; unfold maxLen at h2; omega
  have H := Lib.hid h
  have H' := Lib.hid h'
  clear h h' hn1 hn2
  go_enter Tryz.func11, Tryz.ntmps11
  have e5 : ((n : Int) != (n : Int)) = false := by simp
  go_wp2_with fail
  go_loopg [5] n (fun j vi wr => ∃ i : Nat, i + j = n ∧ vi = .int .i64 i ∧ Kept noBlock w wr)
  case atStart => exact ⟨0, by omega, rfl, Kept.refl _ _⟩
  case round =>
    obtain ⟨i, hij, rfl, hk⟩ := hrel
    have HIJ := Lib.hid hij
    have HK := Lib.hid hk
    by_cases hi : i < n
    · obtain ⟨x, hx⟩ : ∃ x, L[i]? = some x := ⟨_, List.getElem?_eq_getElem (by have := HL.out; omega)⟩
      obtain ⟨g, off, hidx, -, -, h3⟩ := (H.out.keptNone hk).run_index strsT (i := (i : Int)) (k := i) rfl hi
      obtain ⟨g', off', hidx', -, -, h3'⟩ := (H'.out.keptNone hk).run_index strsT (i := (i : Int)) (k := i) rfl hi
      have c0 : wr.cell? ⟨g, off, none⟩ = some (.string x) := h3 0 _ (by rw [Nat.mul_one, Nat.add_zero, List.getElem?_map, hx]; rfl)
      have c0' : wr.cell? ⟨g', off', none⟩ = some (.string x) := h3' 0 _ (by rw [Nat.mul_one, Nat.add_zero, List.getElem?_map, hx]; rfl)
      have eb := strEq_self x
      clear hij hk hx h3 h3'
      go_wp2_with fail
      go_quiet (fail)
      go_wp2_with fail
      go_roundg (n - (i + 1))
      case measure => have := HIJ.out; omega
      case rel => exact ⟨i + 1, by have := HIJ.out; omega, by go_num, HK.out.drewN _⟩
    · clear hij hk
      go_wp2_with fail
      go_ret
      exact ⟨rfl, HK.out⟩
end
end Go.Proofs.YtepikngkbondgaaGreat
namespace Go.Proofs.YtepikngkbondgaaGreat
set_option linter.unusedVariables false
open Go.RowKit
open Go.ChangeMaps (setBlock)

theorem sites4_step {S : List Ho} {i : Nat} {o : Ho} (h : S[i]? = some o) : (sitesS (S.take (i + 1))).flatMap s4C = (sitesS (S.take i)).flatMap s4C ++ [.string o.name, .string o.dc, .string o.rack] := sites_step h
set_option maxHeartbeats 4000000 in
set_option maxRecDepth 100000 in
theorem R19Repl_at {w : World} {ok : Nat → Prop} {dc : ByteArray} {rem k t : Int} {A Af : Option Addr} {n c nf cf : Nat} {l : List HV} {S : List Ho} {fs : List Fa} {ok2 : Nat → TypeId → Prop} (h : RL w ok A n c l S) (hok : HoOk S 20 20) (hf : SlK w ok2 2 (.slice Af nf cf) nf (fs.flatMap fC)) (hfl : fs.length = nf) (hfs : nf ≤ 1000) :
    Calls Tryz.prog 13 #[.agg #[.string dc, .int .i64 rem, .slice A n c], .int .i64 k, .slice Af nf cf, .int .i64 t] w (TextsTold w (replP S k fs t)) := by
  have hbz : Blk (w.alloc (.cells #[.string dc, .int .i64 rem, .slice A n c] 32)) w.heap.size 32 #[.string dc, .int .i64 rem, .slice A n c] := Blk.new _ _ _
  have hkz : Kept noBlock w (w.alloc (.cells #[.string dc, .int .i64 rem, .slice A n c] 32)) := (Kept.refl _ _).alloc _
  have HBZ := Lib.hid hbz
  have HKZ := Lib.hid hkz
  have HZ := Lib.hid (h.keptN hkz)
  have HFZ := Lib.hid (hf.keptNone hkz)
  have HFL := Lib.hid hfl
  have HOK := Lib.hid hok
  have HSN := Lib.hid h.2.1
  have hn20 : n ≤ 20 := by have := hok.len; have := h.2.1; omega
  have HPP : Hid ((pairsH S).length ≤ 1000) := Lib.hid (Nat.le_trans hok.pairs (by decide))
  have HWL : Hid ((ringW S t).length ≤ 20) := Lib.hid (Nat.le_trans (ringW_len t) hok.len)
  have z0 := hbz.cell 0
  have z1 := hbz.cell 1
  have z2 := hbz.cell 2
  simp only [List.getElem?_toArray, List.getElem?_cons_succ, List.getElem?_cons_zero] at z0 z1 z2
  have hlf := HFZ.out.run_len f4sT
  clear hbz hkz h hf hok hfl
  go_enter Tryz.func13, Tryz.ntmps13
  go_wp2_with fail
  generalize w.alloc (.cells #[.string dc, .int .i64 rem, .slice A n c] 32) = wz at *
  generalize w.heap.size = bz at *
  go_at_call 28
  refine (R18Ring_at dc rem HZ.out HPP.out).mono ?_
  rintro e w1 ⟨A1, k1, c1, rfl, hk1, hs1, hkk1⟩
  have HR1 := Lib.hid (hs1.any fun b e _ h => h.2)
  have HK1 := Lib.hid hk1
  have HKK1 := Lib.hid hkk1
  have y2 := hkk1.cellOf z2
  have HW3 : Hid (∀ W, Kept noBlock w1 W → Calls Tryz.prog 49 #[.slice A1 k1 c1, .int .i64 t] W fun e w' => ∃ v', e = .returned v' ∧ Sl w' 9 1 v' (ringW S t).length ((ringW S t).map Value.string) ∧ Kept noBlock W w') := Lib.hid fun W hW => R3Walk_at (by rw [← HK1.out]; exact HR1.out.keptNone hW) (refRing_spec S).1 (refRing_len HPP.out)
  clear hs1 hk1 hkk1 z0 z1 z2
  by_cases h0 : nf = 0
  · subst h0
    have HRS := Lib.hid (repl_simple (S := S) (k := k) (t := t) (fs := fs) HFL.out)
    go_wp2_with fail
    go_at_call 29
    refine (r4Simple_in (l := ringW S t) (n := k) (Nat.le_trans HWL.out (by decide)) rfl (HW3.out _ (Kept.refl _ _))).mono ?_
    rintro e w2 ⟨v2, rfl, hs2, hk2⟩
    obtain ⟨A2, c2, rfl, -, -⟩ := hs2.shape
    have FIN : Hid (TextsTold w (replP S k fs t) (.returned (.slice A2 (max (min k ((ringW S t).length : Int)) 0).toNat c2)) w2) := Lib.hid (by
      have h1 : (max (min k ((ringW S t).length : Int)) 0).toNat ≤ (ringW S t).length := by omega
      refine ⟨A2, _, c2, rfl, ?_, ?_, (HKZ.out.trans HKK1.out fun _ _ e => e).trans hk2 fun _ _ e => e⟩
      · rw [HRS.out, List.length_take]; exact (Nat.min_eq_left h1).symm
      · rw [HRS.out]; exact hs2)
    clear hs2 hk2
    go_wp2_with fail
    go_ret
    exact FIN.out
  · have hne : ((nf : Int) == 0) = false := by simp [h0]
    go_wp2_with fail
    clear hne
    go_loopg [10, 11] n (fun j vs vi wr => ∃ i : Nat, i + j = n ∧ vi = .int .i64 i ∧ wr.ownsRow w1.heap.size 75 3 vs i ((sitesS (S.take i)).flatMap s4C) ∧ Kept noBlock w1 wr)
    case atStart => exact ⟨0, by omega, rfl, World.ownsRow_nil _ _ _ _, Kept.refl _ _⟩
    case round =>
      obtain ⟨i, hij, rfl, hown, hk⟩ := hrel
      have HIJ := Lib.hid hij
      have HO := Lib.hid hown
      have HK := Lib.hid hk
      have hzs := hk.size
      have x2 := hk.cellOf y2
      by_cases hi : i < n
      · obtain ⟨o, ho⟩ : ∃ o, S[i]? = some o := ⟨_, List.getElem?_eq_getElem (by have := HSN.out; omega)⟩
        obtain ⟨x, g, off, -, -, hidx, u0, u1, u2, -, -, -, -⟩ := (HZ.out.keptN HKK1.out).at ho
        have HNX := Lib.hid (sites4_step ho)
        obtain ⟨on, od, orr, ot, ou⟩ := o
        simp only [] at u0 u1 u2 HNX
        clear hij hown hk ho
        go_wp2_with fail
        refine wp_region_sch (fun w' => Kept noBlock w1 w') (.take 0 (.take 1 (.take 2 (.take 3 (.take 4 (.take 5 (.take 6 (.take 7 (.take 8 (.take 9 (.take 10 (.take 11 (.take 12 (.take 13 (.take 14 (.take 15 (.take 16 (.take 17 (.take 18 (.take 19 (.one 20 (.one 21 (.take 22 .nil))))))))))))))))))))))) (by kernel_rfl) (by kernel_rfl) (by kernel_rfl) HK.out.drew ?_
        repeat (first
          | (refine sch_takeE rfl rfl ?_
             apply Exists.intro
             refine ⟨fun w' hS => ?_, fun K hK => ?_⟩
             · (have q0 := hS.cellOf u0
                have q1 := hS.cellOf u1
                have q2 := hS.cellOf u2
                have q3 := hS.cellOf y2
                clear hS
                unfold takesAt; go_simp; rfl)
             go_simp
             refine hK _ ?_
             clear hK K))
        refine sch_doK rfl rfl (fun K hK => ?_)
        go_simp
        refine hK _ _ ((HK.out.alloc _).drew) ?_
        clear hK K
        refine sch_doK rfl rfl (fun K hK => ?_)
        refine wp_append_sl _ s4sT (.tmp 30) (.tmp 50) rfl w1.heap.size _ i ((sitesS (S.take i)).flatMap s4C) rfl ((World.ownsRow.alloc HO.out (.cells #[.string on, .string od, .string orr] 75)).drew) _ 1 [.string on, .string od, .string orr] rfl (Sl.made_at (Blk.drew (Blk.new wr 75 #[.string on, .string od, .string orr])) _ rfl rfl one_max) (by simp [Value.oneCell']) ?c1 ?c2 ?_
        case c1 => omega
        case c2 => simp; omega
        intro v' w5 hap
        have hk5 := hap.below ((World.ownsRow.alloc HO.out (.cells #[.string on, .string od, .string orr] 75)).drew) ((HK.out.alloc (.cells #[.string on, .string od, .string orr] 75)).drew) (Nat.le_refl _)
        have HK5 := Lib.hid hk5
        have HO5 := Lib.hid hap.own
        refine hK _ _ hk5 ?_
        clear hK K hk5 hap
        repeat (first
          | (refine sch_takeE rfl rfl ?_
             apply Exists.intro
             refine ⟨fun w' hS => ?_, fun K hK => ?_⟩
             · (clear hS
                unfold takesAt; go_simp; rfl)
             go_simp
             refine hK _ ?_
             clear hK K))
        refine sch_nil (NoPanic.normal ?_)
        clear u0 u1 u2 x2
        go_wp2
        go_roundg (n - (i + 1))
        case measure => have := HIJ.out; omega
        case rel => exact ⟨i + 1, by have := HIJ.out; omega, by go_num, by rw [HNX.out]; exact HO5.out, HK5.out⟩
      · obtain rfl : i = n := by omega
        have hs7 := Sl.of_own hown
        rw [List.take_of_length_le (Nat.le_of_eq HSN.out)] at hs7
        have hze : (sitesS S).length = i := by unfold sitesS; rw [List.length_map]; exact HSN.out
        rw [← hze] at hs7
        obtain ⟨A7, c7, rfl, -, -⟩ := hs7.shape
        have HS7 := Lib.hid hs7
        have HZE := Lib.hid hze
        have HFr := Lib.hid (HFZ.out.keptNone (HKK1.out.trans hk fun _ _ e => e))
        clear hij hown hk hs7 hze HO y2
        go_wp2_with fail
        go_at_call 30
        refine (r4Network_in (L := sitesS S) (fs := fs) HS7.out (by rw [HFL.out]; exact HFr.out) (ringW_nodup S t) (HW3.out _ HK.out) (by have := HZE.out; omega) (by rw [HFL.out]; exact hfs) (Nat.le_trans HWL.out (by decide))).mono ?_
        rintro e w3 ⟨hk3, ⟨h1, rfl⟩ | ⟨h1, -, v9, n9, rfl, hs9⟩⟩
        · have FIN : Hid (TextsTold w (replP S k fs t) (.returned (.slice none 0 0)) w3) := Lib.hid (by
            have h2 : replP S k fs t = [] := repl_dup (by rw [HFL.out]; exact h0) (h1.resolve_right fun ⟨x, hx, e⟩ => by
              obtain ⟨s, hs⟩ := ringW_site (S := S) (t := t) x hx
              rw [e] at hs; cases hs)
            refine ⟨none, 0, 0, rfl, by rw [h2]; rfl, by rw [h2]; exact Sl.nil _ _ _, ((HKZ.out.trans HKK1.out fun _ _ e => e).trans HK.out fun _ _ e => e).trans hk3 fun _ _ e => e⟩)
          clear hk3 h1 x2
          go_wp2_with fail
          go_ret
          exact FIN.out
        · obtain ⟨A9, c9, rfl, -, -⟩ := hs9.shape
          have FIN : Hid (TextsTold w (replP S k fs t) (.returned (.slice A9 n9 c9)) w3) := Lib.hid (by
            have h2 : replP S k fs t = refOut (sitesOfL (sitesS S) (ringW S t)) fs := repl_net (by rw [HFL.out]; exact h0) h1
            have h3 := hs9.len
            rw [List.length_map, Nat.mul_one] at h3
            refine ⟨A9, n9, c9, rfl, by rw [h2]; exact h3.symm, by rw [h2]; exact hs9, ((HKZ.out.trans HKK1.out fun _ _ e => e).trans HK.out fun _ _ e => e).trans hk3 fun _ _ e => e⟩)
          clear hk3 h1 hs9 x2
          go_wp2_with fail
          go_ret
          exact FIN.out
end Go.Proofs.YtepikngkbondgaaGreat
namespace Go.Proofs.YtepikngkbondgaaGreat
set_option linter.unusedVariables false
open Go.RowKit
open Go.ChangeMaps (setBlock)

def farL' (dc : ByteArray) (rem : Int) (S : List Ho) (d : Int) (i : Nat) : List ByteArray := ((S.take i).filter fun o => decide (distP dc rem S o.name = d)).map (·.name)
theorem farL'_all {dc : ByteArray} {rem d : Int} {S : List Ho} {i : Nat} (h : S.length = i) : farL' dc rem S d i = farL dc rem S d := by
  unfold farL' farL
  rw [List.take_of_length_le (Nat.le_of_eq h)]
theorem farI_step {dc : ByteArray} {rem d : Int} {S : List Ho} {i : Nat} {o : Ho} (h : S[i]? = some o) : farL' dc rem S d (i + 1) = farL' dc rem S d i ++ (if distP dc rem S o.name = d then [o.name] else []) := by
  unfold farL'
  rw [List.take_add_one, h, List.filter_append, List.map_append]
  by_cases e : distP dc rem S o.name = d <;> simp [e]
theorem turn_facts {tn k m : Nat} (hk : 0 < k) (hk2 : k ≤ 20) : ∃ r q : Nat, r < k ∧ q < k ∧ Hid ((tn % k + m) % k = q) ∧ (∀ b : Int, b = k → (tn : Int) % b = (r : Int)) ∧ (∀ a b : Int, a = (r : Int) + (m : Int) → b = k → a % b = (q : Int)) ∧ wrap64 (r : Int) = (r : Int) := by
  have hr : tn % k < k := Nat.mod_lt _ hk
  refine ⟨tn % k, (tn % k + m) % k, hr, Nat.mod_lt _ hk, Lib.hid rfl, fun b e => by rw [e]; exact (Int.natCast_emod tn k).symm, fun a b e e2 => by rw [e, e2, Int.natCast_emod (tn % k + m) k, Int.natCast_add], ?_⟩
  generalize tn % k = r at hr
  unfold wrap64; omega
set_option maxHeartbeats 4000000 in
set_option maxRecDepth 100000 in
theorem R19far_at {w : World} {ok : Nat → Prop} {dc : ByteArray} {rem d : Int} {A : Option Addr} {n c tn : Nat} {l : List HV} {S : List Ho} (h : RL w ok A n c l S) (hok : HoOk S 20 20) (htn : tn < 18446744073709551616) :
    Calls Tryz.prog 34 #[.agg #[.string dc, .int .i64 rem, .slice A n c], .int .i64 d, .int .u64 (tn : Int)] w (TextsTold w (turnL (farL dc rem S d) tn)) := by
  have hbz : Blk (w.alloc (.cells #[.string dc, .int .i64 rem, .slice A n c] 32)) w.heap.size 32 #[.string dc, .int .i64 rem, .slice A n c] := Blk.new _ _ _
  have hkz : Kept noBlock w (w.alloc (.cells #[.string dc, .int .i64 rem, .slice A n c] 32)) := (Kept.refl _ _).alloc _
  have HBZ := Lib.hid hbz
  have HKZ := Lib.hid hkz
  have HZ := Lib.hid (h.keptN hkz)
  have HOK := Lib.hid hok
  have HSN := Lib.hid h.2.1
  have hn20 : n ≤ 20 := by have := hok.len; have := h.2.1; omega
  have z0 := hbz.cell 0
  have z1 := hbz.cell 1
  have z2 := hbz.cell 2
  simp only [List.getElem?_toArray, List.getElem?_cons_succ, List.getElem?_cons_zero] at z0 z1 z2
  clear hbz hkz h hok
  go_enter Tryz.func34, Tryz.ntmps34
  go_wp2_with fail
  generalize w.alloc (.cells #[.string dc, .int .i64 rem, .slice A n c] 32) = wz at *
  generalize w.heap.size = bz at *
  go_loopg [7, 8] n (fun j vs vi wr => ∃ (i : Nat) (A7 : Option Addr) (k7 c7 : Nat), i + j = n ∧ vi = .int .i64 i ∧ vs = .slice A7 k7 c7 ∧ wr.ownsRow wz.heap.size 9 1 (.slice A7 k7 c7) k7 ((farL' dc rem S d i).map Value.string) ∧ Kept noBlock wz wr ∧ k7 ≤ i)
  case atStart => exact ⟨0, none, 0, 0, by omega, rfl, rfl, World.ownsRow_nil _ _ _ _, Kept.refl _ _, Nat.le_refl _⟩
  case round =>
    obtain ⟨i, A7, k7, c7, hij, rfl, rfl, hown, hk, hk7⟩ := hrel
    have HIJ := Lib.hid hij
    have HO := Lib.hid hown
    have HK := Lib.hid hk
    have hzs := hk.size
    have x2 := hk.cellOf z2
    by_cases hi : i < n
    · obtain ⟨o, ho⟩ : ∃ o, S[i]? = some o := ⟨_, List.getElem?_eq_getElem (by have := HSN.out; omega)⟩
      obtain ⟨x, g, off, -, -, hidx, u0, u1, u2, -, -, -, -⟩ := HZ.out.at ho
      have HNX := Lib.hid (farI_step (dc := dc) (rem := rem) (d := d) ho)
      obtain ⟨on, od, orr, ot, ou⟩ := o
      simp only [] at u0 u1 u2 HNX
      clear hij hown hk ho
      go_wp2_with fail
      refine wp_region_sch (fun w' => Kept noBlock wz w') (.take 0 (.take 1 (.take 2 (.take 3 (.take 4 (.take 5 (.take 6 (.take 8 (.one 7 (.take 9 .nil)))))))))) (by kernel_rfl) (by kernel_rfl) (by kernel_rfl) HK.out.drew ?_
      repeat (first
        | (refine sch_takeE rfl rfl ?_
           apply Exists.intro
           refine ⟨fun w' hS => ?_, fun K hK => ?_⟩
           · (have q0 := hS.cellOf z0
              have q1 := hS.cellOf z1
              have q2 := hS.cellOf z2
              have q3 := hS.cellOf u0
              clear hS
              unfold takesAt; go_simp; rfl)
           go_simp
           refine hK _ ?_
           clear hK K))
      refine sch_doK rfl rfl (fun K hK => ?_)
      go_simp
      go_at_call 33
      refine (R18Dist_at dc rem (HZ.out.keptN HK.out.drew) HOK.out.ris (Nat.le_trans HOK.out.len (by decide)) on).mono ?_
      rintro e w1 ⟨rfl, hk1⟩
      have hkr1 : Kept noBlock wr w1 := ((Kept.refl noBlock wr).drew).trans hk1 fun _ _ e => e
      have hk1' := HK.out.trans hkr1 fun _ _ e => e
      refine hK _ _ hk1' ?_
      clear hK K
      have HK1 := Lib.hid hk1'
      have HO1 : Hid (w1.ownsRow wz.heap.size 9 1 (.slice A7 k7 c7) k7 ((farL' dc rem S d i).map Value.string)) := Lib.hid (own_keptB HO.out hkr1 fun _ _ e => e)
      have p2 := hk1'.cellOf z2
      have p0 := hk1'.cellOf u0
      have hs1 := hk1'.size
      clear hk1 hkr1 hk1' u1 u2 x2
      by_cases hd : distP dc rem S on = d
      · rw [if_pos hd] at HNX
        rw [hd]
        clear hd
        repeat (first
          | (refine sch_takeE rfl rfl ?_
             apply Exists.intro
             refine ⟨fun w' hS => ?_, fun K hK => ?_⟩
             · (clear hS
                unfold takesAt; go_simp; rfl)
             go_simp
             refine hK _ ?_
             clear hK K))
        refine sch_nil (NoPanic.normal ?_)
        clear u0
        go_wp2_with (at_builtin; go_must (refine wpList_append_sl _ strsT rfl (.tmp 28) (.tmp 35) rfl wz.heap.size _ k7 ((farL' dc rem S d i).map Value.string) rfl (HO1.out.alloc _) _ 1 [.string on] rfl (Sl.made_at (Blk.new _ 9 #[.string on]) _ rfl rfl one_max) (by simp [Value.oneCell']) ?c1 ?c2 ?_))
        case c1 => omega
        case c2 => simp; omega
        intro v' w5 hap
        obtain ⟨A5, c5, rfl, -, -⟩ := (Sl.of_own hap.own).shape
        have HK5 := Lib.hid (hap.below (HO1.out.alloc _) (HK1.out.alloc _) (Nat.le_refl _))
        have HO5 : Hid (w5.ownsRow wz.heap.size 9 1 (.slice A5 (k7 + 1) c5) (k7 + 1) ((farL' dc rem S d (i + 1)).map Value.string)) := Lib.hid (by rw [HNX.out, List.map_append]; exact hap.own)
        clear hap p2 p0
        go_wp2_with fail
        go_roundg (n - (i + 1))
        case measure => have := HIJ.out; omega
        case rel => exact ⟨i + 1, A5, k7 + 1, c5, by have := HIJ.out; omega, by go_num, rfl, HO5.out, HK5.out, by omega⟩
      · rw [if_neg hd, List.append_nil] at HNX
        have hde : (distP dc rem S on == d) = false := by simp [hd]
        generalize distP dc rem S on = dx at *
        clear hd
        repeat (first
          | (refine sch_takeE rfl rfl ?_
             apply Exists.intro
             refine ⟨fun w' hS => ?_, fun K hK => ?_⟩
             · (clear hS
                unfold takesAt; go_simp; rfl)
             go_simp
             refine hK _ ?_
             clear hK K))
        refine sch_nil (NoPanic.normal ?_)
        clear u0 p2 p0
        go_wp2_with fail
        go_roundg (n - (i + 1))
        case measure => have := HIJ.out; omega
        case rel => exact ⟨i + 1, A7, k7, c7, by have := HIJ.out; omega, by go_num, rfl, by rw [HNX.out]; exact HO1.out, HK1.out, by omega⟩
    · obtain rfl : i = n := by omega
      rw [farL'_all HSN.out] at hown
      have hfl : (farL dc rem S d).length = k7 := by have := hown.1; rw [List.length_map, Nat.mul_one] at this; exact this
      have HFL := Lib.hid hfl
      have HS7 := Lib.hid ((Sl.of_own hown).lo)
      have hln := (Sl.of_own hown).run_len strsT
      have hk20 : k7 ≤ 20 := by omega
      clear hij hown hk HO hfl hzs z0 z1 z2
      go_wp2_with fail
      clear x2
      obtain ⟨wq, rfl⟩ : ∃ wq : World, wq = wr := ⟨_, rfl⟩
      go_loopg [9, 10] k7 (fun j vs vi wr => ∃ m : Nat, m + j = k7 ∧ vi = .int .i64 m ∧ wr.ownsRow wq.heap.size 9 1 vs m (((turnL (farL dc rem S d) tn).take m).map Value.string) ∧ Kept noBlock wq wr)
      case atStart => exact ⟨0, by omega, rfl, World.ownsRow_nil _ _ _ _, Kept.refl _ _⟩
      case round =>
        obtain ⟨m, hmj, rfl, hown, hk⟩ := hrel
        have HMJ := Lib.hid hmj
        have HO := Lib.hid hown
        have HKm := Lib.hid hk
        have hzs := hk.size
        by_cases hm : m < k7
        · have hsz : ¬ (k7 : Int) = 0 := by omega
          have hwn : IntKind.u64.wrap (k7 : Int) = (k7 : Int) := by rw [IntKind.wrap_u64]; omega
          obtain ⟨r, q, hr, hq, hrq, hmod1, hmod2, hwk⟩ := turn_facts (tn := tn) (m := m) (k := k7) (by omega) hk20
          obtain ⟨x, hx⟩ : ∃ x, (turnL (farL dc rem S d) tn)[m]? = some x := ⟨_, List.getElem?_eq_getElem (by rw [turnL_len, HFL.out]; exact hm)⟩
          have hx2 : (farL dc rem S d)[q]? = some x := by rw [← hx, turnL_get (by rw [HFL.out]; exact hm), HFL.out, hrq.out]
          have HNX : Hid ((turnL (farL dc rem S d) tn).take (m + 1) = (turnL (farL dc rem S d) tn).take m ++ [x]) := Lib.hid (by rw [List.take_add_one, hx]; rfl)
          obtain ⟨g, off, hidx, -, cx⟩ := str_at (Lo.kept HS7.out hk fun _ _ e => e) hx2
          clear hmj hown hk hx hx2 hrq
          go_wp2_with (at_builtin; go_must (refine wpList_append_sl _ strsT rfl (.tmp 43) (.tmp 58) rfl wq.heap.size _ m (((turnL (farL dc rem S d) tn).take m).map Value.string) rfl (HO.out.alloc _) _ 1 [.string x] rfl (Sl.made_at (Blk.new _ 9 #[.string x]) _ rfl rfl one_max) (by simp [Value.oneCell']) ?c1 ?c2 ?_))
          case c1 => omega
          case c2 => simp; omega
          intro v' w5 hap
          have HK5 := Lib.hid (hap.below (HO.out.alloc _) (HKm.out.alloc _) (Nat.le_refl _))
          have HO5 : Hid (w5.ownsRow wq.heap.size 9 1 v' (m + 1) (((turnL (farL dc rem S d) tn).take (m + 1)).map Value.string)) := Lib.hid (by rw [HNX.out, List.map_append, List.map_take]; exact hap.own)
          clear hap
          go_wp2_with fail
          go_roundg (k7 - (m + 1))
          case measure => have := HMJ.out; omega
          case rel => exact ⟨m + 1, by have := HMJ.out; omega, by go_num, HO5.out, HK5.out⟩
        · obtain rfl : m = k7 := by omega
          rw [List.take_of_length_le (by rw [turnL_len]; exact Nat.le_of_eq HFL.out)] at hown
          obtain ⟨A9, c9, rfl, -, -⟩ := (Sl.of_own hown).shape
          have FIN : Hid (TextsTold w (turnL (farL dc rem S d) tn) (.returned (.slice A9 m c9)) wr) := Lib.hid ⟨A9, m, c9, rfl, by rw [turnL_len]; exact HFL.out.symm, Sl.of_own hown, (HKZ.out.trans HK.out fun _ _ e => e).trans hk fun _ _ e => e⟩
          clear hmj hown hk HO
          go_wp2_with fail
          go_ret
          exact FIN.out
end Go.Proofs.YtepikngkbondgaaGreat
namespace Go.Proofs.YtepikngkbondgaaGreat
set_option linter.unusedVariables false
open Go.RowKit
open Go.ChangeMaps (setBlock)

theorem filter_step {dc : ByteArray} {rem : Int} {S : List Ho} {R : List ByteArray} {i : Nat} {x : ByteArray} (h : R[i]? = some x) : (R.take (i + 1)).filter (fun x => decide (distP dc rem S x = 1)) = (R.take i).filter (fun x => decide (distP dc rem S x = 1)) ++ (if distP dc rem S x = 1 then [x] else []) := by
  rw [List.take_add_one, h, List.filter_append]
  by_cases e : distP dc rem S x = 1 <;> simp [e]
theorem all_known {dc : ByteArray} {rem k t : Int} {S : List Ho} {fs : List Fa} {routed : Bool} {tn : Nat} {x : ByteArray} (h : x ∈ allP dc rem S k fs routed t tn) : ∃ o, getS x S = some o := by
  refine dist_some (dc := dc) (rem := rem) ?_
  unfold allP at h
  rcases List.mem_append.1 h with h | h
  · rcases List.mem_append.1 h with h | h
    · cases routed
      · cases h
      · rw [if_pos rfl] at h
        have := of_decide_eq_true (List.mem_filter.1 h).2
        omega
    · have := far_dist x h; omega
  · have := far_dist x h; omega
theorem add_step (S : List Ho) {R : List ByteArray} {i : Nat} {x : ByteArray} (h : R[i]? = some x) : (R.take (i + 1)).foldl (addU S) [] = addU S ((R.take i).foldl (addU S) []) x := by
  rw [List.take_add_one, h, List.foldl_append]; rfl
theorem texts_one {L : List ByteArray} : ∀ u ∈ L.map Value.string, u.oneCell' = true := fun u hu => by obtain ⟨x, -, rfl⟩ := List.mem_map.1 hu; rfl
set_option maxHeartbeats 8000000 in
set_option maxRecDepth 100000 in
theorem R19Plan_at {w : World} {ok : Nat → Prop} {dc : ByteArray} {rem k t : Int} {A Af : Option Addr} {n c nf cf tn : Nat} {l : List HV} {S : List Ho} {fs : List Fa} {routed : Bool} {ok2 : Nat → TypeId → Prop} (h : RL w ok A n c l S) (hok : HoOk S 20 20) (hf : SlK w ok2 2 (.slice Af nf cf) nf (fs.flatMap fC)) (hfl : fs.length = nf) (hfs : nf ≤ 1000) (htn : tn < 18446744073709551616) (hrb : (replP S k fs t).length ≤ 40200) :
    Calls Tryz.prog 16 #[.agg #[.string dc, .int .i64 rem, .slice A n c], .int .i64 k, .slice Af nf cf, .bool routed, .int .i64 t, .int .u64 (tn : Int)] w (TextsTold w (planP dc rem S k fs routed t tn)) := by
  have hbz : Blk (w.alloc (.cells #[.string dc, .int .i64 rem, .slice A n c] 32)) w.heap.size 32 #[.string dc, .int .i64 rem, .slice A n c] := Blk.new _ _ _
  have hkz : Kept noBlock w (w.alloc (.cells #[.string dc, .int .i64 rem, .slice A n c] 32)) := (Kept.refl _ _).alloc _
  have HBZ := Lib.hid hbz
  have HKZ := Lib.hid hkz
  have HZ := Lib.hid (h.keptN hkz)
  have HFZ := Lib.hid (hf.keptNone hkz)
  have HFL := Lib.hid hfl
  have HOK := Lib.hid hok
  have HSN := Lib.hid h.2.1
  have HRB := Lib.hid hrb
  have hn20 : n ≤ 20 := by have := hok.len; have := h.2.1; omega
  have z0 := hbz.cell 0
  have z1 := hbz.cell 1
  have z2 := hbz.cell 2
  simp only [List.getElem?_toArray, List.getElem?_cons_succ, List.getElem?_cons_zero] at z0 z1 z2
  clear hbz hkz h hok hf hfl hrb
  go_enter Tryz.func16, Tryz.ntmps16
  go_upto_if 19 with (fail)
  generalize w.alloc (.cells #[.string dc, .int .i64 rem, .slice A n c] 32) = wz at *
  generalize w.heap.size = bz at *
  go_cut [13] (fun s13 wx => ∃ (A7 : Option Addr) (k7 c7 : Nat), s13 = .slice A7 k7 c7 ∧ wx.ownsRow wz.heap.size 9 1 (.slice A7 k7 c7) k7 ((if routed = true then (replP S k fs t).filter fun x => decide (distP dc rem S x = 1) else []).map Value.string) ∧ Kept noBlock wz wx ∧ k7 ≤ 40200)
  case first =>
    cases routed with
    | false =>
      go_wp2_with fail
      go_meet
      exact ⟨none, 0, 0, rfl, World.ownsRow_nil _ _ _ _, Kept.refl _ _, by decide⟩
    | true =>
      go_wp2_with fail
      go_at_call 13
      refine (R19Repl_at (t := t) HZ.out HOK.out HFZ.out HFL.out hfs).mono ?_
      rintro e w1 ⟨A2, n2, c2, rfl, hn2, hs2, hk2⟩
      have HS2 := Lib.hid hs2.lo
      have HK2 := Lib.hid hk2
      have hln2 := hs2.run_len strsT
      have hn2b : n2 ≤ 40200 := by rw [hn2]; exact HRB.out
      have HN2 := Lib.hid hn2
      clear hs2 hk2 hn2
      go_wp2_with fail
      generalize hRR : replP S k fs t = R at *
      clear hRR
      go_loopg [13, 15] n2 (fun j vs vi wr => ∃ (i : Nat) (A7 : Option Addr) (k7 c7 : Nat), i + j = n2 ∧ vi = .int .i64 i ∧ vs = .slice A7 k7 c7 ∧ wr.ownsRow w1.heap.size 9 1 (.slice A7 k7 c7) k7 (((R.take i).filter fun x => decide (distP dc rem S x = 1)).map Value.string) ∧ Kept noBlock w1 wr ∧ k7 ≤ i)
      case atStart => exact ⟨0, none, 0, 0, by omega, rfl, rfl, World.ownsRow_nil _ _ _ _, Kept.refl _ _, Nat.le_refl _⟩
      case round =>
        obtain ⟨i, A7, k7, c7, hij, rfl, rfl, hown, hk, hk7⟩ := hrel
        have HIJ := Lib.hid hij
        have HO := Lib.hid hown
        have HK := Lib.hid hk
        have hzs := hk.size
        by_cases hi : i < n2
        · obtain ⟨x, hx⟩ : ∃ x, R[i]? = some x := ⟨_, List.getElem?_eq_getElem (by have := HN2.out; omega)⟩
          have HNX := Lib.hid (filter_step (dc := dc) (rem := rem) (S := S) hx)
          obtain ⟨g, off, hidx, hgl, cx⟩ := str_at HS2.out hx
          have y0 := HK2.out.cellOf z0
          have y1 := HK2.out.cellOf z1
          have y2 := HK2.out.cellOf z2
          clear hij hown hk hx
          go_wp2_with fail
          refine wp_region_sch (fun w' => Kept noBlock w1 w') (.take 0 (.take 1 (.take 2 (.take 3 (.take 4 (.one 5 (.take 6 .nil))))))) (by kernel_rfl) (by kernel_rfl) (by kernel_rfl) HK.out.drew ?_
          repeat (first
            | (refine sch_takeE rfl rfl ?_
               apply Exists.intro
               refine ⟨fun w' hS => ?_, fun K hK => ?_⟩
               · (have q0 := hS.cellOf y0
                  have q1 := hS.cellOf y1
                  have q2 := hS.cellOf y2
                  have q3 := hS.cellOf cx
                  clear hS
                  unfold takesAt; go_simp; rfl)
               go_simp
               refine hK _ ?_
               clear hK K))
          refine sch_doK rfl rfl (fun K hK => ?_)
          go_simp
          go_at_call 33
          refine (R18Dist_at dc rem ((HZ.out.keptN HK2.out).keptN HK.out.drew) HOK.out.ris (Nat.le_trans HOK.out.len (by decide)) x).mono ?_
          rintro e w3 ⟨rfl, hk3⟩
          have hkr3 : Kept noBlock wr w3 := ((Kept.refl noBlock wr).drew).trans hk3 fun _ _ e => e
          have hk3' := HK.out.trans hkr3 fun _ _ e => e
          refine hK _ _ hk3' ?_
          clear hK K
          have HK3 := Lib.hid hk3'
          have HO3 : Hid (w3.ownsRow w1.heap.size 9 1 (.slice A7 k7 c7) k7 (((R.take i).filter fun x => decide (distP dc rem S x = 1)).map Value.string)) := Lib.hid (own_keptB HO.out hkr3 fun _ _ e => e)
          have p0 := hk3'.cellOf cx
          have hs3 := hk3'.size
          clear hk3 hkr3 hk3' y0 y1 y2 cx
          by_cases hd : distP dc rem S x = 1
          · rw [if_pos hd] at HNX
            rw [hd]
            clear hd
            repeat (first
              | (refine sch_takeE rfl rfl ?_
                 apply Exists.intro
                 refine ⟨fun w' hS => ?_, fun K hK => ?_⟩
                 · (clear hS
                    unfold takesAt; go_simp; rfl)
                 go_simp
                 refine hK _ ?_
                 clear hK K))
            refine sch_nil (NoPanic.normal ?_)
            go_wp2_with (at_builtin; go_must (refine wpList_append_sl _ strsT rfl (.tmp 38) (.tmp 43) rfl w1.heap.size _ k7 (((R.take i).filter fun x => decide (distP dc rem S x = 1)).map Value.string) rfl (HO3.out.alloc _) _ 1 [.string x] rfl (Sl.made_at (Blk.new _ 9 #[.string x]) _ rfl rfl one_max) (by simp [Value.oneCell']) ?c1 ?c2 ?_))
            case c1 => omega
            case c2 => simp; omega
            intro v' w5 hap
            obtain ⟨A5, c5, rfl, -, -⟩ := (Sl.of_own hap.own).shape
            have HK5 := Lib.hid (hap.below (HO3.out.alloc _) (HK3.out.alloc _) (Nat.le_refl _))
            have HO5 : Hid (w5.ownsRow w1.heap.size 9 1 (.slice A5 (k7 + 1) c5) (k7 + 1) (((R.take (i + 1)).filter fun x => decide (distP dc rem S x = 1)).map Value.string)) := Lib.hid (by rw [HNX.out, List.map_append]; exact hap.own)
            clear hap p0
            go_wp2_with fail
            go_roundg (n2 - (i + 1))
            case measure => have := HIJ.out; omega
            case rel => exact ⟨i + 1, A5, k7 + 1, c5, by have := HIJ.out; omega, by go_num, rfl, HO5.out, HK5.out, by omega⟩
          · rw [if_neg hd, List.append_nil] at HNX
            have hde : (distP dc rem S x == 1) = false := by simp [hd]
            have HOX : Hid (w3.ownsRow w1.heap.size 9 1 (.slice A7 k7 c7) k7 (((R.take (i + 1)).filter fun x => decide (distP dc rem S x = 1)).map Value.string)) := Lib.hid (by rw [HNX.out]; exact HO3.out)
            clear HO3 HNX HO
            generalize distP dc rem S x = dx at hde hd ⊢
            clear hd
            repeat (first
              | (refine sch_takeE rfl rfl ?_
                 apply Exists.intro
                 refine ⟨fun w' hS => ?_, fun K hK => ?_⟩
                 · (clear hS
                    unfold takesAt; go_simp; rfl)
                 go_simp
                 refine hK _ ?_
                 clear hK K))
            refine sch_nil (NoPanic.normal ?_)
            clear p0
            go_wp2_with fail
            go_roundg (n2 - (i + 1))
            case measure => have := HIJ.out; omega
            case rel => exact ⟨i + 1, A7, k7, c7, by have := HIJ.out; omega, by go_num, rfl, HOX.out, HK3.out, by omega⟩
        · obtain rfl : i = n2 := by omega
          rw [List.take_of_length_le (Nat.le_of_eq HN2.out.symm)] at hown
          have FIN : Hid (∃ (A8 : Option Addr) (k8 c8 : Nat), Value.slice A7 k7 c7 = .slice A8 k8 c8 ∧ wr.ownsRow wz.heap.size 9 1 (.slice A8 k8 c8) k8 ((R.filter fun x => decide (distP dc rem S x = 1)).map Value.string) ∧ Kept noBlock wz wr ∧ k8 ≤ 40200) := Lib.hid ⟨A7, k7, c7, rfl, own_base hown HK2.out.size, HK2.out.trans hk fun _ _ e => e, by omega⟩
          clear hij hown hk HO HK
          go_wp2_with fail
          go_meet
          exact FIN.out
  case rest =>
    obtain ⟨A7, k7, c7, rfl, hown, hk, hk7⟩ := hcut
    obtain ⟨L0, hL0⟩ : ∃ L0, L0 = (if routed = true then (replP S k fs t).filter fun x => decide (distP dc rem S x = 1) else []) := ⟨_, rfl⟩
    rw [← hL0] at hown
    have HL0 := Lib.hid hL0
    clear hL0
    have HO7 := Lib.hid hown
    have HK7 := Lib.hid hk
    have y0 := hk.cellOf z0
    have y1 := hk.cellOf z1
    have y2 := hk.cellOf z2
    have hFL20 : ∀ d : Int, (farL dc rem S d).length ≤ 20 := fun d => by
      unfold farL
      rw [List.length_map]
      exact Nat.le_trans (List.length_filter_le _ _) HOK.out.len
    have HFB := Lib.hid hFL20
    clear hown hk hFL20
    go_wp2_with fail
    go_at_call 34
    refine (R19far_at (d := 1) (HZ.out.keptN HK7.out) HOK.out htn).mono ?_
    rintro e w8 ⟨A8, n8, c8, rfl, hn8, hs8, hk8⟩
    have hkz8 := HK7.out.trans hk8 fun _ _ e => e
    have HO8 : Hid (w8.ownsRow wz.heap.size 9 1 (.slice A7 k7 c7) k7 (L0.map Value.string)) := Lib.hid (own_keptB HO7.out hk8 fun _ _ e => e)
    have HS8 := Lib.hid hs8
    have HK8 := Lib.hid hkz8
    have hzs8 := hkz8.size
    have hn8b : n8 ≤ 20 := by rw [hn8, turnL_len]; exact HFB.out 1
    clear hs8 hk8 hn8 hkz8 y0 y1 y2 HO7
    go_wp2_with (at_builtin; go_must (refine wpList_append_sl _ strsT rfl (.tmp 45) (.tmp 48) rfl wz.heap.size _ k7 (L0.map Value.string) rfl HO8.out _ n8 ((turnL (farL dc rem S 1) tn).map Value.string) rfl HS8.out texts_one ?c1 ?c2 ?_))
    case c1 => omega
    case c2 => omega
    intro v' w9 hap
    obtain ⟨A9, c9, rfl, -, -⟩ := (Sl.of_own hap.own).shape
    have hk9 := hap.below HO8.out HK8.out (Nat.le_refl _)
    have HO9 : Hid (w9.ownsRow wz.heap.size 9 1 (.slice A9 (k7 + n8) c9) (k7 + n8) ((L0 ++ turnL (farL dc rem S 1) tn).map Value.string)) := Lib.hid (by rw [List.map_append]; exact hap.own)
    have y0 := hk9.cellOf z0
    have y1 := hk9.cellOf z1
    have y2 := hk9.cellOf z2
    have HK9 := Lib.hid hk9
    clear hap hk9 HO8 HS8 HK8 hzs8
    generalize hK9 : k7 + n8 = k9 at *
    have hk9b : k9 ≤ 40220 := by omega
    clear hK9
    go_wp2_with fail
    go_at_call 34
    refine (R19far_at (d := 2) (HZ.out.keptN HK9.out) HOK.out htn).mono ?_
    rintro e w10 ⟨A10, n10, c10, rfl, hn10, hs10, hk10⟩
    have hkz10 := HK9.out.trans hk10 fun _ _ e => e
    have HO10 : Hid (w10.ownsRow wz.heap.size 9 1 (.slice A9 k9 c9) k9 ((L0 ++ turnL (farL dc rem S 1) tn).map Value.string)) := Lib.hid (own_keptB HO9.out hk10 fun _ _ e => e)
    have HS10 := Lib.hid hs10
    have HK10 := Lib.hid hkz10
    have hzs10 := hkz10.size
    have hn10b : n10 ≤ 20 := by rw [hn10, turnL_len]; exact HFB.out 2
    clear hs10 hk10 hn10 hkz10 y0 y1 y2 HO9
    go_wp2_with (at_builtin; go_must (refine wpList_append_sl _ strsT rfl (.tmp 50) (.tmp 53) rfl wz.heap.size _ k9 ((L0 ++ turnL (farL dc rem S 1) tn).map Value.string) rfl HO10.out _ n10 ((turnL (farL dc rem S 2) tn).map Value.string) rfl HS10.out texts_one ?d1 ?d2 ?_))
    case d1 => omega
    case d2 => omega
    intro v' w11 hap
    obtain ⟨A11, c11, rfl, -, -⟩ := (Sl.of_own hap.own).shape
    have hk11 := hap.below HO10.out HK10.out (Nat.le_refl _)
    have HO11 : Hid (w11.ownsRow wz.heap.size 9 1 (.slice A11 (k9 + n10) c11) (k9 + n10) ((allP dc rem S k fs routed t tn).map Value.string)) := Lib.hid (by
      have e : allP dc rem S k fs routed t tn = L0 ++ turnL (farL dc rem S 1) tn ++ turnL (farL dc rem S 2) tn := by rw [HL0.out]; rfl
      rw [e, List.map_append, List.map_append, List.append_assoc]; exact hap.own)
    have HK11 := Lib.hid hk11
    clear hap hk11 HO10 HS10 HK10 hzs10
    generalize hK11 : k9 + n10 = k11 at *
    have hk11b : k11 ≤ 40240 := by omega
    clear hK11
    have HLA : Hid ((allP dc rem S k fs routed t tn).length = k11) := Lib.hid (by have := HO11.out.1; rw [List.length_map, Nat.mul_one] at this; exact this)
    have HSA := Lib.hid (Sl.of_own HO11.out).lo
    have hlA := (Sl.of_own HO11.out).run_len strsT
    have HKN : Hid (∀ x ∈ allP dc rem S k fs routed t tn, ∃ o, getS x S = some o) := Lib.hid fun x hx => all_known hx
    have HPR := Lib.hid (plan_ref (dc := dc) (rem := rem) (S := S) k fs routed t tn)
    generalize allP dc rem S k fs routed t tn = R at *
    clear HO11 HL0
    go_wp2_with fail
    go_loopg [16, 17] k11 (fun j vs vi wr => ∃ (i : Nat) (A6 : Option Addr) (k6 c6 : Nat), i + j = k11 ∧ vi = .int .i64 i ∧ vs = .slice A6 k6 c6 ∧ wr.ownsRow w11.heap.size 9 1 (.slice A6 k6 c6) k6 (((R.take i).foldl (addU S) []).map Value.string) ∧ Kept noBlock w11 wr ∧ k6 ≤ i)
    case atStart => exact ⟨0, none, 0, 0, by omega, rfl, rfl, World.ownsRow_nil _ _ _ _, Kept.refl _ _, Nat.le_refl _⟩
    case round =>
      obtain ⟨i, A6, k6, c6, hij, rfl, rfl, hown, hk, hk6⟩ := hrel
      have HIJ := Lib.hid hij
      have HO := Lib.hid hown
      have HK := Lib.hid hk
      have hzs := hk.size
      by_cases hi : i < k11
      · obtain ⟨x, hx⟩ : ∃ x, R[i]? = some x := ⟨_, List.getElem?_eq_getElem (by have := HLA.out; omega)⟩
        obtain ⟨o, hgo⟩ := HKN.out x (List.mem_of_getElem? hx)
        obtain ⟨hv, hfl2, hso⟩ := findV_some hgo
        obtain ⟨xh, gh, oh, -, -, hidh, -, -, -, -, u4, -, -⟩ := (HZ.out.keptN HK11.out).at hso
        have HNX := Lib.hid (add_step S hx)
        have hup : upS S x = o.up := by unfold upS; rw [hgo]
        have HUP := Lib.hid hup
        obtain ⟨g, off, hidx, hgl, cx⟩ := str_at HSA.out hx
        have y2 := HK11.out.cellOf z2
        have HF : Hid (∀ W, Kept noBlock w11 W → Calls Tryz.prog 35 #[.slice A n c, .string x] W fun e w' => e = .returned (.int .i64 (findI S x)) ∧ W = w') := Lib.hid fun W hW => by have := R18find_at ((HZ.out.keptN HK11.out).keptN hW) x; rwa [hv] at this
        have hfn : findI S x < n := by have := HSN.out; omega
        obtain ⟨o1, o2, o3, o4, ou⟩ := o
        simp only [] at u4 HUP
        clear hij hown hk hx hgo hv hfl2 hso hup
        generalize findI S x = at_ at *
        generalize hOO : (R.take i).foldl (addU S) [] = O at *
        have hOl : O.length = k6 := by have := HO.out.1; rw [List.length_map, Nat.mul_one] at this; exact this
        have HOL := Lib.hid hOl
        clear hOO hOl
        go_wp2_with fail
        refine wp_region_sch (fun w' => Kept noBlock w11 w') (.take 0 (.take 1 (.take 2 (.take 3 (.take 4 (.take 5 (.one 6 (.take 7 .nil)))))))) (by kernel_rfl) (by kernel_rfl) (by kernel_rfl) HK.out.drew ?_
        repeat (first
          | (refine sch_takeE rfl rfl ?_
             apply Exists.intro
             refine ⟨fun w' hS => ?_, fun K hK => ?_⟩
             · (have q2 := hS.cellOf y2
                have q3 := hS.cellOf cx
                clear hS
                unfold takesAt; go_simp; rfl)
             go_simp
             refine hK _ ?_
             clear hK K))
        refine sch_doK rfl rfl (fun K hK => ?_)
        go_simp
        go_at_call 35
        refine (HF.out _ HK.out.drew).mono ?_
        rintro e w12 ⟨rfl, rfl⟩
        refine hK _ _ HK.out.drew ?_
        clear hK K
        have p2 := HK.out.drew.cellOf y2
        have p3 := HK.out.drew.cellOf cx
        have p4 := HK.out.drew.cellOf u4
        have HOD := Lib.hid (HO.out.drew)
        have HKD := Lib.hid HK.out.drew
        repeat (first
          | (refine sch_takeE rfl rfl ?_
             apply Exists.intro
             refine ⟨fun w' hS => ?_, fun K hK => ?_⟩
             · (clear hS
                unfold takesAt; go_simp; rfl)
             go_simp
             refine hK _ ?_
             clear hK K))
        refine sch_nil (NoPanic.normal ?_)
        have hsD : w11.heap.size ≤ wr.drew.heap.size := HKD.out.size
        clear y2 cx u4 HO HK hzs
        generalize wr.drew = wd at *
        cases ou with
        | false =>
          have HAD : Hid (addU S O x = O) := Lib.hid (by unfold addU; rw [HUP.out, if_neg fun e => by cases e.1])
          go_wp2_with fail
          go_roundg (k11 - (i + 1))
          case measure => have := HIJ.out; omega
          case rel => exact ⟨i + 1, A6, k6, c6, by have := HIJ.out; omega, by go_num, rfl, by rw [HNX.out, HAD.out]; exact HOD.out, HKD.out, by omega⟩
        | true =>
          go_wp2_with fail
          go_at_call 18
          refine (R3Has_at (l := O) (s := x) (by rw [HOL.out]; exact Sl.of_own HOD.out) (by have := HOL.out; omega)).mono ?_
          rintro e w13 ⟨rfl, rfl⟩
          cases hh : has O x with
          | true =>
            have HAD : Hid (addU S O x = O) := Lib.hid (by unfold addU; rw [hh, if_neg fun e => by cases e.2])
            clear hh
            go_wp2_with fail
            go_roundg (k11 - (i + 1))
            case measure => have := HIJ.out; omega
            case rel => exact ⟨i + 1, A6, k6, c6, by have := HIJ.out; omega, by go_num, rfl, by rw [HNX.out, HAD.out]; exact HOD.out, HKD.out, by omega⟩
          | false =>
            have HAD : Hid (addU S O x = O ++ [x]) := Lib.hid (by unfold addU; rw [hh, HUP.out, if_pos ⟨rfl, rfl⟩])
            clear hh
            go_wp2_with (at_builtin; go_must (refine wpList_append_sl _ strsT rfl (.tmp 83) (.tmp 88) rfl w11.heap.size _ k6 (O.map Value.string) rfl (HOD.out.alloc _) _ 1 [.string x] rfl (Sl.made_at (Blk.new _ 9 #[.string x]) _ rfl rfl one_max) (by simp [Value.oneCell']) ?e1 ?e2 ?_))
            case e1 => omega
            case e2 => simp; omega
            intro v' w14 hap
            obtain ⟨A14, c14, rfl, -, -⟩ := (Sl.of_own hap.own).shape
            have HK14 := Lib.hid (hap.below (HOD.out.alloc _) (HKD.out.alloc _) (Nat.le_refl _))
            have HO14 : Hid (w14.ownsRow w11.heap.size 9 1 (.slice A14 (k6 + 1) c14) (k6 + 1) (((R.take (i + 1)).foldl (addU S) []).map Value.string)) := Lib.hid (by rw [HNX.out, HAD.out, List.map_append]; exact hap.own)
            clear hap p2 p3 p4
            go_wp2_with fail
            go_roundg (k11 - (i + 1))
            case measure => have := HIJ.out; omega
            case rel => exact ⟨i + 1, A14, k6 + 1, c14, by have := HIJ.out; omega, by go_num, rfl, HO14.out, HK14.out, by omega⟩
      · obtain rfl : i = k11 := by omega
        rw [List.take_of_length_le (Nat.le_of_eq HLA.out), HPR.out] at hown
        have FIN : Hid (TextsTold w (planP dc rem S k fs routed t tn) (.returned (.slice A6 k6 c6)) wr) := Lib.hid ⟨A6, k6, c6, rfl, by have := hown.1; rw [List.length_map, Nat.mul_one] at this; exact this.symm, Sl.of_own hown, (HKZ.out.trans HK11.out fun _ _ e => e).trans hk fun _ _ e => e⟩
        clear hij hown hk HO HK
        go_wp2_with fail
        go_ret
        exact FIN.out
end Go.Proofs.YtepikngkbondgaaGreat
namespace Go.Proofs.YtepikngkbondgaaGreat
set_option linter.unusedVariables false
open Go.RowKit
open Go.ChangeMaps (setBlock)

theorem SlK.appendedT {w w' : World} {ok : Nat → TypeId → Prop} {base : Nat} {e : TypeId} {sz k n : Nat} {v v' : Value} {xs ys : List Value} {sz' n' : Nat} {u : Value} {zs : List Value} (hs : SlK w ok sz' u n' zs) (h : Appended w w' base e sz v v' k xs) (ho : w.ownsRow base e sz v n ys) (hne : ∀ g e', ok g e' → e' ≠ e) : SlK w' ok sz' u n' zs :=
  hs.keep fun g cs e' fz he hg => (h.kept.block g (lt_of_heap hg) (fun hv => by
    obtain ⟨_, cs', hh⟩ := own_type ho hv
    rw [hh] at hg
    injection hg with hg
    injection hg with _ h2
    exact hne g e' he h2.symm)).trans hg
/-- Hosts told so far. -/
def HofR (w : World) (l : List HV) (i : Nat) (va : Value) (wr : World) : Prop :=
  ∃ T : List HV, T.map HV.abs = (l.take i).map HV.abs ∧ T.length = i ∧ wr.ownsRow w.heap.size 74 5 va i (T.flatMap hvC) ∧ (∀ x ∈ T, SlK wr (fun k e => w.heap.size ≤ k ∧ e = 2) 1 (.slice x.ta x.tn x.tc) x.tn (x.toks.map (Value.int .i64))) ∧ Kept noBlock w wr
set_option maxHeartbeats 8000000 in
set_option maxRecDepth 100000 in
theorem hof_at {w : World} {okH ok1 : Nat → TypeId → Prop} {A : Option Addr} {n c : Nat} {l : List HV} (h : SlK w okH 5 (.slice A n c) n (l.flatMap hvC)) (hl : l.length = n) (hn : n ≤ 100000) (ht : ∀ x ∈ l, x.toks.length ≤ 1000000 ∧ SlK w ok1 1 (.slice x.ta x.tn x.tc) x.tn (x.toks.map (Value.int .i64))) :
    Calls Tryz.prog 24 #[.slice A n c] w fun e w' => ∃ A' c' l', e = .returned (.slice A' n c') ∧ RL w' (fun k => w.heap.size ≤ k) A' n c' l' (l.map HV.abs) ∧ Kept noBlock w w' := by
  have H := Lib.hid h
  have HT := Lib.hid ht
  have HL := Lib.hid hl
  clear h ht hl
  go_enter Tryz.func24, Tryz.ntmps24
  go_wp2_with fail
  go_loopg [3, 4] n (fun j va vi wr => ∃ i : Nat, i + j = n ∧ vi = .int .i64 i ∧ HofR w l i va wr)
  case atStart => exact ⟨0, by omega, rfl, [], rfl, rfl, World.ownsRow_nil _ _ _ _, fun x hx => absurd hx List.not_mem_nil, Kept.refl _ _⟩
  case round =>
    obtain ⟨i, hij, rfl, T, hTa, hTl, hTo, hTt, hk⟩ := hrel
    have HIJ := Lib.hid hij
    have HK := Lib.hid hk
    have HTA := Lib.hid hTa
    have HTL := Lib.hid hTl
    have HTO := Lib.hid hTo
    have HTT := Lib.hid hTt
    by_cases hi : i < n
    · obtain ⟨x, hx⟩ : ∃ x, l[i]? = some x := ⟨_, List.getElem?_eq_getElem (by have := HL.out; omega)⟩
      obtain ⟨gr, off, hidx, y0, y1, y2, y3, y4⟩ : ∃ gr off, (∀ kd w', (Instr.indexAt 22 (.slice A n c) (.int kd (i : Int))).run Tryz.prog w' = .ok (.pointer (some ⟨gr, off, none⟩)) w') ∧
          w.cell? ⟨gr, off, none⟩ = some (.string x.name) ∧ w.cell? ⟨gr, off + 1, none⟩ = some (.string x.dc) ∧ w.cell? ⟨gr, off + 2, none⟩ = some (.string x.rack) ∧ w.cell? ⟨gr, off + 3, none⟩ = some (.slice x.ta x.tn x.tc) ∧ w.cell? ⟨gr, off + 4, none⟩ = some (.bool x.up) := by
        obtain ⟨gr, off, h1, _, _, h3⟩ := H.out.run_index hostsT (i := (i : Int)) (k := i) rfl hi
        refine ⟨gr, off, h1, h3 0 _ ?_, h3 1 _ ?_, h3 2 _ ?_, h3 3 _ ?_, h3 4 _ ?_⟩ <;> exact (flat_get (k := 5) (fun _ => rfl) l i _ x hx (by decide)).trans rfl
      obtain ⟨hx1, hx2⟩ := HT.out x (List.mem_of_getElem? hx)
      have hx2r := hx2.keptNone hk
      have hxl := hx2.len
      rw [List.length_map, Nat.mul_one] at hxl
      have hxn : x.tn ≤ 1000000 := by omega
      obtain ⟨x1, x2, x3, x4, x5, x6, x7, x8⟩ := x
      simp only [] at y0 y1 y2 y3 y4 hx2r hxl hxn
      have HXR := Lib.hid hx2r
      have HXL : Hid (x7.length = x5) := Lib.hid hxl
      have HTI : Hid ((l.take (i + 1)).map HV.abs = (l.take i).map HV.abs ++ [HV.abs ⟨x1, x2, x3, x4, x5, x6, x7, x8⟩]) := Lib.hid (by rw [List.take_add_one, hx, List.map_append]; rfl)
      have hzr := hk.size
      have y3r := hk.cellOf y3
      have HY0 := Lib.hid y0
      have HY1 := Lib.hid y1
      have HY2 := Lib.hid y2
      have HY4 := Lib.hid y4
      clear y0 y1 y2 y3 y4
      clear hij hk hTa hTl hTo hTt hx hx1 hx2 hx2r hxl
      go_wp2_with (at_builtin; go_must (refine wpList_append_sl _ i64sT rfl (.tmp 12) (.tmp 17) rfl w.heap.size _ 0 [] rfl (World.ownsRow_nil _ _ _ _) _ x5 (x7.map eI) rfl HXR.out (fun u hu => eI_one hu) ?c1 ?c2 ?_))
      case c1 => omega
      case c2 => exact hzr
      intro v' w3 hap
      have hk3 := hap.keptNil
      have hT3 := own_keptB HTO.out hk3 (fun _ _ e => e)
      have hown := hap.own
      obtain ⟨A', c', rfl, -, -⟩ := (Sl.of_own hown).shape
      have HX3 : Hid (SlK w3 (fun k e => w.heap.size ≤ k ∧ e = 2) 1 (.slice A' x5 c') x5 (x7.map (Value.int .i64))) := Lib.hid (SlK.of_ownB hown)
      have HT3 := Lib.hid hT3
      have HKW3 := Lib.hid (HK.out.trans hk3 fun _ _ e => e)
      have HTT3 := Lib.hid (fun x hx => (HTT.out x hx).keptNone hk3)
      have hz3 : w.heap.size ≤ w3.heap.size := HKW3.out.size
      clear hap hk3 hT3 y3r hown
      go_wp2_with fail
      refine wp_region_sch (fun w' => Kept noBlock w w') (.take 0 (.take 1 (.take 2 (.take 3 (.take 4 (.take 5 (.take 6 (.take 7 (.take 8 (.take 9 (.take 10 (.take 11 (.take 12 (.take 13 (.take 14 (.take 15 (.take 16 (.take 17 (.take 18 (.take 19 (.take 20 (.take 21 (.take 22 (.one 23 (.one 24 (.take 25 .nil)))))))))))))))))))))))))) (by kernel_rfl) (by kernel_rfl) (by kernel_rfl) HKW3.out.drew ?_
      repeat (first
        | (refine sch_takeE rfl rfl ?_
           apply Exists.intro
           refine ⟨fun w' hS => ?_, fun K hK => ?_⟩
           · (have q0 := hS.cellOf HY0.out
              have q1 := hS.cellOf HY1.out
              have q2 := hS.cellOf HY2.out
              have q4 := hS.cellOf HY4.out
              clear hS
              unfold takesAt; go_simp; rfl)
           go_simp
           refine hK _ ?_
           clear hK K))
      refine sch_doK rfl rfl (fun K hK => ?_)
      go_simp
      refine hK _ _ ((HKW3.out.alloc _).drew) ?_
      clear hK K
      refine sch_doK rfl rfl (fun K hK => ?_)
      refine wp_append_sl _ h18sT (.tmp 19) (.tmp 42) rfl w.heap.size _ i (T.flatMap hvC) rfl ((World.ownsRow.alloc HT3.out (.cells #[.string x1, .string x2, .string x3, .slice A' x5 c', .bool x8] 74)).drew) _ 1 [.string x1, .string x2, .string x3, .slice A' x5 c', .bool x8] rfl (Sl.made_at (Blk.drew (Blk.new w3 74 #[.string x1, .string x2, .string x3, .slice A' x5 c', .bool x8])) _ rfl rfl one_max) (by simp [Value.oneCell']) ?d1 ?d2 ?_
      case d1 => omega
      case d2 => simp; omega
      intro v5 w5 hap5
      have hrow0 := (World.ownsRow.alloc HT3.out (.cells #[.string x1, .string x2, .string x3, .slice A' x5 c', .bool x8] 74)).drew
      have hk5 := hap5.below hrow0 ((HKW3.out.alloc (.cells #[.string x1, .string x2, .string x3, .slice A' x5 c', .bool x8] 74)).drew) (Nat.le_refl _)
      have HR5 : Hid (HofR w l (i + 1) v5 w5) := Lib.hid (by
        refine ⟨T ++ [⟨x1, x2, x3, A', x5, c', x7, x8⟩], ?_, by rw [List.length_append, HTL.out]; rfl, ?_, fun y hy => ?_, hk5⟩
        · rw [HTI.out, List.map_append, HTA.out]; rfl
        · rw [List.flatMap_append]; simpa [hvC] using hap5.own
        · rcases List.mem_append.1 hy with hy | hy
          · exact (((HTT3.out y hy).alloc _).drew).appendedT hap5 hrow0 fun g e' ho => by rw [ho.2]; decide
          · simp only [List.mem_singleton] at hy
            subst hy
            exact ((HX3.out.alloc _).drew).appendedT hap5 hrow0 fun g e' ho => by rw [ho.2]; decide)
      refine hK _ _ hk5 ?_
      clear hK K hk5 hap5 hrow0
      repeat (first
        | (refine sch_takeE rfl rfl ?_
           apply Exists.intro
           refine ⟨fun w' hS => ?_, fun K hK => ?_⟩
           · (unfold takesAt; go_simp; rfl)
           go_simp
           refine hK _ ?_
           clear hK K))
      refine sch_nil (NoPanic.normal ?_)
      go_wp2_with fail
      go_roundg (n - (i + 1))
      case measure => have := HIJ.out; omega
      case rel => exact ⟨i + 1, by have := HIJ.out; omega, by go_num, HR5.out⟩
    · obtain rfl : i = n := by omega
      obtain ⟨A', c', rfl, -, -⟩ := (Sl.of_own hTo).shape
      have HF : Hid (RL wr (fun k => w.heap.size ≤ k) A' i c' T (l.map HV.abs)) := Lib.hid ⟨by rw [hTa, List.take_of_length_le (by have := HL.out; omega)], by rw [List.length_map]; exact HL.out, (SlK.of_ownB hTo).any fun k e _ h => h.1, fun x hx => (hTt x hx).any fun k e _ h => h.1⟩
      clear hij hk hTa hTl hTo hTt
      go_wp2_with fail
      go_ret
      exact ⟨A', c', T, rfl, HF.out, HK.out⟩
end Go.Proofs.YtepikngkbondgaaGreat

/- Chapter 18's reference: Ring (written by gen/r18.py). -/
import Derived.Test.YtjkmgpmknadhjaaGreatR18B
namespace Go.Proofs.YtjkmgpmknadhjaaGreat
set_option linter.unusedVariables false
open Go.RowKit
open Go.ChangeMaps (setBlock)

theorem p3sT : SlT Tryz.prog 47 55 (.agg #[.int .i64 0, .string noStr]) 2 24 := ⟨by kernel_rfl, by kernel_rfl, rfl, by decide, by decide⟩
theorem pC_take (O : List Pl) (t : Nat) : (O.flatMap pC).take (t * 2) = (O.take t).flatMap pC := by
  by_cases h : t ≤ O.length
  · conv => lhs; rw [← List.take_append_drop t O]
    rw [List.flatMap_append, List.take_left' (by rw [pC_len, List.length_take]; congr 1; omega)]
  · rw [List.take_of_length_le (by rw [pC_len]; omega), List.take_of_length_le (by omega)]
theorem pC_drop (O : List Pl) (t : Nat) : (O.flatMap pC).drop (t * 2) = (O.drop t).flatMap pC := by
  by_cases h : t ≤ O.length
  · conv => lhs; rw [← List.take_append_drop t O]
    rw [List.flatMap_append, List.drop_left' (by rw [pC_len, List.length_take]; congr 1; omega)]
  · rw [List.drop_eq_nil_of_le (by rw [pC_len]; omega), List.drop_eq_nil_of_le (by omega)]; rfl
theorem plAt_le (l : List Pl) (k : Int) : plAt l k ≤ l.length := List.findIdx_le_length
theorem plAt_lt {l : List Pl} {k : Int} {i : Nat} {p : Pl} (h : i < plAt l k) (hp : l[i]? = some p) : p.1 < k := by
  have h1 := List.not_of_lt_findIdx h
  rw [(List.getElem?_eq_some_iff.1 hp).2] at h1
  simpa using h1
theorem plAt_ge {l : List Pl} {k : Int} {p : Pl} (hp : l[plAt l k]? = some p) : ¬ p.1 < k := by
  obtain ⟨h1, h2⟩ := List.getElem?_eq_some_iff.1 hp
  have h3 := List.findIdx_getElem (w := h1)
  have h4 : (!decide ((l[plAt l k]).1 < k)) = true := h3
  rw [h2] at h4
  simpa using h4
theorem insP_len (P : List Pl) : (P.foldl insP []).length ≤ P.length := by
  have : ∀ (l out : List Pl), (l.foldl insP out).length ≤ out.length + l.length := by
    intro l
    induction l with
    | nil => intro out; simp
    | cons a l ih =>
      intro out
      rw [List.foldl_cons]
      have h1 := ih (insP out a)
      have h2 : (insP out a).length ≤ out.length + 1 := by
        unfold insP
        split
        · omega
        · have := plAt_le out a.1
          simp; omega
      simp only [List.length_cons]; omega
  simpa using this P []
set_option maxHeartbeats 8000000 in
set_option maxRecDepth 100000 in
theorem R18Ring_at {w : World} {ok : Nat → Prop} {A : Option Addr} {n c : Nat} {l : List HV} {S : List Ho} (dc : ByteArray) (rem : Int) (h : RL w ok A n c l S) (hP : (pairsH S).length ≤ 1000) :
    Calls Tryz.prog 15 #[.agg #[.string dc, .int .i64 rem, .slice A n c]] w fun e w' => ∃ A' k c', e = .returned (.slice A' k c') ∧ k = (refRing S).length ∧ SlK w' (fun b e => w.heap.size ≤ b ∧ e = 55) 2 (.slice A' k c') k ((refRing S).flatMap pC) ∧ Kept noBlock w w' := by
  have hb : Blk (w.alloc (.cells #[.string dc, .int .i64 rem, .slice A n c] 28)) w.heap.size 28 #[.string dc, .int .i64 rem, .slice A n c] := Blk.new _ _ _
  have H := Lib.hid (h.keptN ((Kept.refl noBlock w).alloc (.cells #[.string dc, .int .i64 rem, .slice A n c] 28)))
  have hSn := h.2.1
  have HSN := Lib.hid hSn
  have hn : n ≤ 9223372036854775807 := by obtain ⟨_, _, hv, h1, h2⟩ := h.2.2.1.shape; cases hv; unfold maxLen at h2; omega
  have HB := Lib.hid hb
  have HP := Lib.hid hP
  have HW0 := Lib.hid ((Kept.refl noBlock w).alloc (.cells #[.string dc, .int .i64 rem, .slice A n c] 28))
  have hz : (w.alloc (.cells #[.string dc, .int .i64 rem, .slice A n c] 28)).heap.size = w.heap.size + 1 := sz_alloc _ _
  have HZ := Lib.hid hz
  clear h hb hP hSn hz
  go_enter Tryz.func15, Tryz.ntmps15
  go_wp2_with fail
  generalize w.alloc (.cells #[.string dc, .int .i64 rem, .slice A n c] 28) = wb at *
  have HKB : Hid (∀ W, Kept noBlock wb W → Blk W w.heap.size 28 #[.string dc, .int .i64 rem, .slice A n c]) := Lib.hid fun W hW => HB.out.kept hW fun e => e
  go_loopg [3, 4] n (fun j vo vi wr => ∃ (i : Nat) (A' : Option Addr) (q c' : Nat) (O : List Pl), i + j = n ∧ vi = .int .i64 i ∧ vo = .slice A' q c' ∧ Hid (O = (pairsH (S.take i)).foldl insP []) ∧ O.length = q ∧ SlK wr (fun b e => w.heap.size ≤ b ∧ e = 55) 2 (.slice A' q c') q (O.flatMap pC) ∧ Kept noBlock wb wr)
  case atStart => exact ⟨0, none, 0, 0, [], by omega, rfl, rfl, Lib.hid rfl, rfl, SlK.nil _ _ _, Kept.refl _ _⟩
  case round =>
    obtain ⟨i, A', q, c', O, hij, rfl, rfl, HO, hOk, hO, hk⟩ := hrel
    subst hOk
    have HIJ := Lib.hid hij
    have HKr := Lib.hid hk
    have HOS := Lib.hid hO
    have b2 := (HKB.out wr hk).cell 2
    simp only [List.getElem?_toArray, List.getElem?_cons_succ, List.getElem?_cons_zero] at b2
    by_cases hi : i < n
    · obtain ⟨o, ho⟩ : ∃ o, S[i]? = some o := ⟨_, List.getElem?_eq_getElem (by have := HSN.out; omega)⟩
      have HOI := Lib.hid ho
      have HNX : Hid (pairsH (S.take (i + 1)) = pairsH (S.take i) ++ o.toks.map fun k => (k, o.name)) := Lib.hid (by rw [List.take_add_one, ho]; exact pairs_snoc _ _)
      have HPB : Hid ((pairsH (S.take i) ++ o.toks.map fun k => (k, o.name)).length ≤ 1000) := Lib.hid (by
        have h9 := HP.out
        rw [← List.take_append_drop (i + 1) S] at h9
        have : pairsH (S.take (i + 1) ++ S.drop (i + 1)) = pairsH (S.take (i + 1)) ++ pairsH (S.drop (i + 1)) := by unfold pairsH; rw [List.flatMap_append]
        rw [this, HNX.out, List.length_append] at h9
        omega)
      have hot : o.toks.length ≤ 1000 := by have := HPB.out; rw [List.length_append, List.length_map] at this; omega
      obtain ⟨wo, rfl⟩ : ∃ wo : World, wo = wr := ⟨_, rfl⟩
      clear hij hk hO ho
      go_wp2_with fail
      clear b2
      go_loopg [3, 5] o.toks.length (fun jj vo vk wr => ∃ (k : Nat) (A' : Option Addr) (q c' : Nat) (O : List Pl), k + jj = o.toks.length ∧ vk = .int .i64 k ∧ vo = .slice A' q c' ∧ Hid (O = (pairsH (S.take i) ++ (o.toks.take k).map fun k => (k, o.name)).foldl insP []) ∧ O.length = q ∧ SlK wr (fun b e => w.heap.size ≤ b ∧ e = 55) 2 (.slice A' q c') q (O.flatMap pC) ∧ Kept noBlock wb wr)
      case atStart => exact ⟨0, A', _, c', O, by omega, rfl, rfl, Lib.hid (by rw [List.take_zero, List.map_nil, List.append_nil]; exact HO.out), rfl, HOS.out, HKr.out⟩
      case round =>
        clear HO HOS HKr
        obtain ⟨k, A', q, c', O, hkk, rfl, rfl, HO, hOk, hO, hk⟩ := hrel
        subst hOk
        have HKK := Lib.hid hkk
        have HKr := Lib.hid hk
        have HOS := Lib.hid hO
        have b2 := (HKB.out wr hk).cell 2
        simp only [List.getElem?_toArray, List.getElem?_cons_succ, List.getElem?_cons_zero] at b2
        obtain ⟨y, gi, oi, -, -, hidx, z0, -, -, z3, -, hyn, hts⟩ := (H.out.keptN hk).at HOI.out
        rw [hyn] at z3 hts
        have HZ0 := Lib.hid z0
        have HC2 := Lib.hid b2
        by_cases hj : k < o.toks.length
        · obtain ⟨x, hx⟩ : ∃ x, o.toks[k]? = some x := ⟨_, List.getElem?_eq_getElem hj⟩
          obtain ⟨gx, ox, hidt, ct⟩ := tok_at hts hx
          have HTK : Hid (pairsH (S.take i) ++ (o.toks.take (k + 1)).map (fun k => (k, o.name)) = (pairsH (S.take i) ++ (o.toks.take k).map fun k => (k, o.name)) ++ [(x, o.name)]) := Lib.hid (by rw [List.take_add_one, hx, List.map_append, ← List.append_assoc]; rfl)
          have HOL : Hid (O.length ≤ 1000) := Lib.hid (by
            rw [HO.out]
            refine Nat.le_trans (insP_len _) (Nat.le_trans ?_ HPB.out)
            rw [List.length_append, List.length_append, List.length_map, List.length_map, List.length_take]
            omega)
          have hpl := plAt_le O x
          have HLT : Hid (∀ a, a < plAt O x → ∃ y, O[a]? = some y ∧ y.1 < x) := Lib.hid fun a ha => ⟨_, List.getElem?_eq_getElem (by omega), plAt_lt ha (List.getElem?_eq_getElem (by omega))⟩
          have HAT : Hid (plAt O x < O.length → ∃ y, O[plAt O x]? = some y ∧ ¬ y.1 < x) := Lib.hid fun h => ⟨_, List.getElem?_eq_getElem h, plAt_ge (List.getElem?_eq_getElem h)⟩
          have HIN : Hid (insP O (x, o.name) = if (O[plAt O x]?).map (·.1) = some x then O else O.take (plAt O x) ++ (x, o.name) :: O.drop (plAt O x)) := Lib.hid rfl
          have HPL := Lib.hid hpl
          clear hkk hk hx hO hts hyn
          generalize plAt O x = t at *
          go_wp2_with fail
          clear z3 ct hidt
          go_loopg [7] t (fun q va wx => ∃ a : Nat, a + q = t ∧ va = .int .i64 a ∧ wx = wr)
          case atStart => exact ⟨0, by omega, rfl, rfl⟩
          case round =>
            obtain ⟨a, haq, rfl, rfl⟩ := hrel
            have HAQ := Lib.hid haq
            clear haq
            by_cases hat : a < t
            · have HATA := Lib.hid hat
              obtain ⟨y, hy, hyx⟩ := HLT.out a hat
              obtain ⟨gy, oy, hidy, -, cy, -⟩ := p_at HOS.out p3sT hy
              have hal2 : a < O.length := by have := HPL.out; omega
              have hal3 : a ≤ 1000000 := by have := HOL.out; omega
              clear hy
              go_wp2_with fail
              go_roundg (t - (a + 1))
              case measure => have := HAQ.out; omega
              case rel => exact ⟨a + 1, by have := HAQ.out; have := HATA.out; omega, by go_num, rfl⟩
            · obtain rfl : t = a := by have := HAQ.out; omega
              by_cases hend : t < O.length
              · obtain ⟨y, hy, hyx⟩ := HAT.out hend
                obtain ⟨gy, oy, hidy, -, cy, -⟩ := p_at HOS.out p3sT hy
                by_cases heq : y.1 = x
                · subst heq
                  have hbe : (y.1 == y.1) = true := by simp
                  have HIN2 : Hid (insP O (y.1, o.name) = O) := Lib.hid (by rw [HIN.out, if_pos (by rw [hy]; rfl)])
                  clear hy
                  go_wp2_with fail
                  go_roundg (o.toks.length - (k + 1))
                  case measure => have := HKK.out; omega
                  case rel => exact ⟨k + 1, A', _, c', O, by have := HKK.out; omega, by go_num, rfl, Lib.hid (by rw [HTK.out, List.foldl_append, ← HO.out]; exact HIN2.out.symm), rfl, HOS.out, HKr.out⟩
                · have hbe : (y.1 == x) = false := beq_eq_false_iff_ne.2 heq
                  have HIN2 : Hid (insP O (x, o.name) = O.take t ++ (x, o.name) :: O.drop t) := Lib.hid (by rw [HIN.out, if_neg (by rw [hy]; exact fun e => heq (Option.some.inj e))])
                  clear hy heq
                  have hk0 : Kept noBlock wr wr := Kept.refl noBlock wr
                  have hs0 := HOS.out
                  have HK0 := Lib.hid hk0
                  obtain ⟨A2, c2, hto, hst⟩ := hs0.run_to p3sT (i := (t : Int)) (k := t) rfl HPL.out
                  obtain ⟨A3, c3, hfrom, hsf⟩ := hs0.run_from p3sT (i := (t : Int)) (k := t) rfl HPL.out
                  rw [pC_take] at hst
                  rw [pC_drop] at hsf
                  have HS0 := Lib.hid (SlK.lo hst)
                  have HSF0 := Lib.hid (SlK.lo hsf)
                  have hlt2 : t ≤ O.length := HPL.out
                  have hO2 : O.length ≤ 1000 := HOL.out
                  clear hst hsf hs0 hk0
                  go_wp2_with (at_builtin; go_must (refine wpList_append_sl _ p3sT rfl (.tmp 64) (.tmp 67) rfl wr.heap.size _ 0 [] rfl (World.ownsRow_nil _ _ _ _) _ t _ rfl HS0.out (fun u hu => pC_one hu) ?c1 ?c2 ?_))
                  case c1 => omega
                  case c2 => first | omega | (simp; omega)
                  intro v1 w3 hap1
                  have hk3 : Kept noBlock wr w3 := HK0.out.trans hap1.keptNil (fun _ _ h => h)
                  have HF1 := Lib.hid (SlK.keptNone HSF0.out hap1.keptNil)
                  have HO1 := Lib.hid hap1.own
                  have hsz1 := hap1.keptNil.size
                  have q9 := hk3.cellOf HC2.out
                  have q8 := hk3.cellOf HZ0.out
                  have HK3 := Lib.hid hk3
                  clear hap1 hk3
                  go_wp2_with (at_builtin; go_must (refine wpList_append_sl _ p3sT rfl (.tmp 69) (.tmp 78) rfl wr.heap.size _ t _ rfl (World.ownsRow.alloc HO1.out _) _ 1 [.int .i64 x, .string o.name] rfl (Sl.made_at (Blk.new_at _ _ _ rfl) _ rfl rfl one_max) (by simp [Value.oneCell']) ?d1 ?d2 ?_))
                  case d1 => omega
                  case d2 => first | omega | (simp; omega)
                  intro v2 w4 hap2
                  have hf2 := SlK.appended (SlK.alloc HF1.out _) hap2 (World.ownsRow.alloc HO1.out _) (Nat.le_refl _)
                  have hk4 : Kept noBlock wr w4 := hap2.below (World.ownsRow.alloc HO1.out _) (HK3.out.alloc _) HK0.out.size
                  have HO2 := Lib.hid hap2.own
                  have hsz2 := (hap2.kept).size
                  rw [sz_alloc] at hsz2
                  have HK4 := Lib.hid hk4
                  have HF2 := Lib.hid hf2
                  clear hap2 hf2 hk4 HK3
                  go_wp2_with (at_builtin; go_must (refine wpList_append_sl _ p3sT rfl (.tmp 80) (.tmp 83) rfl wr.heap.size _ (t + 1) _ rfl HO2.out _ (O.length - t) _ rfl HF2.out (fun u hu => pC_one hu) ?e1 ?e2 ?_))
                  case e1 => omega
                  case e2 => omega
                  intro v3 w5 hap3
                  have hk5 : Kept noBlock wr w5 := hap3.below HO2.out HK4.out HK0.out.size
                  have HO5 := Lib.hid hap3.own
                  have HK5 := Lib.hid hk5
                  clear hap3 hk5 HK4
                  obtain ⟨A5, c5, rfl, -, -⟩ := (Sl.of_own HO5.out).shape
                  have HREL : Hid (SlK w5 (fun b e => w.heap.size ≤ b ∧ e = 55) 2 (.slice A5 (t + 1 + (O.length - t)) c5) (t + 1 + (O.length - t)) ((insP O (x, o.name)).flatMap pC)) := Lib.hid (by
                    have h1 := SlK.of_ownB HO5.out
                    rw [HIN2.out]
                    have e2 := h1.any (ok' := fun b e => w.heap.size ≤ b ∧ e = 55) fun b _ _ e => ⟨Nat.le_trans (Nat.le_trans HW0.out.size HKr.out.size) e.1, e.2⟩
                    simpa [List.flatMap_append, pC] using e2)
                  go_wp2_with fail
                  go_roundg (o.toks.length - (k + 1))
                  case measure => have := HKK.out; omega
                  case rel => exact ⟨k + 1, A5, _, c5, insP O (x, o.name), by have := HKK.out; omega, by go_num, rfl, Lib.hid (by rw [HTK.out, List.foldl_append, ← HO.out]; rfl), by rw [HIN2.out]; simp; omega, HREL.out, HKr.out.trans HK5.out fun _ _ e => e⟩
              · have HIN2 : Hid (insP O (x, o.name) = O.take t ++ (x, o.name) :: O.drop t) := Lib.hid (by rw [HIN.out, if_neg (by rw [List.getElem?_eq_none (by omega)]; exact fun e => by cases e)])
                have hk0 : Kept noBlock wr wr := Kept.refl noBlock wr
                have hs0 := HOS.out
                have HK0 := Lib.hid hk0
                obtain ⟨A2, c2, hto, hst⟩ := hs0.run_to p3sT (i := (t : Int)) (k := t) rfl HPL.out
                obtain ⟨A3, c3, hfrom, hsf⟩ := hs0.run_from p3sT (i := (t : Int)) (k := t) rfl HPL.out
                rw [pC_take] at hst
                rw [pC_drop] at hsf
                have HS0 := Lib.hid (SlK.lo hst)
                have HSF0 := Lib.hid (SlK.lo hsf)
                have hlt2 : t ≤ O.length := HPL.out
                have hO2 : O.length ≤ 1000 := HOL.out
                clear hst hsf hs0 hk0
                go_wp2_with (at_builtin; go_must (refine wpList_append_sl _ p3sT rfl (.tmp 64) (.tmp 67) rfl wr.heap.size _ 0 [] rfl (World.ownsRow_nil _ _ _ _) _ t _ rfl HS0.out (fun u hu => pC_one hu) ?c1 ?c2 ?_))
                case c1 => omega
                case c2 => first | omega | (simp; omega)
                intro v1 w3 hap1
                have hk3 : Kept noBlock wr w3 := HK0.out.trans hap1.keptNil (fun _ _ h => h)
                have HF1 := Lib.hid (SlK.keptNone HSF0.out hap1.keptNil)
                have HO1 := Lib.hid hap1.own
                have hsz1 := hap1.keptNil.size
                have q9 := hk3.cellOf HC2.out
                have q8 := hk3.cellOf HZ0.out
                have HK3 := Lib.hid hk3
                clear hap1 hk3
                go_wp2_with (at_builtin; go_must (refine wpList_append_sl _ p3sT rfl (.tmp 69) (.tmp 78) rfl wr.heap.size _ t _ rfl (World.ownsRow.alloc HO1.out _) _ 1 [.int .i64 x, .string o.name] rfl (Sl.made_at (Blk.new_at _ _ _ rfl) _ rfl rfl one_max) (by simp [Value.oneCell']) ?d1 ?d2 ?_))
                case d1 => omega
                case d2 => first | omega | (simp; omega)
                intro v2 w4 hap2
                have hf2 := SlK.appended (SlK.alloc HF1.out _) hap2 (World.ownsRow.alloc HO1.out _) (Nat.le_refl _)
                have hk4 : Kept noBlock wr w4 := hap2.below (World.ownsRow.alloc HO1.out _) (HK3.out.alloc _) HK0.out.size
                have HO2 := Lib.hid hap2.own
                have hsz2 := (hap2.kept).size
                rw [sz_alloc] at hsz2
                have HK4 := Lib.hid hk4
                have HF2 := Lib.hid hf2
                clear hap2 hf2 hk4 HK3
                go_wp2_with (at_builtin; go_must (refine wpList_append_sl _ p3sT rfl (.tmp 80) (.tmp 83) rfl wr.heap.size _ (t + 1) _ rfl HO2.out _ (O.length - t) _ rfl HF2.out (fun u hu => pC_one hu) ?e1 ?e2 ?_))
                case e1 => omega
                case e2 => omega
                intro v3 w5 hap3
                have hk5 : Kept noBlock wr w5 := hap3.below HO2.out HK4.out HK0.out.size
                have HO5 := Lib.hid hap3.own
                have HK5 := Lib.hid hk5
                clear hap3 hk5 HK4
                obtain ⟨A5, c5, rfl, -, -⟩ := (Sl.of_own HO5.out).shape
                have HREL : Hid (SlK w5 (fun b e => w.heap.size ≤ b ∧ e = 55) 2 (.slice A5 (t + 1 + (O.length - t)) c5) (t + 1 + (O.length - t)) ((insP O (x, o.name)).flatMap pC)) := Lib.hid (by
                  have h1 := SlK.of_ownB HO5.out
                  rw [HIN2.out]
                  have e2 := h1.any (ok' := fun b e => w.heap.size ≤ b ∧ e = 55) fun b _ _ e => ⟨Nat.le_trans (Nat.le_trans HW0.out.size HKr.out.size) e.1, e.2⟩
                  simpa [List.flatMap_append, pC] using e2)
                go_wp2_with fail
                go_roundg (o.toks.length - (k + 1))
                case measure => have := HKK.out; omega
                case rel => exact ⟨k + 1, A5, _, c5, insP O (x, o.name), by have := HKK.out; omega, by go_num, rfl, Lib.hid (by rw [HTK.out, List.foldl_append, ← HO.out]; rfl), by rw [HIN2.out]; simp; omega, HREL.out, HKr.out.trans HK5.out fun _ _ e => e⟩
        · obtain rfl : k = o.toks.length := by omega
          have HF : Hid (O = (pairsH (S.take (i + 1))).foldl insP []) := Lib.hid (by rw [HO.out, List.take_length, HNX.out])
          clear hkk hk hO hts hyn
          go_wp2_with fail
          go_roundg (n - (i + 1))
          case measure => have := HIJ.out; omega
          case rel => exact ⟨i + 1, A', _, c', O, by have := HIJ.out; omega, by go_num, rfl, HF, rfl, HOS.out, HKr.out⟩
    · obtain rfl : i = n := by omega
      have HT : Hid (O = refRing S) := Lib.hid (by rw [HO.out, List.take_of_length_le (by have := HSN.out; omega)]; rfl)
      clear hij hk hO
      go_wp2_with fail
      go_ret
      exact ⟨A', _, c', rfl, by rw [HT.out], by rw [← HT.out]; exact HOS.out, HW0.out.trans HKr.out fun _ _ e => e⟩
end Go.Proofs.YtjkmgpmknadhjaaGreat

/- Chapter 18's reference: tidy (written by gen/r18.py). -/
import Derived.Test.YtjkmgpmknadhjaaGreatR18A
namespace Go.Proofs.YtjkmgpmknadhjaaGreat
set_option linter.unusedVariables false
open Go.RowKit
open Go.ChangeMaps (setBlock)

set_option maxHeartbeats 8000000 in
set_option maxRecDepth 100000 in
theorem R18tidy_at {w : World} {ok : Nat → TypeId → Prop} {A : Option Addr} {n c : Nat} {l : List Int} (h : SlK w ok 1 (.slice A n c) n (l.map (Value.int .i64))) (hn : n ≤ 1000000) :
    Calls Tryz.prog 24 #[.slice A n c] w fun e w' => ∃ A' k c', e = .returned (.slice A' k c') ∧ SlK w' (fun b _ => w.heap.size ≤ b) 1 (.slice A' k c') k ((tidyP l).map (Value.int .i64)) ∧ Kept noBlock w w' := by
  have hl : l.length = n := by have := h.len; rw [List.length_map, Nat.mul_one] at this; exact this
  have HL := Lib.hid hl
  have H := Lib.hid h
  clear hl h
  go_enter Tryz.func24, Tryz.ntmps24
  go_wp2_with fail
  go_loopg [3, 4] n (fun j vo vi wr => ∃ (i : Nat) (A' : Option Addr) (k c' : Nat) (O : List Int), i + j = n ∧ vi = .int .i64 i ∧ vo = .slice A' k c' ∧ Hid (O = (l.take i).foldl insTok []) ∧ O.length = k ∧ O.length ≤ i ∧ SlK wr (fun b _ => w.heap.size ≤ b) 1 (.slice A' k c') k (O.map (Value.int .i64)) ∧ Kept noBlock w wr)
  case atStart => exact ⟨0, none, 0, 0, [], by omega, rfl, rfl, Lib.hid rfl, rfl, by simp, SlK.nil _ _ _, Kept.refl _ _⟩
  case round =>
    obtain ⟨i, A', k, c', O, hij, rfl, rfl, HO, hOk, hOi, hO, hk⟩ := hrel
    subst hOk
    have HIJ := Lib.hid hij
    have HKr := Lib.hid hk
    have HOS := Lib.hid hO
    have HOI := Lib.hid hOi
    by_cases hi : i < n
    · obtain ⟨x, hx⟩ : ∃ x, l[i]? = some x := ⟨_, List.getElem?_eq_getElem (by have := HL.out; omega)⟩
      obtain ⟨gx, ox, hidx, c0⟩ := tok_at (H.out.keptNone hk) hx
      have HC0 := Lib.hid c0
      have HTK : Hid (l.take (i + 1) = l.take i ++ [x]) := Lib.hid (by rw [List.take_add_one, hx]; rfl)
      have HOL : Hid (O.length ≤ 1000000) := Lib.hid (by omega)
      have hpl := tokAt_le O x
      have HLT : Hid (∀ a, a < tokAt O x → ∃ y, O[a]? = some y ∧ y < x) := Lib.hid fun a ha => ⟨_, List.getElem?_eq_getElem (by omega), tokAt_lt ha (List.getElem?_eq_getElem (by omega))⟩
      have HAT : Hid (tokAt O x < O.length → ∃ y, O[tokAt O x]? = some y ∧ ¬ y < x) := Lib.hid fun h => ⟨_, List.getElem?_eq_getElem h, tokAt_ge (List.getElem?_eq_getElem h)⟩
      have HIN : Hid (insTok O x = if O[tokAt O x]? = some x then O else O.take (tokAt O x) ++ x :: O.drop (tokAt O x)) := Lib.hid rfl
      have HPL := Lib.hid hpl
      clear hij hk hx hO hOi
      generalize tokAt O x = t at *
      go_wp2_with fail
      go_loopg [5] t (fun q va wx => ∃ a nn : Nat, a + q = t ∧ va = .int .i64 a ∧ wx = wr.drewN nn)
      case atStart => exact ⟨0, 0, by omega, rfl, rfl⟩
      case round =>
        obtain ⟨a, nn, haq, rfl, rfl⟩ := hrel
        have HAQ := Lib.hid haq
        clear haq
        by_cases hat : a < t
        · have HATA := Lib.hid hat
          obtain ⟨y, hy, hyx⟩ := HLT.out a hat
          obtain ⟨gy, oy, hidy, cy⟩ := tok_at HOS.out hy
          have hal2 : a < O.length := by have := HPL.out; omega
          have hal3 : a ≤ 1000000 := by have := HOL.out; omega
          clear hy
          go_wp2_with fail
          go_quiet (fail)
          go_wp2_with fail
          go_roundg (t - (a + 1))
          case measure => have := HAQ.out; omega
          case rel => exact ⟨a + 1, nn + nq, by have := HAQ.out; have := HATA.out; omega, by go_num, by first | rfl | (rw [World.drewN_drewN])⟩
        · obtain rfl : t = a := by have := HAQ.out; omega
          by_cases hend : t < O.length
          · obtain ⟨y, hy, hyx⟩ := HAT.out hend
            obtain ⟨gy, oy, hidy, cy⟩ := tok_at HOS.out hy
            by_cases heq : y = x
            · subst heq
              have hbe : (y == y) = true := by simp
              have HIN2 : Hid (insTok O y = O) := Lib.hid (by rw [HIN.out, if_pos hy])
              clear hy
              go_wp2_with fail
              go_quiet (fail)
              try rw [World.drewN_drewN]
              generalize nn + nq = n1
              go_wp2_with fail
              go_quiet (fail)
              try rw [World.drewN_drewN]
              go_wp2_with fail
              go_roundg (n - (i + 1))
              case measure => have := HIJ.out; omega
              case rel => exact ⟨i + 1, A', _, c', O, by have := HIJ.out; omega, by go_num, rfl, Lib.hid (by rw [HTK.out, List.foldl_append, ← HO.out]; exact HIN2.out.symm), rfl, by have := HOI.out; omega, SlK.drewN HOS.out _, HKr.out.drewN _⟩
            · have hbe : (y == x) = false := beq_eq_false_iff_ne.2 heq
              have HIN2 : Hid (insTok O x = O.take t ++ x :: O.drop t) := Lib.hid (by rw [HIN.out, if_neg (by rw [hy]; exact fun e => heq (Option.some.inj e))])
              clear hy heq
              go_wp2_with fail
              go_quiet (fail)
              try rw [World.drewN_drewN]
              generalize nn + nq = n1
              go_wp2_with fail
              go_quiet (fail)
              try rw [World.drewN_drewN]
              have hk0 : Kept noBlock wr (wr.drewN (n1 + nq)) := (Kept.refl noBlock wr).drewN _
              have hs0 := SlK.drewN HOS.out (n1 + nq)
              generalize wr.drewN (n1 + nq) = W at *
              have HK0 := Lib.hid hk0
              obtain ⟨A2, c2, hto, hst⟩ := hs0.run_to i64sT (i := (t : Int)) (k := t) rfl HPL.out
              obtain ⟨A3, c3, hfrom, hsf⟩ := hs0.run_from i64sT (i := (t : Int)) (k := t) rfl HPL.out
              rw [Nat.mul_one, ← List.map_take] at hst
              rw [Nat.mul_one, ← List.map_drop] at hsf
              have HS0 := Lib.hid (SlK.lo hst)
              have HSF0 := Lib.hid (SlK.lo hsf)
              have hlt2 : t ≤ O.length := HPL.out
              have hO2 : O.length ≤ 1000000 := HOL.out
              clear hst hsf hs0 hk0 hidy cy
              go_wp2_with (at_builtin; go_must (refine wpList_append_sl _ i64sT rfl (.tmp 45) (.tmp 48) rfl W.heap.size _ 0 [] rfl (World.ownsRow_nil _ _ _ _) _ t _ rfl HS0.out (fun u hu => eI_one hu) ?c1 ?c2 ?_))
              case c1 => omega
              case c2 => first | omega | (simp; omega)
              intro v1 w3 hap1
              have hk3 : Kept noBlock wr w3 := HK0.out.trans hap1.keptNil (fun _ _ h => h)
              have HF1 := Lib.hid (SlK.keptNone HSF0.out hap1.keptNil)
              have HO1 := Lib.hid hap1.own
              have hsz1 := hap1.keptNil.size
              have q9 := hk3.cellOf HC0.out
              have HK3 := Lib.hid hk3
              clear hap1 hk3
              go_wp2_with (at_builtin; go_must (refine wpList_append_sl _ i64sT rfl (.tmp 50) (.tmp 55) rfl W.heap.size _ t _ rfl (World.ownsRow.alloc HO1.out _) _ 1 [.int .i64 x] rfl (Sl.made_at (Blk.new_at _ _ _ rfl) _ rfl rfl one_max) (by simp [Value.oneCell']) ?d1 ?d2 ?_))
              case d1 => omega
              case d2 => first | omega | (simp; omega)
              intro v2 w4 hap2
              have hf2 := SlK.appended (SlK.alloc HF1.out _) hap2 (World.ownsRow.alloc HO1.out _) (Nat.le_refl _)
              have hk4 : Kept noBlock wr w4 := hap2.below (World.ownsRow.alloc HO1.out _) (HK3.out.alloc _) HK0.out.size
              have HO2 := Lib.hid hap2.own
              have hsz2 := (hap2.kept).size
              rw [sz_alloc] at hsz2
              have HK4 := Lib.hid hk4
              have HF2 := Lib.hid hf2
              clear hap2 hf2 hk4 HK3
              go_wp2_with (at_builtin; go_must (refine wpList_append_sl _ i64sT rfl (.tmp 57) (.tmp 60) rfl W.heap.size _ (t + 1) _ rfl HO2.out _ (O.length - t) _ rfl HF2.out (fun u hu => eI_one hu) ?e1 ?e2 ?_))
              case e1 => omega
              case e2 => omega
              intro v3 w5 hap3
              have hk5 : Kept noBlock wr w5 := hap3.below HO2.out HK4.out HK0.out.size
              have HO5 := Lib.hid hap3.own
              have HK5 := Lib.hid hk5
              clear hap3 hk5 HK4
              obtain ⟨A5, c5, rfl, -, -⟩ := (Sl.of_own HO5.out).shape
              have hol : t + 1 + (O.length - t) = (insTok O x).length := by rw [HIN2.out]; simp; omega
              have HREL : Hid (SlK w5 (fun b _ => w.heap.size ≤ b) 1 (.slice A5 (t + 1 + (O.length - t)) c5) (t + 1 + (O.length - t)) ((insTok O x).map (Value.int .i64))) := Lib.hid (by
                have h1 := SlK.of_ownB HO5.out
                rw [HIN2.out]
                have e1 : (O.take t).map (Value.int .i64) ++ [.int .i64 x] ++ (O.drop t).map (Value.int .i64) = (O.take t ++ x :: O.drop t).map (Value.int .i64) := by simp
                have e2 := h1.any (ok' := fun b _ => w.heap.size ≤ b) fun b _ _ e => Nat.le_trans (Nat.le_trans HKr.out.size HK0.out.size) e.1
                simpa using e2)
              clear hol
              go_wp2_with fail
              go_roundg (n - (i + 1))
              case measure => have := HIJ.out; omega
              case rel => exact ⟨i + 1, A5, _, c5, insTok O x, by have := HIJ.out; omega, by go_num, rfl, Lib.hid (by rw [HTK.out, List.foldl_append]; rw [← HO.out]; rfl), by rw [HIN2.out]; simp; omega, by rw [HIN2.out]; simp; have := HOI.out; omega, HREL.out, HKr.out.trans HK5.out fun _ _ e => e⟩
          · have HIN2 : Hid (insTok O x = O.take t ++ x :: O.drop t) := Lib.hid (by rw [HIN.out, if_neg (by rw [List.getElem?_eq_none (by omega)]; exact fun e => by cases e)])
            go_wp2_with fail
            go_quiet (fail)
            try rw [World.drewN_drewN]
            generalize nn + nq = n1
            go_wp2_with fail
            go_quiet (fail)
            try rw [World.drewN_drewN]
            have hk0 : Kept noBlock wr (wr.drewN (n1 + nq)) := (Kept.refl noBlock wr).drewN _
            have hs0 := SlK.drewN HOS.out (n1 + nq)
            generalize wr.drewN (n1 + nq) = W at *
            have HK0 := Lib.hid hk0
            obtain ⟨A2, c2, hto, hst⟩ := hs0.run_to i64sT (i := (t : Int)) (k := t) rfl HPL.out
            obtain ⟨A3, c3, hfrom, hsf⟩ := hs0.run_from i64sT (i := (t : Int)) (k := t) rfl HPL.out
            rw [Nat.mul_one, ← List.map_take] at hst
            rw [Nat.mul_one, ← List.map_drop] at hsf
            have HS0 := Lib.hid (SlK.lo hst)
            have HSF0 := Lib.hid (SlK.lo hsf)
            have hlt2 : t ≤ O.length := HPL.out
            have hO2 : O.length ≤ 1000000 := HOL.out
            clear hst hsf hs0 hk0
            go_wp2_with (at_builtin; go_must (refine wpList_append_sl _ i64sT rfl (.tmp 45) (.tmp 48) rfl W.heap.size _ 0 [] rfl (World.ownsRow_nil _ _ _ _) _ t _ rfl HS0.out (fun u hu => eI_one hu) ?c1 ?c2 ?_))
            case c1 => omega
            case c2 => first | omega | (simp; omega)
            intro v1 w3 hap1
            have hk3 : Kept noBlock wr w3 := HK0.out.trans hap1.keptNil (fun _ _ h => h)
            have HF1 := Lib.hid (SlK.keptNone HSF0.out hap1.keptNil)
            have HO1 := Lib.hid hap1.own
            have hsz1 := hap1.keptNil.size
            have q9 := hk3.cellOf HC0.out
            have HK3 := Lib.hid hk3
            clear hap1 hk3
            go_wp2_with (at_builtin; go_must (refine wpList_append_sl _ i64sT rfl (.tmp 50) (.tmp 55) rfl W.heap.size _ t _ rfl (World.ownsRow.alloc HO1.out _) _ 1 [.int .i64 x] rfl (Sl.made_at (Blk.new_at _ _ _ rfl) _ rfl rfl one_max) (by simp [Value.oneCell']) ?d1 ?d2 ?_))
            case d1 => omega
            case d2 => first | omega | (simp; omega)
            intro v2 w4 hap2
            have hf2 := SlK.appended (SlK.alloc HF1.out _) hap2 (World.ownsRow.alloc HO1.out _) (Nat.le_refl _)
            have hk4 : Kept noBlock wr w4 := hap2.below (World.ownsRow.alloc HO1.out _) (HK3.out.alloc _) HK0.out.size
            have HO2 := Lib.hid hap2.own
            have hsz2 := (hap2.kept).size
            rw [sz_alloc] at hsz2
            have HK4 := Lib.hid hk4
            have HF2 := Lib.hid hf2
            clear hap2 hf2 hk4 HK3
            go_wp2_with (at_builtin; go_must (refine wpList_append_sl _ i64sT rfl (.tmp 57) (.tmp 60) rfl W.heap.size _ (t + 1) _ rfl HO2.out _ (O.length - t) _ rfl HF2.out (fun u hu => eI_one hu) ?e1 ?e2 ?_))
            case e1 => omega
            case e2 => omega
            intro v3 w5 hap3
            have hk5 : Kept noBlock wr w5 := hap3.below HO2.out HK4.out HK0.out.size
            have HO5 := Lib.hid hap3.own
            have HK5 := Lib.hid hk5
            clear hap3 hk5 HK4
            obtain ⟨A5, c5, rfl, -, -⟩ := (Sl.of_own HO5.out).shape
            have hol : t + 1 + (O.length - t) = (insTok O x).length := by rw [HIN2.out]; simp; omega
            have HREL : Hid (SlK w5 (fun b _ => w.heap.size ≤ b) 1 (.slice A5 (t + 1 + (O.length - t)) c5) (t + 1 + (O.length - t)) ((insTok O x).map (Value.int .i64))) := Lib.hid (by
              have h1 := SlK.of_ownB HO5.out
              rw [HIN2.out]
              have e1 : (O.take t).map (Value.int .i64) ++ [.int .i64 x] ++ (O.drop t).map (Value.int .i64) = (O.take t ++ x :: O.drop t).map (Value.int .i64) := by simp
              have e2 := h1.any (ok' := fun b _ => w.heap.size ≤ b) fun b _ _ e => Nat.le_trans (Nat.le_trans HKr.out.size HK0.out.size) e.1
              simpa using e2)
            clear hol
            go_wp2_with fail
            go_roundg (n - (i + 1))
            case measure => have := HIJ.out; omega
            case rel => exact ⟨i + 1, A5, _, c5, insTok O x, by have := HIJ.out; omega, by go_num, rfl, Lib.hid (by rw [HTK.out, List.foldl_append]; rw [← HO.out]; rfl), by rw [HIN2.out]; simp; omega, by rw [HIN2.out]; simp; have := HOI.out; omega, HREL.out, HKr.out.trans HK5.out fun _ _ e => e⟩
    · obtain rfl : i = n := by omega
      have HT : Hid (O = tidyP l) := Lib.hid (by rw [HO.out, List.take_of_length_le (by have := HL.out; omega)]; rfl)
      clear hij hk hO hOi
      go_wp2_with fail
      go_ret
      exact ⟨A', _, c', rfl, by rw [← HT.out]; exact HOS.out, HKr.out⟩
end Go.Proofs.YtjkmgpmknadhjaaGreat

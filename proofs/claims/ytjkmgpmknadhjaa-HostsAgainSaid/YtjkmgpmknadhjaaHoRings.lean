/- HostsRings: the walk. -/
import Derived.Test.YtjkmgpmknadhjaaHoFar
namespace Go.Proofs.Ytjkmgpmknadhjaa
set_option linter.unusedVariables false
open Go.RowKit
open Go.ChangeMaps (setBlock)

theorem lt_of_cell {w : World} {p : Addr} {v : Value} (h : w.cell? p = some v) : p.block < w.heap.size := by
  unfold World.cell? at h
  split at h
  · rename_i hh; exact lt_of_heap hh
  · cases h
theorem Kept.cellOf {w w' : World} {p : Addr} {v : Value} (h : Kept noBlock w w') (hc : w.cell? p = some v) : w'.cell? p = some v := (h.cell (lt_of_cell hc) fun e => e).trans hc
theorem owner_ofH {S : List Pl} {p : Pl} (hr : rising S) (hp : p ∈ S) : owner S p.1 = p.2 := by
  obtain ⟨j, hj, e⟩ := List.getElem_of_mem hp
  have hb : below S p.1 = j := by
    have h1 := below_spec hr p.1 j p (by rw [List.getElem?_eq_getElem hj, e])
    have h2 : ¬ j < below S p.1 := fun hx => by have := h1.2 hx; omega
    rcases Nat.lt_or_ge (below S p.1) j with hlt | hge
    · obtain ⟨q, hq⟩ : ∃ q, S[below S p.1]? = some q := ⟨_, List.getElem?_eq_getElem (by omega)⟩
      have h3 := below_spec hr p.1 _ q hq
      have h4 : q.1 < p.1 := by
        have := List.pairwise_iff_getElem.1 hr (below S p.1) j (by omega) hj hlt
        rw [List.getElem?_eq_getElem (by omega), Option.some.injEq] at hq
        rw [hq, e] at this
        exact this
      have := h3.1 h4
      omega
    · omega
  have hrat : rat S p.1 = j := by unfold rat; rw [hb, if_pos hj]
  unfold owner
  rw [hrat, List.getElem?_eq_getElem hj, e]; rfl
theorem less_or {a b : ByteArray} (h : ¬ nlt b a) : (Op.bytesLess a.toList b.toList || a.toList == b.toList) = true := by
  by_cases e : a = b
  · rw [e, strEq_self, Bool.or_true]
  · rw [less_nlt, decide_eq_true (Classical.byContradiction fun h2 => e (nlt_tri h2 h)), Bool.true_or]
theorem less_or2 {a b : ByteArray} (h : ¬ nlt b a) : (!Op.bytesLess a.toList b.toList && !(a.toList == b.toList)) = false := by
  rw [← Bool.not_or, less_or h]; rfl
/-- What the ring's places are. -/
structure RingP (S : List Ho) (P : List Pl) : Prop where
  ris : rising P
  len : P.length ≤ 400
  first : ∀ p ∈ P, firstT S p.1 = p.2
  nd : P.Nodup
  sub : ∀ p ∈ P, p ∈ pairsH S
  has : ∀ q ∈ pairsH S, 0 < P.length ∧ owner P q.1 = firstT S q.1
theorem ringP {S : List Ho} (h : HoOk S 20 20) : RingP S (refRing S) := by
  have hp := ring_perm S
  refine ⟨(refRing_spec S).1, ?_, fun p hp' => place_first (hp.mem_iff.1 hp'), pl_nodup (rising_nodup (refRing_spec S).1), fun p hp' => (places_mem (hp.mem_iff.1 hp')).1, fun q hq => ?_⟩
  · rw [hp.length_eq]
    exact Nat.le_trans (take_len _) h.pairs
  · obtain ⟨p, hp1, hp2⟩ := places_has hq
    have hp3 := hp.mem_iff.2 hp1
    refine ⟨List.length_pos_of_mem hp3, ?_⟩
    rw [← hp2, owner_ofH (refRing_spec S).1 hp3]
    exact (place_first hp1).symm
theorem hits_le {P : List Pl} (hP : P.Nodup) (l : List Pl) : hitsN P l ≤ l.length := by
  unfold hitsN
  induction l with
  | nil => exact Nat.le_refl _
  | cons a l ih =>
    rw [List.map_cons, List.sum_cons, count_one hP, List.length_cons]
    split <;> omega
theorem mem_take_succ {l : List Int} {j : Nat} {a t : Int} (h : l[j]? = some a) : t ∈ l.take (j + 1) ↔ t ∈ l.take j ∨ a = t := by
  rw [List.take_add_one, h, List.mem_append]
  simp [eq_comm]
/-- A told host's tokens. -/
theorem Told.tok {w w' : World} {A : Option Addr} {n c : Nat} {T : List HV} {S : List Ho} (h : Told w w' A n c T S) {i : Nat} {o : Ho} (hi : S[i]? = some o) :
    ∃ (x : HV) (g off : Nat), x.toks = o.toks ∧ x.tn = o.toks.length ∧ (∀ kd w', (Instr.indexAt 22 (.slice A n c) (.int kd (i : Int))).run Try.prog w' = .ok (.pointer (some ⟨g, off, none⟩)) w') ∧
      w'.cell? ⟨g, off, none⟩ = some (.string o.name) ∧ w'.cell? ⟨g, off + 3, none⟩ = some (.slice x.ta x.tn x.tc) ∧ SlK w' (fun k e => w.heap.size ≤ k ∧ e = 2) 1 (.slice x.ta x.tn x.tc) x.tn (o.toks.map (Value.int .i64)) := by
  obtain ⟨x, g, off, hx, rfl, h1, y0, -, -, y3, -⟩ := h.at hi
  have h2 := h.toks x (List.mem_of_getElem? hx)
  have h3 := h2.len
  rw [List.length_map, Nat.mul_one] at h3
  exact ⟨x, g, off, rfl, h3.symm, h1, y0, y3, h2⟩
theorem tok_at {w : World} {ok : Nat → TypeId → Prop} {A : Option Addr} {n c : Nat} {L : List Int} (h : SlK w ok 1 (.slice A n c) n (L.map (Value.int .i64))) {j : Nat} {t : Int} (hj : L[j]? = some t) :
    ∃ g off, (∀ kd w', (Instr.indexAt 32 (.slice A n c) (.int kd (j : Int))).run Try.prog w' = .ok (.pointer (some ⟨g, off, none⟩)) w') ∧ w.cell? ⟨g, off, none⟩ = some (.int .i64 t) := by
  have h3 := h.len
  rw [List.length_map, Nat.mul_one] at h3
  obtain ⟨g, off, h1, -, -, h2⟩ := h.run_index i64sT (i := (j : Int)) (k := j) rfl (by have := (List.getElem?_eq_some_iff.1 hj).1; omega)
  exact ⟨g, off, h1, h2 0 _ (by rw [Nat.mul_one, Nat.add_zero, List.getElem?_map, hj]; rfl)⟩

set_option maxHeartbeats 16000000 in
set_option maxRecDepth 100000 in
theorem Rings_walk (A : Option Addr) (n c : Nat) (l : List HV) (w : World) (hl : l.length = n) (hs : Lo w w.heap.size 5 (.slice A n c) n (l.flatMap hvC)) (ht : ∀ x ∈ l, HoIn w x) :
    Calls Try.prog 6 #[.slice A n c] w fun e w' => e = .returned (.bool true) ∧ Kept noBlock w w' := by
  have HS := Lib.hid hs
  have HT := Lib.hid ht
  have HL := Lib.hid hl
  have htn : ∀ x ∈ l, x.toks.length = x.tn ∧ x.tn ≤ 9223372036854775807 := fun x hx => ⟨(ht x hx).1, by
    obtain ⟨_, _, hv, h1, h2⟩ := (ht x hx).2.shape
    cases hv; unfold maxLen at h2; omega⟩
  have HTN := Lib.hid htn
  clear hs ht hl htn
  go_enter Try.func6, Try.ntmps6
  go_wp2_with fail
  go_at_call 7
  refine (hoaw_at _).mono ?_
  rintro e w1 ⟨rfl, hk1⟩
  have HK1 := Lib.hid hk1
  have HS1 := Lib.hid (SlK.keptNone HS.out hk1)
  clear hk1
  go_wp2_with fail
  go_at_call 8
  refine (hcrowd_at HS1.out HL.out HTN.out).mono ?_
  rintro e w2 ⟨rfl, rfl⟩
  cases hcr : crowdB l with
  | false =>
    clear hcr
    go_wp2
    go_ret
    exact ⟨rfl, HK1.out⟩
  | true =>
    obtain ⟨hc1, hc2⟩ := crowdB_true hcr
    have HC1 : Hid (n ≤ 20) := Lib.hid (by have := HL.out; omega)
    have HC2 := Lib.hid hc2
    clear hcr hc1 hc2
    go_wp2_with fail
    go_at_call 9
    refine (hNew_tab _ _ w2).mono ?_
    rintro e w3 ⟨g, own, rfl, hT3, ho3, hk3⟩
    have HT3 := Lib.hid hT3
    have HK3 := Lib.hid (HK1.out.trans hk3 fun _ _ e => e)
    have HO3 := Lib.hid (fun k h => Nat.le_trans HK1.out.size (ho3 k h).1)
    have HS3 := Lib.hid (SlK.keptNone HS1.out hk3)
    clear hT3 ho3 hk3 HS1 HK1
    go_wp2_with fail
    go_at_call 10
    refine (hRefresh_tab (l := l) HT3.out (by decide) HS3.out.lo HL.out (by have := HC1.out; omega) fun x hx => ⟨by have := HC2.out x hx; omega, (SlK.keptNone (HT.out x hx).2 HK3.out).lo⟩).mono ?_
    rintro e w4 ⟨A1, n1, c1, A2, n2, c2, rfl, -, -, -, -, hT4, hk4⟩
    have hok : HoOk (refNow (viewS []) (l.map HV.abs)) 20 20 := refNow_ok (by rw [List.length_map, HL.out]; exact HC1.out) fun o ho => by
      obtain ⟨x, hx, rfl⟩ := List.mem_map.1 ho
      exact HC2.out x hx
    have HK4 := Lib.hid (HK3.out.grew hk4 HO3.out)
    generalize refNow (viewS []) (l.map HV.abs) = S at *
    have HOK := Lib.hid hok
    have HT4 := Lib.hid hT4
    clear hok hT4 hk4 HK3 HT3 HS3 HC2 HT HTN HS HO3
    go_wp2_with fail
    go_at_call 11
    refine (hAll_told HT4.out (Nat.le_trans HOK.out.len (by decide)) fun o ho => Nat.le_trans (HOK.out.tk o ho) (by decide)).mono ?_
    rintro e w5 ⟨A5, n5, c5, T, rfl, hto, hk5⟩
    have hSn := hto.slen
    have hn5 : n5 ≤ 20 := by have := HOK.out.len; omega
    have hlen := (Sl.of_own hto.row).run_len hostsT
    have HTO5 := Lib.hid hto
    have HSN := Lib.hid hSn
    have HK5 := Lib.hid (HK4.out.trans hk5 fun _ _ e => e)
    have HT5 := Lib.hid (HT4.out.kept hk5 fun _ _ e => e)
    clear hto hSn hk5 HK4 HT4
    go_wp2_with fail
    go_at_call 14
    refine (hRing_at HT5.out (Nat.le_trans HOK.out.len (by decide)) (fun o ho => Nat.le_trans (HOK.out.tk o ho) (by decide)) (Nat.le_trans HOK.out.pairs (by decide)) HOK.out.nm).mono ?_
    rintro e w6 ⟨gr, rfl, hr6, hk6, -⟩
    have HR6 := Lib.hid hr6
    have HRP := Lib.hid (ringP HOK.out)
    have HPL : Hid ((pairsH S).length ≤ 400) := Lib.hid HOK.out.pairs
    generalize hPE : refRing S = P at *
    have HPE := Lib.hid hPE
    clear hPE
    have hPl : P.length ≤ 400 := HRP.out.len
    have HK6 := Lib.hid (HK5.out.trans hk6 fun _ _ e => e)
    have HT6 := Lib.hid (HT5.out.kept hk6 fun _ _ e => e)
    have HTO6 := Lib.hid (HTO5.out.keptN hk6)
    clear hr6 hk6 HT5 HTO5 HK5
    go_wp2_with fail
    go_at_call 15
    refine (Rplaces_at HR6.out (by omega)).mono ?_
    rintro e w7 ⟨A7, c7, rfl, hs7, hk7⟩
    have hlen7 := hs7.run_len psT
    have HS7 := Lib.hid hs7
    have HK7 := Lib.hid (HK6.out.trans hk7 fun _ _ e => e)
    have HT7 := Lib.hid (HT6.out.kept hk7 fun _ _ e => e)
    have HTO := Lib.hid (HTO6.out.keptN hk7)
    clear hs7 hk7 HT6 HTO6 HK6 HR6
    go_wp2_with fail
    go_loopg [9] P.length (fun jj vi wr => ∃ i : Nat, i + jj = P.length ∧ vi = .int .i64 i ∧ Kept noBlock w7 wr)
    case atStart => exact ⟨0, by omega, rfl, Kept.refl _ _⟩
    case round =>
      obtain ⟨i, hij, rfl, hk⟩ := hrel
      have HIJ := Lib.hid hij
      by_cases hi : i < P.length
      · obtain ⟨p, hp⟩ : ∃ p, P[i]? = some p := ⟨_, List.getElem?_eq_getElem hi⟩
        have HPF := Lib.hid (HRP.out.first p (List.mem_of_getElem? hp))
        have HPI := Lib.hid hp
        have HKi := Lib.hid hk
        obtain ⟨p1, p2⟩ := p
        obtain ⟨wo, rfl⟩ : ∃ wo : World, wo = wr := ⟨_, rfl⟩
        clear hij hk hp
        go_wp2_with fail
        go_loopg [10, 11] n5 (fun jj vf vk wr => ∃ (ki : Int) (f : ByteArray), -1 ≤ ki ∧ ki + 1 = (jj : Nat) ∧ ki < n5 ∧ vk = .int .i64 ki ∧ vf = .string f ∧ Hid (f = firstT (S.drop (ki + 1).toNat) p1) ∧ Kept noBlock w7 wr)
        case atStart => exact ⟨(n5 : Int) - 1, _, by omega, by omega, by omega, rfl, rfl, Lib.hid (by rw [List.drop_eq_nil_of_le (by have := HSN.out; omega)]; rfl), HKi.out⟩
        case round =>
          obtain ⟨ki, f, hk1, hkj, hk3, rfl, rfl, HF, hk⟩ := hrel
          have HKJ := Lib.hid hkj
          have HK := Lib.hid hk
          by_cases h0 : 0 ≤ ki
          · obtain ⟨k, rfl⟩ : ∃ k : Nat, ki = k := ⟨ki.toNat, by omega⟩
            obtain ⟨o, ho⟩ : ∃ o, S[k]? = some o := ⟨_, List.getElem?_eq_getElem (by have := HSN.out; omega)⟩
            have HOI := Lib.hid ho
            have hot : o.toks.length ≤ 20 := HOK.out.tk o (List.mem_of_getElem? ho)
            obtain ⟨wo2, rfl⟩ : ∃ wo2 : World, wo2 = wr := ⟨_, rfl⟩
            clear hkj hk ho
            go_wp2_with fail
            go_loopg [10, 12] o.toks.length (fun jj vf vj wr => ∃ (j : Nat) (f : ByteArray), j + jj = o.toks.length ∧ vj = .int .i64 j ∧ vf = .string f ∧ Hid (f = if p1 ∈ o.toks.take j then o.name else firstT (S.drop (k + 1)) p1) ∧ Kept noBlock w7 wr)
            case atStart => exact ⟨0, f, by omega, rfl, rfl, Lib.hid (by rw [if_neg (by simp)]; have := HF.out; rw [show ((k : Int) + 1).toNat = k + 1 by omega] at this; exact this), HK.out⟩
            case round =>
              obtain ⟨j, f', hjj, rfl, rfl, HF', hk⟩ := hrel
              have HJJ := Lib.hid hjj
              have HKr := Lib.hid hk
              obtain ⟨x, gx, ox, -, hxn, hidx, z0, z3, hts⟩ := (HTO.out.keptN hk).tok HOI.out
              rw [hxn] at z3 hts
              by_cases hj : j < o.toks.length
              · obtain ⟨t, htj⟩ : ∃ t, o.toks[j]? = some t := ⟨_, List.getElem?_eq_getElem hj⟩
                obtain ⟨gt, ot, hidt, ct⟩ := tok_at hts htj
                obtain ⟨gp, op, hidp, -, q0, -⟩ := p_at (SlK.keptNone HS7.out hk) psT HPI.out
                simp only [] at q0
                have HMT := Lib.hid (mem_take_succ (t := p1) htj)
                clear hjj hk hxn hts htj
                by_cases e : t = p1
                · subst e
                  have hbe : (t == t) = true := by simp
                  have HFN : Hid (o.name = if t ∈ o.toks.take (j + 1) then o.name else firstT (S.drop (k + 1)) t) := Lib.hid (by rw [if_pos (HMT.out.2 (.inr rfl))])
                  go_wp2_with fail
                  go_quiet (fail)
                  go_wp2_with fail
                  go_roundg (o.toks.length - (j + 1))
                  case measure => have := HJJ.out; omega
                  case rel => exact ⟨j + 1, o.name, by have := HJJ.out; omega, by go_num, rfl, HFN, HKr.out.drewN _⟩
                · have hbe : (t == p1) = false := beq_eq_false_iff_ne.2 e
                  have HFN : Hid (f' = if p1 ∈ o.toks.take (j + 1) then o.name else firstT (S.drop (k + 1)) p1) := Lib.hid (by
                    rw [HF'.out]
                    by_cases hm : p1 ∈ o.toks.take j
                    · rw [if_pos hm, if_pos (HMT.out.2 (.inl hm))]
                    · rw [if_neg hm, if_neg fun h => (HMT.out.1 h).elim hm e])
                  clear e
                  go_wp2_with fail
                  go_quiet (fail)
                  go_wp2_with fail
                  go_roundg (o.toks.length - (j + 1))
                  case measure => have := HJJ.out; omega
                  case rel => exact ⟨j + 1, f', by have := HJJ.out; omega, by go_num, rfl, HFN, HKr.out.drewN _⟩
              · obtain rfl : j = o.toks.length := by omega
                have HFN : Hid (f' = firstT (S.drop ((k : Int) - 1 + 1).toNat) p1) := Lib.hid (by
                  rw [HF'.out, List.take_length, show ((k : Int) - 1 + 1).toNat = k by omega]
                  have hd : S.drop k = o :: S.drop (k + 1) := by
                    rw [List.drop_eq_getElem_cons (List.getElem?_eq_some_iff.1 HOI.out).1, (List.getElem?_eq_some_iff.1 HOI.out).2]
                  rw [hd, firstT_cons])
                clear hjj hk hxn hts
                go_wp2_with fail
                go_roundg k
                case measure => have := HKJ.out; omega
                case rel => exact ⟨(k : Int) - 1, f', by omega, by omega, by omega, rfl, rfl, HFN, HKr.out⟩
          · obtain rfl : ki = -1 := by omega
            have hf : f = p2 := by
              rw [HF.out, show ((-1 : Int) + 1).toNat = 0 from rfl, List.drop_zero]
              exact HPF.out
            subst hf
            obtain ⟨gp, op, hidp, -, -, q1⟩ := p_at (SlK.keptNone HS7.out hk) psT HPI.out
            have hbs := strEq_self f
            clear hkj hk
            go_wp2_with fail
            go_roundg (P.length - (i + 1))
            case measure => have := HIJ.out; omega
            case rel => exact ⟨i + 1, by have := HIJ.out; omega, by go_num, HK.out⟩
      · obtain rfl : i = P.length := by omega
        have HKA := Lib.hid hk
        obtain ⟨wA, rfl⟩ : ∃ wA : World, wA = wr := ⟨_, rfl⟩
        clear hij hk
        go_wp2_with fail
        go_loopg [8, 13] n5 (fun jj vn vk wr => ∃ k N : Nat, k + jj = n5 ∧ vk = .int .i64 k ∧ vn = .int .i64 N ∧ Hid (N = hitsN P (pairsH (S.take k))) ∧ N ≤ k * 8000 ∧ Kept noBlock w7 wr)
        case atStart => exact ⟨0, 0, by omega, rfl, rfl, Lib.hid rfl, by omega, HKA.out⟩
        case round =>
          obtain ⟨k, N, hkj, rfl, rfl, HN, hNb, hk⟩ := hrel
          have HKJ := Lib.hid hkj
          have HK := Lib.hid hk
          by_cases hk5 : k < n5
          · obtain ⟨o, ho⟩ : ∃ o, S[k]? = some o := ⟨_, List.getElem?_eq_getElem (by have := HSN.out; omega)⟩
            have HOI := Lib.hid ho
            have hot : o.toks.length ≤ 20 := HOK.out.tk o (List.mem_of_getElem? ho)
            have HUP := Lib.hid (HOK.out.up o (List.mem_of_getElem? ho))
            obtain ⟨wB, rfl⟩ : ∃ wB : World, wB = wr := ⟨_, rfl⟩
            clear hkj hk ho
            go_wp2_with fail
            go_loopg [8, 14] o.toks.length (fun jj vn vj wr => ∃ j N : Nat, j + jj = o.toks.length ∧ vj = .int .i64 j ∧ vn = .int .i64 N ∧ Hid (N = hitsN P (pairsH (S.take k) ++ (o.toks.take j).map fun t => (t, o.name))) ∧ N ≤ k * 8000 + j * 400 ∧ Kept noBlock w7 wr)
            case atStart => exact ⟨0, N, by omega, rfl, rfl, by rw [List.take_zero, List.map_nil, List.append_nil]; exact HN, by omega, HK.out⟩
            case round =>
              clear HN hNb
              obtain ⟨j, N, hjj, rfl, rfl, HN, hNb, hk⟩ := hrel
              have HJJ := Lib.hid hjj
              have HKr := Lib.hid hk
              obtain ⟨x, gx, ox, -, hxn, hidx, z0, z3, hts⟩ := (HTO.out.keptN hk).tok HOI.out
              rw [hxn] at z3 hts
              by_cases hj : j < o.toks.length
              · obtain ⟨t, htj⟩ : ∃ t, o.toks[j]? = some t := ⟨_, List.getElem?_eq_getElem hj⟩
                have HTJ := Lib.hid htj
                by_cases hj0 : 0 < j
                · obtain ⟨tp, htp⟩ : ∃ tp, o.toks[j - 1]? = some tp := ⟨_, List.getElem?_eq_getElem (by omega)⟩
                  obtain ⟨gt, ot, hidt, ct⟩ := tok_at hts htj
                  obtain ⟨gq, oq, hidq, cq⟩ := tok_at hts htp
                  have hlt : tp < t := by
                    have h1 := List.pairwise_iff_getElem.1 HUP.out (j - 1) j (by omega) hj (by omega)
                    rw [(List.getElem?_eq_some_iff.1 htj).2, (List.getElem?_eq_some_iff.1 htp).2] at h1
                    exact h1
                  have hjm : ((j - 1 : Nat) : Int) = (j : Int) - 1 := by omega
                  rw [hjm] at hidq
                  have hw : IntKind.i64.wrap ((j : Int) - 1) = (j : Int) - 1 := by rw [IntKind.wrap_i64]; omega
                  have hgd : decide ((0 : Int) < (j : Int)) = true := by simp; omega
                  have hle : decide (t ≤ tp) = false := by simp; omega
                  clear hjj hk hxn hts htj htp hjm hlt
                  go_wp2_with fail
                  go_quiet (fail)
                  clear hle hgd hw hidq cq hidt ct hidx z0 z3
                  go_wp2_with fail
                  obtain ⟨wC, rfl⟩ : ∃ wC : World, wC = wr := ⟨_, rfl⟩
                  go_loopg [8, 15] P.length (fun jj vn vi wr => ∃ i M : Nat, i + jj = P.length ∧ vi = .int .i64 i ∧ vn = .int .i64 M ∧ Hid (M = N + ((P.take i).filter fun p => decide (p = (t, o.name))).length) ∧ M ≤ N + i ∧ Kept noBlock w7 wr)
                  case atStart => exact ⟨0, N, by omega, rfl, rfl, Lib.hid rfl, by omega, HKr.out.drewN _⟩
                  case round =>
                    obtain ⟨i, M, hii, rfl, rfl, HM, hMb, hk⟩ := hrel
                    have HII := Lib.hid hii
                    have HKi := Lib.hid hk
                    obtain ⟨x, gx, ox, -, hxn, hidx, z0, z3, hts⟩ := (HTO.out.keptN hk).tok HOI.out
                    rw [hxn] at z3 hts
                    obtain ⟨gt, ot, hidt, ct⟩ := tok_at hts HTJ.out
                    by_cases hi : i < P.length
                    · obtain ⟨p, hp⟩ : ∃ p, P[i]? = some p := ⟨_, List.getElem?_eq_getElem hi⟩
                      obtain ⟨p1, p2⟩ := p
                      obtain ⟨gp, op, hidp, -, q0, q1⟩ := p_at (SlK.keptNone HS7.out hk) psT hp
                      simp only [] at q0 q1
                      have hfs : ((P.take (i + 1)).filter fun p => decide (p = (t, o.name))).length = ((P.take i).filter fun p => decide (p = (t, o.name))).length + if (p1, p2) = (t, o.name) then 1 else 0 := by
                        rw [List.take_add_one, hp, List.filter_append, List.length_append]
                        by_cases e : (p1, p2) = (t, o.name) <;> simp [e]
                      have HFS := Lib.hid hfs
                      clear hii hk hxn hts hp hfs
                      by_cases e1 : p1 = t
                      · by_cases e2 : p2 = o.name
                        · have HFN : Hid (M + 1 = N + ((P.take (i + 1)).filter fun p => decide (p = (t, o.name))).length) := Lib.hid (by rw [HFS.out, if_pos (by rw [e1, e2]), HM.out, Nat.add_assoc])
                          have hb1 : (p1 == t) = true := beq_iff_eq.2 e1
                          have hb2 : (p2.toList == o.name.toList) = true := by rw [e2]; exact strEq_self _
                          clear e1 e2
                          go_wp2_with fail
                          go_quiet (fail)
                          go_wp2_with fail
                          go_roundg (P.length - (i + 1))
                          case measure => have := HII.out; omega
                          case rel => exact ⟨i + 1, M + 1, by have := HII.out; omega, by go_num, by go_num, HFN, by omega, HKi.out.drewN _⟩
                        · have HFN : Hid (M = N + ((P.take (i + 1)).filter fun p => decide (p = (t, o.name))).length) := Lib.hid (by rw [HFS.out, if_neg (fun e => e2 (congrArg Prod.snd e)), HM.out]; rfl)
                          have hb1 : (p1 == t) = true := beq_iff_eq.2 e1
                          have hb2 : (p2.toList == o.name.toList) = false := strEq_ne e2
                          clear e1 e2
                          go_wp2_with fail
                          go_quiet (fail)
                          go_wp2_with fail
                          go_roundg (P.length - (i + 1))
                          case measure => have := HII.out; omega
                          case rel => exact ⟨i + 1, M, by have := HII.out; omega, by go_num, rfl, HFN, by omega, HKi.out.drewN _⟩
                      · have HFN : Hid (M = N + ((P.take (i + 1)).filter fun p => decide (p = (t, o.name))).length) := Lib.hid (by rw [HFS.out, if_neg (fun e => e1 (congrArg Prod.fst e)), HM.out]; rfl)
                        have hb1 : (p1 == t) = false := beq_eq_false_iff_ne.2 e1
                        clear e1
                        go_wp2_with fail
                        go_quiet (fail)
                        go_wp2_with fail
                        go_roundg (P.length - (i + 1))
                        case measure => have := HII.out; omega
                        case rel => exact ⟨i + 1, M, by have := HII.out; omega, by go_num, rfl, HFN, by omega, HKi.out.drewN _⟩
                    · obtain rfl : i = P.length := by omega
                      have HFN : Hid (M = hitsN P (pairsH (S.take k) ++ (o.toks.take (j + 1)).map fun t => (t, o.name))) := Lib.hid (by
                        have h1 := HM.out
                        rw [List.take_length] at h1
                        rw [h1, HN.out, List.take_add_one, HTJ.out, List.map_append, ← List.append_assoc]
                        exact (hits_snoc P _ (t, o.name)).symm)
                      obtain ⟨hP0, how⟩ := HRP.out.has (t, o.name) (toks_mem.2 ⟨o, List.mem_of_getElem? HOI.out, List.mem_of_getElem? HTJ.out, rfl⟩)
                      have hfl := first_le HOK.out.ris (List.mem_of_getElem? HOI.out) (List.mem_of_getElem? HTJ.out)
                      simp only [] at how
                      have hl1 := less_or hfl
                      have hl2 := less_or2 hfl
                      have HOW : Hid (owner P t = firstT S t) := Lib.hid how
                      have HP0 : Hid (decide (0 < P.length) = true) := Lib.hid (decide_eq_true hP0)
                      clear hii hk hxn hts how hfl hP0
                      go_wp2_with fail
                      refine wp_region_sch (fun w' => Kept noBlock wr w') (.take 0 (.take 2 (.take 3 (.take 4 (.take 5 (.take 6 (.take 7 (.take 8 (.take 9 (.one 1 (.one 10 (.take 11 (.take 12 (.take 13 (.take 14 (.take 15 .nil)))))))))))))))) (by kernel_rfl) (by kernel_rfl) (by kernel_rfl) (Kept.refl _ _).drew ?_
                      repeat (first
                        | (refine sch_takeE rfl rfl ?_
                           apply Exists.intro
                           refine ⟨fun w' hS => ?_, fun K hK => ?_⟩
                           · (have q3 := hS.cellOf z3
                              have q4 := hS.cellOf ct
                              clear hS
                              unfold takesAt; go_simp; rfl)
                           go_simp
                           refine hK _ ?_
                           clear hK K))
                      refine sch_doK rfl rfl (fun K hK => ?_)
                      go_simp
                      go_at_call 14
                      refine (hRing_at (HT7.out.kept HKi.out.drew fun _ _ e => e) (Nat.le_trans HOK.out.len (by decide)) (fun o ho => Nat.le_trans (HOK.out.tk o ho) (by decide)) (Nat.le_trans HOK.out.pairs (by decide)) HOK.out.nm).mono ?_
                      rw [HPE.out]
                      rintro e w9 ⟨gr9, rfl, hr9, hk9, -⟩
                      have hk9' := ((Kept.refl noBlock wr).drew).trans hk9 fun _ _ e => e
                      refine hK _ _ hk9' ?_
                      clear hK K
                      refine sch_doK rfl rfl (fun K hK => ?_)
                      go_simp
                      go_at_call 18
                      refine (Rowner_at (t := t) hr9 HRP.out.ris (by omega)).mono ?_
                      rw [HOW.out, HP0.out]
                      rintro e w10 ⟨rfl, hk10⟩
                      have hk10' := hk9'.trans hk10 fun _ _ e => e
                      refine hK _ _ hk10' ?_
                      clear hK K
                      have HK10 := Lib.hid (HKi.out.trans hk10' fun _ _ e => e)
                      have z10 := hk10'.cellOf z0
                      clear hk9 hk9' hk10 hk10' hr9
                      repeat (first
                        | (refine sch_takeE rfl rfl ?_
                           apply Exists.intro
                           refine ⟨fun w' hS => ?_, fun K hK => ?_⟩
                           · (clear hS
                              unfold takesAt; go_simp; rfl)
                           go_simp
                           refine hK _ ?_
                           clear hK K))
                      refine sch_nil (NoPanic.normal ?_)
                      clear z0 z3 ct
                      go_wp2_with fail
                      go_roundg (o.toks.length - (j + 1))
                      case measure => have := HJJ.out; omega
                      case rel => exact ⟨j + 1, M, by have := HJJ.out; omega, by go_num, rfl, HFN, by omega, HK10.out⟩
                · have hgd : decide ((0 : Int) < (j : Int)) = false := by simp; omega
                  clear hjj hk hxn hts htj
                  go_wp2_with fail
                  go_quiet (fail)
                  clear hgd hidx z0 z3
                  go_wp2_with fail
                  obtain ⟨wC, rfl⟩ : ∃ wC : World, wC = wr := ⟨_, rfl⟩
                  go_loopg [8, 15] P.length (fun jj vn vi wr => ∃ i M : Nat, i + jj = P.length ∧ vi = .int .i64 i ∧ vn = .int .i64 M ∧ Hid (M = N + ((P.take i).filter fun p => decide (p = (t, o.name))).length) ∧ M ≤ N + i ∧ Kept noBlock w7 wr)
                  case atStart => exact ⟨0, N, by omega, rfl, rfl, Lib.hid rfl, by omega, HKr.out.drewN _⟩
                  case round =>
                    obtain ⟨i, M, hii, rfl, rfl, HM, hMb, hk⟩ := hrel
                    have HII := Lib.hid hii
                    have HKi := Lib.hid hk
                    obtain ⟨x, gx, ox, -, hxn, hidx, z0, z3, hts⟩ := (HTO.out.keptN hk).tok HOI.out
                    rw [hxn] at z3 hts
                    obtain ⟨gt, ot, hidt, ct⟩ := tok_at hts HTJ.out
                    by_cases hi : i < P.length
                    · obtain ⟨p, hp⟩ : ∃ p, P[i]? = some p := ⟨_, List.getElem?_eq_getElem hi⟩
                      obtain ⟨p1, p2⟩ := p
                      obtain ⟨gp, op, hidp, -, q0, q1⟩ := p_at (SlK.keptNone HS7.out hk) psT hp
                      simp only [] at q0 q1
                      have hfs : ((P.take (i + 1)).filter fun p => decide (p = (t, o.name))).length = ((P.take i).filter fun p => decide (p = (t, o.name))).length + if (p1, p2) = (t, o.name) then 1 else 0 := by
                        rw [List.take_add_one, hp, List.filter_append, List.length_append]
                        by_cases e : (p1, p2) = (t, o.name) <;> simp [e]
                      have HFS := Lib.hid hfs
                      clear hii hk hxn hts hp hfs
                      by_cases e1 : p1 = t
                      · by_cases e2 : p2 = o.name
                        · have HFN : Hid (M + 1 = N + ((P.take (i + 1)).filter fun p => decide (p = (t, o.name))).length) := Lib.hid (by rw [HFS.out, if_pos (by rw [e1, e2]), HM.out, Nat.add_assoc])
                          have hb1 : (p1 == t) = true := beq_iff_eq.2 e1
                          have hb2 : (p2.toList == o.name.toList) = true := by rw [e2]; exact strEq_self _
                          clear e1 e2
                          go_wp2_with fail
                          go_quiet (fail)
                          go_wp2_with fail
                          go_roundg (P.length - (i + 1))
                          case measure => have := HII.out; omega
                          case rel => exact ⟨i + 1, M + 1, by have := HII.out; omega, by go_num, by go_num, HFN, by omega, HKi.out.drewN _⟩
                        · have HFN : Hid (M = N + ((P.take (i + 1)).filter fun p => decide (p = (t, o.name))).length) := Lib.hid (by rw [HFS.out, if_neg (fun e => e2 (congrArg Prod.snd e)), HM.out]; rfl)
                          have hb1 : (p1 == t) = true := beq_iff_eq.2 e1
                          have hb2 : (p2.toList == o.name.toList) = false := strEq_ne e2
                          clear e1 e2
                          go_wp2_with fail
                          go_quiet (fail)
                          go_wp2_with fail
                          go_roundg (P.length - (i + 1))
                          case measure => have := HII.out; omega
                          case rel => exact ⟨i + 1, M, by have := HII.out; omega, by go_num, rfl, HFN, by omega, HKi.out.drewN _⟩
                      · have HFN : Hid (M = N + ((P.take (i + 1)).filter fun p => decide (p = (t, o.name))).length) := Lib.hid (by rw [HFS.out, if_neg (fun e => e1 (congrArg Prod.fst e)), HM.out]; rfl)
                        have hb1 : (p1 == t) = false := beq_eq_false_iff_ne.2 e1
                        clear e1
                        go_wp2_with fail
                        go_quiet (fail)
                        go_wp2_with fail
                        go_roundg (P.length - (i + 1))
                        case measure => have := HII.out; omega
                        case rel => exact ⟨i + 1, M, by have := HII.out; omega, by go_num, rfl, HFN, by omega, HKi.out.drewN _⟩
                    · obtain rfl : i = P.length := by omega
                      have HFN : Hid (M = hitsN P (pairsH (S.take k) ++ (o.toks.take (j + 1)).map fun t => (t, o.name))) := Lib.hid (by
                        have h1 := HM.out
                        rw [List.take_length] at h1
                        rw [h1, HN.out, List.take_add_one, HTJ.out, List.map_append, ← List.append_assoc]
                        exact (hits_snoc P _ (t, o.name)).symm)
                      obtain ⟨hP0, how⟩ := HRP.out.has (t, o.name) (toks_mem.2 ⟨o, List.mem_of_getElem? HOI.out, List.mem_of_getElem? HTJ.out, rfl⟩)
                      have hfl := first_le HOK.out.ris (List.mem_of_getElem? HOI.out) (List.mem_of_getElem? HTJ.out)
                      simp only [] at how
                      have hl1 := less_or hfl
                      have hl2 := less_or2 hfl
                      have HOW : Hid (owner P t = firstT S t) := Lib.hid how
                      have HP0 : Hid (decide (0 < P.length) = true) := Lib.hid (decide_eq_true hP0)
                      clear hii hk hxn hts how hfl hP0
                      go_wp2_with fail
                      refine wp_region_sch (fun w' => Kept noBlock wr w') (.take 0 (.take 2 (.take 3 (.take 4 (.take 5 (.take 6 (.take 7 (.take 8 (.take 9 (.one 1 (.one 10 (.take 11 (.take 12 (.take 13 (.take 14 (.take 15 .nil)))))))))))))))) (by kernel_rfl) (by kernel_rfl) (by kernel_rfl) (Kept.refl _ _).drew ?_
                      repeat (first
                        | (refine sch_takeE rfl rfl ?_
                           apply Exists.intro
                           refine ⟨fun w' hS => ?_, fun K hK => ?_⟩
                           · (have q3 := hS.cellOf z3
                              have q4 := hS.cellOf ct
                              clear hS
                              unfold takesAt; go_simp; rfl)
                           go_simp
                           refine hK _ ?_
                           clear hK K))
                      refine sch_doK rfl rfl (fun K hK => ?_)
                      go_simp
                      go_at_call 14
                      refine (hRing_at (HT7.out.kept HKi.out.drew fun _ _ e => e) (Nat.le_trans HOK.out.len (by decide)) (fun o ho => Nat.le_trans (HOK.out.tk o ho) (by decide)) (Nat.le_trans HOK.out.pairs (by decide)) HOK.out.nm).mono ?_
                      rw [HPE.out]
                      rintro e w9 ⟨gr9, rfl, hr9, hk9, -⟩
                      have hk9' := ((Kept.refl noBlock wr).drew).trans hk9 fun _ _ e => e
                      refine hK _ _ hk9' ?_
                      clear hK K
                      refine sch_doK rfl rfl (fun K hK => ?_)
                      go_simp
                      go_at_call 18
                      refine (Rowner_at (t := t) hr9 HRP.out.ris (by omega)).mono ?_
                      rw [HOW.out, HP0.out]
                      rintro e w10 ⟨rfl, hk10⟩
                      have hk10' := hk9'.trans hk10 fun _ _ e => e
                      refine hK _ _ hk10' ?_
                      clear hK K
                      have HK10 := Lib.hid (HKi.out.trans hk10' fun _ _ e => e)
                      have z10 := hk10'.cellOf z0
                      clear hk9 hk9' hk10 hk10' hr9
                      repeat (first
                        | (refine sch_takeE rfl rfl ?_
                           apply Exists.intro
                           refine ⟨fun w' hS => ?_, fun K hK => ?_⟩
                           · (clear hS
                              unfold takesAt; go_simp; rfl)
                           go_simp
                           refine hK _ ?_
                           clear hK K))
                      refine sch_nil (NoPanic.normal ?_)
                      clear z0 z3 ct
                      go_wp2_with fail
                      go_roundg (o.toks.length - (j + 1))
                      case measure => have := HJJ.out; omega
                      case rel => exact ⟨j + 1, M, by have := HJJ.out; omega, by go_num, rfl, HFN, by omega, HK10.out⟩
              · obtain rfl : j = o.toks.length := by omega
                have HFN : Hid (N = hitsN P (pairsH (S.take (k + 1)))) := Lib.hid (by
                  rw [HN.out, List.take_length, List.take_add_one, HOI.out]
                  exact congrArg (hitsN P) (pairs_snoc _ _).symm)
                clear hjj hk hxn hts
                go_wp2_with fail
                go_roundg (n5 - (k + 1))
                case measure => have := HKJ.out; omega
                case rel => exact ⟨k + 1, N, by have := HKJ.out; omega, by go_num, rfl, HFN, by omega, HKr.out⟩
          · obtain rfl : k = n5 := by omega
            have hNP : N = P.length := by
              rw [HN.out, List.take_of_length_le (by have := HSN.out; omega)]
              exact hits_all HRP.out.nd (pairs_nodup HOK.out.ris HOK.out.up) HRP.out.sub
            subst hNP
            clear hkj hk
            go_wp2
            go_ret
            exact ⟨by simp, HK7.out.trans HK.out fun _ _ e => e⟩
end Go.Proofs.Ytjkmgpmknadhjaa

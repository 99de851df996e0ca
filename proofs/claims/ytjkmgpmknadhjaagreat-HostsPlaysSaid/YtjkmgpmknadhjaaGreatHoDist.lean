/- hosts: Distance. -/
import Derived.Test.YtjkmgpmknadhjaaGreatHoVals
import Derived.Test.YtjkmgpmknadhjaaGreatHoMark
import Derived.Sort.Walk0
namespace Go.Proofs.YtjkmgpmknadhjaaGreat
set_option linter.unusedVariables false
open Go.RowKit
open Go.ChangeMaps (setBlock)

theorem hDistN_at (x : ByteArray) (w : World) : Calls Tryz.prog 18 #[.pointer none, .string x] w fun e w' => e = .returned (.int .i64 0) ∧ w' = w := by
  go_enter Tryz.func18, Tryz.ntmps18
  go_wp2
  go_ret
  exact ⟨rfl, rfl⟩
theorem less_nlt (a b : ByteArray) : Op.bytesLess a.toList b.toList = decide (nlt a b) := (Go.Proofs.bytesLess_eq _ _).trans (by unfold nlt; congr)
def isAhead (d x : ByteArray) (o : HV) : Bool := decide (o.dc = d) && decide (nlt o.name x)
section
variable {w : World} {own : Nat → Prop} {g : Nat} {dc : ByteArray} {rem : Int} {S : List Ho}
set_option maxHeartbeats 2000000 in
set_option maxRecDepth 100000 in
theorem hDist_at (h : TabS w own g dc rem S) (x : ByteArray) (hSl : S.length ≤ 1000000) : Calls Tryz.prog 18 #[.pointer (some ⟨g, 0, none⟩), .string x] w fun e w' => e = .returned (.int .i64 (distP dc rem S x)) ∧ Kept noBlock w w' := by
  obtain ⟨m, L, hT, hS, hv⟩ := h
  have z2 := hT.blk.cell 2
  simp only [List.getElem?_toArray, List.getElem?_cons_succ, List.getElem?_cons_zero] at z2
  have l1 := hT.map.run_lookup (P := Tryz.prog) string_emb mshM strU (zero_host w) x true
  have hvx := hv x
  unfold distP
  cases hx : aget x L with
  | none =>
    rw [hx] at l1 hvx
    rw [← hvx]
    simp only [Option.map_none, Option.getD_none, Option.isSome_none, if_true] at l1
    clear hT hv hvx hx
    go_enter Tryz.func18, Tryz.ntmps18
    go_wp2_with fail
    go_ret
    exact ⟨rfl, (Kept.refl noBlock w).alloc _⟩
  | some v =>
    rw [hx] at l1 hvx
    rw [← hvx]
    have hnx : v.name = x := (hT.nm _ (aget_mem hx)).1
    obtain ⟨n1, n2, n3, ta, tn, tc, tk, vu⟩ := v
    simp only at hnx
    subst hnx
    simp only [Option.map_some, Option.getD_some, Option.isSome_some, if_true, hvV] at l1
    have hperm := tab_perm hT.nd hT.nm hS hv
    have hahead : ((L.map (·.2)).filter (isAhead n2 n1)).length = aheadN S n2 n1 := by
      rw [← ahead_perm hperm]
      unfold aheadN
      conv => rhs; rw [show (L.map fun p => p.2.abs) = (L.map (·.2)).map HV.abs by rw [List.map_map]; rfl, List.filter_map, List.length_map]
      rfl
    have hLl : L.length ≤ 1000000 := by
      have := hperm.length_eq
      rw [List.length_map] at this
      omega
    have hk1 : Kept noBlock w (w.alloc (.cells #[.string n1, .string n2, .string n3, .slice ta tn tc, .bool vu] 59)) := (Kept.refl noBlock w).alloc _
    have hb : Blk (w.alloc (.cells #[.string n1, .string n2, .string n3, .slice ta tn tc, .bool vu] 59)) w.heap.size 59 #[.string n1, .string n2, .string n3, .slice ta tn tc, .bool vu] := Blk.new _ _ _
    have HT := Lib.hid (hT.keptN hk1)
    have HB := Lib.hid hb
    have HK := Lib.hid hk1
    have HA := Lib.hid hahead
    simp only [Option.map_some]
    generalize hrr : (if (HV.abs ⟨n1, n2, n3, ta, tn, tc, tk, vu⟩).dc = dc then (1 : Int) else if (aheadN S (HV.abs ⟨n1, n2, n3, ta, tn, tc, tk, vu⟩).dc n1 : Int) < rem then 2 else 0) = r
    have HRR : Hid ((if n2 = dc then (1 : Int) else if (aheadN S n2 n1 : Int) < rem then 2 else 0) = r) := Lib.hid hrr
    clear hT hv hvx hx hperm hahead hb hk1 hrr
    go_enter Tryz.func18, Tryz.ntmps18
    go_wp2_with fail
    generalize w.alloc (.cells #[.string n1, .string n2, .string n3, .slice ta tn tc, .bool vu] 59) = w1 at *
    generalize w.heap.size = Nn at *
    have t0 := HT.out.blk.cell 0
    have t1 := HT.out.blk.cell 1
    have t2 := HT.out.blk.cell 2
    have y0 := HB.out.cell 0
    have y1 := HB.out.cell 1
    simp only [List.getElem?_toArray, List.getElem?_cons_succ, List.getElem?_cons_zero] at t0 t1 t2 y0 y1
    clear z2 l1
    by_cases hdc : n2 = dc
    · subst hdc
      have hbe := strEq_self n2
      go_region
      go_wp2_with fail
      go_ret
      have e1 := HRR.out
      simp only [if_true] at e1
      exact ⟨by rw [← e1]; rfl, HK.out.drew⟩
    · have hbe := strEq_ne hdc
      obtain ⟨es, ck, hh, hst, hL⟩ := HT.out.map
      have hlt := lt_of_heap hh
      have hrg := run_range_map (P := Tryz.prog) w1.drew 62 9 59 m es ck mshM hh
      have hlen : es.toList.length = (L.map (·.2)).length := by
        have := congrArg List.length hL
        simpa using this
      have hent : ∀ e ∈ es.toList, ∃ (i : Nat) (p : ByteArray × HV), es.toList[i]? = some e ∧ (L.map (·.2))[i]? = some p.2 ∧ e.val = hvV p.2 := by
        intro e he
        obtain ⟨i, hi⟩ := List.getElem?_of_mem he
        have h1 := congrArg (fun l => l[i]?) hL
        simp only [List.getElem?_map, hi, Option.map_some] at h1
        cases hp : L[i]? with
        | none => rw [hp] at h1; simp at h1
        | some p =>
          rw [hp] at h1
          simp only [Option.map_some, Option.some.injEq, Prod.mk.injEq] at h1
          exact ⟨i, p, hi, by rw [List.getElem?_map, hp]; rfl, h1.2⟩
      have HENT := Lib.hid hent
      have HLEN := Lib.hid hlen
      have HST := Lib.hid hst
      have HDC := Lib.hid hdc
      have hsz1 := lt_of_heap hh
      clear hL hent hlen hst hdc
      go_region
      go_wp2_with fail
      generalize hRr : w1.heap.size = Rr at *
      go_loopw [7] (fun va wr => ∃ seen c0 n, va = .int .i64 (n : Nat) ∧ wr.heap[Rr]? = some (.mapIter (some m) ck seen c0) ∧ ck ≤ c0 ∧ n = ((vis seen es.toList (L.map (·.2))).filter (isAhead n2 n1)).length ∧ Kept noBlock w1 wr) (fun _ wr => (leftOf es (wr.iterSeen Rr)).size)
      case atStart =>
        subst hRr
        exact ⟨#[], ck, 0, rfl, heap_alloc_new w1.drew _, Nat.le_refl _, by rw [vis_none]; rfl, ((Kept.refl noBlock w1).drew).alloc _⟩
      case round =>
        obtain ⟨seen, c0, n, rfl, hr, hc0, hn, hk⟩ := hrel
        have hb1 : wr.heap[m]? = some (.map es ck) := (hk.block m (by rw [hRr]; exact hlt) (fun h => h)).trans hh
        have hzw := hk.size
        have law := run_next_at (P := Tryz.prog) wr 0 Rr m ck c0 seen es ck hr hb1 HST.out.1 hc0
        have HKR := Lib.hid hk
        have y0r := (HB.out.kept hk (fun e => e)).cell 0
        have y1r := (HB.out.kept hk (fun e => e)).cell 1
        have t1r := (HT.out.blk.kept hk (fun e => e)).cell 1
        simp only [List.getElem?_toArray, List.getElem?_cons_succ, List.getElem?_cons_zero] at y0r y1r t1r
        rcases law with ⟨h0, hrun⟩ | ⟨e, he, w2, hw2, hrun⟩
        · have hnx : ∀ ty, (Instr.next (.pointer (some ⟨Rr, 0, none⟩)) false ty).run Tryz.prog wr = _ := fun _ => hrun
          rw [vis_all es.toList (L.map (·.2)) HLEN.out (all_seen es seen h0), HA.out] at hn
          have HN := Lib.hid hn
          clear hk hn
          by_cases hlr : (n : Int) < rem
          · go_wp2_with fail
            go_ret
            have e1 := HRR.out
            rw [if_neg HDC.out, ← HN.out, if_pos hlr] at e1
            exact ⟨by rw [← e1]; rfl, HK.out.trans HKR.out (fun _ _ e => e)⟩
          · go_wp2_with fail
            go_ret
            have e1 := HRR.out
            rw [if_neg HDC.out, ← HN.out, if_neg (Int.not_lt.2 hlr)] at e1
            exact ⟨by rw [← e1]; rfl, HK.out.trans HKR.out (fun _ _ e => e)⟩
        · have hem := mem_left he
          obtain ⟨i, p, hei, hpi, hv⟩ := HENT.out e hem.1
          rw [hv] at hrun
          have hnx : ∀ ty, (Instr.next (.pointer (some ⟨Rr, 0, none⟩)) false ty).run Tryz.prog wr = _ := fun _ => hrun
          have hst1 := vis_step es.toList (L.map (·.2)) i HST.out.2.1 hei hpi hem.2
          have hg : wr.grownBy (setBlock w2 Rr (.mapIter (some m) ck (seen.push e.born) ck)) (some Rr) := grown_iter hw2
          have hk2 : Kept noBlock w1 (setBlock w2 Rr (.mapIter (some m) ck (seen.push e.born) ck)) := by
            have : Kept noBlock w1 w2 := by
              rcases hw2 with rfl | rfl
              · exact hk
              · exact hk.drew
            exact this.setBlock (m := Rr) (fun h => absurd h (by omega)) _
          have hr2 : (setBlock w2 Rr (.mapIter (some m) ck (seen.push e.born) ck)).heap[Rr]? = some (.mapIter (some m) ck (seen.push e.born) ck) := heap_setBlock_me (by rcases hw2 with rfl | rfl <;> exact lt_of_heap hr) _
          have hb2 : (setBlock w2 Rr (.mapIter (some m) ck (seen.push e.born) ck)).heap[m]? = some (.map es ck) := (hk2.block m (by rw [hRr]; exact hlt) (fun h => h)).trans hh
          have hen := run_entry_at (P := Tryz.prog) (setBlock w2 Rr (.mapIter (some m) ck (seen.push e.born) ck)) Rr m ck seen es ck e hr2 hb2 hem.1 HST.out.2.1
          rw [hv] at hen
          have hnn : ((vis (seen.push e.born) es.toList (L.map (·.2))).filter (isAhead n2 n1)).length = n + ([p.2].filter (isAhead n2 n1)).length := by
            rw [(hst1.filter _).length_eq, List.filter_append, List.length_append, ← hn]
          have hnb : n ≤ 1000000 := by
            have h1 := List.length_filter_le (isAhead n2 n1) (vis seen es.toList (L.map (·.2)))
            have h2 := vis_len (seen := seen) es.toList (L.map (·.2))
            rw [List.length_map] at h2
            omega
          have HNN := Lib.hid hnn
          have HMS := Lib.hid (left_shrinks es seen e he)
          have HR := Lib.hid hr
          obtain ⟨key, m1, m2, m3, sa, sn, sc, sk, su⟩ := p
          simp only [hvV] at hrun hnx hen
          clear hst1 hg hei hpi hn hk hnn hv
          generalize setBlock w2 Rr (.mapIter (some m) ck (seen.push e.born) ck) = w3 at *
          have hk3 : Kept noBlock w1 (w3.alloc (.cells #[.string m1, .string m2, .string m3, .slice sa sn sc, .bool su] 59)) := hk2.alloc _
          have hb : Blk (w3.alloc (.cells #[.string m1, .string m2, .string m3, .slice sa sn sc, .bool su] 59)) w3.heap.size 59 #[.string m1, .string m2, .string m3, .slice sa sn sc, .bool su] := Blk.new _ _ _
          have u0 := hb.cell 0
          have u1 := hb.cell 1
          have v0 := (HB.out.kept hk3 (fun e => e)).cell 0
          have v1 := (HB.out.kept hk3 (fun e => e)).cell 1
          simp only [List.getElem?_toArray, List.getElem?_cons_succ, List.getElem?_cons_zero] at u0 u1 v0 v1
          have hr3 := (heap_alloc_old w3 (.cells #[.string m1, .string m2, .string m3, .slice sa sn sc, .bool su] 59) (lt_of_heap hr2)).trans hr2
          have HR3 := Lib.hid hr3
          have HK3 := Lib.hid hk3
          have hw1 : IntKind.i64.wrap ((n : Int) + 1) = (n : Int) + 1 := by rw [IntKind.wrap_i64]; omega
          clear hk2 hb hr2 hb2 hr3 hk3 y0r y1r t1r
          by_cases hd : m2 = n2
          · subst hd
            have hbe2 := strEq_self m2
            by_cases hl : nlt m1 n1
            · have hl2 : Op.bytesLess m1.toList n1.toList = true := by rw [less_nlt]; exact decide_eq_true hl
              have HC : Hid (([(⟨m1, m2, m3, sa, sn, sc, sk, su⟩ : HV)].filter (isAhead m2 n1)).length = 1) := Lib.hid (by simp [isAhead, hl])
              clear hl
              go_wp2_with fail
              go_roundw
              case rel => exact ⟨_, ck, n + 1, by go_num, HR3.out, Nat.le_refl _, by rw [HNN.out, HC.out], HK3.out⟩
              case measure =>
                rw [iterSeen_is HR3.out, iterSeen_is HR.out]
                exact HMS.out
            · have hl2 : Op.bytesLess m1.toList n1.toList = false := by rw [less_nlt]; exact decide_eq_false hl
              have HC : Hid (([(⟨m1, m2, m3, sa, sn, sc, sk, su⟩ : HV)].filter (isAhead m2 n1)).length = 0) := Lib.hid (by simp [isAhead, hl])
              clear hl
              go_wp2_with fail
              go_roundw
              case rel => exact ⟨_, ck, n, rfl, HR3.out, Nat.le_refl _, by rw [HNN.out, HC.out]; rfl, HK3.out⟩
              case measure =>
                rw [iterSeen_is HR3.out, iterSeen_is HR.out]
                exact HMS.out
          · have hbe2 := strEq_ne hd
            have HC : Hid (([(⟨m1, m2, m3, sa, sn, sc, sk, su⟩ : HV)].filter (isAhead n2 n1)).length = 0) := Lib.hid (by simp [isAhead, hd])
            clear hd
            go_wp2_with fail
            go_roundw
            case rel => exact ⟨_, ck, n, rfl, HR3.out, Nat.le_refl _, by rw [HNN.out, HC.out]; rfl, HK3.out⟩
            case measure =>
              rw [iterSeen_is HR3.out, iterSeen_is HR.out]
              exact HMS.out
end
end Go.Proofs.YtjkmgpmknadhjaaGreat

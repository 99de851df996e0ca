/- hosts: New, Mark. -/
import Derived.Test.YtjkmgpmknadhjaaGreatHoState
import Derived.Test.YtjkmgpmknadhjaaGreatSched2
namespace Go.Proofs.YtjkmgpmknadhjaaGreat
set_option linter.unusedVariables false
open Go.RowKit
open Go.ChangeMaps (setBlock)

theorem hNew_at (dc : ByteArray) (rem : Int) (w : World) : Calls Tryz.prog 5 #[.string dc, .int .i64 rem] w fun e w' => e = .returned (.pointer (some ⟨w.heap.size + 1, 0, none⟩)) ∧ TabS w' (fun k => k = w.heap.size + 1 ∨ k = w.heap.size) (w.heap.size + 1) dc rem [] ∧ Kept noBlock w w' := by
  have hmk := @run_makeMap Tryz.prog
  have hk : Kept noBlock w ((w.alloc (.map #[] 0)).alloc (.cells #[.string dc, .int .i64 rem, .map (some w.heap.size)] 64)) := ((Kept.refl noBlock w).alloc _).alloc _
  have hT : TabS ((w.alloc (.map #[] 0)).alloc (.cells #[.string dc, .int .i64 rem, .map (some w.heap.size)] 64)) (fun k => k = w.heap.size + 1 ∨ k = w.heap.size) (w.heap.size + 1) dc rem [] := by
    refine ⟨w.heap.size, [], ⟨Blk.new_at _ _ _ (by rw [sz_alloc]), (KMap.new w).alloc _, List.nodup_nil, .inl rfl, .inr rfl, fun p hp => absurd hp List.not_mem_nil, fun p hp => absurd hp List.not_mem_nil, fun k e => ?_⟩, .nil, fun x => rfl⟩
    simp only [sz_alloc]; omega
  have HK := Lib.hid hk
  have HT := Lib.hid hT
  clear hk hT
  go_enter Tryz.func5, Tryz.ntmps5
  go_wp2_with fail
  go_ret
  exact ⟨rfl, HT.out, HK.out⟩
theorem hMarkN_at (x : ByteArray) (up : Bool) (w : World) : Calls Tryz.prog 7 #[.pointer none, .string x, .bool up] w fun e w' => e = .returned (.bool false) ∧ w' = w := by
  go_enter Tryz.func7, Tryz.ntmps7
  go_wp2
  go_ret
  exact ⟨rfl, rfl⟩
section
variable {w : World} {own : Nat → Prop} {g : Nat} {dc : ByteArray} {rem : Int} {S : List Ho}
set_option maxHeartbeats 2000000 in
set_option maxRecDepth 100000 in
theorem hMark_at (h : TabS w own g dc rem S) (x : ByteArray) (up : Bool) : Calls Tryz.prog 7 #[.pointer (some ⟨g, 0, none⟩), .string x, .bool up] w fun e w' => e = .returned (.bool (markP S x up).2) ∧ TabS w' own g dc rem (markP S x up).1 ∧ Kept own w w' := by
  obtain ⟨m, L, hT, hS, hv⟩ := h
  have z2 := hT.blk.cell 2
  simp only [List.getElem?_toArray, List.getElem?_cons_succ, List.getElem?_cons_zero] at z2
  have l1 := hT.map.run_lookup (P := Tryz.prog) string_emb mshM strU (zero_host w) x true
  have hvx := hv x
  unfold markP
  cases hx : aget x L with
  | none =>
    rw [hx] at l1 hvx
    rw [← hvx]
    simp only [Option.map_none, Option.getD_none, Option.isSome_none, if_true] at l1
    have HF := Lib.hid (⟨m, L, hT.keptN ((Kept.refl noBlock w).alloc (.cells #[.string noStr, .string noStr, .string noStr, .slice none 0 0, .bool false] 59)), hS, hv⟩ : TabS (w.alloc (.cells #[.string noStr, .string noStr, .string noStr, .slice none 0 0, .bool false] 59)) own g dc rem S)
    clear hT hv hvx hx
    go_enter Tryz.func7, Tryz.ntmps7
    go_wp2_with fail
    go_ret
    exact ⟨rfl, HF.out, ((Kept.refl noBlock w).alloc _).of_none⟩
  | some v =>
    rw [hx] at l1 hvx
    rw [← hvx]
    obtain ⟨n1, n2, n3, ta, tn, tc, tk, vu⟩ := v
    simp only [Option.map_some, Option.getD_some, Option.isSome_some, if_true, hvV] at l1
    have hk1 : Kept noBlock w (w.alloc (.cells #[.string n1, .string n2, .string n3, .slice ta tn tc, .bool vu] 59)) := (Kept.refl noBlock w).alloc _
    have hb : Blk (w.alloc (.cells #[.string n1, .string n2, .string n3, .slice ta tn tc, .bool vu] 59)) w.heap.size 59 #[.string n1, .string n2, .string n3, .slice ta tn tc, .bool vu] := Blk.new _ _ _
    have y4 := hb.cell 4
    have f4 := hb.frozen 4
    simp only [List.getElem?_toArray, List.getElem?_cons_succ, List.getElem?_cons_zero] at y4
    by_cases hu : vu = up
    · have HF := Lib.hid (⟨m, L, hT.keptN hk1, hS, hv⟩ : TabS (w.alloc (.cells #[.string n1, .string n2, .string n3, .slice ta tn tc, .bool vu] 59)) own g dc rem S)
      have HE : Hid ((if (HV.abs ⟨n1, n2, n3, ta, tn, tc, tk, vu⟩).up = up then (S, false) else (S.map fun o => if o.name = x then { o with up := up } else o, true)) = (S, false)) := Lib.hid (if_pos hu)
      have HK := Lib.hid hk1
      clear hT hv hvx hx hb hk1
      subst hu
      simp only [Option.map_some]
      rw [HE.out]
      cases vu <;>
      · go_enter Tryz.func7, Tryz.ntmps7
        go_wp2_with fail
        go_ret
        exact ⟨rfl, HF.out, HK.out.of_none⟩
    · have hk2 : Kept noBlock w (w.alloc (.cells #[.string n1, .string n2, .string n3, .slice ta tn tc, .bool up] 59)) := (Kept.refl noBlock w).alloc _
      have hb2 : Blk (w.alloc (.cells #[.string n1, .string n2, .string n3, .slice ta tn tc, .bool up] 59)) w.heap.size 59 #[.string n1, .string n2, .string n3, .slice ta tn tc, .bool up] := Blk.new _ _ _
      have hnm := hT.nm _ (aget_mem hx)
      have hnx : n1 = x := hnm.1
      have HT := Lib.hid hT
      have HS := Lib.hid hS
      have HVW := Lib.hid hv
      have HX : Hid (aget x L = some ⟨n1, n2, n3, ta, tn, tc, tk, vu⟩) := Lib.hid hx
      have HNM := Lib.hid hnm
      have HNX := Lib.hid hnx
      have HK2 := Lib.hid hk2
      have HB2 := Lib.hid hb2
      have HVX : Hid (getS x S = some (HV.abs ⟨n1, n2, n3, ta, tn, tc, tk, vu⟩)) := Lib.hid hvx.symm
      have HE : Hid ((if (HV.abs ⟨n1, n2, n3, ta, tn, tc, tk, vu⟩).up = up then (S, false) else (S.map fun o => if o.name = x then { o with up := up } else o, true)) = (S.map (setUp x up), true)) := Lib.hid (if_neg hu)
      clear hT hS hv hx hnm hnx hk2 hb2 hvx hb hk1
      simp only [Option.map_some]
      rw [HE.out]
      obtain ⟨w2, hw2⟩ : ∃ w2, w2 = w.alloc (.cells #[.string n1, .string n2, .string n3, .slice ta tn tc, .bool up] 59) := ⟨_, rfl⟩
      rw [← hw2] at HK2 HB2
      have HW2 := Lib.hid hw2
      obtain ⟨es, ck, hup, hm⟩ := (HT.out.map.kept HK2.out.drew (fun e => e)).run_update (P := Tryz.prog) string_emb mshM strU x (⟨n1, n2, n3, ta, tn, tc, tk, up⟩ : HV)
      have HM := Lib.hid hm
      simp only [hvV] at hup
      clear hw2 hm
      go_enter Tryz.func7, Tryz.ntmps7
      cases vu <;> cases up <;> first | exact absurd rfl hu | skip
      all_goals
        clear hu HE
        go_wp2_with fail
        rw [← HW2.out]
        have z2' := (HT.out.blk.kept HK2.out (fun e => e)).cell 2
        have x0 := HB2.out.cell 0
        have x1 := HB2.out.cell 1
        have x2 := HB2.out.cell 2
        have x3 := HB2.out.cell 3
        have x4 := HB2.out.cell 4
        simp only [List.getElem?_toArray, List.getElem?_cons_succ, List.getElem?_cons_zero] at z2' x0 x1 x2 x3 x4
        clear HW2 z2 l1 y4 f4
        generalize w.heap.size = Nn at *
        go_region
        go_wp2_with fail
        go_ret
        have htab := HT.out.put HK2.out.drew HM.out ⟨HNX.out, HNX.out ▸ HNM.out.2⟩ ((HT.out.ot _ (aget_mem HX.out)).keptNone HK2.out.drew)
        refine ⟨rfl, ⟨m, _, htab, mark_rising HS.out _ _, fun y => ?_⟩, (HK2.out.drew.of_none (S := own)).setBlock (m := m) (fun _ => HT.out.om) _⟩
        rw [mark_get, aget_aput, ← HVW.out y]
        by_cases e : x = y
        · subst e
          rw [if_pos rfl, HX.out]
          simp only [Option.map_some, HV.abs, setUp, HNX.out, if_true]
        · rw [if_neg e]
          cases hy : aget y L with
          | none => rfl
          | some o =>
            have hn : o.name = y := (HT.out.nm _ (aget_mem hy)).1
            simp only [Option.map_some, setUp]
            rw [if_neg (show ¬ o.abs.name = x from fun e2 => e (e2.symm.trans hn))]
end
end Go.Proofs.YtjkmgpmknadhjaaGreat

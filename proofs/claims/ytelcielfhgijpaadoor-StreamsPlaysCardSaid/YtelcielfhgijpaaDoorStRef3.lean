/- The reference of chapter 15, walked: Orphan, Counts. -/
import Derived.Test.YtelcielfhgijpaaDoorStRef2
import Derived.Laws.OwnMore
namespace Go.Proofs.YtelcielfhgijpaaDoor
set_option linter.unusedVariables false
open Go.RowKit

theorem own_pos {w : World} {base : Nat} {e : TypeId} {sz n : Nat} {v : Value} {xs : List Value} (h : w.ownsRow base e sz v n xs) (hn : 0 < n) : ∃ g cap, v = .slice (some ⟨g, 0, none⟩) n cap := by
  rcases h.2 with ⟨_, h0⟩ | ⟨g, cap, _, rfl, _⟩
  · omega
  · exact ⟨g, cap, rfl⟩
set_option maxHeartbeats 2000000 in
set_option maxRecDepth 100000 in
theorem sOrphan_ok {n id : Int} {v : Value} {C D : List XO} {o : XO} {w : World} (h : OsAt w v (C ++ o :: D)) (hC : ∀ p ∈ C, p.id ≠ id) (ho : o.id = id) (hor : o.orph = false) (hl : (C ++ o :: D).length ≤ 100000) :
    Calls Tryd.prog 16 #[sVal n v, .int .i64 id] w fun e w' => ∃ v, e = .returned (.tuple #[sVal n v, .int .i64 0]) ∧ OsAt w' v (C ++ { o with orph := true } :: D) ∧ Kept noBlock w w' := by
  have hk := ((Kept.refl noBlock w).alloc (.cells #[.int .i64 n, v] 43)).alloc (.cells #[.int .i64 0, .slice none 0 0] 43)
  obtain ⟨A, c, rfl, -, -⟩ := SlK.shape h
  have hs1 := h.kept hk
  have hcl : C.length < (C ++ o :: D).length := by simp
  obtain ⟨g, off, hidx, hgl, -, -, hc2⟩ := o_at h (i := C.length) (p := o) (by simp)
  rw [hor] at hc2
  have HC2 := Lib.hid (fun (w1 : World) (hk1 : Kept noBlock w w1) => ((hk1.cell (p := ⟨g, off + 2, none⟩) hgl (fun h => h)).trans hc2))
  have HT := Lib.hid (fun (w1 : World) (hk1 : Kept noBlock w w1) => SlK.keptNone h hk1)
  have HX := Lib.hid ((Blk.new w 43 #[.int .i64 n, .slice A (C ++ o :: D).length c]).alloc (.cells #[.int .i64 0, .slice none 0 0] 43))
  have HR := Lib.hid (Blk.new_at (k := w.heap.size + 1) (w.alloc (.cells #[.int .i64 n, .slice A (C ++ o :: D).length c] 43)) 43 #[.int .i64 0, .slice none 0 0] (by simp))
  have HK := Lib.hid hk
  have hDl : (C ++ o :: D).length = C.length + 1 + D.length := by simp; omega
  have HDL := Lib.hid hDl
  have HFI := Lib.hid (sfind_some (n := n) hs1 hC ho hl)
  have HE : Hid (((C ++ o :: D).flatMap oC).set (C.length * 3 + 2) (.bool true) = (C ++ { o with orph := true } :: D).flatMap oC) := Lib.hid (by
    rw [List.flatMap_append, List.flatMap_append, List.set_append_right _ _ (by rw [oC_len]; omega), oC_len]
    rw [show C.length * 3 + 2 - C.length * 3 = 2 by omega]
    rfl)
  have HCJ : Hid (((C ++ o :: D).flatMap oC)[C.length * 3 + 2]? = some (.bool false)) := Lib.hid (by
    rw [flat_get (k := 3) (fun _ => rfl) (C ++ o :: D) C.length 2 o (by simp) (by decide)]
    simp [oC, hor])
  clear h hk hs1 hC hc2 hor
  generalize hLL : (C ++ o :: D) = L at *
  have HLL := Lib.hid hLL
  clear hLL
  have hdl2 := hDl
  generalize L.length = ln at *
  clear hDl hdl2
  go_enter Tryd.func16, Tryd.ntmps16
  go_wp2_with fail
  go_at_call 27
  refine HFI.out.mono ?_
  rintro e w1 ⟨rfl, hk1⟩
  have hkk := HK.out.trans hk1 (fun _ _ h => h)
  have hbx := HX.out.kept hk1 (fun h => h)
  have hbr := HR.out.kept hk1 (fun h => h)
  obtain ⟨a0, a1, fx⟩ := sBlk_cells hbx
  have hc2 := HC2.out _ hkk
  have HX1 := Lib.hid hbx
  have HR1 := Lib.hid hbr
  have HT1 := Lib.hid (HT.out _ hkk)
  have hsz0 := hkk.size
  have HKK := Lib.hid hkk
  clear hbx hbr hk1 HFI HX HR hkk
  go_wp2_with (at_builtin; go_must (refine wpList_append_sl _ osT rfl (.tmp 22) (.tmp 24) rfl w.heap.size _ 0 [] rfl (World.ownsRow_nil _ _ _ _) _ ln (L.flatMap oC) rfl HT1.out (fun u hu => oC_one hu) ?c1 ?c2 ?_))
  case c1 => omega
  case c2 => first | omega | (simp; omega)
  intro v1 w3 hap1
  have hbx := HX1.out.appended hap1 (World.ownsRow_nil _ _ _ _) (by decide)
  have hbr := HR1.out.appended hap1 (World.ownsRow_nil _ _ _ _) (by decide)
  have hk1 := hap1.below (World.ownsRow_nil _ _ _ _) HKK.out (Nat.le_refl _)
  have hown1 := hap1.own
  have hsz1 := hk1.size
  have hszr := hbr.lt
  obtain ⟨gr, cr, rfl⟩ := own_pos hown1 (by omega)
  have hfz := fun j => hown1.frozenAt j
  have hcj := (hown1.cellAt (C.length * 3 + 2) (by omega)).trans HCJ.out
  have hgr := (hown1.lt gr rfl).1
  obtain ⟨-, cso, hho⟩ := own_type (g := gr) hown1 rfl
  have hne1 : w.heap.size ≠ gr := hbx.ne_ (t' := 77) hho (by decide)
  have hne2 : w.heap.size + 1 ≠ gr := hbr.ne_ (t' := 77) hho (by decide)
  obtain ⟨hst1, hst2⟩ := hown1.stored (C.length * 3 + 2) (.bool true)
  clear a0 a1 fx hc2
  have hbx2 := hbx.far (p := ⟨gr, C.length * 3 + 2, none⟩) hne1 (.bool true)
  have hbr2 := hbr.far (p := ⟨gr, C.length * 3 + 2, none⟩) hne2 (.bool true)
  obtain ⟨a0, a1, fx⟩ := sBlk_cells hbx
  obtain ⟨b0, b1, fr⟩ := sBlk_cells hbr
  have HK3 := Lib.hid (hk1.setCell (p := ⟨gr, C.length * 3 + 2, none⟩) (fun hlt => absurd hlt (by simp only; omega)) (.bool true))
  have HBX := Lib.hid hbx2
  have HBR := Lib.hid hbr2
  have HO1 := Lib.hid hst1
  clear hbx hbr hk1 hown1 hap1 hbx2 hbr2 hst1 hst2 hho
  go_wp2_with fail
  have h5 : Sl (w3.setCell ⟨gr, C.length * 3 + 2, none⟩ (.bool true)) 77 3 (.slice (some ⟨gr, 0, none⟩) ln cr) (C ++ { o with orph := true } :: D).length ((C ++ { o with orph := true } :: D).flatMap oC) := by
    have h6 := Sl.of_own HO1.out
    rw [HE.out] at h6
    rw [show (C ++ ({ o with orph := true } : XO) :: D).length = ln by have := HDL.out; simp; omega]
    exact h6
  exact stail2 rfl rfl rfl rfl (HBR.out.far (p := ⟨w.heap.size, 1, none⟩) (by simp) _) (h5.far HBX.out (by decide) 1 _) (HK3.out.setCell (p := ⟨w.heap.size, 1, none⟩) (fun hlt => absurd hlt (by simp)) _) (by omega)

set_option maxHeartbeats 1000000 in
set_option maxRecDepth 100000 in
theorem sOrphan_bad2 {n id : Int} {v : Value} {C D : List XO} {o : XO} {w : World} (h : OsAt w v (C ++ o :: D)) (hC : ∀ p ∈ C, p.id ≠ id) (ho : o.id = id) (hor : o.orph = true) (hl : (C ++ o :: D).length ≤ 100000) :
    Calls Tryd.prog 16 #[sVal n v, .int .i64 id] w fun e w' => ∃ v, e = .returned (.tuple #[sVal n v, .int .i64 31]) ∧ OsAt w' v (C ++ o :: D) ∧ Kept noBlock w w' := by
  have hk := ((Kept.refl noBlock w).alloc (.cells #[.int .i64 n, v] 43)).alloc (.cells #[.int .i64 0, .slice none 0 0] 43)
  obtain ⟨A, c, rfl, -, -⟩ := SlK.shape h
  have hs1 := h.kept hk
  obtain ⟨g, off, hidx, hgl, -, -, hc2⟩ := o_at h (i := C.length) (p := o) (by simp)
  rw [hor] at hc2
  have HC2 := Lib.hid (fun (w1 : World) (hk1 : Kept noBlock w w1) => ((hk1.cell (p := ⟨g, off + 2, none⟩) hgl (fun h => h)).trans hc2))
  have HX := Lib.hid ((Blk.new w 43 #[.int .i64 n, .slice A (C ++ o :: D).length c]).alloc (.cells #[.int .i64 0, .slice none 0 0] 43))
  have HR := Lib.hid (Blk.new_at (k := w.heap.size + 1) (w.alloc (.cells #[.int .i64 n, .slice A (C ++ o :: D).length c] 43)) 43 #[.int .i64 0, .slice none 0 0] (by simp))
  have HK := Lib.hid hk
  have H := Lib.hid h
  have hcl : C.length < (C ++ o :: D).length := by simp
  have HF := Lib.hid (sfind_some (n := n) hs1 hC ho hl)
  clear h hk hs1 hC hc2 hor
  generalize (C ++ o :: D) = L at *
  go_enter Tryd.func16, Tryd.ntmps16
  go_wp2_with fail
  go_at_call 27
  refine HF.out.mono ?_
  rintro e w1 ⟨rfl, hk1⟩
  have hkk := HK.out.trans hk1 (fun _ _ h => h)
  have hbx := HX.out.kept hk1 (fun h => h)
  have hbr := HR.out.kept hk1 (fun h => h)
  have hc2 := HC2.out _ hkk
  obtain ⟨a0, a1, fx⟩ := sBlk_cells hbx
  obtain ⟨b0, b1, fr⟩ := sBlk_cells hbr
  have HBR := Lib.hid hbr
  have HK1 := Lib.hid hkk
  clear hbx hbr hk1 HF hkk
  go_wp2_with fail
  exact stail2l rfl rfl rfl rfl HBR.out H.out HK1.out (by omega)

set_option maxHeartbeats 1000000 in
set_option maxRecDepth 100000 in
theorem sCounts_at {n : Int} {v : Value} {L : List XO} {w : World} (h : OsAt w v L) (hl : L.length ≤ 100000) (hn0 : 0 ≤ n) (hn : n ≤ 100000) :
    Calls Tryd.prog 28 #[sVal n v] w fun e w' => e = .returned (.tuple #[.int .i64 (n - L.length), .int .i64 (L.length - L.countP (·.orph)), .int .i64 (L.countP (·.orph))]) ∧ Kept noBlock w w' := by
  obtain ⟨A, c, rfl, -, -⟩ := SlK.shape h
  have hs1 := SlK.alloc h (.cells #[.int .i64 n, .slice A L.length c] 43)
  have hlen := hs1.run_len osT
  have hk := (Kept.refl noBlock w).alloc (.cells #[.int .i64 n, .slice A L.length c] 43)
  have HS := Lib.hid hs1
  have HK := Lib.hid hk
  have HC := Lib.hid (fun (k : Nat) (p : XO) (hp : L[k]? = some p) => (by rw [List.take_add_one, hp, List.countP_append]; simp [List.countP_cons] : (L.take (k + 1)).countP (·.orph) = (L.take k).countP (·.orph) + if p.orph then 1 else 0))
  have HCL := Lib.hid (fun k => (List.countP_le_length (p := fun o : XO => o.orph) (l := L.take k)))
  clear h hs1 hk
  go_enter Tryd.func28, Tryd.ntmps28
  go_wp2
  go_loopg [5, 6] L.length (fun j vc vi wr => ∃ k : Nat, k + j = L.length ∧ vi = .int .i64 k ∧ vc = .int .i64 ((L.take k).countP (·.orph) : Nat) ∧ wr = w.alloc (.cells #[.int .i64 n, .slice A L.length c] 43))
  case atStart => exact ⟨0, by omega, rfl, rfl, rfl⟩
  case round =>
    obtain ⟨k, hkl, rfl, rfl, rfl⟩ := hrel
    have hcl := HCL.out k
    rw [List.length_take] at hcl
    have HKL := Lib.hid hkl
    by_cases hlt : k < L.length
    · obtain ⟨p, hp⟩ : ∃ p, L[k]? = some p := ⟨_, List.getElem?_eq_getElem hlt⟩
      obtain ⟨g, off, hidx, -, -, -, hc2⟩ := o_at HS.out hp
      have hst := HC.out k p hp
      have HST := Lib.hid hst
      clear hp hst hkl
      generalize (L.take k).countP (·.orph) = m at *
      cases hpo : p.orph with
      | true =>
        rw [hpo] at hc2
        go_wp2
        go_roundg (L.length - (k + 1))
        case measure => have := HKL.out; omega
        case rel => exact ⟨k + 1, by omega, by go_num, by rw [HST.out, hpo]; go_num, rfl⟩
      | false =>
        rw [hpo] at hc2
        go_wp2
        go_roundg (L.length - (k + 1))
        case measure => have := HKL.out; omega
        case rel => exact ⟨k + 1, by omega, by go_num, by rw [HST.out, hpo]; rfl, rfl⟩
    · obtain rfl : k = L.length := by omega
      rw [List.take_length] at hcl ⊢
      generalize hm : L.countP (·.orph) = m at *
      have HM := Lib.hid hm
      clear hkl HC HCL hm
      have hcl2 : m ≤ L.length := by omega
      have hb := Blk.new w 43 #[.int .i64 n, .slice A L.length c]
      generalize (w.alloc (.cells #[.int .i64 n, .slice A L.length c] 43)) = W at *
      obtain ⟨a0, a1, -⟩ := sBlk_cells hb
      clear hb
      go_wp2
      go_quiet (fail)
      go_wp2
      go_ret3
      exact ⟨by rw [HM.out]; rfl, HK.out.drewN nq⟩
end Go.Proofs.YtelcielfhgijpaaDoor

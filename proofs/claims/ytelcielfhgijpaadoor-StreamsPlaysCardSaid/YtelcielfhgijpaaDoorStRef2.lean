/- The reference of chapter 15, walked: Answer, Orphan, Counts. -/
import Derived.Test.YtelcielfhgijpaaDoorStRef
namespace Go.Proofs.YtelcielfhgijpaaDoor
set_option linter.unusedVariables false
open Go.RowKit

/-- The end of Orphan. -/
theorem stail2 {fn : Func} {a : Act} {w0 w1 : World} {g : Nat} {n : Int} {v x c0 c1 : Value} {L : List XO} (hres : fn.results = #[.cell 4 43, .tmp 5]) (hd : a.defers = []) (ht : a.tmps[4]?.getD undef = .pointer (some ⟨g, 0, none⟩)) (hx : a.tmps[5]?.getD undef = x)
    (hb : Blk w1 g 43 #[c0, c1]) (h : Sl w1 77 3 v L.length (L.flatMap oC)) (hk : Kept noBlock w0 w1) (hg : w0.heap.size ≤ g) :
    bodyPost Tryd.prog fn (fun e w' => ∃ v, e = .returned (.tuple #[sVal n v, x]) ∧ OsAt w' v L ∧ Kept noBlock w0 w') .ret a ((w1.setCell ⟨g, 0, none⟩ (.int .i64 n)).setCell ⟨g, 1, none⟩ v) := by
  have hk2 := set_kept hk hg (.int .i64 n) v
  have hb0 := (hb.set_ 0 (.int .i64 n))
  have h2 : Sl ((w1.setCell ⟨g, 0, none⟩ (.int .i64 n)).setCell ⟨g, 1, none⟩ v) 77 3 v L.length (L.flatMap oC) := (h.far hb (by decide) 0 _).far hb0 (by decide) 1 _
  have hb2 := sBlk_set hb n v
  generalize ((w1.setCell ⟨g, 0, none⟩ (.int .i64 n)).setCell ⟨g, 1, none⟩ v) = W at *
  obtain ⟨d0, d1, -⟩ := sBlk_cells hb2
  refine bodyPost_ret (v := .tuple #[sVal n v, x]) (by simp [results, hres, ht, hx, go_sem, d0, d1]) hd ?_
  exact ⟨v, rfl, h2, hk2⟩
/-- .. where the list is what it was. -/
theorem stail3l {fn : Func} {a : Act} {w0 w1 : World} {g : Nat} {n : Int} {v x y c0 c1 : Value} {L : List XO} (hres : fn.results = #[.cell 4 43, .tmp 5, .tmp 6]) (hd : a.defers = []) (ht : a.tmps[4]?.getD undef = .pointer (some ⟨g, 0, none⟩)) (hx : a.tmps[5]?.getD undef = x) (hy : a.tmps[6]?.getD undef = y)
    (hb : Blk w1 g 43 #[c0, c1]) (h : OsAt w0 v L) (hk : Kept noBlock w0 w1) (hg : w0.heap.size ≤ g) :
    bodyPost Tryd.prog fn (fun e w' => ∃ v, e = .returned (.tuple #[sVal n v, x, y]) ∧ OsAt w' v L ∧ Kept noBlock w0 w') .ret a ((w1.setCell ⟨g, 0, none⟩ (.int .i64 n)).setCell ⟨g, 1, none⟩ v) := by
  have hk2 := set_kept hk hg (.int .i64 n) v
  have hb2 := sBlk_set hb n v
  generalize ((w1.setCell ⟨g, 0, none⟩ (.int .i64 n)).setCell ⟨g, 1, none⟩ v) = W at *
  obtain ⟨d0, d1, -⟩ := sBlk_cells hb2
  refine bodyPost_ret (v := .tuple #[sVal n v, x, y]) (by simp [results, hres, ht, hx, hy, go_sem, d0, d1]) hd ?_
  exact ⟨v, rfl, h.kept hk2, hk2⟩
theorem stail2l {fn : Func} {a : Act} {w0 w1 : World} {g : Nat} {n : Int} {v x c0 c1 : Value} {L : List XO} (hres : fn.results = #[.cell 4 43, .tmp 5]) (hd : a.defers = []) (ht : a.tmps[4]?.getD undef = .pointer (some ⟨g, 0, none⟩)) (hx : a.tmps[5]?.getD undef = x)
    (hb : Blk w1 g 43 #[c0, c1]) (h : OsAt w0 v L) (hk : Kept noBlock w0 w1) (hg : w0.heap.size ≤ g) :
    bodyPost Tryd.prog fn (fun e w' => ∃ v, e = .returned (.tuple #[sVal n v, x]) ∧ OsAt w' v L ∧ Kept noBlock w0 w') .ret a ((w1.setCell ⟨g, 0, none⟩ (.int .i64 n)).setCell ⟨g, 1, none⟩ v) := by
  have hk2 := set_kept hk hg (.int .i64 n) v
  have hb2 := sBlk_set hb n v
  generalize ((w1.setCell ⟨g, 0, none⟩ (.int .i64 n)).setCell ⟨g, 1, none⟩ v) = W at *
  obtain ⟨d0, d1, -⟩ := sBlk_cells hb2
  refine bodyPost_ret (v := .tuple #[sVal n v, x]) (by simp [results, hres, ht, hx, go_sem, d0, d1]) hd ?_
  exact ⟨v, rfl, h.kept hk2, hk2⟩

set_option maxHeartbeats 1000000 in
set_option maxRecDepth 100000 in
theorem sAnswer_bad {n id : Int} {v : Value} {L : List XO} {w : World} (h : OsAt w v L) (hg : ∀ p ∈ L, p.id ≠ id) (hl : L.length ≤ 100000) :
    Calls Tryd.prog 15 #[sVal n v, .int .i64 id] w fun e w' => ∃ v, e = .returned (.tuple #[sVal n v, .bool false, .int .i64 31]) ∧ OsAt w' v L ∧ Kept noBlock w w' := by
  have hk := ((Kept.refl noBlock w).alloc (.cells #[.int .i64 n, v] 43)).alloc (.cells #[.int .i64 0, .slice none 0 0] 43)
  obtain ⟨A, c, rfl, -, -⟩ := SlK.shape h
  have hs1 := h.kept hk
  have HX := Lib.hid ((Blk.new w 43 #[.int .i64 n, .slice A L.length c]).alloc (.cells #[.int .i64 0, .slice none 0 0] 43))
  have HR := Lib.hid (Blk.new_at (k := w.heap.size + 1) (w.alloc (.cells #[.int .i64 n, .slice A L.length c] 43)) 43 #[.int .i64 0, .slice none 0 0] (by simp))
  have HK := Lib.hid hk
  have H := Lib.hid h
  have HF := Lib.hid (sfind_none (n := n) hs1 hg hl)
  clear h hk hs1 hg
  go_enter Tryd.func15, Tryd.ntmps15
  go_wp2_with fail
  go_at_call 27
  refine HF.out.mono ?_
  rintro e w1 ⟨rfl, hk1⟩
  have hbx := HX.out.kept hk1 (fun h => h)
  have hbr := HR.out.kept hk1 (fun h => h)
  obtain ⟨a0, a1, fx⟩ := sBlk_cells hbx
  obtain ⟨b0, b1, fr⟩ := sBlk_cells hbr
  have HBR := Lib.hid hbr
  have HK1 := Lib.hid (HK.out.trans hk1 (fun _ _ h => h))
  clear hbx hbr hk1 HF
  go_wp2_with fail
  exact stail3l rfl rfl rfl rfl rfl HBR.out H.out HK1.out (by omega)

set_option maxHeartbeats 1000000 in
set_option maxRecDepth 100000 in
theorem sOrphan_bad {n id : Int} {v : Value} {L : List XO} {w : World} (h : OsAt w v L) (hg : ∀ p ∈ L, p.id ≠ id) (hl : L.length ≤ 100000) :
    Calls Tryd.prog 16 #[sVal n v, .int .i64 id] w fun e w' => ∃ v, e = .returned (.tuple #[sVal n v, .int .i64 31]) ∧ OsAt w' v L ∧ Kept noBlock w w' := by
  have hk := ((Kept.refl noBlock w).alloc (.cells #[.int .i64 n, v] 43)).alloc (.cells #[.int .i64 0, .slice none 0 0] 43)
  obtain ⟨A, c, rfl, -, -⟩ := SlK.shape h
  have hs1 := h.kept hk
  have HX := Lib.hid ((Blk.new w 43 #[.int .i64 n, .slice A L.length c]).alloc (.cells #[.int .i64 0, .slice none 0 0] 43))
  have HR := Lib.hid (Blk.new_at (k := w.heap.size + 1) (w.alloc (.cells #[.int .i64 n, .slice A L.length c] 43)) 43 #[.int .i64 0, .slice none 0 0] (by simp))
  have HK := Lib.hid hk
  have H := Lib.hid h
  have HF := Lib.hid (sfind_none (n := n) hs1 hg hl)
  clear h hk hs1 hg
  go_enter Tryd.func16, Tryd.ntmps16
  go_wp2_with fail
  go_at_call 27
  refine HF.out.mono ?_
  rintro e w1 ⟨rfl, hk1⟩
  have hbx := HX.out.kept hk1 (fun h => h)
  have hbr := HR.out.kept hk1 (fun h => h)
  obtain ⟨a0, a1, fx⟩ := sBlk_cells hbx
  obtain ⟨b0, b1, fr⟩ := sBlk_cells hbr
  have HBR := Lib.hid hbr
  have HK1 := Lib.hid (HK.out.trans hk1 (fun _ _ h => h))
  clear hbx hbr hk1 HF
  go_wp2_with fail
  exact stail2l rfl rfl rfl rfl HBR.out H.out HK1.out (by omega)

set_option maxHeartbeats 2000000 in
set_option maxRecDepth 100000 in
theorem sAnswer_ok {n id : Int} {v : Value} {C D : List XO} {o : XO} {w : World} (h : OsAt w v (C ++ o :: D)) (hC : ∀ p ∈ C, p.id ≠ id) (ho : o.id = id) (hl : (C ++ o :: D).length ≤ 100000) :
    Calls Tryd.prog 15 #[sVal n v, .int .i64 id] w fun e w' => ∃ v, e = .returned (.tuple #[sVal n v, .bool (!o.orph), .int .i64 0]) ∧ OsAt w' v (C ++ D) ∧ Kept noBlock w w' := by
  have hk := ((Kept.refl noBlock w).alloc (.cells #[.int .i64 n, v] 43)).alloc (.cells #[.int .i64 0, .slice none 0 0] 43)
  obtain ⟨A, c, rfl, -, -⟩ := SlK.shape h
  have hs1 := h.kept hk
  have hcl : C.length < (C ++ o :: D).length := by simp
  obtain ⟨A1, c1, hto, hst⟩ := SlK.run_to osT h (i := (C.length : Int)) (k := C.length) rfl (by omega)
  obtain ⟨A2, c2, hfrom, hsf⟩ := SlK.run_from osT h (i := (C.length : Int) + 1) (k := C.length + 1) rfl (by omega)
  obtain ⟨g, off, hidx, hgl, -, -, hc2⟩ := o_at h (i := C.length) (p := o) (by simp)
  have e1 : ((C ++ o :: D).flatMap oC).take (C.length * 3) = C.flatMap oC := by
    rw [List.flatMap_append, List.take_left' (oC_len C)]
  have e2 : ((C ++ o :: D).flatMap oC).drop ((C.length + 1) * 3) = D.flatMap oC := by
    rw [show C ++ o :: D = (C ++ [o]) ++ D by simp, List.flatMap_append]
    exact List.drop_left' (by rw [oC_len]; simp)
  have e3 : (C ++ o :: D).length - (C.length + 1) = D.length := by simp; omega
  rw [e1] at hst
  rw [e2, e3] at hsf
  rw [e3] at hfrom
  have HC2 := Lib.hid (fun (w1 : World) (hk1 : Kept noBlock w w1) => ((hk1.cell (p := ⟨g, off + 2, none⟩) hgl (fun h => h)).trans hc2))
  have HT := Lib.hid (fun (w1 : World) (hk1 : Kept noBlock w w1) => SlK.keptNone hst hk1)
  have HF := Lib.hid (fun (w1 : World) (hk1 : Kept noBlock w w1) => SlK.keptNone hsf hk1)
  have HX := Lib.hid ((Blk.new w 43 #[.int .i64 n, .slice A (C ++ o :: D).length c]).alloc (.cells #[.int .i64 0, .slice none 0 0] 43))
  have HR := Lib.hid (Blk.new_at (k := w.heap.size + 1) (w.alloc (.cells #[.int .i64 n, .slice A (C ++ o :: D).length c] 43)) 43 #[.int .i64 0, .slice none 0 0] (by simp))
  have HK := Lib.hid hk
  have hDl : (C ++ o :: D).length = C.length + 1 + D.length := by simp; omega
  have HDL := Lib.hid hDl
  have HFI := Lib.hid (sfind_some (n := n) hs1 hC ho hl)
  clear h hk hs1 hst hsf hC e1 e2 e3 hDl hc2
  generalize (C ++ o :: D).length = ln at *
  go_enter Tryd.func15, Tryd.ntmps15
  go_wp2_with fail
  go_at_call 27
  refine HFI.out.mono ?_
  rintro e w1 ⟨rfl, hk1⟩
  have hkk := HK.out.trans hk1 (fun _ _ h => h)
  have hbx := HX.out.kept hk1 (fun h => h)
  have hbr := HR.out.kept hk1 (fun h => h)
  obtain ⟨a0, a1, fx⟩ := sBlk_cells hbx
  have hc2 := HC2.out _ hkk
  have HX1 := Lib.hid hbx
  have HR1 := Lib.hid hbr
  have HT1 := Lib.hid (HT.out _ hkk)
  have HF1 := Lib.hid (HF.out _ hkk)
  have hsz0 := hkk.size
  have HKK := Lib.hid hkk
  clear hbx hbr hk1 HFI HX HR hkk
  go_wp2_with (at_builtin; go_must (refine wpList_append_sl _ osT rfl (.tmp 23) (.tmp 27) rfl w.heap.size _ 0 [] rfl (World.ownsRow_nil _ _ _ _) _ C.length (C.flatMap oC) rfl HT1.out (fun u hu => oC_one hu) ?c1 ?c2 ?_))
  case c1 => omega
  case c2 => first | omega | (simp; omega)
  intro v1 w3 hap1
  have hbx := HX1.out.appended hap1 (World.ownsRow_nil _ _ _ _) (by decide)
  have hbr := HR1.out.appended hap1 (World.ownsRow_nil _ _ _ _) (by decide)
  have hk1 := hap1.below (World.ownsRow_nil _ _ _ _) HKK.out (Nat.le_refl _)
  have HF2 := Lib.hid (SlK.keptNone HF1.out hap1.keptNil)
  have hown1 := hap1.own
  have hsz1 := hk1.size
  have hszr := hbr.lt
  clear a0 a1 fx hc2
  obtain ⟨a0, a1, fx⟩ := sBlk_cells hbx
  have HBX := Lib.hid hbx
  have HBR := Lib.hid hbr
  have HK1 := Lib.hid hk1
  have HO1 := Lib.hid hown1
  clear hbx hbr hk1 hown1 hap1 hto
  go_wp2_with (at_builtin; go_must (refine wpList_append_sl _ osT rfl (.tmp 29) (.tmp 34) rfl w.heap.size _ C.length _ rfl HO1.out _ D.length (D.flatMap oC) rfl HF2.out (fun u hu => oC_one hu) ?e1 ?e2 ?_))
  case e1 => have := HDL.out; omega
  case e2 => have := HDL.out; simp; omega
  intro v3 w5 hap3
  have hbx := HBX.out.appended hap3 HO1.out (by decide)
  have hbr := HBR.out.appended hap3 HO1.out (by decide)
  have hk1 := hap3.below HO1.out HK1.out (Nat.le_refl _)
  have hl5 := Sl.of_own hap3.own
  obtain ⟨A5, c5, rfl, -, -⟩ := hl5.shape
  have hszr3 := hbr.lt
  clear a0 a1 fx
  obtain ⟨a0, a1, fx⟩ := sBlk_cells hbx
  obtain ⟨b0, b1, fr⟩ := sBlk_cells hbr
  have HBX3 := Lib.hid hbx
  have HBR3 := Lib.hid hbr
  have HK3 := Lib.hid hk1
  have HL5 := Lib.hid hl5
  clear hbx hbr hk1 hl5 hap3 HBX HBR HK1 HO1
  go_wp2_with fail
  have h5 : Sl w5 77 3 (.slice A5 (C.length + D.length) c5) (C ++ D).length ((C ++ D).flatMap oC) := by
    have h6 := HL5.out
    rw [List.length_append]
    simpa [List.flatMap_append] using h6
  exact stail3 rfl rfl rfl rfl rfl (HBR3.out.far (p := ⟨w.heap.size, 1, none⟩) (by simp) _) (h5.far HBX3.out (by decide) 1 _) (HK3.out.setCell (p := ⟨w.heap.size, 1, none⟩) (fun hlt => absurd hlt (by simp)) _) (by omega)
end Go.Proofs.YtelcielfhgijpaaDoor

/- conn.New of a config without token and events. -/
import Derived.Test.YtfnjoceolcdeoaaGreatDoorMr14
import Derived.Test.YtfnjoceolcdeoaaGreatDoorMr16
import Derived.Test.YtfnjoceolcdeoaaGreatDoorMr12
import Derived.Test.YtfnjoceolcdeoaaGreatDoorMr05
namespace Go.Proofs.YtfnjoceolcdeoaaGreatDoor
set_option linter.unusedVariables false
open Go.RowKit

set_option maxRecDepth 100000 in
theorem BClone_nil (w : World) : Calls Tryz.prog 35 #[.slice none 0 0] w fun e w' => e = .returned (.slice none 0 0) ∧ w = w' := by
  have q1 : ∀ w, (binOp .eql 30 (.slice none 0 0) (.slice none 0 0)).run Tryz.prog w = .ok (.bool true) w := fun w => Lib.run_eql_slice_nil w _ _ none 0 0 0 0 Tryz.underlying30
  go_enter Tryz.func35, Tryz.ntmps35
  go_wp2
  go_ret
  exact ⟨rfl, rfl⟩
set_option maxRecDepth 100000 in
theorem SClone_nil (w : World) : Calls Tryz.prog 36 #[.slice none 0 0] w fun e w' => e = .returned (.slice none 0 0) ∧ w = w' := by
  have q1 : ∀ w, (binOp .eql 31 (.slice none 0 0) (.slice none 0 0)).run Tryz.prog w = .ok (.bool true) w := fun w => Lib.run_eql_slice_nil w _ _ none 0 0 0 0 Tryz.underlying31
  go_enter Tryz.func36, Tryz.ntmps36
  go_wp2
  go_ret
  exact ⟨rfl, rfl⟩
/-- A connection as it begins, ahead of its first step. -/
def XC.fresh (st : Int) (ks : ByteArray) (hs idle beat : Nat) (orph : Int) (now : Nat) : XC :=
  ⟨st, ks, .slice none 0 0, .slice none 0 0, hs, idle, beat, orph, 0, -1, laterN now hs, 0, -1, 0, now, false, 18446744073709551615, XS.fresh st, some [], .slice none 0 0, 0⟩
/-- .. behind it. -/
def XC.begun (st : Int) (ks : ByteArray) (hs idle beat : Nat) (orph : Int) (now : Nat) : XC :=
  { (XC.fresh st ks hs idle beat orph now) with state := 1, shake := 0, ss := (XS.fresh st).take 0 (laterN now hs) }
def NewPost (w : World) (st : Int) (ks : ByteArray) (hs idle beat : Nat) (orph : Int) (now : Nat) (e : Ending) (w' : World) : Prop :=
  ∃ lo hi c A n k, e = .returned (.tuple #[.pointer (some ⟨c, 0, none⟩), .slice A n k, .int .i64 0]) ∧ ConnAt w' lo hi c (XC.begun st ks hs idle beat orph now) ∧ w.heap.size ≤ lo ∧ n = 9 ∧ Sl w' 5 1 (.slice A n k) n (Lib.byteCells (hdrB 0 5 0)) ∧ Kept noBlock w w'

theorem cells8 {w : World} {g : Nat} {t : TypeId} {a0 a1 a2 a3 a4 a5 a6 a7 : Value} (h : Blk w g t #[a0, a1, a2, a3, a4, a5, a6, a7]) :
    w.cell? ⟨g, 0, none⟩ = some a0 ∧ w.cell? ⟨g, 1, none⟩ = some a1 ∧ w.cell? ⟨g, 2, none⟩ = some a2 ∧ w.cell? ⟨g, 3, none⟩ = some a3 ∧ w.cell? ⟨g, 4, none⟩ = some a4 ∧ w.cell? ⟨g, 5, none⟩ = some a5 ∧ w.cell? ⟨g, 6, none⟩ = some a6 ∧ w.cell? ⟨g, 7, none⟩ = some a7 :=
  ⟨h.cell 0, h.cell 1, h.cell 2, h.cell 3, h.cell 4, h.cell 5, h.cell 6, h.cell 7⟩

/-- What the parts of a new connection are. -/
def newF (wf : World) (til : Nat) (i : Nat) (v : Value) (W : World) : Prop :=
  (i = 1 → ∃ gs, v = .pointer (some ⟨gs, 0, none⟩) ∧ wf.heap.size ≤ gs ∧ Blk W gs 151 #[.int .u8 132, .slice none 0 0, .int .i64 0]) ∧ (i = 3 → ∃ mo, v = .map (some mo) ∧ wf.heap.size ≤ mo ∧ OMap W mo []) ∧ (i = 7 → v = .int .u64 (til : Int))
theorem newF.keep {wf : World} {til i : Nat} {v : Value} {W W' : World} (h : newF wf til i v W) (hk : Kept noBlock W W') : newF wf til i v W' := by
  obtain ⟨h1, h2, h3⟩ := h
  refine ⟨fun e => ?_, fun e => ?_, h3⟩
  · obtain ⟨gs, a, b, c⟩ := h1 e
    exact ⟨gs, a, b, c.kept hk fun e => e⟩
  · obtain ⟨mo, a, b, c⟩ := h2 e
    exact ⟨mo, a, b, c.kept hk fun e => e⟩
theorem fresh_owed (st : Int) (j : Int) : (XS.fresh st).owed j = false := rfl

theorem begun_of {st : Int} {ks : ByteArray} {hs idle beat : Nat} {orph : Int} {now : Nat} {id : Int} {ok : Bool} {x' : XC} {X' : List UInt8} (h1 : 1 ≤ st)
    (h : WrCase ((XC.fresh st ks hs idle beat orph now).to 1) [] 5 [] (XC.fresh st ks hs idle beat orph now).til id ok x' X') : { x' with shake := id } = XC.begun st ks hs idle beat orph now ∧ X' = hdrB 0 5 0 := by
  rcases h with ⟨-, i, rfl, -, -, hlow, rfl, rfl⟩ | ⟨-, -, -, -, hall⟩
  · have hi : i = 0 := by
      rcases Nat.eq_zero_or_pos i with h | h
      · exact h
      · exact absurd ((show false = (XS.fresh st).owed ((0 : Nat) : Int) from rfl).trans (hlow 0 h)) (by decide)
    subst hi
    exact ⟨rfl, by simp⟩
  · exact absurd ((show false = (XS.fresh st).owed ((0 : Nat) : Int) from rfl).trans (hall 0 (show (0 : Int) < st by omega))) (by decide)

set_option maxHeartbeats 8000000 in
set_option maxRecDepth 100000 in
theorem cnNew_nil {w : World} (st : Int) (h1 : 1 ≤ st) (h2 : st ≤ 32768) (ks : ByteArray) (hk : ksOk ks) (hs idle beat : Nat) (hhs : hs < 18446744073709551616) (orph : Int) (ho : 1 ≤ orph) (now : Nat) (hnow : now < 18446744073709551616) (hm : MaxL w) (hT : Tab w) :
    Calls Tryz.prog 20 #[.agg (cfgC st ks (.slice none 0 0) (.slice none 0 0) hs idle beat orph), .int .u64 now] w (NewPost w st ks hs idle beat orph now) := by
  have HM := Lib.hid hm
  have HT := Lib.hid hT
  have HBOD := Lib.hid (fun (k : Nat) (a : 2 ≤ k) (b : k ≤ 5) (W : World) (hW : Kept noBlock w W) => cnBody_nil st ks hk hs idle beat orph k a b (hm.keptN hW))
  have HB0 := Lib.hid (Blk.new w 33 (cfgC st ks (.slice none 0 0) (.slice none 0 0) hs idle beat orph))
  have HK0 := Lib.hid ((Kept.refl noBlock w).alloc (.cells (cfgC st ks (.slice none 0 0) (.slice none 0 0) hs idle beat orph) 33))
  unfold cfgC at HB0 HK0 HBOD ⊢
  clear hm hT
  go_enter Tryz.func20, Tryz.ntmps20
  go_wp2_with fail
  generalize hw0 : w.alloc (.cells #[.int .i64 st, .string ks, .slice none 0 0, .slice none 0 0, .int .u64 hs, .int .u64 idle, .int .u64 beat, .int .i64 orph] 33) = w0 at *
  generalize hg : w.heap.size = g at *
  clear hw0
  go_at_call 33
  refine (New_at w0 h1 h2).mono ?_
  rintro e w1 ⟨gst, m1, m2, rfl, hst, hk1, hl0, hl1, hl2⟩
  have hb1 := HB0.out.kept hk1 (fun e => e)
  have HB1 := Lib.hid hb1
  have HST := Lib.hid hst
  have HK1 := Lib.hid (HK0.out.trans hk1 fun _ _ e => e)
  have HL := Lib.hid (⟨hl0, hl1, hl2⟩ : w0.heap.size ≤ gst ∧ w0.heap.size ≤ m1 ∧ w0.heap.size ≤ m2)
  obtain ⟨y0, y1, y2, y3, y4, y5, y6, y7⟩ := cells8 hb1
  clear hb1 hst hk1 hl0 hl1 hl2
  go_wp2_with fail
  clear y0 y1 y2 y3 y4 y5 y6 y7
  go_loopg [9] 4 (fun j v wr => ∃ k : Nat, k + j = 6 ∧ 2 ≤ k ∧ v = .int .i64 k ∧ Kept noBlock w1 wr)
  case atStart => exact ⟨2, rfl, by decide, rfl, Kept.refl _ _⟩
  case round =>
    obtain ⟨k, hkj, hk2, rfl, hkr⟩ := hrel
    have HKJ := Lib.hid hkj
    have HKR := Lib.hid hkr
    obtain ⟨y0, y1, y2, y3, y4, y5, y6, y7⟩ := cells8 (HB1.out.kept hkr (fun e => e))
    by_cases h5 : k ≤ 5
    · obtain ⟨op, s, hbod, hs0⟩ := HBOD.out k hk2 h5 wr (HK1.out.trans hkr fun _ _ e => e)
      have HB := Lib.hid hbod
      have HS0 := Lib.hid hs0
      clear hkj hkr hbod hs0
      go_wp2_with fail
      go_at_call 34
      refine HB.out.mono ?_
      rintro e w3 ⟨A3, n3, c3, rfl, hn3, hs3, hk3⟩
      rw [HS0.out]
      have HK3 := Lib.hid (HKR.out.trans hk3 fun _ _ e => e)
      clear hn3 hs3 hk3 y0 y1 y2 y3 y4 y5 y6 y7
      go_wp2_with fail
      go_roundg (6 - (k + 1))
      case measure => have := HKJ.out; omega
      case rel => exact ⟨k + 1, by have := HKJ.out; omega, by omega, by go_num, HK3.out⟩
    · obtain rfl : k = 6 := by omega
      clear hkj hkr h5
      go_wp2_with fail
      have HG1 : Hid (g < w1.heap.size) := Lib.hid HB1.out.lt
      have HBR := Lib.hid (HB1.out.kept HKR.out (fun e => e))
      refine wp_region_sch (fun W => Blk W g 33 #[.int .i64 st, .string ks, .slice none 0 0, .slice none 0 0, .int .u64 hs, .int .u64 idle, .int .u64 beat, .int .i64 orph] ∧ Kept (fun k => k = g) w1 W) (.take 0 (.take 1 (.take 3 (.take 4 (.one 2 (.take 6 (.one 5 (.one 7 (.take 8 (.one 9 .nil)))))))))) (by kernel_rfl) (by kernel_rfl) (by kernel_rfl) ⟨HBR.out.drew, HKR.out.of_none.drew⟩ ?_
      repeat (first
        | (refine sch_takeE rfl rfl ?_
           apply Exists.intro
           refine ⟨fun w' hS => ?_, fun K hK => ?_⟩
           · (obtain ⟨y0, y1, y2, y3, y4, y5, y6, y7⟩ := cells8 hS.1
              clear hS
              unfold takesAt; go_simp; rfl)
           go_simp
           refine hK _ ?_
           clear hK K))
      have H0 := Lib.hid (⟨HBR.out.drew, HKR.out.of_none.drew⟩ : Blk wr.drew g 33 #[.int .i64 st, .string ks, .slice none 0 0, .slice none 0 0, .int .u64 hs, .int .u64 idle, .int .u64 beat, .int .i64 orph] ∧ Kept (fun k => k = g) w1 wr.drew)
      refine sch_doK rfl rfl (fun K hK => ?_)
      go_simp
      go_at_call 35
      refine (BClone_nil _).mono ?_
      rintro e w3 ⟨rfl, hw3⟩
      subst hw3
      refine hK _ _ H0.out ?_
      clear hK K
      repeat (first
        | (refine sch_takeE rfl rfl ?_
           apply Exists.intro
           refine ⟨fun w' hS => ?_, fun K hK => ?_⟩
           · (clear hS
              unfold takesAt; go_simp; rfl)
           go_simp
           refine hK _ ?_
           clear hK K))
      refine sch_doK rfl rfl (fun K hK => ?_)
      go_simp
      go_at_call 36
      refine (SClone_nil _).mono ?_
      rintro e w3 ⟨rfl, hw3⟩
      subst hw3
      refine hK _ _ H0.out ?_
      clear hK K
      obtain ⟨wd, hwd⟩ : ∃ wd, wd = wr.drew := ⟨_, rfl⟩
      rw [← hwd] at H0 ⊢
      clear hwd
      have y2 := H0.out.1.cell 2
      have f2 := H0.out.1.frozen 2
      simp only [List.getElem?_toArray, List.getElem?_cons_zero, List.getElem?_cons_succ] at y2
      have H2 := Lib.hid (⟨H0.out.1.set_ 2 (.slice none 0 0), H0.out.2.setCell (p := ⟨g, 2, none⟩) (fun _ => rfl) _⟩ : Blk (wd.setCell ⟨g, 2, none⟩ (.slice none 0 0)) g 33 #[.int .i64 st, .string ks, .slice none 0 0, .slice none 0 0, .int .u64 hs, .int .u64 idle, .int .u64 beat, .int .i64 orph] ∧ Kept (fun k => k = g) w1 (wd.setCell ⟨g, 2, none⟩ (.slice none 0 0)))
      refine sch_doK rfl rfl (fun K hK => ?_)
      go_simp
      refine hK _ _ H2.out ?_
      clear hK K y2 f2
      repeat (first
        | (refine sch_takeE rfl rfl ?_
           apply Exists.intro
           refine ⟨fun w' hS => ?_, fun K hK => ?_⟩
           · (clear hS
              unfold takesAt; go_simp; rfl)
           go_simp
           refine hK _ ?_
           clear hK K))
      generalize wd.setCell ⟨g, 2, none⟩ (.slice none 0 0) = we at H2 ⊢
      have y3 := H2.out.1.cell 3
      have f3 := H2.out.1.frozen 3
      simp only [List.getElem?_toArray, List.getElem?_cons_zero, List.getElem?_cons_succ] at y3
      have H3 := Lib.hid (⟨H2.out.1.set_ 3 (.slice none 0 0), H2.out.2.setCell (p := ⟨g, 3, none⟩) (fun _ => rfl) _⟩ : Blk (we.setCell ⟨g, 3, none⟩ (.slice none 0 0)) g 33 #[.int .i64 st, .string ks, .slice none 0 0, .slice none 0 0, .int .u64 hs, .int .u64 idle, .int .u64 beat, .int .i64 orph] ∧ Kept (fun k => k = g) w1 (we.setCell ⟨g, 3, none⟩ (.slice none 0 0)))
      refine sch_doK rfl rfl (fun K hK => ?_)
      go_simp
      refine hK _ _ H3.out ?_
      clear hK K y3 f3
      refine sch_nil (NoPanic.normal ?_)
      generalize we.setCell ⟨g, 3, none⟩ (.slice none 0 0) = wf at H3 ⊢
      clear H0 H2
      go_wp2_with fail
      have hgl : g < w0.heap.size := HB0.out.lt
      have HLL := HL.out
      have HWF := Lib.hid (HK1.out.trans H3.out.2 fun k hlt e => by have hlt : k < w.heap.size := hlt; omega)
      have HSF := Lib.hid (HST.out.kept H3.out.2 (fun e => by omega) (fun e => by omega) (fun e => by omega))
      have HBF := Lib.hid H3.out.1
      obtain ⟨y0, y1, y2, y3, y4, y5, y6, y7⟩ := cells8 HBF.out
      clear H3 HBR HKR HG1
      refine wp_region_mix (fun W => Kept noBlock wf W) [0, 2, 4, 5, 6, 8] [1, 3, 7] (fun i => if i = 7 then [1] else []) (.take 9 (.one 10 (.take 11 .nil))) (by kernel_rfl) (by kernel_rfl) (by kernel_rfl) (Kept.refl _ _).drew ?_
      repeat (first
        | (refine takes_takeE rfl rfl ?_
           apply Exists.intro
           refine ⟨fun w' hS => ?_, fun K hK => ?_⟩
           · (have r0 := hS.cellN y0
              have r1 := hS.cellN y1
              have r2 := hS.cellN y2
              have r3 := hS.cellN y3
              have r4 := hS.cellN y4
              have r5 := hS.cellN y5
              have r6 := hS.cellN y6
              have r7 := hS.cellN y7
              clear hS
              unfold takesAt; go_simp; rfl)
           go_simp
           refine hK _ ?_
           clear hK K))
      refine takes_nil ?_
      refine mix_puts [(1, 50), (3, 52), (7, 56)] (newF wf (laterN now hs)) (fun _ => undef) rfl ?_ ?_
      · intro i hi val W hS hF
        simp only [List.mem_cons, List.not_mem_nil, or_false] at hi
        rcases hi with rfl | rfl | rfl
        · refine ⟨_, rfl, rfl, op_K fun K hK => ?_⟩
          dsimp only [List.foldl]
          go_simp
          go_at_call 37
          refine (spNew_at W).mono ?_
          rintro e w3 ⟨rfl, hw3⟩
          subst hw3
          exact hK _ _ ⟨hS.alloc _, .pointer (some ⟨W.heap.size, 0, none⟩), rfl, ⟨fun _ => ⟨_, rfl, hS.size, Blk.new W _ _⟩, (fun e => absurd e (by decide)), (fun e => absurd e (by decide))⟩, fun j _ u h => h.keep ((Kept.refl noBlock W).alloc _)⟩
        · refine ⟨_, rfl, rfl, op_K fun K hK => ?_⟩
          dsimp only [List.foldl]
          have hmm := @run_makeMap Tryz.prog
          go_simp
          exact hK _ _ ⟨hS.alloc _, .map (some W.heap.size), rfl, ⟨(fun e => absurd e (by decide)), fun _ => ⟨_, rfl, hS.size, KMap.new W⟩, (fun e => absurd e (by decide))⟩, fun j _ u h => h.keep ((Kept.refl noBlock W).alloc _)⟩
        · refine ⟨_, rfl, rfl, op_K fun K hK => ?_⟩
          dsimp only [List.foldl]
          go_simp
          go_at_call 38
          refine (cnLater_at now hs hnow hhs W).mono ?_
          rintro e w3 ⟨rfl, hw3⟩
          subst hw3
          exact hK _ _ ⟨hS, .int .u64 ((laterN now hs : Nat) : Int), rfl, ⟨(fun e => absurd e (by decide)), (fun e => absurd e (by decide)), fun _ => rfl⟩, fun j _ u h => h⟩
      · intro val W hS hF
        dsimp only [List.foldl]
        obtain ⟨gs, e1, hgs, hbs⟩ := (hF 1 (by decide)).1 rfl
        obtain ⟨mo, e3, hmo, hmm⟩ := (hF 3 (by decide)).2.1 rfl
        have e7 := (hF 7 (by decide)).2.2 rfl
        clear hF
        rw [e1, e3, e7]
        have HBS := Lib.hid hbs
        have HMO := Lib.hid hmm
        have HSW := Lib.hid hS
        have hlat : laterN now hs < 18446744073709551616 := by unfold laterN; split <;> omega
        clear hbs hmm e1 e3 e7 y0 y1 y2 y3 y4 y5 y6 y7
        generalize htil : laterN now hs = til at *
        have HTIL := Lib.hid htil
        clear htil
        repeat (first
          | (refine sch_takeE rfl rfl ?_
             apply Exists.intro
             refine ⟨fun w' hS => ?_, fun K hK => ?_⟩
             · (clear hS
                unfold takesAt; go_simp; rfl)
             go_simp
             refine hK _ ?_
             clear hK K))
        have HCB := Lib.hid (Blk.new W 110 #[.int .i64 st, .string ks, .slice none 0 0, .slice none 0 0, .int .u64 hs, .int .u64 idle, .int .u64 beat, .int .i64 orph, .int .i64 0, .pointer (some ⟨gs, 0, none⟩), .pointer (some ⟨gst, 0, none⟩), .map (some mo), .int .i64 (-1), .int .u64 til, .int .i64 0, .int .i64 (-1), .int .u64 0, .int .u64 now, .bool false, .int .u64 18446744073709551615])
        have HKC := Lib.hid (HSW.out.alloc (.cells #[.int .i64 st, .string ks, .slice none 0 0, .slice none 0 0, .int .u64 hs, .int .u64 idle, .int .u64 beat, .int .i64 orph, .int .i64 0, .pointer (some ⟨gs, 0, none⟩), .pointer (some ⟨gst, 0, none⟩), .map (some mo), .int .i64 (-1), .int .u64 til, .int .i64 0, .int .i64 (-1), .int .u64 0, .int .u64 now, .bool false, .int .u64 18446744073709551615] 110))
        have HKW := Lib.hid ((Kept.refl noBlock W).alloc (.cells #[.int .i64 st, .string ks, .slice none 0 0, .slice none 0 0, .int .u64 hs, .int .u64 idle, .int .u64 beat, .int .i64 orph, .int .i64 0, .pointer (some ⟨gs, 0, none⟩), .pointer (some ⟨gst, 0, none⟩), .map (some mo), .int .i64 (-1), .int .u64 til, .int .i64 0, .int .i64 (-1), .int .u64 0, .int .u64 now, .bool false, .int .u64 18446744073709551615] 110))
        have HZC := Lib.hid (sz_alloc W (.cells #[.int .i64 st, .string ks, .slice none 0 0, .slice none 0 0, .int .u64 hs, .int .u64 idle, .int .u64 beat, .int .i64 orph, .int .i64 0, .pointer (some ⟨gs, 0, none⟩), .pointer (some ⟨gst, 0, none⟩), .map (some mo), .int .i64 (-1), .int .u64 til, .int .i64 0, .int .i64 (-1), .int .u64 0, .int .u64 now, .bool false, .int .u64 18446744073709551615] 110))
        refine sch_doK rfl rfl (fun K hK => ?_)
        go_simp
        refine hK _ _ HKC.out ?_
        clear hK K
        generalize W.alloc (.cells #[.int .i64 st, .string ks, .slice none 0 0, .slice none 0 0, .int .u64 hs, .int .u64 idle, .int .u64 beat, .int .i64 orph, .int .i64 0, .pointer (some ⟨gs, 0, none⟩), .pointer (some ⟨gst, 0, none⟩), .map (some mo), .int .i64 (-1), .int .u64 til, .int .i64 0, .int .i64 (-1), .int .u64 0, .int .u64 now, .bool false, .int .u64 18446744073709551615] 110) = wc at HCB HKC HKW HZC ⊢
        repeat (first
          | (refine sch_takeE rfl rfl ?_
             apply Exists.intro
             refine ⟨fun w' hS => ?_, fun K hK => ?_⟩
             · (clear hS
                unfold takesAt; go_simp; rfl)
             go_simp
             refine hK _ ?_
             clear hK K))
        refine sch_nil (NoPanic.normal ?_)
        have hszW := HSW.out.size
        have hszF : g + 1 ≤ wf.heap.size := by have := HBF.out.lt; omega
        have hgst : gst < wf.heap.size := (HSF.out.lts).1
        have hm1 : m1 < wf.heap.size := (HSF.out.lts).2.1
        have hm2 : m2 < wf.heap.size := (HSF.out.lts).2.2.1
        have hgs2 : gs < W.heap.size := HBS.out.lt
        have hmo2 : mo < W.heap.size := HMO.out.lt
        have hzc := HZC.out
        have HCI : Hid (ConnIn wc g (W.heap.size + 1) W.heap.size gs gst m1 m2 mo (XC.fresh st ks hs idle beat orph now)) := Lib.hid ⟨by
            have e : XC.C (XC.fresh st ks hs idle beat orph now) gs gst mo = #[.int .i64 st, .string ks, .slice none 0 0, .slice none 0 0, .int .u64 hs, .int .u64 idle, .int .u64 beat, .int .i64 orph, .int .i64 0, .pointer (some ⟨gs, 0, none⟩), .pointer (some ⟨gst, 0, none⟩), .map (some mo), .int .i64 (-1), .int .u64 til, .int .i64 0, .int .i64 (-1), .int .u64 0, .int .u64 now, .bool false, .int .u64 18446744073709551615] := by rw [← HTIL.out]; rfl
            rw [e]; exact HCB.out,
          HBS.out.kept HKW.out (fun e => e), HSF.out.keptNone HKC.out, fun L hL => by
            injection hL with hL
            subst hL
            exact HMO.out.kept HKW.out (fun e => e),
          by omega, by omega, ⟨by omega, fun e => (HMO.out.ne_blk HBS.out) e.symm, by omega⟩, by omega, by omega, by omega, by omega, by omega, by omega, by omega⟩
        have HKWC := Lib.hid (HWF.out.trans HKC.out fun _ _ e => e)
        have HOB := Lib.hid (Blk.new wc 84 #[.slice none 0 0, .slice none 0 0, .slice none 0 0, .bool false, .int .i64 0, .slice none 0 0])
        have HKO := Lib.hid ((Kept.refl noBlock wc).alloc (.cells #[.slice none 0 0, .slice none 0 0, .slice none 0 0, .bool false, .int .i64 0, .slice none 0 0] 84))
        have HZO := Lib.hid (sz_alloc wc (.cells #[.slice none 0 0, .slice none 0 0, .slice none 0 0, .bool false, .int .i64 0, .slice none 0 0] 84))
        clear hszW hszF hgst hm1 hm2 hgs2 hmo2 hzc HCB HKC HKW HBS HMO HSW HSF HBF HWF HLL HST HB1 HK1
        go_wp2_with fail
        generalize wc.alloc (.cells #[.slice none 0 0, .slice none 0 0, .slice none 0 0, .bool false, .int .i64 0, .slice none 0 0] 84) = wo at HOB HKO HZO ⊢
        generalize hcw : W.heap.size = cw at *
        have hzc := HZC.out
        have hzo := HZO.out
        have hlt : til < 18446744073709551616 := hlat
        have HSTEP := Lib.hid (cnStep_at (w := wo) (lo := g) (hi := cw + 1) (c := cw) (x := XC.fresh st ks hs idle beat orph now) ⟨gs, gst, m1, m2, mo, HCI.out.kept HKO.out fun _ e => e.elim⟩ (HT.out.kept (HKWC.out.trans HKO.out fun _ _ e => e) (fun e => e)) (by have := HT.out.pos; omega)
          (o := wc.heap.size) (B := wc.heap.size + 1) (X := []) (an := .slice none 0 0) (nt := .slice none 0 0) (rd := false) (dd := 0) (ls := .slice none 0 0) ⟨none, 0, 0, rfl, HOB.out, World.ownsRow_nil _ _ _ _, by omega⟩ (by omega) (by omega) (by omega)
          1 (by decide) 5 (by decide) (l := []) (fun W' _ => cnBody_1 st ks hs idle beat orph _ _ W') (by decide) (by decide) (by
            show (0 : Int) ≤ ((laterN now hs : Nat) : Int) ∧ ((laterN now hs : Nat) : Int) < 18446744073709551616
            have := HTIL.out; omega))
        clear hzc hzo
        go_at_call 39
        refine HSTEP.out.mono ?_
        rintro e w5 ⟨id, ok, x', X', rfl, hc5, ho5, hk5, hcase⟩
        obtain ⟨hbeg, rfl⟩ := begun_of h1 hcase
        rw [hbeg] at hc5
        obtain ⟨Ao, no, ko, hno, hbo, hro, -⟩ := ho5
        have z0 := hbo.cell 0
        simp only [List.getElem?_toArray, List.getElem?_cons_zero] at z0
        have HSO := Lib.hid (Sl.of_own hro)
        have HNO := Lib.hid (hno.trans (hdrB_len 0 5 0))
        have HC5 := Lib.hid hc5
        have hgc : g ≤ wc.heap.size := by have := HKWC.out.size; omega
        have HK5 := Lib.hid ((HKWC.out.trans HKO.out fun _ _ e => e).trans hk5 fun k hlt e => by
          have hlt : k < w.heap.size := hlt
          unfold outS at e
          omega)
        clear hcase hbeg hno hbo hro hc5 hk5 HSTEP hgc
        go_wp2_with fail
        go_quiet (fail)
        go_wp2
        go_ret3
        exact ⟨g, cw + 1, cw, Ao, no, ko, rfl, HC5.out.keptN ((Kept.refl noBlock w5).drewN _), Nat.le_of_eq hg, HNO.out, HSO.out.drewN _, HK5.out.drewN _⟩
end Go.Proofs.YtfnjoceolcdeoaaGreatDoor

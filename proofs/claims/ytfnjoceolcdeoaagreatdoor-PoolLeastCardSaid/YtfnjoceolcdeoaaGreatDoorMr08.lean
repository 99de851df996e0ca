/- A cell's fact along a world that only grows · prims.Value, of a value that is set: its bytes behind their number · request.Put: Startup, AuthResponse, Query, Register. -/
import Derived.Test.YtfnjoceolcdeoaaGreatDoorMr02
import Derived.Test.YtfnjoceolcdeoaaGreatDoorMr05
import Derived.Test.YtfnjoceolcdeoaaGreatDoorMr07
import Derived.Test.YtfnjoceolcdeoaaGreatDoorMr06
namespace Go.Proofs.YtfnjoceolcdeoaaGreatDoor
set_option linter.unusedVariables false
open Go.RowKit
theorem Kept.cellN {w w' : World} {p : Addr} {v : Value} (h : Kept noBlock w w') (hc : w.cell? p = some v) : w'.cell? p = some v := by
  refine (h.cell (p := p) ?_ fun e => e).trans hc
  unfold World.cell? at hc
  rcases Nat.lt_or_ge p.block w.heap.size with hlt | hge
  · exact hlt
  · rw [Array.getElem?_eq_none hge] at hc; cases hc
end Go.Proofs.YtfnjoceolcdeoaaGreatDoor
namespace Go.Proofs.YtfnjoceolcdeoaaGreatDoor
set_option linter.unusedVariables false
open Go.RowKit

def valB (l : List UInt8) : List UInt8 := putB l.length 4 ++ l
set_option maxHeartbeats 2000000 in
set_option maxRecDepth 100000 in
theorem pValue_set {w : World} {v : Value} {n : Nat} {l : List UInt8} (h : Sl w 5 1 v n (Lib.byteCells l)) (hn : n ≤ 140737488355000) : Calls Tryz.prog 82 #[.agg #[.int .i64 2, v]] w fun e w' => ∃ v', e = .returned (.tuple #[v', .int .i64 0]) ∧ w'.ownsRow w.heap.size 5 1 v' (4 + n) (Lib.byteCells (valB l)) ∧ Kept noBlock w w' := by
  have hln : l.length = n := by have := h.len; unfold Lib.byteCells at this; rw [List.length_map, Nat.mul_one] at this; exact this
  obtain ⟨A, c, rfl, -, -⟩ := h.shape
  have hlen := h.run_len bytesQT
  have H := Lib.hid h
  have HL := Lib.hid hln
  clear h hln
  go_enter Tryz.func82, Tryz.ntmps82
  go_wp2_with fail
  have HB := Lib.hid (Blk.new w 139 #[.int .i64 2, .slice A n c])
  have HK0 := Lib.hid ((Kept.refl noBlock w).alloc (.cells #[.int .i64 2, .slice A n c] 139))
  generalize hw0 : w.alloc (.cells #[.int .i64 2, .slice A n c] 139) = w0 at *
  generalize hg : w.heap.size = g at *
  have y1 := HB.out.cell 1
  simp only [List.getElem?_toArray, List.getElem?_cons_zero, List.getElem?_cons_succ] at y1
  refine wp_region_sch (fun w' => Kept noBlock w0 w') (.take 0 (.take 1 (.take 2 (.take 3 (.take 5 (.take 6 (.one 4 (.one 7 (.take 8 (.take 9 .nil)))))))))) (by kernel_rfl) (by kernel_rfl) (by kernel_rfl) (Kept.refl _ _).drew ?_
  repeat (first
    | (refine sch_takeE rfl rfl ?_
       apply Exists.intro
       refine ⟨fun w' hS => ?_, fun K hK => ?_⟩
       · (have r1 := hS.cellN y1
          clear hS
          unfold takesAt; go_simp; rfl)
       go_simp
       refine hK _ ?_
       clear hK K))
  have hl64 : IntKind.u64.wrap (n : Int) = (n : Int) := by rw [IntKind.wrap_u64]; omega
  rw [hl64]
  refine sch_doK rfl rfl (fun K hK => ?_)
  go_simp
  go_at_call 111
  refine (oPut_at n 4 (by omega) (by decide) (by decide) _).mono ?_
  rintro e w2 ⟨v2, rfl, ho2, hk2⟩
  have hk02 : Kept noBlock w0 w2 := (Kept.refl noBlock w0).drew.trans hk2 fun _ _ e => e
  have HK2 := Lib.hid (HK0.out.trans hk02 fun _ _ e => e)
  have HO2 := Lib.hid (show w2.ownsRow w0.heap.size 5 1 v2 4 _ from ho2)
  have HS2 := Lib.hid (SlK.keptNone H.out HK2.out)
  have HK02 := Lib.hid hk02
  refine hK _ _ hk02 ?_
  clear hK K ho2 hk2 hk02
  refine sch_doK rfl rfl (fun K hK => ?_)
  refine wp_append_sl _ bytesQT (.tmp 20) (.tmp 22) rfl w0.heap.size _ 4 (Lib.byteCells (putB n 4)) rfl HO2.out _ n (Lib.byteCells l) rfl HS2.out (fun u hu => byteCells_one hu) ?c1 ?c2 ?_
  case c1 => omega
  case c2 => exact HK02.out.size
  intro v' w3 hap
  have hk03 := hap.below HO2.out HK02.out (Nat.le_refl _)
  have HK3 := Lib.hid (HK0.out.trans hk03 fun _ _ e => e)
  have HO3 := Lib.hid (own_base hap.own (show g ≤ w0.heap.size by have := HK0.out.size; rw [hg] at this; exact this))
  refine hK _ _ hk03 ?_
  clear hK K hap hk03
  repeat (first
    | (refine sch_takeE rfl rfl ?_
       apply Exists.intro
       refine ⟨fun w' hS => ?_, fun K hK => ?_⟩
       · (clear hS
          unfold takesAt; go_simp; rfl)
       go_simp
       refine hK _ ?_
       clear hK K))
  refine sch_nil (NoPanic.normal ?_)
  go_wp2
  go_ret2
  refine ⟨_, rfl, ?_, HK3.out⟩
  rw [hg]
  unfold valB
  rw [byteCells_app, HL.out]
  exact HO3.out
end Go.Proofs.YtfnjoceolcdeoaaGreatDoor
namespace Go.Proofs.YtfnjoceolcdeoaaGreatDoor
set_option linter.unusedVariables false
open Go.RowKit

theorem wrAt_new {w : World} {g : Nat} (hb : Blk w g 170 #[.slice none 0 0, .int .i64 0]) : WrAt w g ([], 0) := ⟨none, 0, 0, rfl, hb, World.ownsRow_nil _ _ _ _⟩
/-- The end of request.Put: what the writer has. -/
theorem wrFin_ok {s : List UInt8 × Int} (h : s.2 = 0) : wrFin s = s := by unfold wrFin; rw [if_pos h]
theorem wrFin_bad {s : List UInt8 × Int} (h : s.2 ≠ 0) : wrFin s = ([], s.2) := by unfold wrFin; rw [if_neg h]

set_option maxHeartbeats 4000000 in
set_option maxRecDepth 100000 in
theorem rqPut_events {w : World} {A : Option Addr} {n c : Nat} {L : List ByteArray} (h : Lo w w.heap.size 1 (.slice A n c) n (L.map Value.string)) (hm : ∀ s ∈ L, s.size ≤ 9223372036854775807) (hb : (textsP L).1.length ≤ 10000000000000) :
    Calls Tryz.prog 57 #[.agg (reqC 11 (.slice none 0 0) noStr 0 (.slice A n c) 0 (.slice none 0 0))] w (PutPost w (wrFin (textsP L))) := by
  have HB0 := Lib.hid ((Blk.new w 144 (reqC 11 (.slice none 0 0) noStr 0 (.slice A n c) 0 (.slice none 0 0))).alloc (.cells #[.slice none 0 0, .int .i64 0] 170))
  have HK0 := Lib.hid (((Kept.refl noBlock w).alloc (.cells (reqC 11 (.slice none 0 0) noStr 0 (.slice A n c) 0 (.slice none 0 0)) 144)).alloc (.cells #[.slice none 0 0, .int .i64 0] 170))
  have HW0 := Lib.hid (wrAt_new (Blk.new_at (k := w.heap.size + 1) (w.alloc (.cells (reqC 11 (.slice none 0 0) noStr 0 (.slice A n c) 0 (.slice none 0 0)) 144)) 170 #[.slice none 0 0, .int .i64 0] (by rw [sz_alloc])))
  unfold reqC at HB0 HK0 HW0 ⊢
  have H := Lib.hid (h.keptNone HK0.out)
  have HM := Lib.hid hm
  clear h hm
  go_enter Tryz.func57, Tryz.ntmps57
  go_wp2_with fail
  generalize hw0 : ((w.alloc (.cells #[.int .u8 11, .slice none 0 0, .string noStr, .slice none 0 0, .int .u16 0, .slice none 0 0, .slice none 0 0, .bool false, .bool false, .int .i32 0, .bool false, .int .i64 0, .slice none 0 0, .bool false, .int .u16 0, .bool false, .int .i64 0, .slice A n c, .int .i64 0, .slice none 0 0, .int .u8 0, .slice none 0 0] 144)).alloc (.cells #[.slice none 0 0, .int .i64 0] 170)) = w0 at *
  generalize hg : w.heap.size = g at *
  clear hw0
  go_at_call 81
  refine (mpTexts_at H.out HM.out).mono ?_
  rintro e w1 ⟨A1, n1, c1, rfl, hn1, hs1, hk1⟩
  have HR := Lib.hid (rwPut_at (HW0.out.keptN hk1) hs1 (textsP L).2 (by show 0 + n1 ≤ _; omega))
  have HST : Hid (wrStep ([], 0) (textsP L).1 (textsP L).2 = textsP L) := Lib.hid rfl
  clear hn1 hs1
  go_wp2_with fail
  go_at_call 76
  refine HR.out.mono ?_
  rintro e w2 ⟨rfl, hw2, hk2⟩
  rw [HST.out] at hw2
  have HW2 := Lib.hid hw2
  have HK2 : Hid (Kept noBlock w w2) := Lib.hid ((HK0.out.trans hk1 fun _ _ e => e).trans hk2 fun i hi e => by
    unfold wrS at e
    rcases e with e | ⟨e, _⟩ <;> omega)
  clear hw2 hk1 hk2
  obtain ⟨A2, n2, c2, hn2, hb2, ho2⟩ := HW2.out
  have z0 := hb2.cell 0
  have z1 := hb2.cell 1
  simp only [List.getElem?_toArray, List.getElem?_cons_zero, List.getElem?_cons_succ] at z0 z1
  have HN2 := Lib.hid hn2
  have HO2 := Lib.hid (Sl.of_own ho2)
  clear hn2 hb2 ho2
  by_cases h0 : (textsP L).2 = 0
  · have HF : Hid (wrFin (textsP L) = (textsP L)) := Lib.hid (wrFin_ok h0)
    have H00 := Lib.hid h0
    rw [h0] at z1
    clear h0
    go_wp2
    go_ret2
    rw [HF.out]
    exact ⟨A2, n2, c2, by rw [H00.out]; rfl, HN2.out, HO2.out, HK2.out⟩
  · have HF : Hid (wrFin (textsP L) = ([], (textsP L).2)) := Lib.hid (wrFin_bad h0)
    have h0' : ((textsP L).2 == 0) = false := by rw [beq_eq_false_iff_ne]; exact h0
    obtain ⟨e5, he5⟩ : ∃ e5, e5 = (textsP L).2 := ⟨_, rfl⟩
    rw [← he5] at z1 h0'
    have HE5 := Lib.hid he5
    clear h0 he5
    go_wp2
    go_quiet (fail)
    go_wp2
    go_ret2
    rw [HF.out]
    exact ⟨none, 0, 0, by rw [← HE5.out]; rfl, rfl, Sl.nil _ _ _, HK2.out.drewN _⟩

set_option maxHeartbeats 4000000 in
set_option maxRecDepth 100000 in
theorem rqPut_pairs {w : World} {A : Option Addr} {c : Nat} (k v : ByteArray) (hk : k.size ≤ 65535) (hv : v.size ≤ 65535) (h : Lo w w.heap.size 2 (.slice A 1 c) 1 [.string k, .string v]) :
    Calls Tryz.prog 57 #[.agg (reqC 1 (.slice A 1 c) noStr 0 (.slice none 0 0) 0 (.slice none 0 0))] w (PutPost w (wrFin (pairB k v, 0))) := by
  have HB0 := Lib.hid ((Blk.new w 144 (reqC 1 (.slice A 1 c) noStr 0 (.slice none 0 0) 0 (.slice none 0 0))).alloc (.cells #[.slice none 0 0, .int .i64 0] 170))
  have HK0 := Lib.hid (((Kept.refl noBlock w).alloc (.cells (reqC 1 (.slice A 1 c) noStr 0 (.slice none 0 0) 0 (.slice none 0 0)) 144)).alloc (.cells #[.slice none 0 0, .int .i64 0] 170))
  have HW0 := Lib.hid (wrAt_new (Blk.new_at (k := w.heap.size + 1) (w.alloc (.cells (reqC 1 (.slice A 1 c) noStr 0 (.slice none 0 0) 0 (.slice none 0 0)) 144)) 170 #[.slice none 0 0, .int .i64 0] (by rw [sz_alloc])))
  unfold reqC at HB0 HK0 HW0 ⊢
  have H := Lib.hid (h.keptNone HK0.out)
  clear h
  go_enter Tryz.func57, Tryz.ntmps57
  go_wp2_with fail
  generalize hw0 : ((w.alloc (.cells #[.int .u8 1, .slice A 1 c, .string noStr, .slice none 0 0, .int .u16 0, .slice none 0 0, .slice none 0 0, .bool false, .bool false, .int .i32 0, .bool false, .int .i64 0, .slice none 0 0, .bool false, .int .u16 0, .bool false, .int .i64 0, .slice none 0 0, .int .i64 0, .slice none 0 0, .int .u8 0, .slice none 0 0] 144)).alloc (.cells #[.slice none 0 0, .int .i64 0] 170)) = w0 at *
  generalize hg : w.heap.size = g at *
  clear hw0
  go_at_call 77
  refine (mpPairs_at k v hk hv H.out).mono ?_
  rintro e w1 ⟨v1, rfl, ho1, hk1⟩
  obtain ⟨A1, c1, rfl, -, -⟩ := (Sl.of_own ho1).shape
  have HR := Lib.hid (rwPut_at (HW0.out.keptN hk1) (Sl.of_own ho1) 0 (by show 0 + (2 + (2 + k.size + (2 + v.size))) ≤ _; omega))
  have HST : Hid (wrStep ([], 0) (pairB k v) 0 = ((pairB k v), 0)) := Lib.hid rfl
  clear ho1
  go_wp2_with fail
  go_at_call 76
  refine HR.out.mono ?_
  rintro e w2 ⟨rfl, hw2, hk2⟩
  rw [HST.out] at hw2
  have HW2 := Lib.hid hw2
  have HK2 : Hid (Kept noBlock w w2) := Lib.hid ((HK0.out.trans hk1 fun _ _ e => e).trans hk2 fun i hi e => by
    unfold wrS at e
    rcases e with e | ⟨e, _⟩ <;> omega)
  clear hw2 hk1 hk2
  obtain ⟨A2, n2, c2, hn2, hb2, ho2⟩ := HW2.out
  have z0 := hb2.cell 0
  have z1 := hb2.cell 1
  simp only [List.getElem?_toArray, List.getElem?_cons_zero, List.getElem?_cons_succ] at z0 z1
  have HN2 := Lib.hid hn2
  have HO2 := Lib.hid (Sl.of_own ho2)
  clear hn2 hb2 ho2
  go_wp2
  go_ret2
  exact ⟨A2, n2, c2, rfl, HN2.out, HO2.out, HK2.out⟩

set_option maxHeartbeats 4000000 in
set_option maxRecDepth 100000 in
theorem rqPut_token {w : World} {A : Option Addr} {n c : Nat} {l : List UInt8} (h : Sl w 5 1 (.slice A n c) n (Lib.byteCells l)) (hn : n ≤ 10000000000000) :
    Calls Tryz.prog 57 #[.agg (reqC 15 (.slice none 0 0) noStr 0 (.slice none 0 0) 2 (.slice A n c))] w (PutPost w (wrFin (valB l, 0))) := by
  have HB0 := Lib.hid ((Blk.new w 144 (reqC 15 (.slice none 0 0) noStr 0 (.slice none 0 0) 2 (.slice A n c))).alloc (.cells #[.slice none 0 0, .int .i64 0] 170))
  have HK0 := Lib.hid (((Kept.refl noBlock w).alloc (.cells (reqC 15 (.slice none 0 0) noStr 0 (.slice none 0 0) 2 (.slice A n c)) 144)).alloc (.cells #[.slice none 0 0, .int .i64 0] 170))
  have HW0 := Lib.hid (wrAt_new (Blk.new_at (k := w.heap.size + 1) (w.alloc (.cells (reqC 15 (.slice none 0 0) noStr 0 (.slice none 0 0) 2 (.slice A n c)) 144)) 170 #[.slice none 0 0, .int .i64 0] (by rw [sz_alloc])))
  unfold reqC at HB0 HK0 HW0 ⊢
  have H := Lib.hid (SlK.keptNone h HK0.out)
  clear h
  go_enter Tryz.func57, Tryz.ntmps57
  go_wp2_with fail
  generalize hw0 : ((w.alloc (.cells #[.int .u8 15, .slice none 0 0, .string noStr, .slice none 0 0, .int .u16 0, .slice none 0 0, .slice none 0 0, .bool false, .bool false, .int .i32 0, .bool false, .int .i64 0, .slice none 0 0, .bool false, .int .u16 0, .bool false, .int .i64 0, .slice none 0 0, .int .i64 2, .slice A n c, .int .u8 0, .slice none 0 0] 144)).alloc (.cells #[.slice none 0 0, .int .i64 0] 170)) = w0 at *
  generalize hg : w.heap.size = g at *
  clear hw0
  go_at_call 82
  refine (pValue_set H.out (by omega)).mono ?_
  rintro e w1 ⟨v1, rfl, ho1, hk1⟩
  obtain ⟨A1, c1, rfl, -, -⟩ := (Sl.of_own ho1).shape
  have HR := Lib.hid (rwPut_at (HW0.out.keptN hk1) (Sl.of_own ho1) 0 (by show 0 + (4 + n) ≤ _; omega))
  have HST : Hid (wrStep ([], 0) (valB l) 0 = ((valB l), 0)) := Lib.hid rfl
  clear ho1
  go_wp2_with fail
  go_at_call 76
  refine HR.out.mono ?_
  rintro e w2 ⟨rfl, hw2, hk2⟩
  rw [HST.out] at hw2
  have HW2 := Lib.hid hw2
  have HK2 : Hid (Kept noBlock w w2) := Lib.hid ((HK0.out.trans hk1 fun _ _ e => e).trans hk2 fun i hi e => by
    unfold wrS at e
    rcases e with e | ⟨e, _⟩ <;> omega)
  clear hw2 hk1 hk2
  obtain ⟨A2, n2, c2, hn2, hb2, ho2⟩ := HW2.out
  have z0 := hb2.cell 0
  have z1 := hb2.cell 1
  simp only [List.getElem?_toArray, List.getElem?_cons_zero, List.getElem?_cons_succ] at z0 z1
  have HN2 := Lib.hid hn2
  have HO2 := Lib.hid (Sl.of_own ho2)
  clear hn2 hb2 ho2
  go_wp2
  go_ret2
  exact ⟨A2, n2, c2, rfl, HN2.out, HO2.out, HK2.out⟩

set_option maxHeartbeats 4000000 in
set_option maxRecDepth 100000 in
theorem rqPut_query {w : World} (t : ByteArray) (ht : t.size ≤ 1000000000000) :
    Calls Tryz.prog 57 #[.agg (reqC 7 (.slice none 0 0) t 1 (.slice none 0 0) 0 (.slice none 0 0))] w (PutPost w (wrFin (runP (lngB t, 0) 1))) := by
  have HB0 := Lib.hid ((Blk.new w 144 (reqC 7 (.slice none 0 0) t 1 (.slice none 0 0) 0 (.slice none 0 0))).alloc (.cells #[.slice none 0 0, .int .i64 0] 170))
  have HK0 := Lib.hid (((Kept.refl noBlock w).alloc (.cells (reqC 7 (.slice none 0 0) t 1 (.slice none 0 0) 0 (.slice none 0 0)) 144)).alloc (.cells #[.slice none 0 0, .int .i64 0] 170))
  have HW0 := Lib.hid (wrAt_new (Blk.new_at (k := w.heap.size + 1) (w.alloc (.cells (reqC 7 (.slice none 0 0) t 1 (.slice none 0 0) 0 (.slice none 0 0)) 144)) 170 #[.slice none 0 0, .int .i64 0] (by rw [sz_alloc])))
  unfold reqC at HB0 HK0 HW0 ⊢
  go_enter Tryz.func57, Tryz.ntmps57
  go_wp2_with fail
  generalize hw0 : ((w.alloc (.cells #[.int .u8 7, .slice none 0 0, .string t, .slice none 0 0, .int .u16 1, .slice none 0 0, .slice none 0 0, .bool false, .bool false, .int .i32 0, .bool false, .int .i64 0, .slice none 0 0, .bool false, .int .u16 0, .bool false, .int .i64 0, .slice none 0 0, .int .i64 0, .slice none 0 0, .int .u8 0, .slice none 0 0] 144)).alloc (.cells #[.slice none 0 0, .int .i64 0] 170)) = w0 at *
  generalize hg : w.heap.size = g at *
  clear hw0
  go_at_call 78
  refine (pLong_at t (by omega) _).mono ?_
  rintro e w1 ⟨v1, rfl, ho1, hk1⟩
  obtain ⟨A1, c1, rfl, -, -⟩ := (Sl.of_own ho1).shape
  have HR := Lib.hid (rwPut_at (HW0.out.keptN hk1) (Sl.of_own ho1) 0 (by show 0 + (4 + t.size) ≤ _; omega))
  have HST : Hid (wrStep ([], 0) (lngB t) 0 = ((lngB t), 0)) := Lib.hid rfl
  clear ho1
  go_wp2_with fail
  go_at_call 76
  refine HR.out.mono ?_
  rintro e w2 ⟨rfl, hw2, hk2⟩
  rw [HST.out] at hw2
  have HW2 := Lib.hid hw2
  have hb2 := (HB0.out.kept hk1 (fun h => h)).wr hk2 (by omega) (by decide)
  have HK2 : Hid (Kept noBlock w w2) := Lib.hid ((HK0.out.trans hk1 fun _ _ e => e).trans hk2 fun i hi e => by
    unfold wrS at e
    rcases e with e | ⟨e, _⟩ <;> omega)
  clear hw2 hk1 hk2
  have y4 := hb2.cell 4
  have y5 := hb2.cell 5
  have y6 := hb2.cell 6
  have y7 := hb2.cell 7
  have y8 := hb2.cell 8
  have y9 := hb2.cell 9
  have y10 := hb2.cell 10
  have y11 := hb2.cell 11
  have y12 := hb2.cell 12
  have y13 := hb2.cell 13
  have y14 := hb2.cell 14
  have y15 := hb2.cell 15
  have y16 := hb2.cell 16
  simp only [List.getElem?_toArray, List.getElem?_cons_zero, List.getElem?_cons_succ] at y4 y5 y6 y7 y8 y9 y10 y11 y12 y13 y14 y15 y16
  clear hb2
  go_wp2_with fail
  clear y4 y5 y6 y7 y8 y9 y10 y11 y12 y13 y14 y15 y16
  have HRN := Lib.hid (rwRun_at HW2.out 1 (by decide) (by show (lngB t).length ≤ _; rw [lngB_len]; omega))
  unfold parC at HRN
  go_at_call 79
  refine HRN.out.mono ?_
  rintro e w3 ⟨rfl, hw3, hk3⟩
  have HK3 : Hid (Kept noBlock w w3) := Lib.hid (HK2.out.trans hk3 fun i hi e => by
    unfold wrS at e
    rcases e with e | ⟨e, _⟩ <;> omega)
  clear hk3 HK2 HW2
  have HK2 := HK3
  have HW2 := Lib.hid hw3
  clear hw3 HK3
  obtain ⟨A2, n2, c2, hn2, hb2, ho2⟩ := HW2.out
  have z0 := hb2.cell 0
  have z1 := hb2.cell 1
  simp only [List.getElem?_toArray, List.getElem?_cons_zero, List.getElem?_cons_succ] at z0 z1
  have HN2 := Lib.hid hn2
  have HO2 := Lib.hid (Sl.of_own ho2)
  clear hn2 hb2 ho2
  by_cases h0 : (runP (lngB t, 0) 1).2 = 0
  · have HF : Hid (wrFin (runP (lngB t, 0) 1) = (runP (lngB t, 0) 1)) := Lib.hid (wrFin_ok h0)
    have H00 := Lib.hid h0
    rw [h0] at z1
    clear h0
    go_wp2
    go_ret2
    rw [HF.out]
    exact ⟨A2, n2, c2, by rw [H00.out]; rfl, HN2.out, HO2.out, HK2.out⟩
  · have HF : Hid (wrFin (runP (lngB t, 0) 1) = ([], (runP (lngB t, 0) 1).2)) := Lib.hid (wrFin_bad h0)
    have h0' : ((runP (lngB t, 0) 1).2 == 0) = false := by rw [beq_eq_false_iff_ne]; exact h0
    obtain ⟨e5, he5⟩ : ∃ e5, e5 = (runP (lngB t, 0) 1).2 := ⟨_, rfl⟩
    rw [← he5] at z1 h0'
    have HE5 := Lib.hid he5
    clear h0 he5
    go_wp2
    go_quiet (fail)
    go_wp2
    go_ret2
    rw [HF.out]
    exact ⟨none, 0, 0, by rw [← HE5.out]; rfl, rfl, Sl.nil _ _ _, HK2.out.drewN _⟩

end Go.Proofs.YtfnjoceolcdeoaaGreatDoor

/- conn.handshake: for each answer that a state wants. -/
import Derived.Test.YtfnjoceolcdeoaaGreatDoorMr37
import Derived.Test.YtfnjoceolcdeoaaGreatDoorMr41
import Derived.Test.YtfnjoceolcdeoaaGreatDoorMr08
namespace Go.Proofs.YtfnjoceolcdeoaaGreatDoor
set_option linter.unusedVariables false
open Go.RowKit

theorem cell_lt {w : World} {p : Addr} {v : Value} (h : w.cell? p = some v) : p.block < w.heap.size := by
  rcases Nat.lt_or_ge p.block w.heap.size with hlt | hge
  · exact hlt
  · unfold World.cell? at h
    rw [Array.getElem?_eq_none hge] at h
    cases h
theorem get_of_getD {cs : Array Value} {i : Nat} {v : Value} (h : cs.getD i undef = v) (hi : i < cs.size) : cs[i]? = some v := by
  rw [← h]
  simp [Array.getD, hi]

set_option maxHeartbeats 4000000 in
set_option maxRecDepth 100000 in
theorem cnHand_1_6 {w : World} {c : Nat} {o : Option Addr} (st : Int) {len : Nat} {A : Option Addr} {n cA : Nat} {l : List UInt8} (hs : Sl w 5 1 (.slice A n cA) n (bsC l)) (hn : n ≤ 1000000) (R : Nat → Array Value → World → Prop) (hR : Stays R) (hc : CanRead 6 l R)
    (hR0 : ∀ B cs W, R B cs W → cs.getD 0 undef = .int .u8 6) (h8 : w.cell? ⟨c, 8, none⟩ = some (.int .i64 1)) {Post : Ending → World → Prop} (hpost : ∀ e w', Post e w' → e = .returned (.tuple #[]))
    (hgo : ∀ W, Kept noBlock w W → Calls Tryz.prog 39 #[.pointer (some ⟨c, 0, none⟩), .int .i64 2, .pointer o] W Post) :
    Calls Tryz.prog 70 #[.pointer (some ⟨c, 0, none⟩), .agg (frV st 6 len A n cA), .pointer o] w Post := by
  have HBF := Lib.hid (Blk.new w 123 (frV st 6 len A n cA))
  have HK0 := Lib.hid ((Kept.refl noBlock w).alloc (.cells (frV st 6 len A n cA) 123))
  have HRD := Lib.hid (cnRead_ok (len := len) st (op := 6) (SlK.alloc hs (.cells (frV st 6 len A n cA) 123)) hn R hR hc)
  have HR0 := Lib.hid hR0
  have HGO := Lib.hid hgo
  have HPO := Lib.hid hpost
  have H8 := Lib.hid h8
  clear hs hR hc hR0 hgo hpost h8
  unfold frV at *
  go_enter Tryz.func70, Tryz.ntmps70
  go_wp2_with fail
  go_at_call 90
  refine HRD.out.mono ?_
  rintro e w3 ⟨cs, rfl, hsz, hall, hr, hk3⟩
  have c0 : cs[0]? = some (.int .u8 6) := get_of_getD (HR0.out _ cs w3 hr) (by omega)
  have HBR := Lib.hid (Blk.new w3 191 (rep0 0))
  have HK4 := Lib.hid (((HK0.out.trans hk3 fun _ _ e => e).alloc (.cells (rep0 0) 191)).setRow (g := w3.heap.size) (fun h => absurd h (by have h1 := HK0.out.size; have h2 := hk3.size; omega)) cs)
  have HB4 := Lib.hid (show Blk ((w3.alloc (.cells (rep0 0) 191)).setRow w3.heap.size cs) w3.heap.size 191 cs from setRow_heap _ _ _ _ _ _ HBR.out)
  have HSZ := Lib.hid hsz
  have HAL := Lib.hid hall
  clear hk3 hsz hall hr
  go_upto_region 2 with (refine wpList_store_row rfl 191 (.tmp 6) (.tmp 13) rfl w3.heap.size cs rfl rfl 191 (rep0 0) HBR.out (rep_info.trans (by rw [HSZ.out])) (by rw [HSZ.out]; rfl) HAL.out ?_)
  change Code.wp _ _ _ _ ((w3.alloc (.cells (rep0 0) 191)).setRow w3.heap.size cs)
  obtain ⟨w4, hw4⟩ : ∃ w4, w4 = (w3.alloc (.cells (rep0 0) 191)).setRow w3.heap.size cs := ⟨_, rfl⟩
  rw [← hw4] at HK4 HB4 ⊢
  clear hw4 HBR
  generalize w3.heap.size = gr at *
  have y8 := HK4.out.cellN H8.out
  have y0 : w4.cell? ⟨gr, 0, none⟩ = some (.int .u8 6) := (Blk.cell HB4.out 0).trans c0
  go_upto_region 4 with (fail)
  refine wp_region_sch (fun W => Kept noBlock w4 W) (.take 1 (.take 2 (.take 3 (.take 4 (.take 5 (.take 6 (.take 7 (.take 8 (.one 0 (.one 9 (.take 10 .nil))))))))))) (by kernel_rfl) (by kernel_rfl) (by kernel_rfl) (Kept.refl _ _).drew ?_
  repeat (first
    | (refine sch_takeE rfl rfl ?_
       apply Exists.intro
       refine ⟨fun w' hS => ?_, fun K hK => ?_⟩
       · (have r8 := hS.cellN y8
          have r0 := hS.cellN y0
          clear hS
          unfold takesAt; go_simp; rfl)
       go_simp
       refine hK _ ?_
       clear hK K))
  refine sch_doK rfl rfl (fun K hK => ?_)
  go_simp
  go_at_call 92
  refine (cnNext_at _).mono ?_
  rintro e w5 ⟨m, rfl, -, ⟨L, hL, hLT⟩, hk5⟩
  have HK5 := Lib.hid ((Kept.refl noBlock w4).drew.trans hk5 fun _ _ e => e)
  have hlook := nx_look hL hLT 1 6 (by unfold sml; decide)
  rw [show nxV 1 6 = 1 by decide] at hlook
  have hlook2 : (Instr.lookup 194 (.map (some m)) (.agg #[.int .i64 1, .int .i64 (IntKind.i64.wrap 6)]) false).run Tryz.prog w5 = .ok (.int .i64 1) w5 := by
    rw [show IntKind.i64.wrap 6 = 6 by decide]; exact hlook
  refine hK _ _ HK5.out ?_
  clear hK K hk5 hL hLT
  refine sch_doK rfl rfl (fun K hK => ?_)
  go_simp
  refine hK _ _ HK5.out ?_
  clear hK K hlook hlook2
  repeat (first
    | (refine sch_takeE rfl rfl ?_
       apply Exists.intro
       refine ⟨fun w' hS => ?_, fun K hK => ?_⟩
       · (clear hS
          unfold takesAt; go_simp; rfl)
       go_simp
       refine hK _ ?_
       clear hK K))
  refine sch_nil (NoPanic.normal ?_)
  have z8 := HK5.out.cellN y8
  have z0 := HK5.out.cellN y0
  have HK := Lib.hid (HK4.out.trans HK5.out fun _ _ e => e)
  clear y8 y0
  go_wp2_with fail
  go_at_call 39
  refine (HGO.out _ HK.out).mono ?_
  intro e w6 hp
  obtain rfl := HPO.out e w6 hp
  have HP := Lib.hid hp
  clear hp
  go_wp2
  go_end0
  exact HP.out

set_option maxHeartbeats 4000000 in
set_option maxRecDepth 100000 in
theorem cnHand_2_2 {w : World} {c : Nat} {o : Option Addr} (st : Int) {len : Nat} {A : Option Addr} {n cA : Nat} {l : List UInt8} (hs : Sl w 5 1 (.slice A n cA) n (bsC l)) (hn : n ≤ 1000000) (R : Nat → Array Value → World → Prop) (hR : Stays R) (hc : CanRead 2 l R)
    (hR0 : ∀ B cs W, R B cs W → cs.getD 0 undef = .int .u8 2) (h8 : w.cell? ⟨c, 8, none⟩ = some (.int .i64 2)) {Post : Ending → World → Prop} (hpost : ∀ e w', Post e w' → e = .returned (.tuple #[]))
    (hgo : ∀ W, Kept noBlock w W → Calls Tryz.prog 93 #[.pointer (some ⟨c, 0, none⟩), .pointer o] W Post) :
    Calls Tryz.prog 70 #[.pointer (some ⟨c, 0, none⟩), .agg (frV st 2 len A n cA), .pointer o] w Post := by
  have HBF := Lib.hid (Blk.new w 123 (frV st 2 len A n cA))
  have HK0 := Lib.hid ((Kept.refl noBlock w).alloc (.cells (frV st 2 len A n cA) 123))
  have HRD := Lib.hid (cnRead_ok (len := len) st (op := 2) (SlK.alloc hs (.cells (frV st 2 len A n cA) 123)) hn R hR hc)
  have HR0 := Lib.hid hR0
  have HGO := Lib.hid hgo
  have HPO := Lib.hid hpost
  have H8 := Lib.hid h8
  clear hs hR hc hR0 hgo hpost h8
  unfold frV at *
  go_enter Tryz.func70, Tryz.ntmps70
  go_wp2_with fail
  go_at_call 90
  refine HRD.out.mono ?_
  rintro e w3 ⟨cs, rfl, hsz, hall, hr, hk3⟩
  have c0 : cs[0]? = some (.int .u8 2) := get_of_getD (HR0.out _ cs w3 hr) (by omega)
  have HBR := Lib.hid (Blk.new w3 191 (rep0 0))
  have HK4 := Lib.hid (((HK0.out.trans hk3 fun _ _ e => e).alloc (.cells (rep0 0) 191)).setRow (g := w3.heap.size) (fun h => absurd h (by have h1 := HK0.out.size; have h2 := hk3.size; omega)) cs)
  have HB4 := Lib.hid (show Blk ((w3.alloc (.cells (rep0 0) 191)).setRow w3.heap.size cs) w3.heap.size 191 cs from setRow_heap _ _ _ _ _ _ HBR.out)
  have HSZ := Lib.hid hsz
  have HAL := Lib.hid hall
  clear hk3 hsz hall hr
  go_upto_region 2 with (refine wpList_store_row rfl 191 (.tmp 6) (.tmp 13) rfl w3.heap.size cs rfl rfl 191 (rep0 0) HBR.out (rep_info.trans (by rw [HSZ.out])) (by rw [HSZ.out]; rfl) HAL.out ?_)
  change Code.wp _ _ _ _ ((w3.alloc (.cells (rep0 0) 191)).setRow w3.heap.size cs)
  obtain ⟨w4, hw4⟩ : ∃ w4, w4 = (w3.alloc (.cells (rep0 0) 191)).setRow w3.heap.size cs := ⟨_, rfl⟩
  rw [← hw4] at HK4 HB4 ⊢
  clear hw4 HBR
  generalize w3.heap.size = gr at *
  have y8 := HK4.out.cellN H8.out
  have y0 : w4.cell? ⟨gr, 0, none⟩ = some (.int .u8 2) := (Blk.cell HB4.out 0).trans c0
  go_upto_region 4 with (fail)
  refine wp_region_sch (fun W => Kept noBlock w4 W) (.take 1 (.take 2 (.take 3 (.take 4 (.take 5 (.take 6 (.take 7 (.take 8 (.one 0 (.one 9 (.take 10 .nil))))))))))) (by kernel_rfl) (by kernel_rfl) (by kernel_rfl) (Kept.refl _ _).drew ?_
  repeat (first
    | (refine sch_takeE rfl rfl ?_
       apply Exists.intro
       refine ⟨fun w' hS => ?_, fun K hK => ?_⟩
       · (have r8 := hS.cellN y8
          have r0 := hS.cellN y0
          clear hS
          unfold takesAt; go_simp; rfl)
       go_simp
       refine hK _ ?_
       clear hK K))
  refine sch_doK rfl rfl (fun K hK => ?_)
  go_simp
  go_at_call 92
  refine (cnNext_at _).mono ?_
  rintro e w5 ⟨m, rfl, -, ⟨L, hL, hLT⟩, hk5⟩
  have HK5 := Lib.hid ((Kept.refl noBlock w4).drew.trans hk5 fun _ _ e => e)
  have hlook := nx_look hL hLT 2 2 (by unfold sml; decide)
  rw [show nxV 2 2 = 2 by decide] at hlook
  have hlook2 : (Instr.lookup 194 (.map (some m)) (.agg #[.int .i64 2, .int .i64 (IntKind.i64.wrap 2)]) false).run Tryz.prog w5 = .ok (.int .i64 2) w5 := by
    rw [show IntKind.i64.wrap 2 = 2 by decide]; exact hlook
  refine hK _ _ HK5.out ?_
  clear hK K hk5 hL hLT
  refine sch_doK rfl rfl (fun K hK => ?_)
  go_simp
  refine hK _ _ HK5.out ?_
  clear hK K hlook hlook2
  repeat (first
    | (refine sch_takeE rfl rfl ?_
       apply Exists.intro
       refine ⟨fun w' hS => ?_, fun K hK => ?_⟩
       · (clear hS
          unfold takesAt; go_simp; rfl)
       go_simp
       refine hK _ ?_
       clear hK K))
  refine sch_nil (NoPanic.normal ?_)
  have z8 := HK5.out.cellN y8
  have z0 := HK5.out.cellN y0
  have HK := Lib.hid (HK4.out.trans HK5.out fun _ _ e => e)
  clear y8 y0
  go_wp2_with fail
  go_at_call 93
  refine (HGO.out _ HK.out).mono ?_
  intro e w6 hp
  obtain rfl := HPO.out e w6 hp
  have HP := Lib.hid hp
  clear hp
  go_wp2
  go_end0
  exact HP.out

set_option maxHeartbeats 4000000 in
set_option maxRecDepth 100000 in
theorem cnHand_2_3 {w : World} {c : Nat} {o : Option Addr} (st : Int) {len : Nat} {A : Option Addr} {n cA : Nat} {l : List UInt8} (hs : Sl w 5 1 (.slice A n cA) n (bsC l)) (hn : n ≤ 1000000) (R : Nat → Array Value → World → Prop) (hR : Stays R) (hc : CanRead 3 l R)
    (hR0 : ∀ B cs W, R B cs W → cs.getD 0 undef = .int .u8 3) (h8 : w.cell? ⟨c, 8, none⟩ = some (.int .i64 2)) {Post : Ending → World → Prop} (hpost : ∀ e w', Post e w' → e = .returned (.tuple #[]))
    (hgo : ∀ W, Kept noBlock w W → Calls Tryz.prog 39 #[.pointer (some ⟨c, 0, none⟩), .int .i64 3, .pointer o] W Post) :
    Calls Tryz.prog 70 #[.pointer (some ⟨c, 0, none⟩), .agg (frV st 3 len A n cA), .pointer o] w Post := by
  have HBF := Lib.hid (Blk.new w 123 (frV st 3 len A n cA))
  have HK0 := Lib.hid ((Kept.refl noBlock w).alloc (.cells (frV st 3 len A n cA) 123))
  have HRD := Lib.hid (cnRead_ok (len := len) st (op := 3) (SlK.alloc hs (.cells (frV st 3 len A n cA) 123)) hn R hR hc)
  have HR0 := Lib.hid hR0
  have HGO := Lib.hid hgo
  have HPO := Lib.hid hpost
  have H8 := Lib.hid h8
  clear hs hR hc hR0 hgo hpost h8
  unfold frV at *
  go_enter Tryz.func70, Tryz.ntmps70
  go_wp2_with fail
  go_at_call 90
  refine HRD.out.mono ?_
  rintro e w3 ⟨cs, rfl, hsz, hall, hr, hk3⟩
  have c0 : cs[0]? = some (.int .u8 3) := get_of_getD (HR0.out _ cs w3 hr) (by omega)
  have HBR := Lib.hid (Blk.new w3 191 (rep0 0))
  have HK4 := Lib.hid (((HK0.out.trans hk3 fun _ _ e => e).alloc (.cells (rep0 0) 191)).setRow (g := w3.heap.size) (fun h => absurd h (by have h1 := HK0.out.size; have h2 := hk3.size; omega)) cs)
  have HB4 := Lib.hid (show Blk ((w3.alloc (.cells (rep0 0) 191)).setRow w3.heap.size cs) w3.heap.size 191 cs from setRow_heap _ _ _ _ _ _ HBR.out)
  have HSZ := Lib.hid hsz
  have HAL := Lib.hid hall
  clear hk3 hsz hall hr
  go_upto_region 2 with (refine wpList_store_row rfl 191 (.tmp 6) (.tmp 13) rfl w3.heap.size cs rfl rfl 191 (rep0 0) HBR.out (rep_info.trans (by rw [HSZ.out])) (by rw [HSZ.out]; rfl) HAL.out ?_)
  change Code.wp _ _ _ _ ((w3.alloc (.cells (rep0 0) 191)).setRow w3.heap.size cs)
  obtain ⟨w4, hw4⟩ : ∃ w4, w4 = (w3.alloc (.cells (rep0 0) 191)).setRow w3.heap.size cs := ⟨_, rfl⟩
  rw [← hw4] at HK4 HB4 ⊢
  clear hw4 HBR
  generalize w3.heap.size = gr at *
  have y8 := HK4.out.cellN H8.out
  have y0 : w4.cell? ⟨gr, 0, none⟩ = some (.int .u8 3) := (Blk.cell HB4.out 0).trans c0
  go_upto_region 4 with (fail)
  refine wp_region_sch (fun W => Kept noBlock w4 W) (.take 1 (.take 2 (.take 3 (.take 4 (.take 5 (.take 6 (.take 7 (.take 8 (.one 0 (.one 9 (.take 10 .nil))))))))))) (by kernel_rfl) (by kernel_rfl) (by kernel_rfl) (Kept.refl _ _).drew ?_
  repeat (first
    | (refine sch_takeE rfl rfl ?_
       apply Exists.intro
       refine ⟨fun w' hS => ?_, fun K hK => ?_⟩
       · (have r8 := hS.cellN y8
          have r0 := hS.cellN y0
          clear hS
          unfold takesAt; go_simp; rfl)
       go_simp
       refine hK _ ?_
       clear hK K))
  refine sch_doK rfl rfl (fun K hK => ?_)
  go_simp
  go_at_call 92
  refine (cnNext_at _).mono ?_
  rintro e w5 ⟨m, rfl, -, ⟨L, hL, hLT⟩, hk5⟩
  have HK5 := Lib.hid ((Kept.refl noBlock w4).drew.trans hk5 fun _ _ e => e)
  have hlook := nx_look hL hLT 2 3 (by unfold sml; decide)
  rw [show nxV 2 3 = 3 by decide] at hlook
  have hlook2 : (Instr.lookup 194 (.map (some m)) (.agg #[.int .i64 2, .int .i64 (IntKind.i64.wrap 3)]) false).run Tryz.prog w5 = .ok (.int .i64 3) w5 := by
    rw [show IntKind.i64.wrap 3 = 3 by decide]; exact hlook
  refine hK _ _ HK5.out ?_
  clear hK K hk5 hL hLT
  refine sch_doK rfl rfl (fun K hK => ?_)
  go_simp
  refine hK _ _ HK5.out ?_
  clear hK K hlook hlook2
  repeat (first
    | (refine sch_takeE rfl rfl ?_
       apply Exists.intro
       refine ⟨fun w' hS => ?_, fun K hK => ?_⟩
       · (clear hS
          unfold takesAt; go_simp; rfl)
       go_simp
       refine hK _ ?_
       clear hK K))
  refine sch_nil (NoPanic.normal ?_)
  have z8 := HK5.out.cellN y8
  have z0 := HK5.out.cellN y0
  have HK := Lib.hid (HK4.out.trans HK5.out fun _ _ e => e)
  clear y8 y0
  go_wp2_with fail
  go_at_call 39
  refine (HGO.out _ HK.out).mono ?_
  intro e w6 hp
  obtain rfl := HPO.out e w6 hp
  have HP := Lib.hid hp
  clear hp
  go_wp2
  go_end0
  exact HP.out

set_option maxHeartbeats 4000000 in
set_option maxRecDepth 100000 in
theorem cnHand_3_14 {w : World} {c : Nat} {o : Option Addr} (st : Int) {len : Nat} {A : Option Addr} {n cA : Nat} {l : List UInt8} (hs : Sl w 5 1 (.slice A n cA) n (bsC l)) (hn : n ≤ 1000000) (R : Nat → Array Value → World → Prop) (hR : Stays R) (hc : CanRead 14 l R)
    (hR0 : ∀ B cs W, R B cs W → cs.getD 0 undef = .int .u8 14) (h8 : w.cell? ⟨c, 8, none⟩ = some (.int .i64 3)) (ask : Int) (ha0 : 0 ≤ ask) (ha3 : ask < 3) (h14 : w.cell? ⟨c, 14, none⟩ = some (.int .i64 ask)) (hf14 : w.frozen? ⟨c, 14, none⟩ = false) {Post : Ending → World → Prop} (hpost : ∀ e w', Post e w' → e = .returned (.tuple #[]))
    (hgo : ∀ W, Kept noBlock w W → Calls Tryz.prog 39 #[.pointer (some ⟨c, 0, none⟩), .int .i64 3, .pointer o] (W.setCell ⟨c, 14, none⟩ (.int .i64 (ask + 1))) Post) :
    Calls Tryz.prog 70 #[.pointer (some ⟨c, 0, none⟩), .agg (frV st 14 len A n cA), .pointer o] w Post := by
  have HBF := Lib.hid (Blk.new w 123 (frV st 14 len A n cA))
  have HK0 := Lib.hid ((Kept.refl noBlock w).alloc (.cells (frV st 14 len A n cA) 123))
  have HRD := Lib.hid (cnRead_ok (len := len) st (op := 14) (SlK.alloc hs (.cells (frV st 14 len A n cA) 123)) hn R hR hc)
  have HR0 := Lib.hid hR0
  have HGO := Lib.hid hgo
  have HPO := Lib.hid hpost
  have H8 := Lib.hid h8
  have H14 := Lib.hid h14
  have HF14 := Lib.hid hf14
  have hd3 : decide (3 ≤ ask) = false := decide_eq_false (by omega)
  clear h14 hf14
  clear hs hR hc hR0 hgo hpost h8
  unfold frV at *
  go_enter Tryz.func70, Tryz.ntmps70
  go_wp2_with fail
  go_at_call 90
  refine HRD.out.mono ?_
  rintro e w3 ⟨cs, rfl, hsz, hall, hr, hk3⟩
  have c0 : cs[0]? = some (.int .u8 14) := get_of_getD (HR0.out _ cs w3 hr) (by omega)
  have HBR := Lib.hid (Blk.new w3 191 (rep0 0))
  have HK4 := Lib.hid (((HK0.out.trans hk3 fun _ _ e => e).alloc (.cells (rep0 0) 191)).setRow (g := w3.heap.size) (fun h => absurd h (by have h1 := HK0.out.size; have h2 := hk3.size; omega)) cs)
  have HB4 := Lib.hid (show Blk ((w3.alloc (.cells (rep0 0) 191)).setRow w3.heap.size cs) w3.heap.size 191 cs from setRow_heap _ _ _ _ _ _ HBR.out)
  have HSZ := Lib.hid hsz
  have HAL := Lib.hid hall
  clear hk3 hsz hall hr
  go_upto_region 2 with (refine wpList_store_row rfl 191 (.tmp 6) (.tmp 13) rfl w3.heap.size cs rfl rfl 191 (rep0 0) HBR.out (rep_info.trans (by rw [HSZ.out])) (by rw [HSZ.out]; rfl) HAL.out ?_)
  change Code.wp _ _ _ _ ((w3.alloc (.cells (rep0 0) 191)).setRow w3.heap.size cs)
  obtain ⟨w4, hw4⟩ : ∃ w4, w4 = (w3.alloc (.cells (rep0 0) 191)).setRow w3.heap.size cs := ⟨_, rfl⟩
  rw [← hw4] at HK4 HB4 ⊢
  clear hw4 HBR
  generalize w3.heap.size = gr at *
  have y8 := HK4.out.cellN H8.out
  have y0 : w4.cell? ⟨gr, 0, none⟩ = some (.int .u8 14) := (Blk.cell HB4.out 0).trans c0
  go_upto_region 4 with (fail)
  refine wp_region_sch (fun W => Kept noBlock w4 W) (.take 1 (.take 2 (.take 3 (.take 4 (.take 5 (.take 6 (.take 7 (.take 8 (.one 0 (.one 9 (.take 10 .nil))))))))))) (by kernel_rfl) (by kernel_rfl) (by kernel_rfl) (Kept.refl _ _).drew ?_
  repeat (first
    | (refine sch_takeE rfl rfl ?_
       apply Exists.intro
       refine ⟨fun w' hS => ?_, fun K hK => ?_⟩
       · (have r8 := hS.cellN y8
          have r0 := hS.cellN y0
          clear hS
          unfold takesAt; go_simp; rfl)
       go_simp
       refine hK _ ?_
       clear hK K))
  refine sch_doK rfl rfl (fun K hK => ?_)
  go_simp
  go_at_call 92
  refine (cnNext_at _).mono ?_
  rintro e w5 ⟨m, rfl, -, ⟨L, hL, hLT⟩, hk5⟩
  have HK5 := Lib.hid ((Kept.refl noBlock w4).drew.trans hk5 fun _ _ e => e)
  have hlook := nx_look hL hLT 3 14 (by unfold sml; decide)
  rw [show nxV 3 14 = 3 by decide] at hlook
  have hlook2 : (Instr.lookup 194 (.map (some m)) (.agg #[.int .i64 3, .int .i64 (IntKind.i64.wrap 14)]) false).run Tryz.prog w5 = .ok (.int .i64 3) w5 := by
    rw [show IntKind.i64.wrap 14 = 14 by decide]; exact hlook
  refine hK _ _ HK5.out ?_
  clear hK K hk5 hL hLT
  refine sch_doK rfl rfl (fun K hK => ?_)
  go_simp
  refine hK _ _ HK5.out ?_
  clear hK K hlook hlook2
  repeat (first
    | (refine sch_takeE rfl rfl ?_
       apply Exists.intro
       refine ⟨fun w' hS => ?_, fun K hK => ?_⟩
       · (clear hS
          unfold takesAt; go_simp; rfl)
       go_simp
       refine hK _ ?_
       clear hK K))
  refine sch_nil (NoPanic.normal ?_)
  have z8 := HK5.out.cellN y8
  have z0 := HK5.out.cellN y0
  have z14 := (HK4.out.trans HK5.out fun _ _ e => e).cellN H14.out
  have zf14 : w5.frozen? ⟨c, 14, none⟩ = false := ((HK4.out.trans HK5.out fun _ _ e => e).frozen (p := ⟨c, 14, none⟩) (cell_lt H14.out) (fun e => e)).trans HF14.out
  have HK := Lib.hid (HK4.out.trans HK5.out fun _ _ e => e)
  clear y8 y0
  go_wp2_with fail
  go_at_call 39
  refine (HGO.out _ HK.out).mono ?_
  intro e w6 hp
  obtain rfl := HPO.out e w6 hp
  have HP := Lib.hid hp
  clear hp
  go_wp2
  go_end0
  exact HP.out

set_option maxHeartbeats 4000000 in
set_option maxRecDepth 100000 in
theorem cnHand_3_14d {w : World} {c : Nat} {o : Option Addr} (st : Int) {len : Nat} {A : Option Addr} {n cA : Nat} {l : List UInt8} (hs : Sl w 5 1 (.slice A n cA) n (bsC l)) (hn : n ≤ 1000000) (R : Nat → Array Value → World → Prop) (hR : Stays R) (hc : CanRead 14 l R)
    (hR0 : ∀ B cs W, R B cs W → cs.getD 0 undef = .int .u8 14) (h8 : w.cell? ⟨c, 8, none⟩ = some (.int .i64 3)) (ask : Int) (ha : 3 ≤ ask) (h14 : w.cell? ⟨c, 14, none⟩ = some (.int .i64 ask)) {Post : Ending → World → Prop} (hpost : ∀ e w', Post e w' → e = .returned (.tuple #[]))
    (hgo : ∀ W, Kept noBlock w W → Calls Tryz.prog 44 #[.pointer (some ⟨c, 0, none⟩), .int .i64 32, .pointer o] W Post) :
    Calls Tryz.prog 70 #[.pointer (some ⟨c, 0, none⟩), .agg (frV st 14 len A n cA), .pointer o] w Post := by
  have HBF := Lib.hid (Blk.new w 123 (frV st 14 len A n cA))
  have HK0 := Lib.hid ((Kept.refl noBlock w).alloc (.cells (frV st 14 len A n cA) 123))
  have HRD := Lib.hid (cnRead_ok (len := len) st (op := 14) (SlK.alloc hs (.cells (frV st 14 len A n cA) 123)) hn R hR hc)
  have HR0 := Lib.hid hR0
  have HGO := Lib.hid hgo
  have HPO := Lib.hid hpost
  have H8 := Lib.hid h8
  have H14 := Lib.hid h14
  clear h14
  clear hs hR hc hR0 hgo hpost h8
  unfold frV at *
  go_enter Tryz.func70, Tryz.ntmps70
  go_wp2_with fail
  go_at_call 90
  refine HRD.out.mono ?_
  rintro e w3 ⟨cs, rfl, hsz, hall, hr, hk3⟩
  have c0 : cs[0]? = some (.int .u8 14) := get_of_getD (HR0.out _ cs w3 hr) (by omega)
  have HBR := Lib.hid (Blk.new w3 191 (rep0 0))
  have HK4 := Lib.hid (((HK0.out.trans hk3 fun _ _ e => e).alloc (.cells (rep0 0) 191)).setRow (g := w3.heap.size) (fun h => absurd h (by have h1 := HK0.out.size; have h2 := hk3.size; omega)) cs)
  have HB4 := Lib.hid (show Blk ((w3.alloc (.cells (rep0 0) 191)).setRow w3.heap.size cs) w3.heap.size 191 cs from setRow_heap _ _ _ _ _ _ HBR.out)
  have HSZ := Lib.hid hsz
  have HAL := Lib.hid hall
  clear hk3 hsz hall hr
  go_upto_region 2 with (refine wpList_store_row rfl 191 (.tmp 6) (.tmp 13) rfl w3.heap.size cs rfl rfl 191 (rep0 0) HBR.out (rep_info.trans (by rw [HSZ.out])) (by rw [HSZ.out]; rfl) HAL.out ?_)
  change Code.wp _ _ _ _ ((w3.alloc (.cells (rep0 0) 191)).setRow w3.heap.size cs)
  obtain ⟨w4, hw4⟩ : ∃ w4, w4 = (w3.alloc (.cells (rep0 0) 191)).setRow w3.heap.size cs := ⟨_, rfl⟩
  rw [← hw4] at HK4 HB4 ⊢
  clear hw4 HBR
  generalize w3.heap.size = gr at *
  have y8 := HK4.out.cellN H8.out
  have y0 : w4.cell? ⟨gr, 0, none⟩ = some (.int .u8 14) := (Blk.cell HB4.out 0).trans c0
  go_upto_region 4 with (fail)
  refine wp_region_sch (fun W => Kept noBlock w4 W) (.take 1 (.take 2 (.take 3 (.take 4 (.take 5 (.take 6 (.take 7 (.take 8 (.one 0 (.one 9 (.take 10 .nil))))))))))) (by kernel_rfl) (by kernel_rfl) (by kernel_rfl) (Kept.refl _ _).drew ?_
  repeat (first
    | (refine sch_takeE rfl rfl ?_
       apply Exists.intro
       refine ⟨fun w' hS => ?_, fun K hK => ?_⟩
       · (have r8 := hS.cellN y8
          have r0 := hS.cellN y0
          clear hS
          unfold takesAt; go_simp; rfl)
       go_simp
       refine hK _ ?_
       clear hK K))
  refine sch_doK rfl rfl (fun K hK => ?_)
  go_simp
  go_at_call 92
  refine (cnNext_at _).mono ?_
  rintro e w5 ⟨m, rfl, -, ⟨L, hL, hLT⟩, hk5⟩
  have HK5 := Lib.hid ((Kept.refl noBlock w4).drew.trans hk5 fun _ _ e => e)
  have hlook := nx_look hL hLT 3 14 (by unfold sml; decide)
  rw [show nxV 3 14 = 3 by decide] at hlook
  have hlook2 : (Instr.lookup 194 (.map (some m)) (.agg #[.int .i64 3, .int .i64 (IntKind.i64.wrap 14)]) false).run Tryz.prog w5 = .ok (.int .i64 3) w5 := by
    rw [show IntKind.i64.wrap 14 = 14 by decide]; exact hlook
  refine hK _ _ HK5.out ?_
  clear hK K hk5 hL hLT
  refine sch_doK rfl rfl (fun K hK => ?_)
  go_simp
  refine hK _ _ HK5.out ?_
  clear hK K hlook hlook2
  repeat (first
    | (refine sch_takeE rfl rfl ?_
       apply Exists.intro
       refine ⟨fun w' hS => ?_, fun K hK => ?_⟩
       · (clear hS
          unfold takesAt; go_simp; rfl)
       go_simp
       refine hK _ ?_
       clear hK K))
  refine sch_nil (NoPanic.normal ?_)
  have z8 := HK5.out.cellN y8
  have z0 := HK5.out.cellN y0
  have z14 := (HK4.out.trans HK5.out fun _ _ e => e).cellN H14.out
  have HK := Lib.hid (HK4.out.trans HK5.out fun _ _ e => e)
  clear y8 y0
  go_wp2_with fail
  go_at_call 44
  refine (HGO.out _ HK.out).mono ?_
  intro e w6 hp
  obtain rfl := HPO.out e w6 hp
  have HP := Lib.hid hp
  clear hp
  go_wp2
  go_end0
  exact HP.out

set_option maxHeartbeats 4000000 in
set_option maxRecDepth 100000 in
theorem cnHand_3_16 {w : World} {c : Nat} {o : Option Addr} (st : Int) {len : Nat} {A : Option Addr} {n cA : Nat} {l : List UInt8} (hs : Sl w 5 1 (.slice A n cA) n (bsC l)) (hn : n ≤ 1000000) (R : Nat → Array Value → World → Prop) (hR : Stays R) (hc : CanRead 16 l R)
    (hR0 : ∀ B cs W, R B cs W → cs.getD 0 undef = .int .u8 16) (h8 : w.cell? ⟨c, 8, none⟩ = some (.int .i64 3)) {Post : Ending → World → Prop} (hpost : ∀ e w', Post e w' → e = .returned (.tuple #[]))
    (hgo : ∀ W, Kept noBlock w W → Calls Tryz.prog 93 #[.pointer (some ⟨c, 0, none⟩), .pointer o] W Post) :
    Calls Tryz.prog 70 #[.pointer (some ⟨c, 0, none⟩), .agg (frV st 16 len A n cA), .pointer o] w Post := by
  have HBF := Lib.hid (Blk.new w 123 (frV st 16 len A n cA))
  have HK0 := Lib.hid ((Kept.refl noBlock w).alloc (.cells (frV st 16 len A n cA) 123))
  have HRD := Lib.hid (cnRead_ok (len := len) st (op := 16) (SlK.alloc hs (.cells (frV st 16 len A n cA) 123)) hn R hR hc)
  have HR0 := Lib.hid hR0
  have HGO := Lib.hid hgo
  have HPO := Lib.hid hpost
  have H8 := Lib.hid h8
  clear hs hR hc hR0 hgo hpost h8
  unfold frV at *
  go_enter Tryz.func70, Tryz.ntmps70
  go_wp2_with fail
  go_at_call 90
  refine HRD.out.mono ?_
  rintro e w3 ⟨cs, rfl, hsz, hall, hr, hk3⟩
  have c0 : cs[0]? = some (.int .u8 16) := get_of_getD (HR0.out _ cs w3 hr) (by omega)
  have HBR := Lib.hid (Blk.new w3 191 (rep0 0))
  have HK4 := Lib.hid (((HK0.out.trans hk3 fun _ _ e => e).alloc (.cells (rep0 0) 191)).setRow (g := w3.heap.size) (fun h => absurd h (by have h1 := HK0.out.size; have h2 := hk3.size; omega)) cs)
  have HB4 := Lib.hid (show Blk ((w3.alloc (.cells (rep0 0) 191)).setRow w3.heap.size cs) w3.heap.size 191 cs from setRow_heap _ _ _ _ _ _ HBR.out)
  have HSZ := Lib.hid hsz
  have HAL := Lib.hid hall
  clear hk3 hsz hall hr
  go_upto_region 2 with (refine wpList_store_row rfl 191 (.tmp 6) (.tmp 13) rfl w3.heap.size cs rfl rfl 191 (rep0 0) HBR.out (rep_info.trans (by rw [HSZ.out])) (by rw [HSZ.out]; rfl) HAL.out ?_)
  change Code.wp _ _ _ _ ((w3.alloc (.cells (rep0 0) 191)).setRow w3.heap.size cs)
  obtain ⟨w4, hw4⟩ : ∃ w4, w4 = (w3.alloc (.cells (rep0 0) 191)).setRow w3.heap.size cs := ⟨_, rfl⟩
  rw [← hw4] at HK4 HB4 ⊢
  clear hw4 HBR
  generalize w3.heap.size = gr at *
  have y8 := HK4.out.cellN H8.out
  have y0 : w4.cell? ⟨gr, 0, none⟩ = some (.int .u8 16) := (Blk.cell HB4.out 0).trans c0
  go_upto_region 4 with (fail)
  refine wp_region_sch (fun W => Kept noBlock w4 W) (.take 1 (.take 2 (.take 3 (.take 4 (.take 5 (.take 6 (.take 7 (.take 8 (.one 0 (.one 9 (.take 10 .nil))))))))))) (by kernel_rfl) (by kernel_rfl) (by kernel_rfl) (Kept.refl _ _).drew ?_
  repeat (first
    | (refine sch_takeE rfl rfl ?_
       apply Exists.intro
       refine ⟨fun w' hS => ?_, fun K hK => ?_⟩
       · (have r8 := hS.cellN y8
          have r0 := hS.cellN y0
          clear hS
          unfold takesAt; go_simp; rfl)
       go_simp
       refine hK _ ?_
       clear hK K))
  refine sch_doK rfl rfl (fun K hK => ?_)
  go_simp
  go_at_call 92
  refine (cnNext_at _).mono ?_
  rintro e w5 ⟨m, rfl, -, ⟨L, hL, hLT⟩, hk5⟩
  have HK5 := Lib.hid ((Kept.refl noBlock w4).drew.trans hk5 fun _ _ e => e)
  have hlook := nx_look hL hLT 3 16 (by unfold sml; decide)
  rw [show nxV 3 16 = 2 by decide] at hlook
  have hlook2 : (Instr.lookup 194 (.map (some m)) (.agg #[.int .i64 3, .int .i64 (IntKind.i64.wrap 16)]) false).run Tryz.prog w5 = .ok (.int .i64 2) w5 := by
    rw [show IntKind.i64.wrap 16 = 16 by decide]; exact hlook
  refine hK _ _ HK5.out ?_
  clear hK K hk5 hL hLT
  refine sch_doK rfl rfl (fun K hK => ?_)
  go_simp
  refine hK _ _ HK5.out ?_
  clear hK K hlook hlook2
  repeat (first
    | (refine sch_takeE rfl rfl ?_
       apply Exists.intro
       refine ⟨fun w' hS => ?_, fun K hK => ?_⟩
       · (clear hS
          unfold takesAt; go_simp; rfl)
       go_simp
       refine hK _ ?_
       clear hK K))
  refine sch_nil (NoPanic.normal ?_)
  have z8 := HK5.out.cellN y8
  have z0 := HK5.out.cellN y0
  have HK := Lib.hid (HK4.out.trans HK5.out fun _ _ e => e)
  clear y8 y0
  go_wp2_with fail
  go_at_call 93
  refine (HGO.out _ HK.out).mono ?_
  intro e w6 hp
  obtain rfl := HPO.out e w6 hp
  have HP := Lib.hid hp
  clear hp
  go_wp2
  go_end0
  exact HP.out

set_option maxHeartbeats 4000000 in
set_option maxRecDepth 100000 in
theorem cnHand_4_8 {w : World} {c : Nat} {o : Option Addr} (st : Int) {len : Nat} {A : Option Addr} {n cA : Nat} {l : List UInt8} (hs : Sl w 5 1 (.slice A n cA) n (bsC l)) (hn : n ≤ 1000000) (R : Nat → Array Value → World → Prop) (hR : Stays R) (hc : CanRead 8 l R)
    (hR0 : ∀ B cs W, R B cs W → cs.getD 0 undef = .int .u8 8) (hRK : ∀ B cs W, R B cs W → cs.getD 26 undef = .int .u32 3) (h8 : w.cell? ⟨c, 8, none⟩ = some (.int .i64 4)) {Post : Ending → World → Prop} (hpost : ∀ e w', Post e w' → e = .returned (.tuple #[]))
    (hgo : ∀ W, Kept noBlock w W → Calls Tryz.prog 93 #[.pointer (some ⟨c, 0, none⟩), .pointer o] W Post) :
    Calls Tryz.prog 70 #[.pointer (some ⟨c, 0, none⟩), .agg (frV st 8 len A n cA), .pointer o] w Post := by
  have HBF := Lib.hid (Blk.new w 123 (frV st 8 len A n cA))
  have HK0 := Lib.hid ((Kept.refl noBlock w).alloc (.cells (frV st 8 len A n cA) 123))
  have HRD := Lib.hid (cnRead_ok (len := len) st (op := 8) (SlK.alloc hs (.cells (frV st 8 len A n cA) 123)) hn R hR hc)
  have HR0 := Lib.hid hR0
  have HGO := Lib.hid hgo
  have HPO := Lib.hid hpost
  have H8 := Lib.hid h8
  have HRK := Lib.hid hRK
  clear hRK
  clear hs hR hc hR0 hgo hpost h8
  unfold frV at *
  go_enter Tryz.func70, Tryz.ntmps70
  go_wp2_with fail
  go_at_call 90
  refine HRD.out.mono ?_
  rintro e w3 ⟨cs, rfl, hsz, hall, hr, hk3⟩
  have c0 : cs[0]? = some (.int .u8 8) := get_of_getD (HR0.out _ cs w3 hr) (by omega)
  have c26 : cs[26]? = some (.int .u32 3) := get_of_getD (HRK.out _ cs w3 hr) (by omega)
  have HBR := Lib.hid (Blk.new w3 191 (rep0 0))
  have HK4 := Lib.hid (((HK0.out.trans hk3 fun _ _ e => e).alloc (.cells (rep0 0) 191)).setRow (g := w3.heap.size) (fun h => absurd h (by have h1 := HK0.out.size; have h2 := hk3.size; omega)) cs)
  have HB4 := Lib.hid (show Blk ((w3.alloc (.cells (rep0 0) 191)).setRow w3.heap.size cs) w3.heap.size 191 cs from setRow_heap _ _ _ _ _ _ HBR.out)
  have HSZ := Lib.hid hsz
  have HAL := Lib.hid hall
  clear hk3 hsz hall hr
  go_upto_region 2 with (refine wpList_store_row rfl 191 (.tmp 6) (.tmp 13) rfl w3.heap.size cs rfl rfl 191 (rep0 0) HBR.out (rep_info.trans (by rw [HSZ.out])) (by rw [HSZ.out]; rfl) HAL.out ?_)
  change Code.wp _ _ _ _ ((w3.alloc (.cells (rep0 0) 191)).setRow w3.heap.size cs)
  obtain ⟨w4, hw4⟩ : ∃ w4, w4 = (w3.alloc (.cells (rep0 0) 191)).setRow w3.heap.size cs := ⟨_, rfl⟩
  rw [← hw4] at HK4 HB4 ⊢
  clear hw4 HBR
  generalize w3.heap.size = gr at *
  have y8 := HK4.out.cellN H8.out
  have y0 : w4.cell? ⟨gr, 0, none⟩ = some (.int .u8 8) := (Blk.cell HB4.out 0).trans c0
  have y26 : w4.cell? ⟨gr, 26, none⟩ = some (.int .u32 3) := (Blk.cell HB4.out 26).trans c26
  go_upto_region 4 with (fail)
  refine wp_region_sch (fun W => Kept noBlock w4 W) (.take 1 (.take 2 (.take 3 (.take 4 (.take 5 (.take 6 (.take 7 (.take 8 (.one 0 (.one 9 (.take 10 .nil))))))))))) (by kernel_rfl) (by kernel_rfl) (by kernel_rfl) (Kept.refl _ _).drew ?_
  repeat (first
    | (refine sch_takeE rfl rfl ?_
       apply Exists.intro
       refine ⟨fun w' hS => ?_, fun K hK => ?_⟩
       · (have r8 := hS.cellN y8
          have r0 := hS.cellN y0
          clear hS
          unfold takesAt; go_simp; rfl)
       go_simp
       refine hK _ ?_
       clear hK K))
  refine sch_doK rfl rfl (fun K hK => ?_)
  go_simp
  go_at_call 92
  refine (cnNext_at _).mono ?_
  rintro e w5 ⟨m, rfl, -, ⟨L, hL, hLT⟩, hk5⟩
  have HK5 := Lib.hid ((Kept.refl noBlock w4).drew.trans hk5 fun _ _ e => e)
  have hlook := nx_look hL hLT 4 8 (by unfold sml; decide)
  rw [show nxV 4 8 = 2 by decide] at hlook
  have hlook2 : (Instr.lookup 194 (.map (some m)) (.agg #[.int .i64 4, .int .i64 (IntKind.i64.wrap 8)]) false).run Tryz.prog w5 = .ok (.int .i64 2) w5 := by
    rw [show IntKind.i64.wrap 8 = 8 by decide]; exact hlook
  refine hK _ _ HK5.out ?_
  clear hK K hk5 hL hLT
  refine sch_doK rfl rfl (fun K hK => ?_)
  go_simp
  refine hK _ _ HK5.out ?_
  clear hK K hlook hlook2
  repeat (first
    | (refine sch_takeE rfl rfl ?_
       apply Exists.intro
       refine ⟨fun w' hS => ?_, fun K hK => ?_⟩
       · (clear hS
          unfold takesAt; go_simp; rfl)
       go_simp
       refine hK _ ?_
       clear hK K))
  refine sch_nil (NoPanic.normal ?_)
  have z8 := HK5.out.cellN y8
  have z0 := HK5.out.cellN y0
  have z26 := HK5.out.cellN y26
  have HK := Lib.hid (HK4.out.trans HK5.out fun _ _ e => e)
  clear y8 y0
  go_wp2_with fail
  go_at_call 93
  refine (HGO.out _ HK.out).mono ?_
  intro e w6 hp
  obtain rfl := HPO.out e w6 hp
  have HP := Lib.hid hp
  clear hp
  go_wp2
  go_end0
  exact HP.out

set_option maxHeartbeats 4000000 in
set_option maxRecDepth 100000 in
theorem cnHand_5_2 {w : World} {c : Nat} {o : Option Addr} (st : Int) {len : Nat} {A : Option Addr} {n cA : Nat} {l : List UInt8} (hs : Sl w 5 1 (.slice A n cA) n (bsC l)) (hn : n ≤ 1000000) (R : Nat → Array Value → World → Prop) (hR : Stays R) (hc : CanRead 2 l R)
    (hR0 : ∀ B cs W, R B cs W → cs.getD 0 undef = .int .u8 2) (h8 : w.cell? ⟨c, 8, none⟩ = some (.int .i64 5)) {Post : Ending → World → Prop} (hpost : ∀ e w', Post e w' → e = .returned (.tuple #[]))
    (hgo : ∀ W, Kept noBlock w W → Calls Tryz.prog 93 #[.pointer (some ⟨c, 0, none⟩), .pointer o] W Post) :
    Calls Tryz.prog 70 #[.pointer (some ⟨c, 0, none⟩), .agg (frV st 2 len A n cA), .pointer o] w Post := by
  have HBF := Lib.hid (Blk.new w 123 (frV st 2 len A n cA))
  have HK0 := Lib.hid ((Kept.refl noBlock w).alloc (.cells (frV st 2 len A n cA) 123))
  have HRD := Lib.hid (cnRead_ok (len := len) st (op := 2) (SlK.alloc hs (.cells (frV st 2 len A n cA) 123)) hn R hR hc)
  have HR0 := Lib.hid hR0
  have HGO := Lib.hid hgo
  have HPO := Lib.hid hpost
  have H8 := Lib.hid h8
  clear hs hR hc hR0 hgo hpost h8
  unfold frV at *
  go_enter Tryz.func70, Tryz.ntmps70
  go_wp2_with fail
  go_at_call 90
  refine HRD.out.mono ?_
  rintro e w3 ⟨cs, rfl, hsz, hall, hr, hk3⟩
  have c0 : cs[0]? = some (.int .u8 2) := get_of_getD (HR0.out _ cs w3 hr) (by omega)
  have HBR := Lib.hid (Blk.new w3 191 (rep0 0))
  have HK4 := Lib.hid (((HK0.out.trans hk3 fun _ _ e => e).alloc (.cells (rep0 0) 191)).setRow (g := w3.heap.size) (fun h => absurd h (by have h1 := HK0.out.size; have h2 := hk3.size; omega)) cs)
  have HB4 := Lib.hid (show Blk ((w3.alloc (.cells (rep0 0) 191)).setRow w3.heap.size cs) w3.heap.size 191 cs from setRow_heap _ _ _ _ _ _ HBR.out)
  have HSZ := Lib.hid hsz
  have HAL := Lib.hid hall
  clear hk3 hsz hall hr
  go_upto_region 2 with (refine wpList_store_row rfl 191 (.tmp 6) (.tmp 13) rfl w3.heap.size cs rfl rfl 191 (rep0 0) HBR.out (rep_info.trans (by rw [HSZ.out])) (by rw [HSZ.out]; rfl) HAL.out ?_)
  change Code.wp _ _ _ _ ((w3.alloc (.cells (rep0 0) 191)).setRow w3.heap.size cs)
  obtain ⟨w4, hw4⟩ : ∃ w4, w4 = (w3.alloc (.cells (rep0 0) 191)).setRow w3.heap.size cs := ⟨_, rfl⟩
  rw [← hw4] at HK4 HB4 ⊢
  clear hw4 HBR
  generalize w3.heap.size = gr at *
  have y8 := HK4.out.cellN H8.out
  have y0 : w4.cell? ⟨gr, 0, none⟩ = some (.int .u8 2) := (Blk.cell HB4.out 0).trans c0
  go_upto_region 4 with (fail)
  refine wp_region_sch (fun W => Kept noBlock w4 W) (.take 1 (.take 2 (.take 3 (.take 4 (.take 5 (.take 6 (.take 7 (.take 8 (.one 0 (.one 9 (.take 10 .nil))))))))))) (by kernel_rfl) (by kernel_rfl) (by kernel_rfl) (Kept.refl _ _).drew ?_
  repeat (first
    | (refine sch_takeE rfl rfl ?_
       apply Exists.intro
       refine ⟨fun w' hS => ?_, fun K hK => ?_⟩
       · (have r8 := hS.cellN y8
          have r0 := hS.cellN y0
          clear hS
          unfold takesAt; go_simp; rfl)
       go_simp
       refine hK _ ?_
       clear hK K))
  refine sch_doK rfl rfl (fun K hK => ?_)
  go_simp
  go_at_call 92
  refine (cnNext_at _).mono ?_
  rintro e w5 ⟨m, rfl, -, ⟨L, hL, hLT⟩, hk5⟩
  have HK5 := Lib.hid ((Kept.refl noBlock w4).drew.trans hk5 fun _ _ e => e)
  have hlook := nx_look hL hLT 5 2 (by unfold sml; decide)
  rw [show nxV 5 2 = 2 by decide] at hlook
  have hlook2 : (Instr.lookup 194 (.map (some m)) (.agg #[.int .i64 5, .int .i64 (IntKind.i64.wrap 2)]) false).run Tryz.prog w5 = .ok (.int .i64 2) w5 := by
    rw [show IntKind.i64.wrap 2 = 2 by decide]; exact hlook
  refine hK _ _ HK5.out ?_
  clear hK K hk5 hL hLT
  refine sch_doK rfl rfl (fun K hK => ?_)
  go_simp
  refine hK _ _ HK5.out ?_
  clear hK K hlook hlook2
  repeat (first
    | (refine sch_takeE rfl rfl ?_
       apply Exists.intro
       refine ⟨fun w' hS => ?_, fun K hK => ?_⟩
       · (clear hS
          unfold takesAt; go_simp; rfl)
       go_simp
       refine hK _ ?_
       clear hK K))
  refine sch_nil (NoPanic.normal ?_)
  have z8 := HK5.out.cellN y8
  have z0 := HK5.out.cellN y0
  have HK := Lib.hid (HK4.out.trans HK5.out fun _ _ e => e)
  clear y8 y0
  go_wp2_with fail
  go_at_call 93
  refine (HGO.out _ HK.out).mono ?_
  intro e w6 hp
  obtain rfl := HPO.out e w6 hp
  have HP := Lib.hid hp
  clear hp
  go_wp2
  go_end0
  exact HP.out
end Go.Proofs.YtfnjoceolcdeoaaGreatDoor

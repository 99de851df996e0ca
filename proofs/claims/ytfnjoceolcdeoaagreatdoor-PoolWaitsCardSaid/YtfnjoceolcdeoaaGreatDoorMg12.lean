/- A cell's fact along a world that only grows · prims.Value, of a value that is set: its bytes behind their number. -/
import Derived.Test.YtfnjoceolcdeoaaGreatDoorMg02
import Derived.Test.YtfnjoceolcdeoaaGreatDoorMg06
import Derived.Test.YtfnjoceolcdeoaaGreatDoorMg11
import Derived.Test.YtfnjoceolcdeoaaGreatDoorMg08
namespace Go.Proofs.YtfnjoceolcdeoaaGreatDoor
set_option linter.unusedVariables false
open Go.RowKit
theorem Kept.cellN {w w' : World} {p : Addr} {v : Value} (h : Kept noBlock w w') (hc : w.cell? p = some v) : w'.cell? p = some v := by
  refine (h.cell (p := p) ?_ fun e => e).trans hc
  unfold World.cell? at hc
  rcases Nat.lt_or_ge p.block w.heap.size with hlt | hge
  · exact hlt
  · rw [Array.getElem?_eq_none hge] at hc; cases hc
end Go.Proofs.YtfnjoceolcdeoaaGreatDoor
namespace Go.Proofs.YtfnjoceolcdeoaaGreatDoor
set_option linter.unusedVariables false
open Go.RowKit

def valB (l : List UInt8) : List UInt8 := putB l.length 4 ++ l
set_option maxHeartbeats 2000000 in
set_option maxRecDepth 100000 in
theorem pValue_set {w : World} {v : Value} {n : Nat} {l : List UInt8} (h : Sl w 5 1 v n (Lib.byteCells l)) (hn : n ≤ 140737488355000) : Calls Tryz.prog 82 #[.agg #[.int .i64 2, v]] w fun e w' => ∃ v', e = .returned (.tuple #[v', .int .i64 0]) ∧ w'.ownsRow w.heap.size 5 1 v' (4 + n) (Lib.byteCells (valB l)) ∧ Kept noBlock w w' := by
  have hln : l.length = n := by have := h.len; unfold Lib.byteCells at this; rw [List.length_map, Nat.mul_one] at this; exact this
  obtain ⟨A, c, rfl, -, -⟩ := h.shape
  have hlen := h.run_len bytesQT
  have H := Lib.hid h
  have HL := Lib.hid hln
  clear h hln
  go_enter Tryz.func82, Tryz.ntmps82
  go_wp2_with fail
  have HB := Lib.hid (Blk.new w 139 #[.int .i64 2, .slice A n c])
  have HK0 := Lib.hid ((Kept.refl noBlock w).alloc (.cells #[.int .i64 2, .slice A n c] 139))
  generalize hw0 : w.alloc (.cells #[.int .i64 2, .slice A n c] 139) = w0 at *
  generalize hg : w.heap.size = g at *
  have y1 := HB.out.cell 1
  simp only [List.getElem?_toArray, List.getElem?_cons_zero, List.getElem?_cons_succ] at y1
  refine wp_region_sch (fun w' => Kept noBlock w0 w') (.take 0 (.take 1 (.take 2 (.take 3 (.take 5 (.take 6 (.one 4 (.one 7 (.take 8 (.take 9 .nil)))))))))) (by kernel_rfl) (by kernel_rfl) (by kernel_rfl) (Kept.refl _ _).drew ?_
  repeat (first
    | (refine sch_takeE rfl rfl ?_
       apply Exists.intro
       refine ⟨fun w' hS => ?_, fun K hK => ?_⟩
       · (have r1 := hS.cellN y1
          clear hS
          unfold takesAt; go_simp; rfl)
       go_simp
       refine hK _ ?_
       clear hK K))
  have hl64 : IntKind.u64.wrap (n : Int) = (n : Int) := by rw [IntKind.wrap_u64]; omega
  rw [hl64]
  refine sch_doK rfl rfl (fun K hK => ?_)
  go_simp
  go_at_call 111
  refine (oPut_at n 4 (by omega) (by decide) (by decide) _).mono ?_
  rintro e w2 ⟨v2, rfl, ho2, hk2⟩
  have hk02 : Kept noBlock w0 w2 := (Kept.refl noBlock w0).drew.trans hk2 fun _ _ e => e
  have HK2 := Lib.hid (HK0.out.trans hk02 fun _ _ e => e)
  have HO2 := Lib.hid (show w2.ownsRow w0.heap.size 5 1 v2 4 _ from ho2)
  have HS2 := Lib.hid (SlK.keptNone H.out HK2.out)
  have HK02 := Lib.hid hk02
  refine hK _ _ hk02 ?_
  clear hK K ho2 hk2 hk02
  refine sch_doK rfl rfl (fun K hK => ?_)
  refine wp_append_sl _ bytesQT (.tmp 20) (.tmp 22) rfl w0.heap.size _ 4 (Lib.byteCells (putB n 4)) rfl HO2.out _ n (Lib.byteCells l) rfl HS2.out (fun u hu => byteCells_one hu) ?c1 ?c2 ?_
  case c1 => omega
  case c2 => exact HK02.out.size
  intro v' w3 hap
  have hk03 := hap.below HO2.out HK02.out (Nat.le_refl _)
  have HK3 := Lib.hid (HK0.out.trans hk03 fun _ _ e => e)
  have HO3 := Lib.hid (own_base hap.own (show g ≤ w0.heap.size by have := HK0.out.size; rw [hg] at this; exact this))
  refine hK _ _ hk03 ?_
  clear hK K hap hk03
  repeat (first
    | (refine sch_takeE rfl rfl ?_
       apply Exists.intro
       refine ⟨fun w' hS => ?_, fun K hK => ?_⟩
       · (clear hS
          unfold takesAt; go_simp; rfl)
       go_simp
       refine hK _ ?_
       clear hK K))
  refine sch_nil (NoPanic.normal ?_)
  go_wp2
  go_ret2
  refine ⟨_, rfl, ?_, HK3.out⟩
  rw [hg]
  unfold valB
  rw [byteCells_app, HL.out]
  exact HO3.out
end Go.Proofs.YtfnjoceolcdeoaaGreatDoor

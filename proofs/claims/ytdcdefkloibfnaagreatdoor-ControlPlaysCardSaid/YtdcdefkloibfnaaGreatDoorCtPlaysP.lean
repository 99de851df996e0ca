/- ControlPlays: a step, whatever its kind; loads of great structs. -/
import Derived.Test.YtdcdefkloibfnaaGreatDoorCtStep0
import Derived.Test.YtdcdefkloibfnaaGreatDoorCtStep1
import Derived.Test.YtdcdefkloibfnaaGreatDoorCtStep23
namespace Go.Proofs.YtdcdefkloibfnaaGreatDoor
set_option linter.unusedVariables false
open Go.RowKit

theorem step_at {w : World} {ok own : Nat → Prop} {c g : Nat} {dc : ByteArray} {rem : Int} {S : List Ho} {wait at_ : Int} {asks : Bool} {A : Option Addr} {n cc : Nat} {l : List HV} {B : Nat} {x : AV3} (h : CtAt w own c g dc rem S wait asks at_) (hr : RL w ok A n cc l S) (hok : ∀ k, ok k → ¬ own k ∧ k ≠ c) (hS : HOk S)
    (hB : ∀ k, own k ∨ k = c → B ≤ k) (hx : ActIn3 w B x) (now : Int) (hw : 0 ≤ wait ∧ wait ≤ 18446744073709551615) (hnow : 0 ≤ now ∧ now ≤ 18446744073709551615) (hd : Doors w) (hgn : x.note.gn ≤ 20) (hs1 : TblS x.own) (hs2 : TblS x.oth) :
    Calls Tryz.prog 19 #[.pointer (some ⟨c, 0, none⟩), .agg (c23C dc rem A n cc wait asks at_), .agg x.C, .int .u64 now] w fun e w' => StepPost w ok own c g dc rem wait e w' := by
  have hm := i64_and3 x.kind
  have h4 : x.kind % 4 = 0 ∨ x.kind % 4 = 1 ∨ x.kind % 4 = 2 ∨ x.kind % 4 = 3 := by omega
  rcases h4 with e | e | e | e
  · exact step0_at h hr hok hS hB hx now hw hnow hd hgn (hm.trans e)
  · exact step1_at h hr hok hS hB hx now hd hs1 hs2 (hm.trans e)
  · exact step2_at h hr hok hS hB hx now (hm.trans e)
  · exact step3_at h hr hok hS hB hx now (hm.trans e)
theorem wpList_load_at {P : Program} {ops : Array Oper} {rest : List Oper} {o : Oper} {a : Act} {w : World} {Q : Exit → Act → World → Prop} (hgd : o.guard = none) (ty : TypeId) (x : Operand) (ho : o.op = .load ty x)
    (g off : Nat) (hx : a.eval x = .pointer (some ⟨g, off, none⟩)) (cs : Array Value) (d : TypeDesc) (hc : ∀ j v, cs.toList[j]? = some v → w.cell? ⟨g, off + j, none⟩ = some v)
    (hu : P.underlying ty = some d) (hd : (match d with | .struct _ | .array _ _ => true | _ => false) = true) (hi : (P.info? ty).map (·.size) = some cs.size)
    (h : wpList P ops Q rest (a.put o.dst (.agg cs)) w) : wpList P ops Q (o :: rest) a w := by
  refine wpList_plain hgd fun K hK => ?_
  have hl : (loadCells ⟨g, off, none⟩ cs.toList.length).run P w = .ok cs.toList.toArray w := run_loadCells_list (P := P) w ⟨g, off, none⟩ cs.toList (fun j v hv => by rw [Addr.add_lit]; exact hc j v hv)
  have hv : (loadVar ty ⟨g, off, none⟩).run P w = .ok (.agg cs) w := by
    cases hq : P.info? ty with
    | none => simp [hq] at hi
    | some i =>
      have hs : i.size = cs.size := by simpa [hq] using hi
      have hagg : (isAgg ty).run P w = .ok true w := by
        unfold isAgg
        rw [Sem.run_bind, run_underlying hu w]
        cases d <;> simp_all
      simp only [Array.length_toList, Array.toArray_toList] at hl
      simp [loadVar, Sem.run_bind, hagg, sizeOf, typeInfo, hq, hs, hl]
  unfold Oper.wp execOp
  simp only [ho, hx, Instr.loadAt, Instr.sureAddr, Sem.run_bind, Sem.run_pure, Result.andThen_ok, hv]
  exact hK _ _ h
theorem act_info0 : (Tryz.prog.info? 69).map (·.size) = some 23 := by kernel_rfl
theorem act_info (x : AV3) : (Tryz.prog.info? 69).map (·.size) = some x.C.size := act_info0
theorem act_one (x : AV3) : x.C.all (·.oneCell') = true := by simp [AV3.C, act3C, Value.oneCell']
theorem acts3T : SlT Tryz.prog 53 69 (.agg #[.int .i64 0, .string noStr, .string noStr, .slice none 0 0, .int .u32 0, .string noStr, .string noStr, .string noStr, .string noStr, .slice none 0 0, .int .i64 0, .slice none 0 0, .bool false, .int .i64 0, .slice none 0 0, .slice none 0 0, .int .i64 0, .slice none 0 0, .bool false, .int .i64 0, .slice none 0 0, .slice none 0 0, .int .u64 0]) 23 360 := ⟨Tryz.underlying53, by kernel_rfl, rfl, by decide, by decide⟩
/-- A play: the control and its model. -/
structure CPlay (w wr : World) (c g bw : Nat) (dc : ByteArray) (rem wait : Int) (own : Nat → Prop) (A : Option Addr) (n cc : Nat) (l : List HV) (S : List Ho) (asks : Bool) (at_ : Int) : Prop where
  ct : CtAt wr own c g dc rem S wait asks at_
  box : Blk wr bw 59 #[.string dc, .int .i64 rem, .slice A n cc, .int .u64 wait, .bool asks, .int .u64 at_]
  row : RL wr (fun k => ¬ own k ∧ k ≠ c ∧ k ≠ bw) A n cc l S
  nb : ¬ (own bw ∨ bw = c)
  low : ∀ k, own k ∨ k = c → w.heap.size ≤ k
  lob : w.heap.size ≤ bw
  ok : HOk S
  kept : Kept noBlock w wr
theorem CPlay.keptN {w wr w' : World} {c g bw : Nat} {dc : ByteArray} {rem wait : Int} {own : Nat → Prop} {A : Option Addr} {n cc : Nat} {l : List HV} {S : List Ho} {asks : Bool} {at_ : Int} (h : CPlay w wr c g bw dc rem wait own A n cc l S asks at_) (hk : Kept noBlock wr w') : CPlay w w' c g bw dc rem wait own A n cc l S asks at_ :=
  ⟨h.ct.keptN hk, h.box.kept hk fun e => e, h.row.keptN hk, h.nb, h.low, h.lob, h.ok, h.kept.trans hk fun _ _ e => e⟩
/-- A step's outcome, laid into the struct. -/
theorem CPlay.stored {w wr w5 : World} {c g bw : Nat} {dc : ByteArray} {rem wait : Int} {own : Nat → Prop} {A : Option Addr} {n cc : Nat} {l : List HV} {S : List Ho} {asks : Bool} {at_ : Int} (h : CPlay w wr c g bw dc rem wait own A n cc l S asks at_)
    {own' : Nat → Prop} {A' : Option Addr} {n' cc' : Nat} {l' : List HV} {S' : List Ho} {asks' : Bool} {at' : Int} (hc : CtAt w5 own' c g dc rem S' wait asks' at') (hr : RL w5 (fun k => ((¬ own k ∧ k ≠ c ∧ k ≠ bw) ∨ wr.heap.size ≤ k) ∧ ¬ own' k ∧ k ≠ c) A' n' cc' l' S') (hS : HOk S') (ho : ∀ k, own' k → own k ∨ wr.heap.size ≤ k) (hk : Kept (fun k => own k ∨ k = c) wr w5) :
    CPlay w ((((((w5.setCell ⟨bw, 0, none⟩ (.string dc)).setCell ⟨bw, 1, none⟩ (.int .i64 rem)).setCell ⟨bw, 2, none⟩ (.slice A' n' cc')).setCell ⟨bw, 3, none⟩ (.int .u64 wait)).setCell ⟨bw, 4, none⟩ (.bool asks')).setCell ⟨bw, 5, none⟩ (.int .u64 at')) c g bw dc rem wait own' A' n' cc' l' S' asks' at' := by
  have hbl := h.box.lt
  have hkb := kept6 (M := bw) (u0 := .string dc) (u1 := .int .i64 rem) (u2 := .slice A' n' cc') (u3 := .int .u64 wait) (u4 := .bool asks') (u5 := .int .u64 at') (Kept.refl (fun k => k = bw) w5) fun _ => rfl
  have hnb : ¬ (own' bw ∨ bw = c) := fun e => by
    rcases e with e | e
    · rcases ho bw e with e | e
      · exact h.nb (.inl e)
      · omega
    · exact h.nb (.inr e)
  refine ⟨hc.keptS hkb fun k e e2 => hnb (e2 ▸ e), blk6 (h.box.kept hk h.nb), (hr.kept hkb fun k e e2 => ?_).wide fun k _ e => ⟨e.2.1, e.2.2, ?_⟩, hnb, fun k e => ?_, h.lob, hS, ?_⟩
  · rcases e.1 with e3 | e3
    · exact e3.2.2 e2
    · omega
  · rcases e.1 with e3 | e3
    · exact e3.2.2
    · omega
  · rcases e with e | e
    · rcases ho k e with e | e
      · exact h.low k (.inl e)
      · have := h.kept.size; omega
    · exact h.low k (.inr e)
  · exact (h.kept.trans hk fun k hlt e => by have := h.low k e; omega).trans hkb fun k hlt e => by have := h.lob; omega
end Go.Proofs.YtdcdefkloibfnaaGreatDoor

/- ExecutorPlays: one region of the statement's loop: the model's step. -/
import Derived.Test.YtooedjedncokpaaPlaysPure
import Derived.Test.YtooedjedncokpaaRefJ
import Derived.Test.YtooedjedncokpaaRefK
import Derived.Test.YtooedjedncokpaaSched2
import Derived.Test.YtooedjedncokpaaLoadEv
import Derived.Test.YtooedjedncokpaaExEv
import Derived.Test.YtooedjedncokpaaExAwake
import Derived.Deep.DeepCutAuto
namespace Go.Proofs.Ytooedjedncokpaa
set_option linter.unusedVariables false
open Go.RowKit

theorem model_at {r : XReq} {B : Nat} {hv lv : Value} (e : XEv) (now : Int) {w : World} {k : Int} (h : RefAt w B r hv lv) (hB : B ≤ w.heap.size) (hI : Inv k r) (hk : k ≤ 100) (hn0 : 0 ≤ now) (hn : now < 18446744073709551616) :
    Calls Try.prog 22 #[rVal r hv lv, e.val, .int .u64 now] w (RefPost w B (r.act e now)) := by
  have hb := i64_and7 e.kind
  have hp0 := hI.prep0
  have hp1 : r.prepared < 4611686018427387904 := by have := hI.prep1; omega
  unfold XReq.act XEv.val
  rcases kinds e with h1 | h1 | h1 | h1 | h1 | h1 | h1 | h1 <;> rw [h1] at hb ⊢
  · simpa using model_0 e now hb h hB hI.rok
  · simpa using model_1 e now hb h hB hI.rok (hI.okAg hk) hp0 hp1
  · simpa using model_2 e now hb h hB hI.rok (hI.okAg hk) hp0 hp1
  · simpa using model_3 e now hb h hB hI.rok (hI.okAg hk)
  · simpa using model_4 e now hb h hB hI.rok (hI.okAg hk)
  · simpa using model_5 e now hb h hB hI.rok
  · simpa using model_6 e now hb h hB 20 (fun _ => hI.rtick hn) hn0
  · simpa using model_7 e now hb h hB 20 (fun _ => hI.rtick hn) hn0
theorem ReqAt.stored {w w' : World} {b m g : Nat} {q : XReq} {cs : Array Value} (h : ReqAt w b m q) (hb : Blk w g 53 cs) (hk : Kept (fun i => i = g) w w') : ReqAt w' b m q := by
  obtain ⟨hv, h1, h2, h3⟩ := h
  refine ⟨hv, h1.kept hk (fun e => ?_), SlK.kept h2 hk (fun i cs' fz e hc => ?_), h3.kept hk (fun e => h3.ne_blk hb e.symm)⟩
  · subst e; exact Blk.ne_ h1 hb (by decide) rfl
  · subst e; unfold Blk at hb; rw [hb] at hc; injection hc with hc; injection hc with _ h2; exact absurd h2 (by decide)
theorem RefAt.acted {w w' : World} {b m B : Nat} {q r : XReq} {hv lv : Value} (h : RefAt w B r hv lv) (hr : ReqAt w b m q) (hk : Kept (two b m) w w') (hb : B ≤ b) (hm : B ≤ m) : RefAt w' B r hv lv :=
  ⟨Lo.kept h.1 hk (fun i hi h => by rcases h with rfl | rfl <;> omega), SlK.kept h.2 hk (hr.apart (by decide))⟩
theorem Blk.acted {w w' : World} {b m g : Nat} {q : XReq} {cs : Array Value} (h : Blk w g 53 cs) (hr : ReqAt w b m q) (hk : Kept (two b m) w w') : Blk w' g 53 cs := by
  refine h.kept hk fun hs => ?_
  obtain ⟨hv, h1, h2, h3⟩ := hr
  rcases hs with rfl | rfl
  · exact Blk.ne_ h1 h (by decide) rfl
  · exact h3.ne_blk h rfl
theorem ev_lo {w : World} {B : Nat} {v : Value} {evs : List XEv} (h : Lo w B 17 v evs.length (evs.flatMap evCells)) {i : Nat} {e : XEv} (hi : evs[i]? = some e) :
    ∃ g off, (∀ kd w', (Instr.indexAt 49 v (.int kd (i : Int))).run Try.prog w' = .ok (.pointer (some ⟨g, off, none⟩)) w') ∧ g < w.heap.size ∧ g < B ∧ ∀ j u, (evCells e)[j]? = some u → w.cell? ⟨g, off + j, none⟩ = some u := by
  have hlt : i < evs.length := (List.getElem?_eq_some_iff.1 hi).1
  obtain ⟨g, off, h1, h2, ⟨_, _, _, _, h4⟩, h3⟩ := h.run_index evsT (i := (i : Int)) (k := i) rfl hlt
  refine ⟨g, off, h1, h2, h4, fun j u hu => h3 j u ?_⟩
  rw [flat_get (k := 17) (fun _ => rfl) evs i j e hi (List.getElem?_eq_some_iff.1 hu).1]
  exact hu
/-- The head of a step. -/
def PlaysRel (w : World) (b m g : Nat) (sv : Value) (evs : List XEv) (j : Nat) (vn vi : Value) (wr : World) : Prop :=
  ∃ (i : Nat) (q : XReq) (now : Int) (hv lv : Value), i + j = 60 ∧ vi = .int .i64 i ∧ vn = .int .u64 now ∧ 0 ≤ now ∧ now < 18446744073709551616 ∧ Inv i q ∧ ReqAt wr b m q ∧ Blk wr g 53 (rCells q hv lv) ∧ RefAt wr w.heap.size q hv lv ∧
    Lo wr w.heap.size 17 sv evs.length (evs.flatMap evCells) ∧ Kept (fun i => w.heap.size ≤ i) w wr

theorem Sl.storedR {w w' : World} {g sz n : Nat} {e : TypeId} {v : Value} {xs : List Value} {cs : Array Value} (h : Sl w e sz v n xs) (hb : Blk w g 53 cs) (hk : Kept (fun i => i = g) w w') (he : e ≠ 53) : Sl w' e sz v n xs :=
  SlK.kept h hk (fun i cs' fz e' hc => by
    subst e'; unfold Blk at hb; rw [hb] at hc; injection hc with hc; injection hc with _ h2; exact absurd h2.symm he)
theorem intsT : SlT Try.prog 46 3 (.int .i64 0) 1 8 := ⟨Try.underlying46, by kernel_rfl, rfl, by decide, by decide⟩
theorem int_at {w : World} {ok : Nat → TypeId → Prop} {v : Value} {L : List (Int × ByteArray)} (h : SlK w ok 1 v L.length (L.map fun p => Value.int .i64 p.1)) {i : Nat} {p : Int × ByteArray} (hi : L[i]? = some p) :
    ∃ g off, (∀ kd w', (Instr.indexAt 46 v (.int kd (i : Int))).run Try.prog w' = .ok (.pointer (some ⟨g, off, none⟩)) w') ∧ w.cell? ⟨g, off, none⟩ = some (.int .i64 p.1) := by
  have hlt : i < L.length := (List.getElem?_eq_some_iff.1 hi).1
  obtain ⟨g, off, h1, _, _, h3⟩ := h.run_index intsT (i := (i : Int)) (k := i) rfl hlt
  exact ⟨g, off, h1, h3 0 _ (by rw [Nat.mul_one, Nat.add_zero, List.getElem?_map, hi]; rfl)⟩
/-- What the model's step leaves: a new struct, what is done. -/
def StepRel (B g : Nat) (z : XReq × List XAct) (w3 : World) (s20 s21 : Value) (wx : World) : Prop :=
  ∃ g20 hv lv, s20 = .pointer (some ⟨g20, 0, none⟩) ∧ Blk wx g20 53 (rCells z.1 hv lv) ∧ RefAt wx B z.1 hv lv ∧ RActs wx s21 z.2 ∧ Kept noBlock w3 wx ∧ w3.heap.size ≤ g20

/-- The code of one region, taken out of a function's body. -/
def regOf (k : Nat) : Code → Option Code
  | .region i ops d => if i = k then some (.region i ops d) else none
  | .seq a b => match regOf k a with
    | some c => some c
    | none => regOf k b
  | .loop c => regOf k c
  | .block _ c => regOf k c
  | .scope c => regOf k c
  | .cond _ a b => match regOf k a with
    | some c => some c
    | none => regOf k b
  | _ => none
noncomputable def region15 : Code := ((Try.f6.body.bind (regOf 15)).getD .skip)

set_option maxHeartbeats 8000000 in
set_option maxRecDepth 100000 in
theorem region15_walk (i : Nat) (now2 : Int) (SA : Option Addr) (scap g B : Nat) (evs : List XEv) (ev : XEv) (q : XReq) (z2 : XReq × List XAct) (hv lv : Value) (ge oe : Nat) (w3 : World) (Q0 : Exit → Act → World → Prop)
    (t0 t1 t2 t4 t6 t7 t8 t9 t10 t11 t12 t13 t14 t15 t17 t19 t20 t21 t22 t23 t24 t25 t26 t27 t28 t29 t30 t31 t32 t33 t34 t35 t36 t37 t38 t39 t40 t41 t42 t43 t44 t45 t46 t47 t48 t49 t50 t51 t52 t53 t54 t55 t56 t57 t58 t59 t60 t61 t62 t63 t64 t65 t66 t67 t68 t69 t70 t71 t72 t73 t74 t75 t76 t77 t78 t79 t80 t81 t82 t83 t84 t85 t86 t87 t88 t89 t90 t91 t92 t93 t94 t95 t96 t97 t98 t99 t100 t101 t102 t103 t104 t105 t106 t107 t108 t109 t110 t111 t112 t113 t114 t115 t116 t117 t118 t119 t120 t121 t122 t123 t124 t125 t126 t127 t128 t129 t130 t131 t132 t133 t134 t135 t136 t137 t138 t139 t140 t141 t142 t143 t144 t145 t146 t147 t148 t149 t150 t151 t152 t153 t154 : Value)
    (hidx : ∀ kd w', (Instr.indexAt 49 (.slice SA evs.length scap) (.int kd (i : Int))).run Try.prog w' = .ok (.pointer (some ⟨ge, oe, none⟩)) w')
    (HG3 : Hid (Blk w3 g 53 (rCells q hv lv))) (HF3 : Hid (RefAt w3 B q hv lv))
    (HC3 : Hid (∀ j u, (evCells ev)[j]? = some u → w3.cell? ⟨ge, oe + j, none⟩ = some u))
    (HMOD : Hid (∀ W, RefAt W B q hv lv → B ≤ W.heap.size → Calls Try.prog 22 #[rVal q hv lv, ev.val, .int .u64 now2] W (RefPost W B z2)))
    (hgl3 : ge < w3.heap.size) (hg3l : g < w3.heap.size) (hw3 : B ≤ w3.heap.size)
    (HOUT : ∀ (s20 s21 v81 v82 v83 v84 v85 v86 v87 v88 v89 v90 : Value) (wx : World), StepRel B g z2 w3 s20 s21 wx → Q0 .normal ⟨#[t0, t1, t2, .int .u64 now2, t4, .slice SA evs.length scap, t6, t7, t8, t9, t10, t11, t12, t13, t14, t15, .pointer (some ⟨g, 0, none⟩), t17, .int .i64 (i : Int), t19, s20, s21, t22, t23, t24, t25, t26, t27, t28, t29, t30, t31, t32, t33, t34, t35, t36, t37, t38, t39, t40, t41, t42, t43, t44, t45, t46, t47, t48, t49, t50, t51, t52, t53, t54, t55, t56, t57, t58, t59, t60, t61, t62, t63, t64, t65, t66, t67, t68, t69, t70, t71, t72, t73, t74, t75, t76, t77, t78, t79, t80, v81, v82, v83, v84, v85, v86, v87, v88, v89, v90, t91, t92, t93, t94, t95, t96, t97, t98, t99, t100, t101, t102, t103, t104, t105, t106, t107, t108, t109, t110, t111, t112, t113, t114, t115, t116, t117, t118, t119, t120, t121, t122, t123, t124, t125, t126, t127, t128, t129, t130, t131, t132, t133, t134, t135, t136, t137, t138, t139, t140, t141, t142, t143, t144, t145, t146, t147, t148, t149, t150, t151, t152, t153, t154], []⟩ wx)
    (c : Code) (hc : c = region15) : Code.wp Try.prog c Q0 ⟨#[t0, t1, t2, .int .u64 now2, t4, .slice SA evs.length scap, t6, t7, t8, t9, t10, t11, t12, t13, t14, t15, .pointer (some ⟨g, 0, none⟩), t17, .int .i64 (i : Int), t19, t20, t21, t22, t23, t24, t25, t26, t27, t28, t29, t30, t31, t32, t33, t34, t35, t36, t37, t38, t39, t40, t41, t42, t43, t44, t45, t46, t47, t48, t49, t50, t51, t52, t53, t54, t55, t56, t57, t58, t59, t60, t61, t62, t63, t64, t65, t66, t67, t68, t69, t70, t71, t72, t73, t74, t75, t76, t77, t78, t79, t80, t81, t82, t83, t84, t85, t86, t87, t88, t89, t90, t91, t92, t93, t94, t95, t96, t97, t98, t99, t100, t101, t102, t103, t104, t105, t106, t107, t108, t109, t110, t111, t112, t113, t114, t115, t116, t117, t118, t119, t120, t121, t122, t123, t124, t125, t126, t127, t128, t129, t130, t131, t132, t133, t134, t135, t136, t137, t138, t139, t140, t141, t142, t143, t144, t145, t146, t147, t148, t149, t150, t151, t152, t153, t154], []⟩ w3 := by
  subst hc
  conv => arg 2; whnf
  obtain ⟨A7, c7, rfl, -, -⟩ := HF3.out.1.shape
  obtain ⟨A8, c8, rfl, -, -⟩ := HF3.out.2.shape
  refine wp_region_sch (fun w' => Kept (fun i => w3.heap.size ≤ i) w3 w') (.take 0 (.take 1 (.take 2 (.take 3 (.take 4 (.take 5 (.two 6 (.take 7 (.take 8 (.take 9 (.one 10 (.one 11 (.take 12 .nil)))))) 10 (.one 6 (.take 7 (.take 8 (.take 9 (.one 11 (.take 12 .nil))))))))))))) (by kernel_rfl) (by kernel_rfl) (by kernel_rfl) (Kept.refl _ _).drew ?_
  iterate 4 (first
    | (refine sch_takeE rfl rfl ?_
       apply Exists.intro
       refine ⟨fun w' hS => ?_, fun K hK => ?_⟩
       · (obtain ⟨S0, S1, S2, S3, S4, S5, S6, S7, S8, S9, S10, S11, S12, S13⟩ := cells14 (HG3.out.kept hS (Nat.not_le.2 hg3l)); obtain ⟨T0, T1, T2, T3, T4, T5, T6, T7, T8, T9, T10, T11, T12, T13, T14, T15, T16⟩ := ev17 (fun j u hu => (hS.cell (p := ⟨ge, oe + j, none⟩) hgl3 (Nat.not_le.2 hgl3)).trans (HC3.out j u hu)); unfold takesAt; go_simp; rfl)
       go_simp
       refine hK _ ?_
       clear hK K))
  refine sch_takeE rfl rfl ?_
  refine ⟨ev.val, fun w' hS => ?_, fun K hK => ?_⟩
  · exact load_ev rfl rfl (fun j u hu => (hS.cell (p := ⟨ge, oe + j, none⟩) hgl3 (Nat.not_le.2 hgl3)).trans (HC3.out j u hu))
  go_simp
  refine hK _ ?_
  clear hK K
  repeat (first
    | (refine sch_takeE rfl rfl ?_
       apply Exists.intro
       refine ⟨fun w' hS => ?_, fun K hK => ?_⟩
       · (unfold takesAt; go_simp; rfl)
       go_simp
       refine hK _ ?_
       clear hK K))
  have hstep : ∀ (W : World), Kept (fun i => w3.heap.size ≤ i) w3 W → W.heap.size ≥ w3.heap.size := fun W h => h.size
  refine sch_two ?_ ?_
  · refine do_doK rfl rfl (fun K hK => ?_)
    go_simp
    go_at_call 22
    refine (HMOD.out _ ⟨HF3.out.1.drew, HF3.out.2.drew⟩ hw3).mono ?_
    rintro e w4 ⟨hv4, lv4, av4, rfl, hr4, ha4, hk4⟩
    obtain ⟨A9, c9, rfl, -, -⟩ := hr4.1.shape
    obtain ⟨A10, c10, rfl, -, -⟩ := hr4.2.shape
    have hkA := (Kept.refl noBlock w3).drew.trans hk4 (fun _ _ h => h)
    refine hK _ _ hkA.of_none ?_
    clear hK K
    repeat (first
      | (refine sch_takeE rfl rfl ?_
         apply Exists.intro
         refine ⟨fun w' hS => ?_, fun K hK => ?_⟩
         · (unfold takesAt; go_simp; rfl)
         go_simp
         refine hK _ ?_
         clear hK K))
    refine sch_doK rfl rfl (fun K hK => ?_)
    go_simp
    refine hK _ _ (hkA.of_none.alloc _) ?_
    clear hK K
    refine sch_doK rfl rfl (fun K hK => ?_)
    go_simp
    refine hK _ _ (hkA.of_none.alloc _) ?_
    clear hK K
    repeat (first
      | (refine sch_takeE rfl rfl ?_
         apply Exists.intro
         refine ⟨fun w' hS => ?_, fun K hK => ?_⟩
         · (unfold takesAt; go_simp; rfl)
         go_simp
         refine hK _ ?_
         clear hK K))
    refine sch_nil (NoPanic.normal ?_)
    try go_simp
    exact HOUT _ _ _ _ _ _ _ _ _ _ _ _ _ ⟨w4.heap.size, _, _, rfl, Blk.new _ _ _, hr4.alloc _, SlK.alloc ha4 _, hkA.alloc _, hkA.size⟩
  · refine do_doK rfl rfl (fun K hK => ?_)
    go_simp
    refine hK _ _ ((Kept.refl _ _).drew.alloc _) ?_
    clear hK K
    have hbB := Blk.new w3.drew 53 rZero
    refine sch_doK rfl rfl (fun K hK => ?_)
    go_simp
    go_at_call 22
    refine (HMOD.out _ ⟨SlK.alloc HF3.out.1.drew (.cells rZero 53), SlK.alloc HF3.out.2.drew (.cells rZero 53)⟩ (by rw [sz_alloc, sz_drew]; omega)).mono ?_
    rintro e w4 ⟨hv4, lv4, av4, rfl, hr4, ha4, hk4⟩
    obtain ⟨A9, c9, rfl, -, -⟩ := hr4.1.shape
    obtain ⟨A10, c10, rfl, -, -⟩ := hr4.2.shape
    have hkA := ((Kept.refl noBlock w3).drew.alloc (.cells rZero 53)).trans hk4 (fun _ _ h => h)
    have hbB4 := hbB.kept hk4 id
    rw [sz_drew] at hbB4
    refine hK _ _ hkA.of_none ?_
    clear hK K hbB
    obtain ⟨b0, b1, b2, b3, b4, b5, b6, b7, b8, b9, b10, b11, b12, b13⟩ := cells14 hbB4
    have fr := hbB4.frozen
    repeat (first
      | (refine sch_takeE rfl rfl ?_
         apply Exists.intro
         refine ⟨fun w' hS => ?_, fun K hK => ?_⟩
         · (unfold takesAt; go_simp; rfl)
         go_simp
         refine hK _ ?_
         clear hK K))
    refine sch_doK rfl rfl (fun K hK => ?_)
    go_simp
    have hkp := rStored_kept w4 w3.heap.size z2.1 (.slice A9 z2.1.hosts.length c9) (.slice A10 z2.1.live.length c10)
    refine hK _ _ (hkA.of_none.trans hkp fun i hi e => Nat.le_of_eq e.symm) ?_
    clear hK K
    repeat (first
      | (refine sch_takeE rfl rfl ?_
         apply Exists.intro
         refine ⟨fun w' hS => ?_, fun K hK => ?_⟩
         · (unfold takesAt; go_simp; rfl)
         go_simp
         refine hK _ ?_
         clear hK K))
    refine sch_nil (NoPanic.normal ?_)
    try go_simp
    exact HOUT _ _ _ _ _ _ _ _ _ _ _ _ _ ⟨w3.heap.size, _, _, rfl, rStored_blk hbB4 _ _ _, hr4.stored hbB4 hw3 hkp, RActs.stored ha4 hbB4 hkp, hkA.trans hkp (fun i hi e => by omega), Nat.le_refl _⟩
end Go.Proofs.Ytooedjedncokpaa

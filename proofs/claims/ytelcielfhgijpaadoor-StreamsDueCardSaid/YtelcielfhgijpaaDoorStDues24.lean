/- StreamsDue: of two that are due and come one behind the other the first is the earlier one, or the lower. -/
import Derived.Test.YtelcielfhgijpaaDoorStIdx
import Derived.Test.YtelcielfhgijpaaDoorSched2
namespace Go.Proofs.YtelcielfhgijpaaDoor
set_option linter.unusedVariables false
open Go.RowKit
/-- The code of one region, taken out of a function's body. -/
def regOf (k : Nat) : Code → Option Code
  | .region i ops d => if i = k then some (.region i ops d) else none
  | .seq a b => match regOf k a with
    | some c => some c
    | none => regOf k b
  | .loop c => regOf k c
  | .block _ c => regOf k c
  | .scope c => regOf k c
  | .cond _ a b => match regOf k a with
    | some c => some c
    | none => regOf k b
  | _ => none
noncomputable def region24 : Code := ((Tryd.f3.body.bind (regOf 24)).getD .skip)
theorem sch_skipE {P : Program} {ops : Array Oper} {S : World → Prop} {Q : Exit → Act → World → Prop} {i : Nat} {r : Sch} {a : Act} {w : World} {o : Oper} (hi : ops[i]? = some o) (hw : Region.wanted o (yielded ops a.tmps) = false)
    (h : ∀ K : Act → Prop, (∀ a, wpSch P ops S Q r a w → K a) → K (a.put o.dst undef)) : wpSch P ops S Q (.take i r) a w := ⟨o, hi, .inl ⟨hw, h _ fun _ h => h⟩⟩

set_option maxHeartbeats 4000000 in
set_option maxRecDepth 100000 in
theorem r24_lt (A B : Option Addr) (cap c3 nu nd k jx jy gd od ge oe gu ou gv ov : Nat) (ux uy : Int) (w : World) (Q0 : Exit → Act → World → Prop)
    (t1 t2 t3 t4 t5 t6 t7 t8 t9 t10 t11 t14 t15 t16 t17 t18 t19 t20 t21 t22 t23 t24 t25 t26 t27 t28 t29 t30 t31 t32 t33 t34 t35 t36 t37 t38 t39 t40 t41 t42 t43 t44 t45 t46 t47 t48 t49 t50 t51 t52 t53 t54 t55 t56 t57 t58 t59 t60 t61 t62 t63 t64 t65 t66 t67 t68 t69 t70 t71 t72 t73 t74 t75 t76 t77 t78 t79 t80 t81 t82 t83 t84 t85 t86 t87 t88 t89 t90 t91 t92 t93 t94 t95 t96 t97 t98 t99 t100 t101 t102 t103 t104 t105 t106 t107 t108 t109 t110 t111 t112 t113 t114 t115 t116 t117 t118 t119 t120 t121 t122 t123 t124 t125 t126 t127 t128 t129 t130 t131 t132 t133 t134 t135 t136 t137 t138 t139 t140 t141 t142 t143 t144 t145 t146 t147 t148 t149 t150 : Value)
    (hid : ∀ kd w', (Instr.indexAt 31 (.slice B nd c3) (.int kd ((k : Int) + 1))).run Tryd.prog w' = .ok (.pointer (some ⟨gd, od, none⟩)) w')
    (hie : ∀ kd w', (Instr.indexAt 31 (.slice B nd c3) (.int kd (k : Int))).run Tryd.prog w' = .ok (.pointer (some ⟨ge, oe, none⟩)) w')
    (hiu : ∀ kd w', (Instr.indexAt 22 (.slice A nu cap) (.int kd (jx : Int))).run Tryd.prog w' = .ok (.pointer (some ⟨gu, ou, none⟩)) w')
    (hiv : ∀ kd w', (Instr.indexAt 22 (.slice A nu cap) (.int kd (jy : Int))).run Tryd.prog w' = .ok (.pointer (some ⟨gv, ov, none⟩)) w')
    (hcd : w.cell? ⟨gd, od, none⟩ = some (.int .i64 (jx : Int))) (hce : w.cell? ⟨ge, oe, none⟩ = some (.int .i64 (jy : Int)))
    (hcu : w.cell? ⟨gu, ou, none⟩ = some (.int .u64 ux)) (hcv : w.cell? ⟨gv, ov, none⟩ = some (.int .u64 uy))
    (hwk : IntKind.i64.wrap (k : Int) = (k : Int)) (hne : (uy == ux) = false) (hle : ¬ ux < uy)
    (HOUT : ∀ (v97 v98 v99 v100 v101 v102 v103 v104 v105 v106 v107 v108 v109 v110 v111 v112 v113 v114 v115 v116 v117 v118 v119 v120 v121 v122 v123 v124 v125 v126 v127 v128 v129 v130 v131 v132 v133 v134 v135 v136 v137 v138 v139 v140 v141 v142 v143 v144 v145 : Value), Q0 .normal ⟨#[.slice A nu cap, t1, t2, t3, t4, t5, t6, t7, t8, t9, t10, t11, .slice B nd c3, .int .i64 ((k : Int) + 1), t14, t15, t16, t17, t18, t19, t20, t21, t22, t23, t24, t25, t26, t27, t28, t29, t30, t31, t32, t33, t34, t35, t36, t37, t38, t39, t40, t41, t42, t43, t44, t45, t46, t47, t48, t49, t50, t51, t52, t53, t54, t55, t56, t57, t58, t59, t60, t61, t62, t63, t64, t65, t66, t67, t68, t69, t70, t71, t72, t73, t74, t75, t76, t77, t78, t79, t80, t81, t82, t83, t84, t85, t86, t87, t88, t89, t90, t91, t92, t93, t94, t95, t96, v97, v98, v99, v100, v101, v102, v103, v104, v105, v106, v107, v108, v109, v110, v111, v112, v113, v114, v115, v116, v117, v118, v119, v120, v121, v122, v123, v124, v125, v126, v127, v128, v129, v130, v131, v132, v133, v134, v135, v136, v137, v138, v139, v140, v141, v142, v143, v144, v145, .bool false, t147, t148, t149, t150], []⟩ w.drew)
    (c : Code) (hc : c = region24) : Code.wp Tryd.prog c Q0 ⟨#[.slice A nu cap, t1, t2, t3, t4, t5, t6, t7, t8, t9, t10, t11, .slice B nd c3, .int .i64 ((k : Int) + 1), t14, t15, t16, t17, t18, t19, t20, t21, t22, t23, t24, t25, t26, t27, t28, t29, t30, t31, t32, t33, t34, t35, t36, t37, t38, t39, t40, t41, t42, t43, t44, t45, t46, t47, t48, t49, t50, t51, t52, t53, t54, t55, t56, t57, t58, t59, t60, t61, t62, t63, t64, t65, t66, t67, t68, t69, t70, t71, t72, t73, t74, t75, t76, t77, t78, t79, t80, t81, t82, t83, t84, t85, t86, t87, t88, t89, t90, t91, t92, t93, t94, t95, t96, t97, t98, t99, t100, t101, t102, t103, t104, t105, t106, t107, t108, t109, t110, t111, t112, t113, t114, t115, t116, t117, t118, t119, t120, t121, t122, t123, t124, t125, t126, t127, t128, t129, t130, t131, t132, t133, t134, t135, t136, t137, t138, t139, t140, t141, t142, t143, t144, t145, t146, t147, t148, t149, t150], []⟩ w := by
  subst hc
  conv => arg 2; whnf
  refine wp_region_sch (fun w' => w'.cell? ⟨gd, od, none⟩ = some (.int .i64 (jx : Int)) ∧ w'.cell? ⟨ge, oe, none⟩ = some (.int .i64 (jy : Int)) ∧ w'.cell? ⟨gu, ou, none⟩ = some (.int .u64 ux) ∧ w'.cell? ⟨gv, ov, none⟩ = some (.int .u64 uy)) (.take 0 (.take 1 (.take 2 (.take 3 (.take 4 (.take 5 (.take 6 (.take 7 (.take 8 (.take 9 (.take 10 (.take 11 (.take 12 (.take 13 (.take 14 (.take 15 (.take 16 (.take 17 (.take 18 (.take 19 (.take 20 (.take 21 (.take 22 (.take 23 (.take 24 (.take 25 (.take 26 (.take 27 (.take 28 (.take 29 (.take 30 (.take 31 (.take 32 (.take 33 (.take 34 (.take 35 (.take 36 (.take 37 (.take 38 (.take 39 (.take 40 (.take 41 (.take 42 (.take 43 (.take 44 (.take 45 (.take 46 (.take 47 (.take 48 (.take 49 .nil)))))))))))))))))))))))))))))))))))))))))))))))))) (by kernel_rfl) (by kernel_rfl) (by kernel_rfl) ⟨hcd, hce, hcu, hcv⟩ ?_
  clear hcd hce hcu hcv
  repeat (first
    | (refine sch_takeE rfl rfl ?_
       apply Exists.intro
       refine ⟨fun w' hS => ?_, fun K hK => ?_⟩
       · (obtain ⟨S0, S1, S2, S3⟩ := hS; unfold takesAt; go_simp; rfl)
       go_simp
       refine hK _ ?_
       clear hK K)
    | (refine sch_skipE rfl rfl (fun K hK => ?_)
       go_simp
       refine hK _ ?_
       clear hK K))
  refine sch_nil (NoPanic.normal ?_)
  exact HOUT _ _ _ _ _ _ _ _ _ _ _ _ _ _ _ _ _ _ _ _ _ _ _ _ _ _ _ _ _ _ _ _ _ _ _ _ _ _ _ _ _ _ _ _ _ _ _ _ _ 

set_option maxHeartbeats 4000000 in
set_option maxRecDepth 100000 in
theorem r24_eq (A B : Option Addr) (cap c3 nu nd k jx jy gd od ge oe gu ou gv ov : Nat) (ux uy : Int) (w : World) (Q0 : Exit → Act → World → Prop)
    (t1 t2 t3 t4 t5 t6 t7 t8 t9 t10 t11 t14 t15 t16 t17 t18 t19 t20 t21 t22 t23 t24 t25 t26 t27 t28 t29 t30 t31 t32 t33 t34 t35 t36 t37 t38 t39 t40 t41 t42 t43 t44 t45 t46 t47 t48 t49 t50 t51 t52 t53 t54 t55 t56 t57 t58 t59 t60 t61 t62 t63 t64 t65 t66 t67 t68 t69 t70 t71 t72 t73 t74 t75 t76 t77 t78 t79 t80 t81 t82 t83 t84 t85 t86 t87 t88 t89 t90 t91 t92 t93 t94 t95 t96 t97 t98 t99 t100 t101 t102 t103 t104 t105 t106 t107 t108 t109 t110 t111 t112 t113 t114 t115 t116 t117 t118 t119 t120 t121 t122 t123 t124 t125 t126 t127 t128 t129 t130 t131 t132 t133 t134 t135 t136 t137 t138 t139 t140 t141 t142 t143 t144 t145 t146 t147 t148 t149 t150 : Value)
    (hid : ∀ kd w', (Instr.indexAt 31 (.slice B nd c3) (.int kd ((k : Int) + 1))).run Tryd.prog w' = .ok (.pointer (some ⟨gd, od, none⟩)) w')
    (hie : ∀ kd w', (Instr.indexAt 31 (.slice B nd c3) (.int kd (k : Int))).run Tryd.prog w' = .ok (.pointer (some ⟨ge, oe, none⟩)) w')
    (hiu : ∀ kd w', (Instr.indexAt 22 (.slice A nu cap) (.int kd (jx : Int))).run Tryd.prog w' = .ok (.pointer (some ⟨gu, ou, none⟩)) w')
    (hiv : ∀ kd w', (Instr.indexAt 22 (.slice A nu cap) (.int kd (jy : Int))).run Tryd.prog w' = .ok (.pointer (some ⟨gv, ov, none⟩)) w')
    (hcd : w.cell? ⟨gd, od, none⟩ = some (.int .i64 (jx : Int))) (hce : w.cell? ⟨ge, oe, none⟩ = some (.int .i64 (jy : Int)))
    (hcu : w.cell? ⟨gu, ou, none⟩ = some (.int .u64 ux)) (hcv : w.cell? ⟨gv, ov, none⟩ = some (.int .u64 uy))
    (hwk : IntKind.i64.wrap (k : Int) = (k : Int)) (heq : ux = uy) (hlt : jy < jx)
    (HOUT : ∀ (v97 v98 v99 v100 v101 v102 v103 v104 v105 v106 v107 v108 v109 v110 v111 v112 v113 v114 v115 v116 v117 v118 v119 v120 v121 v122 v123 v124 v125 v126 v127 v128 v129 v130 v131 v132 v133 v134 v135 v136 v137 v138 v139 v140 v141 v142 v143 v144 v145 : Value), Q0 .normal ⟨#[.slice A nu cap, t1, t2, t3, t4, t5, t6, t7, t8, t9, t10, t11, .slice B nd c3, .int .i64 ((k : Int) + 1), t14, t15, t16, t17, t18, t19, t20, t21, t22, t23, t24, t25, t26, t27, t28, t29, t30, t31, t32, t33, t34, t35, t36, t37, t38, t39, t40, t41, t42, t43, t44, t45, t46, t47, t48, t49, t50, t51, t52, t53, t54, t55, t56, t57, t58, t59, t60, t61, t62, t63, t64, t65, t66, t67, t68, t69, t70, t71, t72, t73, t74, t75, t76, t77, t78, t79, t80, t81, t82, t83, t84, t85, t86, t87, t88, t89, t90, t91, t92, t93, t94, t95, t96, v97, v98, v99, v100, v101, v102, v103, v104, v105, v106, v107, v108, v109, v110, v111, v112, v113, v114, v115, v116, v117, v118, v119, v120, v121, v122, v123, v124, v125, v126, v127, v128, v129, v130, v131, v132, v133, v134, v135, v136, v137, v138, v139, v140, v141, v142, v143, v144, v145, .bool false, t147, t148, t149, t150], []⟩ w.drew)
    (c : Code) (hc : c = region24) : Code.wp Tryd.prog c Q0 ⟨#[.slice A nu cap, t1, t2, t3, t4, t5, t6, t7, t8, t9, t10, t11, .slice B nd c3, .int .i64 ((k : Int) + 1), t14, t15, t16, t17, t18, t19, t20, t21, t22, t23, t24, t25, t26, t27, t28, t29, t30, t31, t32, t33, t34, t35, t36, t37, t38, t39, t40, t41, t42, t43, t44, t45, t46, t47, t48, t49, t50, t51, t52, t53, t54, t55, t56, t57, t58, t59, t60, t61, t62, t63, t64, t65, t66, t67, t68, t69, t70, t71, t72, t73, t74, t75, t76, t77, t78, t79, t80, t81, t82, t83, t84, t85, t86, t87, t88, t89, t90, t91, t92, t93, t94, t95, t96, t97, t98, t99, t100, t101, t102, t103, t104, t105, t106, t107, t108, t109, t110, t111, t112, t113, t114, t115, t116, t117, t118, t119, t120, t121, t122, t123, t124, t125, t126, t127, t128, t129, t130, t131, t132, t133, t134, t135, t136, t137, t138, t139, t140, t141, t142, t143, t144, t145, t146, t147, t148, t149, t150], []⟩ w := by
  subst hc
  conv => arg 2; whnf
  subst heq
  have hd : decide ((jx : Int) ≤ (jy : Int)) = false := decide_eq_false (by omega)
  have hd2 : ¬ ((jx : Int) ≤ (jy : Int)) := by omega
  refine wp_region_sch (fun w' => w'.cell? ⟨gd, od, none⟩ = some (.int .i64 (jx : Int)) ∧ w'.cell? ⟨ge, oe, none⟩ = some (.int .i64 (jy : Int)) ∧ w'.cell? ⟨gu, ou, none⟩ = some (.int .u64 ux) ∧ w'.cell? ⟨gv, ov, none⟩ = some (.int .u64 ux)) (.take 0 (.take 1 (.take 2 (.take 3 (.take 4 (.take 5 (.take 6 (.take 7 (.take 8 (.take 9 (.take 10 (.take 11 (.take 12 (.take 13 (.take 14 (.take 15 (.take 16 (.take 17 (.take 18 (.take 19 (.take 20 (.take 21 (.take 22 (.take 23 (.take 24 (.take 25 (.take 26 (.take 27 (.take 28 (.take 29 (.take 30 (.take 31 (.take 32 (.take 33 (.take 34 (.take 35 (.take 36 (.take 37 (.take 38 (.take 39 (.take 40 (.take 41 (.take 42 (.take 43 (.take 44 (.take 45 (.take 46 (.take 47 (.take 48 (.take 49 .nil)))))))))))))))))))))))))))))))))))))))))))))))))) (by kernel_rfl) (by kernel_rfl) (by kernel_rfl) ⟨hcd, hce, hcu, hcv⟩ ?_
  clear hcd hce hcu hcv
  repeat (first
    | (refine sch_takeE rfl rfl ?_
       apply Exists.intro
       refine ⟨fun w' hS => ?_, fun K hK => ?_⟩
       · (obtain ⟨S0, S1, S2, S3⟩ := hS; unfold takesAt; go_simp; rfl)
       go_simp
       refine hK _ ?_
       clear hK K)
    | (refine sch_skipE rfl rfl (fun K hK => ?_)
       go_simp
       refine hK _ ?_
       clear hK K))
  refine sch_nil (NoPanic.normal ?_)
  exact HOUT _ _ _ _ _ _ _ _ _ _ _ _ _ _ _ _ _ _ _ _ _ _ _ _ _ _ _ _ _ _ _ _ _ _ _ _ _ _ _ _ _ _ _ _ _ _ _ _ _ 
end Go.Proofs.YtelcielfhgijpaaDoor

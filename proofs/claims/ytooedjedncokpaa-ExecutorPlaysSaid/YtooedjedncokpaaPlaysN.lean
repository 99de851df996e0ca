/- ExecutorPlays: one region of the statement's loop: what the request tells is held against the model. -/
import Derived.Test.YtooedjedncokpaaPlaysM
namespace Go.Proofs.Ytooedjedncokpaa
set_option linter.unusedVariables false
open Go.RowKit
noncomputable def region19 : Code := ((Try.f6.body.bind (regOf 19)).getD .skip)

set_option maxHeartbeats 8000000 in
set_option maxRecDepth 100000 in
theorem region19_walk (b bm g : Nat) (Av A7 A8 A9 : Option Addr) (cv c7 c8 c9 : Nat) (s21 : Value) (z2 : XReq × List XAct) (w8 : World) (Q0 : Exit → Act → World → Prop)
    (t0 t1 t2 t3 t4 t5 t6 t7 t8 t9 t10 t11 t12 t13 t15 t17 t18 t20 t26 t27 t28 t29 t30 t31 t32 t33 t34 t35 t36 t37 t38 t39 t40 t41 t42 t43 t44 t45 t46 t47 t48 t49 t50 t51 t52 t53 t54 t55 t56 t57 t58 t59 t60 t61 t62 t63 t64 t65 t66 t67 t68 t69 t70 t71 t72 t73 t74 t75 t76 t77 t78 t79 t80 t81 t82 t83 t84 t85 t86 t87 t88 t89 t90 t91 t92 t93 t94 t95 t96 t97 t98 t99 t100 t101 t102 t103 t104 t105 t106 t107 t108 t109 t110 t111 t112 t113 t114 t115 t116 t117 t118 t119 t120 t121 t122 t123 t124 t125 t126 t127 t128 t129 t130 t131 t132 t133 t134 t135 t136 t137 t138 t139 t140 t141 t142 t143 t144 t145 t146 t147 t148 t149 t150 t151 t152 t153 t154 : Value)
    (hg6 : Blk w8 g 53 (rCells z2.1 (.slice A7 z2.1.hosts.length c7) (.slice A8 z2.1.live.length c8))) (hr6 : ReqAt w8 b bm z2.1)
    (ha6 : ActsAt w8 (.slice Av z2.2.length cv) z2.2) (hb6 : RActs w8 s21 z2.2) (HAL : Hid (z2.2.length ≤ 1000))
    (HOUT : ∀ (v100 v101 v102 v103 v104 v105 v106 v107 v108 v109 v110 v111 v112 v113 v114 v115 v116 v117 v118 v119 v120 v121 v122 v123 v124 v125 v126 v127 v128 v129 v130 v131 v132 v133 v134 v135 v136 : Value) (wx : World), Kept noBlock w8 wx → Q0 .normal ⟨#[t0, t1, t2, t3, t4, t5, t6, t7, t8, t9, t10, t11, t12, t13, .pointer (some ⟨b, 0, none⟩), t15, .pointer (some ⟨g, 0, none⟩), t17, t18, .slice Av z2.2.length cv, t20, s21, .slice A9 z2.1.live.length c9, .int .i64 z2.1.tries, .int .i64 z2.1.again, .int .i64 z2.1.prepared, t26, t27, t28, t29, t30, t31, t32, t33, t34, t35, t36, t37, t38, t39, t40, t41, t42, t43, t44, t45, t46, t47, t48, t49, t50, t51, t52, t53, t54, t55, t56, t57, t58, t59, t60, t61, t62, t63, t64, t65, t66, t67, t68, t69, t70, t71, t72, t73, t74, t75, t76, t77, t78, t79, t80, t81, t82, t83, t84, t85, t86, t87, t88, t89, t90, t91, t92, t93, t94, t95, t96, t97, t98, t99, v100, v101, v102, v103, v104, v105, v106, v107, v108, v109, v110, v111, v112, v113, v114, v115, v116, v117, v118, v119, v120, v121, v122, v123, v124, v125, v126, v127, v128, v129, v130, v131, v132, v133, v134, v135, v136, .bool false, t138, t139, t140, t141, t142, t143, t144, t145, t146, t147, t148, t149, t150, t151, t152, t153, t154], []⟩ wx)
    (c : Code) (hc : c = region19) : Code.wp Try.prog c Q0 ⟨#[t0, t1, t2, t3, t4, t5, t6, t7, t8, t9, t10, t11, t12, t13, .pointer (some ⟨b, 0, none⟩), t15, .pointer (some ⟨g, 0, none⟩), t17, t18, .slice Av z2.2.length cv, t20, s21, .slice A9 z2.1.live.length c9, .int .i64 z2.1.tries, .int .i64 z2.1.again, .int .i64 z2.1.prepared, t26, t27, t28, t29, t30, t31, t32, t33, t34, t35, t36, t37, t38, t39, t40, t41, t42, t43, t44, t45, t46, t47, t48, t49, t50, t51, t52, t53, t54, t55, t56, t57, t58, t59, t60, t61, t62, t63, t64, t65, t66, t67, t68, t69, t70, t71, t72, t73, t74, t75, t76, t77, t78, t79, t80, t81, t82, t83, t84, t85, t86, t87, t88, t89, t90, t91, t92, t93, t94, t95, t96, t97, t98, t99, t100, t101, t102, t103, t104, t105, t106, t107, t108, t109, t110, t111, t112, t113, t114, t115, t116, t117, t118, t119, t120, t121, t122, t123, t124, t125, t126, t127, t128, t129, t130, t131, t132, t133, t134, t135, t136, t137, t138, t139, t140, t141, t142, t143, t144, t145, t146, t147, t148, t149, t150, t151, t152, t153, t154], []⟩ w8 := by
  subst hc
  conv => arg 2; whnf
  have HG8 := Lib.hid hg6
  obtain ⟨a0, a1, a2, a3, a4, a5, a6, a7, a8, a9, a10, a11, a12, a13⟩ := cells14 hg6
  refine wp_region_sch (fun w' => Kept noBlock w8 w') (.take 0 (.take 2 (.one 1 (.one 3 (.take 4 (.take 5 (.take 6 (.take 8 (.take 9 (.one 7 (.take 10 (.take 11 (.take 12 (.take 13 (.take 14 (.take 15 (.take 16 (.take 17 (.take 18 (.take 19 (.take 20 (.take 21 (.take 22 (.take 23 (.take 24 (.take 25 (.take 26 (.take 27 (.take 28 (.take 29 (.take 30 (.take 31 (.take 32 (.take 33 (.take 34 (.take 35 (.take 36 (.take 37 .nil)))))))))))))))))))))))))))))))))))))) (by kernel_rfl) (by kernel_rfl) (by kernel_rfl) (Kept.refl _ _).drew ?_
  repeat (first
    | (refine sch_takeE rfl rfl ?_
       apply Exists.intro
       refine ⟨fun w' hS => ?_, fun K hK => ?_⟩
       · (obtain ⟨S0, S1, S2, S3, S4, S5, S6, S7, S8, S9, S10, S11, S12, S13⟩ := cells14 (HG8.out.kept hS id); unfold takesAt; go_simp; rfl)
       go_simp
       refine hK _ ?_
       clear hK K))
  refine sch_doK rfl rfl (fun K hK => ?_)
  go_simp
  go_at_call 19
  refine (actsOf_at (SlK.drew ha6) (by have := HAL.out; omega)).mono ?_
  rintro e w9 ⟨v9, rfl, hs9, hk9⟩
  have k9 := (Kept.refl noBlock w8).drew.trans hk9 (fun _ _ h => h)
  refine hK _ _ k9 ?_
  clear hK K
  refine sch_doK rfl rfl (fun K hK => ?_)
  go_simp
  go_at_call 18
  refine (Same_at hs9 (SlK.keptNone hb6 k9) (by have := HAL.out; omega)).mono ?_
  rintro e w10 ⟨rfl, n10, rfl⟩
  replace k9 := k9.drewN n10
  refine hK _ _ k9 ?_
  clear hK K
  repeat (first
    | (refine sch_takeE rfl rfl ?_
       apply Exists.intro
       refine ⟨fun w' hS => ?_, fun K hK => ?_⟩
       · (obtain ⟨S0, S1, S2, S3, S4, S5, S6, S7, S8, S9, S10, S11, S12, S13⟩ := cells14 (HG8.out.kept hS id); unfold takesAt; go_simp; rfl)
       go_simp
       refine hK _ ?_
       clear hK K))
  refine sch_doK rfl rfl (fun K hK => ?_)
  go_simp
  go_at_call 10
  refine (Done_at (hr6.kept k9)).mono ?_
  rintro e w11 ⟨rfl, rfl⟩
  refine hK _ _ k9 ?_
  clear hK K
  repeat (first
    | (refine sch_takeE rfl rfl ?_
       apply Exists.intro
       refine ⟨fun w' hS => ?_, fun K hK => ?_⟩
       · (obtain ⟨S0, S1, S2, S3, S4, S5, S6, S7, S8, S9, S10, S11, S12, S13⟩ := cells14 (HG8.out.kept hS id); unfold takesAt; go_simp; rfl)
       go_simp
       refine hK _ ?_
       clear hK K))
  refine sch_nil (NoPanic.normal ?_)
  try go_simp
  exact HOUT _ _ _ _ _ _ _ _ _ _ _ _ _ _ _ _ _ _ _ _ _ _ _ _ _ _ _ _ _ _ _ _ _ _ _ _ _ _ k9
end Go.Proofs.Ytooedjedncokpaa

/- The reference of chapter 13: model, Has, at. -/
import Derived.Test.YtjdjfikeiphgpaaRgWalk
namespace Go.Proofs.Ytjdjfikeiphgpaa
set_option linter.unusedVariables false
open Go.RowKit

theorem RwalkN_at (t : Int) (w : World) : Calls Try.prog 17 #[.pointer none, .int .i64 t] w fun e w' => e = .returned (.slice none 0 0) ∧ w' = w := by
  go_enter Try.func17, Try.ntmps17
  go_wp2
  go_ret
  exact ⟨rfl, rfl⟩

set_option maxHeartbeats 2000000 in
set_option maxRecDepth 100000 in
theorem model_at {w : World} {ok : Nat → TypeId → Prop} {v : Value} {l : List Pl} (h : SlK w ok 2 v l.length (l.flatMap pC)) (hl : l.length ≤ 1000) :
    Calls Try.prog 11 #[v] w fun e w' => ∃ v', e = .returned v' ∧ Sl w' 68 2 v' l.length (l.flatMap pC) ∧ Kept noBlock w w' := by
  obtain ⟨A, c, rfl, -, -⟩ := h.shape
  have hlen := h.run_len psT
  have H := Lib.hid h
  clear h
  go_enter Try.func11, Try.ntmps11
  go_wp2_with fail
  go_loopg [3, 4] l.length (fun j vo vi wr => ∃ i : Nat, i + j = l.length ∧ vi = .int .i64 i ∧ wr.ownsRow w.heap.size 68 2 vo i ((l.take i).flatMap pC) ∧ Kept noBlock w wr)
  case atStart => exact ⟨0, by omega, rfl, World.ownsRow_nil _ _ _ _, Kept.refl _ _⟩
  case round =>
    obtain ⟨i, hij, rfl, hown, hk⟩ := hrel
    have HIJ := Lib.hid hij
    have HO := Lib.hid hown
    have HK := Lib.hid hk
    have hz := hk.size
    by_cases hlt : i < l.length
    · obtain ⟨p, hp⟩ : ∃ p, l[i]? = some p := ⟨_, List.getElem?_eq_getElem hlt⟩
      obtain ⟨g, off, hidx, hgl, hc0, hc1⟩ := p_at H.out psT hp
      have hnx : (l.take (i + 1)).flatMap pC = (l.take i).flatMap pC ++ pC p := by rw [List.take_add_one, hp, List.flatMap_append]; simp
      have HNX := Lib.hid hnx
      obtain ⟨p1, p2⟩ := p
      simp only at hc0 hc1
      clear hij hown hk hp hnx
      go_wp2_with fail
      refine wp_region_sch (fun w' => Kept noBlock w w') (.take 0 (.take 1 (.take 2 (.take 3 (.take 4 (.take 5 (.take 6 (.take 7 (.take 8 (.take 9 (.take 10 (.take 11 (.one 12 (.one 13 (.take 14 .nil))))))))))))))) (by kernel_rfl) (by kernel_rfl) (by kernel_rfl) HK.out.drew ?_
      repeat (first
        | (refine sch_takeE rfl rfl ?_
           apply Exists.intro
           refine ⟨fun w' hS => ?_, fun K hK => ?_⟩
           · (have z0 := (hS.cell (p := ⟨g, off, none⟩) hgl (fun h => h)).trans hc0
              have z1 := (hS.cell (p := ⟨g, off + 1, none⟩) hgl (fun h => h)).trans hc1
              clear hS
              unfold takesAt; go_simp; rfl)
           go_simp
           refine hK _ ?_
           clear hK K))
      refine sch_doK rfl rfl (fun K hK => ?_)
      go_simp
      refine hK _ _ ((HK.out.alloc _).drew) ?_
      clear hK K
      refine sch_doK rfl rfl (fun K hK => ?_)
      refine wp_append_sl _ p3sT (.tmp 11) (.tmp 23) rfl w.heap.size _ i ((l.take i).flatMap pC) rfl ((World.ownsRow.alloc HO.out (.cells #[.int .i64 p1, .string p2] 68)).drew) _ 1 [.int .i64 p1, .string p2] rfl (Sl.made_at (Blk.drew (Blk.new wr 68 #[.int .i64 p1, .string p2])) _ rfl rfl one_max) (by simp [Value.oneCell']) ?c1 ?c2 ?_
      case c1 => omega
      case c2 => simp; omega
      intro v' w3 hap
      have hk3 := hap.below ((World.ownsRow.alloc HO.out (.cells #[.int .i64 p1, .string p2] 68)).drew) ((HK.out.alloc (.cells #[.int .i64 p1, .string p2] 68)).drew) (Nat.le_refl _)
      have HK3 := Lib.hid hk3
      have HO3 := Lib.hid hap.own
      refine hK _ _ hk3 ?_
      clear hK K hk3 hap
      repeat (first
        | (refine sch_takeE rfl rfl ?_
           apply Exists.intro
           refine ⟨fun w' hS => ?_, fun K hK => ?_⟩
           · (unfold takesAt; go_simp; rfl)
           go_simp
           refine hK _ ?_
           clear hK K))
      refine sch_nil (NoPanic.normal ?_)
      go_wp2
      go_roundg (l.length - (i + 1))
      case measure => have := HIJ.out; omega
      case rel =>
        have hij := HIJ.out
        refine ⟨i + 1, by omega, by go_num, ?_, HK3.out⟩
        rw [HNX.out]
        exact HO3.out
    · obtain rfl : i = l.length := by omega
      rw [List.take_length] at hown
      have hs := Sl.of_own hown
      have HS := Lib.hid hs
      clear hij hown hk hs HO
      go_wp2
      go_ret
      exact ⟨_, rfl, HS.out, HK.out⟩
end Go.Proofs.Ytjdjfikeiphgpaa

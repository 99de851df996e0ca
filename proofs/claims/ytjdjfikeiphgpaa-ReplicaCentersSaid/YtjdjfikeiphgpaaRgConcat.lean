/- slices.Grow at no place, slices.Concat of two rows of places. -/
import Derived.Test.YtjdjfikeiphgpaaRgSearch
import Derived.Lib.AppendZerosOnto
import Derived.Shelf.Spec.SlicesGrow
namespace Go.Proofs.Ytjdjfikeiphgpaa
set_option linter.unusedVariables false
open Go.RowKit

set_option maxHeartbeats 1000000 in
set_option maxRecDepth 100000 in
theorem PGrow_at (n : Nat) (w : World) (hn : n ≤ 100000) :
    Calls Try.prog 44 #[.slice none 0 0, .int .i64 n] w fun e w' => ∃ v, e = .returned v ∧ w'.ownsRow w.heap.size 55 2 v 0 [] ∧ Kept noBlock w w' := by
  by_cases h0 : n = 0
  · subst h0
    go_enter Try.func44, Try.ntmps44
    go_wp2
    go_ret
    exact ⟨_, rfl, World.ownsRow_nil _ _ _ _, Kept.refl _ _⟩
  · obtain ⟨i0, hi0, hz0, hs0, hb0⟩ := info_parts psT.info
    have hold : (Builtin.firstCells i0.size 0 (.slice none 0 0)).run Try.prog w.drew = .ok #[] w.drew := run_firstCells_none w.drew i0.size 0 0 0
    have hfit : Builtin.nextslicecap (0 + n) 0 * i0.bytes ≤ 281474976710656 := growslice_fits (by omega) (by rw [hb0]; omega)
    have hrz := fun ty => Lib.run_append_grow_zeros (P := Try.prog) w 22 3 ty 55 i0 _ .i64 .i64 Try.underlying22 Try.underlying3 hi0 hz0 none 0 0 [] hold n (by omega) (by rw [hs0]; decide) (by omega) (by omega) (by rw [hb0]; omega) hfit
    have hGn : n ≤ grownCap w (0 + n) 0 55 := by have := grownCap_ge w (0 + n) 0 55; omega
    have hGm : grownCap w (0 + n) 0 55 ≤ maxLen := grownCap_le_maxLen w (0 + n) 0 55 (by unfold maxLen; omega)
    generalize grownCap w (0 + n) 0 55 = G at *
    have hG63 : G ≤ 9223372036854775807 := by unfold maxLen at hGm; omega
    simp only [Nat.zero_add] at hrz
    obtain ⟨cs, hcs⟩ : ∃ cs : Array Value, cs = (#[] : Array Value) ++ Builtin.zeroCells (Value.agg #[.int .i64 0, .string noStr]).cells n ++ Builtin.zeroCells (Value.agg #[.int .i64 0, .string noStr]).cells (G - n) := ⟨_, rfl⟩
    have hrz2 : ∀ ty, (Builtin.append_ #[22, 3] ty #[.slice none 0 0, .int .i64 n]).run Try.prog w = .ok (.slice (some ⟨w.heap.size, 0, none⟩) n G) (w.drew.alloc (.cells cs 55)) := fun ty => by rw [hcs]; exact hrz ty
    have hsz : cs.size = G * 2 := by rw [hcs]; simp [Builtin.zeroCells, Value.cells]; omega
    have hown : ((w.alloc (.cells cs 55)).drew).ownsRow w.heap.size 55 2 (.slice (some ⟨w.heap.size, 0, none⟩) 0 G) 0 [] :=
      ⟨rfl, .inr ⟨w.heap.size, G, cs, rfl, Nat.le_refl _, heap_alloc_new w _, Nat.zero_le _, hGm, hsz, by simp⟩⟩
    have HO := Lib.hid hown
    have HK := Lib.hid (((Kept.refl noBlock w).alloc (.cells cs 55)).drew)
    clear hcs hrz hsz
    clear hown hold hfit hi0 hz0 hs0 hb0
    go_enter Try.func44, Try.ntmps44
    go_wp2_with (at_builtin; refine Lib.wpList_append_run _ rfl _ _ _ _ rfl _ _ rfl rfl _ _ (hrz2 _) ?_)
    all_goals (go_ret; exact ⟨_, rfl, HO.out, HK.out⟩)

set_option maxHeartbeats 2000000 in
set_option maxRecDepth 100000 in
theorem PConcat_at {w : World} {gb : Nat} {v1 v2 : Value} {L1 L2 : List Pl} (hb : Blk w gb 22 #[v1, v2]) (h1 : Sl w 55 2 v1 L1.length (L1.flatMap pC)) (h2 : Sl w 55 2 v2 L2.length (L2.flatMap pC)) (hn : L1.length + L2.length ≤ 100000) :
    Calls Try.prog 33 #[.slice (some ⟨gb, 0, none⟩) 2 2] w fun e w' => ∃ v, e = .returned v ∧ Sl w' 55 2 v (L1 ++ L2).length ((L1 ++ L2).flatMap pC) ∧ Kept noBlock w w' := by
  obtain ⟨A1, c1, rfl, -, -⟩ := h1.shape
  obtain ⟨A2, c2, rfl, -, -⟩ := h2.shape
  have l1 := h1.run_len psT
  have l2 := h2.run_len psT
  have H1 := Lib.hid h1
  have H2 := Lib.hid h2
  have HB := Lib.hid hb
  have z0 := hb.cell 0
  have z1 := hb.cell 1
  simp only [List.getElem?_toArray, List.getElem?_cons_zero, List.getElem?_cons_succ] at z0 z1
  clear h1 h2 hb
  have HL := Lib.hid (show (L1 ++ L2).length = L1.length + L2.length by simp)
  generalize hn1 : L1.length = n1 at *
  generalize hn2 : L2.length = n2 at *
  have HN1 := Lib.hid hn1
  have HN2 := Lib.hid hn2
  clear hn1 hn2
  go_enter Try.func33, Try.ntmps33
  go_wp2_with fail
  go_loopg [3, 11] 2 (fun j vs vi wr => ∃ i : Nat, i + j = 2 ∧ vi = .int .i64 i ∧ vs = .int .i64 (if i = 0 then 0 else if i = 1 then n1 else n1 + n2 : Nat) ∧ wr = w)
  case atStart => exact ⟨0, rfl, rfl, rfl, rfl⟩
  case round =>
    obtain ⟨i, hij, rfl, rfl, rfl⟩ := hrel
    have hi : i = 0 ∨ i = 1 ∨ i = 2 := by omega
    rcases hi with rfl | rfl | rfl
    · simp only [if_true]
      go_wp2
      go_roundg 1
      case measure => omega
      case rel => exact ⟨1, rfl, by go_num, by go_num, rfl⟩
    · simp only [if_true, Nat.one_ne_zero, if_false]
      go_wp2
      go_roundg 0
      case measure => omega
      case rel => exact ⟨2, rfl, by go_num, by go_num, rfl⟩
    · have e2 : (if (2 : Nat) = 0 then 0 else if (2 : Nat) = 1 then n1 else n1 + n2) = n1 + n2 := rfl
      rw [e2]
      have HG := Lib.hid (PGrow_at (n1 + n2) wr hn)
      generalize n1 + n2 = N at HG ⊢
      go_wp2_with fail
      go_at_call 44
      refine HG.out.mono ?_
      rintro e w1 ⟨v3, rfl, hown3, hk3⟩
      have START := Lib.hid (⟨hown3, hk3⟩ : w1.ownsRow wr.heap.size 55 2 v3 0 [] ∧ Kept noBlock wr w1)
      obtain ⟨wz, hwz⟩ : ∃ wz, wz = wr := ⟨wr, rfl⟩
      subst hwz
      clear hown3 hk3 HG z0 z1
      go_wp2_with fail
      go_loopg [6, 27] 2 (fun j v6 vi wx => ∃ i : Nat, i + j = 2 ∧ vi = .int .i64 i ∧ Kept noBlock wz wx ∧ ((i = 0 ∧ wx.ownsRow wz.heap.size 55 2 v6 0 []) ∨ (i = 1 ∧ wx.ownsRow wz.heap.size 55 2 v6 n1 (L1.flatMap pC)) ∨ (i = 2 ∧ wx.ownsRow wz.heap.size 55 2 v6 (n1 + n2) (L1.flatMap pC ++ L2.flatMap pC))))
      case atStart => exact ⟨0, rfl, rfl, START.out.2, .inl ⟨rfl, START.out.1⟩⟩
      case round =>
        obtain ⟨i, hij, rfl, hk, hd⟩ := hrel
        have hb5 := HB.out.kept hk (fun h => h)
        have z0 := hb5.cell 0
        have z1 := hb5.cell 1
        simp only [List.getElem?_toArray, List.getElem?_cons_zero, List.getElem?_cons_succ] at z0 z1
        have hz := hk.size
        have HK := Lib.hid hk
        clear hb5 START
        rcases hd with ⟨rfl, hown⟩ | ⟨rfl, hown⟩ | ⟨rfl, hown⟩
        · have HS := Lib.hid (SlK.keptNone H1.out hk)
          have HO := Lib.hid hown
          clear hk hown
          go_wp2_with (at_builtin; go_must (refine wpList_append_sl _ psT rfl (.tmp 31) (.tmp 32) rfl wz.heap.size _ 0 [] rfl HO.out _ n1 (L1.flatMap pC) rfl HS.out (fun u hu => pC_one hu) ?c1 ?c2 ?_))
          case c1 => omega
          case c2 => first | omega | (simp; omega)
          intro v' w3 hap
          have HK3 := Lib.hid (hap.below HO.out HK.out (Nat.le_refl _))
          have HO3 := Lib.hid hap.own
          clear hap
          go_wp2
          go_roundg 1
          case measure => omega
          case rel => exact ⟨1, rfl, by go_num, HK3.out, .inr (.inl ⟨rfl, by simpa using HO3.out⟩)⟩
        · have HS := Lib.hid (SlK.keptNone H2.out hk)
          have HO := Lib.hid hown
          clear hk hown
          go_wp2_with (at_builtin; go_must (refine wpList_append_sl _ psT rfl (.tmp 31) (.tmp 32) rfl wz.heap.size _ n1 (L1.flatMap pC) rfl HO.out _ n2 (L2.flatMap pC) rfl HS.out (fun u hu => pC_one hu) ?d1 ?d2 ?_))
          case d1 => omega
          case d2 => first | omega | (simp; omega)
          intro v' w3 hap
          have HK3 := Lib.hid (hap.below HO.out HK.out (Nat.le_refl _))
          have HO3 := Lib.hid hap.own
          clear hap
          go_wp2
          go_roundg 0
          case measure => omega
          case rel => exact ⟨2, rfl, by go_num, HK3.out, .inr (.inr ⟨rfl, HO3.out⟩)⟩
        · have hs := Sl.of_own hown
          have HS := Lib.hid hs
          clear hk hown hs z0 z1
          go_wp2
          go_ret
          refine ⟨_, rfl, ?_, HK.out⟩
          rw [HL.out, List.flatMap_append]
          exact HS.out
end Go.Proofs.Ytjdjfikeiphgpaa

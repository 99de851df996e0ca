/- The law's hostsOf. -/
import Derived.Test.YtjkmgpmknadhjaaGreatR18E
import Derived.Test.YtjkmgpmknadhjaaGreatSched2
namespace Go.Proofs.YtjkmgpmknadhjaaGreat
set_option linter.unusedVariables false
open Go.RowKit
open Go.ChangeMaps (setBlock)

theorem SlK.appendedT {w w' : World} {ok : Nat → TypeId → Prop} {base : Nat} {e : TypeId} {sz k n : Nat} {v v' : Value} {xs ys : List Value} {sz' n' : Nat} {u : Value} {zs : List Value} (hs : SlK w ok sz' u n' zs) (h : Appended w w' base e sz v v' k xs) (ho : w.ownsRow base e sz v n ys) (hne : ∀ g e', ok g e' → e' ≠ e) : SlK w' ok sz' u n' zs :=
  hs.keep fun g cs e' fz he hg => (h.kept.block g (lt_of_heap hg) (fun hv => by
    obtain ⟨_, cs', hh⟩ := own_type ho hv
    rw [hh] at hg
    injection hg with hg
    injection hg with _ h2
    exact hne g e' he h2.symm)).trans hg
/-- Hosts told so far. -/
def HofR (w : World) (l : List HV) (i : Nat) (va : Value) (wr : World) : Prop :=
  ∃ T : List HV, T.map HV.abs = (l.take i).map HV.abs ∧ T.length = i ∧ wr.ownsRow w.heap.size 67 5 va i (T.flatMap hvC) ∧ (∀ x ∈ T, SlK wr (fun k e => w.heap.size ≤ k ∧ e = 2) 1 (.slice x.ta x.tn x.tc) x.tn (x.toks.map (Value.int .i64))) ∧ Kept noBlock w wr
set_option maxHeartbeats 8000000 in
set_option maxRecDepth 100000 in
theorem hof_at {w : World} {okH ok1 : Nat → TypeId → Prop} {A : Option Addr} {n c : Nat} {l : List HV} (h : SlK w okH 5 (.slice A n c) n (l.flatMap hvC)) (hl : l.length = n) (hn : n ≤ 100000) (ht : ∀ x ∈ l, x.toks.length ≤ 1000000 ∧ SlK w ok1 1 (.slice x.ta x.tn x.tc) x.tn (x.toks.map (Value.int .i64))) :
    Calls Tryz.prog 11 #[.slice A n c] w fun e w' => ∃ A' c' l', e = .returned (.slice A' n c') ∧ RL w' (fun k => w.heap.size ≤ k) A' n c' l' (l.map HV.abs) ∧ Kept noBlock w w' := by
  have H := Lib.hid h
  have HT := Lib.hid ht
  have HL := Lib.hid hl
  clear h ht hl
  go_enter Tryz.func11, Tryz.ntmps11
  go_wp2_with fail
  go_loopg [3, 4] n (fun j va vi wr => ∃ i : Nat, i + j = n ∧ vi = .int .i64 i ∧ HofR w l i va wr)
  case atStart => exact ⟨0, by omega, rfl, [], rfl, rfl, World.ownsRow_nil _ _ _ _, fun x hx => absurd hx List.not_mem_nil, Kept.refl _ _⟩
  case round =>
    obtain ⟨i, hij, rfl, T, hTa, hTl, hTo, hTt, hk⟩ := hrel
    have HIJ := Lib.hid hij
    have HK := Lib.hid hk
    have HTA := Lib.hid hTa
    have HTL := Lib.hid hTl
    have HTO := Lib.hid hTo
    have HTT := Lib.hid hTt
    by_cases hi : i < n
    · obtain ⟨x, hx⟩ : ∃ x, l[i]? = some x := ⟨_, List.getElem?_eq_getElem (by have := HL.out; omega)⟩
      obtain ⟨gr, off, hidx, y0, y1, y2, y3, y4⟩ : ∃ gr off, (∀ kd w', (Instr.indexAt 29 (.slice A n c) (.int kd (i : Int))).run Tryz.prog w' = .ok (.pointer (some ⟨gr, off, none⟩)) w') ∧
          w.cell? ⟨gr, off, none⟩ = some (.string x.name) ∧ w.cell? ⟨gr, off + 1, none⟩ = some (.string x.dc) ∧ w.cell? ⟨gr, off + 2, none⟩ = some (.string x.rack) ∧ w.cell? ⟨gr, off + 3, none⟩ = some (.slice x.ta x.tn x.tc) ∧ w.cell? ⟨gr, off + 4, none⟩ = some (.bool x.up) := by
        obtain ⟨gr, off, h1, _, _, h3⟩ := H.out.run_index hostsT (i := (i : Int)) (k := i) rfl hi
        refine ⟨gr, off, h1, h3 0 _ ?_, h3 1 _ ?_, h3 2 _ ?_, h3 3 _ ?_, h3 4 _ ?_⟩ <;> exact (flat_get (k := 5) (fun _ => rfl) l i _ x hx (by decide)).trans rfl
      obtain ⟨hx1, hx2⟩ := HT.out x (List.mem_of_getElem? hx)
      have hx2r := hx2.keptNone hk
      have hxl := hx2.len
      rw [List.length_map, Nat.mul_one] at hxl
      have hxn : x.tn ≤ 1000000 := by omega
      obtain ⟨x1, x2, x3, x4, x5, x6, x7, x8⟩ := x
      simp only [] at y0 y1 y2 y3 y4 hx2r hxl hxn
      have HXR := Lib.hid hx2r
      have HXL : Hid (x7.length = x5) := Lib.hid hxl
      have HTI : Hid ((l.take (i + 1)).map HV.abs = (l.take i).map HV.abs ++ [HV.abs ⟨x1, x2, x3, x4, x5, x6, x7, x8⟩]) := Lib.hid (by rw [List.take_add_one, hx, List.map_append]; rfl)
      have hzr := hk.size
      have y3r := hk.cellOf y3
      have HY0 := Lib.hid y0
      have HY1 := Lib.hid y1
      have HY2 := Lib.hid y2
      have HY4 := Lib.hid y4
      clear y0 y1 y2 y3 y4
      clear hij hk hTa hTl hTo hTt hx hx1 hx2 hx2r hxl
      go_wp2_with (at_builtin; go_must (refine wpList_append_sl _ i64sT rfl (.tmp 12) (.tmp 17) rfl w.heap.size _ 0 [] rfl (World.ownsRow_nil _ _ _ _) _ x5 (x7.map eI) rfl HXR.out (fun u hu => eI_one hu) ?c1 ?c2 ?_))
      case c1 => omega
      case c2 => exact hzr
      intro v' w3 hap
      have hk3 := hap.keptNil
      have hT3 := own_keptB HTO.out hk3 (fun _ _ e => e)
      have hown := hap.own
      obtain ⟨A', c', rfl, -, -⟩ := (Sl.of_own hown).shape
      have HX3 : Hid (SlK w3 (fun k e => w.heap.size ≤ k ∧ e = 2) 1 (.slice A' x5 c') x5 (x7.map (Value.int .i64))) := Lib.hid (SlK.of_ownB hown)
      have HT3 := Lib.hid hT3
      have HKW3 := Lib.hid (HK.out.trans hk3 fun _ _ e => e)
      have HTT3 := Lib.hid (fun x hx => (HTT.out x hx).keptNone hk3)
      have hz3 : w.heap.size ≤ w3.heap.size := HKW3.out.size
      clear hap hk3 hT3 y3r hown
      go_wp2_with fail
      refine wp_region_sch (fun w' => Kept noBlock w w') (.take 0 (.take 1 (.take 2 (.take 3 (.take 4 (.take 5 (.take 6 (.take 7 (.take 8 (.take 9 (.take 10 (.take 11 (.take 12 (.take 13 (.take 14 (.take 15 (.take 16 (.take 17 (.take 18 (.take 19 (.take 20 (.take 21 (.take 22 (.one 23 (.one 24 (.take 25 .nil)))))))))))))))))))))))))) (by kernel_rfl) (by kernel_rfl) (by kernel_rfl) HKW3.out.drew ?_
      repeat (first
        | (refine sch_takeE rfl rfl ?_
           apply Exists.intro
           refine ⟨fun w' hS => ?_, fun K hK => ?_⟩
           · (have q0 := hS.cellOf HY0.out
              have q1 := hS.cellOf HY1.out
              have q2 := hS.cellOf HY2.out
              have q4 := hS.cellOf HY4.out
              clear hS
              unfold takesAt; go_simp; rfl)
           go_simp
           refine hK _ ?_
           clear hK K))
      refine sch_doK rfl rfl (fun K hK => ?_)
      go_simp
      refine hK _ _ ((HKW3.out.alloc _).drew) ?_
      clear hK K
      refine sch_doK rfl rfl (fun K hK => ?_)
      refine wp_append_sl _ h18sT (.tmp 19) (.tmp 42) rfl w.heap.size _ i (T.flatMap hvC) rfl ((World.ownsRow.alloc HT3.out (.cells #[.string x1, .string x2, .string x3, .slice A' x5 c', .bool x8] 67)).drew) _ 1 [.string x1, .string x2, .string x3, .slice A' x5 c', .bool x8] rfl (Sl.made_at (Blk.drew (Blk.new w3 67 #[.string x1, .string x2, .string x3, .slice A' x5 c', .bool x8])) _ rfl rfl one_max) (by simp [Value.oneCell']) ?d1 ?d2 ?_
      case d1 => omega
      case d2 => simp; omega
      intro v5 w5 hap5
      have hrow0 := (World.ownsRow.alloc HT3.out (.cells #[.string x1, .string x2, .string x3, .slice A' x5 c', .bool x8] 67)).drew
      have hk5 := hap5.below hrow0 ((HKW3.out.alloc (.cells #[.string x1, .string x2, .string x3, .slice A' x5 c', .bool x8] 67)).drew) (Nat.le_refl _)
      have HR5 : Hid (HofR w l (i + 1) v5 w5) := Lib.hid (by
        refine ⟨T ++ [⟨x1, x2, x3, A', x5, c', x7, x8⟩], ?_, by rw [List.length_append, HTL.out]; rfl, ?_, fun y hy => ?_, hk5⟩
        · rw [HTI.out, List.map_append, HTA.out]; rfl
        · rw [List.flatMap_append]; simpa [hvC] using hap5.own
        · rcases List.mem_append.1 hy with hy | hy
          · exact (((HTT3.out y hy).alloc _).drew).appendedT hap5 hrow0 fun g e' ho => by rw [ho.2]; decide
          · simp only [List.mem_singleton] at hy
            subst hy
            exact ((HX3.out.alloc _).drew).appendedT hap5 hrow0 fun g e' ho => by rw [ho.2]; decide)
      refine hK _ _ hk5 ?_
      clear hK K hk5 hap5 hrow0
      repeat (first
        | (refine sch_takeE rfl rfl ?_
           apply Exists.intro
           refine ⟨fun w' hS => ?_, fun K hK => ?_⟩
           · (unfold takesAt; go_simp; rfl)
           go_simp
           refine hK _ ?_
           clear hK K))
      refine sch_nil (NoPanic.normal ?_)
      go_wp2_with fail
      go_roundg (n - (i + 1))
      case measure => have := HIJ.out; omega
      case rel => exact ⟨i + 1, by have := HIJ.out; omega, by go_num, HR5.out⟩
    · obtain rfl : i = n := by omega
      obtain ⟨A', c', rfl, -, -⟩ := (Sl.of_own hTo).shape
      have HF : Hid (RL wr (fun k => w.heap.size ≤ k) A' i c' T (l.map HV.abs)) := Lib.hid ⟨by rw [hTa, List.take_of_length_le (by have := HL.out; omega)], by rw [List.length_map]; exact HL.out, (SlK.of_ownB hTo).any fun k e _ h => h.1, fun x hx => (hTt x hx).any fun k e _ h => h.1⟩
      clear hij hk hTa hTl hTo hTt
      go_wp2_with fail
      go_ret
      exact ⟨A', c', T, rfl, HF.out, HK.out⟩
end Go.Proofs.YtjkmgpmknadhjaaGreat

/- The law's actsOf; the reference's Same at what is the same. -/
import Derived.Test.YtooedjedncokpaaRefC
import Derived.Test.YtooedjedncokpaaExTick
import Derived.Test.YtooedjedncokpaaSched
import Derived.Deep.LoopGhost
namespace Go.Proofs.Ytooedjedncokpaa
set_option linter.unusedVariables false
open Go.RowKit

theorem a_at {w : World} {ok : Nat → TypeId → Prop} {v : Value} {L : List XAct} (h : SlK w ok 4 v L.length (L.flatMap actCells)) {t e : TypeId} {z : Value} (T : SlT Try.prog t e z 4 40) {i : Nat} {p : XAct} (hi : L[i]? = some p) :
    ∃ g off, (∀ kd w', (Instr.indexAt t v (.int kd (i : Int))).run Try.prog w' = .ok (.pointer (some ⟨g, off, none⟩)) w') ∧ g < w.heap.size ∧
      w.cell? ⟨g, off, none⟩ = some (.int .i64 p.kind) ∧ w.cell? ⟨g, off + 1, none⟩ = some (.int .i64 p.try_) ∧ w.cell? ⟨g, off + 2, none⟩ = some (.string p.host) ∧ w.cell? ⟨g, off + 3, none⟩ = some (.int .i64 p.why) ∧ ∃ cs e fz, w.heap[g]? = some (.cells cs e fz) ∧ ok g e := by
  have hlt : i < L.length := (List.getElem?_eq_some_iff.1 hi).1
  obtain ⟨g, off, h1, h2, h4, h3⟩ := h.run_index T (i := (i : Int)) (k := i) rfl hlt
  refine ⟨g, off, h1, h2, h3 0 _ ?_, h3 1 _ ?_, h3 2 _ ?_, h3 3 _ ?_, h4⟩
  · rw [flat_get (k := 4) (fun _ => rfl) L i 0 p hi (by decide)]; rfl
  · rw [flat_get (k := 4) (fun _ => rfl) L i 1 p hi (by decide)]; rfl
  · rw [flat_get (k := 4) (fun _ => rfl) L i 2 p hi (by decide)]; rfl
  · rw [flat_get (k := 4) (fun _ => rfl) L i 3 p hi (by decide)]; rfl

def ActsOfRel (w : World) (v0 : Value) (l : List XAct) (j : Nat) (v vi : Value) (wr : World) : Prop :=
  ∃ i : Nat, i + j = l.length ∧ vi = .int .i64 i ∧ ActsAt wr v0 l ∧ wr.ownsRow w.heap.size 84 4 v i ((l.take i).flatMap actCells) ∧ Kept noBlock w wr

set_option maxHeartbeats 1000000 in
set_option maxRecDepth 100000 in
theorem actsOf_at {v : Value} {l : List XAct} {w : World} (h : ActsAt w v l) (hl : l.length ≤ 1000000) :
    Calls Try.prog 19 #[v] w fun e w' => ∃ v', e = .returned v' ∧ RActs w' v' l ∧ Kept noBlock w w' := by
  obtain ⟨A, c, rfl, -, -⟩ := h.shape
  have START := Lib.hid (show ActsOfRel w (.slice A l.length c) l l.length (.slice none 0 0) (.int .i64 0) w from ⟨0, by omega, rfl, h, World.ownsRow_nil _ _ _ _, Kept.refl _ _⟩)
  clear h
  go_enter Try.func19, Try.ntmps19
  go_wp2
  go_loopg [3, 4] l.length (fun j v vi wr => ActsOfRel w (.slice A l.length c) l j v vi wr)
  case atStart => exact START.out
  case round =>
    obtain ⟨i, hij, rfl, hs, hown, hk⟩ := hrel
    clear START
    by_cases hlt : i < l.length
    · obtain ⟨p, hp⟩ : ∃ p, l[i]? = some p := ⟨_, List.getElem?_eq_getElem hlt⟩
      obtain ⟨g, off, hidx, hgl, q0, q1, q2, q3, hty⟩ := a_at hs actsT hp
      have HTY := Lib.hid hty
      clear hty
      have HP := Lib.hid hp
      have HS := Lib.hid hs
      have HO := Lib.hid hown
      have HK := Lib.hid hk
      have HIJ := Lib.hid hij
      have hz := hk.size
      clear hp hs hown hk hij
      go_wp2
      refine wp_region_order (fun w' => w'.cell? ⟨g, off, none⟩ = some (.int .i64 p.kind) ∧ w'.cell? ⟨g, off + 1, none⟩ = some (.int .i64 p.try_) ∧ w'.cell? ⟨g, off + 2, none⟩ = some (.string p.host) ∧ w'.cell? ⟨g, off + 3, none⟩ = some (.int .i64 p.why)) [(0, true), (1, true), (2, true), (3, true), (4, true), (5, true), (6, true), (7, true), (8, true), (9, true), (10, true), (11, true), (12, true), (13, true), (14, true), (15, true), (16, true), (17, true), (18, true), (19, true), (20, true), (21, true), (22, false), (23, false), (24, true)] (by kernel_rfl) (by kernel_rfl) (by kernel_rfl) ⟨q0, q1, q2, q3⟩ ?_
      repeat (first
        | (refine sched_takeE rfl rfl ?_
           apply Exists.intro
           refine ⟨fun w' hS => ?_, fun K hK => ?_⟩
           · (obtain ⟨S0, S1, S2, S3⟩ := hS; unfold takesAt; go_simp; rfl)
           go_simp
           refine hK _ ?_
           clear hK K))
      refine sched_doK rfl rfl (fun K hK => ?_)
      go_simp
      refine hK _ _ (by refine ⟨?_, ?_, ?_, ?_⟩ <;> go_simp) ?_
      clear hK K
      refine sched_doK rfl rfl (fun K hK => ?_)
      have hsrc : Sl (wr.drew.alloc (.cells #[.int .i64 p.kind, .int .i64 p.try_, .string p.host, .int .i64 p.why] 84)) 84 4 (.slice (some ⟨wr.heap.size, 0, none⟩) 1 1) 1 [.int .i64 p.kind, .int .i64 p.try_, .string p.host, .int .i64 p.why] := Sl.made_at (Blk.new_at _ _ _ rfl) _ rfl rfl one_max
      have hown := World.ownsRow.alloc (Sl_own_drewN HO.out 1) (.cells #[.int .i64 p.kind, .int .i64 p.try_, .string p.host, .int .i64 p.why] 84)
      refine wp_append_sl _ asT (.tmp 11) (.tmp 33) rfl w.heap.size _ i ((l.take i).flatMap actCells) rfl hown _ 1 _ rfl hsrc (by simp [Value.oneCell']) ?c1 ?c2 ?_
      case c1 => omega
      case c2 => simp; omega
      intro v' w3 hap
      have hkk := (HK.out.drew.alloc (.cells #[.int .i64 p.kind, .int .i64 p.try_, .string p.host, .int .i64 p.why] 84))
      have HK2 := Lib.hid (hap.below (World.ownsRow.alloc (Sl_own_drewN HO.out 1) _) hkk (Nat.le_refl _))
      have HS2 := Lib.hid (Sl.appended ((SlK.drew HS.out).alloc _) hap (World.ownsRow.alloc (Sl_own_drewN HO.out 1) _) (by decide))
      have HO2 := Lib.hid hap.own
      have hcl : ∀ o, w3.cell? ⟨g, o, none⟩ = wr.cell? ⟨g, o, none⟩ := fun o => by
        have h1 := hap.kept.cell (p := ⟨g, o, none⟩) (Nat.lt_of_lt_of_le hgl (by simp [World.drew])) (fun hv => by
          obtain ⟨_, cs2, hh2⟩ := own_type hown hv
          obtain ⟨cs, e, fz, hh, he⟩ := HTY.out
          have h3 : (wr.drew.alloc (.cells #[.int .i64 p.kind, .int .i64 p.try_, .string p.host, .int .i64 p.why] 84)).heap[g]? = some (.cells cs e fz) := (Below.heap_alloc _ _ _ hgl).trans hh
          have h5 : some (Obj.cells cs e fz) = some (Obj.cells cs2 84 (0, 0)) := h3.symm.trans hh2
          injection h5 with h5
          injection h5 with _ h4
          exact absurd (he.symm.trans h4) (by decide))
        have h2 := World.cell?_of_block (w := wr.drew) (a := ⟨g, o, none⟩) (Below.heap_alloc wr.drew (.cells #[.int .i64 p.kind, .int .i64 p.try_, .string p.host, .int .i64 p.why] 84) g hgl)
        exact h1.trans h2
      clear hap hkk hown hsrc
      refine hK _ _ ⟨by rw [hcl]; exact q0, by rw [hcl]; exact q1, by rw [hcl]; exact q2, by rw [hcl]; exact q3⟩ ?_
      clear hK K hcl
      repeat (first
        | (refine sched_takeE rfl rfl ?_
           apply Exists.intro
           refine ⟨fun w' hS => ?_, fun K hK => ?_⟩
           · (unfold takesAt; go_simp; rfl)
           go_simp
           refine hK _ ?_
           clear hK K))
      refine sched_nil (NoPanic.normal ?_)
      go_wp2
      go_roundg (l.length - (i + 1))
      case measure => have := HIJ.out; omega
      case rel =>
        have hij := HIJ.out
        refine ⟨i + 1, by omega, by go_num, HS2.out, ?_, HK2.out⟩
        have := HO2.out
        rw [show (l.take (i + 1)).flatMap actCells = (l.take i).flatMap actCells ++ [.int .i64 p.kind, .int .i64 p.try_, .string p.host, .int .i64 p.why] by
          rw [List.take_add_one, HP.out, List.flatMap_append]; rfl]
        exact this
    · go_wp2
      go_ret
      refine ⟨_, rfl, ?_, hk⟩
      obtain rfl : i = l.length := by omega
      rw [List.take_length] at hown
      exact Sl.of_own hown

set_option maxHeartbeats 1000000 in
set_option maxRecDepth 100000 in
theorem Same_at {v u : Value} {l : List XAct} {w : World} (h : RActs w v l) (h2 : RActs w u l) (hl : l.length ≤ 1000000) :
    Calls Try.prog 18 #[v, u] w fun e w' => e = .returned (.bool true) ∧ ∃ n, w' = w.drewN n := by
  obtain ⟨A, c, rfl, -, -⟩ := h.shape
  obtain ⟨A2, c2, rfl, -, -⟩ := h2.shape
  have H := Lib.hid h
  have H2 := Lib.hid h2
  have hne : ((l.length : Int) != (l.length : Int)) = false := by simp
  clear h h2
  go_enter Try.func18, Try.ntmps18
  go_wp2
  go_loopg [5] l.length (fun j vi wr => ∃ i : Nat, i + j = l.length ∧ vi = .int .i64 i ∧ ∃ n, wr = w.drewN n)
  case atStart => exact ⟨0, by omega, rfl, 0, rfl⟩
  case round =>
    obtain ⟨i, hij, rfl, n, rfl⟩ := hrel
    by_cases hlt : i < l.length
    · obtain ⟨p, hp⟩ : ∃ p, l[i]? = some p := ⟨_, List.getElem?_eq_getElem hlt⟩
      obtain ⟨g, off, hidx, hgl, q0, q1, q2, q3, -⟩ := a_at (SlK.drewN H.out n) asT hp
      obtain ⟨g2, off2, hidx2, hgl2, r0, r1, r2, r3, -⟩ := a_at (SlK.drewN H2.out n) asT hp
      clear hp
      go_wp2
      refine wp_region_order (fun w' => w'.cell? ⟨g, off, none⟩ = some (.int .i64 p.kind) ∧ w'.cell? ⟨g, off + 1, none⟩ = some (.int .i64 p.try_) ∧ w'.cell? ⟨g, off + 2, none⟩ = some (.string p.host) ∧ w'.cell? ⟨g, off + 3, none⟩ = some (.int .i64 p.why) ∧ w'.cell? ⟨g2, off2, none⟩ = some (.int .i64 p.kind) ∧ w'.cell? ⟨g2, off2 + 1, none⟩ = some (.int .i64 p.try_) ∧ w'.cell? ⟨g2, off2 + 2, none⟩ = some (.string p.host) ∧ w'.cell? ⟨g2, off2 + 3, none⟩ = some (.int .i64 p.why)) [(0, true), (1, true), (2, true), (3, true), (4, true), (5, true), (6, true), (7, true), (8, true)] (by kernel_rfl) (by kernel_rfl) (by kernel_rfl) ⟨q0, q1, q2, q3, r0, r1, r2, r3⟩ ?_
      repeat (first
        | (refine sched_takeE rfl rfl ?_
           apply Exists.intro
           refine ⟨fun w' hS => ?_, fun K hK => ?_⟩
           · (obtain ⟨S0, S1, S2, S3, R0, R1, R2, R3⟩ := hS; unfold takesAt; go_simp; rfl)
           go_simp
           refine hK _ ?_
           clear hK K))
      refine sched_nil (NoPanic.normal ?_)
      go_wp2
      go_roundg (l.length - (i + 1))
      case measure => omega
      case rel => exact ⟨i + 1, by omega, by go_num, n + 1, rfl⟩
    · go_wp2
      go_ret
      exact ⟨rfl, n, rfl⟩
end Go.Proofs.Ytooedjedncokpaa

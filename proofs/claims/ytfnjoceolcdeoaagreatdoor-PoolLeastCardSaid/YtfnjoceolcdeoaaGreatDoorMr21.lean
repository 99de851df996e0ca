/- A pool's events of a connection that died · A pool's connection breaks. -/
import Derived.Test.YtfnjoceolcdeoaaGreatDoorMr18
import Derived.Test.YtfnjoceolcdeoaaGreatDoorMr20
import Derived.Test.YtfnjoceolcdeoaaGreatDoorMr08
namespace Go.Proofs.YtfnjoceolcdeoaaGreatDoor
set_option linter.unusedVariables false
open Go.RowKit
open Go.ChangeMaps (setBlock)

/-- An event's cells, where it has no answer and no note. -/
def evC (id kind : Int) (wr : Value) (why : Int) (ls : Value) : List Value := [.int .i64 id, .int .i64 kind, wr, .int .i64 0, .int .u8 0, .int .u8 0, .int .i16 0, .int .u8 0, .int .u32 0, .slice none 0 0, .string noStr, .string noStr, .slice none 0 0, .int .u32 0, .string noStr, .string noStr, .string noStr, .string noStr, .slice none 0 0, .int .i64 why, ls]
theorem evT : SlT Tryz.prog 36 51 (.agg (evC 0 0 (.slice none 0 0) 0 (.slice none 0 0)).toArray) 21 272 := ⟨Tryz.underlying36, by kernel_rfl, rfl, by decide, by decide⟩
theorem evC_len (id kind : Int) (wr : Value) (why : Int) (ls : Value) : (evC id kind wr why ls).length = 21 := rfl
theorem evC_one {id kind : Int} {A : Option Addr} {n c : Nat} {why : Int} {A2 : Option Addr} {n2 c2 : Nat} : ∀ u ∈ evC id kind (.slice A n c) why (.slice A2 n2 c2), u.oneCell' = true := by
  intro u hu
  simp only [evC, List.mem_cons, List.not_mem_nil, or_false] at hu
  rcases hu with rfl | rfl | rfl | rfl | rfl | rfl | rfl | rfl | rfl | rfl | rfl | rfl | rfl | rfl | rfl | rfl | rfl | rfl | rfl | rfl | rfl <;> rfl
theorem own_slk {w : World} {b : Nat} {e : TypeId} {sz n : Nat} {v : Value} {xs : List Value} (h : w.ownsRow b e sz v n xs) : SlK w (fun g _ => b ≤ g) sz v n xs := by
  have hs := Sl.of_own h
  obtain ⟨hl, A, cap, rfl, h1, h2, h3⟩ := hs
  refine ⟨hl, A, cap, rfl, h1, h2, ?_⟩
  rcases h3 with h3 | ⟨g, off, cs, e1, fz, rfl, hh, ho, hc⟩
  · exact .inl h3
  · refine .inr ⟨g, off, cs, e1, fz, rfl, hh, ?_, hc⟩
    rcases h.2 with ⟨e, h0⟩ | ⟨g', cap', cur, e, hb, _⟩
    · cases e
    · cases e; exact hb
/-- A pool behind a death. -/
def XP.broke (x : XP) (now draw : Nat) : XP := { x with next := max x.next (laterN now (delayP x.base x.longest x.failed x.percent draw)), failed := laterN x.failed 1, wanted := x.core }

theorem XP.cells {w : World} {p m : Nat} {x : XP} (h : Blk w p 78 (x.C m)) : w.cell? ⟨p, 0, none⟩ = some (.int .i64 x.core) ∧ w.cell? ⟨p, 2, none⟩ = some (.int .u64 x.base) ∧ w.cell? ⟨p, 3, none⟩ = some (.int .u64 x.longest) ∧ w.cell? ⟨p, 4, none⟩ = some (.int .u64 x.percent) ∧ w.cell? ⟨p, 13, none⟩ = some (.map (some m)) ∧ w.cell? ⟨p, 14, none⟩ = some (.int .i64 x.opened) ∧ w.cell? ⟨p, 15, none⟩ = some (.int .i64 x.wanted) ∧ w.cell? ⟨p, 16, none⟩ = some (.int .u64 x.failed) ∧ w.cell? ⟨p, 17, none⟩ = some (.int .u64 x.next) :=
  ⟨h.cell 0, h.cell 2, h.cell 3, h.cell 4, h.cell 13, h.cell 14, h.cell 15, h.cell 16, h.cell 17⟩
theorem PoolAt.del {w w' : World} {p m : Nat} {x x' : XP} {L : List (Int × CN)} (h : PoolAt w p m x L) (id : Int) (hk : Kept (fun k => k = p ∨ k = m) w w') (hb : Blk w' p 78 (x'.C m)) (hm : CMap w' m (adel id L)) (ho : x'.opened = x.opened) : PoolAt w' p m x' (adel id L) := by
  have hs := adel_subl id L
  refine ⟨hb, hm, fun q hq => (h.con q (hs.subset hq)).kept hk fun k e e2 => ?_, fun q hq => h.low q (hs.subset hq), h.dis.sublist hs, h.asc.sublist (hs.map _), fun q hq => by rw [ho]; exact h.rng q (hs.subset hq), ⟨by rw [ho]; exact h.few.1, Nat.le_trans hs.length_le h.few.2⟩, h.glp, h.glm, h.mxl.kept hk ?_, h.tab.kept hk ?_⟩
  · have := h.low q (hs.subset hq)
    rcases e with rfl | rfl <;> omega
  · have h1 := h.glp.1; have h2 := h.glm.1
    rintro (e | e) <;> omega
  · have h1 := h.glp.2; have h2 := h.glm.2
    rintro (e | e) <;> omega
set_option maxHeartbeats 8000000 in
set_option maxRecDepth 100000 in
theorem poEvents_died {w : World} {p m : Nat} {x : XP} {L : List (Int × CN)} (h : PoolAt w p m x L) (id : Int) (A : Option Addr) (k : Nat) (why : Int) (hwhy : why ≠ 0) (now draw : Nat) (hb : x.base < 18446744073709551616) (hlg : x.longest ≤ 72057594037927936) (hp : x.percent < 18446744073709551616) (hf : x.failed < 18446744073709551616) (hnx : x.next < 18446744073709551616) (hnow : now < 18446744073709551616) (hdr : draw < 18446744073709551616) :
    Calls Tryz.prog 22 #[.pointer (some ⟨p, 0, none⟩), .int .i64 id, outV A 0 k (.slice none 0 0) (.slice none 0 0) false why (.slice none 0 0), .int .u64 now, .int .u64 draw] w fun e w' => ∃ A' c', e = .returned (.slice A' 1 c') ∧ PoolAt w' p m (x.broke now draw) (adel id L) ∧ SlK w' (fun g _ => w.heap.size ≤ g) 21 (.slice A' 1 c') 1 (evC id 6 (.slice none 0 0) why (.slice none 0 0)) ∧ Kept (fun k => k = p ∨ k = m) w w' := by
  unfold outV
  have hw0 : (why == 0) = false := by rw [beq_eq_false_iff_ne]; exact hwhy
  have HB0 := Lib.hid (Blk.new w 84 #[.slice A 0 k, .slice none 0 0, .slice none 0 0, .bool false, .int .i64 why, .slice none 0 0])
  have HK0 := Lib.hid ((Kept.refl noBlock w).alloc (.cells #[.slice A 0 k, .slice none 0 0, .slice none 0 0, .bool false, .int .i64 why, .slice none 0 0] 84))
  have H := Lib.hid h
  have hpm := h.ne
  clear h
  go_enter Tryz.func22, Tryz.ntmps22
  go_wp2_with fail
  generalize hw1 : w.alloc (.cells #[.slice A 0 k, .slice none 0 0, .slice none 0 0, .bool false, .int .i64 why, .slice none 0 0] 84) = w1 at *
  generalize hg : w.heap.size = g at *
  clear hw1
  obtain ⟨z0, z1, z2, z3, z4, z5⟩ := cells6o HB0.out
  go_loopg [11, 30] 0 (fun j v11 v30 wr => v11 = .slice none 0 0 ∧ v30 = .int .i64 0 ∧ wr = w1)
  case atStart => exact ⟨rfl, rfl, rfl⟩
  case round =>
    obtain ⟨rfl, rfl, hwr⟩ := hrel
    rw [hwr]
    clear hwr
    go_wp2_with fail
    go_loopg [11, 44] 0 (fun j v11 v44 wx => v11 = .slice none 0 0 ∧ v44 = .int .i64 0 ∧ wx = w1)
    case atStart => exact ⟨rfl, rfl, rfl⟩
    case round =>
      obtain ⟨rfl, rfl, hwx⟩ := hrel
      rw [hwx]
      clear hwx
      have H1 := Lib.hid (H.out.keptN HK0.out)
      have hpg : p < g := by rw [← hg]; exact H.out.blk.lt
      have hmg : m < g := by rw [← hg]; exact H.out.map.lt
      obtain ⟨y0, y2, y3, y4, y13, y14, y15, y16, y17⟩ := XP.cells H1.out.blk
      obtain ⟨es, ck, hdel, hm2⟩ := H1.out.map.run_delete i64K imcM intU id
      obtain ⟨hx1, hx2, hx3⟩ := H1.out.map.rules es ck
      have HM2 := Lib.hid hm2
      have HKM := Lib.hid (show Kept (fun k => k = m) w1 (setBlock w1 m (.map es ck)) from (Kept.refl (fun k => k = m) w1).setBlock (m := m) (fun _ => rfl) _)
      have HBP := Lib.hid (H1.out.blk.setBlock hpm (.map es ck))
      have HBO := Lib.hid (HB0.out.setBlock (m := m) (by omega) (.map es ck))
      clear hm2
      go_wp2_with fail
      generalize setBlock w1 m (.map es ck) = w2 at *
      clear y0 y2 y3 y4 y13 y14 y15 y16 y17 z0 z1 z2 z3 z4 z5 hx1 hx2 hx3 hdel
      obtain ⟨y0, y2, y3, y4, y13, y14, y15, y16, y17⟩ := XP.cells HBP.out
      refine wp_region_schZ (fun W => Kept noBlock w2 W) (.take 0 (.take 1 (.take 2 (.take 3 (.take 4 (.take 5 (.take 6 (.take 7 (.take 8 (.take 9 (.take 10 (.take 11 (.take 12 (.take 13 (.take 14 (.take 15 (.take 16 (.take 17 (.take 18 (.take 19 (.take 20 (.take 21 (.take 22 (.take 23 (.take 24 (.take 25 (.one 26 (.one 27 (.take 28 (.one 29 (.take 30 .nil))))))))))))))))))))))))))))))) [31] (by kernel_rfl) (by kernel_rfl) (by kernel_rfl) (Kept.refl _ _).drew ?_
      repeat (first
        | (refine schZ_takeE rfl rfl ?_
           apply Exists.intro
           refine ⟨fun w' hS => ?_, fun K hK => ?_⟩
           · (have r2 := hS.cellN y2
              have r3 := hS.cellN y3
              have r4 := hS.cellN y4
              have r16 := hS.cellN y16
              have r17 := hS.cellN y17
              clear hS
              unfold takesAt; go_simp; rfl)
           go_simp
           refine hK _ ?_
           clear hK K))
      have H0 := Lib.hid ((Kept.refl noBlock w2).drew)
      generalize hdl : delayP x.base x.longest x.failed x.percent draw = dl at *
      refine schZ_doK rfl rfl (fun K hK => ?_)
      go_simp
      go_at_call 43
      refine (boDelay_at x.base x.longest x.failed x.percent draw hb hlg hf hp hdr _).mono ?_
      rintro e W1 ⟨rfl, hkA⟩
      have H1W := Lib.hid (H0.out.trans hkA fun _ _ e => e)
      refine hK _ _ H1W.out ?_
      clear hK K hkA
      refine schZ_doK rfl rfl (fun K hK => ?_)
      go_simp
      go_at_call 42
      refine (poLater_at now dl hnow (by rw [← hdl]; exact delay_lt) W1).mono ?_
      rintro e W2 ⟨rfl, hw2⟩
      subst hw2
      refine hK _ _ H1W.out ?_
      clear hK K
      generalize hlt : laterN now dl = lt at *
      have hltb : lt < 18446744073709551616 := by rw [← hlt]; unfold laterN; split <;> omega
      repeat (first
        | (refine schZ_takeE rfl rfl ?_
           apply Exists.intro
           refine ⟨fun w' hS => ?_, fun K hK => ?_⟩
           · (clear hS
              unfold takesAt; go_simp; rfl)
           go_simp
           refine hK _ ?_
           clear hK K))
      refine schZ_doK rfl rfl (fun K hK => ?_)
      go_simp
      refine hK _ _ H1W.out ?_
      clear hK K
      repeat (first
        | (refine schZ_takeE rfl rfl ?_
           apply Exists.intro
           refine ⟨fun w' hS => ?_, fun K hK => ?_⟩
           · (clear hS
              unfold takesAt; go_simp; rfl)
           go_simp
           refine hK _ ?_
           clear hK K))
      have hmx : max (x.next : Int) (lt : Int) = ((max x.next lt : Nat) : Int) := by omega
      rw [hmx]
      have hmb : max x.next lt < 18446744073709551616 := by omega
      refine schZ_nil ?_
      have hb1 := HBP.out.kept H1W.out (fun e => e)
      have hb3 : Blk (W1.setCell ⟨p, 17, none⟩ (.int .u64 ((max x.next lt : Nat) : Int))) p 78 (({ x with next := max x.next lt } : XP).C m) := hb1.set_ 17 _
      have HKW3 := Lib.hid ((H1W.out.of_none (S := fun k => k = p)).setCell (p := ⟨p, 17, none⟩) (fun _ => rfl) (.int .u64 ((max x.next lt : Nat) : Int)))
      have q17 : W1.cell? ⟨p, 17, none⟩ = some (.int .u64 x.next) := hb1.cell 17
      have f17 := hb1.frozen 17
      have HB3 := Lib.hid hb3
      have HMXE : Hid ((x.broke now draw).next = max x.next lt) := Lib.hid (by show max x.next (laterN now (delayP x.base x.longest x.failed x.percent draw)) = _; rw [hdl, hlt])
      clear hb1 hb3 hmx y0 y2 y3 y4 y13 y14 y15 y16 y17
      generalize max x.next lt = mx at *
      refine tail_doK rfl rfl (fun K hK => ?_)
      go_simp
      refine hK _ _ ?_
      clear hK K q17 f17
      refine tail_nil (NoPanic.normal ?_)
      generalize W1.setCell ⟨p, 17, none⟩ (.int .u64 (mx : Int)) = W3 at *
      obtain ⟨y0, y2, y3, y4, y13, y14, y15, y16, y17⟩ := XP.cells HB3.out
      simp only [] at y0 y2 y3 y4 y13 y14 y15 y16 y17
      have f16 := HB3.out.frozen 16
      have f15 := HB3.out.frozen 15
      generalize hlf : laterN x.failed 1 = lf at *
      have hlfb : lf < 18446744073709551616 := by rw [← hlf]; unfold laterN; split <;> omega
      have HB5 : Hid (Blk ((W3.setCell ⟨p, 16, none⟩ (.int .u64 (lf : Int))).setCell ⟨p, 15, none⟩ (.int .i64 x.core)) p 78 ((x.broke now draw).C m)) := Lib.hid (by
        have h1 := (HB3.out.set_ 16 (.int .u64 (lf : Int))).set_ 15 (.int .i64 x.core)
        have e : (x.broke now draw).C m = (((({ x with next := mx } : XP).C m).setIfInBounds 16 (.int .u64 (lf : Int))).setIfInBounds 15 (.int .i64 x.core)) := by
          have e1 : x.broke now draw = { x with next := mx, failed := lf, wanted := x.core } := by
            rw [← HMXE.out, ← hlf]; rfl
          rw [e1]; rfl
        rw [e]; exact h1)
      have HK5 := Lib.hid ((HKW3.out.setCell (p := ⟨p, 16, none⟩) (fun _ => rfl) (.int .u64 (lf : Int))).setCell (p := ⟨p, 15, none⟩) (fun _ => rfl) (.int .i64 x.core))
      have HL3 := Lib.hid (poLater_at x.failed 1 hf (by decide) W3)
      rw [hlf] at HL3
      go_wp2_with fail
      go_at_call 42
      refine HL3.out.mono ?_
      rintro e W4 ⟨rfl, hw4⟩
      subst hw4
      go_upto_region 22 with (fail)
      generalize (W3.setCell ⟨p, 16, none⟩ (.int .u64 (lf : Int))).setCell ⟨p, 15, none⟩ (.int .i64 x.core) = W5 at *
      have hbo := HBO.out.kept HK5.out (fun e => by omega)
      obtain ⟨z0, z1, z2, z3, z4, z5⟩ := cells6o hbo
      have hsz5 : g ≤ W5.heap.size := by
        have h1 := HK0.out.size
        have h2 := HKM.out.size
        have h3 := HK5.out.size
        omega
      clear y0 y2 y3 y4 y13 y14 y15 y16 y17 f16 f15 hbo
      go_wp2_with (first
        | (refine wpList_rd rfl (d := 126) rfl (.agg #[.int .i64 id, .int .i64 6, .slice none 0 0, .int .i64 0, .int .u8 0, .int .u8 0, .int .i16 0, .int .u8 0, .int .u32 0, .slice none 0 0, .string noStr, .string noStr, .slice none 0 0, .int .u32 0, .string noStr, .string noStr, .string noStr, .string noStr, .slice none 0 0, .int .i64 why, .slice none 0 0]) (by kernel_rfl) ?_)
        | (at_builtin; go_must (refine wpList_append_sl _ evT rfl (.tmp 120) (.tmp 127) rfl g _ 0 [] rfl (World.ownsRow_nil _ _ _ _) _ 1 (evC id 6 (.slice none 0 0) why (.slice none 0 0)) rfl (Sl.made_at (sz := 21) (n := 1) (Blk.new W5 51 #[.int .i64 id, .int .i64 6, .slice none 0 0, .int .i64 0, .int .u8 0, .int .u8 0, .int .i16 0, .int .u8 0, .int .u32 0, .slice none 0 0, .string noStr, .string noStr, .slice none 0 0, .int .u32 0, .string noStr, .string noStr, .string noStr, .string noStr, .slice none 0 0, .int .i64 why, .slice none 0 0]) _ rfl rfl (by decide)) evC_one ?c1 ?c2 ?_)))
      case c1 => decide
      case c2 => rw [sz_alloc]; omega
      intro v' W6 hap
      have hk6 : Kept noBlock W5 W6 := ((Kept.refl noBlock W5).alloc _).trans hap.keptNil fun _ _ e => e
      have hrow := hap.own
      obtain ⟨A6, c6, rfl, -, -⟩ := (Sl.of_own hrow).shape
      have HROW : Hid (SlK W6 (fun b _ => g ≤ b) 21 (.slice A6 1 c6) 1 (evC id 6 (.slice none 0 0) why (.slice none 0 0))) := Lib.hid (own_slk hrow)
      have HK6 := Lib.hid hk6
      clear hap hrow hk6 z0 z1 z2 z3 z4 z5
      go_wp2_with fail
      go_ret
      have hkA : Kept (fun k => k = p ∨ k = m) w1 W6 := ((HKM.out.mono (T := fun k => k = p ∨ k = m) fun k _ e => .inr e).trans (HK5.out.mono (T := fun k => k = p ∨ k = m) fun k _ e => .inl e) fun _ _ e => e).trans HK6.out fun _ _ e => e.elim
      have hmF : CMap W6 m (adel id L) := (HM2.out.kept HK5.out fun e => hpm e.symm).kept HK6.out fun e => e
      rw [hg]
      exact ⟨A6, c6, rfl, H1.out.del id hkA (HB5.out.kept HK6.out fun e => e) hmF rfl, HROW.out, HK0.out.of_none.trans hkA fun _ _ e => e⟩

end Go.Proofs.YtfnjoceolcdeoaaGreatDoor
namespace Go.Proofs.YtfnjoceolcdeoaaGreatDoor
set_option linter.unusedVariables false
open Go.RowKit

/-- The connections, one of them dead. -/
def deadAt (id : Int) (r : Int × CN) : Int × CN := if r.1 = id then (r.1, { r.2 with x := r.2.x.dead }) else r
theorem deadAt_same (id : Int) (r : Int × CN) : (deadAt id r).1 = r.1 ∧ (deadAt id r).2.lo = r.2.lo ∧ (deadAt id r).2.hi = r.2.hi ∧ (deadAt id r).2.c = r.2.c := by
  unfold deadAt
  split <;> exact ⟨rfl, rfl, rfl, rfl⟩
theorem adel_dead (id : Int) : ∀ L : List (Int × CN), (L.map (·.1)).Nodup → adel id (L.map (deadAt id)) = adel id L
  | [], _ => rfl
  | r :: t, hn => by
    obtain ⟨a, b⟩ := r
    simp only [List.map_cons, List.nodup_cons] at hn
    by_cases e : a = id
    · subst e
      have h1 : deadAt a (a, b) = (a, { b with x := b.x.dead }) := by unfold deadAt; rw [if_pos rfl]
      rw [List.map_cons, h1]
      simp only [adel, if_true]
      have : t.map (deadAt a) = t := by
        conv => rhs; rw [← List.map_id t]
        apply List.map_congr_left
        intro r hr
        unfold deadAt
        rw [if_neg]
        · rfl
        · intro e2
          exact hn.1 (List.mem_map.2 ⟨r, hr, e2⟩)
      exact this
    · have h1 : deadAt id (a, b) = (a, b) := by unfold deadAt; rw [if_neg e]
      rw [List.map_cons, h1]
      simp only [adel, if_neg e]
      rw [adel_dead id t hn.2]
theorem pair_or {α : Type} {R : α → α → Prop} : ∀ {l : List α}, l.Pairwise R → ∀ {a b : α}, a ∈ l → b ∈ l → a = b ∨ R a b ∨ R b a
  | _ :: _, h, a, b, ha, hb => by
    cases h with
    | cons h1 h2 =>
      cases ha with
      | head => cases hb with
        | head => exact .inl rfl
        | tail _ hb => exact .inr (.inl (h1 b hb))
      | tail _ ha => cases hb with
        | head => exact .inr (.inr (h1 a ha))
        | tail _ hb => exact pair_or h2 ha hb
theorem PoolAt.nodup {w : World} {p m : Nat} {x : XP} {L : List (Int × CN)} (h : PoolAt w p m x L) : (L.map (·.1)).Nodup := h.asc.imp fun h => by omega
theorem PoolAt.dead {w w' : World} {p m : Nat} {x : XP} {L : List (Int × CN)} (h : PoolAt w p m x L) {id : Int} {q : CN} (hq : (id, q) ∈ L) (hk : Kept (fun k => q.lo ≤ k ∧ k < q.hi) w w') (hc : ConnAt w' q.lo q.hi q.c q.x.dead) : PoolAt w' p m x (L.map (deadAt id)) := by
  have hlow : p < q.lo ∧ m < q.lo := h.low _ hq
  refine ⟨h.blk.kept hk fun e => by omega, ?_, fun r hr => ?_, fun r hr => ?_, ?_, ?_, fun r hr => ?_, ⟨h.few.1, by rw [List.length_map]; exact h.few.2⟩, h.glp, h.glm, h.mxl.kept hk (by have := h.glp.1; omega), h.tab.kept hk (by have := h.glp.2; omega)⟩
  · obtain ⟨es, ck, hh, hst, hL⟩ := h.map.kept hk fun e => by omega
    refine ⟨es, ck, hh, hst, hL.trans ?_⟩
    rw [List.map_map]
    apply List.map_congr_left
    intro r _
    have := deadAt_same id r
    simp only [Function.comp, cnV, this.1, this.2.2.2]
  · obtain ⟨r0, hr0, rfl⟩ := List.mem_map.1 hr
    by_cases e : r0.1 = id
    · have hu : r0 = (id, q) := by
        rcases pair_or (List.pairwise_map.1 h.asc) hr0 hq with h1 | h1 | h1
        · exact h1
        · exact absurd e (by have : r0.1 < id := h1; omega)
        · exact absurd e (by have : id < r0.1 := h1; omega)
      subst hu
      have : deadAt id (id, q) = (id, { q with x := q.x.dead }) := by unfold deadAt; rw [if_pos rfl]
      rw [this]
      exact hc
    · have : deadAt id r0 = r0 := by unfold deadAt; rw [if_neg e]
      rw [this]
      refine (h.con r0 hr0).kept hk fun k ek e2 => ?_
      rcases pair_or h.dis hr0 hq with h1 | h1 | h1
      · rw [h1] at e; exact e rfl
      · have h1 : r0.2.hi ≤ q.lo := h1; omega
      · have h1 : q.hi ≤ r0.2.lo := h1; omega
  · obtain ⟨r0, hr0, rfl⟩ := List.mem_map.1 hr
    rw [(deadAt_same id r0).2.1]
    exact h.low r0 hr0
  · rw [List.pairwise_map]
    exact h.dis.imp fun hab => by rw [(deadAt_same id _).2.2.1, (deadAt_same id _).2.1]; exact hab
  · rw [List.map_map]
    have : (L.map ((fun r => r.1) ∘ deadAt id)) = L.map (·.1) := List.map_congr_left fun r _ => (deadAt_same id r).1
    rw [this]
    exact h.asc
  · obtain ⟨r0, hr0, rfl⟩ := List.mem_map.1 hr
    rw [(deadAt_same id r0).1]
    exact h.rng r0 hr0

set_option maxHeartbeats 4000000 in
set_option maxRecDepth 100000 in
theorem poBreak_at {w : World} {p m : Nat} {x : XP} {L : List (Int × CN)} (h : PoolAt w p m x L) {id : Int} {q : CN} (hq : aget id L = some q) (hs : q.x.state ≠ 7) (ho : q.x.oth = some []) (now draw : Nat) (hb : x.base < 18446744073709551616) (hlg : x.longest ≤ 72057594037927936) (hp : x.percent < 18446744073709551616) (hf : x.failed < 18446744073709551616) (hnx : x.next < 18446744073709551616) (hnow : now < 18446744073709551616) (hdr : draw < 18446744073709551616) :
    Calls Tryz.prog 11 #[.pointer (some ⟨p, 0, none⟩), .int .i64 id, .int .u64 now, .int .u64 draw] w fun e w' => ∃ A' c', e = .returned (.slice A' 1 c') ∧ PoolAt w' p m (x.broke now draw) (adel id L) ∧ SlK w' (fun g _ => w.heap.size ≤ g) 21 (.slice A' 1 c') 1 (evC id 6 (.slice none 0 0) 33 (.slice none 0 0)) ∧ Kept (poolS p m L) w w' := by
  have hmem : (id, q) ∈ L := aget_mem hq
  have c13 : w.cell? ⟨p, 13, none⟩ = some (.map (some m)) := h.blk.cell 13
  have hl := h.map.run_lookup i64K imcM intU (zero_ptr w) id false
  rw [hq] at hl
  simp only [Bool.false_eq_true, if_false, Option.map_some, Option.getD_some] at hl
  unfold cnV at hl
  have HC := Lib.hid (cnClose_none (h.con _ hmem) hs ho 33 (by decide))
  have H := Lib.hid h
  have HME := Lib.hid hmem
  clear h hmem
  go_enter Tryz.func11, Tryz.ntmps11
  go_wp2_with fail
  go_at_call 24
  refine HC.out.mono ?_
  rintro e w2 ⟨A, k, rfl, hc2, hk2⟩
  have HP2 := H.out.dead HME.out hk2 hc2
  have HE := Lib.hid (poEvents_died HP2 id A k 33 (by decide) now draw hb hlg hp hf hnx hnow hdr)
  rw [adel_dead id L H.out.nodup] at HE
  unfold outV at HE ⊢
  have HK2 := Lib.hid hk2
  clear hc2 hk2 HP2
  go_wp2_with fail
  go_at_call 22
  refine HE.out.mono ?_
  rintro e w3 ⟨A', c', rfl, hp3, hs3, hk3⟩
  have HF : Hid (PoolAt w3 p m (x.broke now draw) (adel id L) ∧ SlK w3 (fun g _ => w.heap.size ≤ g) 21 (.slice A' 1 c') 1 (evC id 6 (.slice none 0 0) 33 (.slice none 0 0)) ∧ Kept (poolS p m L) w w3) := Lib.hid ⟨hp3, hs3.any fun g _ _ e => Nat.le_trans HK2.out.size e, (HK2.out.mono (T := poolS p m L) fun k _ e => .inr (.inr ⟨_, HME.out, e⟩)).trans hk3 fun k _ e => by
    rcases e with e | e
    · exact .inl e
    · exact .inr (.inl e)⟩
  clear hp3 hs3 hk3
  go_wp2
  go_ret
  exact ⟨A', c', rfl, HF.out⟩
end Go.Proofs.YtfnjoceolcdeoaaGreatDoor

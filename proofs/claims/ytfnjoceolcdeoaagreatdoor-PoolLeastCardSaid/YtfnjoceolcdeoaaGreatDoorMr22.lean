/- A pool's Tick, while its connections have nothing that is due. -/
import Derived.Test.YtfnjoceolcdeoaaGreatDoorMr21
namespace Go.Proofs.YtfnjoceolcdeoaaGreatDoor
set_option linter.unusedVariables false
open Go.RowKit
open Go.ChangeMaps (setBlock)

theorem PoolAt.add {w w1 w' : World} {p m : Nat} {x x' : XP} {L : List (Int × CN)} (h : PoolAt w p m x L) (hk : Kept noBlock w w1) {lo hi c : Nat} {xc : XC} (hc : ConnAt w1 lo hi c xc) (hlo : w.heap.size ≤ lo) {S : Nat → Prop} (hk2 : Kept S w1 w') (hS : ∀ k, S k → k = p ∨ k = m ∨ ((∀ q ∈ L, ¬ (q.2.lo ≤ k ∧ k < q.2.hi)) ∧ ¬ (lo ≤ k ∧ k < hi) ∧ GLow k)) (hx : x'.opened = x.opened + 1) (hb : Blk w' p 78 (x'.C m)) (hm : CMap w' m (L ++ [(x.opened, ⟨lo, hi, c, xc⟩)]))
    (h0 : 0 ≤ x.opened) (h1 : x.opened < 1000000) (h2 : L.length < 1000000) : PoolAt w' p m x' (L ++ [(x.opened, ⟨lo, hi, c, xc⟩)]) := by
  have hp := h.blk.lt
  have hmm := h.map.lt
  have hkk := (hk.of_none (S := S)).trans hk2 fun _ _ e => e
  refine ⟨hb, hm, fun q hq => ?_, fun q hq => ?_, ?_, ?_, fun q hq => ?_, ⟨by rw [hx]; omega, by rw [List.length_append]; simp; omega⟩, h.glp, h.glm, h.mxl.kept hkk ?_, h.tab.kept hkk ?_⟩
  · rcases List.mem_append.1 hq with hq | hq
    · refine (h.con q hq).kept hkk fun k e e2 => ?_
      have := h.low q hq
      rcases hS k e with rfl | rfl | e3
      · omega
      · omega
      · exact e3.1 q hq e2
    · obtain rfl : q = _ := by simpa using hq
      exact hc.kept hk2 fun k e e2 => by
        have e2 : lo ≤ k ∧ k < hi := e2
        rcases hS k e with rfl | rfl | e3
        · omega
        · omega
        · exact e3.2.1 e2
  · rcases List.mem_append.1 hq with hq | hq
    · exact h.low q hq
    · obtain rfl : q = _ := by simpa using hq
      exact ⟨show p < lo by omega, show m < lo by omega⟩
  · rw [List.pairwise_append]
    refine ⟨h.dis, by simp, fun a ha b hb => ?_⟩
    obtain rfl : b = _ := by simpa using hb
    exact Nat.le_trans (h.hiLt ha) hlo
  · rw [List.map_append, List.pairwise_append]
    refine ⟨h.asc, by simp, fun a ha b hb => ?_⟩
    obtain ⟨r, hr, rfl⟩ := List.mem_map.1 ha
    obtain rfl : b = x.opened := by simpa using hb
    exact (h.rng r hr).2
  · rw [hx]
    rcases List.mem_append.1 hq with hq | hq
    · have := h.rng q hq; omega
    · obtain rfl : q = _ := by simpa using hq
      exact ⟨h0, show x.opened < x.opened + 1 by omega⟩
  · have h1 := h.glp.1; have h2 := h.glm.1
    intro e
    rcases hS _ e with e | e | e
    · omega
    · omega
    · have := e.2.2.1; omega
  · have h1 := h.glp.2; have h2 := h.glm.2
    intro e
    rcases hS _ e with e | e | e
    · omega
    · omega
    · have := e.2.2.2; omega
theorem intsTP : SlT Tryz.prog 49 3 (.int .i64 0) 1 8 := ⟨Tryz.underlying49, by kernel_rfl, rfl, by decide, by decide⟩
theorem own_slkB {w : World} {b : Nat} {e : TypeId} {sz n : Nat} {v : Value} {xs : List Value} (h : w.ownsRow b e sz v n xs) : SlK w (fun g _ => b ≤ g ∧ v.ownBlock = some g) sz v n xs := by
  have hs := Sl.of_own h
  obtain ⟨hl, A, cap, rfl, h1, h2, h3⟩ := hs
  refine ⟨hl, A, cap, rfl, h1, h2, ?_⟩
  rcases h3 with h3 | ⟨g, off, cs, e1, fz, rfl, hh, ho, hc⟩
  · exact .inl h3
  · refine .inr ⟨g, off, cs, e1, fz, rfl, hh, ?_, hc⟩
    rcases h.2 with ⟨e, h0⟩ | ⟨g', cap', cur, e, hb, _⟩
    · cases e
    · cases e; exact ⟨hb, rfl⟩
/-- Nothing is due on a connection. -/
def idleAt (now : Nat) (x : XC) : Prop := ∀ (W : World) (lo hi c : Nat), ConnAt W lo hi c x → Calls Tryz.prog 23 #[.pointer (some ⟨c, 0, none⟩), .int .u64 (now : Int)] W fun e w' => e = .returned (outV none 0 0 (.slice none 0 0) (.slice none 0 0) false 0 (.slice none 0 0)) ∧ Kept noBlock W w'
theorem idleAt_of {now : Nat} {x : XC} (h : x.state ≠ 6 ∧ x.state ≠ 7 ∧ x.beat = -1 ∧ x.drain = false ∧ (now : Int) < x.til) : idleAt now x := fun _ _ _ _ hc => cnTick_idle hc h.1 h.2.1 h.2.2.1 h.2.2.2.1 (now : Int) h.2.2.2.2
def XP.begun (x : XP) (now : Nat) : XC := XC.begun x.st x.ks x.hs x.idle x.beat x.orph now
/-- Connections that were opened, and their events. -/
def newOk (x : XP) (now : Nat) (N : List (Int × CN)) (E : List (List Value)) : Prop :=
  E.length = N.length ∧ (∀ (i : Nat) (r : Int × CN), N[i]? = some r → r.1 = x.opened + (i : Int) ∧ r.2.x = x.begun now) ∧ ∀ (i : Nat) (l : List Value), E[i]? = some l → ∃ A c, l = evC (x.opened + (i : Int)) 1 (.slice A 9 c) 0 (.slice none 0 0)
/-- Behind a Tick. -/
def TickPost (w : World) (p m : Nat) (x : XP) (L : List (Int × CN)) (now J : Nat) (e : Ending) (w' : World) : Prop :=
  ∃ A c N E, e = .returned (.slice A J c) ∧ N.length = J ∧ newOk x now N E ∧ PoolAt w' p m { x with opened := x.opened + (J : Int) } (L ++ N) ∧ SlK w' (fun g _ => w.heap.size ≤ g ∧ ∀ r ∈ N, ¬ (r.2.lo ≤ g ∧ g < r.2.hi)) 21 (.slice A J c) J E.flatten ∧ Kept (poolS p m L) w w'

theorem TickPost.drewN {w w' : World} {p m : Nat} {x : XP} {L : List (Int × CN)} {now J : Nat} {e : Ending} (h : TickPost w p m x L now J e w') (n : Nat) : TickPost w p m x L now J e (w'.drewN n) := by
  obtain ⟨A, c, N, E, h1, h2, h3, h4, h5, h6⟩ := h
  exact ⟨A, c, N, E, h1, h2, h3, h4.keptN ((Kept.refl _ _).drewN _), h5.drewN _, h6.drewN _⟩
structure TickIn (w wr : World) (p m : Nat) (x : XP) (L : List (Int × CN)) (now i : Nat) (v7 : Value) (N : List (Int × CN)) (E : List (List Value)) (A : Option Addr) (c : Nat) : Prop where
  v : v7 = .slice A i c
  row : wr.ownsRow w.heap.size 51 21 (.slice A i c) i E.flatten
  pool : PoolAt wr p m { x with opened := x.opened + (i : Int) } (L ++ N)
  n : N.length = i
  ok : newOk x now N E
  keep : Kept (poolS p m L) w wr
  far : ∀ k, (Value.slice A i c).ownBlock = some k → ∀ r ∈ N, ¬ (r.2.lo ≤ k ∧ k < r.2.hi)
  up : ∀ r ∈ N, w.heap.size ≤ r.2.lo

set_option maxHeartbeats 8000000 in
set_option maxRecDepth 100000 in
theorem poTick_at {w : World} {p m : Nat} {x : XP} {L : List (Int × CN)} (h : PoolAt w p m x L) (now : Nat) (draw : Int) (hnow : now < 18446744073709551616) (hid : ∀ q ∈ L, idleAt now q.2.x) (hst : x.stopped = false) (s1 : 1 ≤ x.st) (s2 : x.st ≤ 32768) (hks : ksOk x.ks) (hhs : x.hs < 18446744073709551616) (hor : 1 ≤ x.orph) (h0 : 0 ≤ x.opened) (hop : x.opened ≤ 100000) (hw0 : 0 ≤ x.wanted) (hwa : x.wanted ≤ 1000) (hLl : L.length ≤ 1000)
    (J : Nat) (hJ : J = if x.next ≤ now then (x.wanted - (L.length : Int)).toNat else 0) :
    Calls Tryz.prog 10 #[.pointer (some ⟨p, 0, none⟩), .int .u64 now, .int .u64 draw] w (TickPost w p m x L now J) := by
  have HI := Lib.hid (poIds_at h)
  have H := Lib.hid h
  have HJ := Lib.hid hJ
  clear h hJ
  go_enter Tryz.func10, Tryz.ntmps10
  go_wp2_with fail
  go_at_call 21
  refine HI.out.mono ?_
  rintro e w1 ⟨A1, n, c1, rfl, hn, hs1, hk1⟩
  have HN := Lib.hid hn
  have hnb : n ≤ 1000 := by rw [hn]; exact hLl
  have HS1 := Lib.hid hs1
  have HK1 := Lib.hid hk1
  have hlen := hs1.run_len intsTP
  clear hn hs1 hk1
  go_wp2_with fail
  go_loopg [7, 18] n (fun j v7 v18 wr => ∃ (i : Nat) (A : Option Addr) (c : Nat), i + j = n ∧ v18 = .int .i64 i ∧ v7 = .slice A 0 c ∧ wr.ownsRow w1.heap.size 51 21 (.slice A 0 c) 0 [] ∧ Kept noBlock w1 wr)
  case atStart => exact ⟨0, none, 0, by omega, rfl, rfl, World.ownsRow_nil _ _ _ _, Kept.refl _ _⟩
  case round =>
    obtain ⟨i, A7, c7, hij, rfl, rfl, hown, hk⟩ := hrel
    have HIJ := Lib.hid hij
    have HO := Lib.hid hown
    have HK := Lib.hid hk
    have HKW := Lib.hid (HK1.out.trans hk fun _ _ e => e)
    clear hown hk
    by_cases hi : i < n
    · obtain ⟨q, hq⟩ : ∃ q, L[i]? = some q := ⟨_, List.getElem?_eq_getElem (by rw [← HN.out]; exact hi)⟩
      have hqm := List.mem_of_getElem? hq
      obtain ⟨g, off, hidx, hgl, -, h3⟩ := (SlK.keptNone HS1.out HK.out).run_index intsTP (i := (i : Int)) (k := i) rfl hi
      have c0 : wr.cell? ⟨g, off, none⟩ = some (.int .i64 q.1) := h3 0 _ (by rw [Nat.mul_one, Nat.add_zero, List.getElem?_map, hq]; rfl)
      have hpw := H.out.keptN HKW.out
      have c13 : wr.cell? ⟨p, 13, none⟩ = some (.map (some m)) := hpw.blk.cell 13
      have hl := hpw.map.run_lookup i64K imcM intU (zero_ptr wr) q.1 false
      rw [aget_of_mem hpw.nodup (show (q.1, q.2) ∈ L from hqm)] at hl
      simp only [Bool.false_eq_true, if_false, Option.map_some, Option.getD_some] at hl
      unfold cnV at hl
      have hidl := hid q hqm
      have HT := Lib.hid (hidl _ _ _ _ (hpw.con q hqm))
      clear hpw hq hqm h3 hgl hidl hij
      go_wp2_with fail
      go_at_call 23
      refine HT.out.mono ?_
      rintro e w3 ⟨rfl, hk3⟩
      have HE := Lib.hid (poEvents_none p q.1 (now : Int) draw w3)
      unfold outV at HE ⊢
      have HK3 := Lib.hid hk3
      clear hk3 c0 c13 hl hidx
      go_wp2_with fail
      go_at_call 22
      refine HE.out.mono ?_
      rintro e w4 ⟨rfl, hk4⟩
      have HK4 := Lib.hid ((HK.out.trans HK3.out fun _ _ e => e).trans hk4 fun _ _ e => e)
      have HO4 := Lib.hid (own_keptB (own_keptB HO.out HK3.out fun _ _ e => e) hk4 fun _ _ e => e)
      have hz4 := HK4.out.size
      clear hk4
      go_wp2_with (at_builtin; go_must (refine wpList_append_sl _ evT rfl (.tmp 22) (.tmp 35) rfl w1.heap.size _ 0 [] rfl HO4.out (.slice none 0 0) 0 [] rfl (Sl.nil w4 51 21) (fun u hu => by cases hu) ?c1 ?c2 ?_))
      case c1 => decide
      case c2 => exact hz4
      intro v' w5 hap
      have hrow := hap.own
      obtain ⟨A5, c5, rfl, -, -⟩ := (Sl.of_own hrow).shape
      have HO5 := Lib.hid hrow
      have HK5 := Lib.hid (hap.below HO4.out HK4.out (Nat.le_refl _))
      clear hap hrow hz4
      go_wp2_with fail
      go_roundg (n - (i + 1))
      case measure => have := HIJ.out; omega
      case rel => exact ⟨i + 1, A5, c5, by have := HIJ.out; omega, by go_num, rfl, HO5.out, HK5.out⟩
    · obtain rfl : i = n := by have := HIJ.out; omega
      have hz1 := HK1.out.size
      have START : Hid (TickIn w wr p m x L now 0 (.slice A7 0 c7) [] [] A7 c7) := Lib.hid ⟨rfl, own_base HO.out hz1, (by
          have e1 : ({ x with opened := x.opened + ((0 : Nat) : Int) } : XP) = x := by
            have : x.opened + ((0 : Nat) : Int) = x.opened := by omega
            rw [this]
          rw [e1, List.append_nil]
          exact H.out.keptN HKW.out), rfl, ⟨rfl, fun i r hr => by simp at hr, fun i l hl => by simp at hl⟩, HKW.out.of_none, fun _ _ _ hr => absurd hr List.not_mem_nil, fun _ hr => absurd hr List.not_mem_nil⟩
      clear hij hi hlen HI HIJ
      go_wp2_with fail
      go_loopg [7] J (fun j v7 wx => ∃ (i : Nat) (N : List (Int × CN)) (E : List (List Value)) (A : Option Addr) (c : Nat), i + j = J ∧ TickIn w wx p m x L now i v7 N E A c)
      case atStart => exact ⟨0, [], [], A7, c7, by omega, START.out⟩
      case round =>
        obtain ⟨i, N, E, A, c, hij, hin⟩ := hrel
        have HIJ := Lib.hid hij
        have hpw := hin.pool
        have c18 : wr.cell? ⟨p, 18, none⟩ = some (.bool false) := (hpw.blk.cell 18).trans (by show some (Value.bool x.stopped) = _; rw [hst])
        have c17 : wr.cell? ⟨p, 17, none⟩ = some (.int .u64 x.next) := hpw.blk.cell 17
        have c13 : wr.cell? ⟨p, 13, none⟩ = some (.map (some m)) := hpw.blk.cell 13
        have c15 : wr.cell? ⟨p, 15, none⟩ = some (.int .i64 x.wanted) := hpw.blk.cell 15
        have hml := fun (k : Nat) ty => (hpw.map.drewN k).run_len imcM ty
        have hlenN : (L ++ N).length = L.length + i := by rw [List.length_append, hin.n]
        rw [hlenN] at hml
        have HIN := Lib.hid hin
        obtain ⟨M, hM⟩ : ∃ M, M = L.length + i := ⟨_, rfl⟩
        rw [← hM] at hml
        have HM := Lib.hid hM
        have hv7 := hin.v
        subst hv7
        clear hij hin hpw hlenN hM
        by_cases hiJ : i < J
        · have hJJ := HJ.out
          have hnext : x.next ≤ now := by
            by_cases hh : x.next ≤ now
            · exact hh
            · rw [if_neg hh] at hJJ; omega
          rw [if_pos hnext] at hJJ
          have hlt : (M : Int) < x.wanted := by have := HM.out; omega
          have HJJ := Lib.hid hJJ
          clear hJJ
          have d5 : wr.cell? ⟨p, 5, none⟩ = some (.int .i64 x.st) := HIN.out.pool.blk.cell 5
          have d6 : wr.cell? ⟨p, 6, none⟩ = some (.string x.ks) := HIN.out.pool.blk.cell 6
          have d7 : wr.cell? ⟨p, 7, none⟩ = some (.slice none 0 0) := HIN.out.pool.blk.cell 7
          have d8 : wr.cell? ⟨p, 8, none⟩ = some (.slice none 0 0) := HIN.out.pool.blk.cell 8
          have d9 : wr.cell? ⟨p, 9, none⟩ = some (.int .u64 x.hs) := HIN.out.pool.blk.cell 9
          have d10 : wr.cell? ⟨p, 10, none⟩ = some (.int .u64 x.idle) := HIN.out.pool.blk.cell 10
          have d11 : wr.cell? ⟨p, 11, none⟩ = some (.int .u64 x.beat) := HIN.out.pool.blk.cell 11
          have d12 : wr.cell? ⟨p, 12, none⟩ = some (.int .i64 x.orph) := HIN.out.pool.blk.cell 12
          obtain ⟨op, hopn⟩ : ∃ op, op = x.opened + (i : Int) := ⟨_, rfl⟩
          have HOPN := Lib.hid hopn
          have hopb : 0 ≤ op ∧ op ≤ 200000 := by have := HJJ.out; have := HIJ.out; omega
          go_wp2_with fail
          go_quiet (fail)
          have hpd := HIN.out.pool.keptN ((Kept.refl noBlock wr).drewN nq)
          have HPD := Lib.hid hpd
          have HNEW := Lib.hid (cnNew_nil (w := wr.drewN nq) x.st s1 s2 x.ks hks x.hs x.idle x.beat hhs x.orph hor now hnow hpd.mxl hpd.tab)
          unfold cfgC at HNEW
          clear hpd hopn hlt hnext
          go_wp2_with fail
          clear d5 d6 d7 d8 d9 d10 d11 d12 c13 c15 c17 c18 hml
          go_at_call 20
          refine HNEW.out.mono ?_
          rintro e w3 ⟨lo, hi, c9, A9, n9, k9, rfl, hc3, hlo, hn9, hs3, hk3⟩
          subst hn9
          have HC3 := Lib.hid hc3
          have HLO := Lib.hid (show wr.heap.size ≤ lo from hlo)
          have HK3 := Lib.hid (show Kept noBlock wr w3 from ((Kept.refl noBlock wr).drewN nq).trans hk3 fun _ _ e => e)
          have HP3 := Lib.hid ((HPD.out.keptN hk3).keptN (Kept.refl noBlock w3).drew)
          obtain ⟨es, ck, hupd, hm4⟩ := HP3.out.map.run_update i64K imcM intU op ⟨lo, hi, c9, x.begun now⟩
          unfold cnV at hupd
          have HM4 := Lib.hid hm4
          have c13 : w3.drew.cell? ⟨p, 13, none⟩ = some (.map (some m)) := HP3.out.blk.cell 13
          have c14 : w3.drew.cell? ⟨p, 14, none⟩ = some (.int .i64 op) := by rw [HOPN.out]; exact HP3.out.blk.cell 14
          clear hc3 hlo hs3 hk3 hm4
          go_wp2_with fail
          refine wp_region_sch (fun W => W.cell? ⟨p, 13, none⟩ = some (.map (some m)) ∧ W.cell? ⟨p, 14, none⟩ = some (.int .i64 op)) (.take 0 (.take 1 (.take 2 (.take 3 (.take 4 (.take 5 (.take 6 (.take 7 (.take 8 (.one 9 .nil)))))))))) (by kernel_rfl) (by kernel_rfl) (by kernel_rfl) ⟨c13, c14⟩ ?_
          repeat (first
            | (refine sch_takeE rfl rfl ?_
               apply Exists.intro
               refine ⟨fun w' hS => ?_, fun K hK => ?_⟩
               · (obtain ⟨q13, q14⟩ := hS
                  unfold takesAt; go_simp; rfl)
               go_simp
               refine hK _ ?_
               clear hK K))
          obtain ⟨hx1, hx2, hx3⟩ := HP3.out.map.rules es ck
          have HB4 := Lib.hid (HP3.out.blk.setBlock HP3.out.ne (.map es ck))
          have HK34 := Lib.hid (show Kept (fun k => k = m) w3 (setBlock w3.drew m (.map es ck)) from ((Kept.refl (fun k => k = m) w3).drew).setBlock (m := m) (fun _ => rfl) _)
          have hmw : m < w.heap.size := H.out.map.lt
          have hpw : p < w.heap.size := H.out.blk.lt
          have HR4 : Hid ((setBlock w3.drew m (.map es ck)).ownsRow w.heap.size 51 21 (.slice A i c) i E.flatten) := Lib.hid (own_keptB (own_keptB HIN.out.row HK3.out fun _ _ e => e) HK34.out fun k hk e => by
            have := (own_type HIN.out.row hk).1
            have e : k = m := e
            omega)
          have e14 : (setBlock w3.drew m (.map es ck)).cell? ⟨p, 14, none⟩ = some (.int .i64 op) := (hx1 _).trans c14
          refine sch_doK rfl rfl (fun K hK => ?_)
          go_simp
          refine hK _ _ ⟨(hx1 _).trans c13, e14⟩ ?_
          clear hK K
          refine sch_nil (NoPanic.normal ?_)
          generalize setBlock w3.drew m (.map es ck) = w4 at *
          clear hx1 hx2 hx3 hupd c13 c14
          have hz4 : w.heap.size ≤ w4.heap.size := Nat.le_trans HIN.out.keep.size (Nat.le_trans HK3.out.size HK34.out.size)
          go_wp2_with (first
            | (refine wpList_rd rfl (d := 89) rfl (.agg #[.int .i64 op, .int .i64 1, .slice A9 9 k9, .int .i64 0, .int .u8 0, .int .u8 0, .int .i16 0, .int .u8 0, .int .u32 0, .slice none 0 0, .string noStr, .string noStr, .slice none 0 0, .int .u32 0, .string noStr, .string noStr, .string noStr, .string noStr, .slice none 0 0, .int .i64 0, .slice none 0 0]) (by kernel_rfl) ?_)
            | (at_builtin; go_must (refine wpList_append_sl _ evT rfl (.tmp 83) (.tmp 90) rfl w.heap.size _ i E.flatten rfl (World.ownsRow.alloc HR4.out _) _ 1 (evC op 1 (.slice A9 9 k9) 0 (.slice none 0 0)) rfl (Sl.made_at (sz := 21) (n := 1) (Blk.new w4 51 #[.int .i64 op, .int .i64 1, .slice A9 9 k9, .int .i64 0, .int .u8 0, .int .u8 0, .int .i16 0, .int .u8 0, .int .u32 0, .slice none 0 0, .string noStr, .string noStr, .slice none 0 0, .int .u32 0, .string noStr, .string noStr, .string noStr, .string noStr, .slice none 0 0, .int .i64 0, .slice none 0 0]) _ rfl rfl (by decide)) evC_one ?c1 ?c2 ?_)))
          case c1 => have := HIJ.out; have := HJJ.out; omega
          case c2 => rw [sz_alloc]; omega
          intro v' w6 hap
          have hown : ∀ k, (Value.slice A i c).ownBlock = some k → w.heap.size ≤ k ∧ k < wr.heap.size := fun k hk => ⟨(own_type HIN.out.row hk).1, own_lt HIN.out.row hk⟩
          have hka : Kept noBlock w4 (w4.alloc (.cells #[.int .i64 op, .int .i64 1, .slice A9 9 k9, .int .i64 0, .int .u8 0, .int .u8 0, .int .i16 0, .int .u8 0, .int .u32 0, .slice none 0 0, .string noStr, .string noStr, .slice none 0 0, .int .u32 0, .string noStr, .string noStr, .string noStr, .string noStr, .slice none 0 0, .int .i64 0, .slice none 0 0] 51)) := (Kept.refl noBlock w4).alloc _
          have hb6 := (HB4.out.kept hka (fun e => e)).kept hap.kept (fun e => by have := (hown _ e).1; omega)
          have hm6 := (HM4.out.kept hka (fun e => e)).kept hap.kept (fun e => by have := (hown _ e).1; omega)
          have c14 : w6.cell? ⟨p, 14, none⟩ = some (.int .i64 op) := by rw [HOPN.out]; exact hb6.cell 14
          have f14 := hb6.frozen 14
          have hkp : Kept (poolS p m L) w (w4.alloc (.cells #[.int .i64 op, .int .i64 1, .slice A9 9 k9, .int .i64 0, .int .u8 0, .int .u8 0, .int .i16 0, .int .u8 0, .int .u32 0, .slice none 0 0, .string noStr, .string noStr, .slice none 0 0, .int .u32 0, .string noStr, .string noStr, .string noStr, .string noStr, .slice none 0 0, .int .i64 0, .slice none 0 0] 51)) := (((HIN.out.keep.trans HK3.out.of_none fun _ _ e => e).trans (HK34.out.mono (T := poolS p m L) fun k _ e => .inr (.inl e)) fun _ _ e => e).alloc _)
          have HKF := Lib.hid ((hap.below (World.ownsRow.alloc HR4.out (.cells #[.int .i64 op, .int .i64 1, .slice A9 9 k9, .int .i64 0, .int .u8 0, .int .u8 0, .int .i16 0, .int .u8 0, .int .u32 0, .slice none 0 0, .string noStr, .string noStr, .slice none 0 0, .int .u32 0, .string noStr, .string noStr, .string noStr, .string noStr, .slice none 0 0, .int .i64 0, .slice none 0 0] 51)) hkp (Nat.le_refl _)).setCell (p := ⟨p, 14, none⟩) (fun _ => .inl rfl) (.int .i64 (op + 1)))
          have HKL : Hid (Kept (fun k => k = p ∨ k = m ∨ (Value.slice A i c).ownBlock = some k) w3 (w6.setCell ⟨p, 14, none⟩ (.int .i64 (op + 1)))) := Lib.hid ((((HK34.out.mono (T := fun k => k = p ∨ k = m ∨ (Value.slice A i c).ownBlock = some k) fun k _ e => .inr (.inl e)).trans hka.of_none fun _ _ e => e).trans (hap.kept.mono (T := fun k => k = p ∨ k = m ∨ (Value.slice A i c).ownBlock = some k) fun k _ e => .inr (.inr e)) fun _ _ e => e).setCell (p := ⟨p, 14, none⟩) (fun _ => .inl rfl) (.int .i64 (op + 1)))
          have HBF : Hid (Blk (w6.setCell ⟨p, 14, none⟩ (.int .i64 (op + 1))) p 78 (({ x with opened := x.opened + ((i + 1 : Nat) : Int) } : XP).C m)) := Lib.hid (by
            have e : x.opened + ((i + 1 : Nat) : Int) = op + 1 := by have := HOPN.out; omega
            rw [e]
            exact hb6.set_ 14 (.int .i64 (op + 1)))
          have hpm := HP3.out.ne
          have HMF : Hid (CMap (w6.setCell ⟨p, 14, none⟩ (.int .i64 (op + 1))) m ((L ++ N) ++ [(op, ⟨lo, hi, c9, x.begun now⟩)])) := Lib.hid (by
            have h1 := hm6.setCell (p := ⟨p, 14, none⟩) (fun e => hpm e.symm) (.int .i64 (op + 1))
            rw [aput_none (fun q hq e => by have := (HP3.out.rng q hq).2; have h3 := HOPN.out; have h2 : q.1 < x.opened + (i : Int) := this; omega)] at h1
            exact h1)
          have hrow := hap.own
          have hat := hap.at_
          obtain ⟨A6, c6, rfl, -, -⟩ := (Sl.of_own hrow).shape
          have HROW : Hid ((w6.setCell ⟨p, 14, none⟩ (.int .i64 (op + 1))).ownsRow w.heap.size 51 21 (.slice A6 (i + 1) c6) (i + 1) (E.flatten ++ evC op 1 (.slice A9 9 k9) 0 (.slice none 0 0))) := Lib.hid (own_far hrow hb6 (by decide) 14 _)
          have HAT : Hid (∀ k, (Value.slice A6 (i + 1) c6).ownBlock = some k → ((Value.slice A i c).ownBlock = some k ∨ w4.heap.size ≤ k)) := Lib.hid fun k hk => by
            rcases hat with h1 | h1
            · exact .inl (by rw [← h1]; exact hk)
            · have h2 := Option.some.inj (hk.symm.trans h1)
              rw [sz_alloc] at h2
              exact .inr (by omega)
          have HOWN := Lib.hid hown
          have HZ34 := Lib.hid HK34.out.size
          clear hap hown hka hb6 hm6 hkp hrow hat e14
          go_wp2_with fail
          go_roundg (J - (i + 1))
          case measure => have := HIJ.out; omega
          case rel =>
            have hIJ := HIJ.out
            have hlen : (L ++ N).length < 1000000 := by rw [List.length_append, HIN.out.n]; have := HJJ.out; omega
            have hpool := PoolAt.add (x := { x with opened := x.opened + (i : Int) }) (x' := { x with opened := x.opened + ((i + 1 : Nat) : Int) }) HIN.out.pool HK3.out HC3.out HLO.out HKL.out (fun k e => by
              rcases e with e | e | e
              · exact .inl e
              · exact .inr (.inl e)
              · have h1 := HOWN.out k e
                refine .inr (.inr ⟨fun q hq e2 => ?_, fun e2 => by have := HLO.out; omega, ⟨by have := H.out.glp.1; omega, by have := H.out.glp.2; omega⟩⟩)
                rcases List.mem_append.1 hq with hq | hq
                · have := H.out.hiLt hq; omega
                · exact HIN.out.far k e q hq e2)
              (by show x.opened + ((i + 1 : Nat) : Int) = x.opened + (i : Int) + 1; omega) HBF.out (by rw [← HOPN.out]; exact HMF.out) (by show 0 ≤ x.opened + (i : Int); omega) (by show x.opened + (i : Int) < 1000000; have := hopb.2; have := HOPN.out; omega) hlen
            refine ⟨i + 1, N ++ [(op, ⟨lo, hi, c9, x.begun now⟩)], E ++ [evC op 1 (.slice A9 9 k9) 0 (.slice none 0 0)], A6, c6, by omega, ?_⟩
            have hN := HIN.out.n
            have hE := HIN.out.ok.1
            refine ⟨rfl, by rw [List.flatten_append]; simpa using HROW.out, (by
              have e : ({ x with opened := x.opened + (i : Int) } : XP).opened = op := HOPN.out.symm
              rw [e] at hpool
              rw [← List.append_assoc]
              exact hpool), by rw [List.length_append, hN]; rfl, ⟨by rw [List.length_append, List.length_append, hE]; rfl, fun k r hr => ?_, fun k l hl => ?_⟩, HKF.out, fun k hk r hr e2 => ?_, fun r hr => ?_⟩
            · by_cases hk : k < N.length
              · rw [List.getElem?_append_left hk] at hr
                exact HIN.out.ok.2.1 k r hr
              · rw [List.getElem?_append_right (by omega)] at hr
                have hk0 : k - N.length = 0 := by
                  have := (List.getElem?_eq_some_iff.1 hr).1
                  simp at this; omega
                rw [hk0] at hr
                obtain rfl : _ = r := by simpa using hr
                exact ⟨by show op = _; have := HOPN.out; omega, rfl⟩
            · by_cases hk : k < E.length
              · rw [List.getElem?_append_left hk] at hl
                exact HIN.out.ok.2.2 k l hl
              · rw [List.getElem?_append_right (by omega)] at hl
                have hk0 : k - E.length = 0 := by
                  have := (List.getElem?_eq_some_iff.1 hl).1
                  simp at this; omega
                rw [hk0] at hl
                obtain rfl : _ = l := by simpa using hl
                exact ⟨A9, k9, by rw [show op = x.opened + (k : Int) by have := HOPN.out; omega]⟩
            · have hz3 := HK3.out.size
              have hhi := HC3.out.rc.2.2
              have hz34 := HZ34.out
              rcases List.mem_append.1 hr with hr | hr
              · rcases HAT.out k hk with h1 | h1
                · exact HIN.out.far k h1 r hr e2
                · have := HIN.out.pool.hiLt (List.mem_append_right L hr); omega
              · obtain rfl : r = _ := by simpa using hr
                have e2 : lo ≤ k ∧ k < hi := e2
                rcases HAT.out k hk with h1 | h1
                · have := (HOWN.out k h1).2; have := HLO.out; omega
                · omega
            · rcases List.mem_append.1 hr with hr | hr
              · exact HIN.out.up r hr
              · obtain rfl : r = _ := by simpa using hr
                exact Nat.le_trans HIN.out.keep.size HLO.out
        · have hstop : ¬ (x.next ≤ now ∧ (M : Int) < x.wanted) := by
            have hJJ := HJ.out
            rintro ⟨h1, h2⟩
            rw [if_pos h1] at hJJ
            have := HM.out; omega
          obtain rfl : i = J := by have := HIJ.out; omega
          have FIN : Hid (TickPost w p m x L now i (.returned (.slice A i c)) wr) := Lib.hid ⟨A, c, N, E, rfl, HIN.out.n, HIN.out.ok, HIN.out.pool, (own_slkB HIN.out.row).any fun g _ _ e => ⟨e.1, HIN.out.far g e.2⟩, HIN.out.keep⟩
          by_cases hnext : x.next ≤ now
          · have hge : decide ((M : Int) < x.wanted) = false := decide_eq_false fun e => hstop ⟨hnext, e⟩
            clear hstop
            go_wp2_with fail
            go_quiet (fail)
            go_wp2
            go_ret
            exact TickPost.drewN FIN.out _
          · have hge : decide ((x.next : Int) ≤ (now : Int)) = false := decide_eq_false fun e => hnext (by omega)
            clear hstop
            go_wp2_with fail
            go_quiet (fail)
            go_wp2
            go_ret
            exact TickPost.drewN FIN.out _

end Go.Proofs.YtfnjoceolcdeoaaGreatDoor

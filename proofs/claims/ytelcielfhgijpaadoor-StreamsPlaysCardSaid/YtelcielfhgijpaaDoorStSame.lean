/- StreamsPlays: the law's same, where streams and the reference's list tell the same. -/
import Derived.Test.YtelcielfhgijpaaDoorStPlaysPure
namespace Go.Proofs.YtelcielfhgijpaaDoor
set_option linter.unusedVariables false
open Go.RowKit

theorem o_int_at {w : World} {ok : Nat → TypeId → Prop} {v : Value} {L : List Int} (h : SlK w ok 1 v L.length (L.map encI)) {i : Nat} {u : Int} (hi : L[i]? = some u) :
    ∃ g off, (∀ kd w', (Instr.indexAt 31 v (.int kd (i : Int))).run Tryd.prog w' = .ok (.pointer (some ⟨g, off, none⟩)) w') ∧ w.cell? ⟨g, off, none⟩ = some (.int .i64 u) := by
  have hlt : i < L.length := (List.getElem?_eq_some_iff.1 hi).1
  obtain ⟨g, off, h1, _, _, h3⟩ := h.run_index intsT2 (i := (i : Int)) (k := i) rfl hlt
  exact ⟨g, off, h1, h3 0 _ (by rw [Nat.mul_one, Nat.add_zero, List.getElem?_map, hi]; rfl)⟩

/-- Streams and the reference's list, which tell the same. -/
structure Twin (w0 w : World) (g m1 m2 : Nat) (s : XS) (v : Value) (L : List XO) : Prop where
  sw : SW w0 w g m1 m2 s
  os : OsAt w v L
  rl : RL s L

section
variable {w0 w w' : World} {g m1 m2 : Nat} {s : XS} {v : Value} {L : List XO}
theorem Twin.quiet (h : Twin w0 w g m1 m2 s v L) (hk : Kept noBlock w w') : Twin w0 w' g m1 m2 s v L := ⟨h.sw.quiet hk, h.os.kept hk, h.rl⟩
theorem Twin.counts (h : Twin w0 w g m1 m2 s v L) :
    Calls Tryd.prog 18 #[.pointer (some ⟨g, 0, none⟩)] w fun e w' => e = .returned (.tuple #[.int .i64 (s.n - L.length), .int .i64 (L.length - L.countP (·.orph)), .int .i64 (L.countP (·.orph))]) ∧ ∃ n, w' = w.drewN n := by
  refine (Counts_at h.sw.at_).mono ?_
  rintro e w' ⟨rfl, n, rfl⟩
  have hc := h.rl.counts
  have hl := List.countP_le_length (p := fun o : XO => o.orph) (l := L)
  refine ⟨?_, n, rfl⟩
  rw [show s.n - (s.asked.length : Int) - (s.orph.length : Int) = s.n - (L.length : Int) by omega, show (s.asked.length : Int) = (L.length : Int) - (L.countP (·.orph) : Int) by omega, hc.2]
theorem Twin.len (h : Twin w0 w g m1 m2 s v L) : (L.length : Int) ≤ s.n := by
  have hc := h.rl.counts
  have hl := List.countP_le_length (p := fun o : XO => o.orph) (l := L)
  have := h.sw.ok.count
  omega
end

set_option maxHeartbeats 2000000 in
set_option maxRecDepth 100000 in
theorem same_at {w0 w : World} {g m1 m2 : Nat} {s : XS} {v : Value} {L : List XO} {n now : Int} (h : Twin w0 w g m1 m2 s v L) (hn : s.n = n) :
    Calls Tryd.prog 17 #[.pointer (some ⟨g, 0, none⟩), sVal n v, .int .u64 now] w fun e w' => e = .returned (.bool true) ∧ Twin w0 w' g m1 m2 s v L ∧ Kept noBlock w w' := by
  obtain ⟨A, c, rfl, -, -⟩ := h.os.shape
  have hn1 := h.sw.ok.n1
  have hn2 := h.sw.ok.n2
  have hln := h.len
  subst hn
  have hk := (Kept.refl noBlock w).alloc (.cells #[.int .i64 s.n, .slice A L.length c] 43)
  have HT := Lib.hid (h.quiet hk)
  have HX := Lib.hid (Blk.new w 43 #[.int .i64 s.n, .slice A L.length c])
  have HK := Lib.hid hk
  have HDE := Lib.hid (h.rl.due (now := now) h.sw.ok)
  have hdl := dueL_length now L
  clear h hk
  have hcl := List.countP_le_length (p := fun o : XO => o.orph) (l := L)
  go_enter Tryd.func17, Tryd.ntmps17
  go_wp2_with fail
  go_at_call 18
  refine HT.out.counts.mono ?_
  rintro e w1 ⟨rfl, nn, rfl⟩
  have hb1 := HX.out.drewN nn
  have HT1 := Lib.hid (HT.out.quiet ((Kept.refl noBlock _).drewN nn))
  have HK1 := Lib.hid (HK.out.drewN nn)
  generalize World.drewN _ nn = W1 at *
  obtain ⟨a0, a1, fx⟩ := sBlk_cells hb1
  have HB1 := Lib.hid hb1
  have HC := Lib.hid (fun wx (hx : OsAt wx (.slice A L.length c) L) => sCounts_at (n := s.n) hx (by omega) (by omega) (by omega))
  clear hb1 HT HX HK
  generalize L.countP (·.orph) = m at *
  go_wp2_with fail
  go_at_call 28
  refine (HC.out _ HT1.out.os).mono ?_
  rintro e w2 ⟨rfl, hk2⟩
  have hb2 := HB1.out.kept hk2 (fun h => h)
  have HT2 := Lib.hid (HT1.out.quiet hk2)
  have HK2 := Lib.hid (HK1.out.trans hk2 (fun _ _ h => h))
  clear a0 a1 fx hk2 HB1 HT1 HK1 HC
  obtain ⟨a0, a1, fx⟩ := sBlk_cells hb2
  have HB2 := Lib.hid hb2
  clear hb2
  have HD2 := Lib.hid (HT2.out.sw.due now)
  rw [HDE.out] at HD2
  go_wp2_with fail
  go_at_call 11
  refine HD2.out.mono ?_
  rintro e w3 ⟨A3, c3, rfl, hs3, -, hk3⟩
  have hb3 := HB2.out.kept hk3 (fun h => h)
  have HT3 := Lib.hid (HT2.out.quiet hk3)
  have HK3 := Lib.hid (HK2.out.trans hk3 (fun _ _ h => h))
  clear a0 a1 fx hk3 HB2 HT2 HK2 HD2
  obtain ⟨a0, a1, fx⟩ := sBlk_cells hb3
  have HB3 := Lib.hid hb3
  have HS3 := Lib.hid hs3
  clear hb3 hs3
  go_wp2_with fail
  go_at_call 29
  refine (sDue_at (n := s.n) (now := now) HT3.out.os (by omega)).mono ?_
  rintro e w4 ⟨A4, c4, rfl, hs4, hk4⟩
  have hb4 := HB3.out.kept hk4 (fun h => h)
  have HT4 := Lib.hid (HT3.out.quiet hk4)
  have HK4 := Lib.hid (HK3.out.trans hk4 (fun _ _ h => h))
  have hs5 := SlK.keptNone HS3.out hk4
  have hs6 : Sl w4 3 1 (.slice A4 ((dueL now L).map (·.id)).length c4) ((dueL now L).map (·.id)).length (((dueL now L).map (·.id)).map encI) := by
    rw [List.length_map, List.map_map]; exact hs4
  have hdl2 : ((dueL now L).map (·.id)).length ≤ L.length := by rw [List.length_map]; exact hdl
  rw [show (dueL now L).length = ((dueL now L).map (·.id)).length by rw [List.length_map]]
  clear a0 a1 fx hk4 HB3 HT3 HK3 HS3 hs4 HDE hdl
  generalize (dueL now L).map (·.id) = D at *
  obtain ⟨a0, a1, fx⟩ := sBlk_cells hb4
  have HB4 := Lib.hid hb4
  have HS5 := Lib.hid hs5
  have HS6 := Lib.hid hs6
  have l5 := fun n => SlK.run_len intsT2 (SlK.drewN hs5 n)
  clear hb4 hs5 hs6
  have hr1 : (s.n - (L.length : Int) != s.n - (L.length : Int)) = false := by simp
  have hr2 : ((L.length : Int) - (m : Int) != (L.length : Int) - (m : Int)) = false := by simp
  have hr3 : ((m : Int) != (m : Int)) = false := by simp
  have hr4 : ((D.length : Int) != (D.length : Int)) = false := by simp
  go_wp2_with fail
  clear hr1 hr2 hr3 hr4
  go_loopg [15] D.length (fun j vi wr => ∃ i n : Nat, i + j = D.length ∧ vi = .int .i64 i ∧ wr = w4.drewN n)
  case atStart => exact ⟨0, 0, by omega, rfl, rfl⟩
  case round =>
    obtain ⟨i, nn2, hij, rfl, rfl⟩ := hrel
    have HIJ := Lib.hid hij
    clear hij
    by_cases hlt : i < D.length
    · obtain ⟨x, hx⟩ : ∃ x, D[i]? = some x := ⟨_, List.getElem?_eq_getElem hlt⟩
      obtain ⟨ga, oa, hia, hca⟩ := o_int_at (SlK.drewN HS5.out nn2) hx
      obtain ⟨gb, ob, hib, hcb⟩ := o_int_at (SlK.drewN HS6.out nn2) hx
      have hne : (x != x) = false := by simp
      have hca4 : w4.cell? ⟨ga, oa, none⟩ = some (.int .i64 x) := hca
      have hcb4 : w4.cell? ⟨gb, ob, none⟩ = some (.int .i64 x) := hcb
      clear hx
      go_wp2
      go_quiet (fail)
      go_wp2
      go_roundg (D.length - (i + 1))
      case measure => have := HIJ.out; omega
      case rel => exact ⟨i + 1, nn2 + nq, by omega, by go_num, rfl⟩
    · have HT5 := Lib.hid (HT4.out.quiet ((Kept.refl noBlock _).drewN nn2))
      have HK5 := Lib.hid (HK4.out.drewN nn2)
      have hb5 := HB4.out.drewN nn2
      generalize w4.drewN nn2 = wz at *
      clear a0 a1 fx l5 HS5 HS6 HT4 HK4 HB4
      obtain ⟨a0, a1, fx⟩ := sBlk_cells hb5
      clear hb5
      have hlo := SlK.run_len osT HT5.out.os
      go_wp2_with fail
      go_loopg [16] L.length (fun j vi wr => ∃ i : Nat, i + j = L.length ∧ vi = .int .i64 i ∧ wr = wz)
      case atStart => exact ⟨0, by omega, rfl, rfl⟩
      case round =>
        obtain ⟨i2, hij2, rfl, rfl⟩ := hrel
        have HIJ2 := Lib.hid hij2
        clear hij2
        by_cases hlt2 : i2 < L.length
        · obtain ⟨o, ho⟩ : ∃ o, L[i2]? = some o := ⟨_, List.getElem?_eq_getElem hlt2⟩
          obtain ⟨ga, oa, hia, -, hca, -, -⟩ := o_at HT5.out.os ho
          have hO := Owed_at HT5.out.sw.at_ o.id
          rw [HT5.out.rl.owed.2 ⟨o, List.mem_of_getElem? ho, rfl⟩] at hO
          have HO := Lib.hid hO
          clear ho hO
          go_wp2_with fail
          go_at_call 19
          refine HO.out.mono ?_
          rintro e w6 ⟨rfl, rfl⟩
          go_wp2
          go_roundg (L.length - (i2 + 1))
          case measure => have := HIJ2.out; omega
          case rel => exact ⟨i2 + 1, by omega, by go_num, rfl⟩
        · go_wp2
          go_ret
          exact ⟨rfl, HT5.out, HK5.out⟩
end Go.Proofs.YtelcielfhgijpaaDoor

/- HostsPlays: the walk. -/
import Derived.Test.YtjkmgpmknadhjaaGreatHoOpen2
import Derived.Test.YtjkmgpmknadhjaaGreatR18G
import Derived.Deep.DeepCutAuto
namespace Go.Proofs.YtjkmgpmknadhjaaGreat
set_option linter.unusedVariables false
open Go.RowKit
open Go.ChangeMaps (setBlock)

theorem h18actsT : SlT Tryz.prog 22 31 (.agg #[.slice none 0 0, .bool false, .string noStr, .bool false]) 4 56 := ⟨by kernel_rfl, by kernel_rfl, rfl, by decide, by decide⟩
/-- A table and its reference, of the same hosts. -/
structure PlayAt (w wr : World) (g bw : Nat) (dc : ByteArray) (rem : Int) (own : Nat → Prop) (A : Option Addr) (n c : Nat) (l : List HV) (S : List Ho) : Prop where
  tab : TabS wr own g dc rem S
  box : Blk wr bw 28 #[.string dc, .int .i64 rem, .slice A n c]
  row : RL wr (fun k => ¬ own k ∧ k ≠ bw) A n c l S
  nb : ¬ own bw
  low : ∀ k, own k → w.heap.size ≤ k
  lob : w.heap.size ≤ bw
  ok : HoOk S 20 20
  nms : ∀ o ∈ S, o.name.size ≤ 9223372036854775807
  kept : Kept noBlock w wr
section
variable {w wr w' : World} {g bw : Nat} {dc : ByteArray} {rem : Int} {own : Nat → Prop} {A : Option Addr} {n c : Nat} {l : List HV} {S : List Ho}
theorem PlayAt.keptN (h : PlayAt w wr g bw dc rem own A n c l S) (hk : Kept noBlock wr w') : PlayAt w w' g bw dc rem own A n c l S :=
  ⟨h.tab.kept hk fun _ _ e => e, h.box.kept hk (fun e => e), h.row.keptN hk, h.nb, h.low, h.lob, h.ok, h.nms, h.kept.trans hk fun _ _ e => e⟩
/-- The reference's new hosts are laid into its struct. -/
theorem PlayAt.stored {w5 w7 : World} {own' : Nat → Prop} {A0 : Option Addr} {n0 c0 : Nat} {okr : Nat → Prop} (hT : TabS w5 own' g dc rem S) (hb : Blk w7 bw 28 #[.string dc, .int .i64 rem, .slice A0 n0 c0]) (hr : RL w7 okr A n c l S) (hk : Kept noBlock w5 w7) (hk5 : Kept noBlock w w5) (hnb : ¬ own' bw) (hlow : ∀ k, own' k → w.heap.size ≤ k)
    (hlob : w.heap.size ≤ bw) (hok : HoOk S 20 20) (hnm : ∀ o ∈ S, o.name.size ≤ 9223372036854775807) (hokr : ∀ k, okr k → ¬ own' k ∧ k ≠ bw) :
    PlayAt w (((w7.setCell ⟨bw, 0, none⟩ (.string dc)).setCell ⟨bw, 1, none⟩ (.int .i64 rem)).setCell ⟨bw, 2, none⟩ (.slice A n c)) g bw dc rem own' A n c l S := by
  have hkx : Kept (fun k => k = bw) w7 (((w7.setCell ⟨bw, 0, none⟩ (.string dc)).setCell ⟨bw, 1, none⟩ (.int .i64 rem)).setCell ⟨bw, 2, none⟩ (.slice A n c)) := (((Kept.refl (fun k => k = bw) w7).setCell (p := ⟨bw, 0, none⟩) (fun _ => rfl) _).setCell (p := ⟨bw, 1, none⟩) (fun _ => rfl) _).setCell (p := ⟨bw, 2, none⟩) (fun _ => rfl) _
  exact ⟨(hT.kept hk fun _ _ e => e).kept hkx fun k e e2 => hnb (e2 ▸ e), ((hb.set_ 0 (.string dc)).set_ 1 (.int .i64 rem)).set_ 2 (.slice A n c), (hr.kept hkx fun k e e2 => (hokr k e).2 e2).wide fun k _ e => hokr k e, hnb, hlow, hlob, hok, hnm, (hk5.trans hk fun _ _ e => e).trans hkx fun k hlt e => absurd hlt (by omega)⟩
end
theorem mark_names {S : List Ho} (h : ∀ o ∈ S, o.name.size ≤ 9223372036854775807) (x : ByteArray) (up : Bool) : ∀ o ∈ (markP S x up).1, o.name.size ≤ 9223372036854775807 := by
  intro o ho
  unfold markP at ho
  cases hg : getS x S with
  | none => rw [hg] at ho; exact h o ho
  | some q =>
    rw [hg] at ho
    simp only [] at ho
    by_cases e : q.up = up
    · rw [if_pos e] at ho; exact h o ho
    · rw [if_neg e] at ho
      obtain ⟨o', ho', rfl⟩ := List.mem_map.1 ho
      split
      · exact h o' ho'
      · exact h o' ho'
theorem ref_names {V : View} {l : List Ho} (h : ∀ o ∈ l, o.name.size ≤ 9223372036854775807) : ∀ o ∈ refNow V l, o.name.size ≤ 9223372036854775807 := fun o ho => by
  obtain ⟨a, ha, rfl, -⟩ := refNow_mem ho
  exact h a ha
theorem once2 {G : Prop} {wq : World} (h : ∃ T : World → Prop, ((∀ W, Kept noBlock wq W → T W) → G) ∧ ∀ W, Kept noBlock wq W → T W) : G := by
  obtain ⟨T, h1, h2⟩ := h
  exact h1 h2
/-- What the statement leaves that calls the reference's Refresh. -/
def RefCut (w5 : World) (S : List Ho) (hs1 : List HV) (dc : ByteArray) (rem : Int) (own : Nat → Prop) (bw : Nat) (s20 s21 s22 : Value) (wx : World) : Prop :=
  ∃ (b20 : Nat) (A' : Option Addr) (k' c' : Nat) (T' : List HV) (Aa : Option Addr) (na ca : Nat) (Ag : Option Addr) (ng cg : Nat), s20 = .pointer (some ⟨b20, 0, none⟩) ∧ s21 = .slice Aa na ca ∧ s22 = .slice Ag ng cg ∧ Blk wx b20 28 #[.string dc, .int .i64 rem, .slice A' k' c'] ∧
    RL wx (fun k => w5.heap.size ≤ k) A' k' c' T' (refNow (viewS S) (hs1.map HV.abs)) ∧ SlK wx (fun k _ => w5.heap.size ≤ k) 1 (.slice Aa na ca) na ((addedP (viewS S) (refNow (viewS S) (hs1.map HV.abs))).map Value.string) ∧
    SlK wx (fun k _ => w5.heap.size ≤ k) 1 (.slice Ag ng cg) ng ((goneP S (refNow (viewS S) (hs1.map HV.abs))).map Value.string) ∧ Kept noBlock w5 wx
set_option maxHeartbeats 16000000 in
set_option maxRecDepth 100000 in
theorem Plays18_walk (dc : ByteArray) (rem : Int) (A : Option Addr) (n c : Nat) (nm : ByteArray) (l : List AV) (w : World) (hl : l.length = n) (hs : Lo w w.heap.size 4 (.slice A n c) n (l.flatMap avC)) (ht : ∀ x ∈ l, ActIn w x) :
    Calls Tryz.prog 3 #[.string dc, .int .i64 rem, .slice A n c, .string nm] w fun e w' => e = .returned (.bool true) ∧ Kept noBlock w w' := by
  have HS := Lib.hid hs
  have HT := Lib.hid ht
  have HL := Lib.hid hl
  have hnm : n ≤ 9223372036854775807 := by obtain ⟨_, _, hv, h1, h2⟩ := hs.shape; cases hv; unfold maxLen at h2; omega
  clear hs ht hl
  go_enter Tryz.func3, Tryz.ntmps3
  go_wp2_with fail
  go_at_call 4
  refine (hoaw_at _).mono ?_
  rintro e w1 ⟨rfl, hk1⟩
  have HK1 := Lib.hid hk1
  clear hk1
  go_wp2_with fail
  go_at_call 5
  refine (hNew_tab dc rem w1).mono ?_
  rintro e w2 ⟨g, own, rfl, hT2, ho2, hk2⟩
  have ST : Hid (PlayAt w (w2.alloc (.cells #[.string dc, .int .i64 rem, .slice none 0 0] 28)) g w2.heap.size dc rem own none 0 0 [] []) := Lib.hid
    ⟨hT2.kept ((Kept.refl noBlock w2).alloc _) fun _ _ e => e, Blk.new _ _ _, ⟨rfl, rfl, SlK.nil _ _ _, fun x hx => absurd hx List.not_mem_nil⟩, fun e => Nat.lt_irrefl _ (ho2 _ e).2, fun k h => Nat.le_trans HK1.out.size (ho2 k h).1, Nat.le_trans HK1.out.size hk2.size, ⟨.nil, by decide, by decide, by decide, by decide⟩, by simp, (HK1.out.trans hk2 fun _ _ e => e).alloc _⟩
  clear hT2 ho2 hk2 HK1
  go_wp2_with fail
  generalize w2.heap.size = bw at *
  generalize w2.alloc (.cells #[.string dc, .int .i64 rem, .slice none 0 0] 28) = w3 at *
  go_loopg [12] n (fun j vi wr => ∃ (i : Nat) (own : Nat → Prop) (A6 : Option Addr) (n6 c6 : Nat) (T : List HV) (S : List Ho), i + j = n ∧ vi = .int .i64 i ∧ PlayAt w wr g bw dc rem own A6 n6 c6 T S)
  case atStart => exact ⟨0, own, none, 0, 0, [], [], by omega, rfl, ST.out⟩
  case round =>
    obtain ⟨i, own, A6, n6, c6, T, S, hij, rfl, hP⟩ := hrel
    have HIJ := Lib.hid hij
    have HP := Lib.hid hP
    by_cases hi : i < n
    · by_cases h12 : i < 12
      · obtain ⟨a, ha⟩ : ∃ a, l[i]? = some a := ⟨_, List.getElem?_eq_getElem (by have := HL.out; omega)⟩
        obtain ⟨ga, oa, hidx, y0, y1, y2, y3⟩ : ∃ ga oa, (∀ kd w', (Instr.indexAt 22 (.slice A n c) (.int kd (i : Int))).run Tryz.prog w' = .ok (.pointer (some ⟨ga, oa, none⟩)) w') ∧
            wr.cell? ⟨ga, oa, none⟩ = some (.slice a.ha a.hn a.hc) ∧ wr.cell? ⟨ga, oa + 1, none⟩ = some (.bool a.mark) ∧ wr.cell? ⟨ga, oa + 2, none⟩ = some (.string a.name) ∧ wr.cell? ⟨ga, oa + 3, none⟩ = some (.bool a.up) := by
          obtain ⟨gr, off, h1, _, _, h3⟩ := (SlK.keptNone HS.out hP.kept).run_index h18actsT (i := (i : Int)) (k := i) rfl hi
          refine ⟨gr, off, h1, h3 0 _ ?_, h3 1 _ ?_, h3 2 _ ?_, h3 3 _ ?_⟩ <;> exact (flat_get (k := 4) (fun _ => rfl) l i _ a ha (by decide)).trans rfl
        obtain ⟨at1, at2, at3⟩ := HT.out a (List.mem_of_getElem? ha)
        obtain ⟨ha1, ha2, ha3, hs1, mk, an, au⟩ := a
        simp only [] at y0 y1 y2 y3 at1 at2 at3
        have HA1 := Lib.hid at1
        have HA2 := Lib.hid at2
        have HA3 := Lib.hid at3
        have hb1 : Blk (wr.alloc (.cells #[.slice ha1 ha2 ha3, .bool mk, .string an, .bool au] 31)) wr.heap.size 31 #[.slice ha1 ha2 ha3, .bool mk, .string an, .bool au] := Blk.new _ _ _
        have hk1 : Kept noBlock wr (wr.alloc (.cells #[.slice ha1 ha2 ha3, .bool mk, .string an, .bool au] 31)) := (Kept.refl _ _).alloc _
        have HP1 := Lib.hid (hP.keptN hk1)
        have HB1 := Lib.hid hb1
        have HOB : Hid (¬ own wr.heap.size) := Lib.hid fun e => Nat.lt_irrefl _ (hP.tab.lt _ e)
        have z0 := hb1.cell 0
        have z1 := hb1.cell 1
        have z2 := hb1.cell 2
        have z3 := hb1.cell 3
        simp only [List.getElem?_toArray, List.getElem?_cons_succ, List.getElem?_cons_zero] at z0 z1 z2 z3
        clear hij hP ha at1 at2 at3 hb1 hk1 HP
        go_wp2_with fail
        generalize wr.heap.size = ba at *
        generalize wr.alloc (.cells #[.slice ha1 ha2 ha3, .bool mk, .string an, .bool au] 31) = wa at *
        go_at_call 6
        have HAH := Lib.hid (SlK.keptNone HA2.out HP1.out.kept)
        refine (hcrowd_at HAH.out HA1.out fun x hx => ⟨(HA3.out x hx).1.1, by
          obtain ⟨_, _, hv, h1, h2⟩ := (HA3.out x hx).1.2.shape
          cases hv; unfold maxLen at h2; omega⟩).mono ?_
        rintro e w4 ⟨rfl, rfl⟩
        cases hcr : crowdB hs1 with
        | false =>
          clear hcr
          go_wp2_with fail
          go_ret
          exact ⟨rfl, HP1.out.kept⟩
        | true =>
          obtain ⟨hc1, hc2⟩ := crowdB_true hcr
          have HC1 : Hid (ha2 ≤ 20) := Lib.hid (by have := HA1.out; omega)
          have HC2 := Lib.hid hc2
          have HSL : Hid (S.length ≤ 20) := Lib.hid HP1.out.ok.len
          clear hcr hc1 hc2
          go_upto_if 55 with (fail)
          go_cut [15] (fun s15 wx => ∃ (own' : Nat → Prop) (A' : Option Addr) (n' c' : Nat) (T' : List HV) (S' : List Ho), PlayAt w wx g bw dc rem own' A' n' c' T' S')
          case first =>
            cases mk with
            | true =>
              go_wp2_with fail
              go_at_call 7
              refine (hMark_at HP1.out.tab an au).mono ?_
              rintro e w5 ⟨rfl, hT5, hk5⟩
              have hbx5 := HP1.out.box.kept hk5 HP1.out.nb
              have hr5 := HP1.out.row.kept hk5 fun k e => e.1
              have hk05 := HP1.out.kept.grew hk5 HP1.out.low
              have ha5 := HB1.out.kept hk5 HOB.out
              have p0 := hbx5.cell 0
              have p1 := hbx5.cell 1
              have p2 := hbx5.cell 2
              have q2 := ha5.cell 2
              have q3 := ha5.cell 3
              simp only [List.getElem?_toArray, List.getElem?_cons_succ, List.getElem?_cons_zero] at p0 p1 p2 q2 q3
              have HM := R18Mark_at dc rem hr5 HP1.out.ok.ris (Nat.le_trans HP1.out.ok.len (by decide)) an au
              have HT5 := Lib.hid hT5
              have HBX := Lib.hid hbx5
              have HK05 := Lib.hid hk05
              have HOK := Lib.hid (HP1.out.ok.mark an au)
              have HNS := Lib.hid (mark_names HP1.out.nms an au)
              generalize (markP S an au).1 = S' at *
              generalize (markP S an au).2 = bv at *
              have hbv : (bv != bv) = false := by cases bv <;> rfl
              clear hT5 hk5 hbx5 hr5 hk05 ha5 z0 z1 z2 z3 y0 y1 y2 y3
              go_wp2_with fail
              refine HM.mono ?_
              rintro e w6 ⟨A', n', c', T', rfl, hr6, hk6⟩
              clear HM
              have hb16 : Blk (w6.alloc (.cells #[.string dc, .int .i64 rem, .slice A' n' c'] 28)) w6.heap.size 28 #[.string dc, .int .i64 rem, .slice A' n' c'] := Blk.new _ _ _
              have hk7 : Kept noBlock w5 (w6.alloc (.cells #[.string dc, .int .i64 rem, .slice A' n' c'] 28)) := hk6.alloc _
              have hbw7 := HBX.out.kept hk7 fun e => e
              have s0 := hb16.cell 0
              have s1 := hb16.cell 1
              have s2 := hb16.cell 2
              have r0 := hbw7.cell 0
              have r1 := hbw7.cell 1
              have r2 := hbw7.cell 2
              have f0 := hbw7.frozen 0
              have f1 := hbw7.frozen 1
              have f2 := hbw7.frozen 2
              simp only [List.getElem?_toArray, List.getElem?_cons_succ, List.getElem?_cons_zero] at s0 s1 s2 r0 r1 r2
              have HR7 := Lib.hid (hr6.keptN ((Kept.refl noBlock w6).alloc (.cells #[.string dc, .int .i64 rem, .slice A' n' c'] 28)))
              have HK7 := Lib.hid hk7
              have HBW7 := Lib.hid hbw7
              clear hr6 hk6 hb16 hk7 hbw7 p0 p1 p2 q2 q3
              go_wp2_with fail
              generalize w6.alloc (.cells #[.string dc, .int .i64 rem, .slice A' n' c'] 28) = w7 at *
              go_meet
              have FIN := PlayAt.stored (own' := own) (w5 := w5) HT5.out HBW7.out HR7.out HK7.out HK05.out HP1.out.nb HP1.out.low HP1.out.lob HOK.out HNS.out (fun k e => e.elim id fun h => ⟨fun e2 => by have := HT5.out.lt k e2; omega, fun e2 => by have := HBX.out.lt; omega⟩)
              exact ⟨own, A', n', c', T', S', FIN⟩
            | false =>
              go_wp2_with fail
              go_at_call 9
              refine (hRefresh_tab (l := hs1) HP1.out.tab (Nat.le_trans HP1.out.ok.len (by decide)) HAH.out.lo HA1.out (by have := HC1.out; omega) fun x hx => ⟨by have := HC2.out x hx; omega, (SlK.keptNone (HA3.out x hx).1.2 HP1.out.kept).lo⟩).mono ?_
              rintro e w5 ⟨Ax, nx, cx, Ay, ny, cy, rfl, hnx, hny, hsx, hsy, hT5, hk5⟩
              have hbx5 := HP1.out.box.kept hk5 HP1.out.nb
              have hr5 := (HP1.out.row.wide (ok' := fun k => (¬ own k ∧ k ≠ bw) ∧ k < w4.heap.size) fun k hk e => ⟨e, hk⟩).kept hk5 fun k e => e.1.1
              have hk05 := HP1.out.kept.grew hk5 HP1.out.low
              have ha5 := HB1.out.kept hk5 HOB.out
              have p0 := hbx5.cell 0
              have p1 := hbx5.cell 1
              have p2 := hbx5.cell 2
              have q0 := ha5.cell 0
              simp only [List.getElem?_toArray, List.getElem?_cons_succ, List.getElem?_cons_zero] at p0 p1 p2 q0
              have hah5 : Lo w5 w5.heap.size 5 (.slice ha1 ha2 ha3) ha2 (hs1.flatMap hvC) := (SlK.keptNone HA2.out hk05).lo
              have HHW : Hid (∀ W, Kept noBlock w5 W → Calls Tryz.prog 11 #[.slice ha1 ha2 ha3] W fun e w' => ∃ A' c' l', e = .returned (.slice A' ha2 c') ∧ RL w' (fun k => W.heap.size ≤ k) A' ha2 c' l' (hs1.map HV.abs) ∧ Kept noBlock W w') := Lib.hid fun W hW => hof_at (SlK.keptNone hah5 hW) HA1.out (by have := HC1.out; omega) fun x hx => ⟨by have := HC2.out x hx; omega, SlK.keptNone (SlK.keptNone (HA3.out x hx).1.2 hk05) hW⟩
              have HTL : Hid (∀ o ∈ hs1.map HV.abs, o.toks.length ≤ 1000000) := Lib.hid fun o ho => by
                obtain ⟨x, hx, rfl⟩ := List.mem_map.1 ho
                have := HC2.out x hx
                show x.toks.length ≤ _
                omega
              have HT5 := Lib.hid hT5
              have HBX := Lib.hid hbx5
              have HK05 := Lib.hid hk05
              have HR5 := Lib.hid hr5
              have HSX := Lib.hid hsx
              have HSY := Lib.hid hsy
              have HOK : Hid (HoOk (refNow (viewS S) (hs1.map HV.abs)) 20 20) := Lib.hid (refNow_ok (by rw [List.length_map, HA1.out]; exact HC1.out) fun o ho => by
                obtain ⟨x, hx, rfl⟩ := List.mem_map.1 ho
                exact HC2.out x hx)
              have HNL : Hid (∀ o ∈ hs1.map HV.abs, o.name.size ≤ 9223372036854775807) := Lib.hid fun o ho => by
                obtain ⟨x, hx, rfl⟩ := List.mem_map.1 ho
                exact (HA3.out x hx).2
              have HNS := Lib.hid (ref_names (V := viewS S) HNL.out)
              have HNM2 : Hid (∀ o ∈ S ++ hs1.map HV.abs, o.name.size ≤ 9223372036854775807) := Lib.hid fun o ho => (List.mem_append.1 ho).elim (HP1.out.nms o) (HNL.out o)
              clear hT5 hk5 hbx5 hr5 hk05 ha5 z0 z1 z2 z3 y0 y1 y2 y3 hnx hny hsx hsy hah5
              go_upto_region 20 with (fail)
              go_cut [20, 21, 22] (fun s20 s21 s22 wx => RefCut w5 S hs1 dc rem own bw s20 s21 s22 wx)
              case first =>
                refine wp_region_sch (fun w' => Kept noBlock w5 w') (.take 0 (.take 1 (.take 2 (.two 3 (.two 4 (.take 5 (.take 6 (.take 7 (.take 8 (.one 9 (.one 10 (.take 11 (.take 12 .nil)))))))) 9 (.one 4 (.take 5 (.take 6 (.take 7 (.take 8 (.one 10 (.take 11 (.take 12 .nil))))))))) 9 (.one 3 (.one 4 (.take 5 (.take 6 (.take 7 (.take 8 (.one 10 (.take 11 (.take 12 .nil))))))))))))) (by kernel_rfl) (by kernel_rfl) (by kernel_rfl) (Kept.refl _ _).drew ?_
                repeat (first
                  | (refine sch_takeE rfl rfl ?_
                     apply Exists.intro
                     refine ⟨fun w' hS => ?_, fun K hK => ?_⟩
                     · (have r0 := hS.cellOf p0
                        have r1 := hS.cellOf p1
                        have r2 := hS.cellOf p2
                        have r3 := hS.cellOf q0
                        clear hS
                        unfold takesAt; go_simp; rfl)
                     go_simp
                     refine hK _ ?_
                     clear hK K))
                have H0 := Lib.hid ((Kept.refl noBlock w5).drew)
                refine sch_two ?_ ?_
                · refine do_doK rfl rfl (fun K hK => ?_)
                  go_simp
                  go_at_call 11
                  refine (HHW.out _ H0.out).mono ?_
                  rintro e wh ⟨Ah, ch, lh, rfl, hrh, hkh⟩
                  have Hh := Lib.hid (H0.out.trans hkh fun _ _ e => e)
                  have HRH := Lib.hid hrh
                  refine hK _ _ Hh.out ?_
                  clear hK K hrh hkh
                  refine sch_two ?_ ?_
                  · refine do_doK rfl rfl (fun K hK => ?_)
                    go_simp
                    go_at_call 10
                    refine (R18Ref_at dc rem (HR5.out.keptN Hh.out) HRH.out (by have := HP1.out.row.2.1; have := HSL.out; omega) (by have := HC1.out; omega) HTL.out HNM2.out).mono ?_
                    rintro e wf ⟨A', k', c', T', Aa, na, ca, Ag, ng, cg, rfl, hrf, hsa, hsg, hkf⟩
                    have Hf := Lib.hid (Hh.out.trans hkf fun _ _ e => e)
                    have HRF := Lib.hid (hrf.wide (ok' := fun k => w5.heap.size ≤ k) fun k _ e => Nat.le_trans Hh.out.size e)
                    have HSA := Lib.hid (hsa.any (ok' := fun k _ => w5.heap.size ≤ k) fun k _ _ e => Nat.le_trans Hh.out.size e.1)
                    have HSG := Lib.hid (hsg.any (ok' := fun k _ => w5.heap.size ≤ k) fun k _ _ e => Nat.le_trans Hh.out.size e.1)
                    have HKF := Lib.hid hkf
                    refine hK _ _ Hf.out ?_
                    clear hK K hrf hsa hsg hkf
                    repeat (first
                      | (refine sch_takeE rfl rfl ?_
                         apply Exists.intro
                         refine ⟨fun w' hS => ?_, fun K hK => ?_⟩
                         · (clear hS
                            unfold takesAt; go_simp; rfl)
                         go_simp
                         refine hK _ ?_
                         clear hK K))
                    refine sch_doK rfl rfl (fun K hK => ?_)
                    go_simp
                    have HB9 : Hid (Blk (wf.alloc (.cells #[.string ⟨#[]⟩, .int .i64 0, .slice none 0 0] 28)) wf.heap.size 28 #[.string ⟨#[]⟩, .int .i64 0, .slice none 0 0]) := Lib.hid (Blk.new _ _ _)
                    have H9 : Hid (Kept noBlock w5 (wf.alloc (.cells #[.string ⟨#[]⟩, .int .i64 0, .slice none 0 0] 28))) := Lib.hid (Hf.out.alloc _)
                    refine hK _ _ H9.out ?_
                    clear hK K
                    refine sch_doK rfl rfl (fun K hK => ?_)
                    have e0 := HB9.out.cell 0
                    have e1 := HB9.out.cell 1
                    have e2 := HB9.out.cell 2
                    have g0 := HB9.out.frozen 0
                    have g1 := HB9.out.frozen 1
                    have g2 := HB9.out.frozen 2
                    simp only [List.getElem?_toArray, List.getElem?_cons_succ, List.getElem?_cons_zero] at e0 e1 e2
                    go_simp
                    refine hK _ _ (Hf.out.alloc _) ?_
                    clear hK K e0 e1 e2 g0 g1 g2
                    repeat (first
                      | (refine sch_takeE rfl rfl ?_
                         apply Exists.intro
                         refine ⟨fun w' hS => ?_, fun K hK => ?_⟩
                         · (clear hS
                            unfold takesAt; go_simp; rfl)
                         go_simp
                         refine hK _ ?_
                         clear hK K))
                    refine sch_nil (NoPanic.normal ?_)
                    go_wp2_with fail
                    go_meet
                    exact ⟨wf.heap.size, A', k', c', T', Aa, na, ca, Ag, ng, cg, rfl, rfl, rfl, Blk.new _ _ _, HRF.out.keptN ((Kept.refl noBlock wf).alloc _), HSA.out.alloc _, HSG.out.alloc _, Hf.out.alloc _⟩
                  · refine do_doK rfl rfl (fun K hK => ?_)
                    go_simp
                    have HB9 : Hid (Blk (wh.alloc (.cells #[.string ⟨#[]⟩, .int .i64 0, .slice none 0 0] 28)) wh.heap.size 28 #[.string ⟨#[]⟩, .int .i64 0, .slice none 0 0]) := Lib.hid (Blk.new _ _ _)
                    have H9h : Hid (Kept noBlock w5 (wh.alloc (.cells #[.string ⟨#[]⟩, .int .i64 0, .slice none 0 0] 28))) := Lib.hid (Hh.out.alloc _)
                    refine hK _ _ H9h.out ?_
                    clear hK K
                    have HBL : Hid (w5.heap.size ≤ wh.heap.size) := Lib.hid Hh.out.size
                    refine sch_doK rfl rfl (fun K hK => ?_)
                    go_simp
                    go_at_call 10
                    refine (R18Ref_at dc rem (HR5.out.keptN H9h.out) (HRH.out.keptN ((Kept.refl noBlock wh).alloc _)) (by have := HP1.out.row.2.1; have := HSL.out; omega) (by have := HC1.out; omega) HTL.out HNM2.out).mono ?_
                    rintro e wf ⟨A', k', c', T', Aa, na, ca, Ag, ng, cg, rfl, hrf, hsa, hsg, hkf⟩
                    have Hf := Lib.hid (H9h.out.trans hkf fun _ _ e => e)
                    have HRF := Lib.hid (hrf.wide (ok' := fun k => w5.heap.size ≤ k ∧ k ≠ wh.heap.size) fun k _ e => ⟨Nat.le_trans H9h.out.size e, fun e2 => by have := HB9.out.lt; omega⟩)
                    have HSA := Lib.hid (hsa.any (ok' := fun k _ => w5.heap.size ≤ k ∧ k ≠ wh.heap.size) fun k _ _ e => ⟨Nat.le_trans H9h.out.size e.1, fun e2 => by have := HB9.out.lt; have := e.1; omega⟩)
                    have HSG := Lib.hid (hsg.any (ok' := fun k _ => w5.heap.size ≤ k ∧ k ≠ wh.heap.size) fun k _ _ e => ⟨Nat.le_trans H9h.out.size e.1, fun e2 => by have := HB9.out.lt; have := e.1; omega⟩)
                    have HKF := Lib.hid hkf
                    refine hK _ _ Hf.out ?_
                    clear hK K hrf hsa hsg hkf
                    repeat (first
                      | (refine sch_takeE rfl rfl ?_
                         apply Exists.intro
                         refine ⟨fun w' hS => ?_, fun K hK => ?_⟩
                         · (clear hS
                            unfold takesAt; go_simp; rfl)
                         go_simp
                         refine hK _ ?_
                         clear hK K))
                    refine sch_doK rfl rfl (fun K hK => ?_)
                    have hb0 : Blk wf wh.heap.size 28 #[.string ⟨#[]⟩, .int .i64 0, .slice none 0 0] := HB9.out.kept HKF.out fun e => e
                    have e0 := hb0.cell 0
                    have e1 := hb0.cell 1
                    have e2 := hb0.cell 2
                    have g0 := hb0.frozen 0
                    have g1 := hb0.frozen 1
                    have g2 := hb0.frozen 2
                    simp only [List.getElem?_toArray, List.getElem?_cons_succ, List.getElem?_cons_zero] at e0 e1 e2
                    go_simp
                    have hkb : Kept (fun k => k = wh.heap.size) wf (((wf.setCell ⟨wh.heap.size, 0, none⟩ (.string dc)).setCell ⟨wh.heap.size, 1, none⟩ (.int .i64 rem)).setCell ⟨wh.heap.size, 2, none⟩ (.slice A' k' c')) := (((Kept.refl (fun k => k = wh.heap.size) wf).setCell (p := ⟨wh.heap.size, 0, none⟩) (fun _ => rfl) _).setCell (p := ⟨wh.heap.size, 1, none⟩) (fun _ => rfl) _).setCell (p := ⟨wh.heap.size, 2, none⟩) (fun _ => rfl) _
                    have hbf : Blk (((wf.setCell ⟨wh.heap.size, 0, none⟩ (.string dc)).setCell ⟨wh.heap.size, 1, none⟩ (.int .i64 rem)).setCell ⟨wh.heap.size, 2, none⟩ (.slice A' k' c')) wh.heap.size 28 #[.string dc, .int .i64 rem, .slice A' k' c'] := ((hb0.set_ 0 (.string dc)).set_ 1 (.int .i64 rem)).set_ 2 (.slice A' k' c')
                    have hlow : w5.heap.size ≤ wh.heap.size := HBL.out
                    have hkk := Hf.out.trans hkb fun k hlt e => absurd hlt (by omega)
                    have HKK := Lib.hid hkk
                    have HBF := Lib.hid hbf
                    have HKB := Lib.hid hkb
                    refine hK _ _ hkk ?_
                    clear hK K e0 e1 e2 g0 g1 g2 hb0 hkb hbf hkk
                    repeat (first
                      | (refine sch_takeE rfl rfl ?_
                         apply Exists.intro
                         refine ⟨fun w' hS => ?_, fun K hK => ?_⟩
                         · (clear hS
                            unfold takesAt; go_simp; rfl)
                         go_simp
                         refine hK _ ?_
                         clear hK K))
                    refine sch_nil (NoPanic.normal ?_)
                    go_wp2_with fail
                    go_meet
                    exact ⟨wh.heap.size, A', k', c', T', Aa, na, ca, Ag, ng, cg, rfl, rfl, rfl, HBF.out, (HRF.out.kept HKB.out fun k e e2 => e.2 e2).wide fun k _ e => e.1, (HSA.out.keptAll HKB.out fun k _ e e2 => e.2 e2).any fun k _ _ e => e.1, (HSG.out.keptAll HKB.out fun k _ e e2 => e.2 e2).any fun k _ _ e => e.1, HKK.out⟩
                · refine do_doK rfl rfl (fun K hK => ?_)
                  go_simp
                  have HB9 : Hid (Blk ((w5.alloc (.cells #[.string ⟨#[]⟩, .int .i64 0, .slice none 0 0] 28)).drew) w5.heap.size 28 #[.string ⟨#[]⟩, .int .i64 0, .slice none 0 0]) := Lib.hid (Blk.new _ _ _).drew
                  have H9w : Hid (Kept noBlock w5 ((w5.alloc (.cells #[.string ⟨#[]⟩, .int .i64 0, .slice none 0 0] 28)).drew)) := Lib.hid ((Kept.refl noBlock w5).alloc _).drew
                  refine hK _ _ H9w.out ?_
                  clear hK K
                  have HBL : Hid (w5.heap.size ≤ w5.heap.size) := Lib.hid (Nat.le_refl _)
                  obtain ⟨wz, hwz⟩ : ∃ wz, wz = (w5.alloc (.cells #[.string ⟨#[]⟩, .int .i64 0, .slice none 0 0] 28)).drew := ⟨_, rfl⟩
                  rw [← hwz] at HB9 H9w ⊢
                  clear hwz
                  refine sch_doK rfl rfl (fun K hK => ?_)
                  go_simp
                  go_at_call 11
                  refine (HHW.out _ H9w.out).mono ?_
                  rintro e wh ⟨Ah, ch, lh, rfl, hrh, hkh⟩
                  have Hh := Lib.hid (H9w.out.trans hkh fun _ _ e => e)
                  have HRH := Lib.hid hrh
                  have hkz := Lib.hid hkh
                  refine hK _ _ Hh.out ?_
                  clear hK K hrh hkh
                  refine sch_doK rfl rfl (fun K hK => ?_)
                  go_simp
                  go_at_call 10
                  refine (R18Ref_at dc rem (HR5.out.keptN Hh.out) HRH.out (by have := HP1.out.row.2.1; have := HSL.out; omega) (by have := HC1.out; omega) HTL.out HNM2.out).mono ?_
                  rintro e wf ⟨A', k', c', T', Aa, na, ca, Ag, ng, cg, rfl, hrf, hsa, hsg, hkf⟩
                  have Hf := Lib.hid (Hh.out.trans hkf fun _ _ e => e)
                  have HRF := Lib.hid (hrf.wide (ok' := fun k => w5.heap.size ≤ k ∧ k ≠ w5.heap.size) fun k _ e => ⟨Nat.le_trans Hh.out.size e, fun e2 => by have := HB9.out.lt; have := hkz.out.size; omega⟩)
                  have HSA := Lib.hid (hsa.any (ok' := fun k _ => w5.heap.size ≤ k ∧ k ≠ w5.heap.size) fun k _ _ e => ⟨Nat.le_trans Hh.out.size e.1, fun e2 => by have := HB9.out.lt; have := hkz.out.size; have := e.1; omega⟩)
                  have HSG := Lib.hid (hsg.any (ok' := fun k _ => w5.heap.size ≤ k ∧ k ≠ w5.heap.size) fun k _ _ e => ⟨Nat.le_trans Hh.out.size e.1, fun e2 => by have := HB9.out.lt; have := hkz.out.size; have := e.1; omega⟩)
                  have HKF := Lib.hid hkf
                  refine hK _ _ Hf.out ?_
                  clear hK K hrf hsa hsg hkf
                  repeat (first
                    | (refine sch_takeE rfl rfl ?_
                       apply Exists.intro
                       refine ⟨fun w' hS => ?_, fun K hK => ?_⟩
                       · (clear hS
                          unfold takesAt; go_simp; rfl)
                       go_simp
                       refine hK _ ?_
                       clear hK K))
                  refine sch_doK rfl rfl (fun K hK => ?_)
                  have hb0 : Blk wf w5.heap.size 28 #[.string ⟨#[]⟩, .int .i64 0, .slice none 0 0] := (HB9.out.kept hkz.out fun e => e).kept HKF.out fun e => e
                  have e0 := hb0.cell 0
                  have e1 := hb0.cell 1
                  have e2 := hb0.cell 2
                  have g0 := hb0.frozen 0
                  have g1 := hb0.frozen 1
                  have g2 := hb0.frozen 2
                  simp only [List.getElem?_toArray, List.getElem?_cons_succ, List.getElem?_cons_zero] at e0 e1 e2
                  go_simp
                  have hkb : Kept (fun k => k = w5.heap.size) wf (((wf.setCell ⟨w5.heap.size, 0, none⟩ (.string dc)).setCell ⟨w5.heap.size, 1, none⟩ (.int .i64 rem)).setCell ⟨w5.heap.size, 2, none⟩ (.slice A' k' c')) := (((Kept.refl (fun k => k = w5.heap.size) wf).setCell (p := ⟨w5.heap.size, 0, none⟩) (fun _ => rfl) _).setCell (p := ⟨w5.heap.size, 1, none⟩) (fun _ => rfl) _).setCell (p := ⟨w5.heap.size, 2, none⟩) (fun _ => rfl) _
                  have hbf : Blk (((wf.setCell ⟨w5.heap.size, 0, none⟩ (.string dc)).setCell ⟨w5.heap.size, 1, none⟩ (.int .i64 rem)).setCell ⟨w5.heap.size, 2, none⟩ (.slice A' k' c')) w5.heap.size 28 #[.string dc, .int .i64 rem, .slice A' k' c'] := ((hb0.set_ 0 (.string dc)).set_ 1 (.int .i64 rem)).set_ 2 (.slice A' k' c')
                  have hlow : w5.heap.size ≤ w5.heap.size := HBL.out
                  have hkk := Hf.out.trans hkb fun k hlt e => absurd hlt (by omega)
                  have HKK := Lib.hid hkk
                  have HBF := Lib.hid hbf
                  have HKB := Lib.hid hkb
                  refine hK _ _ hkk ?_
                  clear hK K e0 e1 e2 g0 g1 g2 hb0 hkb hbf hkk
                  repeat (first
                    | (refine sch_takeE rfl rfl ?_
                       apply Exists.intro
                       refine ⟨fun w' hS => ?_, fun K hK => ?_⟩
                       · (clear hS
                          unfold takesAt; go_simp; rfl)
                       go_simp
                       refine hK _ ?_
                       clear hK K))
                  refine sch_nil (NoPanic.normal ?_)
                  go_wp2_with fail
                  go_meet
                  exact ⟨w5.heap.size, A', k', c', T', Aa, na, ca, Ag, ng, cg, rfl, rfl, rfl, HBF.out, (HRF.out.kept HKB.out fun k e e2 => e.2 e2).wide fun k _ e => e.1, (HSA.out.keptAll HKB.out fun k _ e e2 => e.2 e2).any fun k _ _ e => e.1, (HSG.out.keptAll HKB.out fun k _ e e2 => e.2 e2).any fun k _ _ e => e.1, HKK.out⟩
              case rest =>
                rename_i s21 s22 _
                obtain ⟨b20, A', k', c', T', Aa, na, ca, Ag, ng, cg, rfl, rfl, rfl, hb20, hr6, hsa, hsg, hk6⟩ := hcut
                have hbw6 := HBX.out.kept hk6 fun e => e
                have s0 := hb20.cell 0
                have s1 := hb20.cell 1
                have s2 := hb20.cell 2
                have r0 := hbw6.cell 0
                have r1 := hbw6.cell 1
                have r2 := hbw6.cell 2
                have f0 := hbw6.frozen 0
                have f1 := hbw6.frozen 1
                have f2 := hbw6.frozen 2
                simp only [List.getElem?_toArray, List.getElem?_cons_succ, List.getElem?_cons_zero] at s0 s1 s2 r0 r1 r2
                have hbw4 : bw < w4.heap.size := HP1.out.box.lt
                have hbw5 : bw < w5.heap.size := HBX.out.lt
                have hlt5 := HT5.out.lt
                have hwx : Kept (fun k => k = bw) wc (((wc.setCell ⟨bw, 0, none⟩ (.string dc)).setCell ⟨bw, 1, none⟩ (.int .i64 rem)).setCell ⟨bw, 2, none⟩ (.slice A' k' c')) := (((Kept.refl (fun k => k = bw) wc).setCell (p := ⟨bw, 0, none⟩) (fun _ => rfl) _).setCell (p := ⟨bw, 1, none⟩) (fun _ => rfl) _).setCell (p := ⟨bw, 2, none⟩) (fun _ => rfl) _
                have hx7 := ((HSX.out.keptNone hk6).keptAll hwx fun k _ e e2 => by have := e.1; omega)
                have hy7 := ((HSY.out.keptNone hk6).keptAll hwx fun k _ e e2 => by have := e.1; omega)
                have ha7 := hsa.keptAll hwx fun k _ e e2 => by omega
                have hg7 := hsg.keptAll hwx fun k _ e e2 => by omega
                have FIN := Lib.hid (PlayAt.stored (own' := ownI w5 w4.heap.size own) (w5 := w5) HT5.out hbw6 hr6 hk6 HK05.out (fun e => by rcases e with e | ⟨e, _⟩; exact HP1.out.nb e; omega) (ownI_ge HP1.out.low HP1.out.kept.size) HP1.out.lob HOK.out HNS.out (fun k e => ⟨fun e2 => by have := hlt5 k e2; omega, fun e2 => by omega⟩))
                have HX7 := Lib.hid hx7
                have HA7 := Lib.hid ha7
                have HY7 := Lib.hid hy7
                have HG7 := Lib.hid hg7
                clear hx7 hy7 ha7 hg7 hwx hb20 hr6 hsa hsg hk6 hbw6 hlt5 p0 p1 p2 q0
                go_wp2_with fail
                generalize (((wc.setCell ⟨bw, 0, none⟩ (.string dc)).setCell ⟨bw, 1, none⟩ (.int .i64 rem)).setCell ⟨bw, 2, none⟩ (.slice A' k' c')) = w7 at *
                go_at_call 12
                refine (texts_at HX7.out HA7.out).mono ?_
                rintro e w8 ⟨rfl, hk8⟩
                have HK8 := Lib.hid hk8
                clear hk8
                go_wp2_with fail
                go_at_call 12
                refine (texts_at (HY7.out.keptNone HK8.out) (HG7.out.keptNone HK8.out)).mono ?_
                rintro e w9 ⟨rfl, hk9⟩
                have HK9 := Lib.hid (HK8.out.trans hk9 fun _ _ e => e)
                clear hk9
                go_wp2_with fail
                go_meet
                exact ⟨_, _, _, _, _, _, FIN.out.keptN HK9.out⟩
          case rest =>
            obtain ⟨own', A', n', c', T', S', hP'⟩ := hcut
            have HPc := Lib.hid hP'
            clear hP' HP1 HOB HB1 HAH HC2 HSL
            clear z0 z1 z2 z3 y0 y1 y2 y3
            go_wp2_with fail
            go_at_call 13
            refine (hRing_at HPc.out.tab (Nat.le_trans HPc.out.ok.len (by decide)) (fun o ho => Nat.le_trans (HPc.out.ok.tk o ho) (by decide)) (Nat.le_trans HPc.out.ok.pairs (by decide)) HPc.out.ok.nm).mono ?_
            rintro e w10 ⟨gr, rfl, hr10, hk10, -⟩
            have hpl : (refRing S').length ≤ 400 := by
              rw [(ring_perm S').length_eq]
              exact Nat.le_trans (take_len _) HPc.out.ok.pairs
            have HR10 := Lib.hid hr10
            have HK10 := Lib.hid hk10
            clear hr10 hk10
            go_wp2_with fail
            go_at_call 14
            refine (Rplaces_at HR10.out (by omega)).mono ?_
            rintro e w11 ⟨A7, c7, rfl, hs7, hk11⟩
            have HS7 := Lib.hid hs7
            have HK11 := Lib.hid (HK10.out.trans hk11 fun _ _ e => e)
            have HP11 := Lib.hid (HPc.out.keptN HK11.out)
            have hbx := HP11.out.box
            have p0 := hbx.cell 0
            have p1 := hbx.cell 1
            have p2 := hbx.cell 2
            simp only [List.getElem?_toArray, List.getElem?_cons_succ, List.getElem?_cons_zero] at p0 p1 p2
            clear hs7 hk11 HR10 HK10 hbx
            go_wp2_with fail
            go_at_call 15
            refine (R18Ring_at dc rem HP11.out.row (Nat.le_trans HPc.out.ok.pairs (by decide))).mono ?_
            rintro e w12 ⟨A8, k8, c8, rfl, hk8, hs8, hk12⟩
            subst hk8
            have HPw := Lib.hid (HP11.out.keptN hk12)
            have HS7w := Lib.hid (SlK.keptNone HS7.out hk12)
            have HS8 := Lib.hid hs8
            generalize refRing S' = P at *
            have hlen7 := HS7w.out.run_len psT
            have hlen8 := hs8.run_len p3sT
            have hbx := HPw.out.box
            have q0 := hbx.cell 0
            have q1 := hbx.cell 1
            have q2 := hbx.cell 2
            simp only [List.getElem?_toArray, List.getElem?_cons_succ, List.getElem?_cons_zero] at q0 q1 q2
            have HDD : Hid (∀ x, ∃ d, distP dc rem S' x = d) := Lib.hid fun x => ⟨_, rfl⟩
            obtain ⟨d, hd⟩ := HDD.out nm
            have HDV := Lib.hid hd
            have hdd : (d != d) = false := by simp
            have hpp : ((P.length : Int) != (P.length : Int)) = false := by simp
            clear hd hs8 hk12 p0 p1 p2 hbx HP11 HS7 HK11 HPc
            go_wp2_with fail
            refine wp_region_sch (fun w' => Kept noBlock w12 w') (.take 0 (.take 3 (.take 4 (.one 1 (.one 2 (.one 5 (.take 6 (.take 7 (.take 8 (.take 9 (.take 11 (.take 12 (.one 10 (.one 13 (.take 14 (.take 15 (.take 16 (.take 17 (.take 18 (.take 19 (.take 20 (.take 21 (.take 22 .nil))))))))))))))))))))))) (by kernel_rfl) (by kernel_rfl) (by kernel_rfl) (Kept.refl _ _).drew ?_
            repeat (first
              | (refine sch_takeE rfl rfl ?_
                 apply Exists.intro
                 refine ⟨fun w' hS => ?_, fun K hK => ?_⟩
                 · (have r0 := hS.cellOf q0
                    have r1 := hS.cellOf q1
                    have r2 := hS.cellOf q2
                    clear hS
                    unfold takesAt; go_simp; rfl)
                 go_simp
                 refine hK _ ?_
                 clear hK K))
            refine sch_doK rfl rfl (fun K hK => ?_)
            go_simp
            go_at_call 17
            refine (hAll_told (HPw.out.tab.kept (Kept.refl noBlock w12).drew fun _ _ e => e) (Nat.le_trans HPw.out.ok.len (by decide)) fun o ho => Nat.le_trans (HPw.out.ok.tk o ho) (by decide)).mono ?_
            rintro e w13 ⟨A13, n13, c13, T13, rfl, hto, hk13⟩
            have hkA := ((Kept.refl noBlock w12).drew).trans hk13 fun _ _ e => e
            have HTO := Lib.hid hto
            refine hK _ _ hkA ?_
            clear hK K hto hk13
            refine sch_doK rfl rfl (fun K hK => ?_)
            go_simp
            go_at_call 11
            refine (hof_at (SlK.of_ownB HTO.out.row) HTO.out.len (by have := HTO.out.slen; have := HPw.out.ok.len; omega) fun x hx => ⟨Nat.le_trans (HPw.out.ok.tk x.abs (by rw [← HTO.out.abs]; exact List.mem_map.2 ⟨x, hx, rfl⟩)) (by decide), HTO.out.toks x hx⟩).mono ?_
            rw [HTO.out.abs]
            rintro e w14 ⟨A14, c14, T14, rfl, hr14, hk14⟩
            have hkB := hkA.trans hk14 fun _ _ e => e
            have HR14 := Lib.hid hr14
            refine hK _ _ hkB ?_
            clear hK K hr14 hk14 hkA
            refine sch_doK rfl rfl (fun K hK => ?_)
            go_simp
            go_at_call 16
            refine (R18Same_at HR14.out (HPw.out.row.keptN hkB) (Nat.le_trans HPw.out.ok.len (by decide)) fun o ho => Nat.le_trans (HPw.out.ok.tk o ho) (by decide)).mono ?_
            rintro e w15 ⟨rfl, hk15⟩
            have hkC := hkB.trans hk15 fun _ _ e => e
            have HKT := Lib.hid hkC
            refine hK _ _ hkC ?_
            clear hK K hk15 hkB hkC HR14 HTO
            repeat (first
              | (refine sch_takeE rfl rfl ?_
                 apply Exists.intro
                 refine ⟨fun w' hS => ?_, fun K hK => ?_⟩
                 · (have r0 := hS.cellOf q0
                    have r1 := hS.cellOf q1
                    have r2 := hS.cellOf q2
                    clear hS
                    unfold takesAt; go_simp; rfl)
                 go_simp
                 refine hK _ ?_
                 clear hK K))
            refine sch_doK rfl rfl (fun K hK => ?_)
            go_simp
            go_at_call 18
            refine (hDist_at (HPw.out.tab.kept HKT.out fun _ _ e => e) nm (Nat.le_trans HPw.out.ok.len (by decide))).mono ?_
            rw [HDV.out]
            rintro e wd ⟨rfl, hkd⟩
            have hkd' := (HKT.out).trans hkd fun _ _ e => e
            refine hK _ _ hkd' ?_
            clear hK K hkd
            refine sch_doK rfl rfl (fun K hK => ?_)
            go_simp
            go_at_call 19
            refine (R18Dist_at dc rem (HPw.out.row.keptN hkd') HPw.out.ok.ris (Nat.le_trans HPw.out.ok.len (by decide)) nm).mono ?_
            rw [HDV.out]
            rintro e wd2 ⟨rfl, hkd⟩
            have hkd' := hkd'.trans hkd fun _ _ e => e
            refine hK _ _ hkd' ?_
            clear hK K hkd
            repeat (first
              | (refine sch_takeE rfl rfl ?_
                 apply Exists.intro
                 refine ⟨fun w' hS => ?_, fun K hK => ?_⟩
                 · (clear hS
                    unfold takesAt; go_simp; rfl)
                 go_simp
                 refine hK _ ?_
                 clear hK K))
            refine sch_nil (NoPanic.normal ?_)
            go_wp2_with fail
            have hk16 := hkd'
            clear hkd'
            have HK16 := Lib.hid hk16
            clear hk16 HKT q0 q1 q2 hdd HDV
            go_loopg [25] P.length (fun jj vi wr => ∃ k : Nat, k + jj = P.length ∧ vi = .int .i64 k ∧ Kept noBlock w12 wr)
            case atStart => exact ⟨0, by omega, rfl, HK16.out⟩
            case round =>
              obtain ⟨k, hkj, rfl, hk⟩ := hrel
              have HKJ := Lib.hid hkj
              have HKr := Lib.hid hk
              by_cases hkn : k < P.length
              · obtain ⟨p, hp⟩ : ∃ p, P[k]? = some p := ⟨_, List.getElem?_eq_getElem hkn⟩
                obtain ⟨p1, pn⟩ := p
                obtain ⟨g7, o7, hi7, -, u0, u1⟩ := p_at (HS7w.out.keptNone hk) psT hp
                obtain ⟨g8, o8, hi8, -, v0, v1⟩ := p_at (HS8.out.keptNone hk) p3sT hp
                simp only [] at u0 u1 v0 v1
                have hbx := HPw.out.box.kept hk fun e => e
                have q0 := hbx.cell 0
                have q1 := hbx.cell 1
                have q2 := hbx.cell 2
                simp only [List.getElem?_toArray, List.getElem?_cons_succ, List.getElem?_cons_zero] at q0 q1 q2
                obtain ⟨d, hd⟩ := HDD.out pn
                have HDV := Lib.hid hd
                have hdd : (d != d) = false := by simp
                have hpt : (p1 != p1) = false := by simp
                have hpn := strEq_self pn
                have HKT := Lib.hid ((Kept.refl noBlock wr).drew)
                have HPr := Lib.hid (HPw.out.keptN HKr.out)
                clear hkj hk hp hd hbx
                go_wp2_with fail
                refine wp_region_sch (fun w' => Kept noBlock wr w') (.take 0 (.take 1 (.take 2 (.take 3 (.take 4 (.take 5 (.take 6 (.take 7 (.take 8 (.take 9 (.take 10 (.take 11 (.take 12 (.take 13 (.take 14 (.take 15 (.take 16 (.take 17 (.take 18 (.take 19 (.take 20 (.take 21 (.take 22 (.take 23 (.take 24 (.take 25 (.take 26 (.take 27 (.take 28 (.take 29 (.take 30 (.take 32 (.take 33 (.take 34 (.take 35 (.take 36 (.take 37 (.one 31 (.one 38 (.take 39 (.take 40 .nil))))))))))))))))))))))))))))))))))))))))) (by kernel_rfl) (by kernel_rfl) (by kernel_rfl) (Kept.refl _ _).drew ?_
                repeat (first
                  | (refine sch_takeE rfl rfl ?_
                     apply Exists.intro
                     refine ⟨fun w' hS => ?_, fun K hK => ?_⟩
                     · (have r0 := hS.cellOf q0
                        have r1 := hS.cellOf q1
                        have r2 := hS.cellOf q2
                        have x0 := hS.cellOf u0
                        have x1 := hS.cellOf u1
                        have y0 := hS.cellOf v0
                        have y1 := hS.cellOf v1
                        clear hS
                        unfold takesAt; go_simp; rfl)
                     go_simp
                     refine hK _ ?_
                     clear hK K))
                refine sch_doK rfl rfl (fun K hK => ?_)
                go_simp
                go_at_call 18
                refine (hDist_at (HPr.out.tab.kept HKT.out fun _ _ e => e) pn (Nat.le_trans HPr.out.ok.len (by decide))).mono ?_
                rw [HDV.out]
                rintro e wd ⟨rfl, hkd⟩
                have hkd' := (HKT.out).trans hkd fun _ _ e => e
                refine hK _ _ hkd' ?_
                clear hK K hkd
                refine sch_doK rfl rfl (fun K hK => ?_)
                go_simp
                go_at_call 19
                refine (R18Dist_at dc rem (HPr.out.row.keptN hkd') HPr.out.ok.ris (Nat.le_trans HPr.out.ok.len (by decide)) pn).mono ?_
                rw [HDV.out]
                rintro e wd2 ⟨rfl, hkd⟩
                have hkd' := hkd'.trans hkd fun _ _ e => e
                refine hK _ _ hkd' ?_
                clear hK K hkd
                repeat (first
                  | (refine sch_takeE rfl rfl ?_
                     apply Exists.intro
                     refine ⟨fun w' hS => ?_, fun K hK => ?_⟩
                     · (clear hS
                        unfold takesAt; go_simp; rfl)
                     go_simp
                     refine hK _ ?_
                     clear hK K))
                refine sch_nil (NoPanic.normal ?_)
                go_wp2_with fail
                have hk17 := hkd'
                clear hkd'
                have HK17 := Lib.hid (HKr.out.trans hk17 fun _ _ e => e)
                clear hk17 HKT q0 q1 q2 hdd HDV u0 u1 v0 v1 hi7 hi8
                go_roundg (P.length - (k + 1))
                case measure => have := HKJ.out; omega
                case rel => exact ⟨k + 1, by have := HKJ.out; omega, by go_num, HK17.out⟩
              · clear hkj hk
                go_wp2_with fail
                go_roundg (n - (i + 1))
                case measure => have := HIJ.out; omega
                case rel => exact ⟨i + 1, own', A', n', c', T', S', by have := HIJ.out; omega, by go_num, HPw.out.keptN HKr.out⟩
      · have hk := hP.kept
        have HK := Lib.hid hk
        clear hij hP hk
        go_wp2_with fail
        go_ret
        exact ⟨rfl, HK.out⟩
    · have hk := hP.kept
      have HK := Lib.hid hk
      clear hij hP hk
      go_wp2_with fail
      go_ret
      exact ⟨rfl, HK.out⟩
end Go.Proofs.YtjkmgpmknadhjaaGreat

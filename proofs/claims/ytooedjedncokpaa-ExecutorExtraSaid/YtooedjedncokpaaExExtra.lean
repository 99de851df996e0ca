/- ExecutorExtra: extra tries are made one wait after the other, as many as may be, and hosts are left, and only if it is idempotent: it answers true. -/
import Derived.Test.YtooedjedncokpaaExFails
import Derived.Test.YtooedjedncokpaaExLive
import Derived.Test.YtooedjedncokpaaExExtraPure
import Derived.Deep.RegionHeld3
import Derived.Test.YtooedjedncokpaaSched
namespace Go.Proofs.Ytooedjedncokpaa
set_option linter.unusedVariables false
open Go.RowKit
open Go.ChangeMaps (setBlock)

theorem exWant_ge (idem : Bool) (m k i : Nat) : 1 ≤ exWant idem m k i := by unfold exWant; split <;> omega
theorem exWant_le (idem : Bool) (m k i : Nat) (hk : 1 ≤ k) : exWant idem m k i ≤ k := by unfold exWant; split <;> omega

theorem exR_tick {m : Nat} {w : Int} {l : List ByteArray} {idem : Bool} {n : Nat} {now : Int} (hn1 : 1 ≤ n) (hn : n ≤ l.length) (hl : l.length ≤ 6) (hw0 : 0 ≤ w) (hw1 : w ≤ 65536) (hnow : now < 18446744073709551616) : TickOk (exR m w l idem n) now 6 := by
  have hh : (exR m w l idem n).hosts.length = l.length - n := by show (l.drop n).length = _; rw [List.length_drop]
  refine ⟨hnow, ?_, ?_, ?_, hw0, ?_, ?_, ?_, ?_, by decide⟩
  · show (0 : Int) ≤ 100; decide
  · show (0 : Int) ≤ (n : Int) - 1; omega
  · rw [hh]; show (n : Int) - 1 + _ < _; omega
  · show w < _; omega
  · show (0 : Int) ≤ (n : Int); omega
  · rw [hh]; show (n : Int) + _ < _; omega
  · rw [hh]; omega

theorem ex_live {m : Nat} {w : Int} {l : List ByteArray} {idem : Bool} {n : Nat} (hn : n ≤ 6) : liveOk (exR m w l idem n) ∧ (exR m w l idem n).live.length = n := by
  have e : (exR m w l idem n).live = exLive l n := rfl
  have h3 : (exLive l n).length = n := by unfold exLive; simp
  refine ⟨⟨?_, ?_, ?_⟩, by rw [e, h3]⟩
  · rw [e]; unfold exLive
    rw [List.map_map]
    refine List.pairwise_map.2 ((List.pairwise_lt_range (n := n)).imp ?_)
    intro a b h
    show ((a : Int) < (b : Int)); omega
  · rw [e]; unfold exLive
    intro p hp
    obtain ⟨j, hj, rfl⟩ := List.mem_map.1 hp
    have := List.mem_range.1 hj
    show 0 ≤ (j : Int) ∧ (j : Int) < _
    omega
  · rw [e, h3]; omega

/-- Behind i waits. -/
def ExtraRel (w0 : World) (b bm : Nat) (hv : Value) (m : Nat) (wt : Int) (l : List ByteArray) (idem : Bool) (j : Nat) (vw vi : Value) (wr : World) : Prop :=
  ∃ i : Nat, 1 ≤ i ∧ i + j = 9 ∧ vi = .int .i64 i ∧ vw = .int .i64 (exWant idem m l.length (i - 1) : Nat) ∧ ReqAt wr b bm (exR m wt l idem (exWant idem m l.length (i - 1))) ∧ Sl wr 9 1 hv l.length (l.map Value.string) ∧ Kept (fun i => w0.heap.size ≤ i) w0 wr

theorem Live_is {b m n : Nat} {r : XReq} {w : World} (h : ReqAt w b m r) (hl : liveOk r ∧ r.live.length = n) :
    Calls Try.prog 15 #[.pointer (some ⟨b, 0, none⟩)] w fun e w' => ∃ A c, e = .returned (.slice A n c) ∧ Kept noBlock w w' := by
  refine (Live_at h hl.1).mono ?_
  rintro e w' ⟨v, rfl, hs, hk⟩
  rw [hl.2] at hs
  obtain ⟨A, c, rfl, -, -⟩ := hs.shape
  exact ⟨A, c, rfl, hk⟩

set_option maxHeartbeats 6000000 in
set_option maxRecDepth 100000 in
theorem Extra_walk (n q x : Int) (idem : Bool) (hn0 : 0 ≤ n) (hn1 : n ≤ 255) (hq0 : 0 ≤ q) (hq1 : q ≤ 255) (hx0 : 0 ≤ x) (hx1 : x ≤ 65535) (w : World) :
    Calls Try.prog 5 #[.int .u8 n, .int .u8 q, .int .u16 x, .bool idem] w fun e w' => e = .returned (.bool true) ∧ Kept noBlock w w' := by
  obtain ⟨k, hk⟩ : ∃ k : Nat, n % 6 + 1 = (k : Int) := ⟨(n % 6 + 1).toNat, by omega⟩
  obtain ⟨m, hm⟩ : ∃ m : Nat, q % 5 = (m : Int) := ⟨(q % 5).toNat, by omega⟩
  have hk1 : 1 ≤ k := by omega
  have hk6 : k ≤ 6 := by omega
  have hm8 : m ≤ 4 := by omega
  have hmod0 : 0 ≤ n % 6 := by omega
  have hmod1 : n % 6 ≤ 5 := by omega
  go_enter Try.func5, Try.ntmps5
  go_wp2_with (go_at_call 8; refine (awake_at _).mono ?_; rintro e w1 ⟨rfl, hkw⟩)
  have hlet := letters6_at w1 k hk6
  have hlen : (letters6.take k).length = k := by rw [List.length_take]; simp [letters6]; omega
  have kw1 : Kept noBlock w (w1.alloc (.cells letterCells6 9)) := hkw.alloc _
  have HLET := Lib.hid hlet
  have HLEN := Lib.hid hlen
  clear hlet hlen hkw
  generalize letters6.take k = l at *
  have hne : l ≠ [] := by intro e; have := HLEN.out; rw [e] at this; simp at this; omega
  refine (New_is idem 100 1099511627776 HLET.out (by rw [HLEN.out]; omega) (ex_start m (x + 1) l idem hne)).mono ?_
  rintro e w2 ⟨b, bm, v0, rfl, hb, hbm, ha, hr, hkn⟩
  have hlow : w.heap.size ≤ b ∧ w.heap.size ≤ bm := by have := kw1.size; omega
  have kw2 : Kept (fun i => w.heap.size ≤ i) w w2 := (kw1.trans hkn (fun _ _ h => h)).of_none
  have hsl := SlK.kept HLET.out hkn (fun _ _ _ h => h.elim)
  rw [HLEN.out] at hsl
  have hw1 : exWant idem m l.length (1 - 1) = 1 := by unfold exWant; split <;> omega
  have START : Hid (ExtraRel w b bm (.slice (some ⟨w1.heap.size, 0, none⟩) k 6) m (x + 1) l idem 8 (.int .i64 1) (.int .i64 1) w2) := ⟨1, by omega, by omega, rfl, by rw [hw1]; rfl, by rw [hw1]; exact hr, by rw [HLEN.out]; exact hsl, kw2⟩
  clear hsl kw2 ha hr hkn hb hbm HLET kw1 hk hm hne hw1
  go_wp2
  go_loopg [16, 17] 8 (fun j vw vi wr => ExtraRel w b bm (.slice (some ⟨w1.heap.size, 0, none⟩) k 6) m (x + 1) l idem j vw vi wr)
  case atStart => exact START.out
  case round =>
    obtain ⟨i, hi1, hij, rfl, rfl, hr, hs, hkr⟩ := hrel
    clear START
    by_cases hlt : i ≤ 8
    · have hwi0 : 0 ≤ (x + 1) * (i : Int) := Int.mul_nonneg (by omega) (by omega)
      have hwi1 : (x + 1) * (i : Int) ≤ 65536 * 8 := Int.mul_le_mul (by omega) (by omega) (by omega) (by decide)
      have hg1 := exWant_ge idem m l.length (i - 1)
      have hg2 := exWant_le idem m l.length (i - 1) (by rw [HLEN.out]; exact hk1)
      have hg3 := exWant_ge idem m l.length i
      have hg4 := exWant_le idem m l.length i (by rw [HLEN.out]; exact hk1)
      have hbef := ex_before m (x + 1) l idem i (by rw [HLEN.out]; omega) (by omega) hi1 (by omega)
      have haft := ex_after m (x + 1) l idem i (by rw [HLEN.out]; omega) (by omega) hi1 (by omega)
      have T1 : TickOk (exR m (x + 1) l idem (exWant idem m l.length (i - 1))) (100 + (x + 1) * i - 1) 6 := exR_tick hg1 hg2 (by rw [HLEN.out]; omega) (by omega) (by omega) (by omega)
      have T2 : TickOk (exR m (x + 1) l idem (exWant idem m l.length (i - 1))) (100 + (x + 1) * i) 6 := exR_tick hg1 hg2 (by rw [HLEN.out]; omega) (by omega) (by omega) (by omega)
      have hlv := ex_live (m := m) (w := x + 1) (l := l) (idem := idem) (n := exWant idem m l.length i) (by have := HLEN.out; omega)
      have HB := Lib.hid hbef
      have HA := Lib.hid haft
      have HKR := Lib.hid hkr
      have HIJ := Lib.hid hij
      clear hbef haft hkr hij
      go_wp2_with fail
      refine (Tick_at (100 + (x + 1) * (i : Int) - 1) 6 hr (fun _ => T1)).mono ?_
      rw [HB.out]
      rintro e w3 ⟨v1, rfl, ha1, hr1, hk1'⟩
      obtain ⟨A1, c1, rfl⟩ := acts_nils ha1
      have hs3 := hs.kept hk1' (hr.apart (by decide))
      have HK3 := Lib.hid (HKR.out.trans hk1' (fun i _ h => by rcases h with rfl | rfl <;> omega))
      clear ha1 hr hk1' hs T1
      go_wp2_with fail
      refine (Tick_at (100 + (x + 1) * (i : Int)) 6 hr1 (fun _ => T2)).mono ?_
      rw [HA.out]
      rintro e w4 ⟨v2, rfl, ha2, hr2, hk2'⟩
      have hs4 := hs3.kept hk2' (hr1.apart (by decide))
      have HK4 := Lib.hid (HK3.out.trans hk2' (fun i _ h => by rcases h with rfl | rfl <;> omega))
      clear hr1 hk2' hs3 T2
      by_cases hmade : idem = true ∧ i ≤ m ∧ i < l.length
      · obtain ⟨rfl, h1, h2⟩ := hmade
        have hwant : exWant true m l.length i = exWant true m l.length (i - 1) + 1 := by unfold exWant; rw [if_pos rfl, if_pos rfl]; omega
        dsimp only at ha2 hr2
        rw [if_pos ⟨rfl, h1, h2⟩] at ha2
        obtain ⟨g, off, cap, rfl⟩ := acts_one ha2
        obtain ⟨q0, q1, q2, q3⟩ := acts_cells1 ha2
        dsimp only at q0 q1 q2 q3
        obtain ⟨gh, oh, hidx, hgl, -, hcell⟩ := hs4.run_index strsT (i := (i : Int)) (k := i) rfl h2
        have hch := hcell 0 (.string (l.getD i noStr)) (by simp [List.getD, List.getElem?_eq_getElem h2])
        simp only [Nat.add_zero] at hch
        generalize l.getD i noStr = s at q2 hch ha2
        have HWT := Lib.hid hwant
        rw [hwant] at hlv hr2 hg3 hg4
        rw [HLEN.out] at h2
        generalize exWant true m l.length (i - 1) = n0 at *
        have hn6 : n0 ≤ 6 := by have := HLEN.out; omega
        have HA2 := Lib.hid ha2
        clear hwant ha2 hcell
        go_wp2
        go_region_held3 (fun w' => w'.cell? ⟨g, off, none⟩ = some (.int .i64 1) ∧ w'.cell? ⟨g, off + 2, none⟩ = some (.string s) ∧ w'.cell? ⟨gh, oh, none⟩ = some (.string s)) (first | exact ⟨q0, q2, hch⟩ | exact ⟨p0, p2, pch⟩) (first | (go_at_call 15; refine (Live_is (hr2.drewN 1) hlv).mono ?_; rintro e w5 ⟨A5, c5, rfl, hk5⟩; have pch := (hk5.cell (p := ⟨gh, oh, none⟩) hgl id).trans hch; obtain ⟨p0, -, p2, -⟩ := acts_cells1 (SlK.keptNone (SlK.drewN HA2.out 1) hk5)))
        go_wp2
        go_roundg (9 - (i + 1))
        case measure => have := HIJ.out; omega
        case rel =>
          have hij := HIJ.out
          have hwt := HWT.out
          refine ⟨i + 1, by omega, by omega, by go_num, ?_, ?_, (hs4.drewN 1).keptNone hk5, (HK4.out.drewN 1).trans hk5 (fun _ _ h => h.elim)⟩
          · rw [Nat.add_sub_cancel, hwt]; go_num
          · rw [Nat.add_sub_cancel, hwt]; exact (hr2.drewN 1).kept hk5
      · have hwant : exWant idem m l.length i = exWant idem m l.length (i - 1) := by
          unfold exWant
          by_cases hd : idem = true
          · rw [if_pos hd, if_pos hd]
            have : ¬ (i ≤ m ∧ i < l.length) := fun hh => hmade ⟨hd, hh⟩
            omega
          · rw [if_neg hd, if_neg hd]
        dsimp only at ha2 hr2
        rw [if_neg hmade] at ha2
        obtain ⟨A2, c2, rfl⟩ := acts_nils ha2
        have HWT := Lib.hid hwant
        rw [hwant] at hlv hr2 hg3 hg4
        have hcs : idem = false ∨ idem = true ∧ m < i ∨ idem = true ∧ i ≤ m ∧ k ≤ i := by
          cases idem with
          | false => exact .inl rfl
          | true =>
            have : ¬ (i ≤ m ∧ i < l.length) := fun hh => hmade ⟨rfl, hh⟩
            have := HLEN.out
            by_cases hm' : i ≤ m
            · exact .inr (.inr ⟨rfl, hm', by omega⟩)
            · exact .inr (.inl ⟨rfl, by omega⟩)
        generalize exWant idem m l.length (i - 1) = n0 at *
        have hn6 : n0 ≤ 6 := by have := HLEN.out; omega
        clear hwant ha2 hmade
        rcases hcs with rfl | ⟨rfl, hmi⟩ | ⟨rfl, hmi, hki⟩
        all_goals
          go_wp2
          refine wp_region_order (fun _ => True) [(0, true), (1, true), (2, true), (3, true), (4, true), (5, true), (6, true), (7, true), (8, true), (9, true), (10, true), (11, true), (12, true), (13, true), (14, true), (15, true), (16, true), (17, true), (18, true), (19, true), (20, true), (21, true), (22, true), (23, true), (24, true), (25, true), (26, true), (27, true), (28, true), (29, true), (32, true), (30, false), (31, true), (33, true), (34, true)] (by kernel_rfl) (by kernel_rfl) (by kernel_rfl) trivial ?_
          dsimp only
          repeat (first
            | (refine sched_takeE rfl rfl ?_
               apply Exists.intro
               refine ⟨fun w' hS => ?_, fun K hK => ?_⟩
               · (unfold takesAt; go_simp; rfl)
               go_simp
               refine hK _ ?_
               clear hK K)
            | (refine sched_skipK rfl rfl (fun K hK => ?_)
               go_simp
               refine hK _ ?_
               clear hK K))
          refine sched_doK rfl rfl (fun K hK => ?_)
          go_simp
          go_at_call 15
          refine (Live_is hr2.drew hlv).mono ?_
          rintro e w5 ⟨A5, c5, rfl, hk5⟩
          refine hK _ _ trivial ?_
          clear hK K
          repeat (first
            | (refine sched_takeE rfl rfl ?_
               apply Exists.intro
               refine ⟨fun w' hS => ?_, fun K hK => ?_⟩
               · (unfold takesAt; go_simp; rfl)
               go_simp
               refine hK _ ?_
               clear hK K))
          refine sched_nil (NoPanic.normal ?_)
          go_wp2
          go_roundg (9 - (i + 1))
          case measure => have := HIJ.out; omega
          case rel =>
            have hij := HIJ.out
            have hwt := HWT.out
            refine ⟨i + 1, by omega, by omega, by go_num, ?_, ?_, hs4.drew.keptNone hk5, HK4.out.drew.trans hk5 (fun _ _ h => h.elim)⟩
            · rw [Nat.add_sub_cancel, hwt]
            · rw [Nat.add_sub_cancel, hwt]; exact hr2.drew.kept hk5
    · have hi9 : i = 9 := by omega
      subst hi9
      go_wp2
      go_ret
      exact ⟨rfl, hkr.mono fun i hi h => by omega⟩
end Go.Proofs.Ytooedjedncokpaa

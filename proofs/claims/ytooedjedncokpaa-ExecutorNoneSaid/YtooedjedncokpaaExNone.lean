/- ExecutorNone: a request that is none is done; one without hosts is done at once: it answers true. -/
import Derived.Test.YtooedjedncokpaaExEv
import Derived.Test.YtooedjedncokpaaExAwake
namespace Go.Proofs.Ytooedjedncokpaa
set_option linter.unusedVariables false
open Go.RowKit

def noneR (c0 c1 c2 c3 : Int) (idem : Bool) : XReq := ⟨c0, c1, c2, c3, [], idem, 5, 9, [], 0, 0, 0, 0, true⟩
theorem none_start (c0 c1 c2 c3 : Int) (idem : Bool) : (XReq.fresh c0 c1 c2 c3 [] idem 5 9).begin 40 (-1) = (noneR c0 c1 c2 c3 idem, [⟨3, -1, noStr, 40⟩]) := rfl
theorem none_act (c0 c1 c2 c3 : Int) (idem : Bool) (e : XEv) (now : Int) : (noneR c0 c1 c2 c3 idem).act e now = (noneR c0 c1 c2 c3 idem, []) := by
  unfold XReq.act XReq.answered XReq.failed XReq.prepared_ XReq.lost XReq.refused XReq.tick noneR
  simp only [aget]
  repeat' split
  all_goals first | rfl | simp_all
theorem none_live (c0 c1 c2 c3 : Int) (idem : Bool) : liveOk (noneR c0 c1 c2 c3 idem) ∧ (noneR c0 c1 c2 c3 idem).live.length = 0 := ⟨⟨.nil, by simp [noneR], by simp [noneR]⟩, rfl⟩

def NoneRel (w : World) (b bm : Nat) (R : XReq) (v : Value) (evs : List XEv) (j : Nat) (vi : Value) (wr : World) : Prop :=
  ∃ i : Nat, i + j = 30 ∧ vi = .int .i64 i ∧ ReqAt wr b bm R ∧ Lo wr w.heap.size 17 v evs.length (evs.flatMap evCells) ∧ Kept (fun i => w.heap.size ≤ i) w wr

set_option maxHeartbeats 2000000 in
set_option maxRecDepth 100000 in
theorem None_walk (c0 c1 c2 c3 : Int) (idem : Bool) (v : Value) (evs : List XEv) (w : World) (hv : Lo w w.heap.size 17 v evs.length (evs.flatMap evCells)) :
    Calls Try.prog 7 #[.agg #[.int .i64 c0, .int .i64 c1, .int .u64 c2, .int .i64 c3], .bool idem, v] w fun e w' => e = .returned (.bool true) ∧ Kept noBlock w w' := by
  have hbx := Blk.new w 24 #[.int .i64 c0, .int .i64 c1, .int .u64 c2, .int .i64 c3]
  obtain ⟨A, cap, rfl, hcap1, hcap2⟩ := hv.shape
  have hcap3 : evs.length ≤ 9223372036854775807 := by unfold maxLen at hcap2; omega
  have HCAP := Lib.hid hcap2
  clear hcap2
  go_enter Try.func7, Try.ntmps7
  go_wp2_with (go_at_call 8; refine (awake_at _).mono ?_; rintro e w1 ⟨rfl, hkw⟩; obtain ⟨g0, g1, g2, g3⟩ := cells4 (hbx.kept hkw id); have hsz : w.heap.size < w1.heap.size := by (have := hkw.size; rw [sz_alloc] at this; omega))
  have kw1 : Kept noBlock w w1 := ((Kept.refl noBlock w).alloc _).trans hkw (fun _ _ h => h)
  refine (New_is (l := []) idem 5 9 (SlK.nil w1 (fun _ _ => False) 1) (by decide) (none_start c0 c1 c2 c3 idem)).mono ?_
  rintro e w2 ⟨b, bm, v0, rfl, hb, hbm, ha, hr, hkn⟩
  obtain ⟨gA, oA, cA, rfl⟩ := acts_one ha
  obtain ⟨p0, p1, p2, p3⟩ := acts_cells1 ha
  dsimp only at p0 p1 p2 p3
  have hlow : w.heap.size ≤ b ∧ w.heap.size ≤ bm := by omega
  have kw2 : Kept noBlock w w2 := kw1.trans hkn (fun _ _ h => h)
  have START : Hid (NoneRel w b bm (noneR c0 c1 c2 c3 idem) (.slice A evs.length cap) evs 30 (.int .i64 0) w2) := ⟨0, by omega, rfl, hr, hv.keptNone kw2, kw2.of_none⟩
  clear kw2 ha hkn hb hbm kw1 hkw hbx g0 g1 g2 g3 hv
  go_wp2_with fail
  refine (Done_at hr).mono ?_
  rintro e w3 ⟨he, rfl⟩
  obtain rfl : e = .returned (.bool true) := he
  go_wp2_with fail
  refine (Done_nil _).mono ?_
  rintro e w3 ⟨rfl, rfl⟩
  go_wp2
  clear hr p0 p1 p2 p3
  go_loopg [11] 30 (fun j vi wr => NoneRel w b bm (noneR c0 c1 c2 c3 idem) (.slice A evs.length cap) evs j vi wr)
  case atStart => exact START.out
  case round =>
    obtain ⟨i, hij, rfl, hr, hs, hkr⟩ := hrel
    clear START
    have hi30 : i ≤ 30 := by omega
    by_cases hlt : i < evs.length ∧ i < 30
    · obtain ⟨hl1, hl2⟩ := hlt
      obtain ⟨ev, hev⟩ : ∃ ev, evs[i]? = some ev := ⟨_, List.getElem?_eq_getElem hl1⟩
      obtain ⟨g, off, hidx, hgl, hc⟩ := ev_at hs hev
      obtain ⟨e0, e1, e2, e3, e4, e5, e6, e7, e8, e9, e10, e11, e12, e13, e14, e15, e16⟩ := ev17 hc
      have HC := Lib.hid hc
      have HKR := Lib.hid hkr
      have HIJ := Lib.hid hij
      clear hc hkr hij hev
      go_wp2_with fail
      refine (act_nil ev 7 wr).mono ?_
      rintro e w3 ⟨rfl, hk3⟩
      have hc3 : ∀ j u, (evCells ev)[j]? = some u → w3.cell? ⟨g, off + j, none⟩ = some u := fun j u h => (hk3.cell (p := ⟨g, off + j, none⟩) hgl id).trans (HC.out j u h)
      obtain ⟨d0, d1, d2, d3, d4, d5, d6, d7, d8, d9, d10, d11, d12, d13, d14, d15, d16⟩ := ev17 hc3
      have hr3 := hr.kept hk3
      have HS3 := Lib.hid (hs.keptNone hk3)
      have HK3 := Lib.hid (HKR.out.trans hk3 (fun _ _ h => h.elim))
      clear hc3 hk3 hr hs e0 e1 e2 e3 e4 e5 e6 e7 e8 e9 e10 e11 e12 e13 e14 e15 e16
      go_wp2_with fail
      refine (act_at ev 7 6 hr3 ⟨Int.le_refl 0, show (0 : Int) < 4611686018427387904 by decide⟩ ⟨Int.le_refl 0, show (0 : Int) < 4611686018427387904 by decide⟩ (Int.le_refl 0) (show (0 : Int) < 4611686018427387904 by decide) (fun h => by simp [noneR] at h)).mono ?_
      rw [none_act]
      rintro e w4 ⟨v1, rfl, ha1, hr1, hk4⟩
      obtain ⟨A1, cp1, rfl⟩ := acts_nils ha1
      have HS4 := Lib.hid (Lo.kept HS3.out hk4 (fun g hg h => by rcases h with rfl | rfl <;> omega))
      have HK4 := Lib.hid (HK3.out.trans hk4 (fun i _ h => by rcases h with rfl | rfl <;> omega))
      clear hk4 ha1 hr3 hidx d0 d1 d2 d3 d4 d5 d6 d7 d8 d9 d10 d11 d12 d13 d14 d15 d16
      go_wp2_with fail
      refine (Counts_nil _).mono ?_
      rintro e w5 ⟨rfl, rfl⟩
      go_wp2_with fail
      refine (Live_nil _).mono ?_
      rintro e w5 ⟨rfl, hk5⟩
      have hr5 := hr1.kept hk5
      have HS5 := Lib.hid (HS4.out.keptNone hk5)
      have HK5 := Lib.hid (HK4.out.trans hk5 (fun _ _ h => h.elim))
      clear hr1 hk5
      go_wp2_with fail
      refine (Live_is hr5 (none_live c0 c1 c2 c3 idem)).mono ?_
      rintro e w6 ⟨A6, c6, rfl, hk6⟩
      go_wp2
      go_roundg (30 - (i + 1))
      case measure => have := HIJ.out; omega
      case rel =>
        have hij := HIJ.out
        exact ⟨i + 1, by omega, by go_num, hr5.kept hk6, HS5.out.keptNone hk6, HK5.out.trans hk6 (fun _ _ h => h.elim)⟩
    · by_cases hl : i < evs.length
      · have hi30' : i = 30 := by omega
        subst hi30'
        clear hlt
        go_wp2
        go_ret
        exact ⟨rfl, hkr.mono fun i hi h => by omega⟩
      · clear hlt
        go_wp2
        go_ret
        exact ⟨rfl, hkr.mono fun i hi h => by omega⟩
end Go.Proofs.Ytooedjedncokpaa

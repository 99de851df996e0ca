/- ExecutorPlays: whatever happens to a request, what is done, which tries are under way, and how many there were, are the document's, step by step: it answers true. -/
import Derived.Test.YtooedjedncokpaaPlaysN
namespace Go.Proofs.Ytooedjedncokpaa
set_option linter.unusedVariables false
open Go.RowKit
set_option maxHeartbeats 8000000 in
set_option maxRecDepth 100000 in
theorem Plays_walk (c0 c1 c2 c3 : Int) (v : Value) (l : List ByteArray) (idem : Bool) (now till : Int) (sv : Value) (evs : List XEv) (w : World) (hv : Lo w w.heap.size 1 v l.length (l.map Value.string)) (hl : l.length ≤ 20) (hs : Lo w w.heap.size 17 sv evs.length (evs.flatMap evCells))
    (h20 : 0 ≤ c2) (h21 : c2 < 18446744073709551616) (hn0 : 0 ≤ now) (hn1 : now < 18446744073709551616) (hsp : ∀ e ∈ evs, 0 ≤ e.span ∧ e.span < 18446744073709551616) :
    Calls Try.prog 6 #[.agg #[.int .i64 c0, .int .i64 c1, .int .u64 c2, .int .i64 c3], v, .bool idem, .int .u64 now, .int .u64 till, sv] w fun e w' => e = .returned (.bool true) ∧ Kept noBlock w w' := by
  have hbx := Blk.new w 24 #[.int .i64 c0, .int .i64 c1, .int .u64 c2, .int .i64 c3]
  obtain ⟨A, cap, rfl, -, -⟩ := hv.shape
  obtain ⟨SA, scap, rfl, hsc0, hsc⟩ := hs.shape
  have hsc3 : evs.length ≤ 9223372036854775807 := by unfold maxLen at hsc; omega
  clear hsc hsc0
  have HSP := Lib.hid hsp
  clear hsp
  go_enter Try.func6, Try.ntmps6
  go_wp2_with (go_at_call 8; refine (awake_at _).mono ?_; rintro e w1 ⟨rfl, hkw⟩; obtain ⟨g0, g1, g2, g3⟩ := cells4 (hbx.kept hkw id); have hbx1 := hbx.kept hkw id; have kw1 : Kept noBlock w w1 := ((Kept.refl noBlock w).alloc _).trans hkw (fun _ _ h => h); clear hkw)
  have hv1 := hv.keptNone kw1
  refine (New_at idem now till hv1 (by omega)).mono ?_
  rintro e w2 ⟨b, bm, va, rfl, hb, hbm, ha, hr, hkn⟩
  have hfr := Inv.begin (Inv.fresh c0 c1 c2 c3 l idem now till hl h20 h21 hn0) 40 (-1)
  have hal := acts_begin (XReq.fresh c0 c1 c2 c3 l idem now till) 40 (-1)
  have hrn := fun w2 (h : Lo w2 w.heap.size 1 (.slice A l.length cap) l.length (l.map Value.string)) (hB : w.heap.size ≤ w2.heap.size) => rNew_at c0 c1 c2 c3 idem now till h hB
  generalize (XReq.fresh c0 c1 c2 c3 l idem now till).begin 40 (-1) = z at *
  have HRN := Lib.hid hrn
  have HFR := Lib.hid hfr
  have HAL := Lib.hid hal
  have kw2 : Kept noBlock w w2 := kw1.trans hkn (fun _ _ h => h)
  obtain ⟨g0', g1', g2', g3'⟩ := cells4 (hbx1.kept hkn id)
  have hz1 := kw1.size
  have hz2 := kw2.size
  obtain ⟨A2, cap2, rfl, -, -⟩ := ha.shape
  clear hbx hbx1 g0 g1 g2 g3 hrn hfr hal hkn kw1 hv1
  go_wp2_with fail
  refine (configOf_at c0 c1 c2 c3 w2).mono ?_
  rintro e w3 ⟨rfl, hk3⟩
  have kw3 := kw2.trans hk3 (fun _ _ h => h)
  have hr3 := hr.kept hk3
  have ha3 := SlK.keptNone ha hk3
  have hz3 := kw3.size
  clear hr ha hk3
  go_wp2_with fail
  refine (HRN.out w3 (hv.keptNone kw3) hz3).mono ?_
  rintro e w4 ⟨hv4, lv4, av, rfl, hf4, hb4, hk4⟩
  have kw4 := kw3.trans hk4 (fun _ _ h => h)
  have hr4 := hr3.kept hk4
  have ha4 := SlK.keptNone ha3 hk4
  have hz4 := kw4.size
  obtain ⟨A5, c5, rfl, -, -⟩ := hf4.1.shape
  obtain ⟨A6, c6, rfl, -, -⟩ := hf4.2.shape
  clear hr3 ha3 hk4 kw3
  -- the law's own struct
  have H5 := Lib.hid (fun o => (⟨hr4.alloc o, hf4.alloc o, SlK.alloc hb4 o, SlK.alloc ha4 o, kw4.alloc o⟩ : ReqAt (w4.alloc o) b bm z.1 ∧ RefAt (w4.alloc o) w.heap.size z.1 _ _ ∧ RActs (w4.alloc o) av z.2 ∧ ActsAt (w4.alloc o) _ z.2 ∧ Kept noBlock w (w4.alloc o)))
  have HG5 := Lib.hid (fun cs => Blk.new w4 53 cs)
  clear hr4 ha4 hf4 hb4
  go_wp2_with fail
  obtain ⟨hr5, hf5, hb5, ha5, kw5⟩ := H5.out (.cells (rCells z.1 (.slice A5 z.1.hosts.length c5) (.slice A6 z.1.live.length c6)) 53)
  have hg5 := HG5.out (rCells z.1 (.slice A5 z.1.hosts.length c5) (.slice A6 z.1.live.length c6))
  refine (actsOf_at ha5 (by have := HAL.out; omega)).mono ?_
  rintro e w6 ⟨v6, rfl, hs6, hk6⟩
  have hr6 := hr5.kept hk6
  have hf6 := hf5.kept hk6
  have hg6 := hg5.kept hk6 id
  have kw6 := kw5.trans hk6 (fun _ _ h => h)
  have hb6 := SlK.keptNone hb5 hk6
  clear hr5 hf5 hb5 ha5 kw5 hg5 hk6 H5 HG5
  go_wp2_with fail
  refine (Same_at hs6 hb6 (by have := HAL.out; omega)).mono ?_
  rintro e w7 ⟨rfl, n7, rfl⟩
  have START := Lib.hid (show PlaysRel w b bm w4.heap.size (.slice SA evs.length scap) evs 60 (.int .u64 now) (.int .i64 0) (w6.drewN n7) from
    ⟨0, z.1, now, _, _, rfl, rfl, rfl, hn0, hn1, HFR.out, hr6.drewN n7, hg6.drewN n7, ⟨hf6.1.drewN n7, hf6.2.drewN n7⟩, (hs.keptNone kw6).drewN n7, kw6.of_none.drewN n7⟩)
  have hlb : w.heap.size ≤ b := by omega
  have hlm : w.heap.size ≤ bm := by omega
  have hlg : w.heap.size ≤ w4.heap.size := hz4
  generalize w4.heap.size = g at *
  clear hr6 hf6 hg6 hb6 hs6 HFR HAL HRN g0' g1' g2' g3' hz1 hz2 hz3 hz4 kw2 kw4 kw6 hs hv hb hbm
  go_wp2
  go_loopg [3, 18] 60 (fun j vn vi wr => PlaysRel w b bm g (.slice SA evs.length scap) evs j vn vi wr)
  case atStart => exact START.out
  case round =>
    obtain ⟨i, q, now1, hv, lv, hij, rfl, rfl, hm0, hm1, hI, hr, hg, hf, hs, hkr⟩ := hrel
    clear START
    have hi60 : i ≤ 60 := by omega
    have hwr : w.heap.size ≤ wr.heap.size := hkr.size
    by_cases hlt : i < evs.length ∧ i < 60
    · obtain ⟨hl1, hl2⟩ := hlt
      obtain ⟨ev, hev⟩ : ∃ ev, evs[i]? = some ev := ⟨_, List.getElem?_eq_getElem hl1⟩
      obtain ⟨ge, oe, hidx, hgl, hgB, hc⟩ := ev_lo hs hev
      obtain ⟨hsp0, hsp1⟩ := HSP.out ev (List.mem_of_getElem? hev)
      obtain ⟨hn2, hn3, hn4⟩ := later_ge hm0 hm1 hsp0
      obtain ⟨-, -, -, -, -, -, -, -, -, -, -, -, -, -, -, -, e16⟩ := ev17 hc
      have HC := Lib.hid hc
      have HIJ := Lib.hid hij
      have HI := Lib.hid hI
      clear hc hij hev
      go_wp2_with fail
      refine (Later_at now1 ev.span wr hm0 hm1 hsp0 hsp1).mono ?_
      rintro e w' ⟨rfl, rfl⟩
      generalize later now1 ev.span = now2 at *
      clear hsp0 hsp1 hm0 hm1 hn2 e16
      obtain ⟨e0, e1, e2, e3, e4, e5, e6, e7, e8, e9, e10, e11, e12, e13, e14, e15, e16⟩ := ev17 HC.out
      go_wp2_with fail
      refine (act_at ev now2 20 hr HI.out.okT (HI.out.okA (by omega)) HI.out.prep0 (by have := HI.out.prep1; omega) (fun _ => HI.out.tickOk hn4)).mono ?_
      rintro e w3 ⟨v1, rfl, ha1, hr1, hk1⟩
      have hg3 := hg.acted hr hk1
      have hf3 := hf.acted hr hk1 hlb hlm
      have hs3 := Lo.kept hs hk1 (fun g hg h => by rcases h with rfl | rfl <;> omega)
      have hk3 := hkr.trans hk1 (fun i _ h => by rcases h with rfl | rfl <;> omega)
      have hc3 : ∀ j u, (evCells ev)[j]? = some u → w3.cell? ⟨ge, oe + j, none⟩ = some u := fun j u h => (hk1.cell (p := ⟨ge, oe + j, none⟩) hgl (fun h => by rcases h with h | h <;> (dsimp only at h; omega))).trans (HC.out j u h)
      have hgl3 : ge < w3.heap.size := Nat.lt_of_lt_of_le hgl hk1.size
      have hmod := fun W (hr : RefAt W w.heap.size q hv lv) (hB : w.heap.size ≤ W.heap.size) => model_at ev now2 hr hB HI.out (by omega) hn3 hn4
      have hI2 := HI.out.act ev now2
      have hal := HI.out.acts ev now2
      have hw3 : w.heap.size ≤ w3.heap.size := hk3.size
      obtain ⟨Av, cv, rfl, -, -⟩ := ha1.shape
      generalize q.act ev now2 = z2 at *
      have HG3 := Lib.hid hg3
      have HF3 := Lib.hid hf3
      have HS3 := Lib.hid hs3
      have HK3 := Lib.hid hk3
      have HC3 := Lib.hid hc3
      have HMOD := Lib.hid hmod
      have HI2 := Lib.hid hI2
      have HAL := Lib.hid hal
      have HA1 := Lib.hid ha1
      have HR1 := Lib.hid hr1
      have hg3l := hg3.lt
      clear e0 e1 e2 e3 e4 e5 e6 e7 e8 e9 e10 e11 e12 e13 e14 e15 e16 hg hf hs hkr hr hk1 hg3 hf3 hs3 hk3 hc3 hmod hI2 hal ha1 hr1
      go_upto_region 15 with (fail)
      go_cut [20, 21] (fun s20 s21 wx => StepRel w.heap.size g z2 w3 s20 s21 wx)
      case first =>
        refine region15_walk i now2 SA scap g w.heap.size evs ev q z2 hv lv ge oe w3 _ _ _ _ _ _ _ _ _ _ _ _ _ _ _ _ _ _ _ _ _ _ _ _ _ _ _ _ _ _ _ _ _ _ _ _ _ _ _ _ _ _ _ _ _ _ _ _ _ _ _ _ _ _ _ _ _ _ _ _ _ _ _ _ _ _ _ _ _ _ _ _ _ _ _ _ _ _ _ _ _ _ _ _ _ _ _ _ _ _ _ _ _ _ _ _ _ _ _ _ _ _ _ _ _ _ _ _ _ _ _ _ _ _ _ _ _ _ _ _ _ _ _ _ _ _ _ _ _ _ _ _ _ _ _ _ _ _ _ _ _ _ _ _ _ _ _ _ _ _ _ _ hidx HG3 HF3 HC3 HMOD hgl3 hg3l hw3 ?_ _ (by kernel_rfl)
        intro s20 s21 v81 v82 v83 v84 v85 v86 v87 v88 v89 v90 wx hrel
        go_wp2_with fail
        go_meet
        exact hrel
      case rest =>
        obtain ⟨g20, hv5, lv5, rfl, hb5, hf5, ha5, hk5, hg20⟩ := hcut
        rename_i s21 _
        obtain ⟨A7, c7, rfl, -, -⟩ := hf5.1.shape
        obtain ⟨A8, c8, rfl, -, -⟩ := hf5.2.shape
        have hg5 := HG3.out.kept hk5 id
        obtain ⟨a0, a1, a2, a3, a4, a5, a6, a7, a8, a9, a10, a11, a12, a13⟩ := cells14 hg5
        obtain ⟨b0, b1, b2, b3, b4, b5, b6, b7, b8, b9, b10, b11, b12, b13⟩ := cells14 hb5
        have fx := hg5.frozen
        go_upto_region 17 with (fail)
        rw [← rStored_def wc g z2.1]
        have hkp := rStored_kept wc g z2.1 (.slice A7 z2.1.hosts.length c7) (.slice A8 z2.1.live.length c8)
        have hg6 := rStored_blk hg5 z2.1 (.slice A7 z2.1.hosts.length c7) (.slice A8 z2.1.live.length c8)
        have hr6 := (HR1.out.kept hk5).stored hg5 hkp
        have ha6 := Sl.storedR (SlK.keptNone HA1.out hk5) hg5 hkp (by decide)
        have hf6 := hf5.stored hg5 hlg hkp
        have hb6 := ha5.stored hg5 hkp
        have hs6 := Lo.kept (HS3.out.keptNone hk5) hkp (fun i hi e => by omega)
        have hk6 := (HK3.out.trans hk5 (fun _ _ h => h.elim)).trans hkp (fun i _ e => by omega)
        generalize rStored wc g z2.1 _ _ = w6 at *
        clear a0 a1 a2 a3 a4 a5 a6 a7 a8 a9 a10 a11 a12 a13 b0 b1 b2 b3 b4 b5 b6 b7 b8 b9 b10 b11 b12 b13 fx hkp hg5 hb5 hf5 ha5 hk5 HR1 HA1 HG3 HF3 HS3 HK3 HMOD HC3
        go_wp2_with fail
        refine (Live_at hr6 HI2.out.liveOk).mono ?_
        rintro e w7 ⟨vl, rfl, hl7, hk7⟩
        replace hg6 := hg6.kept hk7 id
        replace hr6 := hr6.kept hk7
        replace ha6 := SlK.keptNone ha6 hk7
        replace hf6 := hf6.kept hk7
        replace hb6 := SlK.keptNone hb6 hk7
        replace hs6 := hs6.keptNone hk7
        replace hk6 := hk6.trans hk7 (fun _ _ h => h.elim)
        obtain ⟨A9, c9, rfl, -, -⟩ := hl7.shape
        clear hk7
        go_wp2_with fail
        refine (Counts_at hr6).mono ?_
        rintro e w8 ⟨rfl, n8, rfl⟩
        replace hg6 := hg6.drewN n8
        replace hr6 := hr6.drewN n8
        replace ha6 := SlK.drewN ha6 n8
        replace hf6 : RefAt (w7.drewN n8) w.heap.size z2.1 _ _ := ⟨hf6.1.drewN n8, hf6.2.drewN n8⟩
        replace hb6 := SlK.drewN hb6 n8
        replace hs6 := hs6.drewN n8
        replace hk6 := hk6.drewN n8
        replace hl7 := hl7.drewN n8
        generalize w7.drewN n8 = w8 at *
        have HG8 := Lib.hid hg6
        obtain ⟨a0, a1, a2, a3, a4, a5, a6, a7, a8, a9, a10, a11, a12, a13⟩ := cells14 hg6
        go_wp2_with fail
        refine region19_walk b bm g Av A7 A8 A9 cv c7 c8 c9 _ z2 w8 _ _ _ _ _ _ _ _ _ _ _ _ _ _ _ _ _ _ _ _ _ _ _ _ _ _ _ _ _ _ _ _ _ _ _ _ _ _ _ _ _ _ _ _ _ _ _ _ _ _ _ _ _ _ _ _ _ _ _ _ _ _ _ _ _ _ _ _ _ _ _ _ _ _ _ _ _ _ _ _ _ _ _ _ _ _ _ _ _ _ _ _ _ _ _ _ _ _ _ _ _ _ _ _ _ _ _ _ _ _ _ _ _ _ _ _ _ _ _ _ _ _ _ _ _ _ _ _ _ _ _ _ _ _ _ _ _ _ _ _ _ _ _ _ _ _ _ _ hg6 hr6 ha6 hb6 HAL ?_ _ (by kernel_rfl)
        intro v100 v101 v102 v103 v104 v105 v106 v107 v108 v109 v110 v111 v112 v113 v114 v115 v116 v117 v118 v119 v120 v121 v122 v123 v124 v125 v126 v127 v128 v129 v130 v131 v132 v133 v134 v135 v136 w9 k9
        have hg9 := hg6.kept k9 id
        have hr9 := hr6.kept k9
        have hf9 := hf6.kept k9
        have hs9' := hs6.keptNone k9
        have hk9' := hk6.trans k9 (fun _ _ h => h.elim)
        have hl9 := hl7.keptNone k9
        clear hb6 ha6 k9 hg6 hr6 hf6 hs6 hk6 hl7 HG8
        obtain ⟨-, -, -, -, -, -, -, -, a8, -⟩ := cells14 hg9
        have HG9 := Lib.hid hg9
        have HR9 := Lib.hid hr9
        have HF9 := Lib.hid hf9
        have HS9 := Lib.hid hs9'
        have HK9 := Lib.hid hk9'
        have HL9 := Lib.hid hl9
        have hL20 : z2.1.live.length ≤ 1000 := by have := HI2.out.len; omega
        clear hg9 hr9 hf9 hs9' hk9' hl9
        go_wp2
        go_loopg [26] z2.1.live.length (fun j vi wr => ∃ k : Nat, k + j = z2.1.live.length ∧ vi = .int .i64 k ∧ ∃ n, wr = w9.drewN n)
        case atStart => exact ⟨0, by omega, rfl, 0, rfl⟩
        case round =>
          obtain ⟨k, hkj, rfl, n, rfl⟩ := hrel
          by_cases hkl : k < z2.1.live.length
          · obtain ⟨p, hp⟩ : ∃ p, z2.1.live[k]? = some p := ⟨_, List.getElem?_eq_getElem hkl⟩
            obtain ⟨gi, oi, hidx1, hci⟩ := int_at (HL9.out.drewN n) hp
            obtain ⟨gt, ot, hidx2, -, hct, -⟩ := t_at (HF9.out.2.drewN n) hp
            have a8n : (w9.drewN n).cell? ⟨g, 8, none⟩ = some (.slice A8 z2.1.live.length c8) := a8
            clear hp hidx
            go_wp2
            refine wp_region_sch (fun w' => w'.cell? ⟨gi, oi, none⟩ = some (.int .i64 p.1) ∧ w'.cell? ⟨gt, ot, none⟩ = some (.int .i64 p.1) ∧ w'.cell? ⟨g, 8, none⟩ = some (.slice A8 z2.1.live.length c8)) (.take 0 (.take 1 (.take 2 (.take 3 (.take 4 (.take 5 (.take 6 (.take 7 (.take 8 (.take 9 (.take 10 .nil))))))))))) (by kernel_rfl) (by kernel_rfl) (by kernel_rfl) ⟨hci, hct, a8n⟩ ?_
            repeat (first
              | (refine sch_takeE rfl rfl ?_
                 apply Exists.intro
                 refine ⟨fun w' hS => ?_, fun K hK => ?_⟩
                 · (obtain ⟨S0, S1, S2⟩ := hS; unfold takesAt; go_simp; rfl)
                 go_simp
                 refine hK _ ?_
                 clear hK K))
            refine sch_nil (NoPanic.normal ?_)
            go_wp2
            go_roundg (z2.1.live.length - (k + 1))
            case measure => omega
            case rel => exact ⟨k + 1, by omega, by go_num, n + 1, rfl⟩
          · clear a8
            go_wp2
            go_roundg (60 - (i + 1))
            case measure => have := HIJ.out; omega
            case rel =>
              have hij := HIJ.out
              exact ⟨i + 1, z2.1, now2, _, _, by omega, by go_num, rfl, hn3, hn4, by have := HI2.out; rw [Int.natCast_add]; exact this, HR9.out.drewN n, HG9.out.drewN n, ⟨HF9.out.1.drewN n, HF9.out.2.drewN n⟩, HS9.out.drewN n, HK9.out.drewN n⟩
    · by_cases hl : i < evs.length
      · have hi60' : i = 60 := by omega
        subst hi60'
        clear hlt
        go_wp2
        go_ret
        exact ⟨rfl, hkr.mono fun i hi h => by omega⟩
      · clear hlt
        go_wp2
        go_ret
        exact ⟨rfl, hkr.mono fun i hi h => by omega⟩
end Go.Proofs.Ytooedjedncokpaa

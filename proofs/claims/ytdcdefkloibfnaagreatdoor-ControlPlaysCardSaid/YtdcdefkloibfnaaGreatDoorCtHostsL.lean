/- ControlHosts: the walk. -/
import Derived.Test.YtdcdefkloibfnaaGreatDoorMg08
import Derived.Test.YtdcdefkloibfnaaGreatDoorMg09
namespace Go.Proofs.YtdcdefkloibfnaaGreatDoor
set_option linter.unusedVariables false
open Go.RowKit

/-- The error's number. -/
def codeP (R : Option (List Ho)) : Int := match R with
  | none => 11
  | some _ => 0
/-- Hosts handed back, read. -/
def HoRead (w : World) (A : Option Addr) (n c : Nat) (T : List HV) : Prop :=
  SlK w (fun k _ => k < w.heap.size) 5 (.slice A n c) n (T.flatMap hvC) ∧ T.length = n ∧ ∀ x ∈ T, x.toks.length ≤ 1000000 ∧ SlK w (fun k _ => k < w.heap.size) 1 (.slice x.ta x.tn x.tc) x.tn (x.toks.map (Value.int .i64))
theorem HostsPost.uni {w w' : World} {R : Option (List Ho)} {e : Ending} (h : HostsPost w R e w') (ht : ∀ hs, R = some hs → ∀ o ∈ hs, o.toks.length ≤ 250) :
    ∃ A n c T, e = .returned (.tuple #[.slice A n c, .int .i64 (codeP R)]) ∧ T.map HV.abs = R.getD [] ∧ HoRead w' A n c T ∧ Kept noBlock w w' := by
  obtain ⟨hk, h⟩ := h
  cases R with
  | none => exact ⟨none, 0, 0, [], h, rfl, ⟨SlK.nil _ _ _, rfl, fun x hx => by cases hx⟩, hk⟩
  | some hs =>
    obtain ⟨v', T, rfl, h1, h2, h3⟩ := h
    obtain ⟨A, c, rfl, -, -⟩ := (Sl.of_own h2).shape
    refine ⟨A, T.length, c, T, rfl, h1, ⟨(Sl.of_own h2).lo, rfl, fun x hx => ⟨?_, (h3 x hx).2.lo⟩⟩, hk⟩
    have := ht hs rfl x.abs (by rw [← h1]; exact List.mem_map.2 ⟨x, hx, rfl⟩)
    exact Nat.le_trans (show x.toks.length ≤ 250 from this) (by decide)
theorem XHostsPost.uni {w w' : World} {R : Option (List Ho)} {e : Ending} (h : XHostsPost w R e w') :
    ∃ A n c T, e = .returned (.tuple #[.slice A n c, .int .i64 (codeP R)]) ∧ RL w' (fun k => w.heap.size ≤ k) A n c T (R.getD []) ∧ Kept noBlock w w' := by
  obtain ⟨hk, h⟩ := h
  cases R with
  | none => exact ⟨none, 0, 0, [], h, ⟨rfl, rfl, SlK.nil _ _ _, fun x hx => by cases hx⟩, hk⟩
  | some hs =>
    obtain ⟨v', T, rfl, h1, h2, h3⟩ := h
    obtain ⟨A, c, rfl, -, -⟩ := (Sl.of_own h2).shape
    exact ⟨A, T.length, c, T, rfl, ⟨h1, by show hs.length = _; rw [← h1, List.length_map], (SlK.of_ownB h2).any fun g e _ hh => hh.1, fun x hx => (h3 x hx).2.any fun g e _ hh => hh.1⟩, hk⟩
theorem TblS.ok {t : TV2} (h : TblS t) : TblOk t := ⟨Nat.le_trans h.cn (by decide), Nat.le_trans h.rn (by decide), fun r hr => Nat.le_trans (h.row r hr).1 (by decide), fun r hr x hx => Nat.le_trans ((h.row r hr).2 x hx) (by decide)⟩
theorem tabOf_ok {w : World} {B : Nat} {x : XT} {t : TV2} (h : TblAt w B t) (hs : TblS t) {w' : World} {B' : Nat} (hx : XTAt w' B' x) (hv : x.vals = t.vals) (hc : x.cn = t.cn) (hr : x.rn = t.rn) : XTOk x := by
  have key : ∀ r ∈ x.rows, r.vs.length ≤ 30 ∧ ∀ v ∈ r.vs, v.2.length ≤ 300 := fun r hr => by
    have hm : r.vs ∈ t.vals := by rw [← hv]; exact List.mem_map.2 ⟨r, hr, rfl⟩
    obtain ⟨q, hq, he⟩ := List.mem_map.1 hm
    have h1 := hs.row q hq
    have h2 := h.rr q hq
    rw [← he]
    refine ⟨by show (q.vs.map VV.abs).length ≤ 30; rw [List.length_map, h2.1]; exact h1.1, fun v hv => ?_⟩
    obtain ⟨y, hy, rfl⟩ := List.mem_map.1 hv
    show y.l.length ≤ 300
    rw [(h2.2.2 y hy).1]
    exact h1.2 y hy
  exact ⟨by rw [hc]; exact Nat.le_trans hs.cn (by decide), by rw [hr]; exact Nat.le_trans hs.rn (by decide), fun r hr => by rw [← (hx.rr r hr).1]; exact Nat.le_trans (key r hr).1 (by decide), fun r hr v hv => Nat.le_trans ((key r hr).2 v hv) (by decide)⟩
set_option maxHeartbeats 4000000 in
set_option maxRecDepth 100000 in
theorem CtHosts_walk {w : World} {t : TV2} {A : Option Addr} {n c : Nat} {l : List UInt8} (hT : TblIn w w.heap.size t) (hs : Lo w w.heap.size 1 (.slice A n c) n (bsC l)) (hD : Doors w) :
    Calls Tryz.prog 3 #[t.v, .slice A n c] w fun e w' => e = .returned (.bool true) ∧ Kept noBlock w w' := by
  have hk1 : Kept noBlock w (w.alloc (.cells t.cells.toArray 28)) := (Kept.refl noBlock w).alloc _
  have hb1 := Blk.new w 28 t.cells.toArray
  have hlb := hs.run_len bytesT
  have hnm : n ≤ 9223372036854775807 := by obtain ⟨_, _, hv, h1, h2⟩ := hs.shape; cases hv; unfold maxLen at h2; omega
  have HT := Lib.hid hT
  have HS := Lib.hid hs
  have HD := Lib.hid hD
  have HK1 := Lib.hid hk1
  have HB1 := Lib.hid hb1
  have HAW := Lib.hid (aw23_at (w.alloc (.cells t.cells.toArray 28)) (hD.keptN hk1))
  clear hT hs hD hk1 hb1
  unfold TV2.cells at HAW HK1 HB1
  have HTV : Hid (t.v = .agg #[.int .i64 t.cnt, .slice t.ca t.cn t.cc, .bool t.more, .int .i64 t.sk, .slice t.sa t.sn t.sc, .slice t.ra t.rn t.rc]) := Lib.hid rfl
  rw [HTV.out]
  go_enter Tryz.func3, Tryz.ntmps3
  go_wp2_with fail
  go_at_call 8
  refine HAW.out.mono ?_
  rintro e w2 ⟨rfl, hk2⟩
  have HK2 := Lib.hid (HK1.out.trans hk2 fun _ _ h => h)
  have HB2 := Lib.hid (HB1.out.kept hk2 fun e => e)
  obtain ⟨c0, c1, c2, c3, c4, c5⟩ := cells6 HB2.out
  have HSL := Lib.hid (slight_at (HT.out.keptN HK2.out))
  rw [HTV.out] at HSL
  clear hk2
  go_wp2_with fail
  go_at_call 9
  refine HSL.out.mono ?_
  rintro e w3 ⟨b, rfl, hb, hk3⟩
  have HK3 := Lib.hid (HK2.out.trans hk3 fun _ _ h => h)
  have HB3 := Lib.hid (HB2.out.kept hk3 fun e => e)
  clear hk3 c0 c1 c2 c3 c4 c5
  cases b with
  | false =>
    clear hb
    go_wp2
    go_ret
    exact ⟨rfl, HK3.out⟩
  | true =>
    have HSM := Lib.hid (hb rfl)
    clear hb
    by_cases h300 : 300 < n
    · go_wp2
      go_ret
      exact ⟨rfl, HK3.out⟩
    obtain ⟨c0, c1, c2, c3, c4, c5⟩ := cells6 HB3.out
    have HH := Lib.hid (cHosts_at (HT.out.tbl.keptN HK3.out) HSM.out.ok (HD.out.keptN HK3.out))
    have HTO : Hid (∀ hs, hostsP t.names t.vals = some hs → ∀ o ∈ hs, o.toks.length ≤ 250) := Lib.hid fun hs hh => own_toks HT.out.tbl HSM.out.ok hh
    have HLE : Hid (∀ hs, hostsP t.names t.vals = some hs → hs.length ≤ 20) := Lib.hid fun hs hh => Nat.le_trans (own_len HT.out.tbl hh) HSM.out.rn
    rw [HTV.out] at HH
    go_wp2_with fail
    go_at_call 10
    refine HH.out.mono ?_
    intro e w4 hp
    obtain ⟨A4, n4, c4', T4, rfl, ha4, hr4, hk4⟩ := hp.uni HTO.out
    have HK4 := Lib.hid (HK3.out.trans hk4 fun _ _ h => h)
    have HB4 := Lib.hid (HB3.out.kept hk4 fun e => e)
    have HA4 := Lib.hid ha4
    have HR4 := Lib.hid hr4
    clear hp ha4 hr4 hk4 c0 c1 c2 c3 c4 c5 HH
    obtain ⟨c0, c1, c2, c3, c4, c5⟩ := cells6 HB4.out
    have HTB := Lib.hid (tabOf_at (HT.out.keptN HK4.out) HSM.out)
    rw [HTV.out] at HTB
    go_wp2_with fail
    go_at_call 12
    refine HTB.out.mono ?_
    rintro e w5 ⟨x, rfl, hx, hxn, hxv, hxc, hxr, hk5⟩
    have HK5 := Lib.hid (HK4.out.trans hk5 fun _ _ h => h)
    have HXH := Lib.hid (x3Hosts_at hx (tabOf_ok HT.out.tbl HSM.out hx hxv hxc hxr))
    have HK45 := Lib.hid hk5
    rw [hxn, hxv] at HXH
    clear hx hxn hxv hxc hxr hk5 c0 c1 c2 c3 c4 c5 HTB
    unfold XT.v at HXH ⊢
    go_wp2_with fail
    go_at_call 11
    refine HXH.out.mono ?_
    intro e w6 hp
    obtain ⟨A6, n6, c6, T6, rfl, hr6, hk6⟩ := hp.uni
    have HK6 := Lib.hid (HK5.out.trans hk6 fun _ _ h => h)
    have HK46 := Lib.hid (HK45.out.trans hk6 fun _ _ h => h)
    have HR6 := Lib.hid hr6
    clear hp hr6 hk6 HXH HAW HSL
    have HHS : Hid (((hostsP t.names t.vals).getD []).length ≤ 20 ∧ ∀ o ∈ (hostsP t.names t.vals).getD [], o.toks.length ≤ 250) := Lib.hid (by
      cases hR : hostsP t.names t.vals with
      | none => exact ⟨by simp, fun o ho => by simp at ho⟩
      | some hs => exact ⟨HLE.out hs hR, HTO.out hs hR⟩)
    generalize (hostsP t.names t.vals).getD [] = hs at *
    generalize codeP (hostsP t.names t.vals) = cd at *
    have hcd : (cd == cd) = true := beq_self_eq_true cd
    have hn4 : n4 ≤ 20 := by rw [← HR4.out.2.1, ← List.length_map (f := HV.abs), HA4.out]; exact HHS.out.1
    have HHF := Lib.hid (fun (W : World) (hW : Kept noBlock w6 W) => hof_at (((HR4.out.1.keptNone HK46.out)).keptNone hW) HR4.out.2.1 (by omega) (fun x hx => ⟨(HR4.out.2.2 x hx).1, ((HR4.out.2.2 x hx).2.keptNone HK46.out).keptNone hW⟩))
    rw [HA4.out] at HHF
    have HNM := Lib.hid (fun (W : World) (hW : Kept noBlock w W) => cName_at (SlK.keptNone HS.out hW) (HD.out.keptN hW))
    have HXN := Lib.hid (fun (W : World) => x3Name_at (bS l) W)
    have HBY := Lib.hid (fun (W : World) (hW : Kept noBlock w W) => bytes_str (SlK.keptNone HS.out hW))
    have htl : (bS l).data.toList = l := rfl
    rw [htl] at HXN
    have hse := strEq_self (bS (nameP l))
    clear htl HTO HLE
    go_wp2_with fail
    refine wp_region_sch (fun w' => Kept noBlock w6 w') (.take 0 (.take 1 (.take 2 (.take 3 (.take 4 (.take 6 (.one 5 (.one 7 (.take 8 (.take 9 (.take 10 (.take 12 (.take 13 (.one 11 (.one 14 (.take 15 (.take 16 (.take 17 .nil)))))))))))))))))) (by kernel_rfl) (by kernel_rfl) (by kernel_rfl) ((Kept.refl noBlock w6).drew) ?_
    repeat (first
      | (refine sch_takeE rfl rfl ?_
         apply Exists.intro
         refine ⟨fun w' hS => ?_, fun K hK => ?_⟩
         · (have q := HBY.out w' (HK6.out.trans hS fun _ _ e => e)
            clear hS
            unfold takesAt; go_simp; rfl)
         go_simp
         refine hK _ ?_
         clear hK K))
    refine sch_doK rfl rfl (fun K hK => ?_)
    go_simp
    go_at_call 14
    refine (HHF.out _ ((Kept.refl noBlock w6).drew)).mono ?_
    rintro e w7 ⟨A7, c7, l7, rfl, hr7, hk7⟩
    have HK7 := Lib.hid (((Kept.refl noBlock w6).drew).trans hk7 fun _ _ h => h)
    have HSA := Lib.hid (R18Same_at hr7 (HR6.out.keptN HK7.out) (by have := HHS.out.1; omega) (fun o ho => Nat.le_trans (HHS.out.2 o ho) (by decide)))
    refine hK _ _ HK7.out ?_
    clear hK K hk7 hr7
    repeat (first
      | (refine sch_takeE rfl rfl ?_
         apply Exists.intro
         refine ⟨fun w' hS => ?_, fun K hK => ?_⟩
         · (have q := HBY.out w' (HK6.out.trans hS fun _ _ e => e)
            clear hS
            unfold takesAt; go_simp; rfl)
         go_simp
         refine hK _ ?_
         clear hK K))
    refine sch_doK rfl rfl (fun K hK => ?_)
    go_simp
    go_at_call 13
    refine HSA.out.mono ?_
    rintro e w8 ⟨rfl, hk8⟩
    have HK8 := Lib.hid (HK7.out.trans hk8 fun _ _ h => h)
    refine hK _ _ HK8.out ?_
    clear hK K hk8
    repeat (first
      | (refine sch_takeE rfl rfl ?_
         apply Exists.intro
         refine ⟨fun w' hS => ?_, fun K hK => ?_⟩
         · (have q := HBY.out w' (HK6.out.trans hS fun _ _ e => e)
            clear hS
            unfold takesAt; go_simp; rfl)
         go_simp
         refine hK _ ?_
         clear hK K))
    refine sch_doK rfl rfl (fun K hK => ?_)
    go_simp
    go_at_call 15
    refine (HNM.out w8 (HK6.out.trans HK8.out fun _ _ h => h)).mono ?_
    rintro e w9 ⟨rfl, hk9⟩
    have HK9 := Lib.hid (HK8.out.trans hk9 fun _ _ h => h)
    refine hK _ _ HK9.out ?_
    clear hK K hk9
    repeat (first
      | (refine sch_takeE rfl rfl ?_
         apply Exists.intro
         refine ⟨fun w' hS => ?_, fun K hK => ?_⟩
         · (have q := HBY.out w' (HK6.out.trans hS fun _ _ e => e)
            clear hS
            unfold takesAt; go_simp; rfl)
         go_simp
         refine hK _ ?_
         clear hK K))
    refine sch_doK rfl rfl (fun K hK => ?_)
    go_simp
    go_at_call 16
    refine (HXN.out w9).mono ?_
    rintro e wa ⟨rfl, hwa⟩
    have HKa : Hid (Kept noBlock w6 wa) := Lib.hid (by obtain ⟨kq, rfl⟩ := hwa; exact HK9.out.drewN kq)
    refine hK _ _ HKa.out ?_
    clear hK K hwa
    repeat (first
      | (refine sch_takeE rfl rfl ?_
         apply Exists.intro
         refine ⟨fun w' hS => ?_, fun K hK => ?_⟩
         · (have q := HBY.out w' (HK6.out.trans hS fun _ _ e => e)
            clear hS
            unfold takesAt; go_simp; rfl)
         go_simp
         refine hK _ ?_
         clear hK K))
    refine sch_nil (NoPanic.normal ?_)
    go_wp2
    go_ret
    exact ⟨rfl, HK6.out.trans HKa.out fun _ _ h => h⟩
end Go.Proofs.YtdcdefkloibfnaaGreatDoor

/- StreamsDue: streams are due just from their moments on, the earliest ones first: it answers true. -/
import Derived.Test.YtelcielfhgijpaaDoorStDues24
import Derived.Deep.LoopGhost
namespace Go.Proofs.YtelcielfhgijpaaDoor
set_option linter.unusedVariables false
open Go.RowKit

theorem u64sT : SlT Tryd.prog 22 23 (.int .u64 0) 1 8 := ⟨Tryd.underlying22, by kernel_rfl, rfl, by decide, by decide⟩
theorem intsT : SlT Tryd.prog 31 3 (.int .i64 0) 1 8 := ⟨Tryd.underlying31, by kernel_rfl, rfl, by decide, by decide⟩
theorem u64_at {w : World} {ok : Nat → TypeId → Prop} {v : Value} {L : List Int} (h : SlK w ok 1 v L.length (L.map (Value.int .u64))) {i : Nat} {u : Int} (hi : L[i]? = some u) :
    ∃ g off, (∀ kd w', (Instr.indexAt 22 v (.int kd (i : Int))).run Tryd.prog w' = .ok (.pointer (some ⟨g, off, none⟩)) w') ∧ w.cell? ⟨g, off, none⟩ = some (.int .u64 u) := by
  have hlt : i < L.length := (List.getElem?_eq_some_iff.1 hi).1
  obtain ⟨g, off, h1, _, _, h3⟩ := h.run_index u64sT (i := (i : Int)) (k := i) rfl hlt
  exact ⟨g, off, h1, h3 0 _ (by rw [Nat.mul_one, Nat.add_zero, List.getElem?_map, hi]; rfl)⟩
theorem int_at {w : World} {ok : Nat → TypeId → Prop} {v : Value} {L : List Int} (h : SlK w ok 1 v L.length (L.map encI)) {i : Nat} {z u : Int} (hz : z = i) (hi : L[i]? = some u) :
    ∃ g off, (∀ kd w', (Instr.indexAt 31 v (.int kd z)).run Tryd.prog w' = .ok (.pointer (some ⟨g, off, none⟩)) w') ∧ w.cell? ⟨g, off, none⟩ = some (.int .i64 u) := by
  have hlt : i < L.length := (List.getElem?_eq_some_iff.1 hi).1
  obtain ⟨g, off, h1, _, _, h3⟩ := h.run_index intsT (i := z) (k := i) hz hlt
  exact ⟨g, off, h1, h3 0 _ (by rw [Nat.mul_one, Nat.add_zero, List.getElem?_map, hi]; rfl)⟩

set_option maxHeartbeats 4000000 in
set_option maxRecDepth 100000 in
theorem Dues_walk (v : Value) (us : List Int) (now : Int) (w : World) (hv : Lo w w.heap.size 1 v us.length (us.map (Value.int .u64))) (hT : Tab w) (hu : ∀ u ∈ us, 0 ≤ u ∧ u < 18446744073709551616) :
    Calls Tryd.prog 3 #[v, .int .u64 now] w fun e w' => e = .returned (.bool true) ∧ Kept noBlock w w' := by
  obtain ⟨A, cap, rfl, -, -⟩ := hv.shape
  have HT := Lib.hid hT
  have HU := Lib.hid hu
  clear hT hu
  have HV := Lib.hid hv
  by_cases hbad : us.length = 0 ∨ 100 < us.length
  · rcases hbad with hbad | hbad
    · clear hv
      rw [hbad] at *
      go_enter Tryd.func3, Tryd.ntmps3
      go_wp2_with (go_at_call 8; refine (awake_at _ HT.out).mono ?_; rintro e w1 ⟨rfl, hk1⟩)
      go_ret
      exact ⟨rfl, hk1⟩
    · clear hv
      go_enter Tryd.func3, Tryd.ntmps3
      go_wp2_with (go_at_call 8; refine (awake_at _ HT.out).mono ?_; rintro e w1 ⟨rfl, hk1⟩)
      go_ret
      exact ⟨rfl, hk1⟩
  have hl1 : 1 ≤ us.length := by omega
  have hl2 : us.length ≤ 100 := by omega
  have hz0 : (((us.length : Nat) : Int) == 0) = false := by rw [beq_eq_false_iff_ne]; omega
  clear hv hbad
  go_enter Tryd.func3, Tryd.ntmps3
  go_wp2_with fail
  go_at_call 8
  refine (awake_at _ HT.out).mono ?_
  rintro e w1 ⟨rfl, hk1⟩
  have HK1 := Lib.hid hk1
  clear hk1
  go_wp2_with fail
  go_at_call 9
  refine (New_sw (n := (us.length : Int)) HK1.out HT.out (by omega) (by omega)).mono ?_
  rintro e w2 ⟨g, m1, m2, rfl, hs2, -, -⟩
  have START := Lib.hid (show SW w w2 g m1 m2 (XS.row us.length (us.take 0)) from hs2)
  clear hs2
  go_wp2_with fail
  go_loopg [8, 9] us.length (fun j vc vi wr => ∃ i : Nat, i + j = us.length ∧ vi = .int .i64 i ∧ vc = .int .i64 (((us.take i).countP fun u => decide (u ≤ now) : Nat) : Int) ∧ SW w wr g m1 m2 (XS.row us.length (us.take i)))
  case atStart => exact ⟨0, by omega, rfl, rfl, START.out⟩
  case round =>
    obtain ⟨i, hij, rfl, rfl, hs⟩ := hrel
    clear START
    have HS := Lib.hid hs
    have HIJ := Lib.hid hij
    have hcl : (us.take i).countP (fun u => decide (u ≤ now)) ≤ us.length := Nat.le_trans List.countP_le_length (by rw [List.length_take]; omega)
    by_cases hi : i < us.length
    · obtain ⟨u, hui⟩ : ∃ u, us[i]? = some u := ⟨_, List.getElem?_eq_getElem hi⟩
      obtain ⟨ga, oa, hidx, hca⟩ := u64_at (HV.out.keptNone hs.kept) hui
      have hub := HU.out u (List.mem_of_getElem? hui)
      have htk : (us.take i).length = i := by rw [List.length_take]; omega
      have hct : (us.take (i + 1)).countP (fun u => decide (u ≤ now)) = (us.take i).countP (fun u => decide (u ≤ now)) + if u ≤ now then 1 else 0 := by
        rw [List.take_add_one, hui, List.countP_append]
        simp [List.countP_cons]
      have htake := hs.take_ok u hub (id := i) (by simp only [XS.row]; omega) (by rw [row_owed, htk]; simp) (fun j hj => by rw [row_owed, htk]; simp [hj])
      have hnext : (XS.row us.length (us.take i)).take (i : Int) u = XS.row us.length (us.take (i + 1)) := by
        have := row_take (n := us.length) (l := us.take i) u
        rw [htk] at this
        rw [this, List.take_add_one, hui]
        rfl
      rw [hnext] at htake
      have hkg : (three g m1 m2) = three g m1 m2 := rfl
      have HTK := Lib.hid htake
      have HCT := Lib.hid hct
      have HUI := Lib.hid hui
      clear hs hij htake hct hnext hui hub htk hkg
      generalize (us.take i).countP (fun u => decide (u ≤ now)) = c at *
      go_wp2_with fail
      go_at_call 10
      refine HTK.out.mono ?_
      rintro e w3 ⟨rfl, hs3, hk3⟩
      have HS3 := Lib.hid hs3
      obtain ⟨ga, oa, hidx3, hca3⟩ := u64_at (HV.out.keptNone hs3.kept) HUI.out
      clear hs3 hk3 hca hidx
      by_cases hun : u ≤ now
      · go_wp2
        go_roundg (us.length - (i + 1))
        case measure => have := HIJ.out; omega
        case rel =>
          refine ⟨i + 1, by omega, by go_num, ?_, HS3.out⟩
          have := HCT.out
          rw [if_pos hun] at this
          rw [this]
          go_num
      · go_wp2
        go_roundg (us.length - (i + 1))
        case measure => have := HIJ.out; omega
        case rel =>
          refine ⟨i + 1, by omega, by go_num, ?_, HS3.out⟩
          have := HCT.out
          rw [if_neg (by omega)] at this
          rw [this]
          go_num
    · have hii : i = us.length := by omega
      subst hii
      rw [List.take_length] at *
      clear hs hij
      have hlen := due_length (n := us.length) (l := us) (now := now)
      rw [← hlen]
      have hmem := fun x => due_row_mem (n := us.length) (l := us) (now := now) (x := x)
      have hnx := fun (i : Nat) (x y : Int) => due_next (now := now) HS.out.ok (i := i) (x := x) (y := y)
      have hdue := HS.out.due now
      generalize (XS.row us.length us).due now = D at *
      have HM := Lib.hid hmem
      have HNX := Lib.hid hnx
      have HDUE := Lib.hid hdue
      have hD1 : D.length ≤ us.length := by rw [hlen]; exact List.countP_le_length
      clear hlen hmem hnx hdue hcl HIJ
      go_wp2_with fail
      go_at_call 11
      refine HDUE.out.mono ?_
      rintro e w3 ⟨B, c3, rfl, hsl, hs3, -⟩
      have HSL := Lib.hid hsl
      have HV3 := Lib.hid (HV.out.keptNone hs3.kept)
      have HK3 := Lib.hid hs3.kept
      clear hsl hs3 HDUE
      go_wp2_with fail
      go_loopg [13] D.length (fun j vi wr => ∃ i : Nat, i + j = D.length ∧ vi = .int .i64 i ∧ ∃ n, wr = w3.drewN n)
      case atStart => exact ⟨0, by omega, rfl, 0, rfl⟩
      case round =>
        obtain ⟨i, hij, rfl, n, rfl⟩ := hrel
        have HIJ := Lib.hid hij
        clear hij
        by_cases hi : i < D.length
        · obtain ⟨x, hx⟩ : ∃ x, D[i]? = some x := ⟨_, List.getElem?_eq_getElem hi⟩
          obtain ⟨jx, ux, rfl, hjx, hux⟩ := HM.out x (List.mem_of_getElem? hx)
          have hjl : jx < us.length := (List.getElem?_eq_some_iff.1 hjx).1
          obtain ⟨gu, ou, hiu, hcu⟩ := u64_at (HV3.out.drewN n) hjx
          cases i with
          | zero =>
            obtain ⟨gd, od, hid, hcd⟩ := int_at (HSL.out.drewN n) (z := 0) rfl hx
            clear hx hjx
            go_wp2
            go_quiet (fail)
            go_wp2
            go_roundg (D.length - 1)
            case measure => have := HIJ.out; omega
            case rel => exact ⟨1, by omega, by go_num, n + nq, rfl⟩
          | succ k =>
            obtain ⟨gd, od, hid, hcd⟩ := int_at (HSL.out.drewN n) (z := (k : Int) + 1) (by omega) hx
            obtain ⟨y, hy⟩ : ∃ y, D[k]? = some y := ⟨_, List.getElem?_eq_getElem (by omega)⟩
            obtain ⟨jy, uy, rfl, hjy, huy⟩ := HM.out y (List.mem_of_getElem? hy)
            have hyl : jy < us.length := (List.getElem?_eq_some_iff.1 hjy).1
            obtain ⟨ge, oe, hie, hce⟩ := int_at (HSL.out.drewN n) (z := (k : Int)) rfl hy
            have hie2 : ∀ kd w', (Instr.indexAt 31 (.slice B D.length c3) (.int kd ((k : Int) + 1 - 1))).run Tryd.prog w' = .ok (.pointer (some ⟨ge, oe, none⟩)) w' := by
              rw [show (k : Int) + 1 - 1 = (k : Int) by omega]; exact hie
            obtain ⟨gv, ov, hiv, hcv⟩ := u64_at (HV3.out.drewN n) hjy
            have hnext := HNX.out k _ _ hy hx
            have ex : (XS.row us.length us).till (jx : Int) = ux := row_till hjx
            have ey : (XS.row us.length us).till (jy : Int) = uy := row_till hjy
            rw [ex, ey] at hnext
            clear hx hjx hy hjy ex ey
            have hnz : ¬ ((jx : Int) < 0) := by omega
            have hcd3 : w3.cell? ⟨gd, od, none⟩ = some (.int .i64 (jx : Int)) := hcd
            have hcu3 : w3.cell? ⟨gu, ou, none⟩ = some (.int .u64 ux) := hcu
            have hce3 : w3.cell? ⟨ge, oe, none⟩ = some (.int .i64 (jy : Int)) := hce
            have hcv3 : w3.cell? ⟨gv, ov, none⟩ = some (.int .u64 uy) := hcv
            have hwk : IntKind.i64.wrap (k : Int) = (k : Int) := by rw [IntKind.wrap_i64]; omega
            rcases hnext with hlt | ⟨heq, hlt⟩
            · have hne : (uy == ux) = false := by rw [beq_eq_false_iff_ne]; omega
              have hle : ¬ ux < uy := by omega
              go_wp2
              refine r24_lt A B cap c3 us.length D.length k jx jy gd od ge oe gu ou gv ov ux uy _ _ _ _ _ _ _ _ _ _ _ _ _ _ _ _ _ _ _ _ _ _ _ _ _ _ _ _ _ _ _ _ _ _ _ _ _ _ _ _ _ _ _ _ _ _ _ _ _ _ _ _ _ _ _ _ _ _ _ _ _ _ _ _ _ _ _ _ _ _ _ _ _ _ _ _ _ _ _ _ _ _ _ _ _ _ _ _ _ _ _ _ _ _ _ _ _ _ _ _ _ _ _ _ _ _ _ _ _ _ _ _ _ _ _ _ _ _ _ _ _ _ _ _ _ _ _ _ _ _ _ _ _ _ _ _ _ _ _ _ _ _ _ _ _ _ _ _ _ _ hid hie hiu hiv hcd hce hcu hcv hwk (by rw [beq_eq_false_iff_ne]; omega) (by omega) ?_ _ (by kernel_rfl)
              intro v97 v98 v99 v100 v101 v102 v103 v104 v105 v106 v107 v108 v109 v110 v111 v112 v113 v114 v115 v116 v117 v118 v119 v120 v121 v122 v123 v124 v125 v126 v127 v128 v129 v130 v131 v132 v133 v134 v135 v136 v137 v138 v139 v140 v141 v142 v143 v144 v145
              clear hid hie hiu hiv hcd hce hcu hcv hcd3 hce3 hcu3 hcv3 hie2
              go_wp2
              go_roundg (D.length - (k + 1 + 1))
              case measure => have := HIJ.out; omega
              case rel => exact ⟨k + 1 + 1, by omega, by go_num, n + 1, rfl⟩
            · have hjj : jy < jx := by omega
              go_wp2
              refine r24_eq A B cap c3 us.length D.length k jx jy gd od ge oe gu ou gv ov ux uy _ _ _ _ _ _ _ _ _ _ _ _ _ _ _ _ _ _ _ _ _ _ _ _ _ _ _ _ _ _ _ _ _ _ _ _ _ _ _ _ _ _ _ _ _ _ _ _ _ _ _ _ _ _ _ _ _ _ _ _ _ _ _ _ _ _ _ _ _ _ _ _ _ _ _ _ _ _ _ _ _ _ _ _ _ _ _ _ _ _ _ _ _ _ _ _ _ _ _ _ _ _ _ _ _ _ _ _ _ _ _ _ _ _ _ _ _ _ _ _ _ _ _ _ _ _ _ _ _ _ _ _ _ _ _ _ _ _ _ _ _ _ _ _ _ _ _ _ _ _ hid hie hiu hiv hcd hce hcu hcv hwk (by omega) (by omega) ?_ _ (by kernel_rfl)
              intro v97 v98 v99 v100 v101 v102 v103 v104 v105 v106 v107 v108 v109 v110 v111 v112 v113 v114 v115 v116 v117 v118 v119 v120 v121 v122 v123 v124 v125 v126 v127 v128 v129 v130 v131 v132 v133 v134 v135 v136 v137 v138 v139 v140 v141 v142 v143 v144 v145
              clear hid hie hiu hiv hcd hce hcu hcv hcd3 hce3 hcu3 hcv3 hie2
              go_wp2
              go_roundg (D.length - (k + 1 + 1))
              case measure => have := HIJ.out; omega
              case rel => exact ⟨k + 1 + 1, by omega, by go_num, n + 1, rfl⟩
        · have hii : i = D.length := by have := HIJ.out; omega
          subst hii
          go_wp2
          go_ret
          exact ⟨by simp, HK3.out.drewN n⟩
end Go.Proofs.YtelcielfhgijpaaDoor

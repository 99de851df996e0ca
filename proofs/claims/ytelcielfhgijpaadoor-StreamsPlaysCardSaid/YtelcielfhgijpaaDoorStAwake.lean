/- Streams: the statements' first step. -/
import Derived.Test.YtelcielfhgijpaaDoorStSW
namespace Go.Proofs.YtelcielfhgijpaaDoor
set_option linter.unusedVariables false
open Go.RowKit

def exA : XS := ⟨2, [(0, 5)], []⟩
def exB : XS := ⟨2, [(0, 5), (1, 3)], []⟩
def exC : XS := ⟨2, [(0, 5)], [(1, true)]⟩
def exD : XS := ⟨2, [(0, 5)], []⟩
theorem awake_due : exB.due 5 = [1, 0] := by
  have h1 : exB.ripe 5 (exB.asked.map (·.1)) = [0, 1] := by decide
  unfold XS.due
  rw [h1, XS.sort_perm _ (show [(0 : Int), 1].Perm [1, 0] from .swap _ _ _)]
  apply List.mergeSort_of_pairwise
  decide
theorem two_of {j : Nat} (h : (j : Int) < 2) : j = 0 ∨ j = 1 := by omega

set_option maxHeartbeats 2000000 in
set_option maxRecDepth 100000 in
theorem awake_at (w : World) (hT : Tab w) : Calls Tryd.prog 8 #[] w fun e w' => e = .returned (.bool true) ∧ Kept noBlock w w' := by
  have HT := Lib.hid hT
  clear hT
  go_enter Tryd.func8, Tryd.ntmps8
  go_wp2_with fail
  go_at_call 9
  refine (New_sw (n := 2) (Kept.refl _ w) HT.out (by decide) (by decide)).mono ?_
  rintro e w1 ⟨g, m1, m2, rfl, hs1, -, -⟩
  have H1 := Lib.hid hs1
  clear hs1
  go_wp2_with fail
  go_at_call 10
  refine (H1.out.take_ok 5 (by decide) (id := 0) (by decide) (by decide) (fun j hj => by omega)).mono ?_
  rintro e w2 ⟨rfl, hs2, -⟩
  have H2 := Lib.hid (show SW w w2 g m1 m2 exA from hs2)
  clear hs2 H1
  go_wp2_with fail
  go_at_call 10
  refine (H2.out.take_ok 3 (by decide) (id := 1) (by decide) (by decide) (fun j hj => by
    have hj0 : j = 0 := by omega
    subst hj0
    decide)).mono ?_
  rintro e w3 ⟨rfl, hs3, -⟩
  have H3 := Lib.hid (show SW w w3 g m1 m2 exB from hs3)
  clear hs3 H2
  go_wp2_with fail
  go_at_call 10
  refine (H3.out.take_busy 9 (by decide) (fun j hj => by
    rcases two_of hj with rfl | rfl <;> decide)).mono ?_
  rintro e w4 ⟨rfl, hs4, -⟩
  have H4 := Lib.hid hs4
  clear hs4 H3
  go_wp2_with fail
  go_at_call 11
  refine (H4.out.due 5).mono ?_
  rintro e w5 ⟨A, c, rfl, hsl, hs5, -⟩
  rw [awake_due] at *
  have H5 := Lib.hid hs5
  have HSL := Lib.hid hsl
  clear hs5 H4 hsl
  go_wp2_with fail
  go_at_call 12
  refine (H5.out.orphan_ok 1 (by decide)).mono ?_
  rintro e w6 ⟨rfl, hs6, hk6⟩
  have H6 := Lib.hid (show SW w w6 g m1 m2 exC from hs6)
  have HSL6 := Lib.hid (SlK.kept (S := three g m1 m2) HSL.out hk6 (fun i cs fz hi hh => by
    obtain ⟨cs5, k5, hb, hc, ha, ho, -, -⟩ := H5.out.at_
    rcases hi with rfl | rfl | rfl
    · unfold Blk at hb; rw [hb] at hh; injection hh with hh; injection hh with _ h2; exact absurd h2 (by decide)
    · obtain ⟨_, _, hm⟩ := ha.heap; rw [hm] at hh; cases hh
    · obtain ⟨_, _, hm⟩ := ho.heap; rw [hm] at hh; cases hh))
  clear hs6 hk6 H5 HSL
  go_wp2_with fail
  go_at_call 13
  refine (H6.out.answer_ok 1 (by decide)).mono ?_
  rintro e w7 ⟨rfl, hs7, hk7⟩
  have H7 := Lib.hid (show SW w w7 g m1 m2 exD from hs7)
  have HSL7 := Lib.hid (SlK.kept (S := three g m1 m2) HSL6.out hk7 (fun i cs fz hi hh => by
    obtain ⟨cs5, k5, hb, hc, ha, ho, -, -⟩ := H6.out.at_
    rcases hi with rfl | rfl | rfl
    · unfold Blk at hb; rw [hb] at hh; injection hh with hh; injection hh with _ h2; exact absurd h2 (by decide)
    · obtain ⟨_, _, hm⟩ := ha.heap; rw [hm] at hh; cases hh
    · obtain ⟨_, _, hm⟩ := ho.heap; rw [hm] at hh; cases hh))
  clear hs7 hk7 H6 HSL6
  rw [show (aget (1 : Int) exC.asked).isSome = false from rfl]
  go_wp2_with fail
  go_at_call 9
  refine (New_bad (n := 0) w7 (by decide)).mono ?_
  rintro e w8 ⟨rfl, rfl⟩
  obtain ⟨ga, oa, ca, hA, -, -, -, hcell⟩ := HSL7.out.form (by decide)
  injection hA with hA1 _ hA2
  subst hA1 hA2
  have hcell0 := hcell 0 (.int .i64 1) rfl
  rw [Nat.add_zero] at hcell0
  have hO0 := Owed_at H7.out.at_ 0
  have hO1 := Owed_at H7.out.at_ 1
  rw [show exD.owed 0 = true from rfl] at hO0
  rw [show exD.owed 1 = false from rfl] at hO1
  have HO0 := Lib.hid hO0
  have HO1 := Lib.hid hO1
  have HK := Lib.hid H7.out.kept
  clear hO0 hO1 hcell
  go_wp2_with fail
  go_at_call 19
  refine HO0.out.mono ?_
  rintro e w9 ⟨rfl, rfl⟩
  go_wp2_with fail
  go_at_call 19
  refine HO1.out.mono ?_
  rintro e w10 ⟨rfl, rfl⟩
  go_wp2_with fail
  go_ret
  exact ⟨rfl, HK.out⟩
end Go.Proofs.YtelcielfhgijpaaDoor

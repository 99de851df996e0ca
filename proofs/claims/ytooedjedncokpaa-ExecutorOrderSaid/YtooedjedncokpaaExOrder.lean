/- ExecutorOrder: hosts that refuse are tried one behind the other; when all have, the last one's word is told: it answers true. -/
import Derived.Test.YtooedjedncokpaaExAwake
import Derived.Test.YtooedjedncokpaaExOrdPure
import Derived.Test.YtooedjedncokpaaBits
namespace Go.Proofs.Ytooedjedncokpaa
open Go.RowKit
open Go.ChangeMaps (setBlock)

def letters10 : List ByteArray := [bS 97, bS 98, bS 99, bS 100, bS 101, bS 102, bS 103, bS 104, bS 105, bS 106]
/-- After i hosts have refused. -/
def OrdRel (w : World) (b m : Nat) (hv : Value) (R : Nat → XReq) (A : Nat → List XAct) (l : List ByteArray) (j : Nat) (va vi : Value) (wr : World) : Prop :=
  ∃ i : Nat, i + j = l.length ∧ vi = .int .i64 i ∧ ReqAt wr b m (R i) ∧ ActsAt wr va (A i) ∧ Sl wr 9 1 hv l.length (l.map Value.string) ∧ Kept (fun i => w.heap.size ≤ i) w wr

theorem Done_is {x : Bool} {b m : Nat} {r : XReq} (w : World) (h : ReqAt w b m r) (hx : Hid (r.done = x)) :
    Calls Try.prog 10 #[.pointer (some ⟨b, 0, none⟩)] w fun e w' => e = .returned (.bool x) ∧ w = w' := by
  have := Done_at h; rw [hx.out] at this; exact this
def letterCells : Array Value := #[.string ⟨#[97]⟩, .string ⟨#[98]⟩, .string ⟨#[99]⟩, .string ⟨#[100]⟩, .string ⟨#[101]⟩, .string ⟨#[102]⟩, .string ⟨#[103]⟩, .string ⟨#[104]⟩, .string ⟨#[105]⟩, .string ⟨#[106]⟩]
theorem letters_at (w : World) (k : Nat) (hk : k ≤ 10) : Sl (w.alloc (.cells letterCells 9)) 9 1 (.slice (some ⟨w.heap.size, 0, none⟩) k 10) (letters10.take k).length ((letters10.take k).map Value.string) := by
  have h := Sl.cutAt (Blk.new w 9 letterCells) (N := 10) rfl hk (by decide)
  have e1 : (letters10.take k).length = k := by rw [List.length_take]; simp [letters10]; omega
  have e2 : (letters10.take k).map Value.string = letterCells.toList.take k := by rw [List.map_take]; rfl
  rw [e1, e2]; exact h

set_option maxHeartbeats 1000000 in
set_option maxRecDepth 100000 in
theorem Order_walk (n c0 c1 c2 c3 why : Int) (idem : Bool) (hn0 : 0 ≤ n) (hn1 : n ≤ 255) (w : World) :
    Calls Try.prog 3 #[.int .u8 n, .agg #[.int .i64 c0, .int .i64 c1, .int .u64 c2, .int .i64 c3], .bool idem, .int .i64 why] w fun e w' => e = .returned (.bool true) ∧ Kept noBlock w w' := by
  obtain ⟨k, hk⟩ : ∃ k : Nat, n % 10 + 1 = (k : Int) := ⟨(n % 10 + 1).toNat, by omega⟩
  have hk1 : 1 ≤ k := by omega
  have hk10 : k ≤ 10 := by omega
  have hmod0 : 0 ≤ n % 10 := by omega
  have hmod1 : n % 10 ≤ 9 := by omega
  obtain ⟨y, hy⟩ : ∃ y, bits BinOp.and IntKind.i64 why 63 = y := ⟨_, rfl⟩
  have hy0 : 0 ≤ y := by rw [← hy, i64_and63]; omega
  have hy1 : y ≤ 63 := by rw [← hy, i64_and63]; omega
  have hbx := Blk.new w 24 #[.int .i64 c0, .int .i64 c1, .int .u64 c2, .int .i64 c3]
  go_enter Try.func3, Try.ntmps3
  go_wp2_with (go_at_call 8; refine (awake_at _).mono ?_; rintro e w1 ⟨rfl, hkw⟩; obtain ⟨g0, g1, g2, g3⟩ := cells4 (hbx.kept hkw id); have hsz : w.heap.size < w1.heap.size := by (have := hkw.size; rw [sz_alloc] at this; omega))
  have hlet := letters_at w1 k hk10
  have hlen : (letters10.take k).length = k := by rw [List.length_take]; simp [letters10]; omega
  have hne : letters10.take k ≠ [] := by intro e; rw [e] at hlen; simp at hlen; omega
  have hst := ord_start c0 c1 c2 c3 idem (letters10.take k) (y + 1) hne
  have kw1 : Kept noBlock w (w1.alloc (.cells letterCells 9)) := (((Kept.refl noBlock w).alloc _).trans hkw (fun _ _ h => h)).alloc _
  have HLET := Lib.hid hlet
  have HLEN := Lib.hid hlen
  clear hlet hlen hne hkw hbx g0 g1 g2 g3
  generalize letters10.take k = l at *
  refine (New_is idem 0 9 HLET.out (by rw [HLEN.out]; omega) hst).mono ?_
  rintro e w2 ⟨b, m, v0, rfl, hb, hm, ha, hr, hkn⟩
  have hlow : w.heap.size ≤ b ∧ w.heap.size ≤ m := by rw [sz_alloc] at hb hm; omega
  have kw2 : Kept (fun i => w.heap.size ≤ i) w w2 := (kw1.trans hkn (fun _ _ h => h)).of_none
  have hsl := SlK.kept HLET.out hkn (fun _ _ _ h => h.elim)
  rw [HLEN.out] at hsl
  have START : Hid (OrdRel w b m (.slice (some ⟨w1.heap.size, 0, none⟩) k 10) (ordR c0 c1 c2 c3 idem l) (ordA l (y + 1)) l k v0 (.int .i64 0) w2) := ⟨0, by rw [HLEN.out]; omega, rfl, hr, ha, by rw [HLEN.out]; exact hsl, kw2⟩
  clear hsl kw2 ha hr hkn hb hm HLET kw1 hst hk
  go_wp2
  go_loopg [14, 15] k (fun j va vi wr => OrdRel w b m (.slice (some ⟨w1.heap.size, 0, none⟩) k 10) (ordR c0 c1 c2 c3 idem l) (ordA l (y + 1)) l j va vi wr)
  case atStart => exact START.out
  case round =>
    obtain ⟨i, hij, rfl, hr, ha, hs, hkr⟩ := hrel
    clear START
    by_cases hlt : i < k
    · have hil : i < l.length := by rw [HLEN.out]; exact hlt
      have hstep := ord_step c0 c1 c2 c3 idem l (y + 1) i hil
      have hR := ordR_at c0 c1 c2 c3 idem l i hil
      have ha1 := ha
      rw [ordA_at l (y + 1) i hil] at ha1
      have hdone : (ordR c0 c1 c2 c3 idem l i).done = false := by rw [hR]
      have htr : okT (ordR c0 c1 c2 c3 idem l i) := by rw [hR]; constructor <;> dsimp only <;> omega
      obtain ⟨g, off, cap, rfl⟩ := acts_one ha1
      obtain ⟨q0, q1, q2, q3⟩ := acts_cells1 ha1
      obtain ⟨gh, oh, hidx, -, -, hcell⟩ := hs.run_index strsT (i := (i : Int)) (k := i) rfl hil
      have hch := hcell 0 (.string l[i]) (by simp)
      simp only [Nat.add_zero] at hch
      dsimp only at q0 q1 q2 q3
      have HD := Lib.hid hdone
      have HST := Lib.hid hstep
      have HKR := Lib.hid hkr
      have HIJ := Lib.hid hij
      clear hdone hstep hR ha1 hcell hkr hij
      go_wp2
      go_quiet ((go_at_call 10; exact quiet_same (Done_is _ (hr.drewN _) HD)))
      go_wp2_with fail
      refine (Refused_at i (y + 1) (hr.drewN nq) htr).mono ?_
      rw [HST.out]
      rintro e w3 ⟨v1, rfl, ha1, hr1, hk1⟩
      go_wp2
      go_roundg (k - (i + 1))
      case measure => have := HIJ.out; have := HLEN.out; omega
      case rel =>
        have hij := HIJ.out
        have hle := HLEN.out
        exact ⟨i + 1, by omega, by go_num, hr1, ha1, (hs.drewN nq).kept hk1 ((hr.drewN nq).apart (by decide)), (HKR.out.drewN nq).trans hk1 (fun i _ h => by rcases h with rfl | rfl <;> omega)⟩
    · have hik : i = k := by have := HLEN.out; omega
      subst hik
      have hR : ordR c0 c1 c2 c3 idem l i = ⟨c0, c1, c2, c3, [], idem, 0, 9, [], i, 0, 0, 0, true⟩ := by
        have := ordR_end c0 c1 c2 c3 idem l; rw [HLEN.out] at this; exact this
      have hA : ordA l (y + 1) i = [⟨3, (i : Int) - 1, noStr, y + 1⟩] := by
        have := ordA_end l (y + 1); rw [HLEN.out] at this; exact this
      rw [hR] at hr
      rw [hA] at ha
      obtain ⟨g, off, cap, rfl⟩ := acts_one ha
      obtain ⟨q0, q1, q2, q3⟩ := acts_cells1 ha
      dsimp only at q0 q1 q2 q3
      clear hR hA hij
      go_wp2_with (go_at_call 12; refine (Counts_at hr).mono ?_; rintro e w6 ⟨he, nc, rfl⟩; obtain rfl : e = .returned (.tuple #[.int .i64 (i : Int), .int .i64 0, .int .i64 0]) := he)
      refine (Done_at (hr.drewN nc)).mono ?_
      rintro e w6 ⟨he, rfl⟩
      obtain rfl : e = .returned (.bool true) := he
      go_wp2
      go_ret
      exact ⟨rfl, (hkr.drewN nc).mono fun i hi h => by omega⟩
end Go.Proofs.Ytooedjedncokpaa

/- ExecutorFails: errors that are to be tried at the next host are tried again as often as may be, then told; where no host is left, too: it answers true. -/
import Derived.Test.YtooedjedncokpaaExAwake
import Derived.Test.YtooedjedncokpaaExFailsPure
namespace Go.Proofs.Ytooedjedncokpaa
set_option linter.unusedVariables false
open Go.RowKit
open Go.ChangeMaps (setBlock)

def letters6 : List ByteArray := [bS 97, bS 98, bS 99, bS 100, bS 101, bS 102]
def letterCells6 : Array Value := #[.string ⟨#[97]⟩, .string ⟨#[98]⟩, .string ⟨#[99]⟩, .string ⟨#[100]⟩, .string ⟨#[101]⟩, .string ⟨#[102]⟩]
theorem letters6_at (w : World) (k : Nat) (hk : k ≤ 6) : Sl (w.alloc (.cells letterCells6 9)) 9 1 (.slice (some ⟨w.heap.size, 0, none⟩) k 6) (letters6.take k).length ((letters6.take k).map Value.string) := by
  have h := Sl.cutAt (Blk.new w 9 letterCells6) (N := 6) rfl hk (by decide)
  have e1 : (letters6.take k).length = k := by rw [List.length_take]; simp [letters6]; omega
  have e2 : (letters6.take k).map Value.string = letterCells6.toList.take k := by rw [List.map_take]; rfl
  rw [e1, e2]; exact h

/-- After i errors. -/
def FailRel (w : World) (b m : Nat) (hv : Value) (st : Nat → XReq × List XAct) (l : List ByteArray) (want j : Nat) (va vn vi : Value) (wr : World) : Prop :=
  ∃ i : Nat, i + j = want ∧ vi = .int .i64 i ∧ vn = .int .i64 i ∧ ReqAt wr b m (st i).1 ∧ ActsAt wr va (st i).2 ∧ Sl wr 9 1 hv l.length (l.map Value.string) ∧ Kept (fun i => w.heap.size ≤ i) w wr

theorem Done_is {x : Bool} {b m : Nat} {r : XReq} (w : World) (h : ReqAt w b m r) (hx : Hid (r.done = x)) :
    Calls Try.prog 10 #[.pointer (some ⟨b, 0, none⟩)] w fun e w' => e = .returned (.bool x) ∧ w = w' := by
  have := Done_at h; rw [hx.out] at this; exact this
set_option maxHeartbeats 1000000 in
set_option maxRecDepth 100000 in
theorem Fails_walk (n q : Int) (hn0 : 0 ≤ n) (hn1 : n ≤ 255) (hq0 : 0 ≤ q) (hq1 : q ≤ 255) (w : World) :
    Calls Try.prog 4 #[.int .u8 n, .int .u8 q] w fun e w' => e = .returned (.bool true) ∧ Kept noBlock w w' := by
  obtain ⟨k, hk⟩ : ∃ k : Nat, n % 6 + 1 = (k : Int) := ⟨(n % 6 + 1).toNat, by omega⟩
  obtain ⟨m, hm⟩ : ∃ m : Nat, q % 8 = (m : Int) := ⟨(q % 8).toNat, by omega⟩
  have hk1 : 1 ≤ k := by omega
  have hk6 : k ≤ 6 := by omega
  have hm8 : m ≤ 7 := by omega
  have hmod0 : 0 ≤ n % 6 := by omega
  have hmod1 : n % 6 ≤ 5 := by omega
  go_enter Try.func4, Try.ntmps4
  go_wp2_with (go_at_call 8; refine (awake_at _).mono ?_; rintro e w1 ⟨rfl, hkw⟩)
  have hlet := letters6_at w1 k hk6
  have hlen : (letters6.take k).length = k := by rw [List.length_take]; simp [letters6]; omega
  have kw1 : Kept noBlock w (w1.alloc (.cells letterCells6 9)) := hkw.alloc _
  have HLET := Lib.hid hlet
  have HLEN := Lib.hid hlen
  clear hlet hlen hkw
  generalize letters6.take k = l at *
  refine (New_is false 0 9 HLET.out (by rw [HLEN.out]; omega) (Prod.eta _)).mono ?_
  rintro e w2 ⟨b, bm, v0, rfl, hb, hbm, ha, hr, hkn⟩
  have hlow : w.heap.size ≤ b ∧ w.heap.size ≤ bm := by have := kw1.size; omega
  have kw2 : Kept (fun i => w.heap.size ≤ i) w w2 := (kw1.trans hkn (fun _ _ h => h)).of_none
  have hsl := SlK.kept HLET.out hkn (fun _ _ _ h => h.elim)
  rw [HLEN.out] at hsl
  obtain ⟨want, hwant⟩ : ∃ want, want = min k (m + 1) := ⟨_, rfl⟩
  have START : Hid (FailRel w b bm (.slice (some ⟨w1.heap.size, 0, none⟩) k 6) (failSt m l) l want want v0 (.int .i64 0) (.int .i64 0) w2) := ⟨0, by omega, rfl, rfl, hr, ha, by rw [HLEN.out]; exact hsl, kw2⟩
  have HW := Lib.hid hwant
  have hwk : want ≤ k := by omega
  have hwm : want ≤ m + 1 := by omega
  clear hsl kw2 ha hr hkn hb hbm HLET kw1 hk hm hwant
  go_wp2
  go_loopg [10, 11, 12] want (fun j va vn vi wr => FailRel w b bm (.slice (some ⟨w1.heap.size, 0, none⟩) k 6) (failSt m l) l want j va vn vi wr)
  case atStart => exact START.out
  case round =>
    obtain ⟨i, hij, rfl, rfl, hr, ha, hs, hkr⟩ := hrel
    clear START
    have hi10 : i < 10 := by omega
    by_cases hlt : i < want
    · have hil : i < l.length := by rw [HLEN.out]; omega
      have hst := failSt_lt m l i hil (by omega)
      have HST := Lib.hid hst
      have ha1 := ha
      have hr1 := hr
      rw [hst] at ha1 hr1
      dsimp only at ha1 hr1
      have hA : okA (failR m l i) := ⟨by unfold failR; dsimp only; omega, by unfold failR; dsimp only; omega⟩
      have hT : okT (failR m l i) := ⟨by unfold failR; dsimp only; omega, by unfold failR; dsimp only; omega⟩
      obtain ⟨g, off, cap, rfl⟩ := acts_one ha1
      obtain ⟨q0, q1, q2, q3⟩ := acts_cells1 ha1
      obtain ⟨gh, oh, hidx, -, -, hcell⟩ := hs.run_index strsT (i := (i : Int)) (k := i) rfl hil
      have hch := hcell 0 (.string (l.getD i noStr)) (by simp [List.getD, List.getElem?_eq_getElem hil])
      simp only [Nat.add_zero] at hch
      dsimp only at q0 q1 q2 q3
      generalize l.getD i noStr = s at q2 hch
      have HKR := Lib.hid hkr
      have HIJ := Lib.hid hij
      have HR := Lib.hid hr1
      have hne : ((1 : Int) == 3) = false := rfl
      clear hst ha1 hcell hkr hij hr ha hr1
      go_wp2
      go_quiet (fail)
      go_wp2_with fail
      have hstep : (failR m l i).failed i ((zeroFault 4096).what (failR m l i)) = failSt m l (i + 1) := by rw [failSt, HST.out]; rfl
      refine (Failed_call i 4096 (HR.out.drewN nq) hT hA (by unfold failR; exact Int.le_refl 0) (by unfold failR; show (0 : Int) < 4611686018427387904; decide)).mono ?_
      rw [hstep]
      rintro e w3 ⟨v1, rfl, ha1, hr1, hk1⟩
      clear hstep
      go_wp2
      go_roundg (want - (i + 1))
      case measure => have := HIJ.out; omega
      case rel =>
        have hij := HIJ.out
        exact ⟨i + 1, by omega, by go_num, by go_num, hr1, ha1, (hs.drewN nq).kept hk1 ((HR.out.drewN nq).apart (by decide)), (HKR.out.drewN nq).trans hk1 (fun i _ h => by rcases h with rfl | rfl <;> omega)⟩
    · obtain ⟨i', rfl⟩ : ∃ i', i = i' + 1 := ⟨i - 1, by have := HW.out; omega⟩
      have hE := failSt_end m l i' (by rw [HLEN.out]; have := HW.out; omega)
      obtain ⟨hd, hacts⟩ := hE
      rw [hacts] at ha
      obtain ⟨g, off, cap, rfl⟩ := acts_one ha
      obtain ⟨q0, q1, q2, q3⟩ := acts_cells1 ha
      dsimp only at q0 q1 q2 q3
      have HD := Lib.hid hd
      have HFIN := Lib.hid (show i' + 1 = k ∧ i' < m ∨ i' = m ∧ i' + 1 ≤ k by have := HW.out; omega)
      clear hd hacts hij
      rcases HFIN.out with ⟨h1, h2⟩ | ⟨h1, h2⟩
      · subst h1
        have t1 : decide (((i' + 1 : Nat) : Int) < (m : Int) + 1) = true := by simp; omega
        go_wp2_with (go_at_call 10; refine (Done_is _ hr HD).mono ?_; rintro e w6 ⟨rfl, rfl⟩)
        go_ret
        exact ⟨rfl, hkr.mono fun i hi h => by omega⟩
      · subst h1
        have t1 : decide ((k : Int) < (i' : Int) + 1) = false := by simp; omega
        go_wp2_with (go_at_call 10; refine (Done_is _ hr HD).mono ?_; rintro e w6 ⟨rfl, rfl⟩)
        go_ret
        exact ⟨rfl, hkr.mono fun i hi h => by omega⟩
end Go.Proofs.Ytooedjedncokpaa

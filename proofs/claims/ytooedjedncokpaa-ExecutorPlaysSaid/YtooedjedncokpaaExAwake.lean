/- The executor's law's awake: it answers true. -/
import Derived.Test.YtooedjedncokpaaExNew
import Derived.Test.YtooedjedncokpaaExFail
import Derived.Test.YtooedjedncokpaaExTick
namespace Go.Proofs.Ytooedjedncokpaa
set_option linter.unusedVariables false
open Go.RowKit
open Go.ChangeMaps (setBlock)

theorem acts_step {w w' : World} {b m : Nat} {r : XReq} {v : Value} {l : List XAct} (ha : ActsAt w v l) (hr : ReqAt w b m r) (hk : Kept (two b m) w w') : ActsAt w' v l := SlK.kept ha hk (hr.apart (by decide))
theorem acts_drewN {w : World} {v : Value} {l : List XAct} (ha : ActsAt w v l) (n : Nat) : ActsAt (w.drewN n) v l := ha
theorem acts_one {w : World} {v : Value} {a : XAct} (h : ActsAt w v [a]) : ∃ g off cap, v = .slice (some ⟨g, off, none⟩) 1 cap := by
  obtain ⟨g, off, cap, rfl, _⟩ := SlK.form h (by simp)
  exact ⟨g, off, cap, rfl⟩
theorem acts_cells1 {w : World} {g off cap : Nat} {a : XAct} (h : ActsAt w (.slice (some ⟨g, off, none⟩) 1 cap) [a]) :
    w.cell? ⟨g, off, none⟩ = some (.int .i64 a.kind) ∧ w.cell? ⟨g, off + 1, none⟩ = some (.int .i64 a.try_) ∧ w.cell? ⟨g, off + 2, none⟩ = some (.string a.host) ∧ w.cell? ⟨g, off + 3, none⟩ = some (.int .i64 a.why) := by
  obtain ⟨g', off', cap', he, _, _, _, hc⟩ := SlK.form h (by simp)
  injection he with h1 h2 h3
  injection h1 with h1
  injection h1 with h1 h4
  subst h1; subst h4
  exact ⟨hc 0 _ rfl, hc 1 _ rfl, hc 2 _ rfl, hc 3 _ rfl⟩
theorem acts_nils {w : World} {v : Value} (h : ActsAt w v []) : ∃ A cap, v = .slice A 0 cap := by
  obtain ⟨A, cap, rfl, _⟩ := SlK.shape h
  exact ⟨A, cap, rfl⟩

abbrev bS (n : UInt8) : ByteArray := ⟨#[n]⟩
def zeroFault (code : Int) : XFault := ⟨code, 0, 0, 0, 0, 0, noStr, noStr, noStr, noStr, .slice none 0 0, .slice none 0 0⟩
/-- An executor's New, as the walk meets it: b and m lie behind all that was there. -/
theorem Failed_call {b m : Nat} {r : XReq} (k code : Int) {w : World} (h : ReqAt w b m r) (hT : okT r) (hA : okA r) (hp0 : 0 ≤ r.prepared) (hp1 : r.prepared < 4611686018427387904) :
    Calls Try.prog 13 #[.pointer (some ⟨b, 0, none⟩), .int .i64 k, .agg #[.int .u32 code, .string noStr, .int .u16 0, .int .i32 0, .int .i32 0, .int .i32 0, .int .u8 0, .string noStr, .string noStr, .string noStr, .slice none 0 0, .slice none 0 0]] w (ReqPost w b m (r.failed k ((zeroFault code).what r))) :=
  Failed_at k (zeroFault code) h hT hA hp0 hp1

def aR0 : XReq := ⟨1, 1, 5, 1, [bS 98, bS 99], true, 0, 100, [(0, bS 97)], 1, 0, 0, 0, false⟩
def aR1 : XReq := ⟨1, 1, 5, 1, [bS 99], true, 0, 100, [(1, bS 98)], 2, 0, 0, 0, false⟩
def aR2 : XReq := ⟨1, 1, 5, 1, [bS 99], true, 0, 100, [(1, bS 98)], 2, 0, 0, 1, false⟩
def aR3 : XReq := ⟨1, 1, 5, 1, [], true, 0, 100, [(1, bS 98), (2, bS 99)], 3, 0, 1, 1, false⟩
def aR4 : XReq := ⟨1, 1, 5, 1, [], true, 0, 100, [], 3, 0, 1, 1, true⟩
theorem aE0 : (XReq.fresh 1 1 5 1 [bS 97, bS 98, bS 99] true 0 100).begin 40 (-1) = (aR0, [⟨1, 0, bS 97, 0⟩]) := rfl
theorem aE1 : aR0.refused 0 30 = (aR1, [⟨1, 1, bS 98, 0⟩]) := rfl
theorem aE2 : aR1.failed 1 ((zeroFault 9472).what aR1) = (aR2, [⟨2, 1, bS 98, 0⟩]) := rfl
theorem aE3 : aR2.tick 5 = (aR3, [⟨1, 2, bS 99, 0⟩]) := rfl
theorem aE4 : aR3.answered 2 = (aR4, [⟨3, 2, noStr, 0⟩]) := rfl
theorem aE5 : aR4.answered 1 = (aR4, []) := rfl

theorem strs_made {w : World} (a b c : ByteArray) : Sl (w.alloc (.cells #[.string a, .string b, .string c] 9)) 9 1 (.slice (some ⟨w.heap.size, 0, none⟩) 3 3) [a, b, c].length ([a, b, c].map Value.string) :=
  Sl.made (Blk.new _ _ _) rfl (by decide)
/-- What New leaves, told of a request and acts that are known. -/
theorem New_is {ok : Nat → TypeId → Prop} {retries extraMax wait prepares : Int} {v : Value} {l : List ByteArray} (idem : Bool) (now till : Int) {w : World} {r : XReq} {acts : List XAct} (h : SlK w ok 1 v l.length (l.map Value.string)) (hl : l.length * 16 ≤ 140737488355328) (he : (XReq.fresh retries extraMax wait prepares l idem now till).begin 40 (-1) = (r, acts)) :
    Calls Try.prog 9 #[.agg #[.int .i64 retries, .int .i64 extraMax, .int .u64 wait, .int .i64 prepares], v, .bool idem, .int .u64 now, .int .u64 till] w fun e w' =>
      ∃ b m v', e = .returned (.tuple #[.pointer (some ⟨b, 0, none⟩), v']) ∧ w.heap.size ≤ b ∧ w.heap.size ≤ m ∧ ActsAt w' v' acts ∧ ReqAt w' b m r ∧ Kept noBlock w w' := by
  have := New_at (retries := retries) (extraMax := extraMax) (wait := wait) (prepares := prepares) idem now till h hl
  rw [he] at this; exact this

/-- Below: what a law's own request leaves as it was. -/
theorem low {B b m : Nat} {w w' : World} (hb : B ≤ b) (hm : B ≤ m) (hB : B ≤ w.heap.size) (hk : Kept (two b m) w w') : Below B w w' :=
  hk.below hB fun k _ h => by rcases h with rfl | rfl <;> assumption

set_option maxHeartbeats 1000000 in
set_option maxRecDepth 100000 in
theorem awake_at (w : World) : Calls Try.prog 8 #[] w fun e w' => e = .returned (.bool true) ∧ Kept noBlock w w' := by
  have hsl := strs_made (w := w) (bS 97) (bS 98) (bS 99)
  have hk0 := (Kept.refl noBlock w).alloc (.cells #[.string (bS 97), .string (bS 98), .string (bS 99)] 9)
  go_enter Try.func8, Try.ntmps8
  go_wp2_with fail
  refine (New_is true 0 100 hsl (by decide) aE0).mono ?_
  rintro e w1 ⟨b, m, v0, rfl, hb, hm, ha0, hr0, hk1⟩
  obtain ⟨g0, o0, c0, rfl⟩ := acts_one ha0
  have K1 : Kept noBlock w w1 := hk0.trans hk1 fun _ _ h => h
  obtain ⟨q00, q01, q02, q03⟩ := acts_cells1 ha0
  rw [sz_alloc] at hb hm
  clear hsl hk0 hk1
  go_wp2_with fail
  refine (Refused_at 0 30 hr0 ⟨by decide, by decide⟩).mono ?_
  rw [aE1]
  rintro e w2 ⟨v1, rfl, ha1, hr1, hk1⟩
  obtain ⟨g1, o1, c1, rfl⟩ := acts_one ha1
  have K2 : Kept (fun i => w.heap.size ≤ i) w w2 := (K1.of_none).trans hk1 fun i _ h => by rcases h with rfl | rfl <;> omega
  clear q00 q01 q02 q03 hr0 ha0 hk1 K1
  go_wp2_with fail
  refine (Failed_call 1 9472 hr1 ⟨by decide, by decide⟩ ⟨by decide, by decide⟩ (by decide) (by decide)).mono ?_
  rw [aE2]
  rintro e w3 ⟨v2, rfl, ha2, hr2, hk1⟩
  obtain ⟨g2, o2, c2, rfl⟩ := acts_one ha2
  have K3 : Kept (fun i => w.heap.size ≤ i) w w3 := K2.trans hk1 fun i _ h => by rcases h with rfl | rfl <;> omega
  have hb1 := acts_step ha1 hr1 hk1
  clear hr1 ha1 hk1 K2
  go_wp2_with fail
  refine (Tick_at 5 1 hr2 (fun _ => ⟨by decide, by decide, by decide, by decide, by decide, by decide, by decide, by decide, by decide, by decide⟩)).mono ?_
  rw [aE3]
  rintro e w4 ⟨v3, rfl, ha3, hr3, hk1⟩
  obtain ⟨g3, o3, c3, rfl⟩ := acts_one ha3
  have K4 : Kept (fun i => w.heap.size ≤ i) w w4 := K3.trans hk1 fun i _ h => by rcases h with rfl | rfl <;> omega
  have hb2 := acts_step hb1 hr2 hk1
  have hc1 := acts_step ha2 hr2 hk1
  clear hr2 ha2 hk1 K3 hb1
  go_wp2_with fail
  refine (Answered_at 2 hr3).mono ?_
  rw [aE4]
  rintro e w5 ⟨v4, rfl, ha4, hr4, hk1⟩
  obtain ⟨g4, o4, c4, rfl⟩ := acts_one ha4
  have K5 : Kept (fun i => w.heap.size ≤ i) w w5 := K4.trans hk1 fun i _ h => by rcases h with rfl | rfl <;> omega
  obtain ⟨p10, p11, p12, p13⟩ := acts_cells1 (acts_step hb2 hr3 hk1)
  obtain ⟨p20, p21, p22, p23⟩ := acts_cells1 (acts_step hc1 hr3 hk1)
  obtain ⟨p30, p31, p32, p33⟩ := acts_cells1 (acts_step ha3 hr3 hk1)
  obtain ⟨p40, p41, p42, p43⟩ := acts_cells1 ha4
  clear hr3 ha3 hk1 K4 hb2 hc1 ha4
  go_wp2_with (go_at_call 12; refine (Counts_at hr4).mono ?_; rintro e w6 ⟨he, n, rfl⟩; obtain rfl : e = .returned (.tuple #[.int .i64 3, .int .i64 0, .int .i64 1]) := he)
  refine (Done_at (hr4.drewN n)).mono ?_
  rintro e w6 ⟨he, rfl⟩
  obtain rfl : e = .returned (.bool true) := he
  go_wp2_with fail
  refine (Answered_at 1 (hr4.drewN n)).mono ?_
  rw [aE5]
  rintro e w6 ⟨v5, rfl, ha5, hr5, hk1⟩
  obtain ⟨A5, c5, rfl⟩ := acts_nils ha5
  have K6 : Kept (fun i => w.heap.size ≤ i) w w6 := (K5.drewN n).trans hk1 fun i _ h => by rcases h with rfl | rfl <;> omega
  clear hr4 hr5 ha5 hk1 K5
  go_wp2
  go_ret
  exact ⟨rfl, K6.mono fun i hi h => by omega⟩
end Go.Proofs.Ytooedjedncokpaa

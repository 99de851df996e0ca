/- The executor's operations: Answered, Refused, Lost, Prepared, Counts, Done. -/
import Derived.Test.YtooedjedncokpaaExWalk1
import Derived.Test.YtooedjedncokpaaExRetry
namespace Go.Proofs.Ytooedjedncokpaa
set_option linter.unusedVariables false
open Go.RowKit
open Go.ChangeMaps (setBlock)

def okT (r : XReq) : Prop := 0 ≤ r.tries ∧ r.tries < 4611686018427387904
def okA (r : XReq) : Prop := 0 ≤ r.again ∧ r.again < 4611686018427387904

theorem under_none {b m : Nat} {r : XReq} (k : Int) {w : World} (h : ReqAt w b m r) (hg : aget k r.live = none) :
    Calls Try.prog 26 #[.pointer (some ⟨b, 0, none⟩), .int .i64 k] w fun e w' => e = .returned (.tuple #[.string noStr, .bool false]) ∧ w = w' := by
  have := under_at k h; rw [hg] at this; exact this
theorem under_some {b m : Nat} {r : XReq} (k : Int) {s : ByteArray} {w : World} (h : ReqAt w b m r) (hg : aget k r.live = some s) :
    Calls Try.prog 26 #[.pointer (some ⟨b, 0, none⟩), .int .i64 k] w fun e w' => e = .returned (.tuple #[.string s, .bool true]) ∧ w = w' := by
  have := under_at k h; rw [hg] at this; exact this
theorem same_post {b m : Nat} {r : XReq} {w : World} (h : ReqAt w b m r) : ReqPost w b m (r, []) (.returned (.slice none 0 0)) w := ⟨_, rfl, ActsAt.none _, h, Kept.refl _ _⟩
/-- A try is struck off the map. -/
theorem struck {b m : Nat} {r : XReq} {w : World} (h : ReqAt w b m r) (k : Int) : ∃ es ck, (∀ ty kt', (Builtin.delete_ #[71, kt'] ty #[.map (some m), .int .i64 k]).run Try.prog w = .ok (.tuple #[]) (setBlock w m (.map es ck))) ∧
    ReqAt (setBlock w m (.map es ck)) b m { r with live := adel k r.live } ∧ Kept (two b m) w (setBlock w m (.map es ck)) := by
  obtain ⟨hv, hb, hs, hm⟩ := h
  obtain ⟨es, ck, hrun, hm1⟩ := hm.run_delete i64K under_ims under_int k
  obtain ⟨es0, ck0, hh⟩ := hm.heap
  exact ⟨es, ck, hrun, ⟨hv, hb.setBlock (hm.ne_blk hb) _, hs.setBlock hh _, hm1⟩, (Kept.refl _ w).setBlock (fun _ => .inr rfl) _⟩

set_option maxHeartbeats 400000 in
theorem Answered_at {b m : Nat} {r : XReq} (k : Int) {w : World} (h : ReqAt w b m r) :
    Calls Try.prog 23 #[.pointer (some ⟨b, 0, none⟩), .int .i64 k] w (ReqPost w b m (r.answered k)) := by
  unfold XReq.answered
  cases hg : aget k r.live with
  | none =>
    have FIN := Lib.hid (same_post h)
    have HG := Lib.hid hg
    clear hg
    go_enter Try.func23, Try.ntmps23
    go_wp2_with (go_at_call 26; refine (under_none k h HG.out).mono ?_; rintro e w' ⟨rfl, rfl⟩)
    go_ret
    exact FIN.out
  | some s =>
    have HG := Lib.hid hg
    clear hg
    go_enter Try.func23, Try.ntmps23
    go_wp2_with (first | (go_at_call 26; refine (under_some k h HG.out).mono ?_; rintro e w' ⟨rfl, rfl⟩) | (go_at_call 28; refine (finish_at 0 k h).mono ?_; rintro e w' ⟨v, rfl, ha, hr, hk⟩))
    go_ret
    exact ⟨v, rfl, ha, hr, hk⟩

set_option maxHeartbeats 400000 in
theorem Refused_at {b m : Nat} {r : XReq} (k why : Int) {w : World} (h : ReqAt w b m r) (hT : okT r) :
    Calls Try.prog 11 #[.pointer (some ⟨b, 0, none⟩), .int .i64 k, .int .i64 why] w (ReqPost w b m (r.refused k why)) := by
  unfold XReq.refused
  cases hg : aget k r.live with
  | none =>
    have FIN := Lib.hid (same_post h)
    have HG := Lib.hid hg
    clear hg
    go_enter Try.func11, Try.ntmps11
    go_wp2_with (go_at_call 26; refine (under_none k h HG.out).mono ?_; rintro e w' ⟨rfl, rfl⟩)
    go_ret
    exact FIN.out
  | some s =>
    have HG := Lib.hid hg
    clear hg
    obtain ⟨es, ck, hrun, h1, hk1⟩ := struck h k
    obtain ⟨hv, hb, hs, hm⟩ := id h
    obtain ⟨-, -, -, -, -, -, -, -, c8, -⟩ := cells14 hb
    clear hb hs hm
    go_enter Try.func11, Try.ntmps11
    go_wp2_with (first | (go_at_call 26; refine (under_some k h HG.out).mono ?_; rintro e w' ⟨rfl, rfl⟩) | (go_at_call 25; refine (begin_at why k h1 hT.1 hT.2).mono ?_; rintro e w' ⟨v, rfl, ha, hr, hk⟩))
    go_ret
    exact ⟨v, rfl, ha, hr, hk1.trans hk fun _ _ h => h⟩

set_option maxHeartbeats 400000 in
theorem Lost_at {b m : Nat} {r : XReq} (k : Int) {w : World} (h : ReqAt w b m r) (hT : okT r) (hA : okA r) :
    Calls Try.prog 34 #[.pointer (some ⟨b, 0, none⟩), .int .i64 k] w (ReqPost w b m (r.lost k)) := by
  unfold XReq.lost
  cases hg : aget k r.live with
  | none =>
    have FIN := Lib.hid (same_post h)
    have HG := Lib.hid hg
    clear hg
    go_enter Try.func34, Try.ntmps34
    go_wp2_with (go_at_call 26; refine (under_none k h HG.out).mono ?_; rintro e w' ⟨rfl, rfl⟩)
    go_ret
    exact FIN.out
  | some s =>
    have HG := Lib.hid hg
    clear hg
    obtain ⟨es, ck, hrun, h1, hk1⟩ := struck h k
    obtain ⟨hv, hb, hs, hm⟩ := id h
    obtain ⟨hv1, hb1, hs1, hm1⟩ := id h1
    obtain ⟨hx1, hx2, hx3⟩ := hm.rules es ck
    obtain ⟨c0, -, -, -, -, c5, -, -, c8, -, c10, -⟩ := cells14 hb
    have f10 := hb.frozen 10
    dsimp only
    by_cases hl : lost17 r.again r.retries r.idem = 3
    · rw [if_pos hl]
      have HL := Lib.hid hl
      clear hb hs hm hb1 hs1 hm1 hl
      go_enter Try.func34, Try.ntmps34
      go_wp2_with (go_at_call 26; refine (under_some k h HG.out).mono ?_; rintro e w' ⟨rfl, rfl⟩)
      go_quiet ((go_at_call 48; exact quiet_same (rLost_is _ _ _ _ HL)))
      clear hx1 hx2 hx3 hrun c0 c5 c8 c10 f10
      have h2 := h1.drewN nq
      have hk2 := hk1.drewN nq
      generalize (setBlock w m (.map es ck)).drewN nq = W at *
      obtain ⟨hv2, hb2, hs2, hm2⟩ := h2
      obtain ⟨-, -, -, -, -, -, -, -, -, -, c10, -⟩ := cells14 hb2
      have f10 := hb2.frozen 10
      have h3 : ReqAt (W.setCell ⟨b, 10, none⟩ (.int .i64 (r.again + 1))) b m { r with live := adel k r.live, again := r.again + 1 } :=
        ⟨hv2, hb2.set_ 10 _, hs2.far hb2 (by decide) 10 _, hm2.setCell (hm2.ne_blk hb2).symm _⟩
      have hk3 := hk2.setCell (p := ⟨b, 10, none⟩) (fun _ => .inl rfl) (.int .i64 (r.again + 1))
      have hA1 := hA.1
      have hA2 := hA.2
      dsimp only at c10
      clear hb2 hs2 hm2
      go_wp2_with (go_at_call 25; refine (begin_at 33 k h3 hT.1 hT.2).mono ?_; rintro e w' ⟨v, rfl, ha, hr, hk⟩)
      go_ret
      exact ⟨v, rfl, ha, hr, hk3.trans hk fun _ _ h => h⟩
    · rw [if_neg hl]
      have hl1 : lost17 r.again r.retries r.idem = 1 := by unfold lost17 at hl ⊢; split at hl <;> simp_all
      have HL := Lib.hid hl1
      clear hb hs hm hb1 hs1 hm1 hl hl1
      go_enter Try.func34, Try.ntmps34
      go_wp2_with (go_at_call 26; refine (under_some k h HG.out).mono ?_; rintro e w' ⟨rfl, rfl⟩)
      go_quiet ((go_at_call 48; exact quiet_same (rLost_is _ _ _ _ HL)))
      clear hx1 hx2 hx3 hrun c0 c5 c8 c10 f10
      have h2 := h1.drewN nq
      have hk2 := hk1.drewN nq
      generalize (setBlock w m (.map es ck)).drewN nq = W at *
      go_wp2_with (go_at_call 49; refine (over_at 33 k h2).mono ?_; rintro e w' ⟨v, rfl, ha, hr, hk⟩)
      go_ret
      exact ⟨v, rfl, ha, hr, hk2.trans hk fun _ _ h => h⟩

set_option maxHeartbeats 400000 in
theorem Prepared_at {b m : Nat} {r : XReq} (k : Int) (well : Bool) {w : World} (h : ReqAt w b m r) (hT : okT r) (hA : okA r) :
    Calls Try.prog 33 #[.pointer (some ⟨b, 0, none⟩), .int .i64 k, .bool well] w (ReqPost w b m (r.prepared_ k well)) := by
  unfold XReq.prepared_
  cases hg : aget k r.live with
  | none =>
    have FIN := Lib.hid (same_post h)
    have HG := Lib.hid hg
    clear hg
    go_enter Try.func33, Try.ntmps33
    go_wp2_with (go_at_call 26; refine (under_none k h HG.out).mono ?_; rintro e w' ⟨rfl, rfl⟩)
    go_ret
    exact FIN.out
  | some s =>
    have HG := Lib.hid hg
    clear hg
    cases well with
    | false =>
      go_enter Try.func33, Try.ntmps33
      go_wp2_with (first | (go_at_call 26; refine (under_some k h HG.out).mono ?_; rintro e w' ⟨rfl, rfl⟩) | (go_at_call 34; refine (Lost_at k h hT hA).mono ?_; rintro e w' ⟨v, rfl, ha, hr, hk⟩))
      go_ret
      exact ⟨v, rfl, ha, hr, hk⟩
    | true =>
      have fin : ReqPost w b m (r, [⟨1, k, s, 0⟩]) (.returned (.slice (some ⟨w.heap.size, 0, none⟩) 1 1)) (w.alloc (.cells #[.int .i64 1, .int .i64 k, .string s, .int .i64 0] 33)) := ⟨_, rfl, Sl.made (Blk.new _ _ _) rfl one_max, h.alloc _, (Kept.refl _ _).alloc _⟩
      have FIN := Lib.hid fin
      clear fin
      go_enter Try.func33, Try.ntmps33
      go_wp2_with (first | (go_at_call 26; refine (under_some k h HG.out).mono ?_; rintro e w' ⟨rfl, rfl⟩))
      go_ret
      exact FIN.out

set_option maxHeartbeats 400000 in
theorem Done_at {b m : Nat} {r : XReq} {w : World} (h : ReqAt w b m r) :
    Calls Try.prog 10 #[.pointer (some ⟨b, 0, none⟩)] w fun e w' => e = .returned (.bool r.done) ∧ w = w' := by
  obtain ⟨hv, hb, hs, hm⟩ := h
  obtain ⟨-, -, -, -, -, -, -, -, -, -, -, -, -, c13⟩ := cells14 hb
  clear hb hs hm
  generalize r.done = d at *
  go_enter Try.func10, Try.ntmps10
  go_wp2
  go_ret
  exact ⟨rfl, rfl⟩

set_option maxHeartbeats 400000 in
theorem Counts_at {b m : Nat} {r : XReq} {w : World} (h : ReqAt w b m r) :
    Calls Try.prog 12 #[.pointer (some ⟨b, 0, none⟩)] w fun e w' => e = .returned (.tuple #[.int .i64 r.tries, .int .i64 r.again, .int .i64 r.prepared]) ∧ ∃ n, w' = w.drewN n := by
  obtain ⟨hv, hb, hs, hm⟩ := h
  obtain ⟨-, -, -, -, -, -, -, -, -, c9, c10, -, c12, -⟩ := cells14 hb
  clear hb hs hm
  go_enter Try.func12, Try.ntmps12
  go_wp2
  go_quiet (fail)
  go_wp2
  go_ret3
  exact ⟨rfl, nq, rfl⟩
end Go.Proofs.Ytooedjedncokpaa

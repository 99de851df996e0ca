/- The executor's small functions: under, finish, over, begin. -/
import Derived.Test.YtooedjedncokpaaProg
import Derived.Test.YtooedjedncokpaaOwn
import Derived.Test.YtooedjedncokpaaExPure
import Derived.BigRegion
namespace Go.Proofs.Ytooedjedncokpaa
set_option linter.unusedVariables false
open Go.RowKit
open Go.ChangeMaps (setBlock)

def iv (n : Int) : Value := .int .i64 n
def sv (s : ByteArray) : Value := .string s

/-- A request in memory: block b is its struct, block m its map. -/
def ReqAt (w : World) (b m : Nat) (r : XReq) : Prop := ∃ hv, Blk w b 73 #[.int .i64 r.retries, .int .i64 r.extraMax, .int .u64 r.wait, .int .i64 r.prepares, hv, .bool r.idem, .int .u64 r.frm, .int .u64 r.till, .map (some m), .int .i64 r.tries, .int .i64 r.again, .int .i64 r.extra, .int .i64 r.prepared, .bool r.done] ∧
  Sl w 9 1 hv r.hosts.length (r.hosts.map Value.string) ∧ KMap (.int .i64) (Value.int .i64) Value.string w m r.live

theorem cells14 {w : World} {b : Nat} {t : TypeId} {c0 c1 c2 c3 c4 c5 c6 c7 c8 c9 c10 c11 c12 c13 : Value} (h : Blk w b t #[c0, c1, c2, c3, c4, c5, c6, c7, c8, c9, c10, c11, c12, c13]) :
    w.cell? ⟨b, 0, none⟩ = some c0 ∧ w.cell? ⟨b, 1, none⟩ = some c1 ∧ w.cell? ⟨b, 2, none⟩ = some c2 ∧ w.cell? ⟨b, 3, none⟩ = some c3 ∧ w.cell? ⟨b, 4, none⟩ = some c4 ∧ w.cell? ⟨b, 5, none⟩ = some c5 ∧ w.cell? ⟨b, 6, none⟩ = some c6 ∧
    w.cell? ⟨b, 7, none⟩ = some c7 ∧ w.cell? ⟨b, 8, none⟩ = some c8 ∧ w.cell? ⟨b, 9, none⟩ = some c9 ∧ w.cell? ⟨b, 10, none⟩ = some c10 ∧ w.cell? ⟨b, 11, none⟩ = some c11 ∧ w.cell? ⟨b, 12, none⟩ = some c12 ∧ w.cell? ⟨b, 13, none⟩ = some c13 :=
  ⟨h.cell 0, h.cell 1, h.cell 2, h.cell 3, h.cell 4, h.cell 5, h.cell 6, h.cell 7, h.cell 8, h.cell 9, h.cell 10, h.cell 11, h.cell 12, h.cell 13⟩

def actCells (a : XAct) : List Value := [.int .i64 a.kind, .int .i64 a.try_, .string a.host, .int .i64 a.why]
/-- What is done, in memory. -/
def ActsAt (w : World) (v : Value) (l : List XAct) : Prop := Sl w 33 4 v l.length (l.flatMap actCells)

def two (b m : Nat) : Nat → Prop := fun k => k = b ∨ k = m

def ReqPost (w : World) (b m : Nat) (x : XReq × List XAct) (e : Ending) (w' : World) : Prop :=
  ∃ v, e = .returned v ∧ ActsAt w' v x.2 ∧ ReqAt w' b m x.1 ∧ Kept (two b m) w w'

theorem under_ims : Try.prog.underlying 71 = some (.map 3 9) := Try.underlying71
theorem under_int : Try.prog.underlying 3 = some (.int .i64) := Try.underlying3
theorem zero_str (w : World) : (zeroValue 9).run Try.prog w = .ok (.string noStr) w := by kernel_rfl
theorem i64K : KeyEmb (.int .i64) (fun n : Int => Value.int .i64 n) := int_emb .i64

theorem ReqAt.lts {w : World} {b m : Nat} {r : XReq} (h : ReqAt w b m r) : b < w.heap.size ∧ m < w.heap.size ∧ b ≠ m := by
  obtain ⟨hv, hb, hs, hm⟩ := h
  exact ⟨hb.lt, hm.lt, hm.ne_blk hb⟩

set_option maxHeartbeats 400000 in
theorem under_nil (k : Int) (w : World) :
    Calls Try.prog 26 #[.pointer none, .int .i64 k] w fun e w' => e = .returned (.tuple #[.string noStr, .bool false]) ∧ w = w' := by
  go_enter Try.func26, Try.ntmps26
  go_wp2
  go_ret2
  exact ⟨rfl, rfl⟩

set_option maxHeartbeats 400000 in
theorem under_at {b m : Nat} {r : XReq} (k : Int) {w : World} (h : ReqAt w b m r) :
    Calls Try.prog 26 #[.pointer (some ⟨b, 0, none⟩), .int .i64 k] w fun e w' => e = .returned (.tuple #[.string ((aget k r.live).getD noStr), .bool (aget k r.live).isSome]) ∧ w = w' := by
  obtain ⟨hv, hb, hs, hm⟩ := h
  have hl := hm.run_lookup i64K under_ims under_int (zero_str w) k true
  have e1 : ((aget k r.live).map Value.string).getD (.string noStr) = .string ((aget k r.live).getD noStr) := by cases aget k r.live <;> rfl
  simp only [e1, if_true] at hl
  obtain ⟨-, -, -, -, -, -, -, -, c8, -⟩ := cells14 hb
  clear e1 hs hb hm
  generalize (aget k r.live).getD noStr = s at *
  generalize (aget k r.live).isSome = t at *
  go_enter Try.func26, Try.ntmps26
  go_wp2
  go_ret2
  exact ⟨rfl, rfl⟩

set_option maxHeartbeats 400000 in
theorem finish_at {b m : Nat} {r : XReq} (why by_ : Int) {w : World} (h : ReqAt w b m r) :
    Calls Try.prog 28 #[.pointer (some ⟨b, 0, none⟩), .int .i64 why, .int .i64 by_] w (ReqPost w b m (r.finish why by_)) := by
  obtain ⟨hv, hb, hs, hm⟩ := h
  obtain ⟨-, -, -, -, -, -, -, -, c8, -, -, -, -, c13⟩ := cells14 hb
  have f13 := hb.frozen 13
  have hb1 := hb.set_ 13 (.bool true)
  have hm1 := hm.setCell (p := ⟨b, 13, none⟩) (hm.ne_blk hb).symm (.bool true)
  have hs1 := hs.far hb (by decide) 13 (.bool true)
  obtain ⟨es, ck, hrun, hm2⟩ := hm1.run_clear under_ims
  have hb2 := hb1.setBlock (hm.ne_blk hb) (.map es ck)
  obtain ⟨es0, ck0, hh0⟩ := hm1.heap
  have hs2 := hs1.setBlock hh0 (.map es ck)
  have hkept : Kept (two b m) w (setBlock (w.setCell ⟨b, 13, none⟩ (.bool true)) m (.map es ck)) := ((Kept.refl _ w).setCell (fun _ => .inl rfl) _).setBlock (fun _ => .inr rfl) _
  have fin : ReqPost w b m (r.finish why by_) (.returned (.slice (some ⟨(setBlock (w.setCell ⟨b, 13, none⟩ (.bool true)) m (.map es ck)).heap.size, 0, none⟩) 1 1)) ((setBlock (w.setCell ⟨b, 13, none⟩ (.bool true)) m (.map es ck)).alloc (.cells #[.int .i64 3, .int .i64 by_, .string noStr, .int .i64 why] 33)) :=
    ⟨_, rfl, Sl.made (Blk.new _ _ _) rfl one_max, ⟨hv, hb2.alloc _, hs2.alloc _, hm2.alloc _⟩, hkept.alloc _⟩
  have FIN := Lib.hid fin
  clear fin hkept hs2 hh0 hb2 hm2 hs1 hm1 hb1 hs hb hm
  go_enter Try.func28, Try.ntmps28
  go_wp2
  go_ret
  exact FIN.out
theorem strsT : SlT Try.prog 26 9 (.string noStr) 1 16 := ⟨Try.underlying26, by kernel_rfl, rfl, by decide, by decide⟩
set_option maxHeartbeats 400000 in
theorem begin_cons {b m : Nat} {r : XReq} {s : ByteArray} {t : List ByteArray} (why by_ : Int) {w : World} (h : ReqAt w b m r) (hh : r.hosts = s :: t) (ht0 : 0 ≤ r.tries) (ht1 : r.tries < 4611686018427387904) :
    Calls Try.prog 25 #[.pointer (some ⟨b, 0, none⟩), .int .i64 why, .int .i64 by_] w (ReqPost w b m (r.start s t)) := by
  obtain ⟨hv, hb, hs, hm⟩ := h
  rw [hh] at hs
  obtain ⟨A0, cap0, rfl, -, -⟩ := hs.shape
  obtain ⟨g, off, hidx, hgl, -, hcell⟩ := hs.run_index strsT (i := 0) (k := 0) rfl (by simp)
  obtain ⟨A1, cap1, hfrom, hs1⟩ := hs.run_from strsT (i := 1) (k := 1) rfl (by simp)
  have hcs := hcell 0 (.string s) rfl
  obtain ⟨-, -, -, -, c4, -, -, -, c8, c9, -, -, -, c13⟩ := cells14 hb
  have f4 := hb.frozen 4
  have f9 := hb.frozen 9
  have hlen1 : ((((s :: t).length : Nat) : Int) == 0) = false := by simp; omega
  have hbl := hb.lt
  have hml := hm.lt
  have hmb := (hm.ne_blk hb).symm
  have hb1 := (hb.set_ 4 (.slice A1 ((s :: t).length - 1) cap1)).alloc (.cells #[.int .i64 1, .int .i64 r.tries, .string s, .int .i64 0] 33)
  have hm1 := (hm.setCell (p := ⟨b, 4, none⟩) hmb (.slice A1 ((s :: t).length - 1) cap1)).alloc (.cells #[.int .i64 1, .int .i64 r.tries, .string s, .int .i64 0] 33)
  have hs2 := (hs1.far hb (by decide) 4 (.slice A1 ((s :: t).length - 1) cap1)).alloc (.cells #[.int .i64 1, .int .i64 r.tries, .string s, .int .i64 0] 33)
  have hk1 := (((Kept.refl (two b m) w).setCell (p := ⟨b, 4, none⟩) (fun _ => .inl rfl) (.slice A1 ((s :: t).length - 1) cap1))).alloc (.cells #[.int .i64 1, .int .i64 r.tries, .string s, .int .i64 0] 33)
  obtain ⟨es, ck, hup, hm3⟩ := (hm1.drew.drew).run_update i64K under_ims under_int r.tries s
  obtain ⟨hx1, hx2, hx3⟩ := (hm1.drew.drew).rules es ck
  obtain ⟨es0, ck0, hh0⟩ := hm1.heap
  have hb4 := ((hb1.drew.drew).setBlock (hm.ne_blk hb) (.map es ck)).set_ 9 (.int .i64 (r.tries + 1))
  have hm4 := hm3.setCell (p := ⟨b, 9, none⟩) hmb (.int .i64 (r.tries + 1))
  have hs4 := ((hs2.drew.drew).setBlock hh0 (.map es ck)).far ((hb1.drew.drew).setBlock (hm.ne_blk hb) (.map es ck)) (by decide) 9 (.int .i64 (r.tries + 1))
  have hk4 := ((hk1.drew.drew).setBlock (m := m) (fun _ => .inr rfl) (.map es ck)).setCell (p := ⟨b, 9, none⟩) (fun _ => .inl rfl) (.int .i64 (r.tries + 1))
  generalize hW : ((setBlock ((((w.setCell ⟨b, 4, none⟩ (.slice A1 ((s :: t).length - 1) cap1)).alloc (.cells #[.int .i64 1, .int .i64 r.tries, .string s, .int .i64 0] 33)).drew).drew) m (.map es ck)).setCell ⟨b, 9, none⟩ (.int .i64 (r.tries + 1))) = W4 at *
  have fin : ReqPost w b m (r.start s t) (.returned (.slice (some ⟨W4.heap.size, 0, none⟩) 1 1)) (W4.alloc (.cells #[.int .i64 1, .int .i64 r.tries, .string s, .int .i64 0] 33)) :=
    ⟨_, rfl, Sl.made (Blk.new _ _ _) rfl one_max, ⟨_, hb4.alloc _, by simpa [XReq.start] using hs4.alloc _, hm4.alloc _⟩, hk4.alloc _⟩
  have hsz : W4.heap.size = w.heap.size + 1 := by rw [← hW]; simp only [sz_setCell, size_setBlock, sz_alloc, sz_drew]
  rw [hsz] at fin
  clear hsz
  subst hW
  have FIN := Lib.hid fin
  generalize hn : (s :: t).length = n at *
  simp only [Nat.add_zero] at hcs
  clear fin hk4 hs4 hm4 hb4 hh0 hm3 hk1 hs2 hm1 hb1 hs1 hs hcell hn
  go_enter Try.func25, Try.ntmps25
  go_wp2
  go_region
  go_wp2
  go_region
  go_wp2
  go_ret
  exact FIN.out

theorem ActsAt.none (w : World) : ActsAt w (.slice none 0 0) [] := Sl.nil w _ _

theorem ReqAt.alloc {w : World} {b m : Nat} {r : XReq} (h : ReqAt w b m r) (o : Obj) : ReqAt (w.alloc o) b m r := by
  obtain ⟨hv, hb, hs, hm⟩ := h
  exact ⟨hv, hb.alloc o, hs.alloc o, hm.alloc o⟩
theorem ReqAt.drew {w : World} {b m : Nat} {r : XReq} (h : ReqAt w b m r) : ReqAt w.drew b m r := h
theorem ReqAt.drewN {w : World} {b m : Nat} {r : XReq} (h : ReqAt w b m r) (n : Nat) : ReqAt (w.drewN n) b m r := h
theorem ReqAt.kept {w w' : World} {b m : Nat} {r : XReq} (h : ReqAt w b m r) (hk : Kept noBlock w w') : ReqAt w' b m r := by
  obtain ⟨hv, hb, hs, hm⟩ := h
  exact ⟨hv, hb.kept hk id, hs.kept hk (fun _ _ _ h => h.elim), hm.kept hk id⟩
/-- A block of another element type is neither of a request's two blocks. -/
theorem ReqAt.apart {w : World} {b m : Nat} {r : XReq} (h : ReqAt w b m r) {e : TypeId} (he : e ≠ 73) : ∀ (g : Nat) (cs : Array Value) (fz : Nat × Nat), two b m g → w.heap[g]? ≠ some (Obj.cells cs e fz) := by
  obtain ⟨hv, hb, hs, hm⟩ := h
  obtain ⟨es, ck, hh⟩ := hm.heap
  intro g cs fz hg hc
  rcases hg with rfl | rfl
  · unfold Blk at hb; rw [hb] at hc; injection hc with hc; injection hc with _ h2; exact he h2.symm
  · rw [hh] at hc; cases hc
theorem ReqPost.from {w w1 : World} {b m : Nat} {x : XReq × List XAct} {e : Ending} {w' : World} (h : ReqPost w1 b m x e w') (hk : Kept (two b m) w w1) : ReqPost w b m x e w' := by
  obtain ⟨v, he, ha, hr, hk'⟩ := h
  exact ⟨v, he, ha, hr, hk.trans hk' fun _ _ h => h⟩

set_option maxHeartbeats 400000 in
theorem over_at {b m : Nat} {r : XReq} (why by_ : Int) {w : World} (h : ReqAt w b m r) :
    Calls Try.prog 49 #[.pointer (some ⟨b, 0, none⟩), .int .i64 why, .int .i64 by_] w (ReqPost w b m (r.over why by_)) := by
  obtain ⟨hv, hb, hs, hm⟩ := id h
  have hl := fun ty => hm.run_len under_ims ty
  obtain ⟨-, -, -, -, -, -, -, -, c8, -⟩ := cells14 hb
  cases hlv : r.live with
  | nil =>
    rw [hlv] at hl
    have e : r.over why by_ = r.finish why by_ := by simp [XReq.over, hlv]
    rw [e]
    clear hs hb hm hlv e
    go_enter Try.func49, Try.ntmps49
    go_wp2_with (go_at_call 28; refine (finish_at why by_ h).mono ?_; rintro e w' ⟨v, rfl, ha, hr, hk⟩)
    go_ret
    exact ⟨v, rfl, ha, hr, hk⟩
  | cons x t =>
    rw [hlv] at hl
    have e : r.over why by_ = (r, []) := by simp [XReq.over, hlv]
    rw [e]
    have fin : ReqPost w b m (r, []) (.returned (.slice none 0 0)) w := ⟨_, rfl, ActsAt.none _, h, Kept.refl _ _⟩
    have FIN := Lib.hid fin
    clear fin hs hb hm hlv e h
    go_enter Try.func49, Try.ntmps49
    go_wp2
    go_ret
    exact FIN.out

set_option maxHeartbeats 400000 in
theorem begin_nil {b m : Nat} {r : XReq} (why by_ : Int) {w : World} (h : ReqAt w b m r) (hh : r.hosts = []) :
    Calls Try.prog 25 #[.pointer (some ⟨b, 0, none⟩), .int .i64 why, .int .i64 by_] w (ReqPost w b m (r.over why by_)) := by
  obtain ⟨hv, hb, hs, hm⟩ := id h
  rw [hh] at hs
  obtain ⟨A0, cap0, rfl, -, -⟩ := hs.shape
  have hl := fun ty => hm.run_len under_ims ty
  obtain ⟨-, -, -, -, c4, -, -, -, c8, -⟩ := cells14 hb
  cases hlv : r.live with
  | nil =>
    rw [hlv] at hl
    have e : r.over why by_ = r.finish why by_ := by simp [XReq.over, hlv]
    rw [e]
    clear hs hb hm hlv e hh
    go_enter Try.func25, Try.ntmps25
    go_wp2_with (go_at_call 28; refine (finish_at why by_ h).mono ?_; rintro e w' ⟨v, rfl, ha, hr, hk⟩)
    go_ret
    exact ⟨v, rfl, ha, hr, hk⟩
  | cons x t =>
    rw [hlv] at hl
    have e : r.over why by_ = (r, []) := by simp [XReq.over, hlv]
    rw [e]
    have fin : ReqPost w b m (r, []) (.returned (.slice none 0 0)) w := ⟨_, rfl, ActsAt.none _, h, Kept.refl _ _⟩
    have FIN := Lib.hid fin
    clear fin hs hb hm hlv e h hh
    go_enter Try.func25, Try.ntmps25
    go_wp2
    go_ret
    exact FIN.out

theorem begin_at {b m : Nat} {r : XReq} (why by_ : Int) {w : World} (h : ReqAt w b m r) (ht0 : 0 ≤ r.tries) (ht1 : r.tries < 4611686018427387904) :
    Calls Try.prog 25 #[.pointer (some ⟨b, 0, none⟩), .int .i64 why, .int .i64 by_] w (ReqPost w b m (r.begin why by_)) := by
  unfold XReq.begin
  cases hh : r.hosts with
  | nil => exact begin_nil why by_ h hh
  | cons s t => exact begin_cons why by_ h hh ht0 ht1
end Go.Proofs.Ytooedjedncokpaa

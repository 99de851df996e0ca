/- The reference's request by value: find, finish, over. -/
import Derived.Test.YtooedjedncokpaaExLive
import Derived.Test.YtooedjedncokpaaFlat
namespace Go.Proofs.Ytooedjedncokpaa
set_option linter.unusedVariables false
open Go.RowKit

def tCells (p : Int × ByteArray) : List Value := [.int .i64 p.1, .string p.2]
theorem tsT : SlT Try.prog 51 66 (.agg #[.int .i64 0, .string noStr]) 2 24 := ⟨Try.underlying51, by kernel_rfl, rfl, by decide, by decide⟩
theorem asT : SlT Try.prog 54 84 (.agg #[.int .i64 0, .int .i64 0, .string noStr, .int .i64 0]) 4 40 := ⟨Try.underlying54, by kernel_rfl, rfl, by decide, by decide⟩

/-- The reference's request: its two slices, read. -/
def RefAt (w : World) (B : Nat) (r : XReq) (hv lv : Value) : Prop := Lo w B 1 hv r.hosts.length (r.hosts.map Value.string) ∧ Sl w 66 2 lv r.live.length (r.live.flatMap tCells)
def RActs (w : World) (v : Value) (l : List XAct) : Prop := Sl w 84 4 v l.length (l.flatMap actCells)
abbrev rVal (r : XReq) (hv lv : Value) : Value := .agg #[.int .i64 r.retries, .int .i64 r.extraMax, .int .u64 r.wait, .int .i64 r.prepares, hv, .bool r.idem, .int .u64 r.frm, .int .u64 r.till, lv, .int .i64 r.tries, .int .i64 r.again, .int .i64 r.extra, .int .i64 r.prepared, .bool r.done]
abbrev rCells (r : XReq) (hv lv : Value) : Array Value := #[.int .i64 r.retries, .int .i64 r.extraMax, .int .u64 r.wait, .int .i64 r.prepares, hv, .bool r.idem, .int .u64 r.frm, .int .u64 r.till, lv, .int .i64 r.tries, .int .i64 r.again, .int .i64 r.extra, .int .i64 r.prepared, .bool r.done]

def RefPost (w : World) (B : Nat) (x : XReq × List XAct) (e : Ending) (w' : World) : Prop :=
  ∃ hv lv av, e = .returned (.tuple #[rVal x.1 hv lv, av]) ∧ RefAt w' B x.1 hv lv ∧ RActs w' av x.2 ∧ Kept noBlock w w'

theorem RefAt.kept {w w' : World} {B : Nat} {r : XReq} {hv lv : Value} (h : RefAt w B r hv lv) (hk : Kept noBlock w w') : RefAt w' B r hv lv := ⟨h.1.keptNone hk, h.2.keptNone hk⟩
theorem RefAt.alloc {w : World} {B : Nat} {r : XReq} {hv lv : Value} (h : RefAt w B r hv lv) (o : Obj) : RefAt (w.alloc o) B r hv lv := ⟨h.1.alloc o, h.2.alloc o⟩

theorem t_at {w : World} {ok : Nat → TypeId → Prop} {lv : Value} {L : List (Int × ByteArray)} (h : SlK w ok 2 lv L.length (L.flatMap tCells)) {i : Nat} {p : Int × ByteArray} (hi : L[i]? = some p) :
    ∃ g off, (∀ kd w', (Instr.indexAt 51 lv (.int kd (i : Int))).run Try.prog w' = .ok (.pointer (some ⟨g, off, none⟩)) w') ∧ g < w.heap.size ∧ w.cell? ⟨g, off, none⟩ = some (.int .i64 p.1) ∧ w.cell? ⟨g, off + 1, none⟩ = some (.string p.2) ∧ ∃ cs e fz, w.heap[g]? = some (.cells cs e fz) ∧ ok g e := by
  have hlt : i < L.length := (List.getElem?_eq_some_iff.1 hi).1
  obtain ⟨g, off, h1, h2, h4, h3⟩ := h.run_index tsT (i := (i : Int)) (k := i) rfl hlt
  refine ⟨g, off, h1, h2, h3 0 _ ?_, h3 1 _ ?_, h4⟩
  · rw [flat_get (k := 2) (fun _ => rfl) L i 0 p hi (by decide)]; rfl
  · rw [flat_get (k := 2) (fun _ => rfl) L i 1 p hi (by decide)]; rfl

set_option maxHeartbeats 400000 in
set_option maxRecDepth 100000 in
theorem rfind_none {r : XReq} {hv lv : Value} (n : Int) {w : World} (hs : Sl w 66 2 lv r.live.length (r.live.flatMap tCells)) (hg : aget n r.live = none) (hl : r.live.length ≤ 1000) :
    Calls Try.prog 50 #[rVal r hv lv, .int .i64 n] w fun e w' => e = .returned (.int .i64 (-1)) ∧ Kept noBlock w w' := by
  have hs1 := hs.alloc (.cells (rCells r hv lv) 53)
  have hlen := hs1.run_len tsT
  have hk := (Kept.refl noBlock w).alloc (.cells (rCells r hv lv) 53)
  have HS := Lib.hid hs1
  have HG := Lib.hid (aget_eq_none.1 hg)
  clear hs hs1 hg
  generalize r.live = L at *
  go_enter Try.func50, Try.ntmps50
  go_wp2
  go_loop [5] (fun i => ∃ k : Nat, k ≤ L.length ∧ i = .int .i64 k) (fun i => L.length - (intOf i).toNat)
  case atStart => exact ⟨0, Nat.zero_le _, rfl⟩
  case round =>
    obtain ⟨k, hkl, rfl⟩ := hrel
    by_cases hlt : k < L.length
    · obtain ⟨p, hp⟩ : ∃ p, L[k]? = some p := ⟨_, List.getElem?_eq_getElem hlt⟩
      obtain ⟨g, off, hidx, -, hc0, -⟩ := t_at HS.out hp
      have hne : (p.1 == n) = false := by
        rw [beq_eq_false_iff_ne]; exact HG.out p (List.mem_of_getElem? hp)
      clear hp
      go_wp2
      go_round
      case rel => exact ⟨k + 1, by omega, by go_num⟩
      case measure => simp [intOf]; omega
    · go_wp2
      go_ret
      exact ⟨rfl, hk⟩

set_option maxHeartbeats 400000 in
set_option maxRecDepth 100000 in
theorem rfind_some {r : XReq} {hv lv : Value} (n : Int) {w : World} {A B : List (Int × ByteArray)} {v : ByteArray} (hL : r.live = A ++ (n, v) :: B) (hA : ∀ p ∈ A, p.1 ≠ n) (hs : Sl w 66 2 lv r.live.length (r.live.flatMap tCells)) (hl : r.live.length ≤ 1000) :
    Calls Try.prog 50 #[rVal r hv lv, .int .i64 n] w fun e w' => e = .returned (.int .i64 A.length) ∧ Kept noBlock w w' := by
  have hs1 := hs.alloc (.cells (rCells r hv lv) 53)
  have hlen := hs1.run_len tsT
  have hk := (Kept.refl noBlock w).alloc (.cells (rCells r hv lv) 53)
  have HS := Lib.hid hs1
  have HA := Lib.hid hA
  have HL := Lib.hid hL
  have hAl : A.length < r.live.length := by rw [hL]; simp
  clear hs hs1 hA hL
  generalize r.live = L at *
  go_enter Try.func50, Try.ntmps50
  go_wp2
  go_loop [5] (fun i => ∃ k : Nat, k ≤ A.length ∧ i = .int .i64 k) (fun i => L.length - (intOf i).toNat)
  case atStart => exact ⟨0, Nat.zero_le _, rfl⟩
  case round =>
    obtain ⟨k, hkl, rfl⟩ := hrel
    by_cases hlt : k < A.length
    · have hlt2 : k < L.length := by omega
      obtain ⟨p, hp⟩ : ∃ p, A[k]? = some p := ⟨_, List.getElem?_eq_getElem hlt⟩
      have hp2 : L[k]? = some p := by rw [HL.out, List.getElem?_append_left hlt]; exact hp
      obtain ⟨g, off, hidx, -, hc0, -⟩ := t_at HS.out hp2
      have hne : (p.1 == n) = false := by
        rw [beq_eq_false_iff_ne]; exact HA.out p (List.mem_of_getElem? hp)
      clear hp hp2
      go_wp2
      go_round
      case rel => exact ⟨k + 1, by omega, by go_num⟩
      case measure => simp [intOf]; omega
    · obtain rfl : k = A.length := by omega
      have hp2 : L[A.length]? = some (n, v) := by rw [HL.out]; simp
      obtain ⟨g, off, hidx, -, hc0, -⟩ := t_at HS.out hp2
      have hne : (n == n) = true := by simp
      clear hp2
      go_wp2
      go_ret
      exact ⟨rfl, hk⟩

theorem RefAt.stored {w w' : World} {B g : Nat} {r : XReq} {hv lv : Value} {cs : Array Value} (h : RefAt w B r hv lv) (hb : Blk w g 53 cs) (hB : B ≤ g) (hk : Kept (fun i => i = g) w w') : RefAt w' B r hv lv :=
  ⟨Lo.kept h.1 hk (fun i hi e => by subst e; omega), SlK.kept h.2 hk (fun i cs' fz e hc => by
    subst e; unfold Blk at hb; rw [hb] at hc; injection hc with hc; injection hc with _ h2; exact absurd h2 (by decide))⟩
theorem RActs.stored {w w' : World} {g : Nat} {av : Value} {l : List XAct} {cs : Array Value} (h : RActs w av l) (hb : Blk w g 53 cs) (hk : Kept (fun i => i = g) w w') : RActs w' av l :=
  SlK.kept h hk (fun i cs' fz e hc => by
    subst e; unfold Blk at hb; rw [hb] at hc; injection hc with hc; injection hc with _ h2; exact absurd h2 (by decide))
/-- What a call's own struct holds at first. -/
abbrev rZero : Array Value := #[.int .i64 0, .int .i64 0, .int .u64 0, .int .i64 0, .slice none 0 0, .bool false, .int .u64 0, .int .u64 0, .slice none 0 0, .int .i64 0, .int .i64 0, .int .i64 0, .int .i64 0, .bool false]

set_option maxHeartbeats 400000 in
set_option maxRecDepth 100000 in
theorem rfinish_at {r : XReq} {B : Nat} {hv lv : Value} (why by_ : Int) {w : World} (h : RefAt w B r hv lv) :
    Calls Try.prog 51 #[rVal r hv lv, .int .i64 why, .int .i64 by_] w (RefPost w B (r.finish why by_)) := by
  obtain ⟨h1, h2⟩ := h
  obtain ⟨A1, c1, rfl, -, -⟩ := h1.shape
  obtain ⟨A2, c2, rfl, -, -⟩ := h2.shape
  have H1 := Lib.hid h1
  clear h1 h2
  go_enter Try.func51, Try.ntmps51
  go_wp2
  refine bodyPost_ret (v := .tuple #[rVal { r with done := true, live := [] } (.slice A1 r.hosts.length c1) (.slice none 0 0), .slice (some ⟨w.heap.size + 1 + 1, 0, none⟩) 1 1]) (by simp [results, Try.results51, go_sem]) rfl ?_
  exact ⟨_, _, _, rfl, ⟨((H1.out.alloc _).alloc _).alloc _, Sl.nil _ _ _⟩, Sl.made (Blk.new_at _ _ _ (by simp)) rfl one_max, (((Kept.refl _ _).alloc _).alloc _).alloc _⟩

/-- The end of a function that hands on a request: its struct stored in the call's own cell, cell by cell. -/
def rStored (w : World) (g : Nat) (q : XReq) (hv lv : Value) : World :=
  ((((((((((((((w.setCell ⟨g, 0, none⟩ (.int .i64 q.retries)).setCell ⟨g, 1, none⟩ (.int .i64 q.extraMax)).setCell ⟨g, 2, none⟩ (.int .u64 q.wait)).setCell ⟨g, 3, none⟩ (.int .i64 q.prepares)).setCell ⟨g, 4, none⟩ hv).setCell ⟨g, 5, none⟩ (.bool q.idem)).setCell ⟨g, 6, none⟩ (.int .u64 q.frm)).setCell ⟨g, 7, none⟩ (.int .u64 q.till)).setCell ⟨g, 8, none⟩ lv).setCell ⟨g, 9, none⟩ (.int .i64 q.tries)).setCell ⟨g, 10, none⟩ (.int .i64 q.again)).setCell ⟨g, 11, none⟩ (.int .i64 q.extra)).setCell ⟨g, 12, none⟩ (.int .i64 q.prepared)).setCell ⟨g, 13, none⟩ (.bool q.done))
theorem rStored_kept (w : World) (g : Nat) (q : XReq) (hv lv : Value) : Kept (fun i => i = g) w (rStored w g q hv lv) :=
  (((((((((((((((Kept.refl (fun i => i = g) w).setCell (p := ⟨g, 0, none⟩) (fun _ => rfl) _).setCell (p := ⟨g, 1, none⟩) (fun _ => rfl) _).setCell (p := ⟨g, 2, none⟩) (fun _ => rfl) _).setCell (p := ⟨g, 3, none⟩) (fun _ => rfl) _).setCell (p := ⟨g, 4, none⟩) (fun _ => rfl) _).setCell (p := ⟨g, 5, none⟩) (fun _ => rfl) _).setCell (p := ⟨g, 6, none⟩) (fun _ => rfl) _).setCell (p := ⟨g, 7, none⟩) (fun _ => rfl) _).setCell (p := ⟨g, 8, none⟩) (fun _ => rfl) _).setCell (p := ⟨g, 9, none⟩) (fun _ => rfl) _).setCell (p := ⟨g, 10, none⟩) (fun _ => rfl) _).setCell (p := ⟨g, 11, none⟩) (fun _ => rfl) _).setCell (p := ⟨g, 12, none⟩) (fun _ => rfl) _).setCell (p := ⟨g, 13, none⟩) (fun _ => rfl) _)
theorem rStored_blk {w : World} {g : Nat} {c0 c1 c2 c3 c4 c5 c6 c7 c8 c9 c10 c11 c12 c13 : Value} (hb : Blk w g 53 #[c0, c1, c2, c3, c4, c5, c6, c7, c8, c9, c10, c11, c12, c13]) (q : XReq) (hv lv : Value) : Blk (rStored w g q hv lv) g 53 (rCells q hv lv) := by
  unfold rStored
  have h0 : Blk (w.setCell ⟨g, 0, none⟩ (.int .i64 q.retries)) g 53 #[.int .i64 q.retries, c1, c2, c3, c4, c5, c6, c7, c8, c9, c10, c11, c12, c13] := hb.set_ 0 (.int .i64 q.retries)
  generalize w.setCell ⟨g, 0, none⟩ (.int .i64 q.retries) = W0 at h0 ⊢
  have h1 : Blk (W0.setCell ⟨g, 1, none⟩ (.int .i64 q.extraMax)) g 53 #[.int .i64 q.retries, .int .i64 q.extraMax, c2, c3, c4, c5, c6, c7, c8, c9, c10, c11, c12, c13] := h0.set_ 1 (.int .i64 q.extraMax)
  generalize W0.setCell ⟨g, 1, none⟩ (.int .i64 q.extraMax) = W1 at h1 ⊢
  have h2 : Blk (W1.setCell ⟨g, 2, none⟩ (.int .u64 q.wait)) g 53 #[.int .i64 q.retries, .int .i64 q.extraMax, .int .u64 q.wait, c3, c4, c5, c6, c7, c8, c9, c10, c11, c12, c13] := h1.set_ 2 (.int .u64 q.wait)
  generalize W1.setCell ⟨g, 2, none⟩ (.int .u64 q.wait) = W2 at h2 ⊢
  have h3 : Blk (W2.setCell ⟨g, 3, none⟩ (.int .i64 q.prepares)) g 53 #[.int .i64 q.retries, .int .i64 q.extraMax, .int .u64 q.wait, .int .i64 q.prepares, c4, c5, c6, c7, c8, c9, c10, c11, c12, c13] := h2.set_ 3 (.int .i64 q.prepares)
  generalize W2.setCell ⟨g, 3, none⟩ (.int .i64 q.prepares) = W3 at h3 ⊢
  have h4 : Blk (W3.setCell ⟨g, 4, none⟩ hv) g 53 #[.int .i64 q.retries, .int .i64 q.extraMax, .int .u64 q.wait, .int .i64 q.prepares, hv, c5, c6, c7, c8, c9, c10, c11, c12, c13] := h3.set_ 4 hv
  generalize W3.setCell ⟨g, 4, none⟩ hv = W4 at h4 ⊢
  have h5 : Blk (W4.setCell ⟨g, 5, none⟩ (.bool q.idem)) g 53 #[.int .i64 q.retries, .int .i64 q.extraMax, .int .u64 q.wait, .int .i64 q.prepares, hv, .bool q.idem, c6, c7, c8, c9, c10, c11, c12, c13] := h4.set_ 5 (.bool q.idem)
  generalize W4.setCell ⟨g, 5, none⟩ (.bool q.idem) = W5 at h5 ⊢
  have h6 : Blk (W5.setCell ⟨g, 6, none⟩ (.int .u64 q.frm)) g 53 #[.int .i64 q.retries, .int .i64 q.extraMax, .int .u64 q.wait, .int .i64 q.prepares, hv, .bool q.idem, .int .u64 q.frm, c7, c8, c9, c10, c11, c12, c13] := h5.set_ 6 (.int .u64 q.frm)
  generalize W5.setCell ⟨g, 6, none⟩ (.int .u64 q.frm) = W6 at h6 ⊢
  have h7 : Blk (W6.setCell ⟨g, 7, none⟩ (.int .u64 q.till)) g 53 #[.int .i64 q.retries, .int .i64 q.extraMax, .int .u64 q.wait, .int .i64 q.prepares, hv, .bool q.idem, .int .u64 q.frm, .int .u64 q.till, c8, c9, c10, c11, c12, c13] := h6.set_ 7 (.int .u64 q.till)
  generalize W6.setCell ⟨g, 7, none⟩ (.int .u64 q.till) = W7 at h7 ⊢
  have h8 : Blk (W7.setCell ⟨g, 8, none⟩ lv) g 53 #[.int .i64 q.retries, .int .i64 q.extraMax, .int .u64 q.wait, .int .i64 q.prepares, hv, .bool q.idem, .int .u64 q.frm, .int .u64 q.till, lv, c9, c10, c11, c12, c13] := h7.set_ 8 lv
  generalize W7.setCell ⟨g, 8, none⟩ lv = W8 at h8 ⊢
  have h9 : Blk (W8.setCell ⟨g, 9, none⟩ (.int .i64 q.tries)) g 53 #[.int .i64 q.retries, .int .i64 q.extraMax, .int .u64 q.wait, .int .i64 q.prepares, hv, .bool q.idem, .int .u64 q.frm, .int .u64 q.till, lv, .int .i64 q.tries, c10, c11, c12, c13] := h8.set_ 9 (.int .i64 q.tries)
  generalize W8.setCell ⟨g, 9, none⟩ (.int .i64 q.tries) = W9 at h9 ⊢
  have h10 : Blk (W9.setCell ⟨g, 10, none⟩ (.int .i64 q.again)) g 53 #[.int .i64 q.retries, .int .i64 q.extraMax, .int .u64 q.wait, .int .i64 q.prepares, hv, .bool q.idem, .int .u64 q.frm, .int .u64 q.till, lv, .int .i64 q.tries, .int .i64 q.again, c11, c12, c13] := h9.set_ 10 (.int .i64 q.again)
  generalize W9.setCell ⟨g, 10, none⟩ (.int .i64 q.again) = W10 at h10 ⊢
  have h11 : Blk (W10.setCell ⟨g, 11, none⟩ (.int .i64 q.extra)) g 53 #[.int .i64 q.retries, .int .i64 q.extraMax, .int .u64 q.wait, .int .i64 q.prepares, hv, .bool q.idem, .int .u64 q.frm, .int .u64 q.till, lv, .int .i64 q.tries, .int .i64 q.again, .int .i64 q.extra, c12, c13] := h10.set_ 11 (.int .i64 q.extra)
  generalize W10.setCell ⟨g, 11, none⟩ (.int .i64 q.extra) = W11 at h11 ⊢
  have h12 : Blk (W11.setCell ⟨g, 12, none⟩ (.int .i64 q.prepared)) g 53 #[.int .i64 q.retries, .int .i64 q.extraMax, .int .u64 q.wait, .int .i64 q.prepares, hv, .bool q.idem, .int .u64 q.frm, .int .u64 q.till, lv, .int .i64 q.tries, .int .i64 q.again, .int .i64 q.extra, .int .i64 q.prepared, c13] := h11.set_ 12 (.int .i64 q.prepared)
  generalize W11.setCell ⟨g, 12, none⟩ (.int .i64 q.prepared) = W12 at h12 ⊢
  have h13 : Blk (W12.setCell ⟨g, 13, none⟩ (.bool q.done)) g 53 #[.int .i64 q.retries, .int .i64 q.extraMax, .int .u64 q.wait, .int .i64 q.prepares, hv, .bool q.idem, .int .u64 q.frm, .int .u64 q.till, lv, .int .i64 q.tries, .int .i64 q.again, .int .i64 q.extra, .int .i64 q.prepared, .bool q.done] := h12.set_ 13 (.bool q.done)
  generalize W12.setCell ⟨g, 13, none⟩ (.bool q.done) = W13 at h13 ⊢
  exact h13
set_option maxHeartbeats 400000 in
theorem rtail {fn : Func} {t s : Tmp} {a : Act} {w0 w1 : World} {B g : Nat} {q : XReq} {l : List XAct} {hv lv av c0 c1 c2 c3 c4 c5 c6 c7 c8 c9 c10 c11 c12 c13 : Value} (hres : fn.results = #[.cell t 53, .tmp s]) (hd : a.defers = []) (ht : a.tmps[t]?.getD undef = .pointer (some ⟨g, 0, none⟩)) (hs : a.tmps[s]?.getD undef = av)
    (hb : Blk w1 g 53 #[c0, c1, c2, c3, c4, c5, c6, c7, c8, c9, c10, c11, c12, c13]) (hr : RefAt w1 B q hv lv) (ha : RActs w1 av l) (hk : Kept noBlock w0 w1) (hBg : B ≤ g) (hg : w0.heap.size ≤ g) :
    bodyPost Try.prog fn (RefPost w0 B (q, l)) .ret a (rStored w1 g q hv lv) := by
  have hkp := rStored_kept w1 g q hv lv
  have hb2 := rStored_blk hb q hv lv
  have hr2 := hr.stored hb hBg hkp
  have ha2 := ha.stored hb hkp
  generalize rStored w1 g q hv lv = W at *
  obtain ⟨d0, d1, d2, d3, d4, d5, d6, d7, d8, d9, d10, d11, d12, d13⟩ := cells14 hb2
  refine bodyPost_ret (v := .tuple #[rVal q hv lv, av]) (by simp [results, hres, ht, hs, go_sem, d0, d1, d2, d3, d4, d5, d6, d7, d8, d9, d10, d11, d12, d13]) hd ?_
  exact ⟨hv, lv, av, rfl, hr2, ha2, hk.trans hkp fun i hi e => by subst e; omega⟩

theorem Sl.made_at {w : World} {e : TypeId} {sz n g : Nat} {cs : Array Value} (hb : Blk w g e cs) (l : List Value) (hl : cs.toList = l) (hn : cs.size = n * sz) (hm : n ≤ maxLen) : Sl w e sz (.slice (some ⟨g, 0, none⟩) n n) n l := hl ▸ Sl.made hb hn hm
set_option maxHeartbeats 400000 in
/-- .. where what is done is one act, made ahead of the store. -/
theorem rtailA {fn : Func} {t s : Tmp} {a : Act} {w0 w1 : World} {B g n : Nat} {q : XReq} {kind try_ why : Int} {host : ByteArray} {hv lv c0 c1 c2 c3 c4 c5 c6 c7 c8 c9 c10 c11 c12 c13 : Value} (hres : fn.results = #[.cell t 53, .tmp s]) (hd : a.defers = []) (ht : a.tmps[t]?.getD undef = .pointer (some ⟨g, 0, none⟩)) (hs : a.tmps[s]?.getD undef = .slice (some ⟨n, 0, none⟩) 1 1)
    (hn : n = w1.heap.size) (hb : Blk w1 g 53 #[c0, c1, c2, c3, c4, c5, c6, c7, c8, c9, c10, c11, c12, c13]) (hr : RefAt w1 B q hv lv) (hk : Kept noBlock w0 w1) (hBg : B ≤ g) (hg : w0.heap.size ≤ g) :
    bodyPost Try.prog fn (RefPost w0 B (q, [⟨kind, try_, host, why⟩])) .ret a ((rStored w1 g q hv lv).alloc (.cells #[.int .i64 kind, .int .i64 try_, .string host, .int .i64 why] 84)) := by
  have hkp := rStored_kept w1 g q hv lv
  have hb2 := (rStored_blk hb q hv lv).alloc (.cells #[.int .i64 kind, .int .i64 try_, .string host, .int .i64 why] 84)
  have hr2 := (hr.stored hb hBg hkp).alloc (.cells #[.int .i64 kind, .int .i64 try_, .string host, .int .i64 why] 84)
  have hz : n = (rStored w1 g q hv lv).heap.size := by unfold rStored; simp only [sz_setCell]; exact hn
  have ha2 : RActs ((rStored w1 g q hv lv).alloc (.cells #[.int .i64 kind, .int .i64 try_, .string host, .int .i64 why] 84)) (.slice (some ⟨n, 0, none⟩) 1 1) [⟨kind, try_, host, why⟩] := Sl.made_at (Blk.new_at _ _ _ hz) _ rfl rfl one_max
  have hk2 := (hk.trans (S := noBlock) hkp (fun i hi e => by subst e; omega)).alloc (.cells #[.int .i64 kind, .int .i64 try_, .string host, .int .i64 why] 84)
  generalize (rStored w1 g q hv lv).alloc (.cells #[.int .i64 kind, .int .i64 try_, .string host, .int .i64 why] 84) = W at *
  obtain ⟨d0, d1, d2, d3, d4, d5, d6, d7, d8, d9, d10, d11, d12, d13⟩ := cells14 hb2
  refine bodyPost_ret (v := .tuple #[rVal q hv lv, .slice (some ⟨n, 0, none⟩) 1 1]) (by simp [results, hres, ht, hs, go_sem, d0, d1, d2, d3, d4, d5, d6, d7, d8, d9, d10, d11, d12, d13]) hd ?_
  exact ⟨hv, lv, _, rfl, hr2, ha2, hk2⟩

def RefPost1 (w : World) (B : Nat) (q : XReq) (e : Ending) (w' : World) : Prop := ∃ hv lv, e = .returned (rVal q hv lv) ∧ RefAt w' B q hv lv ∧ Kept noBlock w w'
set_option maxHeartbeats 400000 in
/-- .. where the request alone is handed on. -/
theorem rtail1 {fn : Func} {t : Tmp} {a : Act} {w0 w1 : World} {B g : Nat} {q : XReq} {hv lv c0 c1 c2 c3 c4 c5 c6 c7 c8 c9 c10 c11 c12 c13 : Value} (hres : fn.results = #[.cell t 53]) (hd : a.defers = []) (ht : a.tmps[t]?.getD undef = .pointer (some ⟨g, 0, none⟩))
    (hb : Blk w1 g 53 #[c0, c1, c2, c3, c4, c5, c6, c7, c8, c9, c10, c11, c12, c13]) (hr : RefAt w1 B q hv lv) (hk : Kept noBlock w0 w1) (hBg : B ≤ g) (hg : w0.heap.size ≤ g) :
    bodyPost Try.prog fn (RefPost1 w0 B q) .ret a (rStored w1 g q hv lv) := by
  have hkp := rStored_kept w1 g q hv lv
  have hb2 := rStored_blk hb q hv lv
  have hr2 := hr.stored hb hBg hkp
  generalize rStored w1 g q hv lv = W at *
  obtain ⟨d0, d1, d2, d3, d4, d5, d6, d7, d8, d9, d10, d11, d12, d13⟩ := cells14 hb2
  refine bodyPost_ret (v := rVal q hv lv) (by simp [results, hres, ht, go_sem, d0, d1, d2, d3, d4, d5, d6, d7, d8, d9, d10, d11, d12, d13]) hd ?_
  exact ⟨hv, lv, rfl, hr2, hk.trans hkp fun i hi e => by subst e; omega⟩

set_option maxHeartbeats 400000 in
set_option maxRecDepth 100000 in
theorem rover_at {r : XReq} {B : Nat} {hv lv : Value} (why by_ : Int) {w : World} (h : RefAt w B r hv lv) (hB : B ≤ w.heap.size) :
    Calls Try.prog 47 #[rVal r hv lv, .int .i64 why, .int .i64 by_] w (RefPost w B (r.over why by_)) := by
  cases hlv : r.live with
  | cons x t =>
    have e : r.over why by_ = (r, []) := by simp [XReq.over, hlv]
    rw [e]
    obtain ⟨h1, h2⟩ := h
    obtain ⟨A1, c1, rfl, -, -⟩ := h1.shape
    obtain ⟨A2, c2, rfl, -, -⟩ := h2.shape
    have H1 := Lib.hid h1
    have H2 := Lib.hid h2
    have hpos : 0 < r.live.length := by rw [hlv]; simp
    clear h1 h2 hlv e
    go_enter Try.func47, Try.ntmps47
    go_wp2
    refine bodyPost_ret (v := .tuple #[rVal r (.slice A1 r.hosts.length c1) (.slice A2 r.live.length c2), .slice none 0 0]) (by simp [results, Try.results47, go_sem]) rfl ?_
    exact ⟨_, _, _, rfl, ⟨(H1.out.alloc _).alloc _, (H2.out.alloc _).alloc _⟩, Sl.nil _ _ _, ((Kept.refl _ _).alloc _).alloc _⟩
  | nil =>
    have e : r.over why by_ = r.finish why by_ := by simp [XReq.over, hlv]
    rw [e]
    obtain ⟨A1, c1, rfl, -, -⟩ := h.1.shape
    obtain ⟨A2, c2, rfl, -, -⟩ := h.2.shape
    have hpos : (0 < r.live.length) = False := by rw [hlv]; simp
    have hb := Blk.new (w.alloc (.cells (rCells r (.slice A1 r.hosts.length c1) (.slice A2 r.live.length c2)) 53)) 53 rZero
    have h2 := (h.alloc (.cells (rCells r (.slice A1 r.hosts.length c1) (.slice A2 r.live.length c2)) 53)).alloc (.cells rZero 53)
    have hk := ((Kept.refl noBlock w).alloc (.cells (rCells r (.slice A1 r.hosts.length c1) (.slice A2 r.live.length c2)) 53)).alloc (.cells rZero 53)
    have HK := Lib.hid hk
    have HB := Lib.hid hb
    have HF := Lib.hid (fun w => rfinish_at (r := r) (B := B) (hv := .slice A1 r.hosts.length c1) (lv := .slice A2 r.live.length c2) why by_ (w := w))
    generalize r.finish why by_ = x at *
    clear hlv e h hk hb
    go_enter Try.func47, Try.ntmps47
    go_wp2_with (go_at_call 51; refine (HF.out _ h2).mono ?_; rintro e w1 ⟨hv1, lv1, av, rfl, hr1, ha1, hk1⟩; obtain ⟨A3, c3, rfl, -, -⟩ := hr1.1.shape; obtain ⟨A4, c4, rfl, -, -⟩ := hr1.2.shape; have hb1 := HB.out.kept hk1 id; rw [sz_alloc] at hb1; obtain ⟨d0, d1, d2, d3, d4, d5, d6, d7, d8, d9, d10, d11, d12, d13⟩ := cells14 hb1; have f := hb1.frozen; have HK1 := Lib.hid hk1; have HB1 := Lib.hid hb1; clear hk1 hb1)
    exact rtail (t := 6) (s := 7) rfl rfl rfl rfl HB1.out hr1 ha1 (HK.out.trans HK1.out fun _ _ h => h) (by omega) (by omega)
end Go.Proofs.Ytooedjedncokpaa

/- prims.Text, prims.Long: a text behind its length; append of a text to a row of bytes · request.writer: how it lies in memory; put, number, count, must · request.Params.flags of none, writer.run of none · Chapter 22: small functions: later, prims.Consistency, header.of · writer.run of a consistency and nothing else. -/
import Derived.Test.YtfnjoceolcdeoaaGreatDoorMr04
import Derived.Lib.AppendStr
import Derived.Deep.LoopGhost
namespace Go.Proofs.YtfnjoceolcdeoaaGreatDoor
set_option linter.unusedVariables false
open Go.RowKit

theorem wpList_append_str (w : World) {ops : Array Oper} {rest : List Oper} {o : Oper} {a : Act} {Q : Exit → Act → World → Prop} (hgd : o.guard = none) (sl x : Operand)
    (ho : o.op = .call { callee := .builtin .append, args := #[sl, x], argTypes := #[30, 9] }) (base : Nat)
    (v : Value) (n : Nat) (xs : List Value) (hs : a.eval sl = v) (hown : w.ownsRow base 5 1 v n xs) (s : ByteArray) (hx : a.eval x = .string s)
    (hb : n + s.size ≤ 140737488355328) (hbase : base ≤ w.heap.size)
    (h : ∀ v' w', w'.ownsRow base 5 1 v' (n + s.size) (xs ++ Lib.byteCells s.data.toList) → (∀ (S : Nat → Prop) (w0 : World), Kept S w0 w → w0.heap.size ≤ base → Kept S w0 w') → wpList Tryz.prog ops Q rest (a.put o.dst v') w') : wpList Tryz.prog ops Q (o :: rest) a w := by
  obtain ⟨i0, hi0, hz0, hs0, hb0⟩ := info_parts bytesQT.info
  refine Lib.wpList_append_own_string w hgd sl x 30 9 ho base 5 i0 Tryz.underlying30 Tryz.underlying9 hi0 hz0 hs0 hb0 v n xs hs hown s hx (by unfold maxLen; omega) hb hbase ?_
  intro v' w' h1 h2 _
  refine h v' w' h1 fun S w0 hk hsz => hk.trans (Kept.of_grown (S := fun i => v.ownBlock = some i) h2 fun _ h _ => h) fun i hi hv => ?_
  have := (own_type hown hv).1
  omega

def txtB (s : ByteArray) : List UInt8 := putB s.size 2 ++ s.data.toList
def lngB (s : ByteArray) : List UInt8 := putB s.size 4 ++ s.data.toList
theorem str_list_len (s : ByteArray) : s.data.toList.length = s.size := by rw [Array.length_toList]; rfl
theorem txtB_len (s : ByteArray) : (txtB s).length = 2 + s.size := by unfold txtB; rw [List.length_append, putB_len, str_list_len]
theorem lngB_len (s : ByteArray) : (lngB s).length = 4 + s.size := by unfold lngB; rw [List.length_append, putB_len, str_list_len]

set_option maxHeartbeats 1000000 in
set_option maxRecDepth 100000 in
theorem pText_at (s : ByteArray) (hs : s.size ≤ 65535) (w : World) : Calls Tryz.prog 109 #[.string s] w fun e w' => ∃ v', e = .returned (.tuple #[v', .int .i64 0]) ∧ w'.ownsRow w.heap.size 5 1 v' (2 + s.size) (Lib.byteCells (txtB s)) ∧ Kept noBlock w w' := by
  have HP := Lib.hid (oPut_at s.size 2 (by omega) (by decide) (by decide) w)
  go_enter Tryz.func109, Tryz.ntmps109
  go_wp2_with fail
  go_at_call 111
  refine HP.out.mono ?_
  rintro e w1 ⟨v1, rfl, ho, hk⟩
  have HO := Lib.hid ho
  have HK := Lib.hid hk
  clear ho hk
  go_wp2_with (at_builtin; go_must (refine wpList_append_str _ rfl (.tmp 10) (.tmp 11) rfl w.heap.size _ 2 (Lib.byteCells (putB s.size 2)) rfl HO.out s rfl ?c1 ?c2 ?_))
  case c1 => omega
  case c2 => exact HK.out.size
  intro v' w3 h1 h2
  have HO3 := Lib.hid h1
  have HK3 := Lib.hid (h2 _ _ HK.out (Nat.le_refl _))
  clear h1 h2
  go_wp2
  go_ret2
  refine ⟨_, rfl, ?_, HK3.out⟩
  unfold txtB Lib.byteCells
  rw [List.map_append]
  exact HO3.out

set_option maxHeartbeats 1000000 in
set_option maxRecDepth 100000 in
theorem pText_long (s : ByteArray) (hs : 65535 < s.size) (hm : s.size ≤ 9223372036854775807) (w : World) : Calls Tryz.prog 109 #[.string s] w fun e w' => e = .returned (.tuple #[.slice none 0 0, .int .i64 12]) ∧ w = w' := by
  go_enter Tryz.func109, Tryz.ntmps109
  go_wp2
  go_ret2
  exact ⟨rfl, rfl⟩

set_option maxHeartbeats 1000000 in
set_option maxRecDepth 100000 in
theorem pLong_at (s : ByteArray) (hs : s.size ≤ 140737488355000) (w : World) : Calls Tryz.prog 78 #[.string s] w fun e w' => ∃ v', e = .returned v' ∧ w'.ownsRow w.heap.size 5 1 v' (4 + s.size) (Lib.byteCells (lngB s)) ∧ Kept noBlock w w' := by
  have HP := Lib.hid (oPut_at s.size 4 (by omega) (by decide) (by decide) w)
  go_enter Tryz.func78, Tryz.ntmps78
  go_wp2_with fail
  go_at_call 111
  refine HP.out.mono ?_
  rintro e w1 ⟨v1, rfl, ho, hk⟩
  have HO := Lib.hid ho
  have HK := Lib.hid hk
  clear ho hk
  go_wp2_with (at_builtin; go_must (refine wpList_append_str _ rfl (.tmp 6) (.tmp 7) rfl w.heap.size _ 4 (Lib.byteCells (putB s.size 4)) rfl HO.out s rfl ?c1 ?c2 ?_))
  case c1 => omega
  case c2 => exact HK.out.size
  intro v' w3 h1 h2
  have HO3 := Lib.hid h1
  have HK3 := Lib.hid (h2 _ _ HK.out (Nat.le_refl _))
  clear h1 h2
  go_wp2
  go_ret
  refine ⟨_, rfl, ?_, HK3.out⟩
  unfold lngB Lib.byteCells
  rw [List.map_append]
  exact HO3.out
end Go.Proofs.YtfnjoceolcdeoaaGreatDoor
namespace Go.Proofs.YtfnjoceolcdeoaaGreatDoor
set_option linter.unusedVariables false
open Go.RowKit

/-- What a writer's change may touch: its own block, and rows of bytes behind it. -/
def wrS (p : Nat) (w : World) : Nat → Prop := fun k => k = p ∨ (p < k ∧ ∃ cs, w.heap[k]? = some (.cells cs 5 (0, 0)))
theorem wrS_trans {p : Nat} {a b c : World} (h : Kept (wrS p a) a b) (k : Kept (wrS p b) b c) : Kept (wrS p a) a c := h.trans k fun i hi hT => by
  rcases hT with rfl | ⟨hp, cs, hc⟩
  · exact .inl rfl
  · by_cases hs : wrS p a i
    · exact hs
    · exact .inr ⟨hp, cs, (h.block i hi hs).symm.trans hc⟩
theorem Blk.wr {p : Nat} {w w' : World} {g : Nat} {t : TypeId} {cs : Array Value} (hb : Blk w g t cs) (hk : Kept (wrS p w) w w') (hg : g ≠ p) (ht : t ≠ 5) : Blk w' g t cs := hb.kept hk fun h => by
  rcases h with h | ⟨_, cs', hc⟩
  · exact hg h
  · unfold Blk at hb
    rw [hb] at hc
    injection hc with hc
    injection hc with _ h2 _
    exact ht h2
/-- What lies below a writer stays. -/
theorem wrS_low {p B : Nat} {w w' : World} (hk : Kept (wrS p w) w w') (hB : B ≤ p) : Kept (fun k => B ≤ k) w w' := hk.mono fun k _ h => by
  rcases h with rfl | ⟨h, _⟩
  · exact hB
  · omega
/-- A writer's bytes and its error, behind bytes that are put. -/
def wrStep (s : List UInt8 × Int) (Y : List UInt8) (e : Int) : List UInt8 × Int := if s.2 = 0 then (s.1 ++ Y, e) else s
def WrAt (W : World) (p : Nat) (s : List UInt8 × Int) : Prop := ∃ A n c, n = s.1.length ∧ Blk W p 170 #[.slice A n c, .int .i64 s.2] ∧ W.ownsRow (p + 1) 5 1 (.slice A n c) n (Lib.byteCells s.1)
theorem wrStep_len (s : List UInt8 × Int) (Y : List UInt8) (e : Int) : (wrStep s Y e).1.length ≤ s.1.length + Y.length := by
  unfold wrStep
  split
  · simp
  · omega
theorem WrAt.keptN {W W' : World} {p : Nat} {s : List UInt8 × Int} (h : WrAt W p s) (hk : Kept noBlock W W') : WrAt W' p s := by
  obtain ⟨A, n, c, hn, hb, ho⟩ := h
  exact ⟨A, n, c, hn, hb.kept hk (fun e => e), own_keptB ho hk fun _ _ e => e⟩
theorem WrAt.lt {W : World} {p : Nat} {s : List UInt8 × Int} (h : WrAt W p s) : p < W.heap.size := by
  obtain ⟨A, n, c, hn, hb, ho⟩ := h
  exact hb.lt

set_option maxHeartbeats 1000000 in
set_option maxRecDepth 100000 in
theorem rwPut_at {w : World} {p : Nat} {s : List UInt8 × Int} (h : WrAt w p s) {A : Option Addr} {m c : Nat} {Y : List UInt8} (hv : Sl w 5 1 (.slice A m c) m (Lib.byteCells Y)) (e : Int) (hb : s.1.length + m ≤ 100000000000000) :
    Calls Tryz.prog 76 #[.pointer (some ⟨p, 0, none⟩), .slice A m c, .int .i64 e] w fun e' w' => e' = .returned (.tuple #[]) ∧ WrAt w' p (wrStep s Y e) ∧ Kept (wrS p w) w w' := by
  obtain ⟨A0, n, c0, hn, hB, ho⟩ := h
  obtain ⟨X, e0⟩ := s
  simp only at hn hB ho hb
  have hYl : Y.length = m := by have := hv.len; unfold Lib.byteCells at this; rw [List.length_map, Nat.mul_one] at this; exact this
  have y0 := hB.cell 0
  have y1 := hB.cell 1
  simp only [List.getElem?_toArray, List.getElem?_cons_zero, List.getElem?_cons_succ] at y0 y1
  by_cases h0 : e0 = 0
  · subst h0
    have hst : wrStep (X, 0) Y e = (X ++ Y, e) := rfl
    rw [hst]
    rw [← hn] at hb
    have HN : Hid (n + m = (X ++ Y).length) := Lib.hid (by rw [List.length_append, hYl, hn])
    have HB := Lib.hid hB
    have HO := Lib.hid ho
    have HV := Lib.hid hv
    have hlt := hB.lt
    clear hn hst hB ho hv hYl
    go_enter Tryz.func76, Tryz.ntmps76
    go_wp2_with (at_builtin; go_must (refine wpList_append_sl _ bytesQT rfl (.tmp 16) (.tmp 17) rfl (p + 1) _ n (Lib.byteCells X) rfl HO.out _ m (Lib.byteCells Y) rfl HV.out (fun u hu => by unfold Lib.byteCells at hu; obtain ⟨x, -, rfl⟩ := List.mem_map.1 hu; rfl) ?c1 ?c2 ?_))
    case c1 => omega
    case c2 => exact hlt
    intro v' w3 hap
    have hk3 : Kept (wrS p w) w w3 := hap.kept.mono fun i _ hv => by
      obtain ⟨h1, cs, h2⟩ := own_type HO.out hv
      exact .inr ⟨h1, cs, h2⟩
    have hb3 := HB.out.kept hap.kept (fun h => by have := (own_type HO.out h).1; omega)
    have hown := hap.own
    obtain ⟨A3, c3, rfl, -, -⟩ := (Sl.of_own hown).shape
    have z0 := hb3.cell 0
    have z1 := hb3.cell 1
    simp only [List.getElem?_toArray, List.getElem?_cons_zero, List.getElem?_cons_succ] at z0 z1
    have f0 := hb3.frozen 0
    have f1 := hb3.frozen 1
    have HK3 := Lib.hid hk3
    have HB3 := Lib.hid hb3
    have HO3 := Lib.hid hown
    clear hap hk3 hb3 hown y0 y1
    go_wp2
    go_end0
    refine ⟨rfl, ⟨A3, n + m, c3, HN.out, (HB3.out.set_ 0 _).set_ 1 _, ?_⟩, ?_⟩
    · rw [byteCells_app]
      exact own_far (own_far HO3.out HB3.out (by decide) 0 _) (HB3.out.set_ 0 _) (by decide) 1 _
    · exact (HK3.out.setCell (p := ⟨p, 0, none⟩) (fun _ => .inl rfl) _).setCell (p := ⟨p, 1, none⟩) (fun _ => .inl rfl) _
  · have hst : wrStep (X, e0) Y e = (X, e0) := by unfold wrStep; rw [if_neg h0]
    rw [hst]
    have HW : Hid (WrAt w p (X, e0)) := Lib.hid ⟨A0, n, c0, hn, hB, ho⟩
    clear hn hst hB ho hv hYl
    have h0' : (e0 == 0) = false := by rw [beq_eq_false_iff_ne]; exact h0
    go_enter Tryz.func76, Tryz.ntmps76
    go_wp2
    (try simp only [Exit.inBlock, Exit.then])
    refine bodyPost_ret (results_none rfl _ _ _) rfl ?_
    exact ⟨rfl, HW.out, Kept.refl _ _⟩

set_option maxHeartbeats 1000000 in
set_option maxRecDepth 100000 in
theorem rwNumber_at {w : World} {p : Nat} {s : List UInt8 × Int} (h : WrAt w p s) (x n : Nat) (hx : x < 18446744073709551616) (h1 : 1 ≤ n) (h8 : n ≤ 8) (hb : s.1.length + n ≤ 100000000000000) :
    Calls Tryz.prog 115 #[.pointer (some ⟨p, 0, none⟩), .int .u64 x, .int .i64 n] w fun e' w' => e' = .returned (.tuple #[]) ∧ WrAt w' p (wrStep s (putB x n) 0) ∧ Kept (wrS p w) w w' := by
  have HP := Lib.hid (oPut_at x n hx h1 h8 w)
  have H := Lib.hid h
  clear h
  go_enter Tryz.func115, Tryz.ntmps115
  go_wp2_with fail
  go_at_call 111
  refine HP.out.mono ?_
  rintro e w1 ⟨v1, rfl, ho, hk⟩
  obtain ⟨A1, c1, rfl, -, -⟩ := (Sl.of_own ho).shape
  have HR := Lib.hid (rwPut_at (H.out.keptN hk) (Sl.of_own ho) 0 hb)
  have HK := Lib.hid hk
  clear ho hk
  go_wp2_with fail
  go_at_call 76
  refine HR.out.mono ?_
  rintro e w2 ⟨rfl, hw, hk2⟩
  have HW := Lib.hid hw
  have HK2 := Lib.hid (wrS_trans (p := p) HK.out.of_none hk2)
  clear hw hk2
  go_wp2
  go_end0
  exact ⟨rfl, HW.out, HK2.out⟩

set_option maxHeartbeats 1000000 in
set_option maxRecDepth 100000 in
theorem rwMust_at (p : Nat) (w : World) : Calls Tryz.prog 114 #[.pointer (some ⟨p, 0, none⟩), .bool true] w fun e' w' => e' = .returned (.tuple #[]) ∧ w = w' := by
  go_enter Tryz.func114, Tryz.ntmps114
  go_wp2
  go_end0
  exact ⟨rfl, rfl⟩
end Go.Proofs.YtfnjoceolcdeoaaGreatDoor
namespace Go.Proofs.YtfnjoceolcdeoaaGreatDoor
set_option linter.unusedVariables false
open Go.RowKit

theorem flagsT : SlT Tryz.prog 256 255 (.agg #[.bool false, .int .u8 0]) 2 2 := ⟨Tryz.underlying256, by kernel_rfl, rfl, by decide, by decide⟩
/-- What a statement is run with: nothing but a consistency. -/
def parC (c : Int) : Array Value := #[.int .u16 c, .slice none 0 0, .slice none 0 0, .bool false, .bool false, .int .i32 0, .bool false, .int .i64 0, .slice none 0 0, .bool false, .int .u16 0, .bool false, .int .i64 0]
def flagL : List Value := [.bool false, .int .u8 1, .bool false, .int .u8 2, .bool false, .int .u8 4, .bool false, .int .u8 8, .bool false, .int .u8 16, .bool false, .int .u8 32, .bool false, .int .u8 64]
theorem flagL_at (i : Nat) (hi : i < 7) : flagL[i * 2 + 0]? = some (.bool false) ∧ ∃ f : Int, flagL[i * 2 + 1]? = some (.int .u8 f) := by
  have : i = 0 ∨ i = 1 ∨ i = 2 ∨ i = 3 ∨ i = 4 ∨ i = 5 ∨ i = 6 := by omega
  rcases this with rfl | rfl | rfl | rfl | rfl | rfl | rfl <;> exact ⟨rfl, _, rfl⟩
set_option maxHeartbeats 2000000 in
set_option maxRecDepth 100000 in
theorem rqFlags_at (c : Int) (w : World) : Calls Tryz.prog 113 #[.agg (parC c)] w fun e w' => e = .returned (.int .u8 0) ∧ Kept noBlock w w' := by
  unfold parC
  go_enter Tryz.func113, Tryz.ntmps113
  go_wp2_with fail
  have HB := Lib.hid (Blk.new_at (k := w.heap.size + 1) (w.alloc (.cells #[.int .u16 c, .slice none 0 0, .slice none 0 0, .bool false, .bool false, .int .i32 0, .bool false, .int .i64 0, .slice none 0 0, .bool false, .int .u16 0, .bool false, .int .i64 0] 141)) 255 #[.bool false, .int .u8 1, .bool false, .int .u8 2, .bool false, .int .u8 4, .bool false, .int .u8 8, .bool false, .int .u8 16, .bool false, .int .u8 32, .bool false, .int .u8 64] (by rw [sz_alloc]))
  have HK := Lib.hid (((Kept.refl noBlock w).alloc (.cells #[.int .u16 c, .slice none 0 0, .slice none 0 0, .bool false, .bool false, .int .i32 0, .bool false, .int .i64 0, .slice none 0 0, .bool false, .int .u16 0, .bool false, .int .i64 0] 141)).alloc (.cells #[.bool false, .int .u8 1, .bool false, .int .u8 2, .bool false, .int .u8 4, .bool false, .int .u8 8, .bool false, .int .u8 16, .bool false, .int .u8 32, .bool false, .int .u8 64] 255))
  generalize hw0 : ((w.alloc (.cells #[.int .u16 c, .slice none 0 0, .slice none 0 0, .bool false, .bool false, .int .i32 0, .bool false, .int .i64 0, .slice none 0 0, .bool false, .int .u16 0, .bool false, .int .i64 0] 141)).alloc (.cells #[.bool false, .int .u8 1, .bool false, .int .u8 2, .bool false, .int .u8 4, .bool false, .int .u8 8, .bool false, .int .u8 16, .bool false, .int .u8 32, .bool false, .int .u8 64] 255)) = w0 at *
  have HS := Lib.hid (Sl.made_at (sz := 2) (n := 7) HB.out flagL rfl rfl (by decide)).lo
  clear hw0
  generalize w.heap.size + 1 = gs at *
  go_loopg [3, 33] 7 (fun j v3 vi wr => ∃ i : Nat, i + j = 7 ∧ vi = .int .i64 i ∧ v3 = .int .u8 0 ∧ Kept noBlock w0 wr)
  case atStart => exact ⟨0, rfl, rfl, rfl, Kept.refl _ _⟩
  case round =>
    obtain ⟨i, hij, rfl, rfl, hk⟩ := hrel
    have HIJ := Lib.hid hij
    have HKR := Lib.hid hk
    by_cases hi : i < 7
    · obtain ⟨f0, f, f1⟩ := flagL_at i hi
      obtain ⟨g, off, hidx, hgl, -, h3⟩ := (SlK.keptNone HS.out hk).run_index flagsT (i := (i : Int)) (k := i) rfl hi
      have c0 : wr.cell? ⟨g, off, none⟩ = some (.bool false) := h3 0 _ f0
      have c1 : wr.cell? ⟨g, off + 1, none⟩ = some (.int .u8 f) := h3 1 _ f1
      clear hij hk h3 f0 f1 hgl
      go_wp2_with fail
      go_roundg (7 - (i + 1))
      case measure => have := HIJ.out; omega
      case rel => exact ⟨i + 1, by have := HIJ.out; omega, by go_num, rfl, (HKR.out.alloc _)⟩
    · obtain rfl : i = 7 := by omega
      clear hij hk
      go_wp2
      go_ret
      exact ⟨rfl, HK.out.trans HKR.out fun _ _ e => e⟩
end Go.Proofs.YtfnjoceolcdeoaaGreatDoor
namespace Go.Proofs.YtfnjoceolcdeoaaGreatDoor
set_option linter.unusedVariables false
open Go.RowKit

/-- A moment and a span. -/
def laterN (now span : Nat) : Nat := if now + span < 18446744073709551616 then now + span else 18446744073709551615
set_option maxHeartbeats 1000000 in
set_option maxRecDepth 100000 in
theorem cnLater_at (now span : Nat) (hn : now < 18446744073709551616) (hs : span < 18446744073709551616) (w : World) : Calls Tryz.prog 38 #[.int .u64 now, .int .u64 span] w fun e w' => e = .returned (.int .u64 ((laterN now span : Nat) : Int)) ∧ w = w' := by
  by_cases h : now + span < 18446744073709551616
  · have HR : Hid (((laterN now span : Nat) : Int) = (now : Int) + (span : Int)) := Lib.hid (by unfold laterN; rw [if_pos h]; omega)
    go_enter Tryz.func38, Tryz.ntmps38
    go_wp2
    go_ret
    rw [HR.out]
    exact ⟨rfl, rfl⟩
  · have HR : Hid (((laterN now span : Nat) : Int) = 18446744073709551615) := Lib.hid (by unfold laterN; rw [if_neg h]; omega)
    go_enter Tryz.func38, Tryz.ntmps38
    go_wp2
    go_ret
    rw [HR.out]
    exact ⟨rfl, rfl⟩
set_option maxHeartbeats 1000000 in
set_option maxRecDepth 100000 in
theorem poLater_at (now span : Nat) (hn : now < 18446744073709551616) (hs : span < 18446744073709551616) (w : World) : Calls Tryz.prog 42 #[.int .u64 now, .int .u64 span] w fun e w' => e = .returned (.int .u64 ((laterN now span : Nat) : Int)) ∧ w = w' := by
  by_cases h : now + span < 18446744073709551616
  · have HR : Hid (((laterN now span : Nat) : Int) = (now : Int) + (span : Int)) := Lib.hid (by unfold laterN; rw [if_pos h]; omega)
    go_enter Tryz.func42, Tryz.ntmps42
    go_wp2
    go_ret
    rw [HR.out]
    exact ⟨rfl, rfl⟩
  · have HR : Hid (((laterN now span : Nat) : Int) = 18446744073709551615) := Lib.hid (by unfold laterN; rw [if_neg h]; omega)
    go_enter Tryz.func42, Tryz.ntmps42
    go_wp2
    go_ret
    rw [HR.out]
    exact ⟨rfl, rfl⟩
set_option maxHeartbeats 1000000 in
set_option maxRecDepth 100000 in
theorem pCons_at (c : Nat) (hc : c ≤ 10) (w : World) : Calls Tryz.prog 112 #[.int .u16 c] w fun e w' => ∃ v', e = .returned (.tuple #[v', .int .i64 0]) ∧ w'.ownsRow w.heap.size 5 1 v' 2 (Lib.byteCells (putB c 2)) ∧ Kept noBlock w w' := by
  have HP := Lib.hid (oPut_at c 2 (by omega) (by decide) (by decide) w)
  go_enter Tryz.func112, Tryz.ntmps112
  go_wp2_with fail
  go_at_call 111
  refine HP.out.mono ?_
  rintro e w1 ⟨v', rfl, ho, hk⟩
  have HO := Lib.hid ho
  have HK := Lib.hid hk
  clear ho hk
  go_wp2
  go_ret2
  exact ⟨v', rfl, HO.out, HK.out⟩
end Go.Proofs.YtfnjoceolcdeoaaGreatDoor
namespace Go.Proofs.YtfnjoceolcdeoaaGreatDoor
set_option linter.unusedVariables false
open Go.RowKit

theorem cells13 {w : World} {g : Nat} {t : TypeId} {a0 a1 a2 a3 a4 a5 a6 a7 a8 a9 a10 a11 a12 : Value} (h : Blk w g t #[a0, a1, a2, a3, a4, a5, a6, a7, a8, a9, a10, a11, a12]) :
    w.cell? ⟨g, 0, none⟩ = some a0 ∧ w.cell? ⟨g, 1, none⟩ = some a1 ∧ w.cell? ⟨g, 2, none⟩ = some a2 ∧ w.cell? ⟨g, 3, none⟩ = some a3 ∧ w.cell? ⟨g, 4, none⟩ = some a4 ∧ w.cell? ⟨g, 5, none⟩ = some a5 ∧ w.cell? ⟨g, 6, none⟩ = some a6 ∧ w.cell? ⟨g, 7, none⟩ = some a7 ∧ w.cell? ⟨g, 8, none⟩ = some a8 ∧ w.cell? ⟨g, 9, none⟩ = some a9 ∧ w.cell? ⟨g, 10, none⟩ = some a10 ∧ w.cell? ⟨g, 11, none⟩ = some a11 ∧ w.cell? ⟨g, 12, none⟩ = some a12 :=
  ⟨h.cell 0, h.cell 1, h.cell 2, h.cell 3, h.cell 4, h.cell 5, h.cell 6, h.cell 7, h.cell 8, h.cell 9, h.cell 10, h.cell 11, h.cell 12⟩
/-- A writer behind a run of a consistency. -/
def runP (s : List UInt8 × Int) (c : Nat) : List UInt8 × Int := wrStep (wrStep s (putB c 2) 0) (putB 0 1) 0
set_option maxHeartbeats 4000000 in
set_option maxRecDepth 100000 in
theorem rwRun_at {w : World} {p : Nat} {s : List UInt8 × Int} (h : WrAt w p s) (c : Nat) (hc : c ≤ 10) (hb : s.1.length ≤ 10000000000000) :
    Calls Tryz.prog 79 #[.pointer (some ⟨p, 0, none⟩), .agg (parC c), .bool false] w fun e' w' => e' = .returned (.tuple #[]) ∧ WrAt w' p (runP s c) ∧ Kept (wrS p w) w w' := by
  have hlt := h.lt
  have HB := Lib.hid (Blk.new w 141 (parC c))
  have HK0 := Lib.hid ((Kept.refl noBlock w).alloc (.cells (parC c) 141))
  have H := Lib.hid (h.keptN HK0.out)
  unfold parC at HB HK0 H ⊢
  clear h
  go_enter Tryz.func79, Tryz.ntmps79
  go_wp2_with fail
  generalize hw0 : w.alloc (.cells #[.int .u16 (c : Int), .slice none 0 0, .slice none 0 0, .bool false, .bool false, .int .i32 0, .bool false, .int .i64 0, .slice none 0 0, .bool false, .int .u16 0, .bool false, .int .i64 0] 141) = w0 at *
  generalize hg : w.heap.size = g at *
  clear hw0
  go_at_call 112
  refine (pCons_at c hc w0).mono ?_
  rintro e w1 ⟨v1, rfl, ho1, hk1⟩
  obtain ⟨A1, c1, rfl, -, -⟩ := (Sl.of_own ho1).shape
  have HR1 := Lib.hid (rwPut_at (H.out.keptN hk1) (Sl.of_own ho1) 0 (by omega))
  have HB1 := Lib.hid (HB.out.kept hk1 (fun h => h))
  have HK1 := Lib.hid (HK0.out.trans hk1 fun _ _ e => e)
  clear ho1 hk1
  go_wp2_with fail
  go_at_call 76
  refine HR1.out.mono ?_
  rintro e w2 ⟨rfl, hw2, hk2⟩
  have hgp : g ≠ p := by omega
  have hb2 := HB1.out.wr hk2 hgp (by decide)
  have HB2 := Lib.hid hb2
  have HW2 := Lib.hid hw2
  have HK2 := Lib.hid (wrS_trans (p := p) HK1.out.of_none hk2)
  obtain ⟨y0, y1, y2, y3, y4, y5, y6, y7, y8, y9, y10, y11, y12⟩ := cells13 hb2
  clear hb2 hw2 hk2
  go_wp2_with fail
  go_at_call 113
  refine (rqFlags_at c w2).mono ?_
  rintro e w3 ⟨rfl, hk3⟩
  have hb3 := HB2.out.kept hk3 (fun h => h)
  have HB3 := Lib.hid hb3
  have HW3 := Lib.hid (HW2.out.keptN hk3)
  have HK3 := Lib.hid (wrS_trans HK2.out (hk3.of_none (S := wrS p w2)))
  clear y0 y1 y2 y3 y4 y5 y6 y7 y8 y9 y10 y11 y12
  obtain ⟨y0, y1, y2, y3, y4, y5, y6, y7, y8, y9, y10, y11, y12⟩ := cells13 hb3
  clear hb3 hk3
  go_wp2_with fail
  go_at_call 114
  refine (rwMust_at p w3).mono ?_
  rintro e w4 ⟨rfl, hw4⟩
  subst hw4
  have HN := Lib.hid (rwNumber_at HW3.out 0 1 (by decide) (by decide) (by decide) (by have := wrStep_len s (putB c 2) 0; rw [putB_len] at this; omega))
  go_wp2_with fail
  go_at_call 115
  refine HN.out.mono ?_
  rintro e w5 ⟨rfl, hw5, hk5⟩
  have hb5 := HB3.out.wr hk5 hgp (by decide)
  have HW5 : Hid (WrAt w5 p (runP s c)) := Lib.hid hw5
  have HK5 := Lib.hid (wrS_trans HK3.out hk5)
  clear y0 y1 y2 y3 y4 y5 y6 y7 y8 y9 y10 y11 y12
  obtain ⟨y0, y1, y2, y3, y4, y5, y6, y7, y8, y9, y10, y11, y12⟩ := cells13 hb5
  obtain ⟨A5, n5, c5, -, hbw, -⟩ := HW5.out
  have z1 := hbw.cell 1
  simp only [List.getElem?_toArray, List.getElem?_cons_zero, List.getElem?_cons_succ] at z1
  generalize (runP s c).2 = e5 at z1
  clear hb5 hbw hw5 hk5
  by_cases h0 : e5 = 0
  · subst h0
    go_wp2
    go_end0
    exact ⟨rfl, HW5.out, HK5.out⟩
  · have h0' : (e5 == 0) = false := by rw [beq_eq_false_iff_ne]; exact h0
    go_wp2
    (try simp only [Exit.inBlock, Exit.then])
    refine bodyPost_ret (results_none rfl _ _ _) rfl ?_
    exact ⟨rfl, HW5.out, HK5.out⟩
end Go.Proofs.YtfnjoceolcdeoaaGreatDoor

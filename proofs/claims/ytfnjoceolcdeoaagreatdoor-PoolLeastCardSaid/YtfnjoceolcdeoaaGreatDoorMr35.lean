/- header.Get · An append onto a slice that has no room: a row of its own. A slice cut with its room. No program is named · Bytes that are kept: nothing, or a slice. No program is named. -/
import Derived.Test.YtfnjoceolcdeoaaGreatDoorMr34
import Derived.Test.YtfnjoceolcdeoaaGreatDoorMr26
import Derived.Test.YtfnjoceolcdeoaaGreatDoorMr03
import Derived.ArgAppend
import Derived.Maps.AppendAt
import Derived.Test.YtfnjoceolcdeoaaGreatDoorMr27
namespace Go.Proofs.YtfnjoceolcdeoaaGreatDoor
set_option linter.unusedVariables false
open Go.RowKit

/-- What is wrong with the header of bytes. -/
def getE (ops : List UInt8) (l : List UInt8) : Int :=
  if atP l 0 = 132 then resE (atP l 1) (atP l 4) (lenP l)
  else if atP l 0 = 4 then askE ops (atP l 1) (atP l 4) (lenP l) else 20
/-- A header's cells. -/
def hdC (l : List UInt8) : Array Value := #[.int .u8 ((atP l 0).toNat : Int), .int .u8 ((atP l 1).toNat : Int), .int .i16 (stP l), .int .u8 ((atP l 4).toNat : Int), .int .u32 (lenP l)]
def hdC0 : Array Value := #[.int .u8 0, .int .u8 0, .int .i16 0, .int .u8 0, .int .u32 0]
theorem hdCheck_at (l : List UInt8) (w : World) : Calls Tryz.prog 74 #[.agg (hdC l)] w fun e w' => e = .returned (.int .i64 (getE reqOps l)) ∧ Kept noBlock w w' := by
  unfold getE hdC
  by_cases h1 : atP l 0 = 132
  · rw [if_pos h1, h1]
    exact hdCheck_of (atP l 1) (stP l) (atP l 4) (lenP l) hdOf_res w
  · rw [if_neg h1]
    by_cases h4 : atP l 0 = 4
    · rw [if_pos h4, h4]
      exact hdCheck_of (atP l 1) (stP l) (atP l 4) (lenP l) hdOf_req w
    · rw [if_neg h4]
      exact hdCheck_none _ (fun e => h4 (UInt8.toNat_inj.1 (by have : (4 : UInt8).toNat = 4 := rfl; omega))) (fun e => h1 (UInt8.toNat_inj.1 (by have : (132 : UInt8).toNat = 132 := rfl; omega))) _ _ _ _ w
theorem atP_get {l : List UInt8} {i : Nat} (h : i < l.length) : l[i]? = some (atP l i) := by
  unfold atP
  rw [List.getD_eq_getElem?_getD, List.getElem?_eq_getElem h]; rfl
theorem hdGet_ret {W : World} {T : Array Value} {M : Nat} {a0 a1 a2 a3 a4 b : Value} {R : Ending → World → Prop} (h2 : T.getD 2 undef = .pointer (some ⟨M, 0, none⟩)) (h3 : T.getD 3 undef = b) (d0 : W.cell? ⟨M, 0, none⟩ = some a0) (d1 : W.cell? ⟨M, 1, none⟩ = some a1) (d2 : W.cell? ⟨M, 2, none⟩ = some a2) (d3 : W.cell? ⟨M, 3, none⟩ = some a3) (d4 : W.cell? ⟨M, 4, none⟩ = some a4)
    (hR : R (.returned (.tuple #[.agg #[a0, a1, a2, a3, a4], b])) W) : bodyPost Tryz.prog Tryz.f67 R .ret { tmps := T, defers := [] } W := by
  have h2' : T[2]?.getD undef = .pointer (some ⟨M, 0, none⟩) := by simpa using h2
  have h3' : T[3]?.getD undef = b := by simpa using h3
  exact bodyPost_ret (v := .tuple #[.agg #[a0, a1, a2, a3, a4], b]) (by simp [results, Tryz.results67, go_sem, h2', h3', d0, d1, d2, d3, d4]) rfl hR
set_option maxHeartbeats 4000000 in
set_option maxRecDepth 100000 in
theorem hdGet_at {w : World} {ok : Nat → TypeId → Prop} {v : Value} {n : Nat} {l : List UInt8} (h : SlK w ok 1 v n (bsC l)) (h9 : 9 ≤ n) :
    Calls Tryz.prog 67 #[v] w fun e w' => e = .returned (.tuple #[.agg (if getE reqOps l = 0 then hdC l else hdC0), .int .i64 (getE reqOps l)]) ∧ Kept noBlock w w' := by
  have hln : l.length = n := by have := h.len; rw [bsC_len] at this; omega
  have hlen := h.run_len bytesT
  obtain ⟨A2, c2, hf2, hs2⟩ := h.run_from bytesT (i := (2 : Int)) (k := 2) rfl (by omega)
  obtain ⟨A5, c5, hf5, hs5⟩ := h.run_from bytesT (i := (5 : Int)) (k := 5) rfl (by omega)
  rw [Nat.mul_one, bsC_drop] at hs2 hs5
  obtain ⟨g0, o0, i0, l0, z0⟩ := byte_at h (i := 0) (atP_get (by omega))
  obtain ⟨g1, o1, i1, l1, z1⟩ := byte_at h (i := 1) (atP_get (by omega))
  obtain ⟨g4, o4, i4, l4, z4⟩ := byte_at h (i := 4) (atP_get (by omega))
  have i0' : ∀ kd w', (Instr.indexAt 30 v (.int kd 0)).run Tryz.prog w' = .ok (.pointer (some ⟨g0, o0, none⟩)) w' := i0
  have i1' : ∀ kd w', (Instr.indexAt 30 v (.int kd 1)).run Tryz.prog w' = .ok (.pointer (some ⟨g1, o1, none⟩)) w' := i1
  have i4' : ∀ kd w', (Instr.indexAt 30 v (.int kd 4)).run Tryz.prog w' = .ok (.pointer (some ⟨g4, o4, none⟩)) w' := i4
  clear i0 i1 i4
  have HG2 := Lib.hid (fun W (hk : Kept noBlock (w.alloc (.cells hdC0 40)) W) => oGet_at (SlK.keptNone (hs2.alloc (.cells hdC0 40)) hk) 2 (by omega) (by omega) (by omega))
  have HG5 := Lib.hid (fun W (hk : Kept noBlock (w.alloc (.cells hdC0 40)) W) => oGet_at (SlK.keptNone (hs5.alloc (.cells hdC0 40)) hk) 4 (by omega) (by omega) (by omega))
  have HZ := Lib.hid (⟨⟨l0, z0⟩, ⟨l1, z1⟩, ⟨l4, z4⟩⟩ : (g0 < w.heap.size ∧ w.cell? ⟨g0, o0, none⟩ = some (.int .u8 (atP l 0).toNat)) ∧ (g1 < w.heap.size ∧ w.cell? ⟨g1, o1, none⟩ = some (.int .u8 (atP l 1).toNat)) ∧ (g4 < w.heap.size ∧ w.cell? ⟨g4, o4, none⟩ = some (.int .u8 (atP l 4).toNat)))
  have HB0 := Lib.hid (Blk.new w 40 hdC0)
  have HK0 := Lib.hid ((Kept.refl noBlock w).alloc (.cells hdC0 40))
  have HST : Hid (stP l = IntKind.i16.wrap ((beN ((l.drop 2).take 2) : Nat) : Int)) := Lib.hid rfl
  have HLE : Hid (IntKind.u32.wrap ((beN ((l.drop 5).take 4) : Nat) : Int) = ((lenP l : Nat) : Int)) := Lib.hid (by rw [IntKind.wrap_u32]; have := lenP_lt l; unfold lenP at this ⊢; omega)
  have HCH := Lib.hid (fun W => hdCheck_at l W)
  clear h hs2 hs5 l0 l1 l4 z0 z1 z4
  obtain ⟨e0, he0⟩ : ∃ e0, e0 = getE reqOps l := ⟨_, rfl⟩
  rw [← he0] at HCH ⊢
  clear he0
  unfold hdC hdC0 at *
  generalize (atP l 0).toNat = v0 at *
  generalize (atP l 1).toNat = v1 at *
  generalize (atP l 4).toNat = v4 at *
  generalize stP l = sp at *
  generalize lenP l = lp at *
  go_enter Tryz.func67, Tryz.ntmps67
  go_wp2_with fail
  generalize hw0 : w.alloc (.cells #[.int .u8 0, .int .u8 0, .int .i16 0, .int .u8 0, .int .u32 0] 40) = w0 at *
  generalize hg : w.heap.size = g at *
  clear hw0
  go_at_call 89
  refine (HG2.out w0 (Kept.refl _ _)).mono ?_
  rintro e w1 ⟨A, c, rfl, hsx, hg1⟩
  have HK1 := Lib.hid hg1.kept
  clear hsx hg1
  have hg5 := HG5.out w1 HK1.out
  have HG := Lib.hid hg5
  clear hg5
  go_wp2_with fail
  go_at_call 89
  refine HG.out.mono ?_
  rintro e w2 ⟨A', c', rfl, hsx, hg2⟩
  have HK2 := Lib.hid (HK1.out.trans hg2.kept fun _ _ e => e)
  have z0 := (HK0.out.trans HK2.out fun _ _ e => e).cell (p := ⟨g0, o0, none⟩) (by show g0 < w.heap.size; rw [hg]; exact HZ.out.1.1) (fun e => e)
  have z1 := (HK0.out.trans HK2.out fun _ _ e => e).cell (p := ⟨g1, o1, none⟩) (by show g1 < w.heap.size; rw [hg]; exact HZ.out.2.1.1) (fun e => e)
  have z4 := (HK0.out.trans HK2.out fun _ _ e => e).cell (p := ⟨g4, o4, none⟩) (by show g4 < w.heap.size; rw [hg]; exact HZ.out.2.2.1) (fun e => e)
  rw [HZ.out.1.2] at z0
  rw [HZ.out.2.1.2] at z1
  rw [HZ.out.2.2.2] at z4
  clear hsx hg2
  have hle := HLE.out
  have hst := HST.out.symm
  have hb0 := HB0.out.kept HK2.out fun e => e
  have r0 := hb0.cell 0
  have r1 := hb0.cell 1
  have r2 := hb0.cell 2
  have r3 := hb0.cell 3
  have r4 := hb0.cell 4
  have rf0 := hb0.frozen 0
  have rf1 := hb0.frozen 1
  have rf2 := hb0.frozen 2
  have rf3 := hb0.frozen 3
  have rf4 := hb0.frozen 4
  have hgl := hb0.lt
  have hg0l : g0 < w2.heap.size := by have := HZ.out.1.1; omega
  have hg1l : g1 < w2.heap.size := by have := HZ.out.2.1.1; omega
  have hg4l : g4 < w2.heap.size := by have := HZ.out.2.2.1; omega
  simp only [List.getElem?_toArray, List.getElem?_cons_zero, List.getElem?_cons_succ] at r0 r1 r2 r3 r4
  have HB2 := Lib.hid hb0
  clear hb0
  go_wp2_with fail
  go_region
  have HB4 := Lib.hid (Blk.new w2 40 #[.int .u8 (v0 : Int), .int .u8 (v1 : Int), .int .i16 sp, .int .u8 (v4 : Int), .int .u32 (lp : Int)])
  have HB24 := Lib.hid (HB2.out.alloc (.cells #[.int .u8 (v0 : Int), .int .u8 (v1 : Int), .int .i16 sp, .int .u8 (v4 : Int), .int .u32 (lp : Int)] 40))
  have HK4 := Lib.hid ((HK0.out.trans HK2.out fun _ _ e => e).alloc (.cells #[.int .u8 (v0 : Int), .int .u8 (v1 : Int), .int .i16 sp, .int .u8 (v4 : Int), .int .u32 (lp : Int)] 40))
  go_wp2_with fail
  go_at_call 74
  refine (HCH.out _).mono ?_
  rintro e w5 ⟨rfl, hk5⟩
  have HK5 : Hid (Kept noBlock w w5) := Lib.hid (by first | exact HK4.out.drew.trans hk5 fun _ _ e => e | exact HK4.out.trans hk5 fun _ _ e => e)
  have hb5 := HB4.out.drew.kept hk5 fun e => e
  have hb6 := HB24.out.drew.kept hk5 fun e => e
  have s0 := hb5.cell 0
  have s1 := hb5.cell 1
  have s2 := hb5.cell 2
  have s3 := hb5.cell 3
  have s4 := hb5.cell 4
  have t0 := hb6.cell 0
  have t1 := hb6.cell 1
  have t2 := hb6.cell 2
  have t3 := hb6.cell 3
  have t4 := hb6.cell 4
  have f0 := hb6.frozen 0
  have f1 := hb6.frozen 1
  have f2 := hb6.frozen 2
  have f3 := hb6.frozen 3
  have f4 := hb6.frozen 4
  simp only [List.getElem?_toArray, List.getElem?_cons_zero, List.getElem?_cons_succ] at s0 s1 s2 s3 s4 t0 t1 t2 t3 t4
  have HB6 := Lib.hid hb6
  clear hk5 hb5 hb6 r0 r1 r2 r3 r4 rf0 rf1 rf2 rf3 rf4 hg0l hg1l hg4l z0 z1 z4
  by_cases h0 : e0 = 0
  · subst h0
    go_wp2
    have hbe := ((((HB6.out.set_ 0 (.int .u8 (v0 : Int))).set_ 1 (.int .u8 (v1 : Int))).set_ 2 (.int .i16 sp)).set_ 3 (.int .u8 (v4 : Int))).set_ 4 (.int .u32 (lp : Int))
    refine hdGet_ret (M := g) (a0 := .int .u8 (v0 : Int)) (a1 := .int .u8 (v1 : Int)) (a2 := .int .i16 sp) (a3 := .int .u8 (v4 : Int)) (a4 := .int .u32 (lp : Int)) (b := .int .i64 0) rfl rfl (hbe.cell 0) (hbe.cell 1) (hbe.cell 2) (hbe.cell 3) (hbe.cell 4) ?_
    have hn : ¬ g < w.heap.size := by rw [hg]; exact Nat.lt_irrefl _
    exact ⟨rfl, ((((HK5.out.setCell (p := ⟨g, 0, none⟩) (fun h => absurd h hn) _).setCell (p := ⟨g, 1, none⟩) (fun h => absurd h hn) _).setCell (p := ⟨g, 2, none⟩) (fun h => absurd h hn) _).setCell (p := ⟨g, 3, none⟩) (fun h => absurd h hn) _).setCell (p := ⟨g, 4, none⟩) (fun h => absurd h hn) _⟩
  · have hq : (e0 == 0) = false := by rw [beq_eq_false_iff_ne]; exact h0
    have HN := Lib.hid h0
    clear h0
    go_wp2
    have hbe := ((((HB6.out.set_ 0 (.int .u8 0)).set_ 1 (.int .u8 0)).set_ 2 (.int .i16 0)).set_ 3 (.int .u8 0)).set_ 4 (.int .u32 0)
    refine hdGet_ret (M := g) (a0 := .int .u8 0) (a1 := .int .u8 0) (a2 := .int .i16 0) (a3 := .int .u8 0) (a4 := .int .u32 0) (b := .int .i64 e0) rfl rfl (hbe.cell 0) (hbe.cell 1) (hbe.cell 2) (hbe.cell 3) (hbe.cell 4) ?_
    have hn : ¬ g < w.heap.size := by rw [hg]; exact Nat.lt_irrefl _
    exact ⟨rfl, ((((HK5.out.setCell (p := ⟨g, 0, none⟩) (fun h => absurd h hn) _).setCell (p := ⟨g, 1, none⟩) (fun h => absurd h hn) _).setCell (p := ⟨g, 2, none⟩) (fun h => absurd h hn) _).setCell (p := ⟨g, 3, none⟩) (fun h => absurd h hn) _).setCell (p := ⟨g, 4, none⟩) (fun h => absurd h hn) _⟩
end Go.Proofs.YtfnjoceolcdeoaaGreatDoor
namespace Go.Proofs.YtfnjoceolcdeoaaGreatDoor
set_option linter.unusedVariables false
open Go.RowKit

section
variable {P : Program} {t e : TypeId} {z : Value} {sz bytes : Nat} {w : World} {ok : Nat → TypeId → Prop} {v : Value} {n : Nat} {xs : List Value}

/-- A slice without room. -/
def Full (w : World) (ok : Nat → TypeId → Prop) (sz : Nat) (v : Value) (n : Nat) (xs : List Value) : Prop :=
  xs.length = n * sz ∧ ∃ A, v = .slice A n n ∧ n ≤ maxLen ∧ (n = 0 ∨ ∃ g off cs e fz, A = some ⟨g, off, none⟩ ∧ w.heap[g]? = some (.cells cs e fz) ∧ ok g e ∧ ∀ j u, xs[j]? = some u → cs[off + j]? = some u)
theorem Full.slk (h : Full w ok sz v n xs) (hn : n ≠ 0) : SlK w ok sz v n xs := by
  obtain ⟨hl, A, rfl, hm, h3⟩ := h
  exact ⟨hl, A, n, rfl, Nat.le_refl _, hm, .inr (h3.resolve_left hn)⟩

/-- s[:k:k]. -/
theorem SlK.run_cap (T : SlT P t e z sz bytes) (h : SlK w ok sz v n xs) {i i' : Int} {k : Nat} (hi : i = k) (hi' : i' = k) (hk : k ≤ n) :
    ∃ A, (∀ kd kd' w', (Instr.sliceAt t v none (some (.int kd i)) (some (.int kd' i'))).run P w' = .ok (.slice A k k) w') ∧ Full w ok sz (.slice A k k) k (xs.take (k * sz)) := by
  obtain ⟨hlen, A, cap, rfl, h1, h2, h3⟩ := h
  subst hi
  subst hi'
  have hmul : k * sz ≤ n * sz := Nat.mul_le_mul_right _ hk
  refine ⟨(if k = 0 then A else A.map (·.add (0 * sz))), fun kd kd' w' => ?_, by rw [List.length_take, hlen]; omega, _, rfl, by omega, ?_⟩
  · have h0 : (0 : Int) ≤ k := by omega
    have hi3 : k ≤ cap := by omega
    simp [Instr.sliceAt, run_underlying T.ht, Instr.slice, Instr.sliceBounds, Instr.sliceBound, asIntOf, T.run_size, hi3]
  · rcases h3 with ⟨rfl, rfl⟩ | ⟨g, off, cs, e1, fz, rfl, hh, ho, hc⟩
    · exact .inl (by omega)
    · by_cases hk0 : k = 0
      · exact .inl hk0
      · rw [if_neg hk0]
        refine .inr ⟨g, off, cs, e1, fz, by simp [Addr.add], hh, ho, fun j u hu => ?_⟩
        have := (List.getElem?_eq_some_iff.1 hu).1
        rw [List.getElem?_take_of_lt (by simp at this; omega)] at hu
        exact hc _ _ hu

/-- An append onto a slice without room: where there is something, a row of its own. -/
theorem run_append_full (T : SlT P t e z sz bytes) (ty : TypeId) (h : Full w ok sz v n xs) {ok' : Nat → TypeId → Prop} {u : Value} {m : Nat} {news : List Value} (hr : SlK w ok' sz u m news) (h1 : ∀ u ∈ news, u.oneCell' = true) (hbytes : (n + m) * bytes ≤ 140737488355328) :
    ∃ v' w', (Builtin.append_ #[t, t] ty #[v, u]).run P w = .ok v' w' ∧ ((m = 0 ∧ v' = v ∧ w' = w) ∨ (m ≠ 0 ∧ w'.ownsRow w.heap.size e sz v' (n + m) (xs ++ news) ∧ Kept noBlock w w')) := by
  obtain ⟨i, hi, hz, hsize, hby⟩ := info_parts T.info
  have h63 : n + m ≤ maxLen := by
    have h2 : (n + m) * 1 ≤ (n + m) * bytes := Nat.mul_le_mul_left _ T.hby
    unfold maxLen; omega
  obtain ⟨hlen, A, rfl, hm, h3⟩ := h
  obtain ⟨hlen', A', cap', rfl, hc1, hc2, hA⟩ := hr
  by_cases hm0 : m = 0
  · subst hm0
    refine ⟨_, w, ?_, .inl ⟨rfl, rfl, rfl⟩⟩
    have hl : ∀ a : Addr, (loadCells a 0).run P w = .ok #[] w := fun a => by simp [loadCells, loadCellsFrom]
    cases A <;> cases A' <;> simp [Builtin.append_, run_underlying T.ht, sizeOf, typeInfo, hi, Builtin.lenOf, Builtin.firstCells, storeCells, hl]
  · rcases hA with ⟨h0, -⟩ | ⟨g', off', cs', e', fz', rfl, hh', -, hc'⟩
    · exact absurd h0 hm0
    have hnews : ∀ j u, news[j]? = some u → w.cell? ((⟨g', off', none⟩ : Addr).add j) = some u := fun j u hu => by
      rw [Addr.add_lit, cell_of_row w g' (off' + j) cs' e' fz' hh']
      exact hc' j u hu
    have grow : ∀ b : Addr, A = some b → (∀ j u, xs[j]? = some u → w.cell? (b.add j) = some u) → ∃ v' w', (Builtin.append_ #[t, t] ty #[.slice A n n, .slice (some ⟨g', off', none⟩) m cap']).run P w = .ok v' w' ∧ ((m = 0 ∧ v' = .slice A n n ∧ w' = w) ∨ (m ≠ 0 ∧ w'.ownsRow w.heap.size e sz v' (n + m) (xs ++ news) ∧ Kept noBlock w w')) := by
      rintro b rfl hb
      obtain ⟨v', w', hrun, ho, hg⟩ := run_append_arg_grows (P := P) w t ty e i z sz bytes T.ht hi hz hsize hby T.hzs T.hsz b n n xs hlen hb ⟨g', off', none⟩ m cap' news hlen' hnews (by omega) h63 hbytes
      exact ⟨v', w', hrun, .inr ⟨hm0, ho, Kept.of_grown hg fun k h _ => by cases h⟩⟩
    cases A with
    | none =>
      have hn : n = 0 := by
        rcases h3 with h3 | ⟨_, _, _, _, _, e, -⟩
        · exact h3
        · cases e
      subst hn
      obtain rfl : xs = [] := List.eq_nil_of_length_eq_zero (by simpa using hlen)
      obtain ⟨v', w', hrun, h2, h3, -, h5⟩ := run_append_own_at (P := P) w w.heap.size t ty e i z sz bytes T.ht hi hz hsize hby T.hzs T.hsz (.slice none 0 0) 0 [] (World.ownsRow_nil _ _ _ _) ⟨g', off', none⟩ m cap' news hlen' hnews h1 h63 hbytes (Nat.le_refl _)
      exact ⟨v', w', hrun, .inr ⟨hm0, h2, Kept.of_grown h3 fun k h _ => by cases h⟩⟩
    | some b =>
      refine grow b rfl fun j u hu => ?_
      rcases h3 with h3 | ⟨g, off, cs, e1, fz, e, hh, -, hc⟩
      · subst h3
        obtain rfl : xs = [] := List.eq_nil_of_length_eq_zero (by simpa using hlen)
        simp at hu
      · cases e
        rw [Addr.add_lit, cell_of_row w g (off + j) cs e1 fz hh]
        exact hc j u hu
theorem wp_append_full (T : SlT P t e z sz bytes) {o : Oper} {a : Act} {K : Act → World → Prop} {Q : Exit → Act → World → Prop} (s x : Operand)
    (ho : o.op = .call { callee := .builtin .append, args := #[s, x], argTypes := #[t, t] }) (hs : a.eval s = v) (h : Full w ok sz v n xs) {ok' : Nat → TypeId → Prop} {u : Value} {m : Nat} {news : List Value} (hx : a.eval x = u) (hr : SlK w ok' sz u m news) (h1 : ∀ u ∈ news, u.oneCell' = true) (hbytes : (n + m) * bytes ≤ 140737488355328)
    (hk : ∀ v' w', ((m = 0 ∧ v' = v ∧ w' = w) ∨ (m ≠ 0 ∧ w'.ownsRow w.heap.size e sz v' (n + m) (xs ++ news) ∧ Kept noBlock w w')) → K (a.put o.dst v') w') : o.wp P a w K Q := by
  obtain ⟨v', w', hrun, h2⟩ := run_append_full T o.type h hr h1 hbytes
  unfold Oper.wp execOp
  simp only [ho, resolve, invoke, builtin, Sem.run_bind, Sem.run_pure, Result.andThen_ok, List.map_toArray, List.map_cons, List.map_nil, hs, hx, hrun]
  exact hk v' w' h2
theorem wpList_append_full (T : SlT P t e z sz bytes) {ops : Array Oper} {rest : List Oper} {o : Oper} {a : Act} {Q : Exit → Act → World → Prop} (hgd : o.guard = none) (s x : Operand)
    (ho : o.op = .call { callee := .builtin .append, args := #[s, x], argTypes := #[t, t] }) (hs : a.eval s = v) (h : Full w ok sz v n xs) {ok' : Nat → TypeId → Prop} {u : Value} {m : Nat} {news : List Value} (hx : a.eval x = u) (hr : SlK w ok' sz u m news) (h1 : ∀ u ∈ news, u.oneCell' = true) (hbytes : (n + m) * bytes ≤ 140737488355328)
    (hk : ∀ v' w', ((m = 0 ∧ v' = v ∧ w' = w) ∨ (m ≠ 0 ∧ w'.ownsRow w.heap.size e sz v' (n + m) (xs ++ news) ∧ Kept noBlock w w')) → wpList P ops Q rest (a.put o.dst v') w') : wpList P ops Q (o :: rest) a w :=
  wpList_plain hgd fun _ hK => by
    obtain ⟨v', w', hrun, h2⟩ := run_append_full T o.type h hr h1 hbytes
    unfold Oper.wp execOp
    simp only [ho, resolve, invoke, builtin, Sem.run_bind, Sem.run_pure, Result.andThen_ok, List.map_toArray, List.map_cons, List.map_nil, hs, hx, hrun]
    exact hK _ _ (hk v' w' h2)
end
end Go.Proofs.YtfnjoceolcdeoaaGreatDoor
namespace Go.Proofs.YtfnjoceolcdeoaaGreatDoor
set_option linter.unusedVariables false
open Go.RowKit

/-- Bytes that are kept: where there are none, whatever an empty slice has. -/
def PendAt (w : World) (ty : TypeId) (sv : Value) (l : List UInt8) : Prop := ∃ A c, sv = .slice A l.length c ∧ l.length ≤ c ∧ c ≤ maxLen ∧ (l ≠ [] → Sl w ty 1 sv l.length (Lib.byteCells l))
section
variable {P : Program} {t ty : TypeId} {z : Value} {w w' : World} {sv : Value} {l : List UInt8} {S : Nat → Prop}
theorem PendAt.of {n : Nat} (h : Sl w ty 1 sv n (Lib.byteCells l)) : PendAt w ty sv l := by
  have hl : l.length = n := by have := h.len; unfold Lib.byteCells at this; rw [List.length_map, Nat.mul_one] at this; exact this
  subst hl
  obtain ⟨A, c, hv, h1, h2⟩ := h.shape
  exact ⟨A, c, hv, h1, h2, fun _ => h⟩
theorem PendAt.nil (w : World) (ty : TypeId) {A : Option Addr} {c : Nat} (hc : c ≤ maxLen) : PendAt w ty (.slice A 0 c) [] := ⟨A, c, rfl, Nat.zero_le _, hc, fun h => absurd rfl h⟩
theorem PendAt.slk (h : PendAt w ty sv l) (hl : l ≠ []) : Sl w ty 1 sv l.length (Lib.byteCells l) := by
  obtain ⟨A, c, hv, h1, h2, h3⟩ := h
  exact h3 hl
theorem PendAt.kept (h : PendAt w ty sv l) (hk : Kept S w w') (hS : ∀ (g : Nat) (cs : Array Value) (fz : Nat × Nat), S g → w.heap[g]? ≠ some (Obj.cells cs ty fz)) : PendAt w' ty sv l := by
  obtain ⟨A, c, hv, h1, h2, h3⟩ := h
  exact ⟨A, c, hv, h1, h2, fun hl => SlK.kept (h3 hl) hk hS⟩
theorem PendAt.keptN (h : PendAt w ty sv l) (hk : Kept noBlock w w') : PendAt w' ty sv l := h.kept hk fun _ _ _ e => e.elim
theorem PendAt.run_len (h : PendAt w ty sv l) (T : SlT P t ty z 1 1) : ∀ ty' w', (Builtin.len_ #[t] ty' #[sv]).run P w' = .ok (.int .i64 l.length) w' := by
  obtain ⟨A, c, rfl, h1, h2, h3⟩ := h
  intro ty' w'
  simp [Builtin.len_, run_underlying T.ht, goInt]
theorem PendAt.run_cap (h : PendAt w ty sv l) (T : SlT P t ty z 1 1) : ∃ A, (∀ kd kd' w', (Instr.sliceAt t sv none (some (.int kd (l.length : Int))) (some (.int kd' (l.length : Int)))).run P w' = .ok (.slice A l.length l.length) w') ∧ Full w (fun _ e => e = ty) 1 (.slice A l.length l.length) l.length (Lib.byteCells l) := by
  by_cases hl : l = []
  · subst hl
    obtain ⟨A, c, rfl, h1, h2, h3⟩ := h
    refine ⟨A, fun kd kd' w' => ?_, by simp [Lib.byteCells], A, rfl, Nat.zero_le _, .inl rfl⟩
    simp [Instr.sliceAt, run_underlying T.ht, Instr.slice, Instr.sliceBounds, Instr.sliceBound, asIntOf, T.run_size]
  · obtain ⟨A, h1, h2⟩ := (h.slk hl).run_cap T (i := (l.length : Int)) (i' := (l.length : Int)) (k := l.length) rfl rfl (Nat.le_refl _)
    refine ⟨A, h1, ?_⟩
    rw [Nat.mul_one, List.take_of_length_le (by unfold Lib.byteCells; rw [List.length_map]; exact Nat.le_refl _)] at h2
    exact h2
end
end Go.Proofs.YtfnjoceolcdeoaaGreatDoor

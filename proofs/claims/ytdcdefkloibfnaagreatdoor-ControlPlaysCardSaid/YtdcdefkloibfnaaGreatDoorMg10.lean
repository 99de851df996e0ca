/- The reference's Note: an event · Chapter 18's reference: Refresh (written by gen/r18ref.py) · The reference's Refresh · hosts, the law: sameTexts, of the same texts. -/
import Derived.Test.YtdcdefkloibfnaaGreatDoorMg09
import Derived.Test.YtdcdefkloibfnaaGreatDoorMg08
import Derived.Test.YtdcdefkloibfnaaGreatDoorMg07
namespace Go.Proofs.YtdcdefkloibfnaaGreatDoor
set_option linter.unusedVariables false
open Go.RowKit

/-- An event as the reference has it. -/
def r09C (ev what ad : ByteArray) (port : Int) (sw target ss sn : ByteArray) (ga : Option Addr) (gn gc : Nat) : Array Value :=
  #[.int .u8 12, .int .u32 0, .string ⟨#[]⟩, .int .u16 0, .int .i32 0, .int .i32 0, .int .i32 0, .int .u8 0, .string ⟨#[]⟩, .string ⟨#[]⟩, .string ⟨#[]⟩, .slice none 0 0, .string ⟨#[]⟩, .slice none 0 0, .int .i64 0, .string ⟨#[]⟩, .string ev, .string what, .string ad, .int .u32 port, .string sw, .string target, .string ss, .string sn, .slice ga gn gc, .int .u32 0, .string ⟨#[]⟩]
abbrev c23Y : Array Value := #[.string ⟨#[]⟩, .int .i64 0, .slice none 0 0, .int .u64 0, .bool false, .int .u64 0]
theorem x3Note_ret {W : World} {T : Array Value} {M : Nat} {u0 u1 u2 u3 u4 u5 v7 v8 v9 : Value} {R : Ending → World → Prop} (h6 : T.getD 6 undef = .pointer (some ⟨M, 0, none⟩)) (h7 : T.getD 7 undef = v7) (h8 : T.getD 8 undef = v8) (h9 : T.getD 9 undef = v9) (q : Blk W M 59 #[u0, u1, u2, u3, u4, u5])
    (hR : R (.returned (.tuple #[.agg #[u0, u1, u2, u3, u4, u5], v7, v8, v9])) W) : bodyPost Tryz.prog Tryz.f38 R .ret { tmps := T, defers := [] } W := by
  have h6' : T[6]?.getD undef = .pointer (some ⟨M, 0, none⟩) := by simpa using h6
  have h7' : T[7]?.getD undef = v7 := by simpa using h7
  have h8' : T[8]?.getD undef = v8 := by simpa using h8
  have h9' : T[9]?.getD undef = v9 := by simpa using h9
  obtain ⟨d0, d1, d2, d3, d4, d5⟩ := cells6 q
  exact bodyPost_ret (v := .tuple #[.agg #[u0, u1, u2, u3, u4, u5], v7, v8, v9]) (by simp [results, Tryz.results38, go_sem, h6', h7', h8', h9', d0, d1, d2, d3, d4, d5]) rfl hR
/-- What the reference's Note gives. -/
def XNotePost (w : World) (ok : Nat → Prop) (dc : ByteArray) (rem wait : Int) (r : NoteR) (e : Ending) (w' : World) : Prop :=
  ∃ A' n' c' l', e = .returned (.tuple #[.agg (c23C dc rem A' n' c' wait r.asks r.at_), .string r.name, .bool r.up, .bool r.told]) ∧ RL w' (fun k => ok k ∨ w.heap.size ≤ k) A' n' c' l' r.S ∧ Kept noBlock w w'
theorem three_kept (w : World) (o o' o'' : Obj) : Kept noBlock w (((w.alloc o).alloc o').alloc o'') := (((Kept.refl noBlock w).alloc _).alloc _).alloc _
section
variable {w : World} {ok : Nat → Prop} {A : Option Addr} {n c : Nat} {l : List HV} {S : List Ho}
set_option maxHeartbeats 8000000 in
set_option maxRecDepth 100000 in
theorem x3Note_at (dc : ByteArray) (rem wait : Int) (asks : Bool) (at_ : Int) (h : RL w ok A n c l S) (hS : risingH S) (hn : S.length ≤ 1000) (hw : 0 ≤ wait ∧ wait ≤ 18446744073709551615) (x : NV) (ga : Option Addr) (gn gc : Nat) (now : Int) (hnow : 0 ≤ now ∧ now ≤ 18446744073709551615) :
    Calls Tryz.prog 38 #[.agg (c23C dc rem A n c wait asks at_), .agg (r09C x.kind x.what (bS x.addr) x.port x.sw x.target x.ss x.sn ga gn gc), .int .u64 now] w fun e w' => XNotePost w ok dc rem wait (noteP S wait asks at_ x now) e w' := by
  obtain ⟨kind, what, xa, xn, xc, addr, port, sw, target, ss, sn, ga0, gn0, gc0⟩ := x
  have q1 := strDec kind cStatus
  rw [show cStatus.toList = [83, 84, 65, 84, 85, 83, 95, 67, 72, 65, 78, 71, 69] by decide +kernel] at q1
  have q2 := strDec what cUp
  have q3 := strDec what cDown
  rw [show cUp.toList = [85, 80] by decide +kernel] at q2
  rw [show cDown.toList = [68, 79, 87, 78] by decide +kernel] at q3
  have q4 := strDec kind cTopo
  rw [show cTopo.toList = [84, 79, 80, 79, 76, 79, 71, 89, 95, 67, 72, 65, 78, 71, 69] by decide +kernel] at q4
  have q5 := strDec kind cSchema
  rw [show cSchema.toList = [83, 67, 72, 69, 77, 65, 95, 67, 72, 65, 78, 71, 69] by decide +kernel] at q5
  have q6 := strDec target cKey
  rw [show cKey.toList = [75, 69, 89, 83, 80, 65, 67, 69] by decide +kernel] at q6
  have HL := Lib.hid h
  have HLT := Lib.hid (fun w => x21Later_at now wait hw hnow w)
  unfold noteP
  simp only []
  by_cases e1 : kind = cStatus
  · rw [if_pos e1]
    rw [decide_eq_true e1] at q1
    rw [decide_eq_false (by rw [e1]; decide +kernel)] at q4
    rw [decide_eq_false (by rw [e1]; decide +kernel)] at q5
    by_cases e2 : what = cUp ∨ what = cDown
    · rw [if_pos e2]
      clear q4 q5 q6 e1
      have HB1 : Hid (Blk (((w.alloc (.cells (c23C dc rem A n c wait asks at_) 59)).alloc (.cells (r09C kind what (bS addr) port sw target ss sn ga gn gc) 122)).alloc (.cells c23Y 59)) w.heap.size 59 (c23C dc rem A n c wait asks at_)) := Lib.hid (((Blk.new w 59 _).alloc _).alloc _)
      have HB2 : Hid (Blk (((w.alloc (.cells (c23C dc rem A n c wait asks at_) 59)).alloc (.cells (r09C kind what (bS addr) port sw target ss sn ga gn gc) 122)).alloc (.cells c23Y 59)) (w.heap.size + 1) 122 (r09C kind what (bS addr) port sw target ss sn ga gn gc)) := Lib.hid ((Blk.new_at _ _ _ (by rw [sz_alloc])).alloc _)
      have HB3 : Hid (Blk (((w.alloc (.cells (c23C dc rem A n c wait asks at_) 59)).alloc (.cells (r09C kind what (bS addr) port sw target ss sn ga gn gc) 122)).alloc (.cells c23Y 59)) (w.heap.size + 2) 59 c23Y) := Lib.hid (Blk.new_at _ _ _ (by rw [sz_alloc, sz_alloc]))
      have HK3 : Hid (Kept noBlock w (((w.alloc (.cells (c23C dc rem A n c wait asks at_) 59)).alloc (.cells (r09C kind what (bS addr) port sw target ss sn ga gn gc) 122)).alloc (.cells c23Y 59))) := Lib.hid (three_kept _ _ _ _)
      have HNM := Lib.hid (x3Name_at (bS addr) (((w.alloc (.cells (c23C dc rem A n c wait asks at_) 59)).alloc (.cells (r09C kind what (bS addr) port sw target ss sn ga gn gc) 122)).alloc (.cells c23Y 59)))
      have HZ3 : Hid ((((w.alloc (.cells (c23C dc rem A n c wait asks at_) 59)).alloc (.cells (r09C kind what (bS addr) port sw target ss sn ga gn gc) 122)).alloc (.cells c23Y 59)).heap.size = w.heap.size + 3) := Lib.hid (by rw [sz_alloc, sz_alloc, sz_alloc])
      have HL0 : Hid (RL w (fun k => ok k ∧ k < w.heap.size) A n c l S) := Lib.hid (HL.out.wide fun k hlt e => ⟨e, hlt⟩)
      rw [show (bS addr).data.toList = addr from rfl] at HNM
      unfold c23C r09C at *
      generalize hW3 : (((w.alloc (.cells #[.string dc, .int .i64 rem, .slice A n c, .int .u64 wait, .bool asks, .int .u64 at_] 59)).alloc (.cells #[.int .u8 12, .int .u32 0, .string ⟨#[]⟩, .int .u16 0, .int .i32 0, .int .i32 0, .int .i32 0, .int .u8 0, .string ⟨#[]⟩, .string ⟨#[]⟩, .string ⟨#[]⟩, .slice none 0 0, .string ⟨#[]⟩, .slice none 0 0, .int .i64 0, .string ⟨#[]⟩, .string kind, .string what, .string (bS addr), .int .u32 port, .string sw, .string target, .string ss, .string sn, .slice ga gn gc, .int .u32 0, .string ⟨#[]⟩] 122)).alloc (.cells #[.string ⟨#[]⟩, .int .i64 0, .slice none 0 0, .int .u64 0, .bool false, .int .u64 0] 59)) = W3 at *
      have HW3 := Lib.hid hW3
      clear hW3
      generalize nameP addr = nm at *
      by_cases e3 : what = cUp
      · rw [decide_eq_true e3] at q2 ⊢
        clear e2 e3 q3
        cases hm : (markP S (bS nm) true).2 with
        | true =>
          rw [if_pos rfl]
          have HM := Lib.hid (fun (W : World) (hW : Kept noBlock w W) => R18Mark_at dc rem (HL0.out.keptN hW) hS hn (bS nm) true)
          rw [hm] at HM
          clear hm
          go_enter Tryz.func38, Tryz.ntmps38
          go_wp2_with fail
          rw [HW3.out]
          go_at_call 16
          refine HNM.out.mono ?_
          rintro e w2 ⟨rfl, hw2⟩
          have hk2 : Kept noBlock W3 w2 := by obtain ⟨kq, rfl⟩ := hw2; exact (Kept.refl noBlock W3).drewN kq
          have HK2 := Lib.hid (HK3.out.trans hk2 fun _ _ h => h)
          have hz2 := hk2.size
          rw [HZ3.out] at hz2
          have HZ2 := Lib.hid hz2
          have hb1 := HB1.out.kept hk2 fun e => e
          have hb2 := HB2.out.kept hk2 fun e => e
          have hb3 := HB3.out.kept hk2 fun e => e
          have HC1 := Lib.hid hb1
          have HC2 := Lib.hid hb2
          have HC3 := Lib.hid hb3
          obtain ⟨c0, c1, c2, c3, c4, c5⟩ := cells6 hb1
          have c17 := hb2.cell 17
          simp only [List.getElem?_toArray, List.getElem?_cons_succ, List.getElem?_cons_zero] at c17
          clear hw2 hk2 hb1 hb2 hb3 HB1 HB2 HB3 hz2
          go_wp2_with fail
          go_at_call 65
          refine (HM.out w2 HK2.out).mono ?_
          rintro e w4 ⟨A4, n4, c4', l4, rfl, hr4, hk4⟩
          have HR4 := Lib.hid hr4
          have HK4 := Lib.hid (HK2.out.trans hk4 fun _ _ h => h)
          have hb1 := (HC1.out.kept hk4 fun e => e).alloc (.cells #[.string dc, .int .i64 rem, .slice A4 n4 c4'] 57)
          have hb2 := (HC2.out.kept hk4 fun e => e).alloc (.cells #[.string dc, .int .i64 rem, .slice A4 n4 c4'] 57)
          have hb3 := (HC3.out.kept hk4 fun e => e).alloc (.cells #[.string dc, .int .i64 rem, .slice A4 n4 c4'] 57)
          have hbt := Blk.new w4 57 #[.string dc, .int .i64 rem, .slice A4 n4 c4']
          have t0 := hbt.cell 0
          have t1 := hbt.cell 1
          have t2 := hbt.cell 2
          simp only [List.getElem?_toArray, List.getElem?_cons_succ, List.getElem?_cons_zero] at t0 t1 t2
          obtain ⟨f0, f1, f2, f3, f4, f5⟩ := frozen6 hb1
          obtain ⟨p0, p1, p2, p3, p4, p5⟩ := cells6 hb1
          have hkS : Kept (fun k => k = w.heap.size) (w4.alloc (.cells #[.string dc, .int .i64 rem, .slice A4 n4 c4'] 57)) ((((w4.alloc (.cells #[.string dc, .int .i64 rem, .slice A4 n4 c4'] 57)).setCell ⟨w.heap.size, 0, none⟩ (.string dc)).setCell ⟨w.heap.size, 1, none⟩ (.int .i64 rem)).setCell ⟨w.heap.size, 2, none⟩ (.slice A4 n4 c4')) := (((Kept.refl (fun k => k = w.heap.size) _).setCell (p := ⟨w.heap.size, 0, none⟩) (fun _ => rfl) _).setCell (p := ⟨w.heap.size, 1, none⟩) (fun _ => rfl) _).setCell (p := ⟨w.heap.size, 2, none⟩) (fun _ => rfl) _
          have hd1 := ((hb1.set_ 0 (.string dc)).set_ 1 (.int .i64 rem)).set_ 2 (.slice A4 n4 c4')
          have hd2 := hb2.kept hkS (by omega)
          have hd3 := hb3.kept hkS (by omega)
          obtain ⟨d0, d1, d2, d3, d4, d5⟩ := cells6 hd1
          have d17 := hd2.cell 17
          simp only [List.getElem?_toArray, List.getElem?_cons_succ, List.getElem?_cons_zero] at d17
          obtain ⟨g0, g1, g2, g3, g4, g5⟩ := frozen6 hd3
          obtain ⟨r0, r1, r2, r3, r4, r5⟩ := cells6 hd3
          have HD3 := Lib.hid hd3
          have HKW := Lib.hid ((HK4.out.alloc (.cells #[.string dc, .int .i64 rem, .slice A4 n4 c4'] 57)).trans hkS fun k hlt e => by omega)
          have HRW := Lib.hid ((HR4.out.keptN ((Kept.refl noBlock w4).alloc (.cells #[.string dc, .int .i64 rem, .slice A4 n4 c4'] 57))))
          have HKS := Lib.hid hkS
          clear hr4 hk4 hb1 hb2 hb3 hbt hd1 hd2 hd3 hkS HM HC1 HC2 HC3 c0 c1 c2 c3 c4 c5 c17
          go_wp2_with fail
          go_region
          go_wp2
          exact x3Note_ret rfl rfl rfl rfl (Blk.drew (blk6 HD3.out)) ⟨A4, n4, c4', l4, rfl, ((((HRW.out.kept HKS.out fun k e e2 => by have := HZ2.out; omega).kept (kept6 (Kept.refl (fun k => k = w.heap.size + 2) _) fun _ => rfl) fun k e e2 => by have := HZ2.out; omega).wide fun k _ e => e.imp (fun e => e.1) fun e => Nat.le_trans HK2.out.size e).keptN ((Kept.refl noBlock _).drew)), (kept6 HKW.out fun h => by omega).drew⟩
        | false =>
          rw [if_neg (by decide)]
          have HM := Lib.hid (fun (W : World) (hW : Kept noBlock w W) => R18Mark_at dc rem (HL0.out.keptN hW) hS hn (bS nm) true)
          rw [hm] at HM
          clear hm
          go_enter Tryz.func38, Tryz.ntmps38
          go_wp2_with fail
          rw [HW3.out]
          go_at_call 16
          refine HNM.out.mono ?_
          rintro e w2 ⟨rfl, hw2⟩
          have hk2 : Kept noBlock W3 w2 := by obtain ⟨kq, rfl⟩ := hw2; exact (Kept.refl noBlock W3).drewN kq
          have HK2 := Lib.hid (HK3.out.trans hk2 fun _ _ h => h)
          have hz2 := hk2.size
          rw [HZ3.out] at hz2
          have HZ2 := Lib.hid hz2
          have hb1 := HB1.out.kept hk2 fun e => e
          have hb2 := HB2.out.kept hk2 fun e => e
          have hb3 := HB3.out.kept hk2 fun e => e
          have HC1 := Lib.hid hb1
          have HC2 := Lib.hid hb2
          have HC3 := Lib.hid hb3
          obtain ⟨c0, c1, c2, c3, c4, c5⟩ := cells6 hb1
          have c17 := hb2.cell 17
          simp only [List.getElem?_toArray, List.getElem?_cons_succ, List.getElem?_cons_zero] at c17
          clear hw2 hk2 hb1 hb2 hb3 HB1 HB2 HB3 hz2
          go_wp2_with fail
          go_at_call 65
          refine (HM.out w2 HK2.out).mono ?_
          rintro e w4 ⟨A4, n4, c4', l4, rfl, hr4, hk4⟩
          have HR4 := Lib.hid hr4
          have HK4 := Lib.hid (HK2.out.trans hk4 fun _ _ h => h)
          have hb1 := (HC1.out.kept hk4 fun e => e).alloc (.cells #[.string dc, .int .i64 rem, .slice A4 n4 c4'] 57)
          have hb2 := (HC2.out.kept hk4 fun e => e).alloc (.cells #[.string dc, .int .i64 rem, .slice A4 n4 c4'] 57)
          have hb3 := (HC3.out.kept hk4 fun e => e).alloc (.cells #[.string dc, .int .i64 rem, .slice A4 n4 c4'] 57)
          have hbt := Blk.new w4 57 #[.string dc, .int .i64 rem, .slice A4 n4 c4']
          have t0 := hbt.cell 0
          have t1 := hbt.cell 1
          have t2 := hbt.cell 2
          simp only [List.getElem?_toArray, List.getElem?_cons_succ, List.getElem?_cons_zero] at t0 t1 t2
          obtain ⟨f0, f1, f2, f3, f4, f5⟩ := frozen6 hb1
          obtain ⟨p0, p1, p2, p3, p4, p5⟩ := cells6 hb1
          have hkS : Kept (fun k => k = w.heap.size) (w4.alloc (.cells #[.string dc, .int .i64 rem, .slice A4 n4 c4'] 57)) ((((w4.alloc (.cells #[.string dc, .int .i64 rem, .slice A4 n4 c4'] 57)).setCell ⟨w.heap.size, 0, none⟩ (.string dc)).setCell ⟨w.heap.size, 1, none⟩ (.int .i64 rem)).setCell ⟨w.heap.size, 2, none⟩ (.slice A4 n4 c4')) := (((Kept.refl (fun k => k = w.heap.size) _).setCell (p := ⟨w.heap.size, 0, none⟩) (fun _ => rfl) _).setCell (p := ⟨w.heap.size, 1, none⟩) (fun _ => rfl) _).setCell (p := ⟨w.heap.size, 2, none⟩) (fun _ => rfl) _
          have hd1 := ((hb1.set_ 0 (.string dc)).set_ 1 (.int .i64 rem)).set_ 2 (.slice A4 n4 c4')
          have hd2 := hb2.kept hkS (by omega)
          have hd3 := hb3.kept hkS (by omega)
          obtain ⟨d0, d1, d2, d3, d4, d5⟩ := cells6 hd1
          have d17 := hd2.cell 17
          simp only [List.getElem?_toArray, List.getElem?_cons_succ, List.getElem?_cons_zero] at d17
          obtain ⟨g0, g1, g2, g3, g4, g5⟩ := frozen6 hd3
          obtain ⟨r0, r1, r2, r3, r4, r5⟩ := cells6 hd3
          have HD3 := Lib.hid hd3
          have HKW := Lib.hid ((HK4.out.alloc (.cells #[.string dc, .int .i64 rem, .slice A4 n4 c4'] 57)).trans hkS fun k hlt e => by omega)
          have HRW := Lib.hid ((HR4.out.keptN ((Kept.refl noBlock w4).alloc (.cells #[.string dc, .int .i64 rem, .slice A4 n4 c4'] 57))))
          have HKS := Lib.hid hkS
          clear hr4 hk4 hb1 hb2 hb3 hbt hd1 hd2 hd3 hkS HM HC1 HC2 HC3 c0 c1 c2 c3 c4 c5 c17
          go_wp2
          exact x3Note_ret rfl rfl rfl rfl (blk6 HD3.out) ⟨A4, n4, c4', l4, rfl, (((HRW.out.kept HKS.out fun k e e2 => by have := HZ2.out; omega).kept (kept6 (Kept.refl (fun k => k = w.heap.size + 2) _) fun _ => rfl) fun k e e2 => by have := HZ2.out; omega).wide fun k _ e => e.imp (fun e => e.1) fun e => Nat.le_trans HK2.out.size e), kept6 HKW.out fun h => by omega⟩
      · rw [decide_eq_false e3] at q2 ⊢
        rw [decide_eq_true (e2.resolve_left e3)] at q3
        clear e2 e3
        cases hm : (markP S (bS nm) false).2 with
        | true =>
          rw [if_pos rfl]
          have HM := Lib.hid (fun (W : World) (hW : Kept noBlock w W) => R18Mark_at dc rem (HL0.out.keptN hW) hS hn (bS nm) false)
          rw [hm] at HM
          clear hm
          go_enter Tryz.func38, Tryz.ntmps38
          go_wp2_with fail
          rw [HW3.out]
          go_at_call 16
          refine HNM.out.mono ?_
          rintro e w2 ⟨rfl, hw2⟩
          have hk2 : Kept noBlock W3 w2 := by obtain ⟨kq, rfl⟩ := hw2; exact (Kept.refl noBlock W3).drewN kq
          have HK2 := Lib.hid (HK3.out.trans hk2 fun _ _ h => h)
          have hz2 := hk2.size
          rw [HZ3.out] at hz2
          have HZ2 := Lib.hid hz2
          have hb1 := HB1.out.kept hk2 fun e => e
          have hb2 := HB2.out.kept hk2 fun e => e
          have hb3 := HB3.out.kept hk2 fun e => e
          have HC1 := Lib.hid hb1
          have HC2 := Lib.hid hb2
          have HC3 := Lib.hid hb3
          obtain ⟨c0, c1, c2, c3, c4, c5⟩ := cells6 hb1
          have c17 := hb2.cell 17
          simp only [List.getElem?_toArray, List.getElem?_cons_succ, List.getElem?_cons_zero] at c17
          clear hw2 hk2 hb1 hb2 hb3 HB1 HB2 HB3 hz2
          go_wp2_with fail
          go_at_call 65
          refine (HM.out w2 HK2.out).mono ?_
          rintro e w4 ⟨A4, n4, c4', l4, rfl, hr4, hk4⟩
          have HR4 := Lib.hid hr4
          have HK4 := Lib.hid (HK2.out.trans hk4 fun _ _ h => h)
          have hb1 := (HC1.out.kept hk4 fun e => e).alloc (.cells #[.string dc, .int .i64 rem, .slice A4 n4 c4'] 57)
          have hb2 := (HC2.out.kept hk4 fun e => e).alloc (.cells #[.string dc, .int .i64 rem, .slice A4 n4 c4'] 57)
          have hb3 := (HC3.out.kept hk4 fun e => e).alloc (.cells #[.string dc, .int .i64 rem, .slice A4 n4 c4'] 57)
          have hbt := Blk.new w4 57 #[.string dc, .int .i64 rem, .slice A4 n4 c4']
          have t0 := hbt.cell 0
          have t1 := hbt.cell 1
          have t2 := hbt.cell 2
          simp only [List.getElem?_toArray, List.getElem?_cons_succ, List.getElem?_cons_zero] at t0 t1 t2
          obtain ⟨f0, f1, f2, f3, f4, f5⟩ := frozen6 hb1
          obtain ⟨p0, p1, p2, p3, p4, p5⟩ := cells6 hb1
          have hkS : Kept (fun k => k = w.heap.size) (w4.alloc (.cells #[.string dc, .int .i64 rem, .slice A4 n4 c4'] 57)) ((((w4.alloc (.cells #[.string dc, .int .i64 rem, .slice A4 n4 c4'] 57)).setCell ⟨w.heap.size, 0, none⟩ (.string dc)).setCell ⟨w.heap.size, 1, none⟩ (.int .i64 rem)).setCell ⟨w.heap.size, 2, none⟩ (.slice A4 n4 c4')) := (((Kept.refl (fun k => k = w.heap.size) _).setCell (p := ⟨w.heap.size, 0, none⟩) (fun _ => rfl) _).setCell (p := ⟨w.heap.size, 1, none⟩) (fun _ => rfl) _).setCell (p := ⟨w.heap.size, 2, none⟩) (fun _ => rfl) _
          have hd1 := ((hb1.set_ 0 (.string dc)).set_ 1 (.int .i64 rem)).set_ 2 (.slice A4 n4 c4')
          have hd2 := hb2.kept hkS (by omega)
          have hd3 := hb3.kept hkS (by omega)
          obtain ⟨d0, d1, d2, d3, d4, d5⟩ := cells6 hd1
          have d17 := hd2.cell 17
          simp only [List.getElem?_toArray, List.getElem?_cons_succ, List.getElem?_cons_zero] at d17
          obtain ⟨g0, g1, g2, g3, g4, g5⟩ := frozen6 hd3
          obtain ⟨r0, r1, r2, r3, r4, r5⟩ := cells6 hd3
          have HD3 := Lib.hid hd3
          have HKW := Lib.hid ((HK4.out.alloc (.cells #[.string dc, .int .i64 rem, .slice A4 n4 c4'] 57)).trans hkS fun k hlt e => by omega)
          have HRW := Lib.hid ((HR4.out.keptN ((Kept.refl noBlock w4).alloc (.cells #[.string dc, .int .i64 rem, .slice A4 n4 c4'] 57))))
          have HKS := Lib.hid hkS
          clear hr4 hk4 hb1 hb2 hb3 hbt hd1 hd2 hd3 hkS HM HC1 HC2 HC3 c0 c1 c2 c3 c4 c5 c17
          go_wp2_with fail
          go_region
          go_wp2
          exact x3Note_ret rfl rfl rfl rfl (Blk.drew (blk6 HD3.out)) ⟨A4, n4, c4', l4, rfl, ((((HRW.out.kept HKS.out fun k e e2 => by have := HZ2.out; omega).kept (kept6 (Kept.refl (fun k => k = w.heap.size + 2) _) fun _ => rfl) fun k e e2 => by have := HZ2.out; omega).wide fun k _ e => e.imp (fun e => e.1) fun e => Nat.le_trans HK2.out.size e).keptN ((Kept.refl noBlock _).drew)), (kept6 HKW.out fun h => by omega).drew⟩
        | false =>
          rw [if_neg (by decide)]
          have HM := Lib.hid (fun (W : World) (hW : Kept noBlock w W) => R18Mark_at dc rem (HL0.out.keptN hW) hS hn (bS nm) false)
          rw [hm] at HM
          clear hm
          go_enter Tryz.func38, Tryz.ntmps38
          go_wp2_with fail
          rw [HW3.out]
          go_at_call 16
          refine HNM.out.mono ?_
          rintro e w2 ⟨rfl, hw2⟩
          have hk2 : Kept noBlock W3 w2 := by obtain ⟨kq, rfl⟩ := hw2; exact (Kept.refl noBlock W3).drewN kq
          have HK2 := Lib.hid (HK3.out.trans hk2 fun _ _ h => h)
          have hz2 := hk2.size
          rw [HZ3.out] at hz2
          have HZ2 := Lib.hid hz2
          have hb1 := HB1.out.kept hk2 fun e => e
          have hb2 := HB2.out.kept hk2 fun e => e
          have hb3 := HB3.out.kept hk2 fun e => e
          have HC1 := Lib.hid hb1
          have HC2 := Lib.hid hb2
          have HC3 := Lib.hid hb3
          obtain ⟨c0, c1, c2, c3, c4, c5⟩ := cells6 hb1
          have c17 := hb2.cell 17
          simp only [List.getElem?_toArray, List.getElem?_cons_succ, List.getElem?_cons_zero] at c17
          clear hw2 hk2 hb1 hb2 hb3 HB1 HB2 HB3 hz2
          go_wp2_with fail
          go_at_call 65
          refine (HM.out w2 HK2.out).mono ?_
          rintro e w4 ⟨A4, n4, c4', l4, rfl, hr4, hk4⟩
          have HR4 := Lib.hid hr4
          have HK4 := Lib.hid (HK2.out.trans hk4 fun _ _ h => h)
          have hb1 := (HC1.out.kept hk4 fun e => e).alloc (.cells #[.string dc, .int .i64 rem, .slice A4 n4 c4'] 57)
          have hb2 := (HC2.out.kept hk4 fun e => e).alloc (.cells #[.string dc, .int .i64 rem, .slice A4 n4 c4'] 57)
          have hb3 := (HC3.out.kept hk4 fun e => e).alloc (.cells #[.string dc, .int .i64 rem, .slice A4 n4 c4'] 57)
          have hbt := Blk.new w4 57 #[.string dc, .int .i64 rem, .slice A4 n4 c4']
          have t0 := hbt.cell 0
          have t1 := hbt.cell 1
          have t2 := hbt.cell 2
          simp only [List.getElem?_toArray, List.getElem?_cons_succ, List.getElem?_cons_zero] at t0 t1 t2
          obtain ⟨f0, f1, f2, f3, f4, f5⟩ := frozen6 hb1
          obtain ⟨p0, p1, p2, p3, p4, p5⟩ := cells6 hb1
          have hkS : Kept (fun k => k = w.heap.size) (w4.alloc (.cells #[.string dc, .int .i64 rem, .slice A4 n4 c4'] 57)) ((((w4.alloc (.cells #[.string dc, .int .i64 rem, .slice A4 n4 c4'] 57)).setCell ⟨w.heap.size, 0, none⟩ (.string dc)).setCell ⟨w.heap.size, 1, none⟩ (.int .i64 rem)).setCell ⟨w.heap.size, 2, none⟩ (.slice A4 n4 c4')) := (((Kept.refl (fun k => k = w.heap.size) _).setCell (p := ⟨w.heap.size, 0, none⟩) (fun _ => rfl) _).setCell (p := ⟨w.heap.size, 1, none⟩) (fun _ => rfl) _).setCell (p := ⟨w.heap.size, 2, none⟩) (fun _ => rfl) _
          have hd1 := ((hb1.set_ 0 (.string dc)).set_ 1 (.int .i64 rem)).set_ 2 (.slice A4 n4 c4')
          have hd2 := hb2.kept hkS (by omega)
          have hd3 := hb3.kept hkS (by omega)
          obtain ⟨d0, d1, d2, d3, d4, d5⟩ := cells6 hd1
          have d17 := hd2.cell 17
          simp only [List.getElem?_toArray, List.getElem?_cons_succ, List.getElem?_cons_zero] at d17
          obtain ⟨g0, g1, g2, g3, g4, g5⟩ := frozen6 hd3
          obtain ⟨r0, r1, r2, r3, r4, r5⟩ := cells6 hd3
          have HD3 := Lib.hid hd3
          have HKW := Lib.hid ((HK4.out.alloc (.cells #[.string dc, .int .i64 rem, .slice A4 n4 c4'] 57)).trans hkS fun k hlt e => by omega)
          have HRW := Lib.hid ((HR4.out.keptN ((Kept.refl noBlock w4).alloc (.cells #[.string dc, .int .i64 rem, .slice A4 n4 c4'] 57))))
          have HKS := Lib.hid hkS
          clear hr4 hk4 hb1 hb2 hb3 hbt hd1 hd2 hd3 hkS HM HC1 HC2 HC3 c0 c1 c2 c3 c4 c5 c17
          go_wp2
          exact x3Note_ret rfl rfl rfl rfl (blk6 HD3.out) ⟨A4, n4, c4', l4, rfl, (((HRW.out.kept HKS.out fun k e e2 => by have := HZ2.out; omega).kept (kept6 (Kept.refl (fun k => k = w.heap.size + 2) _) fun _ => rfl) fun k e e2 => by have := HZ2.out; omega).wide fun k _ e => e.imp (fun e => e.1) fun e => Nat.le_trans HK2.out.size e), kept6 HKW.out fun h => by omega⟩
    · rw [if_neg e2]
      rw [decide_eq_false fun e => e2 (.inl e)] at q2
      rw [decide_eq_false fun e => e2 (.inr e)] at q3
      clear e1 e2
      unfold c23C r09C
      cases asks with
      | true =>
        go_enter Tryz.func38, Tryz.ntmps38
        go_wp2
        exact x3Note_ret rfl rfl rfl rfl (Blk.new_at _ _ _ (by rw [sz_alloc, sz_alloc])) ⟨A, n, c, l, rfl, (HL.out.keptN (three_kept _ _ _ _)).wide fun k _ e => .inl e, three_kept _ _ _ _⟩
      | false =>
        go_enter Tryz.func38, Tryz.ntmps38
        go_wp2
        exact x3Note_ret rfl rfl rfl rfl (Blk.new_at _ _ _ (by rw [sz_alloc, sz_alloc])) ⟨A, n, c, l, rfl, (HL.out.keptN (three_kept _ _ _ _)).wide fun k _ e => .inl e, three_kept _ _ _ _⟩
  · rw [if_neg e1]
    rw [decide_eq_false e1] at q1
    clear e1
    by_cases e4 : kind = cTopo
    · rw [if_pos (.inl e4)]
      rw [decide_eq_true e4] at q4
      clear e4 q5 q6
      cases asks with
      | true =>
        rw [if_pos rfl]
        unfold c23C r09C
        go_enter Tryz.func38, Tryz.ntmps38
        go_wp2
        exact x3Note_ret rfl rfl rfl rfl (Blk.new_at _ _ _ (by rw [sz_alloc, sz_alloc])) ⟨A, n, c, l, rfl, (HL.out.keptN (three_kept _ _ _ _)).wide fun k _ e => .inl e, three_kept _ _ _ _⟩
      | false =>
        rw [if_neg (by decide)]
        unfold c23C r09C
        go_enter Tryz.func38, Tryz.ntmps38
        go_wp2_with fail
        go_at_call 66
        refine (HLT.out _).mono ?_
        rintro e w2 ⟨rfl, rfl⟩
        go_wp2
        exact x3Note_ret rfl rfl rfl rfl (Blk.new_at _ _ _ (by rw [sz_alloc, sz_alloc])) ⟨A, n, c, l, rfl, (HL.out.keptN (three_kept _ _ _ _)).wide fun k _ e => .inl e, three_kept _ _ _ _⟩
    · rw [decide_eq_false e4] at q4
      by_cases e5 : kind = cSchema ∧ target = cKey
      · rw [if_pos (.inr e5)]
        rw [decide_eq_true e5.1] at q5
        rw [decide_eq_true e5.2] at q6
        clear e4 e5
        cases asks with
        | true =>
          rw [if_pos rfl]
          unfold c23C r09C
          go_enter Tryz.func38, Tryz.ntmps38
          go_wp2
          exact x3Note_ret rfl rfl rfl rfl (Blk.new_at _ _ _ (by rw [sz_alloc, sz_alloc])) ⟨A, n, c, l, rfl, (HL.out.keptN (three_kept _ _ _ _)).wide fun k _ e => .inl e, three_kept _ _ _ _⟩
        | false =>
          rw [if_neg (by decide)]
          unfold c23C r09C
          go_enter Tryz.func38, Tryz.ntmps38
          go_wp2_with fail
          go_at_call 66
          refine (HLT.out _).mono ?_
          rintro e w2 ⟨rfl, rfl⟩
          go_wp2
          exact x3Note_ret rfl rfl rfl rfl (Blk.new_at _ _ _ (by rw [sz_alloc, sz_alloc])) ⟨A, n, c, l, rfl, (HL.out.keptN (three_kept _ _ _ _)).wide fun k _ e => .inl e, three_kept _ _ _ _⟩
      · rw [if_neg (fun e => e.elim e4 e5)]
        unfold c23C r09C
        cases asks with
        | true =>
          clear e4 e5
          go_enter Tryz.func38, Tryz.ntmps38
          go_wp2
          exact x3Note_ret rfl rfl rfl rfl (Blk.new_at _ _ _ (by rw [sz_alloc, sz_alloc])) ⟨A, n, c, l, rfl, (HL.out.keptN (three_kept _ _ _ _)).wide fun k _ e => .inl e, three_kept _ _ _ _⟩
        | false =>
          by_cases e6 : kind = cSchema
          · rw [decide_eq_true e6] at q5
            rw [decide_eq_false fun e => e5 ⟨e6, e⟩] at q6
            clear e4 e5 e6
            go_enter Tryz.func38, Tryz.ntmps38
            go_wp2
            exact x3Note_ret rfl rfl rfl rfl (Blk.new_at _ _ _ (by rw [sz_alloc, sz_alloc])) ⟨A, n, c, l, rfl, (HL.out.keptN (three_kept _ _ _ _)).wide fun k _ e => .inl e, three_kept _ _ _ _⟩
          · rw [decide_eq_false e6] at q5
            clear e4 e5 e6
            go_enter Tryz.func38, Tryz.ntmps38
            go_wp2
            exact x3Note_ret rfl rfl rfl rfl (Blk.new_at _ _ _ (by rw [sz_alloc, sz_alloc])) ⟨A, n, c, l, rfl, (HL.out.keptN (three_kept _ _ _ _)).wide fun k _ e => .inl e, three_kept _ _ _ _⟩
end
end Go.Proofs.YtdcdefkloibfnaaGreatDoor
namespace Go.Proofs.YtdcdefkloibfnaaGreatDoor
set_option linter.unusedVariables false
open Go.RowKit
open Go.ChangeMaps (setBlock)

theorem hoAt_le (S : List Ho) (x : ByteArray) : hoAt S x ≤ S.length := List.findIdx_le_length
theorem hoAt_lt {S : List Ho} {x : ByteArray} {i : Nat} {o : Ho} (h : i < hoAt S x) (ho : S[i]? = some o) : nlt o.name x := by
  have h1 := List.not_of_lt_findIdx h
  rw [(List.getElem?_eq_some_iff.1 ho).2] at h1
  simpa using h1
theorem hoAt_ge {S : List Ho} {x : ByteArray} {o : Ho} (ho : S[hoAt S x]? = some o) : ¬ nlt o.name x := by
  obtain ⟨h1, h2⟩ := List.getElem?_eq_some_iff.1 ho
  have h3 := List.findIdx_getElem (w := h1)
  have h4 : (!decide (nlt (S[hoAt S x]).name x)) = true := h3
  rw [h2] at h4
  simpa using h4
theorem filter_one (P : Ho → Bool) (q : Ho) : (([q].filter P).map (·.name)) = if P q = true then [q.name] else [] := by by_cases h : P q = true <;> simp [h]
theorem hv_take (T : List HV) (t : Nat) : (T.flatMap hvC).take (t * 5) = (T.take t).flatMap hvC := by
  by_cases h : t ≤ T.length
  · conv => lhs; rw [← List.take_append_drop t T]
    rw [List.flatMap_append, List.take_left' (by rw [hvC_len, List.length_take]; congr 1; omega)]
  · rw [List.take_of_length_le (by rw [hvC_len]; omega), List.take_of_length_le (by omega)]
theorem hv_drop (T : List HV) (t : Nat) : (T.flatMap hvC).drop (t * 5) = (T.drop t).flatMap hvC := by
  by_cases h : t ≤ T.length
  · conv => lhs; rw [← List.take_append_drop t T]
    rw [List.flatMap_append, List.drop_left' (by rw [hvC_len, List.length_take]; congr 1; omega)]
  · rw [List.drop_eq_nil_of_le (by rw [hvC_len]; omega), List.drop_eq_nil_of_le (by omega)]; rfl
theorem less_yes {a b : ByteArray} {w : World} (ha : a.size ≤ 9223372036854775807) (hb : b.size ≤ 9223372036854775807) (h : nlt a b) : Calls Tryz.prog 87 #[.string a, .string b] w fun e w' => e = .returned (.bool true) ∧ ∃ n, w' = w.drewN n := by
  have := R18less_at a b w ha hb
  rwa [decide_eq_true h] at this
theorem less_no {a b : ByteArray} {w : World} (ha : a.size ≤ 9223372036854775807) (hb : b.size ≤ 9223372036854775807) (h : ¬ nlt a b) : Calls Tryz.prog 87 #[.string a, .string b] w fun e w' => e = .returned (.bool false) ∧ ∃ n, w' = w.drewN n := by
  have := R18less_at a b w ha hb
  rwa [decide_eq_false h] at this
set_option maxHeartbeats 16000000 in
set_option maxRecDepth 100000 in
theorem R18Ref_at {w : World} {ok okL : Nat → Prop} {A0 A : Option Addr} {n0 c0 n c : Nat} {l0 lL : List HV} {S L : List Ho} (dc : ByteArray) (rem : Int) (h0 : RL w ok A0 n0 c0 l0 S) (hL : RL w okL A n c lL L) (hn0 : n0 ≤ 1000) (hn : n ≤ 1000) (ht : ∀ o ∈ L, o.toks.length ≤ 1000000) (hnm : ∀ o ∈ S ++ L, o.name.size ≤ 9223372036854775807) :
    Calls Tryz.prog 67 #[.agg #[.string dc, .int .i64 rem, .slice A0 n0 c0], .slice A n c] w fun e w' => ∃ A' k' c' T' Aa na ca Ag ng cg, e = .returned (.tuple #[.agg #[.string dc, .int .i64 rem, .slice A' k' c'], .slice Aa na ca, .slice Ag ng cg]) ∧ RL w' (fun k => w.heap.size ≤ k) A' k' c' T' (refNow (viewS S) L) ∧
      SlK w' (fun k _ => w.heap.size ≤ k ∧ k ≠ w.heap.size + 1) 1 (.slice Aa na ca) na ((addedP (viewS S) (refNow (viewS S) L)).map Value.string) ∧ SlK w' (fun k _ => w.heap.size ≤ k ∧ k ≠ w.heap.size + 1) 1 (.slice Ag ng cg) ng ((goneP S (refNow (viewS S) L)).map Value.string) ∧ Kept noBlock w w' := by
  have hb0 : Blk (w.alloc (.cells #[.string dc, .int .i64 rem, .slice A0 n0 c0] 57)) w.heap.size 57 #[.string dc, .int .i64 rem, .slice A0 n0 c0] := Blk.new _ _ _
  have hb := hb0.alloc (.cells #[.string ⟨#[]⟩, .int .i64 0, .slice none 0 0] 57)
  have hr : Blk ((w.alloc (.cells #[.string dc, .int .i64 rem, .slice A0 n0 c0] 57)).alloc (.cells #[.string ⟨#[]⟩, .int .i64 0, .slice none 0 0] 57)) (w.heap.size + 1) 57 #[.string ⟨#[]⟩, .int .i64 0, .slice none 0 0] := Blk.new_at _ _ _ (by rw [sz_alloc])
  have hk2 : Kept noBlock w ((w.alloc (.cells #[.string dc, .int .i64 rem, .slice A0 n0 c0] 57)).alloc (.cells #[.string ⟨#[]⟩, .int .i64 0, .slice none 0 0] 57)) := ((Kept.refl noBlock w).alloc _).alloc _
  have hz2 : ((w.alloc (.cells #[.string dc, .int .i64 rem, .slice A0 n0 c0] 57)).alloc (.cells #[.string ⟨#[]⟩, .int .i64 0, .slice none 0 0] 57)).heap.size = w.heap.size + 1 + 1 := by rw [sz_alloc, sz_alloc]
  have H0 := Lib.hid (h0.keptN hk2)
  have HL := Lib.hid (hL.keptN hk2)
  have HS0 := Lib.hid h0.2.1
  have HSL := Lib.hid hL.2.1
  have HB := Lib.hid hb
  have HR := Lib.hid hr
  have HW0 := Lib.hid hk2
  have HZ2 := Lib.hid hz2
  have HT := Lib.hid ht
  have HNM := Lib.hid hnm
  clear hb0 hb hr hk2 hz2 h0 hL ht hnm
  go_enter Tryz.func67, Tryz.ntmps67
  go_wp2_with fail
  generalize (w.alloc (.cells #[.string dc, .int .i64 rem, .slice A0 n0 c0] 57)).alloc (.cells #[.string ⟨#[]⟩, .int .i64 0, .slice none 0 0] 57) = wb at *
  have HPB : Hid (∀ W, Kept noBlock wb W → W.cell? ⟨w.heap.size, 2, none⟩ = some (.slice A0 n0 c0)) := Lib.hid fun W hW => (HB.out.kept hW fun e => e).cell 2
  go_loopg [7, 8] n (fun j vo vi wr => ∃ (i : Nat) (A6 : Option Addr) (k6 c6 : Nat) (T now : List _), i + j = n ∧ vi = .int .i64 i ∧ vo = .slice A6 k6 c6 ∧ Hid (now = (L.take i).foldl (refStep (viewS S)) []) ∧ now.length ≤ i ∧ RL wr (fun k => w.heap.size + 1 + 1 ≤ k) A6 k6 c6 T now ∧ Kept noBlock wb wr)
  case atStart => exact ⟨0, none, 0, 0, [], [], by omega, rfl, rfl, Lib.hid rfl, by simp, ⟨rfl, rfl, SlK.nil _ _ _, fun x hx => absurd hx List.not_mem_nil⟩, Kept.refl _ _⟩
  case round =>
    obtain ⟨i, A6, k6, c6, T, now, hij, rfl, rfl, HNW, hni, hR, hk⟩ := hrel
    have HIJ := Lib.hid hij
    have HKr := Lib.hid hk
    have HNOW := Lib.hid hR
    have HNI := Lib.hid hni
    have HNL := Lib.hid hR.2.1
    by_cases hi : i < n
    · obtain ⟨x0, hx0⟩ : ∃ x0, L[i]? = some x0 := ⟨_, List.getElem?_eq_getElem (by have := HSL.out; omega)⟩
      obtain ⟨x, gi, oi, hxl, hxa, hidx, y0, y1, y2, y3, y4, hyn, hyt⟩ := (HL.out.keptN hk).at hx0
      have hxt := HT.out x0 (List.mem_of_getElem? hx0)
      have hx1n := HNM.out x0 (List.mem_append.2 (.inr (List.mem_of_getElem? hx0)))
      have HNW1 : Hid (∀ o ∈ now, o.name.size ≤ 9223372036854775807) := Lib.hid fun o ho => by
        have ho' : o ∈ refNow (viewS S) (L.take i) := by rw [HNW.out] at ho; exact ho
        obtain ⟨a, ha, rfl, -⟩ := refNow_mem ho'
        exact HNM.out a (List.mem_append.2 (.inr (List.mem_of_mem_take ha)))
      have HXT0 := (HL.out.2.2.2 x (List.mem_of_getElem? hxl))
      subst hxa
      obtain ⟨x1, x2, x3, x4, x5, x6, x7, x8⟩ := x
      simp only [HV.abs] at y0 y1 y2 y4 hyn hxt hx1n
      have HXT : Hid (SlK wb (fun k _ => okL k) 1 (.slice x4 x5 x6) x5 (x7.map (Value.int .i64))) := Lib.hid HXT0
      have hx5 : x5 ≤ 1000000 := by have h1 : x5 = x7.length := hyn; omega
      have HTK : Hid ((L.take (i + 1)) = L.take i ++ [HV.abs ⟨x1, x2, x3, x4, x5, x6, x7, x8⟩]) := Lib.hid (by rw [List.take_add_one, hx0]; rfl)
      have hb1 : Blk (wr.alloc (.cells #[.string x1, .string x2, .string x3, .slice x4 x5 x6, .bool x8] 106)) wr.heap.size 106 #[.string x1, .string x2, .string x3, .slice x4 x5 x6, .bool x8] := Blk.new _ _ _
      have hk1 : Kept noBlock wr (wr.alloc (.cells #[.string x1, .string x2, .string x3, .slice x4 x5 x6, .bool x8] 106)) := (Kept.refl _ _).alloc _
      have z0 := hb1.cell 0
      have z3 := hb1.cell 3
      simp only [List.getElem?_toArray, List.getElem?_cons_succ, List.getElem?_cons_zero] at z0 z3
      have HB1 := Lib.hid hb1
      have HK1 := Lib.hid hk1
      have p2 := HPB.out _ (hk.trans hk1 fun _ _ e => e)
      have HF1 := R18find_at (hR.keptN hk1) x1
      have HF2 := R18find_at (H0.out.keptN (hk.trans hk1 fun _ _ e => e)) x1
      clear hij hk hR hni hx0 hxl hyn hyt hxt HXT0 hb1 hk1
      by_cases hnm : x1 = noStr
      · have hbe : (x1.toList == []) = true := by rw [hnm, ByteArray.toList_eq]; rfl
        have HST : Hid (refStep (viewS S) now (HV.abs ⟨x1, x2, x3, x4, x5, x6, x7, x8⟩) = now) := Lib.hid (by unfold refStep; rw [if_pos (.inl hnm)])
        clear hnm HF1 HF2
        go_wp2_with fail
        go_roundg (n - (i + 1))
        case measure => have := HIJ.out; omega
        case rel => exact ⟨i + 1, A6, k6, c6, T, now, by have := HIJ.out; omega, by go_num, rfl, Lib.hid (by rw [HTK.out, List.foldl_append, ← HNW.out]; exact HST.out.symm), by have := HNI.out; omega, HNOW.out.keptN HK1.out, HKr.out.trans HK1.out fun _ _ e => e⟩
      · have hbe : (x1.toList == []) = false := by
          cases hq : (x1.toList == ([] : List UInt8)) with
          | false => rfl
          | true => exact absurd (toList_inj (b := noStr) (by rw [eq_of_beq hq, ByteArray.toList_eq]; rfl)) hnm
        cases hg : getS x1 now with
        | some o =>
          have HST : Hid (refStep (viewS S) now (HV.abs ⟨x1, x2, x3, x4, x5, x6, x7, x8⟩) = now) := Lib.hid (by unfold refStep; rw [if_pos (.inr (by show (getS x1 now).isSome = true; rw [hg]; rfl))])
          obtain ⟨hv, hlt, -⟩ := findV_some hg
          rw [hv] at HF1
          clear hnm HF2 hg hv
          go_wp2_with fail
          refine HF1.mono ?_
          rintro e w4 ⟨rfl, rfl⟩
          clear HF1
          go_wp2_with fail
          go_roundg (n - (i + 1))
          case measure => have := HIJ.out; omega
          case rel => exact ⟨i + 1, A6, k6, c6, T, now, by have := HIJ.out; omega, by go_num, rfl, Lib.hid (by rw [HTK.out, List.foldl_append, ← HNW.out]; exact HST.out.symm), by have := HNI.out; omega, HNOW.out.keptN HK1.out, HKr.out.trans HK1.out fun _ _ e => e⟩
        | none =>
          have HST : Hid (refStep (viewS S) now (HV.abs ⟨x1, x2, x3, x4, x5, x6, x7, x8⟩) = insH now (updH (viewS S) (HV.abs ⟨x1, x2, x3, x4, x5, x6, x7, x8⟩))) := Lib.hid (by unfold refStep; rw [if_neg (by rintro (e | e); exact hnm e; rw [show getS (HV.abs ⟨x1, x2, x3, x4, x5, x6, x7, x8⟩).name now = none from hg] at e; cases e)])
          rw [findV_none hg] at HF1
          cases hg2 : getS x1 S with
          | none =>
            rw [findV_none hg2] at HF2
            have HUP : Hid (∀ TA TN TC, updH (viewS S) (HV.abs ⟨x1, x2, x3, x4, x5, x6, x7, x8⟩) = HV.abs ⟨x1, x2, x3, TA, TN, TC, tidyP x7, x8⟩) := Lib.hid fun _ _ _ => by simp [updH, HV.abs, viewS, hg2]
            clear hnm hg hg2
            go_wp2_with fail
            refine HF1.mono ?_
            rintro e w4 ⟨rfl, rfl⟩
            clear HF1
            go_wp2_with fail
            refine HF2.mono ?_
            rintro e w4 ⟨rfl, rfl⟩
            clear HF2
            go_wp2_with fail
            have HB5 := HB1
            have HK5 := HK1
            generalize wr.alloc (.cells #[.string x1, .string x2, .string x3, .slice x4 x5 x6, .bool x8] 106) = W5 at *
            refine (R18tidy_at (w := W5) ((HXT.out.keptNone HKr.out).keptNone HK5.out) hx5).mono ?_
            rintro e w6 ⟨TA, TN, TC, rfl, hts, htk⟩
            have hb6 := HB5.out.kept htk (fun e => e)
            have z63 := hb6.cell 3
            have f63 := hb6.frozen 3
            simp only [List.getElem?_toArray, List.getElem?_cons_succ, List.getElem?_cons_zero] at z63
            have hb7 : Blk (w6.setCell ⟨wr.heap.size, 3, none⟩ (.slice TA TN TC)) wr.heap.size 106 #[.string x1, .string x2, .string x3, .slice TA TN TC, .bool x8] := hb6.set_ 3 (.slice TA TN TC)
            have hk7 : Kept noBlock wr (w6.setCell ⟨wr.heap.size, 3, none⟩ (.slice TA TN TC)) := (HK5.out.trans htk fun _ _ e => e).setCell (p := ⟨wr.heap.size, 3, none⟩) (fun h => absurd h (Nat.lt_irrefl _)) _
            have hts7 := hts.keptAll ((Kept.refl (fun k => k = wr.heap.size) w6).setCell (p := ⟨wr.heap.size, 3, none⟩) (fun _ => rfl) (.slice TA TN TC)) (fun k e h e2 => by have := HB5.out.lt; omega)
            have HTS7 := Lib.hid hts7
            have HK7 := Lib.hid hk7
            have HB7 := Lib.hid hb7
            have HZ5 : Hid (w.heap.size + 1 + 1 ≤ W5.heap.size) := Lib.hid (by have h1 := HKr.out.size; have h2 := HK5.out.size; have h3 := HZ2.out; omega)
            clear hts htk hb6 hb7 hk7 hts7
            go_wp2_with fail
            generalize w6.setCell ⟨wr.heap.size, 3, none⟩ (.slice TA TN TC) = W7 at *
            have hpl := hoAt_le now x1
            have HLT : Hid (∀ a, a < hoAt now x1 → ∃ y, now[a]? = some y ∧ nlt y.name x1) := Lib.hid fun a ha => ⟨_, List.getElem?_eq_getElem (by omega), hoAt_lt ha (List.getElem?_eq_getElem (by omega))⟩
            have HAT : Hid (hoAt now x1 < now.length → ∃ y, now[hoAt now x1]? = some y ∧ ¬ nlt y.name x1) := Lib.hid fun h => ⟨_, List.getElem?_eq_getElem h, hoAt_ge (List.getElem?_eq_getElem h)⟩
            have HIN : Hid (insH now (HV.abs ⟨x1, x2, x3, TA, TN, TC, tidyP x7, x8⟩) = now.take (hoAt now x1) ++ HV.abs ⟨x1, x2, x3, TA, TN, TC, tidyP x7, x8⟩ :: now.drop (hoAt now x1)) := Lib.hid rfl
            have HPL := Lib.hid hpl
            have HR7 := Lib.hid (HNOW.out.keptN HK7.out)
            have b70 := HB7.out.cell 0
            simp only [List.getElem?_toArray, List.getElem?_cons_zero] at b70
            have hk6n : k6 ≤ 100000 := by have := HNL.out; have := HNI.out; omega
            clear hpl
            generalize hoAt now x1 = t at *
            go_loopg [11] t (fun q va wx => ∃ a nn : Nat, a + q = t ∧ va = .int .i64 a ∧ wx = W7.drewN nn)
            case atStart => exact ⟨0, 0, by omega, rfl, rfl⟩
            case round =>
              obtain ⟨a, nn, haq, rfl, rfl⟩ := hrel
              have HAQ := Lib.hid haq
              clear haq
              by_cases hat : a < t
              · have HATA := Lib.hid hat
                obtain ⟨y, hy, hyx⟩ := HLT.out a hat
                obtain ⟨yy, gy, oy, -, -, hidy, cy, -⟩ := HR7.out.at hy
                have hal2 : a < k6 := by have := HPL.out; have := HNL.out; omega
                have hal3 : a ≤ 100000 := by omega
                have hyn1 := HNW1.out y (List.mem_of_getElem? hy)
                clear hy
                go_wp2_with fail
                go_quiet ((first | (go_at_call 87; exact quiet_any (less_yes hyn1 hx1n hyx)) | (go_at_call 87; exact quiet_any2 (less_yes hyn1 hx1n hyx))))
                go_wp2_with fail
                go_roundg (t - (a + 1))
                case measure => have := HAQ.out; omega
                case rel => exact ⟨a + 1, nn + nq, by have := HAQ.out; have := HATA.out; omega, by go_num, by first | rfl | (rw [World.drewN_drewN])⟩
              · obtain rfl : t = a := by have := HAQ.out; omega
                clear hat
                by_cases hend : t < k6
                · obtain ⟨y, hy, hyx⟩ := HAT.out (by have := HNL.out; omega)
                  obtain ⟨yy, gy, oy, -, -, hidy, cy, -⟩ := HR7.out.at hy
                  have hyn1 := HNW1.out y (List.mem_of_getElem? hy)
                  clear hy
                  go_wp2_with fail
                  go_quiet ((first | (go_at_call 87; exact quiet_any (less_no hyn1 hx1n hyx)) | (go_at_call 87; exact quiet_any2 (less_no hyn1 hx1n hyx))))
                  try rw [World.drewN_drewN]
                  have hr8 := (HR7.out.keptN ((Kept.refl noBlock W7).drewN (nn + nq)))
                  have hkw : Kept noBlock wr (W7.drewN (nn + nq)) := HK7.out.drewN _
                  have hb8 := HB7.out.drewN (nn + nq)
                  have hts8 := SlK.drewN HTS7.out (nn + nq)
                  have hzw : wr.heap.size < (W7.drewN (nn + nq)).heap.size := hb8.lt
                  generalize W7.drewN (nn + nq) = W at *
                  have HB7W := Lib.hid hb8
                  have HKW := Lib.hid hkw
                  have HTS8 := Lib.hid hts8
                  have HK0 := Lib.hid (Kept.refl noBlock W)
                  obtain ⟨A2, c2, hto, hst⟩ := hr8.2.2.1.run_to h18sT (i := (t : Int)) (k := t) rfl (by have := HPL.out; have := HNL.out; omega)
                  obtain ⟨A3, c3, hfrom, hsf⟩ := hr8.2.2.1.run_from h18sT (i := (t : Int)) (k := t) rfl (by have := HPL.out; have := HNL.out; omega)
                  rw [hv_take] at hst
                  rw [hv_drop] at hsf
                  have HS0' := Lib.hid (SlK.lo hst)
                  have HSF0 := Lib.hid (SlK.lo hsf)
                  have hlt2 : t ≤ k6 := by have := HPL.out; have := HNL.out; omega
                  have HR8 := Lib.hid hr8
                  clear hst hsf hr8 hkw hb8 hts8 b70 HR7 hidy cy
                  go_wp2_with (at_builtin; go_must (refine wpList_append_sl _ h18sT rfl (.tmp 71) (.tmp 74) rfl W.heap.size _ 0 [] rfl (World.ownsRow_nil _ _ _ _) _ t _ rfl HS0'.out (fun u hu => hvC_one hu) ?c1 ?c2 ?_))
                  case c1 => omega
                  case c2 => first | omega | (simp; omega)
                  intro v1 w3 hap1
                  have hk3 : Kept noBlock W w3 := HK0.out.trans hap1.keptNil (fun _ _ h => h)
                  have HF1 := Lib.hid (SlK.keptNone HSF0.out hap1.keptNil)
                  have HO1 := Lib.hid hap1.own
                  have hsz1 := hap1.keptNil.size
                  have hb9 := HB7W.out.kept hk3 fun e => e
                  have q0 := hb9.cell 0
                  have q1 := hb9.cell 1
                  have q2 := hb9.cell 2
                  have q3 := hb9.cell 3
                  have q4 := hb9.cell 4
                  simp only [List.getElem?_toArray, List.getElem?_cons_succ, List.getElem?_cons_zero] at q0 q1 q2 q3 q4
                  clear hb9
                  have HK3 := Lib.hid hk3
                  clear hap1 hk3
                  go_wp2_with (at_builtin; go_must (refine wpList_append_sl _ h18sT rfl (.tmp 76) (.tmp 78) rfl W.heap.size _ t _ rfl (World.ownsRow.alloc HO1.out _) _ 1 [.string x1, .string x2, .string x3, .slice TA TN TC, .bool x8] rfl (Sl.made_at (Blk.new_at _ _ _ rfl) _ rfl rfl one_max) (by simp [Value.oneCell']) ?d1 ?d2 ?_))
                  case d1 => omega
                  case d2 => first | omega | (simp; omega)
                  intro v2 w4 hap2
                  have hf2 := SlK.appended (SlK.alloc HF1.out _) hap2 (World.ownsRow.alloc HO1.out _) (Nat.le_refl _)
                  have hk4 : Kept noBlock W w4 := hap2.below (World.ownsRow.alloc HO1.out _) (HK3.out.alloc _) HK0.out.size
                  have HO2 := Lib.hid hap2.own
                  have hsz2 := (hap2.kept).size
                  rw [sz_alloc] at hsz2
                  have HK4 := Lib.hid hk4
                  have HF2 := Lib.hid hf2
                  clear hap2 hf2 hk4 HK3
                  go_wp2_with (at_builtin; go_must (refine wpList_append_sl _ h18sT rfl (.tmp 80) (.tmp 83) rfl W.heap.size _ (t + 1) _ rfl HO2.out _ (k6 - t) _ rfl HF2.out (fun u hu => hvC_one hu) ?e1 ?e2 ?_))
                  case e1 => omega
                  case e2 => omega
                  intro v3 w5 hap3
                  have hk5 : Kept noBlock W w5 := hap3.below HO2.out HK4.out HK0.out.size
                  have HO5 := Lib.hid hap3.own
                  have HK5' := Lib.hid hk5
                  clear hap3 hk5 HK4
                  obtain ⟨A9, c9, rfl, -, -⟩ := (Sl.of_own HO5.out).shape
                  have HREL : Hid (RL w5 (fun k => w.heap.size + 1 + 1 ≤ k) A9 (t + 1 + (k6 - t)) c9 (T.take t ++ ⟨x1, x2, x3, TA, TN, TC, tidyP x7, x8⟩ :: T.drop t) (insH now (updH (viewS S) (HV.abs ⟨x1, x2, x3, x4, x5, x6, x7, x8⟩)))) := Lib.hid (by
                    have hwW : w.heap.size + 1 + 1 ≤ W.heap.size := by have h1 := HKr.out.size; have h2 := HKW.out.size; have h3 := HZ2.out; omega
                    refine ⟨?_, ?_, ?_, fun z hz => ?_⟩
                    · rw [HUP.out TA TN TC, HIN.out, List.map_append, List.map_cons, List.map_take, List.map_drop, HNOW.out.1]
                    · rw [HUP.out TA TN TC, HIN.out]
                      have := HPL.out
                      have := HNL.out
                      simp; omega
                    · have h1 := SlK.of_ownB HO5.out
                      have e1 := h1.any (ok' := fun b _ => w.heap.size + 1 + 1 ≤ b) fun b _ _ e => Nat.le_trans hwW e.1
                      simpa [List.flatMap_append, hvC] using e1
                    · have hold : ∀ z ∈ T, SlK w5 (fun k _ => w.heap.size + 1 + 1 ≤ k) 1 (.slice z.ta z.tn z.tc) z.tn (z.toks.map (Value.int .i64)) := fun z hz => (HR8.out.2.2.2 z hz).keptNone HK5'.out
                      rcases List.mem_append.1 hz with hz | hz
                      · exact hold z (List.mem_of_mem_take hz)
                      · rcases List.mem_cons.1 hz with rfl | hz
                        · exact (HTS8.out.keptNone HK5'.out).any fun k _ _ h => Nat.le_trans HZ5.out h
                        · exact hold z (List.mem_of_mem_drop hz))
                  go_wp2_with fail
                  go_roundg (n - (i + 1))
                  case measure => have := HIJ.out; omega
                  case rel => exact ⟨i + 1, A9, _, c9, _, _, by have := HIJ.out; omega, by go_num, rfl, Lib.hid (by rw [HTK.out, List.foldl_append, ← HNW.out]; exact HST.out.symm), by rw [HREL.out.2.1]; have := HNI.out; have := HNL.out; omega, HREL.out, HKr.out.trans (HKW.out.trans HK5'.out fun _ _ e => e) fun _ _ e => e⟩
                · go_wp2_with fail
                  go_quiet (fail)
                  try rw [World.drewN_drewN]
                  have hr8 := (HR7.out.keptN ((Kept.refl noBlock W7).drewN (nn + nq)))
                  have hkw : Kept noBlock wr (W7.drewN (nn + nq)) := HK7.out.drewN _
                  have hb8 := HB7.out.drewN (nn + nq)
                  have hts8 := SlK.drewN HTS7.out (nn + nq)
                  have hzw : wr.heap.size < (W7.drewN (nn + nq)).heap.size := hb8.lt
                  generalize W7.drewN (nn + nq) = W at *
                  have HB7W := Lib.hid hb8
                  have HKW := Lib.hid hkw
                  have HTS8 := Lib.hid hts8
                  have HK0 := Lib.hid (Kept.refl noBlock W)
                  obtain ⟨A2, c2, hto, hst⟩ := hr8.2.2.1.run_to h18sT (i := (t : Int)) (k := t) rfl (by have := HPL.out; have := HNL.out; omega)
                  obtain ⟨A3, c3, hfrom, hsf⟩ := hr8.2.2.1.run_from h18sT (i := (t : Int)) (k := t) rfl (by have := HPL.out; have := HNL.out; omega)
                  rw [hv_take] at hst
                  rw [hv_drop] at hsf
                  have HS0' := Lib.hid (SlK.lo hst)
                  have HSF0 := Lib.hid (SlK.lo hsf)
                  have hlt2 : t ≤ k6 := by have := HPL.out; have := HNL.out; omega
                  have HR8 := Lib.hid hr8
                  clear hst hsf hr8 hkw hb8 hts8 b70 HR7
                  go_wp2_with (at_builtin; go_must (refine wpList_append_sl _ h18sT rfl (.tmp 71) (.tmp 74) rfl W.heap.size _ 0 [] rfl (World.ownsRow_nil _ _ _ _) _ t _ rfl HS0'.out (fun u hu => hvC_one hu) ?c1 ?c2 ?_))
                  case c1 => omega
                  case c2 => first | omega | (simp; omega)
                  intro v1 w3 hap1
                  have hk3 : Kept noBlock W w3 := HK0.out.trans hap1.keptNil (fun _ _ h => h)
                  have HF1 := Lib.hid (SlK.keptNone HSF0.out hap1.keptNil)
                  have HO1 := Lib.hid hap1.own
                  have hsz1 := hap1.keptNil.size
                  have hb9 := HB7W.out.kept hk3 fun e => e
                  have q0 := hb9.cell 0
                  have q1 := hb9.cell 1
                  have q2 := hb9.cell 2
                  have q3 := hb9.cell 3
                  have q4 := hb9.cell 4
                  simp only [List.getElem?_toArray, List.getElem?_cons_succ, List.getElem?_cons_zero] at q0 q1 q2 q3 q4
                  clear hb9
                  have HK3 := Lib.hid hk3
                  clear hap1 hk3
                  go_wp2_with (at_builtin; go_must (refine wpList_append_sl _ h18sT rfl (.tmp 76) (.tmp 78) rfl W.heap.size _ t _ rfl (World.ownsRow.alloc HO1.out _) _ 1 [.string x1, .string x2, .string x3, .slice TA TN TC, .bool x8] rfl (Sl.made_at (Blk.new_at _ _ _ rfl) _ rfl rfl one_max) (by simp [Value.oneCell']) ?d1 ?d2 ?_))
                  case d1 => omega
                  case d2 => first | omega | (simp; omega)
                  intro v2 w4 hap2
                  have hf2 := SlK.appended (SlK.alloc HF1.out _) hap2 (World.ownsRow.alloc HO1.out _) (Nat.le_refl _)
                  have hk4 : Kept noBlock W w4 := hap2.below (World.ownsRow.alloc HO1.out _) (HK3.out.alloc _) HK0.out.size
                  have HO2 := Lib.hid hap2.own
                  have hsz2 := (hap2.kept).size
                  rw [sz_alloc] at hsz2
                  have HK4 := Lib.hid hk4
                  have HF2 := Lib.hid hf2
                  clear hap2 hf2 hk4 HK3
                  go_wp2_with (at_builtin; go_must (refine wpList_append_sl _ h18sT rfl (.tmp 80) (.tmp 83) rfl W.heap.size _ (t + 1) _ rfl HO2.out _ (k6 - t) _ rfl HF2.out (fun u hu => hvC_one hu) ?e1 ?e2 ?_))
                  case e1 => omega
                  case e2 => omega
                  intro v3 w5 hap3
                  have hk5 : Kept noBlock W w5 := hap3.below HO2.out HK4.out HK0.out.size
                  have HO5 := Lib.hid hap3.own
                  have HK5' := Lib.hid hk5
                  clear hap3 hk5 HK4
                  obtain ⟨A9, c9, rfl, -, -⟩ := (Sl.of_own HO5.out).shape
                  have HREL : Hid (RL w5 (fun k => w.heap.size + 1 + 1 ≤ k) A9 (t + 1 + (k6 - t)) c9 (T.take t ++ ⟨x1, x2, x3, TA, TN, TC, tidyP x7, x8⟩ :: T.drop t) (insH now (updH (viewS S) (HV.abs ⟨x1, x2, x3, x4, x5, x6, x7, x8⟩)))) := Lib.hid (by
                    have hwW : w.heap.size + 1 + 1 ≤ W.heap.size := by have h1 := HKr.out.size; have h2 := HKW.out.size; have h3 := HZ2.out; omega
                    refine ⟨?_, ?_, ?_, fun z hz => ?_⟩
                    · rw [HUP.out TA TN TC, HIN.out, List.map_append, List.map_cons, List.map_take, List.map_drop, HNOW.out.1]
                    · rw [HUP.out TA TN TC, HIN.out]
                      have := HPL.out
                      have := HNL.out
                      simp; omega
                    · have h1 := SlK.of_ownB HO5.out
                      have e1 := h1.any (ok' := fun b _ => w.heap.size + 1 + 1 ≤ b) fun b _ _ e => Nat.le_trans hwW e.1
                      simpa [List.flatMap_append, hvC] using e1
                    · have hold : ∀ z ∈ T, SlK w5 (fun k _ => w.heap.size + 1 + 1 ≤ k) 1 (.slice z.ta z.tn z.tc) z.tn (z.toks.map (Value.int .i64)) := fun z hz => (HR8.out.2.2.2 z hz).keptNone HK5'.out
                      rcases List.mem_append.1 hz with hz | hz
                      · exact hold z (List.mem_of_mem_take hz)
                      · rcases List.mem_cons.1 hz with rfl | hz
                        · exact (HTS8.out.keptNone HK5'.out).any fun k _ _ h => Nat.le_trans HZ5.out h
                        · exact hold z (List.mem_of_mem_drop hz))
                  go_wp2_with fail
                  go_roundg (n - (i + 1))
                  case measure => have := HIJ.out; omega
                  case rel => exact ⟨i + 1, A9, _, c9, _, _, by have := HIJ.out; omega, by go_num, rfl, Lib.hid (by rw [HTK.out, List.foldl_append, ← HNW.out]; exact HST.out.symm), by rw [HREL.out.2.1]; have := HNI.out; have := HNL.out; omega, HREL.out, HKr.out.trans (HKW.out.trans HK5'.out fun _ _ e => e) fun _ _ e => e⟩
          | some o =>
            obtain ⟨hv2, hlt2, hso⟩ := findV_some hg2
            rw [hv2] at HF2
            obtain ⟨zo, go_, oo, -, -, hido, -, -, -, -, u4, -, -⟩ := (H0.out.keptN (HKr.out.trans HK1.out fun _ _ e => e)).at hso
            have HUP : Hid (∀ TA TN TC, updH (viewS S) (HV.abs ⟨x1, x2, x3, x4, x5, x6, x7, x8⟩) = HV.abs ⟨x1, x2, x3, TA, TN, TC, tidyP x7, o.up⟩) := Lib.hid fun _ _ _ => by simp [updH, HV.abs, viewS, hg2]
            have hln : findI S x1 < n0 := by have := HS0.out; omega
            have z4 := HB1.out.cell 4
            have f4 := HB1.out.frozen 4
            simp only [List.getElem?_toArray, List.getElem?_cons_succ, List.getElem?_cons_zero] at z4
            have HB5 : Hid (Blk (wr.alloc (.cells #[.string x1, .string x2, .string x3, .slice x4 x5 x6, .bool o.up] 106)) wr.heap.size 106 #[.string x1, .string x2, .string x3, .slice x4 x5 x6, .bool o.up]) := Lib.hid (Blk.new _ _ _)
            have HK5 : Hid (Kept noBlock wr (wr.alloc (.cells #[.string x1, .string x2, .string x3, .slice x4 x5 x6, .bool o.up] 106))) := Lib.hid ((Kept.refl noBlock wr).alloc _)
            clear hnm hg hg2 hv2 hlt2 hso
            generalize findI S x1 = at_ at *
            go_wp2_with fail
            refine HF1.mono ?_
            rintro e w4 ⟨rfl, rfl⟩
            clear HF1
            go_wp2_with fail
            refine HF2.mono ?_
            rintro e w4 ⟨rfl, rfl⟩
            clear HF2
            go_wp2_with fail
            generalize wr.alloc (.cells #[.string x1, .string x2, .string x3, .slice x4 x5 x6, .bool o.up] 106) = W5 at *
            refine (R18tidy_at (w := W5) ((HXT.out.keptNone HKr.out).keptNone HK5.out) hx5).mono ?_
            rintro e w6 ⟨TA, TN, TC, rfl, hts, htk⟩
            have hb6 := HB5.out.kept htk (fun e => e)
            have z63 := hb6.cell 3
            have f63 := hb6.frozen 3
            simp only [List.getElem?_toArray, List.getElem?_cons_succ, List.getElem?_cons_zero] at z63
            have hb7 : Blk (w6.setCell ⟨wr.heap.size, 3, none⟩ (.slice TA TN TC)) wr.heap.size 106 #[.string x1, .string x2, .string x3, .slice TA TN TC, .bool o.up] := hb6.set_ 3 (.slice TA TN TC)
            have hk7 : Kept noBlock wr (w6.setCell ⟨wr.heap.size, 3, none⟩ (.slice TA TN TC)) := (HK5.out.trans htk fun _ _ e => e).setCell (p := ⟨wr.heap.size, 3, none⟩) (fun h => absurd h (Nat.lt_irrefl _)) _
            have hts7 := hts.keptAll ((Kept.refl (fun k => k = wr.heap.size) w6).setCell (p := ⟨wr.heap.size, 3, none⟩) (fun _ => rfl) (.slice TA TN TC)) (fun k e h e2 => by have := HB5.out.lt; omega)
            have HTS7 := Lib.hid hts7
            have HK7 := Lib.hid hk7
            have HB7 := Lib.hid hb7
            have HZ5 : Hid (w.heap.size + 1 + 1 ≤ W5.heap.size) := Lib.hid (by have h1 := HKr.out.size; have h2 := HK5.out.size; have h3 := HZ2.out; omega)
            clear hts htk hb6 hb7 hk7 hts7
            go_wp2_with fail
            generalize w6.setCell ⟨wr.heap.size, 3, none⟩ (.slice TA TN TC) = W7 at *
            have hpl := hoAt_le now x1
            have HLT : Hid (∀ a, a < hoAt now x1 → ∃ y, now[a]? = some y ∧ nlt y.name x1) := Lib.hid fun a ha => ⟨_, List.getElem?_eq_getElem (by omega), hoAt_lt ha (List.getElem?_eq_getElem (by omega))⟩
            have HAT : Hid (hoAt now x1 < now.length → ∃ y, now[hoAt now x1]? = some y ∧ ¬ nlt y.name x1) := Lib.hid fun h => ⟨_, List.getElem?_eq_getElem h, hoAt_ge (List.getElem?_eq_getElem h)⟩
            have HIN : Hid (insH now (HV.abs ⟨x1, x2, x3, TA, TN, TC, tidyP x7, o.up⟩) = now.take (hoAt now x1) ++ HV.abs ⟨x1, x2, x3, TA, TN, TC, tidyP x7, o.up⟩ :: now.drop (hoAt now x1)) := Lib.hid rfl
            have HPL := Lib.hid hpl
            have HR7 := Lib.hid (HNOW.out.keptN HK7.out)
            have b70 := HB7.out.cell 0
            simp only [List.getElem?_toArray, List.getElem?_cons_zero] at b70
            have hk6n : k6 ≤ 100000 := by have := HNL.out; have := HNI.out; omega
            clear hpl
            generalize hoAt now x1 = t at *
            go_loopg [11] t (fun q va wx => ∃ a nn : Nat, a + q = t ∧ va = .int .i64 a ∧ wx = W7.drewN nn)
            case atStart => exact ⟨0, 0, by omega, rfl, rfl⟩
            case round =>
              obtain ⟨a, nn, haq, rfl, rfl⟩ := hrel
              have HAQ := Lib.hid haq
              clear haq
              by_cases hat : a < t
              · have HATA := Lib.hid hat
                obtain ⟨y, hy, hyx⟩ := HLT.out a hat
                obtain ⟨yy, gy, oy, -, -, hidy, cy, -⟩ := HR7.out.at hy
                have hal2 : a < k6 := by have := HPL.out; have := HNL.out; omega
                have hal3 : a ≤ 100000 := by omega
                have hyn1 := HNW1.out y (List.mem_of_getElem? hy)
                clear hy
                go_wp2_with fail
                go_quiet ((first | (go_at_call 87; exact quiet_any (less_yes hyn1 hx1n hyx)) | (go_at_call 87; exact quiet_any2 (less_yes hyn1 hx1n hyx))))
                go_wp2_with fail
                go_roundg (t - (a + 1))
                case measure => have := HAQ.out; omega
                case rel => exact ⟨a + 1, nn + nq, by have := HAQ.out; have := HATA.out; omega, by go_num, by first | rfl | (rw [World.drewN_drewN])⟩
              · obtain rfl : t = a := by have := HAQ.out; omega
                clear hat
                by_cases hend : t < k6
                · obtain ⟨y, hy, hyx⟩ := HAT.out (by have := HNL.out; omega)
                  obtain ⟨yy, gy, oy, -, -, hidy, cy, -⟩ := HR7.out.at hy
                  have hyn1 := HNW1.out y (List.mem_of_getElem? hy)
                  clear hy
                  go_wp2_with fail
                  go_quiet ((first | (go_at_call 87; exact quiet_any (less_no hyn1 hx1n hyx)) | (go_at_call 87; exact quiet_any2 (less_no hyn1 hx1n hyx))))
                  try rw [World.drewN_drewN]
                  have hr8 := (HR7.out.keptN ((Kept.refl noBlock W7).drewN (nn + nq)))
                  have hkw : Kept noBlock wr (W7.drewN (nn + nq)) := HK7.out.drewN _
                  have hb8 := HB7.out.drewN (nn + nq)
                  have hts8 := SlK.drewN HTS7.out (nn + nq)
                  have hzw : wr.heap.size < (W7.drewN (nn + nq)).heap.size := hb8.lt
                  generalize W7.drewN (nn + nq) = W at *
                  have HB7W := Lib.hid hb8
                  have HKW := Lib.hid hkw
                  have HTS8 := Lib.hid hts8
                  have HK0 := Lib.hid (Kept.refl noBlock W)
                  obtain ⟨A2, c2, hto, hst⟩ := hr8.2.2.1.run_to h18sT (i := (t : Int)) (k := t) rfl (by have := HPL.out; have := HNL.out; omega)
                  obtain ⟨A3, c3, hfrom, hsf⟩ := hr8.2.2.1.run_from h18sT (i := (t : Int)) (k := t) rfl (by have := HPL.out; have := HNL.out; omega)
                  rw [hv_take] at hst
                  rw [hv_drop] at hsf
                  have HS0' := Lib.hid (SlK.lo hst)
                  have HSF0 := Lib.hid (SlK.lo hsf)
                  have hlt2 : t ≤ k6 := by have := HPL.out; have := HNL.out; omega
                  have HR8 := Lib.hid hr8
                  clear hst hsf hr8 hkw hb8 hts8 b70 HR7 hidy cy
                  go_wp2_with (at_builtin; go_must (refine wpList_append_sl _ h18sT rfl (.tmp 71) (.tmp 74) rfl W.heap.size _ 0 [] rfl (World.ownsRow_nil _ _ _ _) _ t _ rfl HS0'.out (fun u hu => hvC_one hu) ?c1 ?c2 ?_))
                  case c1 => omega
                  case c2 => first | omega | (simp; omega)
                  intro v1 w3 hap1
                  have hk3 : Kept noBlock W w3 := HK0.out.trans hap1.keptNil (fun _ _ h => h)
                  have HF1 := Lib.hid (SlK.keptNone HSF0.out hap1.keptNil)
                  have HO1 := Lib.hid hap1.own
                  have hsz1 := hap1.keptNil.size
                  have hb9 := HB7W.out.kept hk3 fun e => e
                  have q0 := hb9.cell 0
                  have q1 := hb9.cell 1
                  have q2 := hb9.cell 2
                  have q3 := hb9.cell 3
                  have q4 := hb9.cell 4
                  simp only [List.getElem?_toArray, List.getElem?_cons_succ, List.getElem?_cons_zero] at q0 q1 q2 q3 q4
                  clear hb9
                  have HK3 := Lib.hid hk3
                  clear hap1 hk3
                  go_wp2_with (at_builtin; go_must (refine wpList_append_sl _ h18sT rfl (.tmp 76) (.tmp 78) rfl W.heap.size _ t _ rfl (World.ownsRow.alloc HO1.out _) _ 1 [.string x1, .string x2, .string x3, .slice TA TN TC, .bool o.up] rfl (Sl.made_at (Blk.new_at _ _ _ rfl) _ rfl rfl one_max) (by simp [Value.oneCell']) ?d1 ?d2 ?_))
                  case d1 => omega
                  case d2 => first | omega | (simp; omega)
                  intro v2 w4 hap2
                  have hf2 := SlK.appended (SlK.alloc HF1.out _) hap2 (World.ownsRow.alloc HO1.out _) (Nat.le_refl _)
                  have hk4 : Kept noBlock W w4 := hap2.below (World.ownsRow.alloc HO1.out _) (HK3.out.alloc _) HK0.out.size
                  have HO2 := Lib.hid hap2.own
                  have hsz2 := (hap2.kept).size
                  rw [sz_alloc] at hsz2
                  have HK4 := Lib.hid hk4
                  have HF2 := Lib.hid hf2
                  clear hap2 hf2 hk4 HK3
                  go_wp2_with (at_builtin; go_must (refine wpList_append_sl _ h18sT rfl (.tmp 80) (.tmp 83) rfl W.heap.size _ (t + 1) _ rfl HO2.out _ (k6 - t) _ rfl HF2.out (fun u hu => hvC_one hu) ?e1 ?e2 ?_))
                  case e1 => omega
                  case e2 => omega
                  intro v3 w5 hap3
                  have hk5 : Kept noBlock W w5 := hap3.below HO2.out HK4.out HK0.out.size
                  have HO5 := Lib.hid hap3.own
                  have HK5' := Lib.hid hk5
                  clear hap3 hk5 HK4
                  obtain ⟨A9, c9, rfl, -, -⟩ := (Sl.of_own HO5.out).shape
                  have HREL : Hid (RL w5 (fun k => w.heap.size + 1 + 1 ≤ k) A9 (t + 1 + (k6 - t)) c9 (T.take t ++ ⟨x1, x2, x3, TA, TN, TC, tidyP x7, o.up⟩ :: T.drop t) (insH now (updH (viewS S) (HV.abs ⟨x1, x2, x3, x4, x5, x6, x7, x8⟩)))) := Lib.hid (by
                    have hwW : w.heap.size + 1 + 1 ≤ W.heap.size := by have h1 := HKr.out.size; have h2 := HKW.out.size; have h3 := HZ2.out; omega
                    refine ⟨?_, ?_, ?_, fun z hz => ?_⟩
                    · rw [HUP.out TA TN TC, HIN.out, List.map_append, List.map_cons, List.map_take, List.map_drop, HNOW.out.1]
                    · rw [HUP.out TA TN TC, HIN.out]
                      have := HPL.out
                      have := HNL.out
                      simp; omega
                    · have h1 := SlK.of_ownB HO5.out
                      have e1 := h1.any (ok' := fun b _ => w.heap.size + 1 + 1 ≤ b) fun b _ _ e => Nat.le_trans hwW e.1
                      simpa [List.flatMap_append, hvC] using e1
                    · have hold : ∀ z ∈ T, SlK w5 (fun k _ => w.heap.size + 1 + 1 ≤ k) 1 (.slice z.ta z.tn z.tc) z.tn (z.toks.map (Value.int .i64)) := fun z hz => (HR8.out.2.2.2 z hz).keptNone HK5'.out
                      rcases List.mem_append.1 hz with hz | hz
                      · exact hold z (List.mem_of_mem_take hz)
                      · rcases List.mem_cons.1 hz with rfl | hz
                        · exact (HTS8.out.keptNone HK5'.out).any fun k _ _ h => Nat.le_trans HZ5.out h
                        · exact hold z (List.mem_of_mem_drop hz))
                  go_wp2_with fail
                  go_roundg (n - (i + 1))
                  case measure => have := HIJ.out; omega
                  case rel => exact ⟨i + 1, A9, _, c9, _, _, by have := HIJ.out; omega, by go_num, rfl, Lib.hid (by rw [HTK.out, List.foldl_append, ← HNW.out]; exact HST.out.symm), by rw [HREL.out.2.1]; have := HNI.out; have := HNL.out; omega, HREL.out, HKr.out.trans (HKW.out.trans HK5'.out fun _ _ e => e) fun _ _ e => e⟩
                · go_wp2_with fail
                  go_quiet (fail)
                  try rw [World.drewN_drewN]
                  have hr8 := (HR7.out.keptN ((Kept.refl noBlock W7).drewN (nn + nq)))
                  have hkw : Kept noBlock wr (W7.drewN (nn + nq)) := HK7.out.drewN _
                  have hb8 := HB7.out.drewN (nn + nq)
                  have hts8 := SlK.drewN HTS7.out (nn + nq)
                  have hzw : wr.heap.size < (W7.drewN (nn + nq)).heap.size := hb8.lt
                  generalize W7.drewN (nn + nq) = W at *
                  have HB7W := Lib.hid hb8
                  have HKW := Lib.hid hkw
                  have HTS8 := Lib.hid hts8
                  have HK0 := Lib.hid (Kept.refl noBlock W)
                  obtain ⟨A2, c2, hto, hst⟩ := hr8.2.2.1.run_to h18sT (i := (t : Int)) (k := t) rfl (by have := HPL.out; have := HNL.out; omega)
                  obtain ⟨A3, c3, hfrom, hsf⟩ := hr8.2.2.1.run_from h18sT (i := (t : Int)) (k := t) rfl (by have := HPL.out; have := HNL.out; omega)
                  rw [hv_take] at hst
                  rw [hv_drop] at hsf
                  have HS0' := Lib.hid (SlK.lo hst)
                  have HSF0 := Lib.hid (SlK.lo hsf)
                  have hlt2 : t ≤ k6 := by have := HPL.out; have := HNL.out; omega
                  have HR8 := Lib.hid hr8
                  clear hst hsf hr8 hkw hb8 hts8 b70 HR7
                  go_wp2_with (at_builtin; go_must (refine wpList_append_sl _ h18sT rfl (.tmp 71) (.tmp 74) rfl W.heap.size _ 0 [] rfl (World.ownsRow_nil _ _ _ _) _ t _ rfl HS0'.out (fun u hu => hvC_one hu) ?c1 ?c2 ?_))
                  case c1 => omega
                  case c2 => first | omega | (simp; omega)
                  intro v1 w3 hap1
                  have hk3 : Kept noBlock W w3 := HK0.out.trans hap1.keptNil (fun _ _ h => h)
                  have HF1 := Lib.hid (SlK.keptNone HSF0.out hap1.keptNil)
                  have HO1 := Lib.hid hap1.own
                  have hsz1 := hap1.keptNil.size
                  have hb9 := HB7W.out.kept hk3 fun e => e
                  have q0 := hb9.cell 0
                  have q1 := hb9.cell 1
                  have q2 := hb9.cell 2
                  have q3 := hb9.cell 3
                  have q4 := hb9.cell 4
                  simp only [List.getElem?_toArray, List.getElem?_cons_succ, List.getElem?_cons_zero] at q0 q1 q2 q3 q4
                  clear hb9
                  have HK3 := Lib.hid hk3
                  clear hap1 hk3
                  go_wp2_with (at_builtin; go_must (refine wpList_append_sl _ h18sT rfl (.tmp 76) (.tmp 78) rfl W.heap.size _ t _ rfl (World.ownsRow.alloc HO1.out _) _ 1 [.string x1, .string x2, .string x3, .slice TA TN TC, .bool o.up] rfl (Sl.made_at (Blk.new_at _ _ _ rfl) _ rfl rfl one_max) (by simp [Value.oneCell']) ?d1 ?d2 ?_))
                  case d1 => omega
                  case d2 => first | omega | (simp; omega)
                  intro v2 w4 hap2
                  have hf2 := SlK.appended (SlK.alloc HF1.out _) hap2 (World.ownsRow.alloc HO1.out _) (Nat.le_refl _)
                  have hk4 : Kept noBlock W w4 := hap2.below (World.ownsRow.alloc HO1.out _) (HK3.out.alloc _) HK0.out.size
                  have HO2 := Lib.hid hap2.own
                  have hsz2 := (hap2.kept).size
                  rw [sz_alloc] at hsz2
                  have HK4 := Lib.hid hk4
                  have HF2 := Lib.hid hf2
                  clear hap2 hf2 hk4 HK3
                  go_wp2_with (at_builtin; go_must (refine wpList_append_sl _ h18sT rfl (.tmp 80) (.tmp 83) rfl W.heap.size _ (t + 1) _ rfl HO2.out _ (k6 - t) _ rfl HF2.out (fun u hu => hvC_one hu) ?e1 ?e2 ?_))
                  case e1 => omega
                  case e2 => omega
                  intro v3 w5 hap3
                  have hk5 : Kept noBlock W w5 := hap3.below HO2.out HK4.out HK0.out.size
                  have HO5 := Lib.hid hap3.own
                  have HK5' := Lib.hid hk5
                  clear hap3 hk5 HK4
                  obtain ⟨A9, c9, rfl, -, -⟩ := (Sl.of_own HO5.out).shape
                  have HREL : Hid (RL w5 (fun k => w.heap.size + 1 + 1 ≤ k) A9 (t + 1 + (k6 - t)) c9 (T.take t ++ ⟨x1, x2, x3, TA, TN, TC, tidyP x7, o.up⟩ :: T.drop t) (insH now (updH (viewS S) (HV.abs ⟨x1, x2, x3, x4, x5, x6, x7, x8⟩)))) := Lib.hid (by
                    have hwW : w.heap.size + 1 + 1 ≤ W.heap.size := by have h1 := HKr.out.size; have h2 := HKW.out.size; have h3 := HZ2.out; omega
                    refine ⟨?_, ?_, ?_, fun z hz => ?_⟩
                    · rw [HUP.out TA TN TC, HIN.out, List.map_append, List.map_cons, List.map_take, List.map_drop, HNOW.out.1]
                    · rw [HUP.out TA TN TC, HIN.out]
                      have := HPL.out
                      have := HNL.out
                      simp; omega
                    · have h1 := SlK.of_ownB HO5.out
                      have e1 := h1.any (ok' := fun b _ => w.heap.size + 1 + 1 ≤ b) fun b _ _ e => Nat.le_trans hwW e.1
                      simpa [List.flatMap_append, hvC] using e1
                    · have hold : ∀ z ∈ T, SlK w5 (fun k _ => w.heap.size + 1 + 1 ≤ k) 1 (.slice z.ta z.tn z.tc) z.tn (z.toks.map (Value.int .i64)) := fun z hz => (HR8.out.2.2.2 z hz).keptNone HK5'.out
                      rcases List.mem_append.1 hz with hz | hz
                      · exact hold z (List.mem_of_mem_take hz)
                      · rcases List.mem_cons.1 hz with rfl | hz
                        · exact (HTS8.out.keptNone HK5'.out).any fun k _ _ h => Nat.le_trans HZ5.out h
                        · exact hold z (List.mem_of_mem_drop hz))
                  go_wp2_with fail
                  go_roundg (n - (i + 1))
                  case measure => have := HIJ.out; omega
                  case rel => exact ⟨i + 1, A9, _, c9, _, _, by have := HIJ.out; omega, by go_num, rfl, Lib.hid (by rw [HTK.out, List.foldl_append, ← HNW.out]; exact HST.out.symm), by rw [HREL.out.2.1]; have := HNI.out; have := HNL.out; omega, HREL.out, HKr.out.trans (HKW.out.trans HK5'.out fun _ _ e => e) fun _ _ e => e⟩
    · obtain rfl : i = n := by omega
      obtain ⟨wl, rfl⟩ : ∃ wl : World, wl = wr := ⟨_, rfl⟩
      have HNF : Hid (now = refNow (viewS S) L) := Lib.hid (by rw [HNW.out, List.take_of_length_le (by have := HSL.out; omega)]; rfl)
      have hk6n : k6 ≤ 1000 := by have := HNL.out; omega
      have HNB := HNOW
      clear hij hk hR hni
      go_wp2_with fail
      go_loopg [13, 15] k6 (fun jj va vi wr => ∃ (i : Nat) (AD : List ByteArray), i + jj = k6 ∧ vi = .int .i64 i ∧ Hid (AD = addedP (viewS S) (now.take i)) ∧ AD.length ≤ i ∧ wr.ownsRow wl.heap.size 9 1 va AD.length (AD.map Value.string) ∧ Kept noBlock wl wr)
      case atStart => exact ⟨0, [], by omega, rfl, Lib.hid rfl, by simp, World.ownsRow_nil _ _ _ _, Kept.refl _ _⟩
      case round =>
        obtain ⟨i, AD, hij, rfl, HAD, hADi, hown, hk⟩ := hrel
        have HIJ := Lib.hid hij
        have HKa := Lib.hid hk
        have HOW := Lib.hid hown
        have p2 := HPB.out _ (HKr.out.trans hk fun _ _ e => e)
        by_cases hi : i < k6
        · obtain ⟨q, hq⟩ : ∃ q, now[i]? = some q := ⟨_, List.getElem?_eq_getElem (by have := HNL.out; omega)⟩
          obtain ⟨y, gi, oi, -, -, hidx, y0, -⟩ := (HNOW.out.keptN hk).at hq
          have HFW := Lib.hid (fun (W : World) (hW : Kept noBlock wr W) => R18find_at (H0.out.keptN ((HKr.out.trans hk fun _ _ e => e).trans hW fun _ _ e => e)) q.name)
          have HTK : Hid (addedP (viewS S) (now.take (i + 1)) = addedP (viewS S) (now.take i) ++ if (getS q.name S).isNone = true then [q.name] else []) := Lib.hid (by
            unfold addedP
            rw [List.take_add_one, hq, List.filter_append, List.map_append]
            congr 1
            exact filter_one (fun h => (viewS S h.name).isNone) q)
          clear hij hk hown hq
          cases hg : getS q.name S with
          | some o =>
            have HF : Hid (∀ W, Kept noBlock wr W → Calls Tryz.prog 85 #[.slice A0 n0 c0, .string q.name] W fun e w' => e = .returned (.int .i64 (findI S q.name)) ∧ W = w') := Lib.hid fun W hW => by have := HFW.out W hW; rwa [(findV_some hg).1] at this
            have HT2 : Hid (AD = addedP (viewS S) (now.take (i + 1))) := Lib.hid (by rw [HTK.out, hg, ← HAD.out]; simp)
            clear hg HFW
            generalize findI S q.name = at_ at *
            go_wp2_with fail
            go_quiet ((first | (go_at_call 85; exact quiet_same (HF.out _ ((Kept.refl _ _).drewN _))) | (go_at_call 85; exact quiet_same2 (HF.out _ ((Kept.refl _ _).drewN _)))))
            go_wp2_with fail
            go_roundg (k6 - (i + 1))
            case measure => have := HIJ.out; omega
            case rel => exact ⟨i + 1, AD, by have := HIJ.out; omega, by go_num, HT2, by omega, own_keptB HOW.out ((Kept.refl noBlock _).drewN _) (fun _ _ e => e), HKa.out.drewN _⟩
          | none =>
            have HF : Hid (∀ W, Kept noBlock wr W → Calls Tryz.prog 85 #[.slice A0 n0 c0, .string q.name] W fun e w' => e = .returned (.int .i64 (-1)) ∧ W = w') := Lib.hid fun W hW => by have := HFW.out W hW; rwa [findV_none hg] at this
            have HT2 : Hid (AD ++ [q.name] = addedP (viewS S) (now.take (i + 1))) := Lib.hid (by rw [HTK.out, hg, ← HAD.out]; simp)
            clear hg HFW
            go_wp2_with fail
            go_quiet ((first | (go_at_call 85; exact quiet_same (HF.out _ ((Kept.refl _ _).drewN _))) | (go_at_call 85; exact quiet_same2 (HF.out _ ((Kept.refl _ _).drewN _)))))
            go_wp2_with (at_builtin; go_must (refine wpList_append_sl _ strsT rfl (.tmp 100) (.tmp 106) rfl wl.heap.size _ AD.length (AD.map Value.string) rfl (World.ownsRow.alloc (own_keptB HOW.out ((Kept.refl noBlock _).drewN _) (fun _ _ e => e)) _) _ 1 [.string q.name] rfl (Sl.made_at (Blk.new_at _ 9 #[.string q.name] rfl) _ rfl rfl one_max) (by simp [Value.oneCell']) ?c1 ?c2 ?_))
            case c1 => omega
            case c2 => have := HKa.out.size; simp only [sz_alloc, sz_drewN]; omega
            intro v' w4 hap
            have hk4 : Kept noBlock wl w4 := hap.below (World.ownsRow.alloc (own_keptB HOW.out ((Kept.refl noBlock _).drewN _) (fun _ _ e => e)) _) ((HKa.out.drewN _).alloc _) (Nat.le_refl _)
            have HO4 : Hid (w4.ownsRow wl.heap.size 9 1 v' (AD ++ [q.name]).length ((AD ++ [q.name]).map Value.string)) := Lib.hid (by simpa using hap.own)
            have HK4 := Lib.hid hk4
            clear hap hk4
            go_wp2_with fail
            go_roundg (k6 - (i + 1))
            case measure => have := HIJ.out; omega
            case rel => exact ⟨i + 1, _, by have := HIJ.out; omega, by go_num, HT2, by simp; omega, HO4.out, HK4.out⟩
        · obtain rfl : k6 = i := by omega
          have HADF : Hid (AD = addedP (viewS S) now) := Lib.hid (by rw [HAD.out, List.take_of_length_le (by have := HNL.out; omega)])
          obtain ⟨wm, rfl⟩ : ∃ wm : World, wm = wr := ⟨_, rfl⟩
          clear hij hk hown HAD
          go_wp2_with fail
          clear p2
          go_loopg [14, 16] n0 (fun jj va vi wr => ∃ (j : Nat) (G : List ByteArray), j + jj = n0 ∧ vi = .int .i64 j ∧ Hid (G = goneP (S.take j) now) ∧ G.length ≤ j ∧ wr.ownsRow wm.heap.size 9 1 va G.length (G.map Value.string) ∧ Kept noBlock wm wr)
          case atStart => exact ⟨0, [], by omega, rfl, Lib.hid rfl, by simp, World.ownsRow_nil _ _ _ _, Kept.refl _ _⟩
          case round =>
            obtain ⟨j, G, hij, rfl, HG, hGi, hown, hk⟩ := hrel
            have HIJ2 := Lib.hid hij
            have HKb := Lib.hid hk
            have HOW2 := Lib.hid hown
            have HKl := Lib.hid (HKa.out.trans hk fun _ _ e => e)
            have p2 := HPB.out _ (HKr.out.trans HKl.out fun _ _ e => e)
            by_cases hj : j < n0
            · obtain ⟨q, hq⟩ : ∃ q, S[j]? = some q := ⟨_, List.getElem?_eq_getElem (by have := HS0.out; omega)⟩
              obtain ⟨y, gi, oi, -, -, hidx, y0, -⟩ := (H0.out.keptN (HKr.out.trans HKl.out fun _ _ e => e)).at hq
              have HFW := R18find_at (HNOW.out.keptN HKl.out) q.name
              have HTK : Hid (goneP (S.take (j + 1)) now = goneP (S.take j) now ++ if (getS q.name now).isNone = true then [q.name] else []) := Lib.hid (by
                unfold goneP
                rw [List.take_add_one, hq, List.filter_append, List.map_append]
                congr 1
                exact filter_one (fun h => (getS h.name now).isNone) q)
              clear hij hk hown hq
              cases hg : getS q.name now with
              | some o =>
                have HT2 : Hid (G = goneP (S.take (j + 1)) now) := Lib.hid (by rw [HTK.out, hg, ← HG.out]; simp)
                rw [(findV_some hg).1] at HFW
                clear hg
                generalize findI now q.name = at_ at *
                go_wp2_with fail
                refine HFW.mono ?_
                rintro e w4 ⟨rfl, rfl⟩
                clear HFW
                go_wp2_with fail
                go_roundg (n0 - (j + 1))
                case measure => have := HIJ2.out; omega
                case rel => exact ⟨j + 1, G, by have := HIJ2.out; omega, by go_num, HT2, by omega, HOW2.out, HKb.out⟩
              | none =>
                have HT2 : Hid (G ++ [q.name] = goneP (S.take (j + 1)) now) := Lib.hid (by rw [HTK.out, hg, ← HG.out]; simp)
                rw [findV_none hg] at HFW
                clear hg
                go_wp2_with fail
                refine HFW.mono ?_
                rintro e w4 ⟨rfl, rfl⟩
                clear HFW
                go_wp2_with (at_builtin; go_must (refine wpList_append_sl _ strsT rfl (.tmp 124) (.tmp 131) rfl wm.heap.size _ G.length (G.map Value.string) rfl (World.ownsRow.alloc HOW2.out _) _ 1 [.string q.name] rfl (Sl.made_at (Blk.new_at _ 9 #[.string q.name] rfl) _ rfl rfl one_max) (by simp [Value.oneCell']) ?c1 ?c2 ?_))
                case c1 => omega
                case c2 => have := HKb.out.size; simp only [sz_alloc]; omega
                intro v' w4 hap
                have hk4 : Kept noBlock wm w4 := hap.below (World.ownsRow.alloc HOW2.out _) (HKb.out.alloc _) (Nat.le_refl _)
                have HO4 : Hid (w4.ownsRow wm.heap.size 9 1 v' (G ++ [q.name]).length ((G ++ [q.name]).map Value.string)) := Lib.hid (by simpa using hap.own)
                have HK4 := Lib.hid hk4
                clear hap hk4
                go_wp2_with fail
                go_roundg (n0 - (j + 1))
                case measure => have := HIJ2.out; omega
                case rel => exact ⟨j + 1, _, by have := HIJ2.out; omega, by go_num, HT2, by simp; omega, HO4.out, HK4.out⟩
            · obtain rfl : n0 = j := by omega
              have HGF : Hid (G = goneP S now) := Lib.hid (by rw [HG.out, List.take_of_length_le (by have := HS0.out; omega)])
              have HKbw := Lib.hid (HKr.out.trans HKl.out fun _ _ e => e)
              have hbw := HB.out.kept HKbw.out (fun e => e)
              have hrw := HR.out.kept HKbw.out (fun e => e)
              have HKw := Lib.hid (HW0.out.trans HKbw.out fun _ _ e => e)
              have q0 := hbw.cell 0
              have q1 := hbw.cell 1
              have f2 := hbw.frozen 2
              have s0 := hrw.cell 0
              have s1 := hrw.cell 1
              have s2 := hrw.cell 2
              have t0 := hrw.frozen 0
              have t1 := hrw.frozen 1
              have t2 := hrw.frozen 2
              simp only [List.getElem?_toArray, List.getElem?_cons_succ, List.getElem?_cons_zero] at q0 q1 s0 s1 s2
              have HR6 : Hid (Blk (wr.setCell ⟨w.heap.size, 2, none⟩ (.slice A6 k6 c6)) (w.heap.size + 1) 57 #[.string ⟨#[]⟩, .int .i64 0, .slice none 0 0]) := Lib.hid (hrw.far (p := ⟨w.heap.size, 2, none⟩) (by simp only []; omega) _)
              have HK6 : Hid (Kept noBlock w (wr.setCell ⟨w.heap.size, 2, none⟩ (.slice A6 k6 c6))) := Lib.hid (HKw.out.setCell (p := ⟨w.heap.size, 2, none⟩) (fun h => absurd h (Nat.lt_irrefl _)) _)
              have hk26 : Kept (fun k => k = w.heap.size) wr (wr.setCell ⟨w.heap.size, 2, none⟩ (.slice A6 k6 c6)) := (Kept.refl (fun k => k = w.heap.size) wr).setCell (p := ⟨w.heap.size, 2, none⟩) (fun _ => rfl) _
              have hbase : w.heap.size + 1 + 1 ≤ wl.heap.size := by have := HKr.out.size; have := HZ2.out; omega
              have HRL : Hid (RL (wr.setCell ⟨w.heap.size, 2, none⟩ (.slice A6 k6 c6)) (fun k => w.heap.size ≤ k ∧ k ≠ w.heap.size + 1) A6 k6 c6 T now) := Lib.hid ((HNB.out.keptN HKl.out).kept hk26 (fun k e e2 => by omega) |>.wide fun k _ e => ⟨by omega, by omega⟩)
              have HADR : Hid (SlK (wr.setCell ⟨w.heap.size, 2, none⟩ (.slice A6 k6 c6)) (fun k _ => w.heap.size ≤ k ∧ k ≠ w.heap.size + 1) 1 u13 AD.length (AD.map Value.string)) := Lib.hid (((SlK.of_ownB (own_keptB HOW.out HKb.out fun _ _ e => e)).keptAll hk26 (fun k _ e e2 => by have := e.1; omega)).any fun k _ _ e => ⟨by have := e.1; omega, by have := e.1; omega⟩)
              have HGR : Hid (SlK (wr.setCell ⟨w.heap.size, 2, none⟩ (.slice A6 k6 c6)) (fun k _ => w.heap.size ≤ k ∧ k ≠ w.heap.size + 1) 1 u14 G.length (G.map Value.string)) := Lib.hid (((SlK.of_ownB HOW2.out).keptAll hk26 (fun k _ e e2 => by have := e.1; have := HKa.out.size; omega)).any fun k _ _ e => ⟨by have := e.1; have := HKa.out.size; omega, by have := e.1; have := HKa.out.size; omega⟩)
              clear hij hk hown hbw hrw hk26
              go_wp2_with fail
              generalize wr.setCell ⟨w.heap.size, 2, none⟩ (.slice A6 k6 c6) = w6 at *
              have hw3 : Blk (((w6.setCell ⟨w.heap.size + 1, 0, none⟩ (.string dc)).setCell ⟨w.heap.size + 1, 1, none⟩ (.int .i64 rem)).setCell ⟨w.heap.size + 1, 2, none⟩ (.slice A6 k6 c6)) (w.heap.size + 1) 57 #[.string dc, .int .i64 rem, .slice A6 k6 c6] := ((HR6.out.set_ 0 (.string dc)).set_ 1 (.int .i64 rem)).set_ 2 (.slice A6 k6 c6)
              have hk3 : Kept noBlock w (((w6.setCell ⟨w.heap.size + 1, 0, none⟩ (.string dc)).setCell ⟨w.heap.size + 1, 1, none⟩ (.int .i64 rem)).setCell ⟨w.heap.size + 1, 2, none⟩ (.slice A6 k6 c6)) := ((HK6.out.setCell (p := ⟨w.heap.size + 1, 0, none⟩) (fun h => absurd h (by simp only []; omega)) _).setCell (p := ⟨w.heap.size + 1, 1, none⟩) (fun h => absurd h (by simp only []; omega)) _).setCell (p := ⟨w.heap.size + 1, 2, none⟩) (fun h => absurd h (by simp only []; omega)) _
              have hkx : Kept (fun k => k = w.heap.size + 1) w6 (((w6.setCell ⟨w.heap.size + 1, 0, none⟩ (.string dc)).setCell ⟨w.heap.size + 1, 1, none⟩ (.int .i64 rem)).setCell ⟨w.heap.size + 1, 2, none⟩ (.slice A6 k6 c6)) := (((Kept.refl (fun k => k = w.heap.size + 1) w6).setCell (p := ⟨w.heap.size + 1, 0, none⟩) (fun _ => rfl) _).setCell (p := ⟨w.heap.size + 1, 1, none⟩) (fun _ => rfl) _).setCell (p := ⟨w.heap.size + 1, 2, none⟩) (fun _ => rfl) _
              have d0 := hw3.cell 0
              have d1 := hw3.cell 1
              have d2 := hw3.cell 2
              simp only [List.getElem?_toArray, List.getElem?_cons_succ, List.getElem?_cons_zero] at d0 d1 d2
              generalize ((w6.setCell ⟨w.heap.size + 1, 0, none⟩ (.string dc)).setCell ⟨w.heap.size + 1, 1, none⟩ (.int .i64 rem)).setCell ⟨w.heap.size + 1, 2, none⟩ (.slice A6 k6 c6) = W3 at *
              refine bodyPost_ret (v := .tuple #[.agg #[.string dc, .int .i64 rem, .slice A6 k6 c6], u13, u14]) (by simp [results, Tryz.results67, go_sem, d0, d1, d2]) rfl ?_
              obtain ⟨Aa, ca, hva, -, -⟩ := HADR.out.shape
              obtain ⟨Ag, cg, hvg, -, -⟩ := HGR.out.shape
              subst hva hvg
              refine ⟨A6, k6, c6, T, Aa, _, ca, Ag, _, cg, rfl, ?_, ?_, ?_, hk3⟩
              · rw [← HNF.out]
                exact (HRL.out.kept hkx fun k e e2 => e.2 e2).wide fun k _ e => e.1
              · rw [← HNF.out, ← HADF.out]
                exact HADR.out.keptAll hkx fun k _ e e2 => e.2 e2
              · rw [← HNF.out, ← HGF.out]
                exact HGR.out.keptAll hkx fun k _ e e2 => e.2 e2
end Go.Proofs.YtdcdefkloibfnaaGreatDoor
namespace Go.Proofs.YtdcdefkloibfnaaGreatDoor
set_option linter.unusedVariables false
open Go.RowKit

abbrev c23X : Array Value := #[.string ⟨#[]⟩, .int .i64 0, .slice none 0 0, .int .u64 0, .bool false, .int .u64 0]
/-- The hosts of two of the reference's tables. -/
def bothX (t1 t2 : XT) : Option (List Ho) :=
  match hostsP t1.names t1.vals, hostsP t2.names t2.vals with
  | some a, some b => some (a ++ b)
  | _, _ => none
theorem bothX_1 {t1 t2 : XT} (h : hostsP t1.names t1.vals = none) : bothX t1 t2 = none := by unfold bothX; rw [h]
theorem bothX_2 {t1 t2 : XT} {a : List Ho} (h : hostsP t1.names t1.vals = some a) (h2 : hostsP t2.names t2.vals = none) : bothX t1 t2 = none := by unfold bothX; rw [h, h2]
theorem bothX_3 {t1 t2 : XT} {a b : List Ho} (h : hostsP t1.names t1.vals = some a) (h2 : hostsP t2.names t2.vals = some b) : bothX t1 t2 = some (a ++ b) := by unfold bothX; rw [h, h2]
/-- What the reference's Refresh gives. -/
def XRefPost (w : World) (dc : ByteArray) (rem : Int) (A : Option Addr) (n c : Nat) (S : List Ho) (wait : Int) (asks : Bool) (at_ : Int) (R : Option (List Ho)) (e : Ending) (w' : World) : Prop :=
  match R with
  | none => e = .returned (.tuple #[.agg (c23C dc rem A n c wait asks at_), .slice none 0 0, .slice none 0 0, .int .i64 11]) ∧ Kept noBlock w w'
  | some L => ∃ A' n' c' l' Aa na ca Ag ng cg, e = .returned (.tuple #[.agg (c23C dc rem A' n' c' wait asks at_), .slice Aa na ca, .slice Ag ng cg, .int .i64 0]) ∧ RL w' (fun k => w.heap.size ≤ k) A' n' c' l' (refNow (viewS S) L) ∧
      SlK w' (fun k _ => w.heap.size ≤ k) 1 (.slice Aa na ca) na ((addedP (viewS S) (refNow (viewS S) L)).map Value.string) ∧ SlK w' (fun k _ => w.heap.size ≤ k) 1 (.slice Ag ng cg) ng ((goneP S (refNow (viewS S) L)).map Value.string) ∧ Kept noBlock w w'
theorem x3Ref_ret {W : World} {T : Array Value} {M : Nat} {u0 u1 u2 u3 u4 u5 v7 v8 v9 : Value} {R : Ending → World → Prop} (h6 : T.getD 6 undef = .pointer (some ⟨M, 0, none⟩)) (h7 : T.getD 7 undef = v7) (h8 : T.getD 8 undef = v8) (h9 : T.getD 9 undef = v9) (q : Blk W M 59 #[u0, u1, u2, u3, u4, u5])
    (hR : R (.returned (.tuple #[.agg #[u0, u1, u2, u3, u4, u5], v7, v8, v9])) W) : bodyPost Tryz.prog Tryz.f40 R .ret { tmps := T, defers := [] } W := by
  have h6' : T[6]?.getD undef = .pointer (some ⟨M, 0, none⟩) := by simpa using h6
  have h7' : T[7]?.getD undef = v7 := by simpa using h7
  have h8' : T[8]?.getD undef = v8 := by simpa using h8
  have h9' : T[9]?.getD undef = v9 := by simpa using h9
  obtain ⟨d0, d1, d2, d3, d4, d5⟩ := cells6 q
  exact bodyPost_ret (v := .tuple #[.agg #[u0, u1, u2, u3, u4, u5], v7, v8, v9]) (by simp [results, Tryz.results40, go_sem, h6', h7', h8', h9', d0, d1, d2, d3, d4, d5]) rfl hR
theorem four_kept (w : World) (o o' o'' o3 : Obj) : Kept noBlock w ((((w.alloc o).alloc o').alloc o'').alloc o3) := ((((Kept.refl noBlock w).alloc _).alloc _).alloc _).alloc _
section
variable {w : World} {ok : Nat → Prop} {A : Option Addr} {n c : Nat} {l : List HV} {S : List Ho}
set_option maxHeartbeats 8000000 in
set_option maxRecDepth 100000 in
theorem x3Refresh_at (dc : ByteArray) (rem wait : Int) (asks : Bool) (at_ : Int) (h : RL w ok A n c l S) (hn : n ≤ 1000) {B1 B2 : Nat} {t1 t2 : XT} (h1 : XTAt w B1 t1) (hb1 : XTOk t1) (h2 : XTAt w B2 t2) (hb2 : XTOk t2)
    (hL : ∀ a b, hostsP t1.names t1.vals = some a → hostsP t2.names t2.vals = some b → a.length + b.length ≤ 1000 ∧ (∀ o ∈ a ++ b, o.toks.length ≤ 1000000) ∧ ∀ o ∈ S ++ (a ++ b), o.name.size ≤ 9223372036854775807) :
    Calls Tryz.prog 40 #[.agg (c23C dc rem A n c wait asks at_), t1.v, t2.v] w fun e w' => XRefPost w dc rem A n c S wait asks at_ (bothX t1 t2) e w' := by
  have HBN : Hid (Blk ((((w.alloc (.cells (c23C dc rem A n c wait asks at_) 59)).alloc (.cells #[.int .i64 t1.cnt, .slice t1.ca t1.cn t1.cc, .bool t1.more, .int .i64 t1.sk, .string t1.st, .slice t1.ra t1.rn t1.rc] 43)).alloc (.cells #[.int .i64 t2.cnt, .slice t2.ca t2.cn t2.cc, .bool t2.more, .int .i64 t2.sk, .string t2.st, .slice t2.ra t2.rn t2.rc] 43)).alloc (.cells c23X 59)) w.heap.size 59 (c23C dc rem A n c wait asks at_)) := Lib.hid ((((Blk.new w 59 _).alloc _).alloc _).alloc _)
  have HBT : Hid (Blk ((((w.alloc (.cells (c23C dc rem A n c wait asks at_) 59)).alloc (.cells #[.int .i64 t1.cnt, .slice t1.ca t1.cn t1.cc, .bool t1.more, .int .i64 t1.sk, .string t1.st, .slice t1.ra t1.rn t1.rc] 43)).alloc (.cells #[.int .i64 t2.cnt, .slice t2.ca t2.cn t2.cc, .bool t2.more, .int .i64 t2.sk, .string t2.st, .slice t2.ra t2.rn t2.rc] 43)).alloc (.cells c23X 59)) (w.heap.size + 2) 43 #[.int .i64 t2.cnt, .slice t2.ca t2.cn t2.cc, .bool t2.more, .int .i64 t2.sk, .string t2.st, .slice t2.ra t2.rn t2.rc]) := Lib.hid ((Blk.new_at _ _ _ (by rw [sz_alloc, sz_alloc])).alloc _)
  have HBR : Hid (Blk ((((w.alloc (.cells (c23C dc rem A n c wait asks at_) 59)).alloc (.cells #[.int .i64 t1.cnt, .slice t1.ca t1.cn t1.cc, .bool t1.more, .int .i64 t1.sk, .string t1.st, .slice t1.ra t1.rn t1.rc] 43)).alloc (.cells #[.int .i64 t2.cnt, .slice t2.ca t2.cn t2.cc, .bool t2.more, .int .i64 t2.sk, .string t2.st, .slice t2.ra t2.rn t2.rc] 43)).alloc (.cells c23X 59)) (w.heap.size + 3) 59 c23X) := Lib.hid (Blk.new_at _ _ _ (by rw [sz_alloc, sz_alloc, sz_alloc]))
  have HK4 : Hid (Kept noBlock w ((((w.alloc (.cells (c23C dc rem A n c wait asks at_) 59)).alloc (.cells #[.int .i64 t1.cnt, .slice t1.ca t1.cn t1.cc, .bool t1.more, .int .i64 t1.sk, .string t1.st, .slice t1.ra t1.rn t1.rc] 43)).alloc (.cells #[.int .i64 t2.cnt, .slice t2.ca t2.cn t2.cc, .bool t2.more, .int .i64 t2.sk, .string t2.st, .slice t2.ra t2.rn t2.rc] 43)).alloc (.cells c23X 59))) := Lib.hid (four_kept _ _ _ _ _)
  have HZ4 : Hid (((((w.alloc (.cells (c23C dc rem A n c wait asks at_) 59)).alloc (.cells #[.int .i64 t1.cnt, .slice t1.ca t1.cn t1.cc, .bool t1.more, .int .i64 t1.sk, .string t1.st, .slice t1.ra t1.rn t1.rc] 43)).alloc (.cells #[.int .i64 t2.cnt, .slice t2.ca t2.cn t2.cc, .bool t2.more, .int .i64 t2.sk, .string t2.st, .slice t2.ra t2.rn t2.rc] 43)).alloc (.cells c23X 59)).heap.size = w.heap.size + 4) := Lib.hid (by rw [sz_alloc, sz_alloc, sz_alloc, sz_alloc])
  have HL0 : Hid (RL w (fun k => ok k ∧ k < w.heap.size) A n c l S) := Lib.hid (h.wide fun k hlt e => ⟨e, hlt⟩)
  have HH1 := Lib.hid (x3Hosts_at (h1.keptN HK4.out) hb1)
  have HH2 := Lib.hid (fun (W : World) (hW : Kept noBlock w W) => x3Hosts_at (h2.keptN hW) hb2)
  have HLL := Lib.hid hL
  clear h h1 hb1 h2 hb2 hL
  unfold c23C XT.v at *
  generalize hW4 : ((((w.alloc (.cells #[.string dc, .int .i64 rem, .slice A n c, .int .u64 wait, .bool asks, .int .u64 at_] 59)).alloc (.cells #[.int .i64 t1.cnt, .slice t1.ca t1.cn t1.cc, .bool t1.more, .int .i64 t1.sk, .string t1.st, .slice t1.ra t1.rn t1.rc] 43)).alloc (.cells #[.int .i64 t2.cnt, .slice t2.ca t2.cn t2.cc, .bool t2.more, .int .i64 t2.sk, .string t2.st, .slice t2.ra t2.rn t2.rc] 43)).alloc (.cells #[.string ⟨#[]⟩, .int .i64 0, .slice none 0 0, .int .u64 0, .bool false, .int .u64 0] 59)) = W4 at *
  have HW4 := Lib.hid hW4
  clear hW4
  go_enter Tryz.func40, Tryz.ntmps40
  go_wp2_with fail
  rw [HW4.out]
  go_at_call 11
  refine HH1.out.mono ?_
  intro e w5 hp5
  obtain ⟨hk5, hm5⟩ := hp5
  have HK5 := Lib.hid (HK4.out.trans hk5 fun _ _ h => h)
  have HK45 := Lib.hid hk5
  have hbn := HBN.out.kept hk5 fun e => e
  have hbt := HBT.out.kept hk5 fun e => e
  have hbr := HBR.out.kept hk5 fun e => e
  have HBN5 := Lib.hid hbn
  have HBR5 := Lib.hid hbr
  clear hk5 HH1
  cases ha : hostsP t1.names t1.vals with
  | none =>
    rw [ha] at hm5
    have HBO := Lib.hid (bothX_1 (t2 := t2) ha)
    obtain rfl := hm5
    obtain ⟨c0, c1, c2, c3, c4, c5⟩ := cells6 hbn
    obtain ⟨r0, r1, r2, r3, r4, r5⟩ := cells6 hbr
    obtain ⟨g0, g1, g2, g3, g4, g5⟩ := frozen6 hbr
    clear ha hbn hbt hbr
    go_wp2
    rw [HBO.out]
    exact x3Ref_ret rfl rfl rfl rfl (blk6 HBR5.out) ⟨rfl, kept6 HK5.out fun h => by omega⟩
  | some a =>
    rw [ha] at hm5
    obtain ⟨va, T1, rfl, ho5⟩ := hm5
    have HA := Lib.hid ha
    have HO5 := Lib.hid ho5
    obtain ⟨Aa, ca, rfl, -, -⟩ := (Sl.of_own ho5.2.1).shape
    obtain ⟨z0, z1, z2, z3, z4, z5⟩ := cells6 hbt
    have HH3 := Lib.hid (HH2.out w5 HK5.out)
    clear ha ho5 hbn hbt hbr HH2
    go_wp2_with fail
    go_at_call 11
    refine HH3.out.mono ?_
    intro e w6 hp6
    obtain ⟨hk6, hm6⟩ := hp6
    have HK6 := Lib.hid (HK5.out.trans hk6 fun _ _ h => h)
    have HK46 := Lib.hid (HK45.out.trans hk6 fun _ _ h => h)
    have HO6 := Lib.hid (HO5.out.keptN hk6)
    have hbn := HBN5.out.kept hk6 fun e => e
    have hbr := HBR5.out.kept hk6 fun e => e
    have HBN6 := Lib.hid hbn
    have HBR6 := Lib.hid hbr
    have HZ56 := Lib.hid hk6.size
    clear hk6 HH3 z0 z1 z2 z3 z4 z5 HBN5 HBR5
    cases hb : hostsP t2.names t2.vals with
    | none =>
      rw [hb] at hm6
      have HBO := Lib.hid (bothX_2 HA.out hb)
      obtain rfl := hm6
      obtain ⟨c0, c1, c2, c3, c4, c5⟩ := cells6 hbn
      obtain ⟨r0, r1, r2, r3, r4, r5⟩ := cells6 hbr
      obtain ⟨g0, g1, g2, g3, g4, g5⟩ := frozen6 hbr
      clear hb hbn hbr
      go_wp2
      rw [HBO.out]
      exact x3Ref_ret rfl rfl rfl rfl (blk6 HBR6.out) ⟨rfl, kept6 HK6.out fun h => by omega⟩
    | some b =>
      rw [hb] at hm6
      have HBO := Lib.hid (bothX_3 HA.out hb)
      obtain ⟨vb, T2, rfl, ho6⟩ := hm6
      have HOB := Lib.hid ho6
      obtain ⟨Ab, cb, rfl, -, -⟩ := (Sl.of_own ho6.2.1).shape
      have HLB := Lib.hid (HLL.out a b HA.out hb)
      have hlab : T1.length + T2.length ≤ 1000 := by
        have h1 := congrArg List.length HO6.out.1
        have h2 := congrArg List.length HOB.out.1
        rw [List.length_map] at h1 h2
        have := HLB.out.1
        omega
      clear hb ho6 hbn hbr
      go_wp2_with (at_builtin; go_must (refine wpList_append_sl _ h18sT rfl (.tmp 36) (.tmp 37) rfl w6.heap.size _ 0 [] rfl (World.ownsRow_nil _ _ _ _) _ T1.length (T1.flatMap hvC) rfl (SlK.of_ownB HO6.out.2.1) (fun u hu => hvC_one hu) ?c1 ?c2 ?_))
      case c1 => omega
      case c2 => exact Nat.le_refl _
      intro v7 w7 hap7
      have hk7 := hap7.keptNil
      have hown7 : w7.ownsRow w6.heap.size 106 5 v7 T1.length (T1.flatMap hvC) := by simpa using hap7.own
      obtain ⟨A7, c7, rfl, -, -⟩ := (Sl.of_own hown7).shape
      have HOWN7 := Lib.hid hown7
      have HK67 := Lib.hid hk7
      have HOB7 := Lib.hid (HOB.out.keptN hk7)
      clear hap7 hk7 hown7
      go_wp2_with (at_builtin; go_must (refine wpList_append_sl _ h18sT rfl (.tmp 39) (.tmp 40) rfl w6.heap.size _ T1.length (T1.flatMap hvC) rfl HOWN7.out _ T2.length (T2.flatMap hvC) rfl (SlK.of_ownB HOB7.out.2.1) (fun u hu => hvC_one hu) ?c1 ?c2 ?_))
      case c1 => omega
      case c2 => exact HK67.out.size
      intro v8 w8 hap8
      have hk8 := hap8.below HOWN7.out HK67.out (Nat.le_refl _)
      have hown8 : w8.ownsRow w6.heap.size 106 5 v8 (T1.length + T2.length) ((T1 ++ T2).flatMap hvC) := by rw [List.flatMap_append]; exact hap8.own
      obtain ⟨A8, c8, rfl, -, -⟩ := (Sl.of_own hown8).shape
      have HRL8 : Hid (RL w8 (fun k => w.heap.size ≤ k) A8 (T1.length + T2.length) c8 (T1 ++ T2) (a ++ b)) := Lib.hid ⟨by rw [List.map_append, HO6.out.1, HOB.out.1], by rw [← HO6.out.1, ← HOB.out.1, List.length_append, List.length_map, List.length_map], (SlK.of_ownB hown8).any fun k e _ e2 => Nat.le_trans HK6.out.size e2.1, fun x hx => by
        have hty : 2 ≠ 106 := by decide
        rcases List.mem_append.1 hx with hx | hx
        · exact (SlK.keptNone (HO6.out.2.2 x hx).2 hk8).any fun k e _ e2 => Nat.le_trans HK4.out.size e2.1
        · exact (SlK.keptNone (HOB.out.2.2 x hx).2 hk8).any fun k e _ e2 => Nat.le_trans HK5.out.size e2.1⟩
      have HK8 := Lib.hid (HK6.out.trans hk8 fun _ _ h => h)
      have hbn := HBN6.out.kept hk8 fun e => e
      have hbr := HBR6.out.kept hk8 fun e => e
      have HBN8 := Lib.hid hbn
      have HBR8 := Lib.hid hbr
      have hz8 := (HK46.out.trans hk8 fun _ _ h => h).size
      rw [HZ4.out] at hz8
      have HZ8 := Lib.hid hz8
      have HRF := Lib.hid (R18Ref_at dc rem (HL0.out.keptN HK8.out) HRL8.out hn hlab HLB.out.2.1 HLB.out.2.2)
      obtain ⟨c0, c1, c2, c3, c4, c5⟩ := cells6 hbn
      clear hap8 hk8 hown8 hbn hbr hz8
      go_wp2_with fail
      go_at_call 67
      refine HRF.out.mono ?_
      rintro e w9 ⟨A9, k9, c9, T9, Ax, nx, cx, Ay, ny, cy, rfl, hr9, hx9, hy9, hk9⟩
      have HR9 := Lib.hid hr9
      have HX9 := Lib.hid hx9
      have HY9 := Lib.hid hy9
      have HK9 := Lib.hid (HK8.out.trans hk9 fun _ _ h => h)
      have hb1 := (HBN8.out.kept hk9 fun e => e).alloc (.cells #[.string dc, .int .i64 rem, .slice A9 k9 c9] 57)
      have hb3 := (HBR8.out.kept hk9 fun e => e).alloc (.cells #[.string dc, .int .i64 rem, .slice A9 k9 c9] 57)
      have hbt := Blk.new w9 57 #[.string dc, .int .i64 rem, .slice A9 k9 c9]
      have t0 := hbt.cell 0
      have t1' := hbt.cell 1
      have t2' := hbt.cell 2
      simp only [List.getElem?_toArray, List.getElem?_cons_succ, List.getElem?_cons_zero] at t0 t1' t2'
      obtain ⟨f0, f1, f2, f3, f4, f5⟩ := frozen6 hb1
      obtain ⟨p0, p1, p2, p3, p4, p5⟩ := cells6 hb1
      have hkS : Kept (fun k => k = w.heap.size) (w9.alloc (.cells #[.string dc, .int .i64 rem, .slice A9 k9 c9] 57)) ((((w9.alloc (.cells #[.string dc, .int .i64 rem, .slice A9 k9 c9] 57)).setCell ⟨w.heap.size, 0, none⟩ (.string dc)).setCell ⟨w.heap.size, 1, none⟩ (.int .i64 rem)).setCell ⟨w.heap.size, 2, none⟩ (.slice A9 k9 c9)) := (((Kept.refl (fun k => k = w.heap.size) _).setCell (p := ⟨w.heap.size, 0, none⟩) (fun _ => rfl) _).setCell (p := ⟨w.heap.size, 1, none⟩) (fun _ => rfl) _).setCell (p := ⟨w.heap.size, 2, none⟩) (fun _ => rfl) _
      have hd1 := ((hb1.set_ 0 (.string dc)).set_ 1 (.int .i64 rem)).set_ 2 (.slice A9 k9 c9)
      have hd3 := hb3.kept hkS (by omega)
      obtain ⟨d0, d1, d2, d3, d4, d5⟩ := cells6 hd1
      obtain ⟨g0, g1, g2, g3, g4, g5⟩ := frozen6 hd3
      obtain ⟨r0, r1, r2, r3, r4, r5⟩ := cells6 hd3
      have HD3 := Lib.hid hd3
      have HKW := Lib.hid ((HK9.out.alloc (.cells #[.string dc, .int .i64 rem, .slice A9 k9 c9] 57)).trans hkS fun k hlt e => by omega)
      have HKS := Lib.hid hkS
      have HAL := Lib.hid ((Kept.refl noBlock w9).alloc (.cells #[.string dc, .int .i64 rem, .slice A9 k9 c9] 57))
      have HLOW := Lib.hid (show w.heap.size ≤ w8.heap.size from HK8.out.size)
      clear hr9 hx9 hy9 hk9 hb1 hb3 hbt hd1 hd3 hkS c0 c1 c2 c3 c4 c5 HRF
      go_wp2
      rw [HBO.out]
      refine x3Ref_ret rfl rfl rfl rfl (blk6 HD3.out) ⟨A9, k9, c9, T9, Ax, nx, cx, Ay, ny, cy, rfl, ?_, ?_, ?_, kept6 HKW.out fun h => by omega⟩
      · exact ((((HR9.out.keptN HAL.out).kept HKS.out fun k e e2 => by have := HZ8.out; omega).kept (kept6 (Kept.refl (fun k => k = w.heap.size + 3) _) fun _ => rfl) fun k e e2 => by have := HZ8.out; omega)).wide fun k _ e => Nat.le_trans HLOW.out e
      · exact ((((HX9.out.keptNone HAL.out).keptAll HKS.out fun k _ e e2 => by have := HZ8.out; have := e.1; omega).keptAll (kept6 (Kept.refl (fun k => k = w.heap.size + 3) _) fun _ => rfl) fun k _ e e2 => by have := HZ8.out; have := e.1; omega)).any fun k _ _ e => Nat.le_trans HLOW.out e.1
      · exact ((((HY9.out.keptNone HAL.out).keptAll HKS.out fun k _ e e2 => by have := HZ8.out; have := e.1; omega).keptAll (kept6 (Kept.refl (fun k => k = w.heap.size + 3) _) fun _ => rfl) fun k _ e e2 => by have := HZ8.out; have := e.1; omega)).any fun k _ _ e => Nat.le_trans HLOW.out e.1
end
end Go.Proofs.YtdcdefkloibfnaaGreatDoor
namespace Go.Proofs.YtdcdefkloibfnaaGreatDoor
set_option linter.unusedVariables false
open Go.RowKit
open Go.ChangeMaps (setBlock)
section
variable {w : World} {ok ok' : Nat → Prop} {A A' : Option Addr} {n n' c c' : Nat} {l l' : List HV} {S S' : List Ho}
set_option maxHeartbeats 8000000 in
set_option maxRecDepth 100000 in
/-- Two rows of the same texts are the same. -/
theorem texts_at {ok ok' : Nat → TypeId → Prop} {L : List ByteArray} (h : SlK w ok 1 (.slice A n c) n (L.map Value.string)) (h' : SlK w ok' 1 (.slice A' n' c') n' (L.map Value.string)) :
    Calls Tryz.prog 41 #[.slice A n c, .slice A' n' c'] w fun e w' => e = .returned (.bool true) ∧ Kept noBlock w w' := by
  have hn1 := h.len
  have hn2 := h'.len
  rw [List.length_map, Nat.mul_one] at hn1 hn2
  have HL := Lib.hid hn1
  obtain rfl : n = n' := hn1.symm.trans hn2
  have hnm : n ≤ 9223372036854775807 := by obtain ⟨_, _, hv, h1, h2⟩ := h.shape; cases hv; unfold maxLen at h2; omega
  have H := Lib.hid h
  have H' := Lib.hid h'
  clear h h' hn1 hn2
  go_enter Tryz.func41, Tryz.ntmps41
  have e5 : ((n : Int) != (n : Int)) = false := by simp
  go_wp2_with fail
  go_loopg [5] n (fun j vi wr => ∃ i : Nat, i + j = n ∧ vi = .int .i64 i ∧ Kept noBlock w wr)
  case atStart => exact ⟨0, by omega, rfl, Kept.refl _ _⟩
  case round =>
    obtain ⟨i, hij, rfl, hk⟩ := hrel
    have HIJ := Lib.hid hij
    have HK := Lib.hid hk
    by_cases hi : i < n
    · obtain ⟨x, hx⟩ : ∃ x, L[i]? = some x := ⟨_, List.getElem?_eq_getElem (by have := HL.out; omega)⟩
      obtain ⟨g, off, hidx, -, -, h3⟩ := (H.out.keptNone hk).run_index strsT (i := (i : Int)) (k := i) rfl hi
      obtain ⟨g', off', hidx', -, -, h3'⟩ := (H'.out.keptNone hk).run_index strsT (i := (i : Int)) (k := i) rfl hi
      have c0 : wr.cell? ⟨g, off, none⟩ = some (.string x) := h3 0 _ (by rw [Nat.mul_one, Nat.add_zero, List.getElem?_map, hx]; rfl)
      have c0' : wr.cell? ⟨g', off', none⟩ = some (.string x) := h3' 0 _ (by rw [Nat.mul_one, Nat.add_zero, List.getElem?_map, hx]; rfl)
      have eb := strEq_self x
      clear hij hk hx h3 h3'
      go_wp2_with fail
      go_quiet (fail)
      go_wp2_with fail
      go_roundg (n - (i + 1))
      case measure => have := HIJ.out; omega
      case rel => exact ⟨i + 1, by have := HIJ.out; omega, by go_num, HK.out.drewN _⟩
    · clear hij hk
      go_wp2_with fail
      go_ret
      exact ⟨rfl, HK.out⟩
end
end Go.Proofs.YtdcdefkloibfnaaGreatDoor

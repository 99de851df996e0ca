/- Chapter 23's example: its tables and events · Chapter 23's example: the law's awake answers true · The listed variables of strconv hold errors: Errs from the row's own cells · An argument that is a slice, opened: its elements as a list, each read by the caller's own reading. No program is named · A slice among the cells of what came in. No program is named · What the row lists, and slices of bytes that came in · A law's row out of its walk: whatever its arguments are, if the call answers true and leaves all that was there as it was. No program is named. -/
import Derived.Test.YtdcdefkloibfnaaGreatDoorMg07
import Derived.Test.YtdcdefkloibfnaaGreatDoorMg04
import Derived.Lib.SlBytesConst
import Derived.MakeChecks
import Derived.Stop.LaidErr
import Derived.LaidLaws
import Derived.Test.YtdcdefkloibfnaaGreatDoorMg01
import Derived.Deep.Slices
import Derived.WideShapes
import Derived.Test.YtdcdefkloibfnaaGreatDoorMg06
import Derived.OpenShut
import Derived.WalkKit
import Derived.ProofKit
import Derived.ShutString
import Derived.Lib.SmallJoins
namespace Go.Proofs.YtdcdefkloibfnaaGreatDoor
set_option linter.unusedVariables false
open Go.RowKit
theorem conv_const (w : World) (g : Nat) (C : Array Value) (n c : Nat) (hg : g = w.heap.size) : (convert 23 23 (.slice (some ⟨g, 0, none⟩) n c)).run Tryz.prog (w.alloc (.cells C 5)) = .ok (.slice (some ⟨g, 0, none⟩) n c) (w.alloc (.cells C 5 (C.size, C.size + 1))) := by
  subst hg
  exact Lib.run_convert_bytes_const w 23 5 C n c Tryz.underlying23 Tryz.underlying5
/-- A row of cells, marked or not. -/
def RowM (W : World) (g : Nat) (e : TypeId) (cs : Array Value) : Prop := ∃ fz, W.heap[g]? = some (.cells cs e fz)
theorem RowM.new {k : Nat} (w : World) (e : TypeId) (cs : Array Value) (fz : Nat × Nat) (h : k = w.heap.size) : RowM (w.alloc (.cells cs e fz)) k e cs := by subst h; exact ⟨fz, heap_alloc_new w _⟩
theorem RowM.alloc {w : World} {g : Nat} {e : TypeId} {cs : Array Value} (h : RowM w g e cs) (o : Obj) : RowM (w.alloc o) g e cs := by
  obtain ⟨fz, h⟩ := h
  exact ⟨fz, (Below.heap_alloc w o g (lt_of_heap h)).trans h⟩
theorem RowM.lo {W : World} {g : Nat} {e : TypeId} {cs : Array Value} {n sz : Nat} {l : List Value} (h : RowM W g e cs) (hl : cs.toList = l) (hn : l.length = n * sz) (hm : n ≤ maxLen) : Lo W W.heap.size sz (.slice (some ⟨g, 0, none⟩) n n) n l := by
  obtain ⟨fz, h⟩ := h
  refine ⟨hn, _, _, rfl, Nat.le_refl _, hm, .inr ⟨g, 0, cs, e, fz, rfl, h, lt_of_heap h, fun j u hu => ?_⟩⟩
  rw [Nat.zero_add, ← Array.getElem?_toList, hl]; exact hu
abbrev colOf (name : ByteArray) : CV := ⟨⟨#[]⟩, ⟨#[]⟩, name, 0, ⟨#[]⟩, ⟨#[]⟩, none, 0, 0, none, 0, 0⟩
abbrev adr (g : Nat) : Option Addr := some ⟨g, 0, none⟩
abbrev noT : TV2 := ⟨0, none, 0, 0, false, 0, none, 0, 0, none, 0, 0, [], []⟩
theorem noT_at (w : World) (B : Nat) : TblAt w B noT := ⟨rfl, SlK.nil _ _ _, rfl, SlK.nil _ _ _, fun r h => by cases h⟩
theorem noT_ok : TblOk noT := ⟨by decide, by decide, (fun r h => by cases h), fun r h => by cases h⟩
abbrev awT (N : Nat) : TV2 := ⟨2, adr N, 2, 2, false, 0, none, 0, 0, adr (N + 1 + 1 + 1 + 1), 1, 1, [colOf cRpc, colOf cDc], [⟨adr (N + 1 + 1 + 1), 2, 2, [⟨2, adr (N + 1), 4, 4, [10, 0, 0, 1]⟩, ⟨2, adr (N + 1 + 1), 1, 1, [100]⟩]⟩]⟩
abbrev awW (w : World) : World := (((((w.alloc (.cells #[.string ⟨#[]⟩, .string ⟨#[]⟩, .string cRpc, .int .u16 0, .string ⟨#[]⟩, .string ⟨#[]⟩, .slice none 0 0, .slice none 0 0, .string ⟨#[]⟩, .string ⟨#[]⟩, .string cDc, .int .u16 0, .string ⟨#[]⟩, .string ⟨#[]⟩, .slice none 0 0, .slice none 0 0] 90)).alloc
  (.cells #[.int .u8 10, .int .u8 0, .int .u8 0, .int .u8 1] 5)).alloc (.cells #[.int .u8 100] 5 (1, 2))).alloc (.cells #[.int .i64 2, .slice (adr (w.heap.size + 1)) 4 4, .int .i64 2, .slice (adr (w.heap.size + 1 + 1)) 1 1] 25)).alloc (.cells #[.slice (adr (w.heap.size + 1 + 1 + 1)) 2 2] 91))
theorem awT_at (w : World) : TblAt (awW w) (awW w).heap.size (awT w.heap.size) := by
  have r1 : RowM (awW w) w.heap.size 90 _ := ((((RowM.new w 90 _ (0, 0) rfl).alloc _).alloc _).alloc _).alloc _
  have r2 : RowM (awW w) (w.heap.size + 1) 5 _ := (((RowM.new _ 5 #[.int .u8 10, .int .u8 0, .int .u8 0, .int .u8 1] (0, 0) (by rw [sz_alloc])).alloc _).alloc _).alloc _
  have r3 : RowM (awW w) (w.heap.size + 1 + 1) 5 _ := ((RowM.new _ 5 #[.int .u8 100] (1, 2) (by rw [sz_alloc, sz_alloc])).alloc _).alloc _
  have r4 : RowM (awW w) (w.heap.size + 1 + 1 + 1) 25 _ := (RowM.new _ 25 #[.int .i64 2, .slice (adr (w.heap.size + 1)) 4 4, .int .i64 2, .slice (adr (w.heap.size + 1 + 1)) 1 1] (0, 0) (by rw [sz_alloc, sz_alloc, sz_alloc])).alloc _
  have r5 : RowM (awW w) (w.heap.size + 1 + 1 + 1 + 1) 91 _ := RowM.new _ 91 #[.slice (adr (w.heap.size + 1 + 1 + 1)) 2 2] (0, 0) (by rw [sz_alloc, sz_alloc, sz_alloc, sz_alloc])
  refine ⟨rfl, r1.lo rfl rfl (show 2 ≤ maxLen by decide), rfl, r5.lo rfl rfl (show 1 ≤ maxLen by decide), fun r hr => ?_⟩
  obtain rfl : r = _ := List.mem_singleton.1 hr
  refine ⟨rfl, r4.lo rfl rfl (show 2 ≤ maxLen by decide), fun x hx => ?_⟩
  rcases List.mem_cons.1 hx with rfl | hx
  · exact ⟨rfl, r2.lo rfl rfl (show 4 ≤ maxLen by decide)⟩
  · obtain rfl : x = _ := List.mem_singleton.1 hx
    exact ⟨rfl, r3.lo rfl rfl (show 1 ≤ maxLen by decide)⟩
theorem awT_ok (N : Nat) : TblOk (awT N) := ⟨show 2 ≤ 1000000 by decide, show 1 ≤ 100000 by decide, (fun r h => by obtain rfl : r = _ := List.mem_singleton.1 h; exact (show 2 ≤ 1000000 by decide)), fun r h x hx => by
  obtain rfl : r = _ := List.mem_singleton.1 h
  rcases List.mem_cons.1 hx with rfl | hx
  · exact (show 4 ≤ 1000 by decide)
  · obtain rfl : x = _ := List.mem_singleton.1 hx
    exact (show 1 ≤ 1000 by decide)⟩
abbrev awN : ByteArray := ⟨#[49, 48, 46, 48, 46, 48, 46, 49]⟩
theorem nm_aw : nameP [10, 0, 0, 1] = [49, 48, 46, 48, 46, 48, 46, 49] := by rw [name4]; decide +kernel
abbrev awH : Ho := ⟨awN, ⟨#[100]⟩, ⟨#[]⟩, [], true⟩
abbrev awH2 : Ho := ⟨awN, ⟨#[100]⟩, ⟨#[]⟩, [], false⟩
theorem aw_hosts (N : Nat) : hostsP (awT N).names (awT N).vals = some [awH] := by
  have c1 : cellP [cRpc, cDc] [((2 : Int), ([10, 0, 0, 1] : List UInt8)), (2, [100])] cRpc = (2, [10, 0, 0, 1]) := by decide +kernel
  have c2 : cellP [cRpc, cDc] [((2 : Int), ([10, 0, 0, 1] : List UInt8)), (2, [100])] cTok = (0, []) := by decide +kernel
  have c3 : cellP [cRpc, cDc] [((2 : Int), ([10, 0, 0, 1] : List UInt8)), (2, [100])] cDc = (2, [100]) := by decide +kernel
  have c4 : cellP [cRpc, cDc] [((2 : Int), ([10, 0, 0, 1] : List UInt8)), (2, [100])] cRack = (0, []) := by decide +kernel
  have hr : rowP [cRpc, cDc] [((2 : Int), ([10, 0, 0, 1] : List UInt8)), (2, [100])] = .host awH := by
    unfold rowP
    rw [c1, c2, c3, c4, show textP (2, [10, 0, 0, 1]) = [10, 0, 0, 1] from rfl, nm_aw, if_neg (by decide)]
    rfl
  show stepR [cRpc, cDc] (some []) [((2 : Int), ([10, 0, 0, 1] : List UInt8)), (2, [100])] = _
  simp only [stepR, hr]
  rfl
theorem aw_both (N : Nat) : bothP (awT N) noT = some [awH] := by
  rw [both_3 (aw_hosts N) (show hostsP noT.names noT.vals = some [] from rfl)]; rfl
theorem aw23_ref : refNow (viewS []) [awH] = [awH] := by rfl
theorem aw23_add : addedP (viewS []) [awH] = [awN] := by rfl
theorem aw23_gone : goneP [] [awH] = [] := by rfl
abbrev nDown (g : Nat) : NV := ⟨cStatus, cDown, adr g, 4, 4, [10, 0, 0, 1], 0, ⟨#[]⟩, ⟨#[]⟩, ⟨#[]⟩, ⟨#[]⟩, none, 0, 0⟩
abbrev nTopo : NV := ⟨cTopo, ⟨#[78, 69, 87, 95, 78, 79, 68, 69]⟩, none, 0, 0, [], 0, ⟨#[]⟩, ⟨#[]⟩, ⟨#[]⟩, ⟨#[]⟩, none, 0, 0⟩
theorem aw_n1 (g : Nat) : noteP [awH] 5 false 0 (nDown g) 0 = ⟨[awH2], false, 0, awN, false, true⟩ := by
  unfold noteP
  rw [if_pos rfl, if_pos (.inr rfl)]
  have hm : markP [awH] (bS (nameP [10, 0, 0, 1])) (decide (cDown = cUp)) = ([awH2], true) := by rw [nm_aw]; rfl
  rw [hm, if_pos rfl, nm_aw]
  rfl
theorem aw_n2 : noteP [awH2] 5 false 0 nTopo 3 = ⟨[awH2], true, 8, noStr, false, false⟩ := by
  unfold noteP
  rw [if_neg (by decide), if_pos (.inl rfl), if_neg (by decide)]
  rfl
theorem aw23_dist : distP ⟨#[100]⟩ 0 [awH2] awN = 1 := by rfl
theorem aw_refpost {w w' : World} {own : Nat → Prop} {c g : Nat} {e : Ending} (h : CRefPost w own c g ⟨#[100]⟩ 0 [] 5 false 0 (some [awH]) e w') :
    ∃ own' A1 c1 A2 c2, e = .returned (.tuple #[.slice A1 1 c1, .slice A2 0 c2, .int .i64 0]) ∧ CtAt w' own' c g ⟨#[100]⟩ 0 [awH] 5 false 0 ∧ (∀ k, own' k → own k ∨ w.heap.size ≤ k) ∧ Kept own w w' := by
  obtain ⟨own', A1, c1, A2, c2, he, -, -, hc, ho, hk⟩ := h
  rw [aw23_ref, aw23_add, aw23_gone] at he
  rw [aw23_ref] at hc
  exact ⟨own', A1, c1, A2, c2, he, hc, ho, hk⟩
end Go.Proofs.YtdcdefkloibfnaaGreatDoor
namespace Go.Proofs.YtdcdefkloibfnaaGreatDoor
set_option linter.unusedVariables false
open Go.RowKit
set_option maxHeartbeats 8000000 in
set_option maxRecDepth 100000 in
theorem aw23_at (w : World) (hd : Doors w) : Calls Tryz.prog 8 #[] w fun e w' => e = .returned (.bool true) ∧ Kept noBlock w w' := by
  have hcs := conv_const ((w.alloc (.cells #[.string ⟨#[]⟩, .string ⟨#[]⟩, .string cRpc, .int .u16 0, .string ⟨#[]⟩, .string ⟨#[]⟩, .slice none 0 0, .slice none 0 0, .string ⟨#[]⟩, .string ⟨#[]⟩, .string cDc, .int .u16 0, .string ⟨#[]⟩, .string ⟨#[]⟩, .slice none 0 0, .slice none 0 0] 90)).alloc (.cells #[.int .u8 10, .int .u8 0, .int .u8 0, .int .u8 1] 5)) (w.heap.size + 1 + 1) #[.int .u8 100] 1 1 (by rw [sz_alloc, sz_alloc])
  go_enter Tryz.func8, Tryz.ntmps8
  go_wp2_with fail
  go_at_call 18
  have hT0 := awT_at w
  have hk0 : Kept noBlock w (awW w) := (((((Kept.refl noBlock w).alloc _).alloc _).alloc _).alloc _).alloc _
  have hsz0 : (awW w).heap.size = w.heap.size + 1 + 1 + 1 + 1 + 1 := by simp only [sz_alloc]
  refine (cNew_at _ _ _ ((awW w).alloc (.cells #[.int .i64 2, .slice (adr w.heap.size) 2 2, .bool false, .int .i64 0, .slice none 0 0, .slice (adr (w.heap.size + 1 + 1 + 1 + 1)) 1 1] 28))).mono ?_
  rintro e w1 ⟨c, g, own, rfl, hc, hcl, hol, hk⟩
  generalize awW w = w0 at *
  have hlow : w.heap.size ≤ (w0.alloc (.cells #[.int .i64 2, .slice (adr w.heap.size) 2 2, .bool false, .int .i64 0, .slice none 0 0, .slice (adr (w.heap.size + 1 + 1 + 1 + 1)) 1 1] 28)).heap.size := by rw [sz_alloc]; omega
  have HLOW : Hid (∀ k, own k ∨ k = c → w.heap.size ≤ k) := Lib.hid fun k e => Nat.le_trans hlow (e.elim (hol k) fun e => e ▸ hcl)
  clear hlow
  generalize hN : w.heap.size = N at *
  have HN := Lib.hid hN
  clear hN
  have hb0 := Blk.new w0 28 #[.int .i64 2, .slice (adr N) 2 2, .bool false, .int .i64 0, .slice none 0 0, .slice (adr (N + 1 + 1 + 1 + 1)) 1 1]
  have hk1 := hk0.alloc (.cells #[.int .i64 2, .slice (adr N) 2 2, .bool false, .int .i64 0, .slice none 0 0, .slice (adr (N + 1 + 1 + 1 + 1)) 1 1] 28)
  have hT1 := hT0.keptN ((Kept.refl noBlock w0).alloc (.cells #[.int .i64 2, .slice (adr N) 2 2, .bool false, .int .i64 0, .slice none 0 0, .slice (adr (N + 1 + 1 + 1 + 1)) 1 1] 28))
  rw [hsz0] at hb0
  have hkw1 := hk1.trans hk fun _ _ e => e
  have hb1 := hb0.kept hk fun e => e
  have q0 := hb1.cell 0
  have q1 := hb1.cell 1
  have q2 := hb1.cell 2
  have q3 := hb1.cell 3
  have q4 := hb1.cell 4
  have q5 := hb1.cell 5
  simp only [List.getElem?_toArray, List.getElem?_cons_succ, List.getElem?_cons_zero] at q0 q1 q2 q3 q4 q5
  have HR := Lib.hid (cRefresh_at hc (by decide) (hT1.keptN hk) (awT_ok N) (noT_at w1 0) noT_ok (show 1 ≤ 50000 by decide) (show 0 ≤ 50000 by decide) (hd.keptN hkw1))
  have HK := Lib.hid hkw1
  clear hT0 hk0 hsz0 hb0 hk1 hT1 hc hcl hol hk hkw1 hb1 hcs
  rw [aw_both] at HR
  go_wp2_with fail
  go_at_call 22
  refine HR.out.mono ?_
  intro e w2 hp2
  obtain ⟨own2, A1, c1, A2, c2, rfl, hc2, ho2, hk2⟩ := aw_refpost hp2
  have HC2 := Lib.hid hc2
  have HK2 := Lib.hid (HK.out.grew hk2 fun k e => HN.out ▸ HLOW.out k (.inl e))
  have HLOW2 : Hid (∀ k, own2 k ∨ k = c → w.heap.size ≤ k) := Lib.hid fun k e => e.elim (fun e => (ho2 k e).elim (fun e => HN.out ▸ HLOW.out k (.inl e)) fun e => Nat.le_trans HK.out.size e) fun e => HN.out ▸ HLOW.out k (.inr e)
  clear hp2 hc2 ho2 hk2 HR q0 q1 q2 q3 q4 q5 HLOW HK
  go_wp2_with fail
  go_at_call 23
  have hk3 : Kept noBlock w2 (w2.alloc (.cells #[.int .u8 10, .int .u8 0, .int .u8 0, .int .u8 1] 5)) := (Kept.refl noBlock w2).alloc _
  have hs3 : Sl (w2.alloc (.cells #[.int .u8 10, .int .u8 0, .int .u8 0, .int .u8 1] 5)) 5 1 (.slice (adr w2.heap.size) 4 4) 4 (bsC [10, 0, 0, 1]) := Sl.made_at (n := 4) (Blk.new w2 5 _) _ rfl rfl (by decide)
  refine (cNote_at (HC2.out.keptN hk3) (by decide) (nDown w2.heap.size) hs3 ((hd.keptN HK2.out).keptN hk3) 0 (by decide)).mono ?_
  rw [aw_n1]
  rintro e w4 ⟨rfl, hc4, hk4⟩
  have HC4 := Lib.hid hc4
  have HK4 := Lib.hid ((HK2.out.trans hk3 fun _ _ e => e).grew hk4 HLOW2.out)
  clear hk3 hs3 hc4 hk4 HC2 HK2
  go_wp2_with fail
  go_at_call 23
  refine (cNote_at HC4.out (by decide) nTopo (SlK.nil w4 (fun _ _ => True) 1) (hd.keptN HK4.out) 3 (by decide)).mono ?_
  rw [aw_n2]
  rintro e w5 ⟨rfl, hc5, hk5⟩
  have HC5 := Lib.hid hc5
  have HK5 := Lib.hid (HK4.out.grew hk5 HLOW2.out)
  clear hc5 hk5 HC4 HK4
  go_wp2_with fail
  go_at_call 15
  have hk6 : Kept noBlock w5 (w5.alloc (.cells #[.int .u8 10, .int .u8 0, .int .u8 0, .int .u8 1] 5)) := (Kept.refl noBlock w5).alloc _
  have hs6 : Sl (w5.alloc (.cells #[.int .u8 10, .int .u8 0, .int .u8 0, .int .u8 1] 5)) 5 1 (.slice (adr w5.heap.size) 4 4) 4 (bsC [10, 0, 0, 1]) := Sl.made_at (n := 4) (Blk.new w5 5 _) _ rfl rfl (by decide)
  refine (cName_at hs6 ((hd.keptN HK5.out).keptN hk6)).mono ?_
  rw [nm_aw]
  rintro e w7 ⟨rfl, hk7⟩
  have HC7 := Lib.hid ((HC5.out.keptN hk6).keptN hk7)
  have HK7 := Lib.hid ((HK5.out.trans hk6 fun _ _ e => e).trans hk7 fun _ _ e => e)
  clear hk6 hs6 hk7 HC5 HK5
  have hbs : bS [49, 48, 46, 48, 46, 48, 46, 49] = awN := rfl
  rw [hbs]
  clear hbs
  go_wp2_with fail
  go_at_call 25
  refine (cDue_at HC7.out 7).mono ?_
  rw [show dueB true 8 7 = false from rfl]
  rintro e w8 ⟨rfl, hc8, hk8⟩
  have HC8 : Hid (CtAt w8 own2 c g ⟨#[100]⟩ 0 [awH2] 5 true 8) := Lib.hid hc8
  have HK8 := Lib.hid (HK7.out.grew hk8 fun k e => HLOW2.out k (.inr e))
  clear hc8 hk8 HC7 HK7
  go_wp2_with fail
  go_at_call 25
  refine (cDue_at HC8.out 8).mono ?_
  rw [show dueB true 8 8 = true from rfl]
  rintro e w9 ⟨rfl, hc9, hk9⟩
  have HC9 : Hid (CtAt w9 own2 c g ⟨#[100]⟩ 0 [awH2] 5 false 8) := Lib.hid hc9
  have HK9 := Lib.hid (HK8.out.grew hk9 fun k e => HLOW2.out k (.inr e))
  clear hc9 hk9 HC8 HK8
  go_wp2_with fail
  go_at_call 25
  refine (cDue_at HC9.out 9).mono ?_
  rw [show dueB false 8 9 = false from rfl]
  rintro e w10 ⟨rfl, hc10, hk10⟩
  have HC10 : Hid (CtAt w10 own2 c g ⟨#[100]⟩ 0 [awH2] 5 false 8) := Lib.hid hc10
  have HK10 := Lib.hid (HK9.out.grew hk10 fun k e => HLOW2.out k (.inr e))
  clear hc10 hk10 HC9 HK9
  go_wp2_with fail
  go_at_call 20
  refine (cTable_at HC10.out).mono ?_
  rintro e w11 ⟨rfl, hw11⟩
  subst hw11
  go_wp2_with fail
  go_at_call 26
  refine (hDist_at HC10.out.tab awN (by decide)).mono ?_
  rw [aw23_dist]
  rintro e w12 ⟨rfl, hk12⟩
  have HK12 := Lib.hid (HK10.out.trans hk12 fun _ _ e => e)
  clear hk12 HC10 HK10
  go_wp2
  go_ret
  exact ⟨rfl, HK12.out⟩
end Go.Proofs.YtdcdefkloibfnaaGreatDoor
namespace Go.Proofs.YtdcdefkloibfnaaGreatDoor
set_option linter.unusedVariables false
open Go.RowKit

theorem er_star : "*" ++ "errors.errorString" = "*errors.errorString" := by decide
theorem er_row (u : TypeId) (h : Tryz.prog.typeName? 3 u = some "*errors.errorString") : u = 260 :=
  typeName_ptr_named (nm := "errors.errorString") (by rw [er_star]; kernel_rfl) (by kernel_rfl) (by decide) u (by rw [er_star]; exact h)

theorem errs_of_laid {W : World} {T1 T2 : List UInt8} {r : List (String × DataW Unit)}
    (h : laidMet Tryz.prog (("strconv.ErrRange", .iface "*errors.errorString" (.ptr (.agg [.lit (.string T1)]))) :: ("strconv.ErrSyntax", .iface "*errors.errorString" (.ptr (.agg [.lit (.string T2)]))) :: r) W) : Errs W := by
  obtain ⟨a, _, hv, _⟩ := laid_sentinel h (g := 3) (by kernel_rfl) (ti := 162) (by kernel_rfl) Tryz.underlying162 er_row Tryz.underlying260 Tryz.underlying262 rfl rfl Tryz.underlying9 (by kernel_rfl) (by kernel_rfl)
  obtain ⟨b, _, hw, _⟩ := laid_sentinel h.tail (g := 2) (by kernel_rfl) (ti := 162) (by kernel_rfl) Tryz.underlying162 er_row Tryz.underlying260 Tryz.underlying262 rfl rfl Tryz.underlying9 (by kernel_rfl) (by kernel_rfl)
  exact ⟨⟨_, _, by simpa using World.var?_cell (g := 2) (by kernel_rfl) hw 0⟩, _, _, by simpa using World.var?_cell (g := 3) (by kernel_rfl) hv 0⟩
end Go.Proofs.YtdcdefkloibfnaaGreatDoor
namespace Go.Proofs.YtdcdefkloibfnaaGreatDoor
set_option linter.unusedVariables false
open Go.ChangeShapes Go.WideShapes Go.Deep Go.RowKit

theorem list_of {α : Type} {n : Nat} {R : Nat → α → Prop} (h : ∀ i, i < n → ∃ a, R i a) : ∃ l : List α, l.length = n ∧ ∀ i a, l[i]? = some a → R i a := by
  induction n with
  | zero => exact ⟨[], rfl, by simp⟩
  | succ n ih =>
    obtain ⟨l, hl, hr⟩ := ih fun i hi => h i (by omega)
    obtain ⟨a, ha⟩ := h n (by omega)
    refine ⟨l ++ [a], by simp [hl], fun i b hb => ?_⟩
    by_cases hi : i < l.length
    · rw [List.getElem?_append_left hi] at hb; exact hr i b hb
    · have : i = n := by
        have := (List.getElem?_eq_some_iff.1 hb).1
        simp at this; omega
      subst this
      rw [List.getElem?_append_right (by omega), hl, Nat.sub_self] at hb
      simp at hb; subst hb; exact ha

theorem flat_of {α : Type} {f : α → List Value} {k : Nat} (hf : ∀ a, (f a).length = k) (hk : 0 < k) {l : List α} {P : Nat → Value → Prop} (h : ∀ i a j u, l[i]? = some a → (f a)[j]? = some u → P (i * k + j) u) : ∀ j u, (l.flatMap f)[j]? = some u → P j u := by
  induction l generalizing P with
  | nil => intro j u h; simp at h
  | cons a t ih =>
    intro j u hu
    rw [List.flatMap_cons] at hu
    by_cases hj : j < k
    · rw [List.getElem?_append_left (by rw [hf]; exact hj)] at hu
      have := h 0 a j u rfl hu
      simpa using this
    · rw [List.getElem?_append_right (by rw [hf]; omega), hf] at hu
      have := ih (P := fun j u => P (k + j) u) (fun i b j' u' hb hu' => by
        have := h (i + 1) b j' u' (by simpa using hb) hu'
        rw [Nat.add_mul, Nat.one_mul, Nat.add_assoc, Nat.add_comm, Nat.add_assoc] at this
        rw [show k + (i * k + j') = j' + (k + i * k) by omega]
        rw [show k + (j' + i * k) = j' + (k + i * k) by omega] at this
        exact this) (j - k) u hu
      simpa [show k + (j - k) = j by omega] using this

section
variable {H : Type} {enc : TypeId × Value → H} {P : Program} {W : World}
theorem open_lo {t e : TypeId} {k : Nat} (ht : P.underlying t = some (.slice e)) (hC : P.cellsOf e = k) (hk : 0 < k) {v : Value} {d : DataW H} {p : List MemPlace} {r : Reach} {base : Nat} (hval : Value.okWide P W r base t v)
    (h : DataW.Trod enc P W 0 (fun _ => true) true t v d p) {α : Type} (f : α → List Value) (hf : ∀ a, (f a).length = k)
    (hread : ∀ cs n y, cs.length = k → DataW.trod enc P W 0 (fun _ => true) true n e cs = some y → ∃ a, cs = f a) :
    ∃ l : List α, Lo W W.heap.size k v l.length (l.flatMap f) := by
  obtain ⟨a0, len0, cap0, rfl⟩ := okWide_slice ht hval
  obtain ⟨fuel, hfu⟩ := h
  rcases open_slice ht hfu with ⟨hcs, _⟩ | ⟨a, len, cap, m, n, D, Pl, hcs, _, hl, hm, hmm, _, hi⟩
  · have : Value.slice a0 len0 cap0 = .slice none 0 0 := by simpa [Value.cells] using hcs
    rw [this]
    exact ⟨[], SlK.nil _ _ _⟩
  · have hv : Value.slice a0 len0 cap0 = .slice (some a) len cap := by simpa [Value.cells] using hcs
    rw [hv]
    simp only [if_true] at hmm
    obtain rfl := hmm.symm
    by_cases hc0 : cap = 0
    · subst hc0
      obtain rfl : len = 0 := by omega
      exact ⟨[], by simp, _, _, rfl, Nat.le_refl _, Nat.zero_le _, .inl ⟨rfl, rfl⟩⟩
    · have hel : ∀ i, i < len → ∃ x, W.cells? 0 (a.add (i * k)) k = some (f x) := fun i hi' => by
        obtain ⟨cs', h1, h2⟩ := hi i (by omega)
        rw [hC] at h1
        obtain ⟨_, hlen, _⟩ := World.cells?_some h1
        obtain ⟨x, rfl⟩ := hread cs' _ _ hlen h2
        exact ⟨x, h1⟩
      obtain ⟨l, hll, hlr⟩ := list_of hel
      -- the block is read at its first cell
      obtain ⟨cs0, h0, _⟩ := hi 0 (by omega)
      rw [hC, Nat.zero_mul] at h0
      obtain ⟨_, hlen0, hat0⟩ := World.cells?_some h0
      have hc := hat0 0 hk
      have hadd : (a.add 0).add 0 = a := by simp [Addr.add]
      rw [hadd, List.getElem?_eq_getElem (by omega)] at hc
      have hsp : a.spot = none := by
        unfold World.cell? at hc
        split at hc
        · split at hc
          · cases hc
          · rename_i hs; simpa using hs
        · cases hc
      have hblk : ∃ cs e' fz, W.heap[a.block]? = some (.cells cs e' fz) := by
        unfold World.cell? at hc
        split at hc
        · rename_i cs e' fz hh; exact ⟨cs, e', fz, hh⟩
        · cases hc
      obtain ⟨cs, e', fz, hh⟩ := hblk
      obtain ⟨g, off, sp⟩ := a
      simp only at hsp hh
      subst hsp
      refine ⟨l, flat_len hf l, _, _, by rw [hll], by rw [hll]; exact hl, hm, .inr ⟨g, off, cs, e', fz, rfl, hh, lt_of_heap hh, ?_⟩⟩
      refine flat_of hf hk fun i x j u hx hu => ?_
      obtain ⟨_, _, hat⟩ := World.cells?_some (hlr i x hx)
      have hj : j < k := by have := (List.getElem?_eq_some_iff.1 hu).1; rw [hf] at this; exact this
      have := hat j hj
      rw [hu, Addr.add_lit, Addr.add_lit, cell_of_row W g _ cs e' fz hh, Nat.add_assoc] at this
      exact this
end
end Go.Proofs.YtdcdefkloibfnaaGreatDoor
namespace Go.Proofs.YtdcdefkloibfnaaGreatDoor
set_option linter.unusedVariables false
open Go.ChangeShapes Go.WideShapes Go.Deep Go.RowKit
section
variable {H : Type} {enc : TypeId × Value → H} {P : Program} {W : World}
/-- A slice among the cells of what came in. -/
theorem open_cell {t e : TypeId} {k : Nat} (ht : P.underlying t = some (.slice e)) (hC : P.cellsOf e = k) (hk : 0 < k) {fuel : Nat} {cs : List Value} {x : DataW H × List MemPlace}
    (hfu : DataW.trod enc P W 0 (fun _ => true) true fuel t cs = some x) {α : Type} (f : α → List Value) (hf : ∀ a, (f a).length = k)
    (hread : ∀ cs n y, cs.length = k → DataW.trod enc P W 0 (fun _ => true) true n e cs = some y → ∃ a, cs = f a) :
    ∃ A n c, cs = [.slice A n c] ∧ ∃ l : List α, l.length = n ∧ Lo W W.heap.size k (.slice A n c) n (l.flatMap f) := by
  rcases open_slice ht hfu with ⟨hcs, _⟩ | ⟨a, len, cap, m, n, D, Pl, hcs, _, hl, hm, hmm, _, hi⟩
  · exact ⟨none, 0, 0, hcs, [], rfl, SlK.nil _ _ _⟩
  · refine ⟨some a, len, cap, hcs, ?_⟩
    simp only [if_true] at hmm
    obtain rfl := hmm.symm
    by_cases hc0 : cap = 0
    · subst hc0
      obtain rfl : len = 0 := by omega
      exact ⟨[], rfl, by simp, _, _, rfl, Nat.le_refl _, Nat.zero_le _, .inl ⟨rfl, rfl⟩⟩
    · have hel : ∀ i, i < len → ∃ x, W.cells? 0 (a.add (i * k)) k = some (f x) := fun i hi' => by
        obtain ⟨cs', h1, h2⟩ := hi i (by omega)
        rw [hC] at h1
        obtain ⟨_, hlen, _⟩ := World.cells?_some h1
        obtain ⟨x, rfl⟩ := hread cs' _ _ hlen h2
        exact ⟨x, h1⟩
      obtain ⟨l, hll, hlr⟩ := list_of hel
      obtain ⟨cs0, h0, _⟩ := hi 0 (by omega)
      rw [hC, Nat.zero_mul] at h0
      obtain ⟨_, hlen0, hat0⟩ := World.cells?_some h0
      have hc := hat0 0 hk
      have hadd : (a.add 0).add 0 = a := by simp [Addr.add]
      rw [hadd, List.getElem?_eq_getElem (by omega)] at hc
      have hsp : a.spot = none := by
        unfold World.cell? at hc
        split at hc
        · split at hc
          · cases hc
          · rename_i hs; simpa using hs
        · cases hc
      have hblk : ∃ cs e' fz, W.heap[a.block]? = some (.cells cs e' fz) := by
        unfold World.cell? at hc
        split at hc
        · rename_i cs e' fz hh; exact ⟨cs, e', fz, hh⟩
        · cases hc
      obtain ⟨cs, e', fz, hh⟩ := hblk
      obtain ⟨g, off, sp⟩ := a
      simp only at hsp hh
      subst hsp
      refine ⟨l, hll, by rw [flat_len hf l, hll], _, _, rfl, hl, hm, .inr ⟨g, off, cs, e', fz, rfl, hh, lt_of_heap hh, ?_⟩⟩
      refine flat_of hf hk fun i x j u hx hu => ?_
      obtain ⟨_, _, hat⟩ := World.cells?_some (hlr i x hx)
      have hj : j < k := by have := (List.getElem?_eq_some_iff.1 hu).1; rw [hf] at this; exact this
      have := hat j hj
      rw [hu, Addr.add_lit, Addr.add_lit, cell_of_row W g _ cs e' fz hh, Nat.add_assoc] at this
      exact this
end
section
variable {H : Type} {enc : TypeId × Value → H} {P : Program} {w : World} {base : Nat} {spare : Nat → Bool} {held : Bool}
theorem field_read {t : TypeId} {fs : Array Field} {fuel : Nat} {cs : List Value} {x : DataW H × List MemPlace} (ht : P.underlying t = some (.struct fs)) (h : DataW.trod enc P w base spare held fuel t cs = some x) {i : Nat} {f : Field} (hf : fs[i]? = some f)
    {k : Nat} (hk : P.cellsOf f.type = k) {c : List Value} (hc : (cs.drop f.offset).take k = c) : ∃ n y, DataW.trod enc P w base spare held n f.type c = some y := by
  obtain ⟨xs, n, _, _, _, hl, hg⟩ := DataW.trod_struct ht h
  have h1 := hg i f hf
  have hi : i < xs.length := by rw [hl]; exact (Array.getElem?_eq_some_iff.1 hf).1
  rw [hk, hc, List.getElem?_eq_getElem hi] at h1
  exact ⟨n, _, h1⟩
end
end Go.Proofs.YtdcdefkloibfnaaGreatDoor
namespace Go.Proofs.YtdcdefkloibfnaaGreatDoor
set_option linter.unusedVariables false
open Go.ChangeShapes Go.WideShapes Go.Deep Go.RowKit

theorem doors_of_laid {W : World} {T1 T2 : List UInt8} {r : List (String × DataW Unit)}
    (h : laidMet Tryz.prog (("internal/strconv.uint64pow10", Lib.tabData .u64 Lib.pow10Tab) :: ("strconv.ErrRange", .iface "*errors.errorString" (.ptr (.agg [.lit (.string T1)]))) :: ("strconv.ErrSyntax", .iface "*errors.errorString" (.ptr (.agg [.lit (.string T2)]))) :: r) W) : Doors W :=
  ⟨errs_of_laid h.tail, Lib.tabIs_of_head (g := 0) (t := 233) (e := 52) (n := 20) (by kernel_rfl) (by kernel_rfl) (by kernel_rfl) (by kernel_rfl) (by kernel_rfl) (by kernel_rfl) h⟩
section
variable {H : Type} {enc : TypeId × Value → H} {W : World} {base : Nat} {v : Value} {d : DataW H} {p : List MemPlace}
theorem byte_of {a : Int} (h : (Lit.int .u8 a).wf = true) : ∃ b : UInt8, a = (b.toNat : Int) :=
  ⟨UInt8.ofNat a.toNat, by
    have h1 := (bounds_u8 h).1
    have h2 := (bounds_u8 h).2
    rw [UInt8.toNat_ofNat', Nat.mod_eq_of_lt (by omega)]; omega⟩
theorem bytes_flat (l : List UInt8) : l.flatMap (fun b => [Value.int .u8 (b.toNat : Int)]) = bsC l := by
  induction l with
  | nil => rfl
  | cons a l ih => rw [List.flatMap_cons, ih]; rfl
theorem open_bytes_cell {fuel : Nat} {cs : List Value} {x : DataW H × List MemPlace} (hfu : DataW.trod enc Tryz.prog W 0 (fun _ => true) true fuel 23 cs = some x) :
    ∃ A n c, cs = [.slice A n c] ∧ ∃ l : List UInt8, l.length = n ∧ Lo W W.heap.size 1 (.slice A n c) n (bsC l) := by
  obtain ⟨A, n, c, hcs, l, hl, hlo⟩ := open_cell (k := 1) Tryz.underlying23 (by kernel_rfl) (by decide) hfu (fun b : UInt8 => [Value.int .u8 (b.toNat : Int)]) (fun _ => rfl) (fun cs n y hl h => by
    obtain ⟨b, e, -, hw⟩ := DataW.trod_int Tryz.underlying5 h
    obtain ⟨u, rfl⟩ := byte_of hw
    exact ⟨u, e⟩)
  rw [bytes_flat] at hlo
  exact ⟨A, n, c, hcs, l, hl, hlo⟩
set_option maxRecDepth 100000 in
theorem open_bytes {hval : Value.okWide Tryz.prog W .any base 23 v} (h : DataW.Trod enc Tryz.prog W 0 (fun _ => true) true 23 v d p) :
    ∃ A n c, v = .slice A n c ∧ ∃ l : List UInt8, l.length = n ∧ Lo W W.heap.size 1 (.slice A n c) n (bsC l) := by
  obtain ⟨a0, len0, cap0, rfl⟩ := okWide_slice Tryz.underlying23 hval
  obtain ⟨fuel, hfu⟩ := h
  obtain ⟨A, n, c, hcs, l, hl, hlo⟩ := open_bytes_cell hfu
  have hv : Value.slice a0 len0 cap0 = .slice A n c := by simpa [Value.cells] using hcs
  exact ⟨A, n, c, hv, l, hl, hlo⟩
end
end Go.Proofs.YtdcdefkloibfnaaGreatDoor
namespace Go.Proofs.YtdcdefkloibfnaaGreatDoor
set_option linter.unusedVariables false
open Go.ChangeShapes Go.WideShapes Go.ChangeAt Go.RowKit

theorem trodAll_stays {H : Type} {enc : TypeId × Value → H} {P : Program} (hl : laidOutB P = true) {W W' : World} (hb : Below W.heap.size W W') :
    ∀ (ts : List TypeId) (vs : List Value) (ds : List (DataW H)) (ps : List MemPlace), (∀ t ∈ ts, P.readableRec t = true ∧ t < P.types.size) → DataW.TrodAll enc P W 0 (fun _ => true) true ts vs ds ps → (∀ x ∈ ps, x.block < W.heap.size) →
      DataW.TrodAll enc P W' 0 (fun b => decide (b < W.heap.size)) true ts vs ds ps
  | [], [], [], _, _, h, _ => h
  | t :: ts, v :: vs, d :: ds, ps, hr, h, hlt => by
    obtain ⟨p, q, h1, h2, rfl⟩ := h
    obtain ⟨hr1, hr2⟩ := hr t (.head _)
    exact ⟨p, q, Below.trod hl hr1 hr2 h1 hb (fun x hx => hlt x (List.mem_append.2 (.inl hx))), trodAll_stays hl hb ts vs ds q (fun t ht => hr t (.tail _ ht)) h2 (fun x hx => hlt x (List.mem_append.2 (.inr hx))), rfl⟩
  | [], [], _ :: _, _, _, h, _ => h.elim
  | [], _ :: _, _, _, _, h, _ => h.elim
  | _ :: _, [], _, _, _, h, _ => h.elim
  | _ :: _, _ :: _, [], _, _, h, _ => h.elim

theorem law_post {H : Type} {enc : TypeId × Value → H} {P : Program} {f : Func} {s : ChangeSpec} {tb : TypeId} {W W' : World} {args : Array Value} {ds gs : List (DataW H)} {before : List MemPlace} (hl : laidOutB P = true)
    (hW : DataW.Whole enc P f.params.toList s.vars false W args.toList ds gs before) (hvars : s.vars = []) (hparams : ∀ t ∈ f.params.toList, P.readableRec t = true ∧ t < P.types.size) (hres : f.resultTypes = #[tb]) (htb : P.underlying tb = some .bool)
    (h1 : (s.fn H (ds ++ gs)).results = [.lit (.bool true)]) (h2 : (s.fn H (ds ++ gs)).args = ds) (h3 : (s.fn H (ds ++ gs)).vars = []) (hb : Below W.heap.size W W') : s.post enc P f false true false false W args (.bool true) W' := by
  have hlt := hW.lt
  have hW0 := hW
  obtain ⟨p, q, hA, hV, rfl, hfz, hnd⟩ := hW0
  rw [hvars] at hV
  obtain ⟨rfl, rfl⟩ := trodVars_none hV
  refine ⟨ds, [], p ++ [], [], p, [], hW, ?_, ?_, ?_, ?_, fun h => by cases h⟩
  · rw [h1, hres]
    exact trodAll_cons_mk (shut_bool htb _) trodAll_mk0
  · rw [h2]
    exact trodAll_stays hl hb _ _ _ _ hparams hA (fun x hx => hlt x (by simpa using hx))
  · rw [hvars, h3]; rfl
  · exact hb.frame _
end Go.Proofs.YtdcdefkloibfnaaGreatDoor

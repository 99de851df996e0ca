/- Chapter 23's example: its tables and events · Chapter 23's example: the law's awake answers true · The listed variables of strconv hold errors: Errs from the row's own cells · An argument that is a slice, opened: its elements as a list, each read by the caller's own reading. No program is named · A slice among the cells of what came in. No program is named · What the row lists, and slices of bytes that came in · A law's row out of its walk: whatever its arguments are, if the call answers true and leaves all that was there as it was. No program is named · The reference's numbers in bytes, from a place on · The reference's bytes from a place on · The reference's bytes of a number · The reference's number of four bytes, below 0 or not · The reference's numbers and long texts, from a place on · The reference's tokens of a value · The reference's text of a value · The reference's tables as they stand in memory · The reference's cell: a row's value of a column's name · The reference's name of an address · The reference's name: four bytes · The reference's name: sixteen bytes, or any. -/
import Derived.Test.YtdcdefkloibfnaaGreatDoorMg07
import Derived.Test.YtdcdefkloibfnaaGreatDoorMg04
import Derived.Lib.SlBytesConst
import Derived.MakeChecks
import Derived.Stop.LaidErr
import Derived.LaidLaws
import Derived.Test.YtdcdefkloibfnaaGreatDoorMg01
import Derived.Deep.Slices
import Derived.WideShapes
import Derived.Test.YtdcdefkloibfnaaGreatDoorMg06
import Derived.OpenShut
import Derived.WalkKit
import Derived.ProofKit
import Derived.ShutString
import Derived.Lib.SmallJoins
import Derived.Test.YtdcdefkloibfnaaGreatDoorMg02
import Derived.BigQuiet
namespace Go.Proofs.YtdcdefkloibfnaaGreatDoor
set_option linter.unusedVariables false
open Go.RowKit
theorem conv_const (w : World) (g : Nat) (C : Array Value) (n c : Nat) (hg : g = w.heap.size) : (convert 23 23 (.slice (some ⟨g, 0, none⟩) n c)).run Tryz.prog (w.alloc (.cells C 5)) = .ok (.slice (some ⟨g, 0, none⟩) n c) (w.alloc (.cells C 5 (C.size, C.size + 1))) := by
  subst hg
  exact Lib.run_convert_bytes_const w 23 5 C n c Tryz.underlying23 Tryz.underlying5
/-- A row of cells, marked or not. -/
def RowM (W : World) (g : Nat) (e : TypeId) (cs : Array Value) : Prop := ∃ fz, W.heap[g]? = some (.cells cs e fz)
theorem RowM.new {k : Nat} (w : World) (e : TypeId) (cs : Array Value) (fz : Nat × Nat) (h : k = w.heap.size) : RowM (w.alloc (.cells cs e fz)) k e cs := by subst h; exact ⟨fz, heap_alloc_new w _⟩
theorem RowM.alloc {w : World} {g : Nat} {e : TypeId} {cs : Array Value} (h : RowM w g e cs) (o : Obj) : RowM (w.alloc o) g e cs := by
  obtain ⟨fz, h⟩ := h
  exact ⟨fz, (Below.heap_alloc w o g (lt_of_heap h)).trans h⟩
theorem RowM.lo {W : World} {g : Nat} {e : TypeId} {cs : Array Value} {n sz : Nat} {l : List Value} (h : RowM W g e cs) (hl : cs.toList = l) (hn : l.length = n * sz) (hm : n ≤ maxLen) : Lo W W.heap.size sz (.slice (some ⟨g, 0, none⟩) n n) n l := by
  obtain ⟨fz, h⟩ := h
  refine ⟨hn, _, _, rfl, Nat.le_refl _, hm, .inr ⟨g, 0, cs, e, fz, rfl, h, lt_of_heap h, fun j u hu => ?_⟩⟩
  rw [Nat.zero_add, ← Array.getElem?_toList, hl]; exact hu
abbrev colOf (name : ByteArray) : CV := ⟨⟨#[]⟩, ⟨#[]⟩, name, 0, ⟨#[]⟩, ⟨#[]⟩, none, 0, 0, none, 0, 0⟩
abbrev adr (g : Nat) : Option Addr := some ⟨g, 0, none⟩
abbrev noT : TV2 := ⟨0, none, 0, 0, false, 0, none, 0, 0, none, 0, 0, [], []⟩
theorem noT_at (w : World) (B : Nat) : TblAt w B noT := ⟨rfl, SlK.nil _ _ _, rfl, SlK.nil _ _ _, fun r h => by cases h⟩
theorem noT_ok : TblOk noT := ⟨by decide, by decide, (fun r h => by cases h), fun r h => by cases h⟩
abbrev awT (N : Nat) : TV2 := ⟨2, adr N, 2, 2, false, 0, none, 0, 0, adr (N + 1 + 1 + 1 + 1), 1, 1, [colOf cRpc, colOf cDc], [⟨adr (N + 1 + 1 + 1), 2, 2, [⟨2, adr (N + 1), 4, 4, [10, 0, 0, 1]⟩, ⟨2, adr (N + 1 + 1), 1, 1, [100]⟩]⟩]⟩
abbrev awW (w : World) : World := (((((w.alloc (.cells #[.string ⟨#[]⟩, .string ⟨#[]⟩, .string cRpc, .int .u16 0, .string ⟨#[]⟩, .string ⟨#[]⟩, .slice none 0 0, .slice none 0 0, .string ⟨#[]⟩, .string ⟨#[]⟩, .string cDc, .int .u16 0, .string ⟨#[]⟩, .string ⟨#[]⟩, .slice none 0 0, .slice none 0 0] 90)).alloc
  (.cells #[.int .u8 10, .int .u8 0, .int .u8 0, .int .u8 1] 5)).alloc (.cells #[.int .u8 100] 5 (1, 2))).alloc (.cells #[.int .i64 2, .slice (adr (w.heap.size + 1)) 4 4, .int .i64 2, .slice (adr (w.heap.size + 1 + 1)) 1 1] 25)).alloc (.cells #[.slice (adr (w.heap.size + 1 + 1 + 1)) 2 2] 91))
theorem awT_at (w : World) : TblAt (awW w) (awW w).heap.size (awT w.heap.size) := by
  have r1 : RowM (awW w) w.heap.size 90 _ := ((((RowM.new w 90 _ (0, 0) rfl).alloc _).alloc _).alloc _).alloc _
  have r2 : RowM (awW w) (w.heap.size + 1) 5 _ := (((RowM.new _ 5 #[.int .u8 10, .int .u8 0, .int .u8 0, .int .u8 1] (0, 0) (by rw [sz_alloc])).alloc _).alloc _).alloc _
  have r3 : RowM (awW w) (w.heap.size + 1 + 1) 5 _ := ((RowM.new _ 5 #[.int .u8 100] (1, 2) (by rw [sz_alloc, sz_alloc])).alloc _).alloc _
  have r4 : RowM (awW w) (w.heap.size + 1 + 1 + 1) 25 _ := (RowM.new _ 25 #[.int .i64 2, .slice (adr (w.heap.size + 1)) 4 4, .int .i64 2, .slice (adr (w.heap.size + 1 + 1)) 1 1] (0, 0) (by rw [sz_alloc, sz_alloc, sz_alloc])).alloc _
  have r5 : RowM (awW w) (w.heap.size + 1 + 1 + 1 + 1) 91 _ := RowM.new _ 91 #[.slice (adr (w.heap.size + 1 + 1 + 1)) 2 2] (0, 0) (by rw [sz_alloc, sz_alloc, sz_alloc, sz_alloc])
  refine ⟨rfl, r1.lo rfl rfl (show 2 ≤ maxLen by decide), rfl, r5.lo rfl rfl (show 1 ≤ maxLen by decide), fun r hr => ?_⟩
  obtain rfl : r = _ := List.mem_singleton.1 hr
  refine ⟨rfl, r4.lo rfl rfl (show 2 ≤ maxLen by decide), fun x hx => ?_⟩
  rcases List.mem_cons.1 hx with rfl | hx
  · exact ⟨rfl, r2.lo rfl rfl (show 4 ≤ maxLen by decide)⟩
  · obtain rfl : x = _ := List.mem_singleton.1 hx
    exact ⟨rfl, r3.lo rfl rfl (show 1 ≤ maxLen by decide)⟩
theorem awT_ok (N : Nat) : TblOk (awT N) := ⟨show 2 ≤ 1000000 by decide, show 1 ≤ 100000 by decide, (fun r h => by obtain rfl : r = _ := List.mem_singleton.1 h; exact (show 2 ≤ 1000000 by decide)), fun r h x hx => by
  obtain rfl : r = _ := List.mem_singleton.1 h
  rcases List.mem_cons.1 hx with rfl | hx
  · exact (show 4 ≤ 1000 by decide)
  · obtain rfl : x = _ := List.mem_singleton.1 hx
    exact (show 1 ≤ 1000 by decide)⟩
abbrev awN : ByteArray := ⟨#[49, 48, 46, 48, 46, 48, 46, 49]⟩
theorem nm_aw : nameP [10, 0, 0, 1] = [49, 48, 46, 48, 46, 48, 46, 49] := by rw [name4]; decide +kernel
abbrev awH : Ho := ⟨awN, ⟨#[100]⟩, ⟨#[]⟩, [], true⟩
abbrev awH2 : Ho := ⟨awN, ⟨#[100]⟩, ⟨#[]⟩, [], false⟩
theorem aw_hosts (N : Nat) : hostsP (awT N).names (awT N).vals = some [awH] := by
  have c1 : cellP [cRpc, cDc] [((2 : Int), ([10, 0, 0, 1] : List UInt8)), (2, [100])] cRpc = (2, [10, 0, 0, 1]) := by decide +kernel
  have c2 : cellP [cRpc, cDc] [((2 : Int), ([10, 0, 0, 1] : List UInt8)), (2, [100])] cTok = (0, []) := by decide +kernel
  have c3 : cellP [cRpc, cDc] [((2 : Int), ([10, 0, 0, 1] : List UInt8)), (2, [100])] cDc = (2, [100]) := by decide +kernel
  have c4 : cellP [cRpc, cDc] [((2 : Int), ([10, 0, 0, 1] : List UInt8)), (2, [100])] cRack = (0, []) := by decide +kernel
  have hr : rowP [cRpc, cDc] [((2 : Int), ([10, 0, 0, 1] : List UInt8)), (2, [100])] = .host awH := by
    unfold rowP
    rw [c1, c2, c3, c4, show textP (2, [10, 0, 0, 1]) = [10, 0, 0, 1] from rfl, nm_aw, if_neg (by decide)]
    rfl
  show stepR [cRpc, cDc] (some []) [((2 : Int), ([10, 0, 0, 1] : List UInt8)), (2, [100])] = _
  simp only [stepR, hr]
  rfl
theorem aw_both (N : Nat) : bothP (awT N) noT = some [awH] := by
  rw [both_3 (aw_hosts N) (show hostsP noT.names noT.vals = some [] from rfl)]; rfl
theorem aw23_ref : refNow (viewS []) [awH] = [awH] := by rfl
theorem aw23_add : addedP (viewS []) [awH] = [awN] := by rfl
theorem aw23_gone : goneP [] [awH] = [] := by rfl
abbrev nDown (g : Nat) : NV := ⟨cStatus, cDown, adr g, 4, 4, [10, 0, 0, 1], 0, ⟨#[]⟩, ⟨#[]⟩, ⟨#[]⟩, ⟨#[]⟩, none, 0, 0⟩
abbrev nTopo : NV := ⟨cTopo, ⟨#[78, 69, 87, 95, 78, 79, 68, 69]⟩, none, 0, 0, [], 0, ⟨#[]⟩, ⟨#[]⟩, ⟨#[]⟩, ⟨#[]⟩, none, 0, 0⟩
theorem aw_n1 (g : Nat) : noteP [awH] 5 false 0 (nDown g) 0 = ⟨[awH2], false, 0, awN, false, true⟩ := by
  unfold noteP
  rw [if_pos rfl, if_pos (.inr rfl)]
  have hm : markP [awH] (bS (nameP [10, 0, 0, 1])) (decide (cDown = cUp)) = ([awH2], true) := by rw [nm_aw]; rfl
  rw [hm, if_pos rfl, nm_aw]
  rfl
theorem aw_n2 : noteP [awH2] 5 false 0 nTopo 3 = ⟨[awH2], true, 8, noStr, false, false⟩ := by
  unfold noteP
  rw [if_neg (by decide), if_pos (.inl rfl), if_neg (by decide)]
  rfl
theorem aw23_dist : distP ⟨#[100]⟩ 0 [awH2] awN = 1 := by rfl
theorem aw_refpost {w w' : World} {own : Nat → Prop} {c g : Nat} {e : Ending} (h : CRefPost w own c g ⟨#[100]⟩ 0 [] 5 false 0 (some [awH]) e w') :
    ∃ own' A1 c1 A2 c2, e = .returned (.tuple #[.slice A1 1 c1, .slice A2 0 c2, .int .i64 0]) ∧ CtAt w' own' c g ⟨#[100]⟩ 0 [awH] 5 false 0 ∧ (∀ k, own' k → own k ∨ w.heap.size ≤ k) ∧ Kept own w w' := by
  obtain ⟨own', A1, c1, A2, c2, he, -, -, hc, ho, hk⟩ := h
  rw [aw23_ref, aw23_add, aw23_gone] at he
  rw [aw23_ref] at hc
  exact ⟨own', A1, c1, A2, c2, he, hc, ho, hk⟩
end Go.Proofs.YtdcdefkloibfnaaGreatDoor
namespace Go.Proofs.YtdcdefkloibfnaaGreatDoor
set_option linter.unusedVariables false
open Go.RowKit
set_option maxHeartbeats 8000000 in
set_option maxRecDepth 100000 in
theorem aw23_at (w : World) (hd : Doors w) : Calls Tryz.prog 8 #[] w fun e w' => e = .returned (.bool true) ∧ Kept noBlock w w' := by
  have hcs := conv_const ((w.alloc (.cells #[.string ⟨#[]⟩, .string ⟨#[]⟩, .string cRpc, .int .u16 0, .string ⟨#[]⟩, .string ⟨#[]⟩, .slice none 0 0, .slice none 0 0, .string ⟨#[]⟩, .string ⟨#[]⟩, .string cDc, .int .u16 0, .string ⟨#[]⟩, .string ⟨#[]⟩, .slice none 0 0, .slice none 0 0] 90)).alloc (.cells #[.int .u8 10, .int .u8 0, .int .u8 0, .int .u8 1] 5)) (w.heap.size + 1 + 1) #[.int .u8 100] 1 1 (by rw [sz_alloc, sz_alloc])
  go_enter Tryz.func8, Tryz.ntmps8
  go_wp2_with fail
  go_at_call 18
  have hT0 := awT_at w
  have hk0 : Kept noBlock w (awW w) := (((((Kept.refl noBlock w).alloc _).alloc _).alloc _).alloc _).alloc _
  have hsz0 : (awW w).heap.size = w.heap.size + 1 + 1 + 1 + 1 + 1 := by simp only [sz_alloc]
  refine (cNew_at _ _ _ ((awW w).alloc (.cells #[.int .i64 2, .slice (adr w.heap.size) 2 2, .bool false, .int .i64 0, .slice none 0 0, .slice (adr (w.heap.size + 1 + 1 + 1 + 1)) 1 1] 28))).mono ?_
  rintro e w1 ⟨c, g, own, rfl, hc, hcl, hol, hk⟩
  generalize awW w = w0 at *
  have hlow : w.heap.size ≤ (w0.alloc (.cells #[.int .i64 2, .slice (adr w.heap.size) 2 2, .bool false, .int .i64 0, .slice none 0 0, .slice (adr (w.heap.size + 1 + 1 + 1 + 1)) 1 1] 28)).heap.size := by rw [sz_alloc]; omega
  have HLOW : Hid (∀ k, own k ∨ k = c → w.heap.size ≤ k) := Lib.hid fun k e => Nat.le_trans hlow (e.elim (hol k) fun e => e ▸ hcl)
  clear hlow
  generalize hN : w.heap.size = N at *
  have HN := Lib.hid hN
  clear hN
  have hb0 := Blk.new w0 28 #[.int .i64 2, .slice (adr N) 2 2, .bool false, .int .i64 0, .slice none 0 0, .slice (adr (N + 1 + 1 + 1 + 1)) 1 1]
  have hk1 := hk0.alloc (.cells #[.int .i64 2, .slice (adr N) 2 2, .bool false, .int .i64 0, .slice none 0 0, .slice (adr (N + 1 + 1 + 1 + 1)) 1 1] 28)
  have hT1 := hT0.keptN ((Kept.refl noBlock w0).alloc (.cells #[.int .i64 2, .slice (adr N) 2 2, .bool false, .int .i64 0, .slice none 0 0, .slice (adr (N + 1 + 1 + 1 + 1)) 1 1] 28))
  rw [hsz0] at hb0
  have hkw1 := hk1.trans hk fun _ _ e => e
  have hb1 := hb0.kept hk fun e => e
  have q0 := hb1.cell 0
  have q1 := hb1.cell 1
  have q2 := hb1.cell 2
  have q3 := hb1.cell 3
  have q4 := hb1.cell 4
  have q5 := hb1.cell 5
  simp only [List.getElem?_toArray, List.getElem?_cons_succ, List.getElem?_cons_zero] at q0 q1 q2 q3 q4 q5
  have HR := Lib.hid (cRefresh_at hc (by decide) (hT1.keptN hk) (awT_ok N) (noT_at w1 0) noT_ok (show 1 ≤ 50000 by decide) (show 0 ≤ 50000 by decide) (hd.keptN hkw1))
  have HK := Lib.hid hkw1
  clear hT0 hk0 hsz0 hb0 hk1 hT1 hc hcl hol hk hkw1 hb1 hcs
  rw [aw_both] at HR
  go_wp2_with fail
  go_at_call 22
  refine HR.out.mono ?_
  intro e w2 hp2
  obtain ⟨own2, A1, c1, A2, c2, rfl, hc2, ho2, hk2⟩ := aw_refpost hp2
  have HC2 := Lib.hid hc2
  have HK2 := Lib.hid (HK.out.grew hk2 fun k e => HN.out ▸ HLOW.out k (.inl e))
  have HLOW2 : Hid (∀ k, own2 k ∨ k = c → w.heap.size ≤ k) := Lib.hid fun k e => e.elim (fun e => (ho2 k e).elim (fun e => HN.out ▸ HLOW.out k (.inl e)) fun e => Nat.le_trans HK.out.size e) fun e => HN.out ▸ HLOW.out k (.inr e)
  clear hp2 hc2 ho2 hk2 HR q0 q1 q2 q3 q4 q5 HLOW HK
  go_wp2_with fail
  go_at_call 23
  have hk3 : Kept noBlock w2 (w2.alloc (.cells #[.int .u8 10, .int .u8 0, .int .u8 0, .int .u8 1] 5)) := (Kept.refl noBlock w2).alloc _
  have hs3 : Sl (w2.alloc (.cells #[.int .u8 10, .int .u8 0, .int .u8 0, .int .u8 1] 5)) 5 1 (.slice (adr w2.heap.size) 4 4) 4 (bsC [10, 0, 0, 1]) := Sl.made_at (n := 4) (Blk.new w2 5 _) _ rfl rfl (by decide)
  refine (cNote_at (HC2.out.keptN hk3) (by decide) (nDown w2.heap.size) hs3 ((hd.keptN HK2.out).keptN hk3) 0 (by decide)).mono ?_
  rw [aw_n1]
  rintro e w4 ⟨rfl, hc4, hk4⟩
  have HC4 := Lib.hid hc4
  have HK4 := Lib.hid ((HK2.out.trans hk3 fun _ _ e => e).grew hk4 HLOW2.out)
  clear hk3 hs3 hc4 hk4 HC2 HK2
  go_wp2_with fail
  go_at_call 23
  refine (cNote_at HC4.out (by decide) nTopo (SlK.nil w4 (fun _ _ => True) 1) (hd.keptN HK4.out) 3 (by decide)).mono ?_
  rw [aw_n2]
  rintro e w5 ⟨rfl, hc5, hk5⟩
  have HC5 := Lib.hid hc5
  have HK5 := Lib.hid (HK4.out.grew hk5 HLOW2.out)
  clear hc5 hk5 HC4 HK4
  go_wp2_with fail
  go_at_call 15
  have hk6 : Kept noBlock w5 (w5.alloc (.cells #[.int .u8 10, .int .u8 0, .int .u8 0, .int .u8 1] 5)) := (Kept.refl noBlock w5).alloc _
  have hs6 : Sl (w5.alloc (.cells #[.int .u8 10, .int .u8 0, .int .u8 0, .int .u8 1] 5)) 5 1 (.slice (adr w5.heap.size) 4 4) 4 (bsC [10, 0, 0, 1]) := Sl.made_at (n := 4) (Blk.new w5 5 _) _ rfl rfl (by decide)
  refine (cName_at hs6 ((hd.keptN HK5.out).keptN hk6)).mono ?_
  rw [nm_aw]
  rintro e w7 ⟨rfl, hk7⟩
  have HC7 := Lib.hid ((HC5.out.keptN hk6).keptN hk7)
  have HK7 := Lib.hid ((HK5.out.trans hk6 fun _ _ e => e).trans hk7 fun _ _ e => e)
  clear hk6 hs6 hk7 HC5 HK5
  have hbs : bS [49, 48, 46, 48, 46, 48, 46, 49] = awN := rfl
  rw [hbs]
  clear hbs
  go_wp2_with fail
  go_at_call 25
  refine (cDue_at HC7.out 7).mono ?_
  rw [show dueB true 8 7 = false from rfl]
  rintro e w8 ⟨rfl, hc8, hk8⟩
  have HC8 : Hid (CtAt w8 own2 c g ⟨#[100]⟩ 0 [awH2] 5 true 8) := Lib.hid hc8
  have HK8 := Lib.hid (HK7.out.grew hk8 fun k e => HLOW2.out k (.inr e))
  clear hc8 hk8 HC7 HK7
  go_wp2_with fail
  go_at_call 25
  refine (cDue_at HC8.out 8).mono ?_
  rw [show dueB true 8 8 = true from rfl]
  rintro e w9 ⟨rfl, hc9, hk9⟩
  have HC9 : Hid (CtAt w9 own2 c g ⟨#[100]⟩ 0 [awH2] 5 false 8) := Lib.hid hc9
  have HK9 := Lib.hid (HK8.out.grew hk9 fun k e => HLOW2.out k (.inr e))
  clear hc9 hk9 HC8 HK8
  go_wp2_with fail
  go_at_call 25
  refine (cDue_at HC9.out 9).mono ?_
  rw [show dueB false 8 9 = false from rfl]
  rintro e w10 ⟨rfl, hc10, hk10⟩
  have HC10 : Hid (CtAt w10 own2 c g ⟨#[100]⟩ 0 [awH2] 5 false 8) := Lib.hid hc10
  have HK10 := Lib.hid (HK9.out.grew hk10 fun k e => HLOW2.out k (.inr e))
  clear hc10 hk10 HC9 HK9
  go_wp2_with fail
  go_at_call 20
  refine (cTable_at HC10.out).mono ?_
  rintro e w11 ⟨rfl, hw11⟩
  subst hw11
  go_wp2_with fail
  go_at_call 26
  refine (hDist_at HC10.out.tab awN (by decide)).mono ?_
  rw [aw23_dist]
  rintro e w12 ⟨rfl, hk12⟩
  have HK12 := Lib.hid (HK10.out.trans hk12 fun _ _ e => e)
  clear hk12 HC10 HK10
  go_wp2
  go_ret
  exact ⟨rfl, HK12.out⟩
end Go.Proofs.YtdcdefkloibfnaaGreatDoor
namespace Go.Proofs.YtdcdefkloibfnaaGreatDoor
set_option linter.unusedVariables false
open Go.RowKit

theorem er_star : "*" ++ "errors.errorString" = "*errors.errorString" := by decide
theorem er_row (u : TypeId) (h : Tryz.prog.typeName? 3 u = some "*errors.errorString") : u = 260 :=
  typeName_ptr_named (nm := "errors.errorString") (by rw [er_star]; kernel_rfl) (by kernel_rfl) (by decide) u (by rw [er_star]; exact h)

theorem errs_of_laid {W : World} {T1 T2 : List UInt8} {r : List (String × DataW Unit)}
    (h : laidMet Tryz.prog (("strconv.ErrRange", .iface "*errors.errorString" (.ptr (.agg [.lit (.string T1)]))) :: ("strconv.ErrSyntax", .iface "*errors.errorString" (.ptr (.agg [.lit (.string T2)]))) :: r) W) : Errs W := by
  obtain ⟨a, _, hv, _⟩ := laid_sentinel h (g := 3) (by kernel_rfl) (ti := 162) (by kernel_rfl) Tryz.underlying162 er_row Tryz.underlying260 Tryz.underlying262 rfl rfl Tryz.underlying9 (by kernel_rfl) (by kernel_rfl)
  obtain ⟨b, _, hw, _⟩ := laid_sentinel h.tail (g := 2) (by kernel_rfl) (ti := 162) (by kernel_rfl) Tryz.underlying162 er_row Tryz.underlying260 Tryz.underlying262 rfl rfl Tryz.underlying9 (by kernel_rfl) (by kernel_rfl)
  exact ⟨⟨_, _, by simpa using World.var?_cell (g := 2) (by kernel_rfl) hw 0⟩, _, _, by simpa using World.var?_cell (g := 3) (by kernel_rfl) hv 0⟩
end Go.Proofs.YtdcdefkloibfnaaGreatDoor
namespace Go.Proofs.YtdcdefkloibfnaaGreatDoor
set_option linter.unusedVariables false
open Go.ChangeShapes Go.WideShapes Go.Deep Go.RowKit

theorem list_of {α : Type} {n : Nat} {R : Nat → α → Prop} (h : ∀ i, i < n → ∃ a, R i a) : ∃ l : List α, l.length = n ∧ ∀ i a, l[i]? = some a → R i a := by
  induction n with
  | zero => exact ⟨[], rfl, by simp⟩
  | succ n ih =>
    obtain ⟨l, hl, hr⟩ := ih fun i hi => h i (by omega)
    obtain ⟨a, ha⟩ := h n (by omega)
    refine ⟨l ++ [a], by simp [hl], fun i b hb => ?_⟩
    by_cases hi : i < l.length
    · rw [List.getElem?_append_left hi] at hb; exact hr i b hb
    · have : i = n := by
        have := (List.getElem?_eq_some_iff.1 hb).1
        simp at this; omega
      subst this
      rw [List.getElem?_append_right (by omega), hl, Nat.sub_self] at hb
      simp at hb; subst hb; exact ha

theorem flat_of {α : Type} {f : α → List Value} {k : Nat} (hf : ∀ a, (f a).length = k) (hk : 0 < k) {l : List α} {P : Nat → Value → Prop} (h : ∀ i a j u, l[i]? = some a → (f a)[j]? = some u → P (i * k + j) u) : ∀ j u, (l.flatMap f)[j]? = some u → P j u := by
  induction l generalizing P with
  | nil => intro j u h; simp at h
  | cons a t ih =>
    intro j u hu
    rw [List.flatMap_cons] at hu
    by_cases hj : j < k
    · rw [List.getElem?_append_left (by rw [hf]; exact hj)] at hu
      have := h 0 a j u rfl hu
      simpa using this
    · rw [List.getElem?_append_right (by rw [hf]; omega), hf] at hu
      have := ih (P := fun j u => P (k + j) u) (fun i b j' u' hb hu' => by
        have := h (i + 1) b j' u' (by simpa using hb) hu'
        rw [Nat.add_mul, Nat.one_mul, Nat.add_assoc, Nat.add_comm, Nat.add_assoc] at this
        rw [show k + (i * k + j') = j' + (k + i * k) by omega]
        rw [show k + (j' + i * k) = j' + (k + i * k) by omega] at this
        exact this) (j - k) u hu
      simpa [show k + (j - k) = j by omega] using this

section
variable {H : Type} {enc : TypeId × Value → H} {P : Program} {W : World}
theorem open_lo {t e : TypeId} {k : Nat} (ht : P.underlying t = some (.slice e)) (hC : P.cellsOf e = k) (hk : 0 < k) {v : Value} {d : DataW H} {p : List MemPlace} {r : Reach} {base : Nat} (hval : Value.okWide P W r base t v)
    (h : DataW.Trod enc P W 0 (fun _ => true) true t v d p) {α : Type} (f : α → List Value) (hf : ∀ a, (f a).length = k)
    (hread : ∀ cs n y, cs.length = k → DataW.trod enc P W 0 (fun _ => true) true n e cs = some y → ∃ a, cs = f a) :
    ∃ l : List α, Lo W W.heap.size k v l.length (l.flatMap f) := by
  obtain ⟨a0, len0, cap0, rfl⟩ := okWide_slice ht hval
  obtain ⟨fuel, hfu⟩ := h
  rcases open_slice ht hfu with ⟨hcs, _⟩ | ⟨a, len, cap, m, n, D, Pl, hcs, _, hl, hm, hmm, _, hi⟩
  · have : Value.slice a0 len0 cap0 = .slice none 0 0 := by simpa [Value.cells] using hcs
    rw [this]
    exact ⟨[], SlK.nil _ _ _⟩
  · have hv : Value.slice a0 len0 cap0 = .slice (some a) len cap := by simpa [Value.cells] using hcs
    rw [hv]
    simp only [if_true] at hmm
    obtain rfl := hmm.symm
    by_cases hc0 : cap = 0
    · subst hc0
      obtain rfl : len = 0 := by omega
      exact ⟨[], by simp, _, _, rfl, Nat.le_refl _, Nat.zero_le _, .inl ⟨rfl, rfl⟩⟩
    · have hel : ∀ i, i < len → ∃ x, W.cells? 0 (a.add (i * k)) k = some (f x) := fun i hi' => by
        obtain ⟨cs', h1, h2⟩ := hi i (by omega)
        rw [hC] at h1
        obtain ⟨_, hlen, _⟩ := World.cells?_some h1
        obtain ⟨x, rfl⟩ := hread cs' _ _ hlen h2
        exact ⟨x, h1⟩
      obtain ⟨l, hll, hlr⟩ := list_of hel
      -- the block is read at its first cell
      obtain ⟨cs0, h0, _⟩ := hi 0 (by omega)
      rw [hC, Nat.zero_mul] at h0
      obtain ⟨_, hlen0, hat0⟩ := World.cells?_some h0
      have hc := hat0 0 hk
      have hadd : (a.add 0).add 0 = a := by simp [Addr.add]
      rw [hadd, List.getElem?_eq_getElem (by omega)] at hc
      have hsp : a.spot = none := by
        unfold World.cell? at hc
        split at hc
        · split at hc
          · cases hc
          · rename_i hs; simpa using hs
        · cases hc
      have hblk : ∃ cs e' fz, W.heap[a.block]? = some (.cells cs e' fz) := by
        unfold World.cell? at hc
        split at hc
        · rename_i cs e' fz hh; exact ⟨cs, e', fz, hh⟩
        · cases hc
      obtain ⟨cs, e', fz, hh⟩ := hblk
      obtain ⟨g, off, sp⟩ := a
      simp only at hsp hh
      subst hsp
      refine ⟨l, flat_len hf l, _, _, by rw [hll], by rw [hll]; exact hl, hm, .inr ⟨g, off, cs, e', fz, rfl, hh, lt_of_heap hh, ?_⟩⟩
      refine flat_of hf hk fun i x j u hx hu => ?_
      obtain ⟨_, _, hat⟩ := World.cells?_some (hlr i x hx)
      have hj : j < k := by have := (List.getElem?_eq_some_iff.1 hu).1; rw [hf] at this; exact this
      have := hat j hj
      rw [hu, Addr.add_lit, Addr.add_lit, cell_of_row W g _ cs e' fz hh, Nat.add_assoc] at this
      exact this
end
end Go.Proofs.YtdcdefkloibfnaaGreatDoor
namespace Go.Proofs.YtdcdefkloibfnaaGreatDoor
set_option linter.unusedVariables false
open Go.ChangeShapes Go.WideShapes Go.Deep Go.RowKit
section
variable {H : Type} {enc : TypeId × Value → H} {P : Program} {W : World}
/-- A slice among the cells of what came in. -/
theorem open_cell {t e : TypeId} {k : Nat} (ht : P.underlying t = some (.slice e)) (hC : P.cellsOf e = k) (hk : 0 < k) {fuel : Nat} {cs : List Value} {x : DataW H × List MemPlace}
    (hfu : DataW.trod enc P W 0 (fun _ => true) true fuel t cs = some x) {α : Type} (f : α → List Value) (hf : ∀ a, (f a).length = k)
    (hread : ∀ cs n y, cs.length = k → DataW.trod enc P W 0 (fun _ => true) true n e cs = some y → ∃ a, cs = f a) :
    ∃ A n c, cs = [.slice A n c] ∧ ∃ l : List α, l.length = n ∧ Lo W W.heap.size k (.slice A n c) n (l.flatMap f) := by
  rcases open_slice ht hfu with ⟨hcs, _⟩ | ⟨a, len, cap, m, n, D, Pl, hcs, _, hl, hm, hmm, _, hi⟩
  · exact ⟨none, 0, 0, hcs, [], rfl, SlK.nil _ _ _⟩
  · refine ⟨some a, len, cap, hcs, ?_⟩
    simp only [if_true] at hmm
    obtain rfl := hmm.symm
    by_cases hc0 : cap = 0
    · subst hc0
      obtain rfl : len = 0 := by omega
      exact ⟨[], rfl, by simp, _, _, rfl, Nat.le_refl _, Nat.zero_le _, .inl ⟨rfl, rfl⟩⟩
    · have hel : ∀ i, i < len → ∃ x, W.cells? 0 (a.add (i * k)) k = some (f x) := fun i hi' => by
        obtain ⟨cs', h1, h2⟩ := hi i (by omega)
        rw [hC] at h1
        obtain ⟨_, hlen, _⟩ := World.cells?_some h1
        obtain ⟨x, rfl⟩ := hread cs' _ _ hlen h2
        exact ⟨x, h1⟩
      obtain ⟨l, hll, hlr⟩ := list_of hel
      obtain ⟨cs0, h0, _⟩ := hi 0 (by omega)
      rw [hC, Nat.zero_mul] at h0
      obtain ⟨_, hlen0, hat0⟩ := World.cells?_some h0
      have hc := hat0 0 hk
      have hadd : (a.add 0).add 0 = a := by simp [Addr.add]
      rw [hadd, List.getElem?_eq_getElem (by omega)] at hc
      have hsp : a.spot = none := by
        unfold World.cell? at hc
        split at hc
        · split at hc
          · cases hc
          · rename_i hs; simpa using hs
        · cases hc
      have hblk : ∃ cs e' fz, W.heap[a.block]? = some (.cells cs e' fz) := by
        unfold World.cell? at hc
        split at hc
        · rename_i cs e' fz hh; exact ⟨cs, e', fz, hh⟩
        · cases hc
      obtain ⟨cs, e', fz, hh⟩ := hblk
      obtain ⟨g, off, sp⟩ := a
      simp only at hsp hh
      subst hsp
      refine ⟨l, hll, by rw [flat_len hf l, hll], _, _, rfl, hl, hm, .inr ⟨g, off, cs, e', fz, rfl, hh, lt_of_heap hh, ?_⟩⟩
      refine flat_of hf hk fun i x j u hx hu => ?_
      obtain ⟨_, _, hat⟩ := World.cells?_some (hlr i x hx)
      have hj : j < k := by have := (List.getElem?_eq_some_iff.1 hu).1; rw [hf] at this; exact this
      have := hat j hj
      rw [hu, Addr.add_lit, Addr.add_lit, cell_of_row W g _ cs e' fz hh, Nat.add_assoc] at this
      exact this
end
section
variable {H : Type} {enc : TypeId × Value → H} {P : Program} {w : World} {base : Nat} {spare : Nat → Bool} {held : Bool}
theorem field_read {t : TypeId} {fs : Array Field} {fuel : Nat} {cs : List Value} {x : DataW H × List MemPlace} (ht : P.underlying t = some (.struct fs)) (h : DataW.trod enc P w base spare held fuel t cs = some x) {i : Nat} {f : Field} (hf : fs[i]? = some f)
    {k : Nat} (hk : P.cellsOf f.type = k) {c : List Value} (hc : (cs.drop f.offset).take k = c) : ∃ n y, DataW.trod enc P w base spare held n f.type c = some y := by
  obtain ⟨xs, n, _, _, _, hl, hg⟩ := DataW.trod_struct ht h
  have h1 := hg i f hf
  have hi : i < xs.length := by rw [hl]; exact (Array.getElem?_eq_some_iff.1 hf).1
  rw [hk, hc, List.getElem?_eq_getElem hi] at h1
  exact ⟨n, _, h1⟩
end
end Go.Proofs.YtdcdefkloibfnaaGreatDoor
namespace Go.Proofs.YtdcdefkloibfnaaGreatDoor
set_option linter.unusedVariables false
open Go.ChangeShapes Go.WideShapes Go.Deep Go.RowKit

theorem doors_of_laid {W : World} {T1 T2 : List UInt8} {r : List (String × DataW Unit)}
    (h : laidMet Tryz.prog (("internal/strconv.uint64pow10", Lib.tabData .u64 Lib.pow10Tab) :: ("strconv.ErrRange", .iface "*errors.errorString" (.ptr (.agg [.lit (.string T1)]))) :: ("strconv.ErrSyntax", .iface "*errors.errorString" (.ptr (.agg [.lit (.string T2)]))) :: r) W) : Doors W :=
  ⟨errs_of_laid h.tail, Lib.tabIs_of_head (g := 0) (t := 233) (e := 52) (n := 20) (by kernel_rfl) (by kernel_rfl) (by kernel_rfl) (by kernel_rfl) (by kernel_rfl) (by kernel_rfl) h⟩
section
variable {H : Type} {enc : TypeId × Value → H} {W : World} {base : Nat} {v : Value} {d : DataW H} {p : List MemPlace}
theorem byte_of {a : Int} (h : (Lit.int .u8 a).wf = true) : ∃ b : UInt8, a = (b.toNat : Int) :=
  ⟨UInt8.ofNat a.toNat, by
    have h1 := (bounds_u8 h).1
    have h2 := (bounds_u8 h).2
    rw [UInt8.toNat_ofNat', Nat.mod_eq_of_lt (by omega)]; omega⟩
theorem bytes_flat (l : List UInt8) : l.flatMap (fun b => [Value.int .u8 (b.toNat : Int)]) = bsC l := by
  induction l with
  | nil => rfl
  | cons a l ih => rw [List.flatMap_cons, ih]; rfl
theorem open_bytes_cell {fuel : Nat} {cs : List Value} {x : DataW H × List MemPlace} (hfu : DataW.trod enc Tryz.prog W 0 (fun _ => true) true fuel 23 cs = some x) :
    ∃ A n c, cs = [.slice A n c] ∧ ∃ l : List UInt8, l.length = n ∧ Lo W W.heap.size 1 (.slice A n c) n (bsC l) := by
  obtain ⟨A, n, c, hcs, l, hl, hlo⟩ := open_cell (k := 1) Tryz.underlying23 (by kernel_rfl) (by decide) hfu (fun b : UInt8 => [Value.int .u8 (b.toNat : Int)]) (fun _ => rfl) (fun cs n y hl h => by
    obtain ⟨b, e, -, hw⟩ := DataW.trod_int Tryz.underlying5 h
    obtain ⟨u, rfl⟩ := byte_of hw
    exact ⟨u, e⟩)
  rw [bytes_flat] at hlo
  exact ⟨A, n, c, hcs, l, hl, hlo⟩
set_option maxRecDepth 100000 in
theorem open_bytes {hval : Value.okWide Tryz.prog W .any base 23 v} (h : DataW.Trod enc Tryz.prog W 0 (fun _ => true) true 23 v d p) :
    ∃ A n c, v = .slice A n c ∧ ∃ l : List UInt8, l.length = n ∧ Lo W W.heap.size 1 (.slice A n c) n (bsC l) := by
  obtain ⟨a0, len0, cap0, rfl⟩ := okWide_slice Tryz.underlying23 hval
  obtain ⟨fuel, hfu⟩ := h
  obtain ⟨A, n, c, hcs, l, hl, hlo⟩ := open_bytes_cell hfu
  have hv : Value.slice a0 len0 cap0 = .slice A n c := by simpa [Value.cells] using hcs
  exact ⟨A, n, c, hv, l, hl, hlo⟩
end
end Go.Proofs.YtdcdefkloibfnaaGreatDoor
namespace Go.Proofs.YtdcdefkloibfnaaGreatDoor
set_option linter.unusedVariables false
open Go.ChangeShapes Go.WideShapes Go.ChangeAt Go.RowKit

theorem trodAll_stays {H : Type} {enc : TypeId × Value → H} {P : Program} (hl : laidOutB P = true) {W W' : World} (hb : Below W.heap.size W W') :
    ∀ (ts : List TypeId) (vs : List Value) (ds : List (DataW H)) (ps : List MemPlace), (∀ t ∈ ts, P.readableRec t = true ∧ t < P.types.size) → DataW.TrodAll enc P W 0 (fun _ => true) true ts vs ds ps → (∀ x ∈ ps, x.block < W.heap.size) →
      DataW.TrodAll enc P W' 0 (fun b => decide (b < W.heap.size)) true ts vs ds ps
  | [], [], [], _, _, h, _ => h
  | t :: ts, v :: vs, d :: ds, ps, hr, h, hlt => by
    obtain ⟨p, q, h1, h2, rfl⟩ := h
    obtain ⟨hr1, hr2⟩ := hr t (.head _)
    exact ⟨p, q, Below.trod hl hr1 hr2 h1 hb (fun x hx => hlt x (List.mem_append.2 (.inl hx))), trodAll_stays hl hb ts vs ds q (fun t ht => hr t (.tail _ ht)) h2 (fun x hx => hlt x (List.mem_append.2 (.inr hx))), rfl⟩
  | [], [], _ :: _, _, _, h, _ => h.elim
  | [], _ :: _, _, _, _, h, _ => h.elim
  | _ :: _, [], _, _, _, h, _ => h.elim
  | _ :: _, _ :: _, [], _, _, h, _ => h.elim

theorem law_post {H : Type} {enc : TypeId × Value → H} {P : Program} {f : Func} {s : ChangeSpec} {tb : TypeId} {W W' : World} {args : Array Value} {ds gs : List (DataW H)} {before : List MemPlace} (hl : laidOutB P = true)
    (hW : DataW.Whole enc P f.params.toList s.vars false W args.toList ds gs before) (hvars : s.vars = []) (hparams : ∀ t ∈ f.params.toList, P.readableRec t = true ∧ t < P.types.size) (hres : f.resultTypes = #[tb]) (htb : P.underlying tb = some .bool)
    (h1 : (s.fn H (ds ++ gs)).results = [.lit (.bool true)]) (h2 : (s.fn H (ds ++ gs)).args = ds) (h3 : (s.fn H (ds ++ gs)).vars = []) (hb : Below W.heap.size W W') : s.post enc P f false true false false W args (.bool true) W' := by
  have hlt := hW.lt
  have hW0 := hW
  obtain ⟨p, q, hA, hV, rfl, hfz, hnd⟩ := hW0
  rw [hvars] at hV
  obtain ⟨rfl, rfl⟩ := trodVars_none hV
  refine ⟨ds, [], p ++ [], [], p, [], hW, ?_, ?_, ?_, ?_, fun h => by cases h⟩
  · rw [h1, hres]
    exact trodAll_cons_mk (shut_bool htb _) trodAll_mk0
  · rw [h2]
    exact trodAll_stays hl hb _ _ _ _ hparams hA (fun x hx => hlt x (by simpa using hx))
  · rw [hvars, h3]; rfl
  · exact hb.frame _
end Go.Proofs.YtdcdefkloibfnaaGreatDoor
namespace Go.Proofs.YtdcdefkloibfnaaGreatDoor
set_option linter.unusedVariables false
open Go.RowKit

theorem drop_snoc {l : List UInt8} {a i : Nat} {c : UInt8} (h : l[a + i]? = some c) : (l.drop a).take (i + 1) = (l.drop a).take i ++ [c] := by
  rw [List.take_add_one, List.getElem?_drop, h]; rfl
set_option maxHeartbeats 1000000 in
set_option maxRecDepth 100000 in
theorem x1Get_short {w : World} {ok : Nat → TypeId → Prop} {v : Value} {n : Nat} {l : List UInt8} (h : SlK w ok 1 v n (bsC l)) (a k : Nat) (h1 : 1 ≤ k) (h8 : k ≤ 8) (ha : a ≤ n) (hn : n ≤ 1000000) (hs : n < a + k) :
    Calls Tryz.prog 79 #[v, .int .i64 (a : Int), .int .i64 (k : Int)] w fun e w' => e = .returned (.tuple #[.int .u64 0, .int .i64 0, .int .i64 10]) ∧ w' = w := by
  have hlen := h.run_len bytesT
  clear h
  go_enter Tryz.func79, Tryz.ntmps79
  go_wp2
  go_ret3
  exact ⟨rfl, rfl⟩
set_option maxHeartbeats 4000000 in
set_option maxRecDepth 100000 in
theorem x1Get_at {w : World} {ok : Nat → TypeId → Prop} {v : Value} {n : Nat} {l : List UInt8} (h : SlK w ok 1 v n (bsC l)) (a k : Nat) (h1 : 1 ≤ k) (h8 : k ≤ 8) (hn : n ≤ 1000000) (hs : a + k ≤ n) :
    Calls Tryz.prog 79 #[v, .int .i64 (a : Int), .int .i64 (k : Int)] w fun e w' => e = .returned (.tuple #[.int .u64 (beN ((l.drop a).take k)), .int .i64 ((a + k : Nat) : Int), .int .i64 0]) ∧ w' = w := by
  have hln : l.length = n := by have := h.len; rw [bsC_len] at this; omega
  have hlen := h.run_len bytesT
  have H := Lib.hid h
  clear h
  go_enter Tryz.func79, Tryz.ntmps79
  go_wp2_with fail
  go_loopg [9, 10] k (fun j vx vi wr => ∃ i : Nat, i + j = k ∧ vi = .int .i64 (i : Nat) ∧ vx = .int .u64 (beN ((l.drop a).take i) : Nat) ∧ wr = w)
  case atStart => exact ⟨0, by omega, rfl, by rw [List.take_zero]; rfl, rfl⟩
  case round =>
    obtain ⟨i, hik, rfl, rfl, hw⟩ := hrel
    subst hw
    have HIK := Lib.hid hik
    by_cases hlt : i < k
    · obtain ⟨c, hc⟩ : ∃ c, l[a + i]? = some c := ⟨_, List.getElem?_eq_getElem (by omega)⟩
      obtain ⟨g, off, hidx, hgl, hc0⟩ := byte_at H.out hc
      have hidx' : ∀ kd w', (Instr.indexAt 23 v (.int kd ((a : Int) + (i : Int)))).run Tryz.prog w' = .ok (.pointer (some ⟨g, off, none⟩)) w' := fun kd w' => by rw [← hidx kd w']; rfl
      have hnx : beN ((l.drop a).take (i + 1)) = beN ((l.drop a).take i) * 256 + c.toNat := by rw [drop_snoc hc]; exact beN_snoc _ c
      have hbb : beN ((l.drop a).take i) < 256 ^ 7 := Nat.lt_of_lt_of_le (beN_lt _) (Nat.pow_le_pow_right (by decide) (by rw [List.length_take]; omega))
      have hcb := c.toNat_lt
      have HNX := Lib.hid hnx
      clear hik hnx hidx hc
      generalize beN ((l.drop a).take i) = X at *
      generalize c.toNat = ci at *
      have hX : X < 72057594037927936 := by omega
      clear hbb
      go_wp2_with fail
      go_roundg (k - (i + 1))
      case measure => have := HIK.out; omega
      case rel => exact ⟨i + 1, by have := HIK.out; omega, by go_num, by rw [HNX.out]; go_num, rfl⟩
    · obtain rfl : i = k := by omega
      clear hik
      go_wp2
      go_ret3
      exact ⟨rfl, rfl⟩
end Go.Proofs.YtdcdefkloibfnaaGreatDoor
namespace Go.Proofs.YtdcdefkloibfnaaGreatDoor
set_option linter.unusedVariables false
open Go.RowKit

set_option maxHeartbeats 1000000 in
set_option maxRecDepth 100000 in
theorem x2Run_short {w : World} {ok : Nat → TypeId → Prop} {v : Value} {n : Nat} {l : List UInt8} (h : SlK w ok 1 v n (bsC l)) (a k : Nat) (ha : a ≤ n) (hn : n ≤ 1000000) (hs : n < a + k) :
    Calls Tryz.prog 81 #[v, .int .i64 (a : Int), .int .u64 (k : Int)] w fun e w' => e = .returned (.tuple #[.string noStr, .int .i64 0, .int .i64 10]) ∧ w' = w := by
  have hlen := h.run_len bytesT
  have hcv : IntKind.u64.wrap ((n : Int) - (a : Int)) = (n : Int) - a := by rw [IntKind.wrap_u64]; omega
  clear h
  go_enter Tryz.func81, Tryz.ntmps81
  go_wp2
  go_ret3
  exact ⟨rfl, rfl⟩
set_option maxHeartbeats 2000000 in
set_option maxRecDepth 100000 in
theorem x2Run_at {w : World} {ok : Nat → TypeId → Prop} {v : Value} {n : Nat} {l : List UInt8} (h : SlK w ok 1 v n (bsC l)) (a k : Nat) (hn : n ≤ 1000000) (hs : a + k ≤ n) :
    Calls Tryz.prog 81 #[v, .int .i64 (a : Int), .int .u64 (k : Int)] w fun e w' => e = .returned (.tuple #[.string (bS ((l.drop a).take k)), .int .i64 ((a + k : Nat) : Int), .int .i64 0]) ∧ w' = w := by
  have hlen := h.run_len bytesT
  have hcv : IntKind.u64.wrap ((n : Int) - (a : Int)) = (n : Int) - a := by rw [IntKind.wrap_u64]; omega
  have hcv2 : IntKind.i64.wrap (k : Int) = (k : Int) := by rw [IntKind.wrap_i64]; omega
  obtain ⟨A1, c1, hmid, hst⟩ := h.run_mid bytesT (i := (a : Int)) (i' := (a : Int) + (k : Int)) (k := a) (k' := a + k) rfl (by omega) (by omega) hs
  have hst2 : SlK w ok 1 (.slice A1 (a + k - a) c1) (a + k - a) (bsC ((l.drop a).take k)) := by
    rw [Nat.mul_one, Nat.mul_one, bsC_take, bsC_drop, List.drop_take] at hst
    rw [show a + k - a = k by omega] at hst ⊢
    exact hst
  have hq := bytes_str hst2
  rw [show a + k - a = k by omega] at hmid hq
  clear h hst hst2
  go_enter Tryz.func81, Tryz.ntmps81
  go_wp2
  go_ret3
  exact ⟨rfl, rfl⟩
end Go.Proofs.YtdcdefkloibfnaaGreatDoor
namespace Go.Proofs.YtdcdefkloibfnaaGreatDoor
set_option linter.unusedVariables false
open Go.RowKit

def putB (x n : Nat) : List UInt8 := (List.range n).map fun j => UInt8.ofNat (x / 256 ^ (n - 1 - j))
theorem putB_snoc (x n d : Nat) (h : d < n) : (putB x n).take (d + 1) = (putB x n).take d ++ [UInt8.ofNat (x / 256 ^ (n - 1 - d))] := by
  have : (putB x n)[d]? = some (UInt8.ofNat (x / 256 ^ (n - 1 - d))) := by
    unfold putB
    rw [List.getElem?_map, List.getElem?_range h]; rfl
  rw [List.take_add_one, this]; rfl
set_option maxHeartbeats 4000000 in
set_option maxRecDepth 100000 in
theorem x1Put_at (x n : Nat) (hx : x < 18446744073709551616) (h1 : 1 ≤ n) (h8 : n ≤ 8) (w : World) :
    Calls Tryz.prog 98 #[.int .u64 x, .int .i64 n] w fun e w' => ∃ v', e = .returned v' ∧ w'.ownsRow w.heap.size 5 1 v' n (bsC (putB x n)) ∧ Kept noBlock w w' := by
  go_enter Tryz.func98, Tryz.ntmps98
  go_wp2_with fail
  go_loopg [5, 6] n (fun j vo vi wr => j ≤ n ∧ vi = .int .i64 ((j : Int) - 1) ∧ wr.ownsRow w.heap.size 5 1 vo (n - j) (bsC ((putB x n).take (n - j))) ∧ Kept noBlock w wr)
  case atStart => exact ⟨Nat.le_refl _, by congr 1, by rw [Nat.sub_self]; exact World.ownsRow_nil _ _ _ _, Kept.refl _ _⟩
  case round =>
    obtain ⟨hjn, rfl, hown, hk⟩ := hrel
    have HO := Lib.hid hown
    have HK := Lib.hid hk
    obtain ⟨A0, c0, rfl, -, -⟩ := (Sl.of_own hown).shape
    clear hown hk
    by_cases h0 : gk = 0
    · subst h0
      have hfull : (putB x n).take (n - 0) = putB x n := List.take_of_length_le (by unfold putB; simp)
      have HF := Lib.hid hfull
      clear hfull
      go_wp2
      go_ret
      have := HO.out
      rw [HF.out] at this
      exact ⟨_, rfl, this, HK.out⟩
    · obtain ⟨i, rfl⟩ : ∃ i, gk = i + 1 := ⟨gk - 1, by omega⟩
      have hi : (((i + 1 : Nat) : Int) - 1) = (i : Int) := by omega
      rw [hi]
      go_wp2_with fail
      go_loopg [7, 8] i (fun jj vy vk w2 => ∃ k : Nat, k + jj = i ∧ vk = .int .i64 k ∧ vy = .int .u64 ((x / 256 ^ k : Nat) : Int) ∧ w2 = wr)
      case atStart => exact ⟨0, by omega, rfl, by rw [Nat.pow_zero, Nat.div_one], rfl⟩
      case round =>
        obtain ⟨k, hki, rfl, rfl, hw⟩ := hrel
        subst hw
        have HKI := Lib.hid hki
        have hle : x / 256 ^ k < 18446744073709551616 := Nat.lt_of_le_of_lt (Nat.div_le_self _ _) hx
        have HNX : Hid (x / 256 ^ k / 256 = x / 256 ^ (k + 1)) := Lib.hid (by rw [Nat.div_div_eq_div_mul, ← Nat.pow_succ])
        clear hki
        by_cases hk : k < i
        · generalize x / 256 ^ k = y at *
          go_wp2_with fail
          go_roundg (i - (k + 1))
          case measure => have := HKI.out; omega
          case rel => exact ⟨k + 1, by have := HKI.out; omega, by go_num, by rw [← HNX.out]; go_num, rfl⟩
        · obtain rfl : k = i := by have := HKI.out; omega
          have hsn := putB_snoc x n (n - (k + 1)) (by omega)
          rw [show n - (k + 1) + 1 = n - k by omega, show n - 1 - (n - (k + 1)) = k by omega] at hsn
          have HSN := Lib.hid hsn
          clear hsn HNX
          generalize x / 256 ^ k = y at *
          have hby : ((UInt8.ofNat y).toNat : Int) = (y : Int) % 256 := by rw [UInt8.toNat_ofNat']; omega
          have HBY := Lib.hid hby
          clear hby
          have hsz := HK.out.size
          go_wp2_with (at_builtin; go_must (refine wpList_append_sl _ bytesT rfl (.tmp 30) (.tmp 34) rfl w.heap.size _ (n - (k + 1)) (bsC ((putB x n).take (n - (k + 1)))) rfl (HO.out.alloc _) _ 1 [.int .u8 ((y : Int) % 256)] rfl (Sl.made_at (Blk.new _ 5 #[.int .u8 ((y : Int) % 256)]) _ rfl rfl one_max) (by simp [Value.oneCell']) ?c1 ?c2 ?_))
          case c1 => omega
          case c2 => simp only [sz_alloc]; omega
          intro v' w6 hap
          have hk6 := hap.below (HO.out.alloc _) (HK.out.alloc _) (Nat.le_refl _)
          have FIN : Hid (w6.ownsRow w.heap.size 5 1 v' (n - k) (bsC ((putB x n).take (n - k)))) := Lib.hid (by
            rw [HSN.out, show ∀ a b : List UInt8, bsC (a ++ b) = bsC a ++ bsC b from Lib.byteCells_append]
            have := hap.own
            rw [show n - (k + 1) + 1 = n - k by omega] at this
            have e : bsC [UInt8.ofNat y] = [.int .u8 ((y : Int) % 256)] := by show [Value.int .u8 ((UInt8.ofNat y).toNat : Int)] = _; rw [HBY.out]
            rw [e]; exact this)
          have HK6 := Lib.hid hk6
          clear hap hk6
          go_wp2_with fail
          go_roundg k
          case measure => omega
          case rel => exact ⟨by omega, rfl, FIN.out, HK6.out⟩
end Go.Proofs.YtdcdefkloibfnaaGreatDoor
namespace Go.Proofs.YtdcdefkloibfnaaGreatDoor
set_option linter.unusedVariables false
open Go.RowKit

def sg (k : Nat) (y : Nat) : Int := if k ≤ y then (y : Int) - 2 * k else y
def sgP (x : Nat) : Nat → Int
  | 0 => 0
  | 1 => sg 128 (x / 16777216)
  | 2 => sg 32768 (x / 65536)
  | 3 => sg 8388608 (x / 256)
  | _ => s32 x
theorem put4 (x : Nat) : putB x 4 = [UInt8.ofNat (x / 16777216), UInt8.ofNat (x / 65536), UInt8.ofNat (x / 256), UInt8.ofNat (x / 1)] := rfl
theorem ofN (y : Nat) : ((UInt8.ofNat y).toNat : Int) = ((y % 256 : Nat) : Int) := by rw [UInt8.toNat_ofNat']
set_option maxHeartbeats 4000000 in
set_option maxRecDepth 100000 in
theorem x1Signed_at (x : Nat) (hx : x < 4294967296) (w : World) : Calls Tryz.prog 80 #[.int .u64 x, .int .i64 4] w fun e w' => e = .returned (.int .i64 (s32 x)) ∧ Kept noBlock w w' := by
  have HP := Lib.hid (x1Put_at x 4 (by omega) (by omega) (by omega) w)
  go_enter Tryz.func80, Tryz.ntmps80
  go_wp2_with fail
  go_at_call 98
  refine HP.out.mono ?_
  rintro e w1 ⟨v1, rfl, ho, hk⟩
  have HS := Lib.hid (SlK.of_ownB ho)
  have HK := Lib.hid hk
  clear ho hk HP
  go_wp2_with fail
  go_loopg [6, 7] 4 (fun j vs vi wr => ∃ i : Nat, i + j = 4 ∧ vi = .int .i64 i ∧ vs = .int .i64 (sgP x i) ∧ wr = w1)
  case atStart => exact ⟨0, by omega, rfl, rfl, rfl⟩
  case round =>
    obtain ⟨i, hij, rfl, rfl, hw⟩ := hrel
    subst hw
    have HIJ := Lib.hid hij
    clear hij
    by_cases hlt : i < 4
    · have h4 : i = 0 ∨ i = 1 ∨ i = 2 ∨ i = 3 := by omega
      rcases h4 with rfl | rfl | rfl | rfl
      · skip
        obtain ⟨g, off, hidx, hgl, hc0⟩ := byte_at HS.out (i := 0) (c := UInt8.ofNat (x / 16777216)) (by rw [put4]; rfl)
        have hidx2 : ∀ kd w', (Instr.indexAt 23 v1 (.int kd 0)).run Tryz.prog w' = .ok (.pointer (some ⟨g, off, none⟩)) w' := hidx
        clear hidx
        rw [ofN] at hc0
        obtain ⟨b, hb⟩ : ∃ b, b = x / 16777216 % 256 := ⟨_, rfl⟩
        rw [← hb] at hc0
        rw [show sgP x 0 = 0 from rfl]
        have hb2 : b < 256 := by omega
        by_cases h128 : 128 ≤ b
        · skip
          have HF : Hid (sgP x 1 = (b : Int) - 256) := Lib.hid (by show sg 128 (x / 16777216) = _; unfold sg; rw [if_pos (by omega)]; omega)
          clear hb
          go_wp2_with fail
          go_roundg 3
          case measure => have := HIJ.out; omega
          case rel => exact ⟨1, by omega, by go_num, by rw [HF.out], rfl⟩
        · skip
          have HF : Hid (sgP x 1 = (b : Int)) := Lib.hid (by show sg 128 (x / 16777216) = _; unfold sg; rw [if_neg (by omega)]; omega)
          clear hb
          go_wp2_with fail
          go_roundg 3
          case measure => have := HIJ.out; omega
          case rel => exact ⟨1, by omega, by go_num, by rw [HF.out], rfl⟩
      · skip
        obtain ⟨g, off, hidx, hgl, hc0⟩ := byte_at HS.out (i := 1) (c := UInt8.ofNat (x / 65536)) (by rw [put4]; rfl)
        have hidx2 : ∀ kd w', (Instr.indexAt 23 v1 (.int kd 1)).run Tryz.prog w' = .ok (.pointer (some ⟨g, off, none⟩)) w' := hidx
        clear hidx
        rw [ofN] at hc0
        obtain ⟨b, hb⟩ : ∃ b, b = x / 65536 % 256 := ⟨_, rfl⟩
        rw [← hb] at hc0
        obtain ⟨S, hS⟩ : ∃ S, S = sgP x 1 := ⟨_, rfl⟩
        have hS2 : S = sg 128 (x / 16777216) := hS
        have HF : Hid (sgP x 2 = S * 256 + b) := Lib.hid (by rw [hS2]; show sg 32768 (x / 65536) = _; unfold sg; split <;> split <;> omega)
        have hSb : -8388608 ≤ S ∧ S ≤ 8388608 := by rw [hS2]; unfold sg; split <;> omega
        rw [← hS]
        have hb2 : b < 256 := by omega
        obtain ⟨hSa, hSc⟩ := hSb
        clear hb hS hS2
        go_wp2_with fail
        go_roundg 2
        case measure => have := HIJ.out; omega
        case rel => exact ⟨2, by omega, by go_num, by rw [HF.out], rfl⟩
      · skip
        obtain ⟨g, off, hidx, hgl, hc0⟩ := byte_at HS.out (i := 2) (c := UInt8.ofNat (x / 256)) (by rw [put4]; rfl)
        have hidx2 : ∀ kd w', (Instr.indexAt 23 v1 (.int kd 2)).run Tryz.prog w' = .ok (.pointer (some ⟨g, off, none⟩)) w' := hidx
        clear hidx
        rw [ofN] at hc0
        obtain ⟨b, hb⟩ : ∃ b, b = x / 256 % 256 := ⟨_, rfl⟩
        rw [← hb] at hc0
        obtain ⟨S, hS⟩ : ∃ S, S = sgP x 2 := ⟨_, rfl⟩
        have hS2 : S = sg 32768 (x / 65536) := hS
        have HF : Hid (sgP x 3 = S * 256 + b) := Lib.hid (by rw [hS2]; show sg 8388608 (x / 256) = _; unfold sg; split <;> split <;> omega)
        have hSb : -8388608 ≤ S ∧ S ≤ 8388608 := by rw [hS2]; unfold sg; split <;> omega
        rw [← hS]
        have hb2 : b < 256 := by omega
        obtain ⟨hSa, hSc⟩ := hSb
        clear hb hS hS2
        go_wp2_with fail
        go_roundg 1
        case measure => have := HIJ.out; omega
        case rel => exact ⟨3, by omega, by go_num, by rw [HF.out], rfl⟩
      · skip
        obtain ⟨g, off, hidx, hgl, hc0⟩ := byte_at HS.out (i := 3) (c := UInt8.ofNat (x / 1)) (by rw [put4]; rfl)
        have hidx2 : ∀ kd w', (Instr.indexAt 23 v1 (.int kd 3)).run Tryz.prog w' = .ok (.pointer (some ⟨g, off, none⟩)) w' := hidx
        clear hidx
        rw [ofN] at hc0
        obtain ⟨b, hb⟩ : ∃ b, b = x / 1 % 256 := ⟨_, rfl⟩
        rw [← hb] at hc0
        obtain ⟨S, hS⟩ : ∃ S, S = sgP x 3 := ⟨_, rfl⟩
        have hS2 : S = sg 8388608 (x / 256) := hS
        have HF : Hid (sgP x 4 = S * 256 + b) := Lib.hid (by rw [hS2]; show s32 x = _; unfold sg s32; split <;> split <;> omega)
        have hSb : -8388608 ≤ S ∧ S ≤ 8388608 := by rw [hS2]; unfold sg; split <;> omega
        rw [← hS]
        have hb2 : b < 256 := by omega
        obtain ⟨hSa, hSc⟩ := hSb
        clear hb hS hS2
        go_wp2_with fail
        go_roundg 0
        case measure => have := HIJ.out; omega
        case rel => exact ⟨4, by omega, by go_num, by rw [HF.out], rfl⟩
    · obtain rfl : i = 4 := by have := HIJ.out; omega
      go_wp2
      go_ret
      exact ⟨rfl, HK.out⟩
end Go.Proofs.YtdcdefkloibfnaaGreatDoor
namespace Go.Proofs.YtdcdefkloibfnaaGreatDoor
set_option linter.unusedVariables false
open Go.RowKit

set_option maxHeartbeats 1000000 in
set_option maxRecDepth 100000 in
theorem x2Number_short {w : World} {ok : Nat → TypeId → Prop} {v : Value} {n : Nat} {l : List UInt8} (h : SlK w ok 1 v n (bsC l)) (a : Nat) (ha : a ≤ n) (hn : n ≤ 1000000) (hs : n < a + 4) :
    Calls Tryz.prog 58 #[v, .int .i64 (a : Int)] w fun e w' => e = .returned (.tuple #[.int .i64 0, .int .i64 0, .int .i64 10]) ∧ w' = w := by
  have HG := Lib.hid (x1Get_short h a 4 (by omega) (by omega) ha hn hs)
  clear h
  go_enter Tryz.func58, Tryz.ntmps58
  go_wp2_with fail
  go_at_call 79
  refine HG.out.mono ?_
  rintro e w2 ⟨rfl, hw2⟩
  subst hw2
  go_wp2
  go_ret3
  exact ⟨rfl, rfl⟩
set_option maxHeartbeats 1000000 in
set_option maxRecDepth 100000 in
theorem x2Number_at {w : World} {ok : Nat → TypeId → Prop} {v : Value} {n : Nat} {l : List UInt8} (h : SlK w ok 1 v n (bsC l)) (a : Nat) (hn : n ≤ 1000000) (hs : a + 4 ≤ n) :
    Calls Tryz.prog 58 #[v, .int .i64 (a : Int)] w fun e w' => e = .returned (.tuple #[.int .i64 (s32 (beN ((l.drop a).take 4))), .int .i64 ((a + 4 : Nat) : Int), .int .i64 0]) ∧ Kept noBlock w w' := by
  have HG := Lib.hid (x1Get_at h a 4 (by omega) (by omega) hn hs)
  have HS := Lib.hid (fun w => x1Signed_at (beN ((l.drop a).take 4)) be4_lt w)
  clear h
  go_enter Tryz.func58, Tryz.ntmps58
  go_wp2_with fail
  go_at_call 79
  refine HG.out.mono ?_
  rintro e w2 ⟨rfl, hw2⟩
  subst hw2
  go_wp2_with fail
  go_at_call 80
  refine (HS.out _).mono ?_
  rintro e w3 ⟨rfl, hk⟩
  go_wp2
  go_ret3
  exact ⟨rfl, hk⟩
/-- A long text from a place on. -/
def LongPost (w : World) (l : List UInt8) (a : Nat) (R : Option (List UInt8 × List UInt8)) (e : Ending) (w' : World) : Prop :=
  Kept noBlock w w' ∧ match R with
  | none => ∃ c : Int, c ≠ 0 ∧ e = .returned (.tuple #[.string noStr, .int .i64 0, .int .i64 c])
  | some p => ∃ a' : Nat, a' ≤ l.length ∧ l.drop a' = p.2 ∧ e = .returned (.tuple #[.string (bS p.1), .int .i64 (a' : Int), .int .i64 0])
set_option maxHeartbeats 2000000 in
set_option maxRecDepth 100000 in
theorem x2GetLong_at {w : World} {ok : Nat → TypeId → Prop} {v : Value} {n : Nat} {l : List UInt8} (h : SlK w ok 1 v n (bsC l)) (a : Nat) (ha : a ≤ n) (hn : n ≤ 1000000) :
    Calls Tryz.prog 59 #[v, .int .i64 (a : Int)] w fun e w' => LongPost w l a (getLongP (l.drop a)) e w' := by
  have hln : l.length = n := by have := h.len; rw [bsC_len] at this; omega
  have hdl : (l.drop a).length = n - a := by rw [List.length_drop, hln]
  by_cases hs : n < a + 4
  · have hp : getLongP (l.drop a) = none := by unfold getLongP; rw [if_pos (by omega)]
    rw [hp]
    have HG := Lib.hid (x2Number_short h a ha hn hs)
    clear h hp
    go_enter Tryz.func59, Tryz.ntmps59
    go_wp2_with fail
    go_at_call 58
    refine HG.out.mono ?_
    rintro e w2 ⟨rfl, hw2⟩
    subst hw2
    go_wp2
    go_ret3
    exact ⟨Kept.refl _ _, 10, by decide, rfl⟩
  · have HG := Lib.hid (x2Number_at h a hn (by omega))
    by_cases hneg : s32 (beN ((l.drop a).take 4)) < 0
    · have hp : getLongP (l.drop a) = none := by unfold getLongP; rw [if_neg (by omega), if_pos hneg]
      rw [hp]
      clear h hp
      go_enter Tryz.func59, Tryz.ntmps59
      go_wp2_with fail
      go_at_call 58
      refine HG.out.mono ?_
      rintro e w2 ⟨rfl, hk⟩
      go_wp2
      go_ret3
      exact ⟨hk, 11, by decide, rfl⟩
    · have hb4 := be4_lt (l := l.drop a)
      have hdd : ((l.drop a).drop 4).length = n - a - 4 := by rw [List.length_drop, hdl]
      have hcv : IntKind.u64.wrap (s32 (beN ((l.drop a).take 4))) = ((beN ((l.drop a).take 4) : Nat) : Int) := by
        rw [IntKind.wrap_u64]
        unfold s32 at hneg ⊢
        split at hneg
        · rw [if_pos (by assumption)]; omega
        · omega
      by_cases hlt : n - a - 4 < beN ((l.drop a).take 4)
      · have hp : getLongP (l.drop a) = none := by unfold getLongP; rw [if_neg (by omega), if_neg hneg, if_pos (by omega)]
        rw [hp]
        have HR := Lib.hid (fun (W : World) (hk : Kept noBlock w W) => x2Run_short (SlK.keptNone h hk) (a + 4) (beN ((l.drop a).take 4)) (by omega) hn (by omega))
        clear h hp hdd hdl
        go_enter Tryz.func59, Tryz.ntmps59
        go_wp2_with fail
        go_at_call 58
        refine HG.out.mono ?_
        rintro e w2 ⟨rfl, hk⟩
        go_wp2_with fail
        go_at_call 81
        refine (HR.out w2 hk).mono ?_
        rintro e w3 ⟨rfl, hw3⟩
        subst hw3
        go_wp2
        go_ret3
        exact ⟨hk, 10, by decide, rfl⟩
      · have hp : getLongP (l.drop a) = some (((l.drop a).drop 4).take (beN ((l.drop a).take 4)), ((l.drop a).drop 4).drop (beN ((l.drop a).take 4))) := by unfold getLongP; rw [if_neg (by omega), if_neg hneg, if_neg (by omega)]
        rw [hp]
        have HR := Lib.hid (fun (W : World) (hk : Kept noBlock w W) => x2Run_at (SlK.keptNone h hk) (a + 4) (beN ((l.drop a).take 4)) hn (by omega))
        have e1 : (l.drop (a + 4)) = (l.drop a).drop 4 := by rw [List.drop_drop]
        have E1 := Lib.hid e1
        clear h hp hdd hdl e1
        go_enter Tryz.func59, Tryz.ntmps59
        go_wp2_with fail
        go_at_call 58
        refine HG.out.mono ?_
        rintro e w2 ⟨rfl, hk⟩
        go_wp2_with fail
        go_at_call 81
        refine (HR.out w2 hk).mono ?_
        rintro e w3 ⟨rfl, hw3⟩
        subst hw3
        go_wp2
        go_ret3
        refine ⟨hk, a + 4 + beN ((l.drop a).take 4), by omega, by rw [← E1.out, List.drop_drop], ?_⟩
        rw [← E1.out]
        rfl
end Go.Proofs.YtdcdefkloibfnaaGreatDoor
namespace Go.Proofs.YtdcdefkloibfnaaGreatDoor
set_option linter.unusedVariables false
open Go.RowKit

/-- What the reference's loop over the tokens has. -/
def RTokInv (w : World) (l : List UInt8) (bv : Value) (N j : Nat) (vo va vi : Value) (wr : World) : Prop :=
  ∃ (i : Nat) (out : List Int) (a : Nat), i + j = N ∧ vi = .int .i64 i ∧ va = .int .i64 (a : Int) ∧ a ≤ l.length ∧ out.length = i ∧ 4 * i + (l.drop a).length ≤ l.length ∧
    tokGo N (l.drop 4) = (tokGo j (l.drop a)).map (fun q => (out ++ q.1, q.2)) ∧ wr.ownsRow w.heap.size 2 1 vo out.length (out.map (Value.int .i64)) ∧ SlK wr (fun g _ => g < w.heap.size) 1 bv l.length (bsC l) ∧ Kept noBlock w wr
set_option maxHeartbeats 4000000 in
set_option maxRecDepth 100000 in
theorem x3Tokens_at (xk : Int) (xl : List UInt8) (hn : xl.length ≤ 1000) (w : World) :
    Calls Tryz.prog 33 #[.agg #[.int .i64 xk, .string (bS xl)]] w fun e w' => TokPost w (tokensP xk xl) e w' := by
  by_cases hk : xk = 2
  · subst hk
    obtain ⟨cb, w1, hcv, hsl, hk1⟩ := str_bytes (w.alloc (.cells #[.int .i64 2, .string (bS xl)] 40)) (bS xl)
    have hkw : Kept noBlock w w1 := ((Kept.refl noBlock w).alloc _).trans hk1 fun _ _ h => h
    have hs1 : SlK w1 (fun g _ => g < w1.heap.size) 1 (.slice (some ⟨(w.alloc (.cells #[.int .i64 2, .string (bS xl)] 40)).heap.size, 0, none⟩) xl.length cb) xl.length (bsC xl) := (hsl (show xl.length ≤ _ by omega)).lo
    have hcv2 : (convert 9 23 (.string (bS xl))).run Tryz.prog (w.alloc (.cells #[.int .i64 2, .string (bS xl)] 40)) = .ok (.slice (some ⟨(w.alloc (.cells #[.int .i64 2, .string (bS xl)] 40)).heap.size, 0, none⟩) xl.length cb) w1 := hcv
    clear hcv hsl hk1
    generalize some (⟨(w.alloc (.cells #[.int .i64 2, .string (bS xl)] 40)).heap.size, 0, none⟩ : Addr) = Ab at *
    have HS1 := Lib.hid hs1
    have HKW := Lib.hid hkw
    by_cases h4 : xl.length < 4
    · have hp : tokensP 2 xl = none := by unfold tokensP; rw [if_neg (by decide), if_pos h4]
      rw [hp]
      have HG := Lib.hid (x2Number_short hs1 0 (by omega) (by omega) (by omega))
      clear hs1 hkw hp
      go_enter Tryz.func33, Tryz.ntmps33
      go_wp2_with fail
      go_at_call 58
      refine HG.out.mono ?_
      rintro e w2 ⟨rfl, hw2⟩
      subst hw2
      go_wp2
      go_ret2
      exact ⟨HKW.out, rfl⟩
    · have HG := Lib.hid (x2Number_at hs1 0 (by omega) (by omega))
      by_cases hneg : s32 (beN (xl.take 4)) < 0
      · have hp : tokensP 2 xl = none := by unfold tokensP; rw [if_neg (by decide), if_neg h4, if_pos hneg]
        rw [hp]
        clear hs1 hkw hp
        go_enter Tryz.func33, Tryz.ntmps33
        go_wp2_with fail
        go_at_call 58
        refine HG.out.mono ?_
        rw [List.drop_zero]
        rintro e w2 ⟨rfl, hk2⟩
        go_wp2
        go_ret2
        exact ⟨HKW.out.trans hk2 fun _ _ h => h, rfl⟩
      · have hp : tokensP 2 xl = tokEnd (tokGo (beN (xl.take 4)) (xl.drop 4)) := by unfold tokensP; rw [if_neg (by decide), if_neg h4, if_neg hneg]
        rw [hp]
        have hb4 := be4_lt (l := xl)
        have hsv : s32 (beN (xl.take 4)) = ((beN (xl.take 4) : Nat) : Int) := by
          unfold s32 at hneg ⊢
          split at hneg
          · rw [if_pos (by assumption)]
          · omega
        have hN : beN (xl.take 4) < 2147483648 := by
          unfold s32 at hneg
          split at hneg <;> omega
        rw [List.drop_zero, hsv] at HG
        generalize beN (xl.take 4) = N at *
        clear hs1 hkw hp hsv hneg hb4
        go_enter Tryz.func33, Tryz.ntmps33
        go_wp2_with fail
        go_at_call 58
        refine HG.out.mono ?_
        rintro e w2 ⟨rfl, hk2⟩
        have START : Hid (RTokInv w1 xl (.slice Ab xl.length cb) N N (.slice none 0 0) (.int .i64 ((0 + 4 : Nat) : Int)) (.int .i64 (0 : Nat)) w2) := Lib.hid ⟨0, [], 4, by omega, rfl, rfl, by omega, rfl, by rw [List.length_drop]; omega, by cases tokGo N (xl.drop 4) <;> rfl, World.ownsRow_nil _ _ _ _, SlK.keptNone HS1.out hk2, hk2⟩
        clear hk2
        go_wp2_with fail
        go_loopg [8, 6, 9] N (fun j vo va vi wr => RTokInv w1 xl (.slice Ab xl.length cb) N j vo va vi wr)
        case atStart => exact START.out
        case round =>
          clear START
          obtain ⟨i, out, a, hij, rfl, rfl, hal, hol, hlen, heq, hown, hsl, hk⟩ := hrel
          have HIJ := Lib.hid hij
          have HOL := Lib.hid hol
          have HLEN := Lib.hid hlen
          have HEQ := Lib.hid heq
          have HOWN := Lib.hid hown
          have HSL := Lib.hid hsl
          have HK := Lib.hid hk
          obtain ⟨A0, c0, rfl, -, -⟩ := (Sl.of_own hown).shape
          have HG2 := Lib.hid (x2GetLong_at hsl a hal (by omega))
          have hlb := hsl.run_len bytesT
          clear hij hol hlen heq hown hsl hk
          by_cases hlt : i < N
          · obtain ⟨j, rfl⟩ : ∃ j, gk = j + 1 := ⟨N - (i + 1), by have := HIJ.out; omega⟩
            go_wp2_with fail
            go_at_call 59
            refine HG2.out.mono ?_
            intro e w4 hp4
            obtain ⟨hk4, hm4⟩ := hp4
            have HK4 := Lib.hid (HK.out.trans hk4 fun _ _ h => h)
            have HO4 := Lib.hid (own_keptB HOWN.out hk4 (fun _ _ h => h))
            have HS4 := Lib.hid (SlK.keptNone HSL.out hk4)
            clear hk4
            cases hg : getLongP (xl.drop a) with
            | none =>
              rw [hg] at hm4
              obtain ⟨cd, hcd, rfl⟩ := hm4
              have hcd2 : (cd != 0) = true := by simp [hcd]
              have HR : Hid (tokEnd (tokGo N (xl.drop 4)) = none) := Lib.hid (by rw [HEQ.out, tokGo_bad hg]; rfl)
              clear hg
              go_wp2
              go_ret2
              rw [HR.out]
              exact ⟨HKW.out.trans HK4.out fun _ _ h => h, rfl⟩
            | some p =>
              rw [hg] at hm4
              obtain ⟨a', ha', hd', rfl⟩ := hm4
              obtain ⟨t, r⟩ := p
              simp only at hd'
              have hgl := getLong_len hg
              have HGL := Lib.hid hgl
              have hsz : (bS t).size ≤ 1000 := by show t.length ≤ 1000; have := HLEN.out; omega
              have HRD := Lib.hid (fun (W : World) => r3Read_at hsz W)
              have hcode := ringRead_code t
              have htoks : (bS t).data.toList = t := rfl
              rw [htoks, read_same] at HRD
              have HST : Hid ((ringRead t).2 ≠ 0 → tokEnd (tokGo N (xl.drop 4)) = none) := Lib.hid fun h => by rw [HEQ.out, tokGo_bad2 hg h]; rfl
              have HNX : Hid ((ringRead t).2 = 0 → tokGo N (xl.drop 4) = (tokGo j (xl.drop a')).map (fun q => ((out ++ [(ringRead t).1]) ++ q.1, q.2))) := Lib.hid fun h => by
                rw [HEQ.out, tokGo_ok hg h, hd']
                cases tokGo j r <;> simp
              have HD' := Lib.hid hd'
              clear hg hgl hsz htoks hd'
              generalize (ringRead t).1 = rv at *
              generalize (ringRead t).2 = rc at *
              go_wp2_with fail
              go_at_call 60
              refine (HRD.out _).mono ?_
              rintro e w5 ⟨rfl, hw5⟩
              subst hw5
              rcases hcode with hc | hc
              · subst hc
                have HNX0 := Lib.hid (HNX.out rfl)
                have hN5 := HK4.out.size
                go_wp2_with (at_builtin; go_must (refine wpList_append_sl _ i64sT' rfl (.tmp 54) (.tmp 56) rfl w1.heap.size _ out.length (out.map (Value.int .i64)) rfl (HO4.out.alloc _) _ 1 [.int .i64 rv] rfl (Sl.made_at (Blk.new _ 2 #[.int .i64 rv]) _ rfl rfl one_max) (by simp [Value.oneCell']) ?c1 ?c2 ?_))
                case c1 => have := HOL.out; have := HLEN.out; omega
                case c2 => simp only [sz_alloc]; omega
                intro v' w6 hap
                obtain ⟨A5, c5, rfl, -, -⟩ := (Sl.of_own hap.own).shape
                have hk6 := hap.below (HO4.out.alloc _) (HK4.out.alloc _) (Nat.le_refl _)
                have hs6 := SlK.appended (HS4.out.alloc _) hap (HO4.out.alloc _) (Nat.le_refl _)
                have FIN : Hid (RTokInv w1 xl (.slice Ab xl.length cb) N j (.slice A5 (out.length + 1) c5) (.int .i64 (a' : Int)) (.int .i64 ((i + 1 : Nat) : Int)) w6) := Lib.hid ⟨i + 1, out ++ [rv], a', by have := HIJ.out; omega, rfl, rfl, ha', by rw [List.length_append, HOL.out]; rfl, by rw [HD'.out]; have := HLEN.out; have := HGL.out; omega, HNX0.out, by rw [List.length_append, List.map_append]; exact hap.own, hs6, hk6⟩
                clear hap hs6 hk6
                go_wp2_with fail
                go_roundg j
                case measure => omega
                case rel => exact FIN.out
              · subst hc
                have HST0 := Lib.hid (HST.out (by decide))
                go_wp2
                go_ret2
                rw [HST0.out]
                exact ⟨HKW.out.trans HK4.out fun _ _ h => h, rfl⟩
          · obtain rfl : i = N := by have := HIJ.out; omega
            obtain rfl : gk = 0 := by have := HIJ.out; omega
            have hfin : tokGo i (xl.drop 4) = some (out, xl.drop a) := by rw [HEQ.out]; unfold tokGo; simp
            have HFIN := Lib.hid hfin
            clear hfin
            by_cases h0 : a = xl.length
            · have HEND : Hid (tokEnd (tokGo i (xl.drop 4)) = some out) := Lib.hid (by rw [HFIN.out]; exact if_pos (by rw [List.length_drop]; omega))
              have hne : ((a : Int) == (xl.length : Int)) = true := by rw [beq_iff_eq]; omega
              go_wp2
              go_ret2
              rw [HEND.out]
              exact ⟨HKW.out.trans HK.out fun _ _ h => h, _, rfl, own_low HOWN.out HKW.out.size⟩
            · have HEND : Hid (tokEnd (tokGo i (xl.drop 4)) = none) := Lib.hid (by rw [HFIN.out]; exact if_neg (by rw [List.length_drop]; omega))
              have hne : ((a : Int) == (xl.length : Int)) = false := by rw [beq_eq_false_iff_ne]; omega
              go_wp2
              go_ret2
              rw [HEND.out]
              exact ⟨HKW.out.trans HK.out fun _ _ h => h, rfl⟩
  · have hp : tokensP xk xl = some [] := by unfold tokensP; rw [if_pos hk]
    rw [hp]
    clear hp
    go_enter Tryz.func33, Tryz.ntmps33
    go_wp2
    go_ret2
    exact ⟨(Kept.refl noBlock w).alloc _, _, rfl, World.ownsRow_nil _ _ _ _⟩
end Go.Proofs.YtdcdefkloibfnaaGreatDoor
namespace Go.Proofs.YtdcdefkloibfnaaGreatDoor
set_option linter.unusedVariables false
open Go.RowKit

set_option maxHeartbeats 1000000 in
set_option maxRecDepth 100000 in
theorem x3Text_at (xk : Int) (xl : List UInt8) (w : World) :
    Calls Tryz.prog 31 #[.agg #[.int .i64 xk, .string (bS xl)]] w fun e w' => e = .returned (.string (bS (textP (xk, xl)))) ∧ Kept noBlock w w' := by
  by_cases hk : xk = 2
  · subst hk
    go_enter Tryz.func31, Tryz.ntmps31
    go_wp2
    go_ret
    exact ⟨rfl, (Kept.refl noBlock w).alloc _⟩
  · have e : textP (xk, xl) = [] := by unfold textP; simp [hk]
    have hk2 : (xk == 2) = false := by rw [beq_eq_false_iff_ne]; exact hk
    rw [e]
    clear e
    go_enter Tryz.func31, Tryz.ntmps31
    go_wp2
    go_ret
    exact ⟨rfl, (Kept.refl noBlock w).alloc _⟩
end Go.Proofs.YtdcdefkloibfnaaGreatDoor
namespace Go.Proofs.YtdcdefkloibfnaaGreatDoor
set_option linter.unusedVariables false
open Go.RowKit

/-- A value of the reference's. -/
def xvC (x : Vl) : List Value := [.int .i64 x.1, .string (bS x.2)]
/-- A row. -/
structure XR where
  a : Option Addr
  n : Nat
  c : Nat
  vs : List Vl
/-- A table. -/
structure XT where
  cnt : Int
  ca : Option Addr
  cn : Nat
  cc : Nat
  more : Bool
  sk : Int
  st : ByteArray
  ra : Option Addr
  rn : Nat
  rc : Nat
  cols : List CV
  rows : List XR
def XT.v (t : XT) : Value := .agg #[.int .i64 t.cnt, .slice t.ca t.cn t.cc, .bool t.more, .int .i64 t.sk, .string t.st, .slice t.ra t.rn t.rc]
def XT.names (t : XT) : List ByteArray := t.cols.map (·.name)
def XT.vals (t : XT) : List (List Vl) := t.rows.map (·.vs)
def XRAt (W : World) (B : Nat) (r : XR) : Prop := r.vs.length = r.n ∧ Lo W B 2 (.slice r.a r.n r.c) r.n (r.vs.flatMap xvC)
/-- A table in memory, below block B. -/
structure XTAt (W : World) (B : Nat) (t : XT) : Prop where
  cl : t.cols.length = t.cn
  cs : Lo W B 8 (.slice t.ca t.cn t.cc) t.cn (t.cols.flatMap cvC)
  rl : t.rows.length = t.rn
  rs : Lo W B 1 (.slice t.ra t.rn t.rc) t.rn (t.rows.map fun r => .slice r.a r.n r.c)
  rr : ∀ r ∈ t.rows, XRAt W B r
section
variable {W W' : World} {B B' : Nat} {S : Nat → Prop} {t : XT}
theorem XRAt.kept {r : XR} (h : XRAt W B r) (hk : Kept S W W') (hS : ∀ k, k < B → ¬ S k) : XRAt W' B r := ⟨h.1, Lo.kept h.2 hk hS⟩
theorem XTAt.kept (h : XTAt W B t) (hk : Kept S W W') (hS : ∀ k, k < B → ¬ S k) : XTAt W' B t := ⟨h.cl, Lo.kept h.cs hk hS, h.rl, Lo.kept h.rs hk hS, fun r hr => (h.rr r hr).kept hk hS⟩
theorem XTAt.keptN (h : XTAt W B t) (hk : Kept noBlock W W') : XTAt W' B t := h.kept hk fun _ _ e => e
theorem XTAt.up (h : XTAt W B t) (hb : B ≤ B') : XTAt W B' t := ⟨h.cl, h.cs.any fun _ _ _ e => Nat.lt_of_lt_of_le e hb, h.rl, h.rs.any fun _ _ _ e => Nat.lt_of_lt_of_le e hb, fun r hr => ⟨(h.rr r hr).1, (h.rr r hr).2.any fun _ _ _ e => Nat.lt_of_lt_of_le e hb⟩⟩
end
/-- Bounds on a table. -/
structure XTOk (t : XT) : Prop where
  cn : t.cn ≤ 1000000
  rn : t.rn ≤ 100000
  row : ∀ r ∈ t.rows, r.n ≤ 1000000
  val : ∀ r ∈ t.rows, ∀ x ∈ r.vs, x.2.length ≤ 1000
end Go.Proofs.YtdcdefkloibfnaaGreatDoor
namespace Go.Proofs.YtdcdefkloibfnaaGreatDoor
set_option linter.unusedVariables false
open Go.RowKit

theorem c10sT : SlT Tryz.prog 38 107 (.agg #[.string noStr, .string noStr, .string noStr, .int .u16 0, .string noStr, .string noStr, .slice none 0 0, .slice none 0 0]) 8 136 := ⟨Tryz.underlying38, by kernel_rfl, rfl, by decide, by decide⟩
theorem v02ssT : SlT Tryz.prog 41 108 (.slice none 0 0) 1 24 := ⟨Tryz.underlying41, by kernel_rfl, rfl, by decide, by decide⟩
theorem v02sT : SlT Tryz.prog 108 40 (.agg #[.int .i64 0, .string noStr]) 2 24 := ⟨Tryz.underlying108, by kernel_rfl, rfl, by decide, by decide⟩
theorem xcol_at {w : World} {ok : Nat → TypeId → Prop} {v : Value} {L : List CV} {n : Nat} (h : SlK w ok 8 v n (L.flatMap cvC)) {i : Nat} {x : CV} (hi : L[i]? = some x) :
    ∃ g off, (∀ kd w', (Instr.indexAt 38 v (.int kd (i : Int))).run Tryz.prog w' = .ok (.pointer (some ⟨g, off, none⟩)) w') ∧ w.cell? ⟨g, off + 2, none⟩ = some (.string x.name) := by
  have hlt : i < n := by
    have h1 := (List.getElem?_eq_some_iff.1 hi).1
    have h2 := h.len
    rw [flat_len (k := 8) (fun _ => rfl) L] at h2
    omega
  obtain ⟨g, off, h1, h2, h4, h3⟩ := h.run_index c10sT (i := (i : Int)) (k := i) rfl hlt
  exact ⟨g, off, h1, h3 2 _ (by rw [flat_get (k := 8) (fun _ => rfl) L i 2 x hi (by decide)]; rfl)⟩
theorem xrow_at {w : World} {ok : Nat → TypeId → Prop} {v : Value} {L : List XR} {n : Nat} (h : SlK w ok 1 v n (L.map fun r => .slice r.a r.n r.c)) {i : Nat} {x : XR} (hi : L[i]? = some x) :
    ∃ g off, (∀ kd w', (Instr.indexAt 41 v (.int kd (i : Int))).run Tryz.prog w' = .ok (.pointer (some ⟨g, off, none⟩)) w') ∧ w.cell? ⟨g, off, none⟩ = some (.slice x.a x.n x.c) := by
  have hlt : i < n := by
    have h1 := (List.getElem?_eq_some_iff.1 hi).1
    have h2 := h.len
    rw [List.length_map] at h2
    omega
  obtain ⟨g, off, h1, h2, h4, h3⟩ := h.run_index v02ssT (i := (i : Int)) (k := i) rfl hlt
  exact ⟨g, off, h1, h3 0 _ (by rw [Nat.mul_one, Nat.add_zero, List.getElem?_map, hi]; rfl)⟩
theorem xval_at {w : World} {ok : Nat → TypeId → Prop} {v : Value} {L : List Vl} {n : Nat} (h : SlK w ok 2 v n (L.flatMap xvC)) {i : Nat} {x : Vl} (hi : L[i]? = some x) :
    ∃ g off, (∀ kd w', (Instr.indexAt 108 v (.int kd (i : Int))).run Tryz.prog w' = .ok (.pointer (some ⟨g, off, none⟩)) w') ∧ w.cell? ⟨g, off, none⟩ = some (.int .i64 x.1) ∧ w.cell? ⟨g, off + 1, none⟩ = some (.string (bS x.2)) := by
  have hlt : i < n := by
    have h1 := (List.getElem?_eq_some_iff.1 hi).1
    have h2 := h.len
    rw [flat_len (k := 2) (fun _ => rfl) L] at h2
    omega
  obtain ⟨g, off, h1, h2, h4, h3⟩ := h.run_index v02sT (i := (i : Int)) (k := i) rfl hlt
  exact ⟨g, off, h1, h3 0 _ (by rw [flat_get (k := 2) (fun _ => rfl) L i 0 x hi (by decide)]; rfl), h3 1 _ (by rw [flat_get (k := 2) (fun _ => rfl) L i 1 x hi (by decide)]; rfl)⟩
theorem x3Cell_ret {W : World} {T : Array Value} {M : Nat} {u v : Value} {R : Ending → World → Prop} (h6 : T.getD 6 undef = .pointer (some ⟨M, 0, none⟩)) (d0 : W.cell? ⟨M, 0, none⟩ = some u) (d1 : W.cell? ⟨M, 1, none⟩ = some v)
    (hR : R (.returned (.agg #[u, v])) W) : bodyPost Tryz.prog Tryz.f32 R .ret { tmps := T, defers := [] } W := by
  have h6' : T[6]?.getD undef = .pointer (some ⟨M, 0, none⟩) := by simpa using h6
  exact bodyPost_ret (v := .agg #[u, v]) (by simp [results, Tryz.results32, go_sem, h6', d0, d1]) rfl hR
set_option maxHeartbeats 2000000 in
set_option maxRecDepth 100000 in
theorem x3Cell_at {w : World} {B : Nat} {t : XT} (h : XTAt w B t) (hcn : t.cn ≤ 1000000) (hrn : t.rn ≤ 1000000) {k : Nat} {r : XR} (hr : t.rows[k]? = some r) (hrl : r.n ≤ 1000000) (name : ByteArray) :
    Calls Tryz.prog 32 #[t.v, .int .i64 k, .string name] w fun e w' => e = .returned (.agg #[.int .i64 (cellP t.names r.vs name).1, .string (bS (cellP t.names r.vs name).2)]) ∧ Kept noBlock w w' := by
  obtain ⟨cnt, ca, cn, cc, more, sk, st, ra, rn, rc, cols, rows⟩ := t
  obtain ⟨hcl, hcs, hrlen, hrs, hrr⟩ := h
  obtain ⟨hrvl, hrv⟩ := hrr r (List.mem_of_getElem? hr)
  simp only at hr hcn hrn hcl hcs hrlen hrs
  have hkl : k < rn := by have h1 := (List.getElem?_eq_some_iff.1 hr).1; omega
  have b1 : Blk ((w.alloc (.cells #[.int .i64 cnt, .slice ca cn cc, .bool more, .int .i64 sk, .string st, .slice ra rn rc] 43)).alloc (.cells #[.int .i64 0, .string ⟨#[]⟩] 40)) w.heap.size 43 #[.int .i64 cnt, .slice ca cn cc, .bool more, .int .i64 sk, .string st, .slice ra rn rc] := (Blk.new w 43 _).alloc _
  have b2 : Blk ((w.alloc (.cells #[.int .i64 cnt, .slice ca cn cc, .bool more, .int .i64 sk, .string st, .slice ra rn rc] 43)).alloc (.cells #[.int .i64 0, .string ⟨#[]⟩] 40)) (w.heap.size + 1) 40 #[.int .i64 0, .string noStr] := Blk.new_at _ _ _ (by rw [sz_alloc])
  have hk2 : Kept noBlock w ((w.alloc (.cells #[.int .i64 cnt, .slice ca cn cc, .bool more, .int .i64 sk, .string st, .slice ra rn rc] 43)).alloc (.cells #[.int .i64 0, .string ⟨#[]⟩] 40)) := ((Kept.refl noBlock w).alloc _).alloc _
  have q1 := b1.cell 1
  have q5 := b1.cell 5
  have f0 := b2.frozen 0
  have f1 := b2.frozen 1
  have q20 := b2.cell 0
  have q21 := b2.cell 1
  simp only [List.getElem?_toArray, List.getElem?_cons_succ, List.getElem?_cons_zero] at q1 q5 q20 q21
  obtain ⟨gr, ofr, hidxr, hrc0⟩ := xrow_at (SlK.keptNone hrs hk2) hr
  have hlc := hcs.run_len c10sT
  have hlr := hrs.run_len v02ssT
  have hlv := hrv.run_len v02sT
  have HCS := Lib.hid (SlK.keptNone hcs hk2)
  have HRV := Lib.hid (SlK.keptNone hrv hk2)
  have HCL := Lib.hid hcl
  have HRVL := Lib.hid hrvl
  have HB2 := Lib.hid b2
  have HW := Lib.hid (show ∀ u v : Value, Kept noBlock w ((((w.alloc (.cells #[.int .i64 cnt, .slice ca cn cc, .bool more, .int .i64 sk, .string st, .slice ra rn rc] 43)).alloc (.cells #[.int .i64 0, .string ⟨#[]⟩] 40)).setCell ⟨w.heap.size + 1, 0, none⟩ u).setCell ⟨w.heap.size + 1, 1, none⟩ v) from fun u v => (hk2.setCell (fun hi => by have : w.heap.size + 1 < w.heap.size := hi; omega) _).setCell (fun hi => by have : w.heap.size + 1 < w.heap.size := hi; omega) _)
  have fin : Hid (∀ (x : Vl) (T : Array Value), T.getD 6 undef = .pointer (some ⟨w.heap.size + 1, 0, none⟩) → cellP (cols.map (·.name)) r.vs name = x →
      bodyPost Tryz.prog Tryz.f32 (fun e w' => e = .returned (.agg #[.int .i64 (cellP (cols.map (·.name)) r.vs name).1, .string (bS (cellP (cols.map (·.name)) r.vs name).2)]) ∧ Kept noBlock w w') .ret { tmps := T, defers := [] }
        ((((w.alloc (.cells #[.int .i64 cnt, .slice ca cn cc, .bool more, .int .i64 sk, .string st, .slice ra rn rc] 43)).alloc (.cells #[.int .i64 0, .string ⟨#[]⟩] 40)).setCell ⟨w.heap.size + 1, 0, none⟩ (.int .i64 x.1)).setCell ⟨w.heap.size + 1, 1, none⟩ (.string (bS x.2)))) := Lib.hid fun x T h6 hx => by
    subst hx
    have q := (HB2.out.set_ 0 (.int .i64 (cellP (cols.map (·.name)) r.vs name).1)).set_ 1 (.string (bS (cellP (cols.map (·.name)) r.vs name).2))
    have d0 := q.cell 0
    have d1 := q.cell 1
    simp at d0 d1
    exact x3Cell_ret h6 d0 d1 ⟨rfl, HW.out _ _⟩
  clear hcl hcs hrlen hrs hrr hrvl hrv hr b1 b2 hk2
  unfold XT.v XT.names
  simp only []
  generalize hW2 : ((w.alloc (.cells #[.int .i64 cnt, .slice ca cn cc, .bool more, .int .i64 sk, .string st, .slice ra rn rc] 43)).alloc (.cells #[.int .i64 0, .string ⟨#[]⟩] 40)) = W2 at *
  have HW2 := Lib.hid hW2
  clear hW2
  go_enter Tryz.func32, Tryz.ntmps32
  go_wp2_with fail
  rw [HW2.out]
  go_loopg [7] cn (fun j vi wr => ∃ i : Nat, i + j = cn ∧ vi = .int .i64 i ∧ (∀ j x, cols[j]? = some x → j < i → x.name ≠ name) ∧ wr = W2)
  case atStart => exact ⟨0, by omega, rfl, fun _ _ _ h => by omega, rfl⟩
  case round =>
    obtain ⟨i, hij, rfl, hno, rfl⟩ := hrel
    have HIJ := Lib.hid hij
    have HNO := Lib.hid hno
    by_cases hlt : i < cn
    · obtain ⟨x, hx⟩ : ∃ x, cols[i]? = some x := ⟨_, List.getElem?_eq_getElem (by rw [HCL.out]; exact hlt)⟩
      obtain ⟨g, off, hidx, c2⟩ := xcol_at HCS.out hx
      by_cases hn : x.name = name
      · have hf : cols.findIdx (fun c => decide (c.name = name)) = i := by
          rw [List.findIdx_eq (List.getElem?_eq_some_iff.1 hx).1]
          refine ⟨?_, fun j hj => ?_⟩
          · have := (List.getElem?_eq_some_iff.1 hx).2
            rw [this]
            exact decide_eq_true hn
          · exact decide_eq_false (hno j _ (List.getElem?_eq_getElem _) hj)
        have hb : (x.name.toList == name.toList) = true := by rw [hn]; exact strEq_self _
        by_cases hrs : i < r.n
        · obtain ⟨v, hv⟩ : ∃ v, r.vs[i]? = some v := ⟨_, List.getElem?_eq_getElem (by rw [HRVL.out]; exact hrs)⟩
          obtain ⟨gv, ofv, hidxv, v0, v1⟩ := xval_at HRV.out hv
          have HX : Hid (cellP (cols.map (·.name)) r.vs name = v) := Lib.hid (cellP_some (by rw [names_idx, List.length_map, hf, HCL.out]; exact hlt) (by rw [names_idx, hf]; exact hv))
          clear hij hno hx hf hv hn
          go_wp2
          exact fin.out v _ rfl HX.out
        · have HX : Hid (cellP (cols.map (·.name)) r.vs name = (0, [])) := Lib.hid (cellP_short (by rw [names_idx, hf, HRVL.out]; omega))
          clear hij hno hx hf hn
          go_wp2
          exact fin.out (0, []) _ rfl HX.out
      · have hb : (x.name.toList == name.toList) = false := strEq_ne hn
        have HN := Lib.hid hn
        have HX := Lib.hid hx
        clear hij hno hx hn
        go_wp2_with fail
        go_roundg (cn - (i + 1))
        case measure => have := HIJ.out; omega
        case rel =>
          refine ⟨i + 1, by have := HIJ.out; omega, by go_num, fun j y hy hjk => ?_, rfl⟩
          by_cases he : j = i
          · subst he
            rw [HX.out] at hy
            cases hy
            exact HN.out
          · exact HNO.out j y hy (by omega)
    · obtain rfl : i = cn := by omega
      have hf : cols.findIdx (fun c => decide (c.name = name)) = cols.length := by
        refine List.findIdx_eq_length.2 fun x hx => ?_
        obtain ⟨j, hj⟩ := List.getElem?_of_mem hx
        exact decide_eq_false (hno j x hj (by have := (List.getElem?_eq_some_iff.1 hj).1; have := HCL.out; omega))
      have HX : Hid (cellP (cols.map (·.name)) r.vs name = (0, [])) := Lib.hid (cellP_none (by rw [names_idx, hf, List.length_map]))
      clear hij hno hf
      go_wp2
      exact fin.out (0, []) _ rfl HX.out
end Go.Proofs.YtdcdefkloibfnaaGreatDoor
namespace Go.Proofs.YtdcdefkloibfnaaGreatDoor
set_option linter.unusedVariables false
open Go.RowKit

theorem bS_app (a b : List UInt8) : bS a ++ bS b = bS (a ++ b) := by
  apply ByteArray.ext
  simp [bS]
/-- The ten digits. -/
abbrev decS10 : ByteArray := ⟨#[48, 49, 50, 51, 52, 53, 54, 55, 56, 57]⟩
theorem dig_all : ∀ n : Fin 10, decS10.extract n.val (n.val + 1) = bS [UInt8.ofNat (48 + n.val)] := by decide +kernel
theorem hex_ext : ∀ n : Fin 16, hexS.extract n.val (n.val + 1) = bS [hexD n.val] := by decide +kernel
theorem cut_at {s : ByteArray} (n : Nat) (hn : n < s.size) {r : ByteArray} (hr : s.extract n (n + 1) = r) (i j : Int) (hi : i = (n : Int)) (hj : j = (n : Int) + 1) (w : World) :
    (Instr.sliceAt 9 (.string s) (some (.int .i64 i)) (some (.int .i64 j)) none).run Tryz.prog w = .ok (.string r) w := by
  subst hi hj hr
  have h1 : ((n : Int)).toNat = n := by omega
  have h2 : ((n : Int) + 1).toNat = n + 1 := by omega
  have h3 : n + 1 ≤ s.size := by omega
  simp [Instr.sliceAt, run_underlying Tryz.underlying9, Instr.slice, Instr.sliceBounds, Instr.sliceBound, asIntOf]
  intro h; omega
/-- The name of four bytes, one behind the other. -/
def dotF (l : List UInt8) : List UInt8 := (l.foldl (fun (p : Nat × List UInt8) b => (p.1 + 1, (if p.1 = 0 then p.2 else p.2 ++ [46]) ++ dec3 b.toNat)) (0, [])).2
theorem dotF_cnt (l : List UInt8) : (l.foldl (fun (p : Nat × List UInt8) b => (p.1 + 1, (if p.1 = 0 then p.2 else p.2 ++ [46]) ++ dec3 b.toNat)) (0, [])).1 = l.length := by
  have key : ∀ (l : List UInt8) (p : Nat × List UInt8), (l.foldl (fun (p : Nat × List UInt8) b => (p.1 + 1, (if p.1 = 0 then p.2 else p.2 ++ [46]) ++ dec3 b.toNat)) p).1 = p.1 + l.length := by
    intro l
    induction l with
    | nil => intro p; rfl
    | cons a l ih => intro p; rw [List.foldl_cons, ih]; simp; omega
  rw [key]; simp
theorem dotF_snoc (l : List UInt8) (b : UInt8) : dotF (l ++ [b]) = (if l.length = 0 then dotF l else dotF l ++ [46]) ++ dec3 b.toNat := by
  unfold dotF
  rw [List.foldl_append]
  simp only [List.foldl_cons, List.foldl_nil]
  rw [dotF_cnt]
theorem dec3_len3 (n : Nat) : (dec3 n).length ≤ 3 := by
  unfold dec3
  split <;> split <;> simp
theorem dotF_len (l : List UInt8) : (dotF l).length ≤ 4 * l.length := by
  have key : ∀ (l : List UInt8) (p : Nat × List UInt8), (l.foldl (fun (p : Nat × List UInt8) b => (p.1 + 1, (if p.1 = 0 then p.2 else p.2 ++ [46]) ++ dec3 b.toNat)) p).2.length ≤ p.2.length + 4 * l.length := by
    intro l
    induction l with
    | nil => intro p; simp
    | cons a l ih =>
      intro p
      rw [List.foldl_cons]
      refine Nat.le_trans (ih _) ?_
      have := dec3_len3 a.toNat
      have h2 : (if p.1 = 0 then p.2 else p.2 ++ [46]).length ≤ p.2.length + 1 := by split <;> simp
      simp only [List.length_append, List.length_cons]
      omega
  have := key l (0, [])
  unfold dotF
  simpa using this
theorem dotF_4 {l : List UInt8} (h : l.length = 4) : dotF l = nameP l := by
  obtain ⟨a, b, c, d, rfl⟩ := four_of h
  rw [name4]
  unfold dotF
  simp
end Go.Proofs.YtdcdefkloibfnaaGreatDoor
namespace Go.Proofs.YtdcdefkloibfnaaGreatDoor
set_option linter.unusedVariables false
open Go.RowKit

theorem str_idx {s : ByteArray} {i : Nat} {x : UInt8} (hx : s.data.toList[i]? = some x) (w : World) : (Instr.index 9 (.string s) (.int .i64 (i : Int))).run Tryz.prog w = .ok (.int .u8 (x.toNat : Int)) w := by
  have hlt : i < s.size := (List.getElem?_eq_some_iff.1 hx).1
  rw [run_index_string w 9 s .i64 (i : Int) Tryz.underlying9, dif_pos ⟨by omega, by omega⟩]
  have he : s[((i : Int)).toNat]'(by omega) = x := by
    have := (List.getElem?_eq_some_iff.1 hx).2
    rw [← this]; rfl
  rw [he]
set_option maxHeartbeats 4000000 in
set_option maxRecDepth 100000 in
theorem x3Name_4 {s : ByteArray} (h4 : s.size = 4) (w : World) : Calls Tryz.prog 16 #[.string s] w fun e w' => e = .returned (.string (bS (nameP s.data.toList))) ∧ w' = w := by
  have hl : s.data.toList.length = 4 := h4
  have HF := Lib.hid (dotF_4 hl)
  have hsz : ((s.size : Nat) : Int) = 4 := by omega
  go_enter Tryz.func16, Tryz.ntmps16
  go_wp2_with fail
  go_loopg [3, 4] 4 (fun j vo vi wr => ∃ i : Nat, i + j = 4 ∧ vi = .int .i64 i ∧ vo = .string (bS (dotF (s.data.toList.take i))) ∧ wr = w)
  case atStart => exact ⟨0, by omega, rfl, rfl, rfl⟩
  case round =>
    obtain ⟨i, hij, rfl, rfl, rfl⟩ := hrel
    have HIJ := Lib.hid hij
    clear hij
    by_cases hlt : i < 4
    · obtain ⟨x, hx⟩ : ∃ x, s.data.toList[i]? = some x := ⟨_, List.getElem?_eq_getElem (by omega)⟩
      have hq := str_idx hx
      have hxb := x.toNat_lt
      have HST : Hid (dotF (s.data.toList.take (i + 1)) = (if i = 0 then dotF (s.data.toList.take i) else dotF (s.data.toList.take i) ++ [46]) ++ dec3 x.toNat) := Lib.hid (by
        rw [List.take_add_one, hx]
        rw [show (some x).toList = [x] from rfl, dotF_snoc, List.length_take, hl, Nat.min_eq_left (by omega)])
      clear hx
      have hDl : (dotF (s.data.toList.take i)).length ≤ 4 * i := by
        have := dotF_len (s.data.toList.take i)
        rw [List.length_take, hl, Nat.min_eq_left (by omega)] at this
        exact this
      have hDs : (bS (dotF (s.data.toList.take i))).size ≤ 16 := by show (dotF _).length ≤ 16; omega
      generalize dotF (s.data.toList.take i) = D at *
      clear hDl
      generalize x.toNat = n at *
      have x1 : n / 100 < 10 := by omega
      have x2 : n / 10 % 10 < 10 := by omega
      have x3 : n % 10 < 10 := by omega
      have HE1 := Lib.hid (dig_all ⟨n / 100, x1⟩)
      have HE2 := Lib.hid (dig_all ⟨n / 10 % 10, x2⟩)
      have HE3 := Lib.hid (dig_all ⟨n % 10, x3⟩)
      by_cases h0 : 0 < i
      · skip
        by_cases h100 : 100 ≤ n
        · skip
          have HEQ : Hid (bS D ++ ⟨#[46]⟩ ++ decS10.extract (n / 100) (n / 100 + 1) ++ decS10.extract (n / 10 % 10) (n / 10 % 10 + 1) ++ decS10.extract (n % 10) (n % 10 + 1) = bS ((D ++ [46]) ++ dec3 n)) := Lib.hid (by
            have he1 := HE1.out
            have he2 := HE2.out
            have he3 := HE3.out
            simp only [] at he1 he2 he3
            rw [he1, he2, he3, show (⟨#[46]⟩ : ByteArray) = bS [46] from rfl]
            simp only [bS_app]
            unfold dec3
            rw [if_pos h100, if_pos (by omega)]
            simp)
          rw [if_neg (by omega)] at HST
          have HFIN := Lib.hid (HEQ.out.trans (congrArg bS HST.out.symm))
          go_wp2_with fail
          go_roundg (4 - (i + 1))
          case measure => have := HIJ.out; omega
          case rel => exact ⟨i + 1, by have := HIJ.out; omega, by go_num, by rw [← HFIN.out], rfl⟩
        · by_cases h10 : 10 ≤ n
          · skip
            have HEQ : Hid (bS D ++ ⟨#[46]⟩ ++ decS10.extract (n / 10 % 10) (n / 10 % 10 + 1) ++ decS10.extract (n % 10) (n % 10 + 1) = bS ((D ++ [46]) ++ dec3 n)) := Lib.hid (by
              have he2 := HE2.out
              have he3 := HE3.out
              simp only [] at he2 he3
              rw [he2, he3, show (⟨#[46]⟩ : ByteArray) = bS [46] from rfl]
              simp only [bS_app]
              unfold dec3
              rw [if_neg h100, if_pos h10]
              simp)
            rw [if_neg (by omega)] at HST
            have HFIN := Lib.hid (HEQ.out.trans (congrArg bS HST.out.symm))
            go_wp2_with fail
            go_roundg (4 - (i + 1))
            case measure => have := HIJ.out; omega
            case rel => exact ⟨i + 1, by have := HIJ.out; omega, by go_num, by rw [← HFIN.out], rfl⟩
          · skip
            have HEQ : Hid (bS D ++ ⟨#[46]⟩ ++ decS10.extract (n % 10) (n % 10 + 1) = bS ((D ++ [46]) ++ dec3 n)) := Lib.hid (by
              have he3 := HE3.out
              simp only [] at he3
              rw [he3, show (⟨#[46]⟩ : ByteArray) = bS [46] from rfl]
              simp only [bS_app]
              unfold dec3
              rw [if_neg h100, if_neg h10]
              simp)
            rw [if_neg (by omega)] at HST
            have HFIN := Lib.hid (HEQ.out.trans (congrArg bS HST.out.symm))
            go_wp2_with fail
            go_roundg (4 - (i + 1))
            case measure => have := HIJ.out; omega
            case rel => exact ⟨i + 1, by have := HIJ.out; omega, by go_num, by rw [← HFIN.out], rfl⟩
      · skip
        by_cases h100 : 100 ≤ n
        · skip
          have HEQ : Hid (bS D ++ decS10.extract (n / 100) (n / 100 + 1) ++ decS10.extract (n / 10 % 10) (n / 10 % 10 + 1) ++ decS10.extract (n % 10) (n % 10 + 1) = bS (D ++ dec3 n)) := Lib.hid (by
            have he1 := HE1.out
            have he2 := HE2.out
            have he3 := HE3.out
            simp only [] at he1 he2 he3
            rw [he1, he2, he3]
            simp only [bS_app]
            unfold dec3
            rw [if_pos h100, if_pos (by omega)]
            simp)
          rw [if_pos (by omega)] at HST
          have HFIN := Lib.hid (HEQ.out.trans (congrArg bS HST.out.symm))
          go_wp2_with fail
          go_roundg (4 - (i + 1))
          case measure => have := HIJ.out; omega
          case rel => exact ⟨i + 1, by have := HIJ.out; omega, by go_num, by rw [← HFIN.out], rfl⟩
        · by_cases h10 : 10 ≤ n
          · skip
            have HEQ : Hid (bS D ++ decS10.extract (n / 10 % 10) (n / 10 % 10 + 1) ++ decS10.extract (n % 10) (n % 10 + 1) = bS (D ++ dec3 n)) := Lib.hid (by
              have he2 := HE2.out
              have he3 := HE3.out
              simp only [] at he2 he3
              rw [he2, he3]
              simp only [bS_app]
              unfold dec3
              rw [if_neg h100, if_pos h10]
              simp)
            rw [if_pos (by omega)] at HST
            have HFIN := Lib.hid (HEQ.out.trans (congrArg bS HST.out.symm))
            go_wp2_with fail
            go_roundg (4 - (i + 1))
            case measure => have := HIJ.out; omega
            case rel => exact ⟨i + 1, by have := HIJ.out; omega, by go_num, by rw [← HFIN.out], rfl⟩
          · skip
            have HEQ : Hid (bS D ++ decS10.extract (n % 10) (n % 10 + 1) = bS (D ++ dec3 n)) := Lib.hid (by
              have he3 := HE3.out
              simp only [] at he3
              rw [he3]
              simp only [bS_app]
              unfold dec3
              rw [if_neg h100, if_neg h10]
              simp)
            rw [if_pos (by omega)] at HST
            have HFIN := Lib.hid (HEQ.out.trans (congrArg bS HST.out.symm))
            go_wp2_with fail
            go_roundg (4 - (i + 1))
            case measure => have := HIJ.out; omega
            case rel => exact ⟨i + 1, by have := HIJ.out; omega, by go_num, by rw [← HFIN.out], rfl⟩
    · obtain rfl : i = 4 := by have := HIJ.out; omega
      have ht : s.data.toList.take 4 = s.data.toList := List.take_of_length_le (by omega)
      rw [ht, HF.out]
      go_wp2
      go_ret
      exact ⟨rfl, rfl⟩
end Go.Proofs.YtdcdefkloibfnaaGreatDoor
namespace Go.Proofs.YtdcdefkloibfnaaGreatDoor
set_option linter.unusedVariables false
open Go.RowKit

set_option maxHeartbeats 4000000 in
set_option maxRecDepth 100000 in
theorem x3Name_16 {s : ByteArray} (h16 : s.size = 16) (w : World) : Calls Tryz.prog 16 #[.string s] w fun e w' => e = .returned (.string (bS (nameP s.data.toList))) ∧ ∃ k, w' = w.drewN k := by
  have hl : s.data.toList.length = 16 := h16
  have HF := Lib.hid (name16 hl)
  have hsz : ((s.size : Nat) : Int) = 16 := by omega
  go_enter Tryz.func16, Tryz.ntmps16
  go_wp2_with fail
  go_loopg [3, 6] 16 (fun j vo vi wr => ∃ i : Nat, i + j = 16 ∧ vi = .int .i64 i ∧ vo = .string (bS ((s.data.toList.take i).flatMap hex2)) ∧ ∃ k, wr = w.drewN k)
  case atStart => exact ⟨0, by omega, rfl, rfl, 0, rfl⟩
  case round =>
    obtain ⟨i, hij, rfl, rfl, kd, rfl⟩ := hrel
    have HIJ := Lib.hid hij
    clear hij
    by_cases hlt : i < 16
    · obtain ⟨x, hx⟩ : ∃ x, s.data.toList[i]? = some x := ⟨_, List.getElem?_eq_getElem (by omega)⟩
      have hq := str_idx hx
      have hxb := x.toNat_lt
      have HST : Hid ((s.data.toList.take (i + 1)).flatMap hex2 = (s.data.toList.take i).flatMap hex2 ++ [hexD (x.toNat / 16), hexD (x.toNat % 16)]) := Lib.hid (by
        rw [List.take_add_one, hx]
        rw [show (some x).toList = [x] from rfl, hex2_snoc]; rfl)
      clear hx
      have hDl := hexs_len (s.data.toList.take i)
      have hDs : (bS ((s.data.toList.take i).flatMap hex2)).size ≤ 32 := by
        show ((s.data.toList.take i).flatMap hex2).length ≤ 32
        rw [hDl, List.length_take]; omega
      clear hDl
      generalize (s.data.toList.take i).flatMap hex2 = D at *
      generalize x.toNat = n at *
      have x1 : n / 16 < 16 := by omega
      have x3 : n % 16 < 16 := by omega
      have HEQ : Hid (bS D ++ (hexS.extract (n / 16) (n / 16 + 1) ++ hexS.extract (n % 16) (n % 16 + 1)) = bS (D ++ [hexD (n / 16), hexD (n % 16)])) := Lib.hid (by
        have e1 := hex_ext ⟨n / 16, x1⟩
        have e2 := hex_ext ⟨n % 16, x3⟩
        simp only [] at e1 e2
        rw [e1, e2]
        simp only [bS_app]
        rfl)
      have HFIN := Lib.hid (HEQ.out.trans (congrArg bS HST.out.symm))
      go_wp2_with fail
      go_quiet (fail)
      go_wp2_with fail
      go_roundg (16 - (i + 1))
      case measure => have := HIJ.out; omega
      case rel => exact ⟨i + 1, by have := HIJ.out; omega, by go_num, by rw [← HFIN.out], _, rfl⟩
    · obtain rfl : i = 16 := by have := HIJ.out; omega
      have ht : s.data.toList.take 16 = s.data.toList := List.take_of_length_le (by omega)
      rw [ht, ← HF.out]
      go_wp2
      go_ret
      exact ⟨rfl, _, rfl⟩
set_option maxHeartbeats 1000000 in
set_option maxRecDepth 100000 in
theorem x3Name_odd {s : ByteArray} (h4 : s.size ≠ 4) (h16 : s.size ≠ 16) (w : World) : Calls Tryz.prog 16 #[.string s] w fun e w' => e = .returned (.string (bS (nameP s.data.toList))) ∧ w' = w := by
  have e4 : (((s.size : Nat) : Int) == 4) = false := by rw [beq_eq_false_iff_ne]; omega
  have e16 : (((s.size : Nat) : Int) == 16) = false := by rw [beq_eq_false_iff_ne]; omega
  have hl : s.data.toList.length = s.size := rfl
  have hnm : nameP s.data.toList = [] := by unfold nameP; rw [if_neg (by omega), if_neg (by omega)]
  rw [hnm]
  clear hnm hl h4 h16
  go_enter Tryz.func16, Tryz.ntmps16
  go_wp2
  go_ret
  exact ⟨rfl, rfl⟩
/-- The reference's name. -/
theorem x3Name_at (s : ByteArray) (w : World) : Calls Tryz.prog 16 #[.string s] w fun e w' => e = .returned (.string (bS (nameP s.data.toList))) ∧ ∃ k, w' = w.drewN k := by
  by_cases h4 : s.size = 4
  · exact (x3Name_4 h4 w).mono fun e w' ⟨h, hw⟩ => ⟨h, 0, hw⟩
  by_cases h16 : s.size = 16
  · exact x3Name_16 h16 w
  exact (x3Name_odd h4 h16 w).mono fun e w' ⟨h, hw⟩ => ⟨h, 0, hw⟩
end Go.Proofs.YtdcdefkloibfnaaGreatDoor

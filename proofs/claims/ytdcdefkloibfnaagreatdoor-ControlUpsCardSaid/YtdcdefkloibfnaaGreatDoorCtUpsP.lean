/- ControlUps: its tables and events. -/
import Derived.Test.YtdcdefkloibfnaaGreatDoorMg08
namespace Go.Proofs.YtdcdefkloibfnaaGreatDoor
set_option linter.unusedVariables false
open Go.RowKit

theorem boolsT : SlT Tryz.prog 85 4 (.bool false) 1 1 := ⟨Tryz.underlying85, by kernel_rfl, rfl, by decide, by decide⟩
theorem bool_at {w : World} {ok : Nat → TypeId → Prop} {v : Value} {l : List Bool} {n : Nat} (h : SlK w ok 1 v n (l.map Value.bool)) {i : Nat} {c : Bool} (hi : l[i]? = some c) :
    ∃ g off, (∀ kd w', (Instr.indexAt 85 v (.int kd (i : Int))).run Tryz.prog w' = .ok (.pointer (some ⟨g, off, none⟩)) w') ∧ g < w.heap.size ∧ w.cell? ⟨g, off, none⟩ = some (.bool c) := by
  have hlt : i < n := by
    have h1 := (List.getElem?_eq_some_iff.1 hi).1
    have h2 := h.len
    rw [List.length_map] at h2
    omega
  obtain ⟨g, off, h1, h2, h4, h3⟩ := h.run_index boolsT (i := (i : Int)) (k := i) rfl hlt
  exact ⟨g, off, h1, h2, h3 0 _ (by rw [Nat.mul_one, Nat.add_zero, List.getElem?_map, hi]; rfl)⟩
abbrev awN2 : ByteArray := ⟨#[49, 48, 46, 48, 46, 48, 46, 50]⟩
theorem nm_aw2 : nameP [10, 0, 0, 2] = [49, 48, 46, 48, 46, 48, 46, 50] := by rw [name4]; decide +kernel
abbrev upS2 (b : Bool) : List Ho := [⟨awN, ⟨#[]⟩, ⟨#[]⟩, [], b⟩, ⟨awN2, ⟨#[]⟩, ⟨#[]⟩, [], true⟩]
abbrev upT (N : Nat) : TV2 := ⟨1, adr N, 1, 1, false, 0, none, 0, 0, adr (N + 1 + 1 + 1 + 1 + 1), 2, 2, [colOf cRpc], [⟨adr (N + 1 + 1), 1, 1, [⟨2, adr (N + 1), 4, 4, [10, 0, 0, 1]⟩]⟩, ⟨adr (N + 1 + 1 + 1 + 1), 1, 1, [⟨2, adr (N + 1 + 1 + 1), 4, 4, [10, 0, 0, 2]⟩]⟩]⟩
abbrev upW (w : World) : World := ((((((w.alloc (.cells #[.string ⟨#[]⟩, .string ⟨#[]⟩, .string cRpc, .int .u16 0, .string ⟨#[]⟩, .string ⟨#[]⟩, .slice none 0 0, .slice none 0 0] 90)).alloc
  (.cells #[.int .u8 10, .int .u8 0, .int .u8 0, .int .u8 1] 5)).alloc (.cells #[.int .i64 2, .slice (adr (w.heap.size + 1)) 4 4] 25)).alloc
  (.cells #[.int .u8 10, .int .u8 0, .int .u8 0, .int .u8 2] 5)).alloc (.cells #[.int .i64 2, .slice (adr (w.heap.size + 1 + 1 + 1)) 4 4] 25)).alloc
  (.cells #[.slice (adr (w.heap.size + 1 + 1)) 1 1, .slice (adr (w.heap.size + 1 + 1 + 1 + 1)) 1 1] 91))
theorem upT_at (w : World) : TblAt (upW w) (upW w).heap.size (upT w.heap.size) := by
  have r1 : RowM (upW w) w.heap.size 90 _ := (((((RowM.new w 90 _ (0, 0) rfl).alloc _).alloc _).alloc _).alloc _).alloc _
  have r2 : RowM (upW w) (w.heap.size + 1) 5 _ := ((((RowM.new _ 5 #[.int .u8 10, .int .u8 0, .int .u8 0, .int .u8 1] (0, 0) (by rw [sz_alloc])).alloc _).alloc _).alloc _).alloc _
  have r3 : RowM (upW w) (w.heap.size + 1 + 1) 25 _ := (((RowM.new _ 25 #[.int .i64 2, .slice (adr (w.heap.size + 1)) 4 4] (0, 0) (by rw [sz_alloc, sz_alloc])).alloc _).alloc _).alloc _
  have r4 : RowM (upW w) (w.heap.size + 1 + 1 + 1) 5 _ := ((RowM.new _ 5 #[.int .u8 10, .int .u8 0, .int .u8 0, .int .u8 2] (0, 0) (by rw [sz_alloc, sz_alloc, sz_alloc])).alloc _).alloc _
  have r5 : RowM (upW w) (w.heap.size + 1 + 1 + 1 + 1) 25 _ := (RowM.new _ 25 #[.int .i64 2, .slice (adr (w.heap.size + 1 + 1 + 1)) 4 4] (0, 0) (by rw [sz_alloc, sz_alloc, sz_alloc, sz_alloc])).alloc _
  have r6 : RowM (upW w) (w.heap.size + 1 + 1 + 1 + 1 + 1) 91 _ := RowM.new _ 91 #[.slice (adr (w.heap.size + 1 + 1)) 1 1, .slice (adr (w.heap.size + 1 + 1 + 1 + 1)) 1 1] (0, 0) (by rw [sz_alloc, sz_alloc, sz_alloc, sz_alloc, sz_alloc])
  refine ⟨rfl, r1.lo rfl rfl (show 1 ≤ maxLen by decide), rfl, r6.lo rfl rfl (show 2 ≤ maxLen by decide), fun r hr => ?_⟩
  rcases List.mem_cons.1 hr with rfl | hr
  · refine ⟨rfl, r3.lo rfl rfl (show 1 ≤ maxLen by decide), fun x hx => ?_⟩
    obtain rfl : x = _ := List.mem_singleton.1 hx
    exact ⟨rfl, r2.lo rfl rfl (show 4 ≤ maxLen by decide)⟩
  · obtain rfl : r = _ := List.mem_singleton.1 hr
    refine ⟨rfl, r5.lo rfl rfl (show 1 ≤ maxLen by decide), fun x hx => ?_⟩
    obtain rfl : x = _ := List.mem_singleton.1 hx
    exact ⟨rfl, r4.lo rfl rfl (show 4 ≤ maxLen by decide)⟩
theorem upT_ok (N : Nat) : TblOk (upT N) := ⟨show 1 ≤ 1000000 by decide, show 2 ≤ 100000 by decide, (fun r h => by
    rcases List.mem_cons.1 h with rfl | h
    · exact (show 1 ≤ 1000000 by decide)
    · obtain rfl : r = _ := List.mem_singleton.1 h
      exact (show 1 ≤ 1000000 by decide)), fun r h x hx => by
  rcases List.mem_cons.1 h with rfl | h
  · obtain rfl : x = _ := List.mem_singleton.1 hx
    exact (show 4 ≤ 1000 by decide)
  · obtain rfl : r = _ := List.mem_singleton.1 h
    obtain rfl : x = _ := List.mem_singleton.1 hx
    exact (show 4 ≤ 1000 by decide)⟩
theorem up_row1 (a : List UInt8) (nm : List UInt8) (ha : nameP a = nm) (hne : nm ≠ []) : rowP [cRpc] [((2 : Int), a)] = .host ⟨bS nm, ⟨#[]⟩, ⟨#[]⟩, [], true⟩ := by
  have c1 : cellP [cRpc] [((2 : Int), a)] cRpc = (2, a) := by
    unfold cellP
    rw [show [cRpc].findIdx (fun c => decide (c = cRpc)) = 0 by decide +kernel]
    rfl
  have none : ∀ x, x ≠ cRpc → cellP [cRpc] [((2 : Int), a)] x = (0, []) := fun x hx => by
    refine cellP_none ?_
    rw [List.findIdx_eq_length]
    intro c hc
    obtain rfl := List.mem_singleton.1 hc
    exact decide_eq_false fun e => hx e.symm
  unfold rowP
  rw [c1, none cTok (by decide +kernel), none cDc (by decide +kernel), none cRack (by decide +kernel), show textP ((2 : Int), a) = a from rfl, ha, if_neg hne]
  rfl
theorem up_hosts (N : Nat) : hostsP (upT N).names (upT N).vals = some (upS2 true) := by
  show stepR [cRpc] (stepR [cRpc] (some []) [((2 : Int), ([10, 0, 0, 1] : List UInt8))]) [((2 : Int), ([10, 0, 0, 2] : List UInt8))] = _
  simp only [stepR, up_row1 _ _ nm_aw (by decide), up_row1 _ _ nm_aw2 (by decide)]
  rfl
theorem up_both (N : Nat) : bothP noT (upT N) = some (upS2 true) := by
  rw [both_3 (show hostsP noT.names noT.vals = some [] from rfl) (up_hosts N)]; rfl
theorem up_ref : refNow (viewS []) (upS2 true) = upS2 true := by rfl
theorem up_add : addedP (viewS []) (upS2 true) = [awN, awN2] := by rfl
theorem up_gone : goneP [] (upS2 true) = [] := by rfl
theorem up_refpost {w w' : World} {own : Nat → Prop} {c g : Nat} {e : Ending} (h : CRefPost w own c g ⟨#[100]⟩ 0 [] 5 false 0 (some (upS2 true)) e w') :
    ∃ own' A1 c1 A2 c2, e = .returned (.tuple #[.slice A1 2 c1, .slice A2 0 c2, .int .i64 0]) ∧ CtAt w' own' c g ⟨#[100]⟩ 0 (upS2 true) 5 false 0 ∧ (∀ k, own' k → own k ∨ w.heap.size ≤ k) ∧ Kept own w w' := by
  obtain ⟨own', A1, c1, A2, c2, he, -, -, hc, ho, hk⟩ := h
  rw [up_ref, up_add, up_gone] at he
  rw [up_ref] at hc
  exact ⟨own', A1, c1, A2, c2, he, hc, ho, hk⟩
abbrev nUD (g : Nat) (wh : ByteArray) : NV := ⟨cStatus, wh, adr g, 4, 4, [10, 0, 0, 1], 0, ⟨#[]⟩, ⟨#[]⟩, ⟨#[]⟩, ⟨#[]⟩, none, 0, 0⟩
theorem up_note_tt (g : Nat) : noteP (upS2 true) 5 false 0 (nUD g cUp) 0 = ⟨upS2 true, false, 0, noStr, false, false⟩ := by
  unfold noteP
  rw [if_pos rfl, if_pos (.inl rfl)]
  have hm : markP (upS2 true) (bS (nameP [10, 0, 0, 1])) (decide (cUp = cUp)) = (upS2 true, false) := by rw [nm_aw]; rfl
  rw [hm, if_neg (by decide)]
theorem up_note_tf (g : Nat) : noteP (upS2 true) 5 false 0 (nUD g cDown) 0 = ⟨upS2 false, false, 0, awN, false, true⟩ := by
  unfold noteP
  rw [if_pos rfl, if_pos (.inr rfl)]
  have hm : markP (upS2 true) (bS (nameP [10, 0, 0, 1])) (decide (cDown = cUp)) = (upS2 false, true) := by rw [nm_aw]; rfl
  rw [hm, if_pos rfl, nm_aw]
  rfl
theorem up_note_ft (g : Nat) : noteP (upS2 false) 5 false 0 (nUD g cUp) 0 = ⟨upS2 true, false, 0, awN, true, true⟩ := by
  unfold noteP
  rw [if_pos rfl, if_pos (.inl rfl)]
  have hm : markP (upS2 false) (bS (nameP [10, 0, 0, 1])) (decide (cUp = cUp)) = (upS2 true, true) := by rw [nm_aw]; rfl
  rw [hm, if_pos rfl, nm_aw]
  rfl
theorem up_note_ff (g : Nat) : noteP (upS2 false) 5 false 0 (nUD g cDown) 0 = ⟨upS2 false, false, 0, noStr, false, false⟩ := by
  unfold noteP
  rw [if_pos rfl, if_pos (.inr rfl)]
  have hm : markP (upS2 false) (bS (nameP [10, 0, 0, 1])) (decide (cDown = cUp)) = (upS2 false, false) := by rw [nm_aw]; rfl
  rw [hm, if_neg (by decide)]
abbrev nOdd (g : Nat) (x : UInt8) : NV := ⟨cStatus, cDown, adr g, 4, 4, [10, 0, 0, x], 0, ⟨#[]⟩, ⟨#[]⟩, ⟨#[]⟩, ⟨#[]⟩, none, 0, 0⟩
theorem odd_ne {x y : UInt8} (h : x ≠ y) : bS (nameP [10, 0, 0, x]) ≠ bS (nameP [10, 0, 0, y]) := fun e => by
  have h1 := (name_inj (l := [10, 0, 0, x]) (m := [10, 0, 0, y]) rfl rfl).1 (congrArg (fun b : ByteArray => b.data.toList) e)
  simp at h1
  exact h h1
theorem up_note_odd (g : Nat) (x : UInt8) (b : Bool) (h1 : x ≠ 1) (h2 : x ≠ 2) : noteP (upS2 b) 5 false 0 (nOdd g x) 0 = ⟨upS2 b, false, 0, noStr, false, false⟩ := by
  unfold noteP
  rw [if_pos rfl, if_pos (.inr rfl)]
  have e1 := odd_ne h1
  have e2 := odd_ne h2
  rw [nm_aw] at e1
  rw [nm_aw2] at e2
  have hg : getS (bS (nameP [10, 0, 0, x])) (upS2 b) = none := getS_none.2 fun h hh => by
    rcases List.mem_cons.1 hh with rfl | hh
    · exact fun e => e1 e.symm
    · obtain rfl : h = _ := List.mem_singleton.1 hh
      exact fun e => e2 e.symm
  have hm : markP (upS2 b) (bS (nameP [10, 0, 0, x])) (decide (cDown = cUp)) = (upS2 b, false) := by unfold markP; rw [hg]
  rw [hm, if_neg (by intro h; cases h)]
theorem up_toks (b : Bool) : ∀ o ∈ upS2 b, o.toks.length ≤ 1000000 := fun o ho => by
  rcases List.mem_cons.1 ho with rfl | ho
  · exact Nat.zero_le _
  · obtain rfl : o = _ := List.mem_singleton.1 ho
    exact Nat.zero_le _
theorem up_row (w : World) (x : UInt8) : ∀ xi : Int, (x.toNat : Int) = xi → Sl (w.alloc (.cells #[.int .u8 10, .int .u8 0, .int .u8 0, .int .u8 xi] 5)) 5 1 (.slice (adr w.heap.size) 4 4) 4 (bsC [10, 0, 0, x]) := fun xi h => by
  subst h
  exact Sl.made_at (n := 4) (Blk.new w 5 _) _ rfl rfl (by decide)
theorem up_told {w w' : World} {A : Option Addr} {n c : Nat} {T : List HV} {b : Bool} (h : Told w w' A n c T (upS2 b)) :
    n = 2 ∧ ∃ g0 o0 g1 o1, (∀ kd w2, (Instr.indexAt 31 (.slice A n c) (.int kd 0)).run Tryz.prog w2 = .ok (.pointer (some ⟨g0, o0, none⟩)) w2) ∧ (∀ kd w2, (Instr.indexAt 31 (.slice A n c) (.int kd 1)).run Tryz.prog w2 = .ok (.pointer (some ⟨g1, o1, none⟩)) w2) ∧
      w'.cell? ⟨g0, o0 + 4, none⟩ = some (.bool b) ∧ w'.cell? ⟨g1, o1 + 4, none⟩ = some (.bool true) := by
  have hl : T.length = 2 := by have := congrArg List.length h.abs; rw [List.length_map] at this; exact this
  have hn : n = 2 := h.len.symm.trans hl
  subst hn
  obtain ⟨x, y, rfl⟩ : ∃ x y, T = [x, y] := by
    match T, hl with
    | [x, y], _ => exact ⟨x, y, rfl⟩
  have hab := h.abs
  simp only [List.map_cons, List.map_nil, List.cons.injEq, and_true] at hab
  have hs := Sl.of_own h.row
  obtain ⟨g0, o0, h1, -, -, h3⟩ := hs.run_index hostsT (i := 0) (k := 0) rfl (by decide)
  obtain ⟨g1, o1, h4, -, -, h6⟩ := hs.run_index hostsT (i := 1) (k := 1) rfl (by decide)
  refine ⟨rfl, g0, o0, g1, o1, h1, h4, h3 4 _ ?_, h6 4 _ ?_⟩
  · show some (Value.bool x.up) = _
    rw [show x.up = b from congrArg Ho.up hab.1]
  · show some (Value.bool y.up) = _
    rw [show y.up = true from congrArg Ho.up hab.2]
end Go.Proofs.YtdcdefkloibfnaaGreatDoor

/- control.Name: the name of an address · control.Name: the three cases · hosts: Refresh's first loop: what stands behind i of its rounds (plain law) · hosts: Refresh: what stands in the heap behind i rounds of its first loop · hosts: Refresh's second loop: what stands in the heap behind so many of its rounds · hosts: Refresh: the walk · hosts: All by rising names · hosts, plainly: what the laws say of hosts by rising names. No program is named. -/
import Derived.Test.YtdcdefkloibfnaaGreatDoorMg04
import Derived.Test.YtdcdefkloibfnaaGreatDoorMg01
import Derived.Test.YtdcdefkloibfnaaGreatDoorCtShelf
import Derived.Lib.LaidTab
import Derived.Test.YtdcdefkloibfnaaGreatDoorMg02
import Derived.Maps.RangeRun
namespace Go.Proofs.YtdcdefkloibfnaaGreatDoor
set_option linter.unusedVariables false
open Go.RowKit

/-- What the library's own variables hold. -/
structure Doors (w : World) : Prop where
  errs : Errs w
  tab : Lib.TabIs Tryz.prog w "internal/strconv.uint64pow10" .u64 Lib.pow10Tab
theorem tab_kept {S : Nat → Prop} {w w' : World} (h : Lib.TabIs Tryz.prog w "internal/strconv.uint64pow10" .u64 Lib.pow10Tab) (hk : Kept S w w') (hS : ∀ k, k < w.heap.size → ¬ S k) : Lib.TabIs Tryz.prog w' "internal/strconv.uint64pow10" .u64 Lib.pow10Tab := by
  unfold Lib.TabIs World.var? at *
  cases hg : Tryz.prog.globalNamed "internal/strconv.uint64pow10" with
  | none => rw [hg] at h; cases h
  | some g =>
    rw [hg] at h
    simp only [Option.bind_some] at h ⊢
    cases hh : w.heap[g]? with
    | none => rw [hh] at h; cases h
    | some o =>
      have hlt : g < w.heap.size := (Array.getElem?_eq_some_iff.1 hh).1
      rw [hk.block g hlt (hS g hlt)]
      exact h
theorem errs_kept {S : Nat → Prop} {w w' : World} (h : Errs w) (hk : Kept S w w') (hS : ∀ k, k < w.heap.size → ¬ S k) : Errs w' :=
  h.kept ⟨hk.os, hk.tape, hk.output, hk.size, fun k hl _ => hk.block k hl (hS k hl)⟩
theorem Doors.kept {S : Nat → Prop} {w w' : World} (h : Doors w) (hk : Kept S w w') (hS : ∀ k, k < w.heap.size → ¬ S k) : Doors w' := ⟨errs_kept h.errs hk hS, tab_kept h.tab hk hS⟩
theorem Doors.keptN {w w' : World} (h : Doors w) (hk : Kept noBlock w w') : Doors w' := h.kept hk fun _ _ e => e
/-- The sixteen digits. -/
abbrev hexS : ByteArray := ⟨#[48, 49, 50, 51, 52, 53, 54, 55, 56, 57, 97, 98, 99, 100, 101, 102]⟩
theorem hex_all : ∀ n : Fin 16, ∃ h : n.val < hexS.size, (hexS[n.val]'h) = hexD n.val := by decide +kernel
theorem hex_at (w : World) (n : Nat) (hn : n < 16) (i : Int) (hi : i = (n : Int)) : (Instr.index 9 (.string hexS) (.int .u8 i)).run Tryz.prog w = .ok (.int .u8 ((hexD n).toNat : Int)) w := by
  subst hi
  obtain ⟨h, e⟩ := hex_all ⟨n, hn⟩
  rw [run_index_string w 9 hexS .u8 (n : Int) Tryz.underlying9, dif_pos ⟨by omega, by have : n < hexS.size := h; omega⟩, ← e]
  rfl
theorem hex2_snoc (l : List UInt8) (c : UInt8) : (l ++ [c]).flatMap hex2 = l.flatMap hex2 ++ hex2 c := by rw [List.flatMap_append]; simp
set_option maxHeartbeats 2000000 in
set_option maxRecDepth 100000 in
theorem cDigits_at {w : World} {ok : Nat → TypeId → Prop} {v : Value} {l : List UInt8} {n : Nat} (h : SlK w ok 1 v n (bsC l)) (hn : n ≤ 1000000) :
    Calls Tryz.prog 36 #[v] w fun e w' => e = .returned (.string (bS (l.flatMap hex2))) ∧ Kept noBlock w w' := by
  have hln : l.length = n := by have := h.len; rw [bsC_len] at this; omega
  obtain ⟨A, c, rfl, -, -⟩ := h.shape
  have hlen := h.run_len bytesT
  have H := Lib.hid h
  clear h
  go_enter Tryz.func36, Tryz.ntmps36
  go_wp2_with fail
  go_loopg [3, 8] n (fun j vo vi wr => ∃ i : Nat, i + j = n ∧ vi = .int .i64 i ∧ wr.ownsRow w.heap.size 5 1 vo (2 * i) (bsC ((l.take i).flatMap hex2)) ∧ Kept noBlock w wr)
  case atStart => exact ⟨0, by omega, rfl, World.ownsRow_nil _ _ _ _, Kept.refl _ _⟩
  case round =>
    obtain ⟨i, hij, rfl, hown, hk⟩ := hrel
    have HIJ := Lib.hid hij
    have HO := Lib.hid hown
    have HK := Lib.hid hk
    obtain ⟨A0, c0, rfl, -, -⟩ := (Sl.of_own hown).shape
    by_cases hlt : i < n
    · obtain ⟨x, hx⟩ : ∃ x, l[i]? = some x := ⟨_, List.getElem?_eq_getElem (by omega)⟩
      obtain ⟨g, off, hidx, hgl, hc0⟩ := byte_at (SlK.keptNone H.out hk) hx
      have hnx : (l.take (i + 1)).flatMap hex2 = (l.take i).flatMap hex2 ++ hex2 x := by rw [List.take_add_one, hx]; exact hex2_snoc _ _
      have HNX := Lib.hid hnx
      clear hij hown hk hx hnx
      go_wp2_with fail
      refine wp_region_sch (fun w' => Kept noBlock w w') (.take 0 (.take 1 (.take 2 (.take 3 (.take 4 (.take 5 (.take 6 (.one 7 (.one 8 (.take 9 .nil)))))))))) (by kernel_rfl) (by kernel_rfl) (by kernel_rfl) HK.out.drew ?_
      have hb := x.toNat_lt
      have h15 := u8_and15 x.toNat
      have hq1 : ∀ w', (Instr.index 9 (.string hexS) (.int .u8 ((x.toNat : Int) / 16))).run Tryz.prog w' = .ok (.int .u8 ((hexD (x.toNat / 16)).toNat : Int)) w' := fun w' => hex_at w' (x.toNat / 16) (by omega) _ (by omega)
      have hq2 : ∀ w', (Instr.index 9 (.string hexS) (.int .u8 ((x.toNat : Int) % 16))).run Tryz.prog w' = .ok (.int .u8 ((hexD (x.toNat % 16)).toNat : Int)) w' := fun w' => hex_at w' (x.toNat % 16) (by omega) _ (by omega)
      repeat (first
        | (refine sch_takeE rfl rfl ?_
           apply Exists.intro
           refine ⟨fun w' hS => ?_, fun K hK => ?_⟩
           · (clear hS
              unfold takesAt; go_simp; rfl)
           go_simp
           refine hK _ ?_
           clear hK K))
      refine sch_doK rfl rfl (fun K hK => ?_)
      go_simp
      refine hK _ _ ((HK.out.alloc _).drew) ?_
      clear hK K

      refine sch_doK rfl rfl (fun K hK => ?_)
      refine wp_append_sl _ bytesT (.tmp 12) (.tmp 19) rfl w.heap.size _ (2 * i) (bsC ((l.take i).flatMap hex2)) rfl ((World.ownsRow.alloc HO.out _).drew) _ 2 (bsC (hex2 x)) rfl (Sl.made_at (Blk.drew (Blk.new wr 5 #[.int .u8 ((hexD (x.toNat / 16)).toNat : Int), .int .u8 ((hexD (x.toNat % 16)).toNat : Int)])) _ rfl rfl (by decide)) (fun u hu => bsC_one hu) ?c1 ?c2 ?_
      case c1 => omega
      case c2 => simp; have := HK.out.size; omega
      intro v' w3 hap
      have hk3 := hap.below ((World.ownsRow.alloc HO.out _).drew) ((HK.out.alloc _).drew) (Nat.le_refl _)
      have HK3 := Lib.hid hk3
      have HO3 := Lib.hid hap.own
      refine hK _ _ hk3 ?_
      clear hK K hk3 hap
      repeat (first
        | (refine sch_takeE rfl rfl ?_
           apply Exists.intro
           refine ⟨fun w' hS => ?_, fun K hK => ?_⟩
           · (unfold takesAt; go_simp; rfl)
           go_simp
           refine hK _ ?_
           clear hK K))
      refine sch_nil (NoPanic.normal ?_)
      go_wp2
      go_roundg (n - (i + 1))
      case measure => have := HIJ.out; omega
      case rel =>
        have hij := HIJ.out
        refine ⟨i + 1, by omega, by go_num, ?_, HK3.out⟩
        rw [HNX.out]
        have := HO3.out
        rw [← Lib.byteCells_append] at this
        exact this
    · obtain rfl : i = n := by omega
      have ht : l.take i = l := List.take_of_length_le (by omega)
      rw [ht] at hown
      have hq := bytes_str (Sl.of_own hown)
      have HKF := Lib.hid hk
      clear hij hown hk HO HK
      go_wp2
      go_ret
      exact ⟨rfl, HKF.out⟩
end Go.Proofs.YtdcdefkloibfnaaGreatDoor
namespace Go.Proofs.YtdcdefkloibfnaaGreatDoor
set_option linter.unusedVariables false
open Go.RowKit

def decS (l : List UInt8) : List ByteArray := l.map fun b => bS (Lib.itoa (b.toNat : Int))
theorem Itoa_at (b : UInt8) {w : World} (h : Doors w) : Calls Tryz.prog 34 #[.int .i64 (b.toNat : Int)] w fun e w' => e = .returned (.string (bS (Lib.itoa (b.toNat : Int)))) ∧ Kept noBlock w w' := by
  have hb := b.toNat_lt
  refine (Any.strconv_Itoa Tryz.itoa (b.toNat : Int) (by omega) (by omega) w h.tab).mono ?_
  rintro e w' ⟨rfl, k, os, rfl⟩
  exact ⟨rfl, (show Grew w _ from ⟨k, os, rfl⟩).kept⟩
set_option maxHeartbeats 2000000 in
set_option maxRecDepth 100000 in
theorem cName_4 {w : World} {ok : Nat → TypeId → Prop} {v : Value} {l : List UInt8} (h : SlK w ok 1 v 4 (bsC l)) (hd : Doors w) :
    Calls Tryz.prog 15 #[v] w fun e w' => e = .returned (.string (bS (nameP l))) ∧ Kept noBlock w w' := by
  have hln : l.length = 4 := by have := h.len; rw [bsC_len] at this; omega
  have hnm : nameP l = Lib.join (l.map fun b => Lib.itoa (b.toNat : Int)) [46] := by unfold nameP; rw [if_pos hln]
  have hnl : (nameP l).length ≤ 15 := by
    rcases (name_law l).ends with ⟨-, -, -, h⟩ | ⟨h, -⟩ | h
    · exact h
    · omega
    · unfold fineA at h; rw [decide_eq_true hln] at h; cases h
  obtain ⟨A, c, rfl, -, -⟩ := h.shape
  have hlen := h.run_len bytesT
  have H := Lib.hid h
  have HD := Lib.hid hd
  have HNM := Lib.hid hnm
  clear h hd hnm
  go_enter Tryz.func15, Tryz.ntmps15
  go_wp2_with fail
  go_loopg [3, 12] 4 (fun j vo vi wr => ∃ i : Nat, i + j = 4 ∧ vi = .int .i64 i ∧ wr.ownsRow w.heap.size 9 1 vo i ((decS (l.take i)).map Value.string) ∧ Kept noBlock w wr)
  case atStart => exact ⟨0, by omega, rfl, World.ownsRow_nil _ _ _ _, Kept.refl _ _⟩
  case round =>
    obtain ⟨i, hij, rfl, hown, hk⟩ := hrel
    have HIJ := Lib.hid hij
    have HO := Lib.hid hown
    have HK := Lib.hid hk
    obtain ⟨A0, c0, rfl, -, -⟩ := (Sl.of_own hown).shape
    by_cases hlt : i < 4
    · obtain ⟨x, hx⟩ : ∃ x, l[i]? = some x := ⟨_, List.getElem?_eq_getElem (by omega)⟩
      obtain ⟨g, off, hidx, hgl, hc0⟩ := byte_at (SlK.keptNone H.out hk) hx
      have hnx : (decS (l.take (i + 1))).map Value.string = (decS (l.take i)).map Value.string ++ [.string (bS (Lib.itoa (x.toNat : Int)))] := by rw [List.take_add_one, hx]; unfold decS; simp
      have HNX := Lib.hid hnx
      have HIT := Lib.hid (Itoa_at x (HD.out.keptN hk))
      have hcv : IntKind.i64.wrap (x.toNat : Int) = (x.toNat : Int) := by have := x.toNat_lt; rw [IntKind.wrap_i64]; omega
      clear hij hown hk hx hnx
      go_wp2_with fail
      go_at_call 34
      refine HIT.out.mono ?_
      rintro e w2 ⟨rfl, hk2⟩
      have HK2 := Lib.hid (HK.out.trans hk2 fun _ _ h => h)
      have HO2 := Lib.hid (own_keptB HO.out hk2 (fun _ _ h => h))
      generalize bS (Lib.itoa (x.toNat : Int)) = y at *
      clear hk2
      go_wp2_with (at_builtin; go_must (refine wpList_append_sl _ strsT rfl (.tmp 16) (.tmp 20) rfl w.heap.size _ i ((decS (l.take i)).map Value.string) rfl (HO2.out.alloc _) _ 1 [.string y] rfl (Sl.made_at (Blk.new _ 9 #[.string y]) _ rfl rfl one_max) (by simp [Value.oneCell']) ?c1 ?c2 ?_))
      case c1 => omega
      case c2 => have := HK2.out.size; simp only [sz_alloc]; omega
      intro v' w6 hap
      have hk6 := hap.below (HO2.out.alloc _) (HK2.out.alloc _) (Nat.le_refl _)
      have FIN : Hid (w6.ownsRow w.heap.size 9 1 v' (i + 1) ((decS (l.take (i + 1))).map Value.string)) := Lib.hid (by rw [HNX.out]; exact hap.own)
      have HK6 := Lib.hid hk6
      clear hap hk6
      go_wp2_with fail
      go_roundg (4 - (i + 1))
      case measure => have := HIJ.out; omega
      case rel => exact ⟨i + 1, by have := HIJ.out; omega, by go_num, FIN.out, HK6.out⟩
    · obtain rfl : i = 4 := by omega
      have ht : l.take 4 = l := List.take_of_length_le (by omega)
      rw [ht] at hown
      obtain ⟨g, off, cap, hv, hcap, -, hgl, hcells⟩ := (Sl.of_own hown).form (by decide)
      cases hv
      have hdl : (decS l).length = 4 := by unfold decS; rw [List.length_map, hln]
      have hjn : Lib.join ((decS l).map (·.data.toList)) [46] = nameP l := by rw [HNM.out]; unfold decS; rw [List.map_map]; rfl
      have hj := Any.strings_Join_many Tryz.sjoin Tryz.sjoin_extra g off c0 (decS l) ⟨#[46]⟩ wr (fun j x hx => by
        have h1 : ((decS l).map Value.string)[j]? = some (.string x) := by rw [List.getElem?_map, hx]; rfl
        exact hcells _ _ h1) hgl (by omega) (by omega) (by omega) (by
          show (Lib.join ((decS l).map (·.data.toList)) [46]).length ≤ _
          rw [hjn]; omega)
      have HJ : Hid (Calls Tryz.prog 35 #[.slice (some ⟨g, off, none⟩) 4 c0, .string ⟨#[46]⟩] wr fun e w' => e = .returned (.string (bS (nameP l))) ∧ Below wr.heap.size wr w') := Lib.hid (by
        rw [hdl] at hj
        refine hj.mono ?_
        rintro e w' ⟨rfl, hb⟩
        refine ⟨?_, hb⟩
        show Ending.returned (.string ⟨(Lib.join ((decS l).map (·.data.toList)) [46]).toArray⟩) = _
        rw [hjn]; rfl)
      clear hij hown hk HO hj hjn hcells
      go_wp2_with fail
      go_at_call 35
      refine HJ.out.mono ?_
      rintro e w5 ⟨rfl, hb⟩
      go_wp2
      go_ret
      exact ⟨rfl, HK.out.trans (kept_below hb) fun _ _ h => h⟩
set_option maxHeartbeats 2000000 in
set_option maxRecDepth 100000 in
theorem cName_16 {w : World} {ok : Nat → TypeId → Prop} {v : Value} {l : List UInt8} (h : SlK w ok 1 v 16 (bsC l)) :
    Calls Tryz.prog 15 #[v] w fun e w' => e = .returned (.string (bS (nameP l))) ∧ Kept noBlock w w' := by
  have hln : l.length = 16 := by have := h.len; rw [bsC_len] at this; omega
  have hlen := h.run_len bytesT
  have HD := Lib.hid (cDigits_at h (by decide))
  have hnm := name16 hln
  rw [hnm]
  clear h hnm
  go_enter Tryz.func15, Tryz.ntmps15
  go_wp2_with fail
  go_at_call 36
  refine HD.out.mono ?_
  rintro e w5 ⟨rfl, hk⟩
  go_wp2
  go_ret
  exact ⟨rfl, hk⟩
set_option maxHeartbeats 2000000 in
set_option maxRecDepth 100000 in
theorem cName_odd {w : World} {ok : Nat → TypeId → Prop} {v : Value} {l : List UInt8} {n : Nat} (h : SlK w ok 1 v n (bsC l)) (h4 : n ≠ 4) (h16 : n ≠ 16) :
    Calls Tryz.prog 15 #[v] w fun e w' => e = .returned (.string (bS (nameP l))) ∧ Kept noBlock w w' := by
  have hln : l.length = n := by have := h.len; rw [bsC_len] at this; omega
  have hlen := h.run_len bytesT
  have hnm : nameP l = [] := by unfold nameP; rw [if_neg (by omega), if_neg (by omega)]
  have e4 : (((n : Nat) : Int) == 4) = false := by rw [beq_eq_false_iff_ne]; omega
  have e16 : (((n : Nat) : Int) == 16) = false := by rw [beq_eq_false_iff_ne]; omega
  rw [hnm]
  clear h hnm
  go_enter Tryz.func15, Tryz.ntmps15
  go_wp2
  go_ret
  exact ⟨rfl, Kept.refl _ _⟩
theorem cName_at {w : World} {ok : Nat → TypeId → Prop} {v : Value} {l : List UInt8} {n : Nat} (h : SlK w ok 1 v n (bsC l)) (hd : Doors w) :
    Calls Tryz.prog 15 #[v] w fun e w' => e = .returned (.string (bS (nameP l))) ∧ Kept noBlock w w' := by
  by_cases h4 : n = 4
  · subst h4; exact cName_4 h hd
  by_cases h16 : n = 16
  · subst h16; exact cName_16 h
  exact cName_odd h h4 h16
end Go.Proofs.YtdcdefkloibfnaaGreatDoor
namespace Go.Proofs.YtdcdefkloibfnaaGreatDoor
set_option linter.unusedVariables false

theorem refr_has {V : View} {l : List Ho} {x : ByteArray} (hx : x ≠ noStr) : (refr V l x).isSome = true ↔ ∃ h ∈ l, h.name = x := by
  unfold refr getS
  rw [if_neg hx, Option.isSome_map, List.find?_isSome]
  constructor
  · rintro ⟨h, h1, h2⟩
    exact ⟨h, h1, by simpa using h2⟩
  · rintro ⟨h, h1, h2⟩
    exact ⟨h, h1, by simpa using h2⟩
theorem refr_empty (V : View) (l : List Ho) : refr V l noStr = none := by unfold refr; rw [if_pos rfl]
/-- A host that has been seen adds nothing. -/
theorem refr_seen {V : View} {l : List Ho} {h : Ho} (hs : h.name = noStr ∨ ∃ o ∈ l, o.name = h.name) (x : ByteArray) : refr V (l ++ [h]) x = refr V l x := by
  rw [refr_snoc]
  cases e : refr V l x with
  | some o => rfl
  | none =>
    show (if h.name = x ∧ x ≠ noStr then some (updH V h) else none) = none
    rw [if_neg]
    rintro ⟨rfl, hne⟩
    rcases hs with hs | hs
    · exact hne hs
    · have := (refr_has (V := V) hne).2 hs
      rw [e] at this
      cases this
/-- A new host is entered. -/
theorem refr_new {V : View} {l : List Ho} {h : Ho} (hn : h.name ≠ noStr) (hs : ¬ ∃ o ∈ l, o.name = h.name) (x : ByteArray) : refr V (l ++ [h]) x = if h.name = x then some (updH V h) else refr V l x := by
  rw [refr_snoc]
  by_cases e : h.name = x
  · subst e
    have h1 : refr V l h.name = none := by
      cases e : refr V l h.name with
      | none => rfl
      | some o => exact absurd ((refr_has hn).1 (by rw [e]; rfl)) hs
    rw [h1, if_pos rfl]
    show (if h.name = h.name ∧ h.name ≠ noStr then some (updH V h) else none) = _
    rw [if_pos ⟨rfl, hn⟩]
  · rw [if_neg e]
    cases refr V l x with
    | some o => rfl
    | none =>
      show (if h.name = x ∧ x ≠ noStr then some (updH V h) else none) = none
      rw [if_neg fun k => e k.1]
/-- The map's view behind the hosts l. -/
def viewR (V : View) (l : List Ho) : View := fun x => match refr V l x with
  | some h => some h
  | none => V x
theorem viewR_nil (V : View) (x : ByteArray) : viewR V [] x = V x := by unfold viewR; rw [refr_nil]
theorem viewR_seen {V : View} {l : List Ho} {h : Ho} (hs : h.name = noStr ∨ ∃ o ∈ l, o.name = h.name) (x : ByteArray) : viewR V (l ++ [h]) x = viewR V l x := by unfold viewR; rw [refr_seen hs]
theorem viewR_new {V : View} {l : List Ho} {h : Ho} (hn : h.name ≠ noStr) (hs : ¬ ∃ o ∈ l, o.name = h.name) (x : ByteArray) : viewR V (l ++ [h]) x = if h.name = x then some (updH V h) else viewR V l x := by
  unfold viewR
  rw [refr_new hn hs]
  by_cases e : h.name = x
  · rw [if_pos e, if_pos e]
  · rw [if_neg e, if_neg e]
theorem viewR_old {V : View} {l : List Ho} {x : ByteArray} (hs : ¬ ∃ o ∈ l, o.name = x) : viewR V l x = V x := by
  unfold viewR
  cases e : refr V l x with
  | none => rfl
  | some o =>
    by_cases hx : x = noStr
    · subst hx; rw [refr_empty] at e; cases e
    · exact absurd ((refr_has hx).1 (by rw [e]; rfl)) hs
/-- The names added by the hosts l, as they come. -/
def addsR (V : View) (l : List Ho) (A : List ByteArray) : Prop := A.Nodup ∧ ∀ x, x ∈ A ↔ (refr V l x).isSome = true ∧ V x = none
theorem addsR_nil (V : View) : addsR V [] [] := ⟨.nil, fun x => by rw [refr_nil]; simp⟩
theorem addsR_seen {V : View} {l : List Ho} {h : Ho} {A : List ByteArray} (hs : h.name = noStr ∨ ∃ o ∈ l, o.name = h.name) (hA : addsR V l A) : addsR V (l ++ [h]) A :=
  ⟨hA.1, fun x => by rw [refr_seen hs]; exact hA.2 x⟩
theorem addsR_old {V : View} {l : List Ho} {h : Ho} {A : List ByteArray} (hn : h.name ≠ noStr) (hs : ¬ ∃ o ∈ l, o.name = h.name) (hV : V h.name ≠ none) (hA : addsR V l A) : addsR V (l ++ [h]) A :=
  ⟨hA.1, fun x => by
    rw [refr_new hn hs]
    by_cases e : h.name = x
    · subst e
      rw [if_pos rfl, hA.2]
      simp [hV]
    · rw [if_neg e]; exact hA.2 x⟩
theorem addsR_new {V : View} {l : List Ho} {h : Ho} {A : List ByteArray} (hn : h.name ≠ noStr) (hs : ¬ ∃ o ∈ l, o.name = h.name) (hV : V h.name = none) (hA : addsR V l A) : addsR V (l ++ [h]) (A ++ [h.name]) := by
  have hni : h.name ∉ A := fun hm => hs ((refr_has hn).1 ((hA.2 _).1 hm).1)
  refine ⟨List.nodup_append.2 ⟨hA.1, by simp, fun a ha b hb => by simp only [List.mem_singleton] at hb; subst hb; exact fun e => hni (e ▸ ha)⟩, fun x => ?_⟩
  rw [refr_new hn hs, List.mem_append, hA.2]
  by_cases e : h.name = x
  · subst e
    rw [if_pos rfl]
    simp [hV]
  · rw [if_neg e]
    simp [Ne.symm e]
end Go.Proofs.YtdcdefkloibfnaaGreatDoor
namespace Go.Proofs.YtdcdefkloibfnaaGreatDoor
set_option linter.unusedVariables false
open Go.RowKit
open Go.ChangeMaps (setBlock)

/-- The table's own blocks in a call that began at world's end N: those it had, and the rows of tokens made since. -/
def ownI (w : World) (N : Nat) (own : Nat → Prop) (k : Nat) : Prop := own k ∨ (N ≤ k ∧ ∃ cs fz, w.heap[k]? = some (.cells cs 2 fz))
theorem ownI_kept {w w' : World} {N : Nat} {own : Nat → Prop} {S : Nat → Prop} {k : Nat} (h : ownI w N own k) (hk : Kept S w w') (hS : ∀ k cs fz, w.heap[k]? = some (.cells cs 2 fz) → ¬ S k) : ownI w' N own k := by
  rcases h with h | ⟨h1, cs, fz, h2⟩
  · exact .inl h
  · exact .inr ⟨h1, cs, fz, (hk.block k (lt_of_heap h2) (hS k cs fz h2)).trans h2⟩
/-- Behind the hosts l (of those that the call was handed): sm is the map of the names that were seen, va the row of the names added. -/
structure RefAt (w wr : World) (own : Nat → Prop) (g m sm : Nat) (dc : ByteArray) (rem : Int) (V : View) (l : List Ho) (va : Value) : Prop where
  tab : ∃ L, TabAt wr (ownI wr w.heap.size own) g m dc rem L ∧ ∀ x, (aget x L).map HV.abs = viewR V l x
  seen : ∃ K : List (ByteArray × Bool), KMap .string (fun s : ByteArray => Value.string s) Value.bool wr sm K ∧ ∀ x, (aget x K).getD false = true ↔ (x = noStr ∨ ∃ o ∈ l, o.name = x)
  adds : ∃ A : List ByteArray, addsR V l A ∧ wr.ownsRow w.heap.size 9 1 va A.length (A.map Value.string)
  new : w.heap.size ≤ sm
  kept : Kept (fun k => k = m) w wr
section
variable {w wr w' : World} {own : Nat → Prop} {g m sm : Nat} {dc : ByteArray} {rem : Int} {V : View} {l : List Ho} {va : Value}
theorem RefAt.keptN (h : RefAt w wr own g m sm dc rem V l va) (hk : Kept noBlock wr w') : RefAt w w' own g m sm dc rem V l va := by
  obtain ⟨⟨L, h1, h2⟩, ⟨K, h3, h4⟩, ⟨A, h5, h6⟩, h7, h8⟩ := h
  have hlt : ∀ k, ownI w' w.heap.size own k → k < w'.heap.size := fun k hk' => by
    rcases hk' with h | ⟨_, cs, fz, h⟩
    · exact Nat.lt_of_lt_of_le (h1.lt k (.inl h)) hk.size
    · exact lt_of_heap h
  exact ⟨⟨L, (h1.keptN hk).wide (fun k e => ownI_kept e hk fun _ _ _ _ e => e) hlt, h2⟩, ⟨K, h3.kept hk (fun e => e), h4⟩, ⟨A, h5, own_keptB h6 hk (fun _ _ e => e)⟩, h7, h8.trans hk fun _ _ e => e.elim⟩
/-- A host that was seen. -/
theorem RefAt.skip (h : RefAt w wr own g m sm dc rem V l va) {o : Ho} (hs : o.name = noStr ∨ ∃ p ∈ l, p.name = o.name) : RefAt w wr own g m sm dc rem V (l ++ [o]) va := by
  obtain ⟨⟨L, h1, h2⟩, ⟨K, h3, h4⟩, ⟨A, h5, h6⟩, h7, h8⟩ := h
  refine ⟨⟨L, h1, fun x => by rw [viewR_seen hs]; exact h2 x⟩, ⟨K, h3, fun x => ?_⟩, ⟨A, addsR_seen hs h5, h6⟩, h7, h8⟩
  rw [h4]
  simp only [List.mem_append, List.mem_singleton]
  constructor
  · rintro (h | ⟨p, hp, e⟩)
    · exact .inl h
    · exact .inr ⟨p, .inl hp, e⟩
  · rintro (h | ⟨p, hp | rfl, rfl⟩)
    · exact .inl h
    · exact .inr ⟨p, hp, rfl⟩
    · exact hs
theorem SlK.anyH {W : World} {ok ok' : Nat → TypeId → Prop} {sz n : Nat} {v : Value} {xs : List Value} (h : SlK W ok sz v n xs) (hk : ∀ g cs e fz, W.heap[g]? = some (.cells cs e fz) → ok g e → ok' g e) : SlK W ok' sz v n xs := by
  obtain ⟨hl, A, cap, hv, h1, h2, h3⟩ := h
  refine ⟨hl, A, cap, hv, h1, h2, ?_⟩
  rcases h3 with h3 | ⟨g, off, cs, e, fz, hA, hh, ho, hc⟩
  · exact .inl h3
  · exact .inr ⟨g, off, cs, e, fz, hA, hh, hk g cs e fz hh ho, hc⟩
/-- A new host is entered: from the world wr (behind l) to W the map of names has taken its name, the row of the added may have grown; then the table's map takes the host. -/
theorem ref_enter {W : World} {L : List (ByteArray × HV)} {K : List (ByteArray × Bool)} {A A' : List ByteArray} {va' : Value} {o : Ho} {v : HV} {es : Array MapEntry} {ck : Nat} (hown : ∀ k, own k → k < w.heap.size)
    (h1 : TabAt wr (ownI wr w.heap.size own) g m dc rem L) (h2 : ∀ x, (aget x L).map HV.abs = viewR V l x)
    (h3 : KMap .string (fun s : ByteArray => Value.string s) Value.bool wr sm K) (h4 : ∀ x, (aget x K).getD false = true ↔ (x = noStr ∨ ∃ o ∈ l, o.name = x))
    (h6 : wr.ownsRow w.heap.size 9 1 va A.length (A.map Value.string)) (h7 : w.heap.size ≤ sm) (h8 : Kept (fun k => k = m) w wr)
    (hk : Kept (fun k => k = sm ∨ va.ownBlock = some k) wr W) (hK : KMap .string (fun s : ByteArray => Value.string s) Value.bool W sm (aput o.name true K))
    (hA : addsR V (l ++ [o]) A') (hA' : W.ownsRow w.heap.size 9 1 va' A'.length (A'.map Value.string))
    (hn : o.name ≠ noStr) (hs : ¬ ∃ p ∈ l, p.name = o.name) (hv : v.abs = updH V o)
    (ht : SlK W (fun b e => w.heap.size ≤ b ∧ e = 2) 1 v.tv v.tn (v.toks.map (Value.int .i64)))
    (hm : HoMap (setBlock W m (.map es ck)) m (aput o.name v L)) : RefAt w (setBlock W m (.map es ck)) own g m sm dc rem V (l ++ [o]) va' := by
  have hsm : ∀ cs fz, wr.heap[sm]? ≠ some (.cells cs 2 fz) := fun cs fz e => by
    obtain ⟨es', ck', hh, _⟩ := h3
    rw [hh] at e; cases e
  have hnot : ∀ k, ownI wr w.heap.size own k → ¬ (k = sm ∨ va.ownBlock = some k) := by
    rintro k hk' (rfl | e)
    · rcases hk' with h | ⟨_, cs, fz, h⟩
      · have := hown _ h; omega
      · exact hsm _ _ h
    · obtain ⟨e1, cs', e2⟩ := own_type h6 e
      rcases hk' with h | ⟨_, cs, fz, h⟩
      · have := hown _ h; omega
      · rw [e2] at h; injection h with h; injection h with _ h; exact absurd h (by decide)
  have hgm : g ≠ m := fun e => h1.map.ne_blk h1.blk e
  have hTW : TabAt W (ownI wr w.heap.size own) g m dc rem L := h1.kept hk hnot
  have hmW : ∃ es0 ck0, W.heap[m]? = some (.map es0 ck0) := by
    obtain ⟨es0, ck0, hh, _⟩ := hTW.map
    exact ⟨es0, ck0, hh⟩
  obtain ⟨es0, ck0, hmW⟩ := hmW
  have hTW2 : TabAt W (ownI W w.heap.size own) g m dc rem L := by
    refine hTW.wide (fun k e => ?_) (fun k e => ?_)
    · rcases e with h | ⟨h, cs, fz, h'⟩
      · exact .inl h
      · exact .inr ⟨h, cs, fz, (hk.block k (lt_of_heap h') (hnot k (.inr ⟨h, cs, fz, h'⟩))).trans h'⟩
    · rcases e with h | ⟨_, cs, fz, h'⟩
      · have := hown _ h
        have := h8.size
        have := hk.size
        omega
      · exact lt_of_heap h'
  have hput := hTW2.put (v := v) (Kept.refl _ _) hm ⟨by have := congrArg Ho.name hv; exact this, hn⟩ (ht.anyH fun b cs e fz hh ho => by
    obtain ⟨h1', rfl⟩ := ho
    refine ⟨.inr ⟨h1', cs, fz, hh⟩, fun e => ?_, fun e => ?_⟩
    · subst e
      have hb := hTW.blk
      unfold Blk at hb
      rw [hb] at hh; injection hh with hh; injection hh with _ hh; exact absurd hh (by decide)
    · subst e
      rw [hmW] at hh; cases hh)
  have hk2 : Kept (fun k => k = m) W (setBlock W m (.map es ck)) := (Kept.refl (fun k => k = m) W).setBlock (m := m) (fun _ => rfl) _
  have hnm : ∀ k cs t fz, W.heap[k]? = some (.cells cs t fz) → k ≠ m := fun k cs t fz h e => by subst e; rw [hmW] at h; cases h
  have hsm2 : sm ≠ m := fun e => by
    have h9 := hnot m (.inl ?_)
    · exact h9 (.inl e.symm)
    · rcases h1.om with h | ⟨_, cs, fz, h⟩
      · exact h
      · obtain ⟨es', ck', hh⟩ := h1.map.heap
        rw [hh] at h; cases h
  refine ⟨⟨_, hput.wide (fun k e => ownI_kept e hk2 fun k cs fz h => hnm k cs _ fz h) (fun k e => ?_), fun x => ?_⟩, ⟨_, hK.setBlock hsm2 _, fun x => ?_⟩, ⟨A', hA, own_setBlock hA' hmW _⟩, h7, (h8.trans hk fun i hi e => ?_).trans hk2 fun i _ e => e⟩
  · rcases e with h | ⟨_, cs, fz, h'⟩
    · have := hown _ h
      have := h8.size
      have := hk.size
      have := hk2.size
      omega
    · exact lt_of_heap h'
  · rw [aget_aput, viewR_new hn hs]
    by_cases e : o.name = x
    · rw [if_pos e, if_pos e, Option.map_some, hv]
    · rw [if_neg e, if_neg e]; exact h2 x
  · rw [aget_aput]
    by_cases e : o.name = x
    · rw [if_pos e]
      simp only [Option.getD_some, true_iff]
      exact .inr ⟨o, by simp, e⟩
    · rw [if_neg e, h4]
      simp only [List.mem_append, List.mem_singleton]
      constructor
      · rintro (h | ⟨p, hp, e⟩)
        · exact .inl h
        · exact .inr ⟨p, .inl hp, e⟩
      · rintro (h | ⟨p, hp | rfl, rfl⟩)
        · exact .inl h
        · exact .inr ⟨p, hp, rfl⟩
        · exact absurd rfl e
  · exfalso
    rcases e with rfl | e
    · omega
    · have := (own_type h6 e).1; omega
end
end Go.Proofs.YtdcdefkloibfnaaGreatDoor
namespace Go.Proofs.YtdcdefkloibfnaaGreatDoor
set_option linter.unusedVariables false
open Go.RowKit Go.MapKept
open Go.ChangeMaps (setBlock)

section
variable {α β : Type} [DecidableEq α]
theorem adel_sub {k : α} : ∀ (l : List (α × β)), (adel k l).Sublist l
  | [] => .slnil
  | (a, b) :: t => by
    by_cases h : a = k
    · rw [adel, if_pos h]; exact List.sublist_cons_self _ _
    · rw [adel, if_neg h]; exact (adel_sub t).cons_cons _
theorem aget_adel {k y : α} : ∀ {l : List (α × β)}, (l.map (·.1)).Nodup → aget y (adel k l) = if k = y then none else aget y l
  | [], _ => by simp [adel, aget]
  | (a, b) :: t, hn => by
    have hn' : a ∉ t.map (·.1) ∧ (t.map (·.1)).Nodup := List.nodup_cons.1 hn
    by_cases h : a = k
    · subst h
      rw [adel, if_pos rfl]
      by_cases e : a = y
      · subst e
        rw [if_pos rfl]
        exact aget_none fun p hp e => hn'.1 (List.mem_map.2 ⟨p, hp, e⟩)
      · rw [if_neg e, aget, if_neg e]
    · rw [adel, if_neg h, aget, aget_adel hn'.2, aget]
      by_cases e : a = y
      · subst e
        rw [if_pos rfl, if_neg (Ne.symm h), if_pos rfl]
      · rw [if_neg e, if_neg e]
variable {d : TypeDesc} {key : α → Value} {val : β → Value} {w : World} {m ck : Nat} {es : Array MapEntry} {L : List (α × β)} {P : Program} {mt kt et : TypeId}
/-- A deletion, its entries known. -/
theorem run_delete_at (hh : w.heap[m]? = some (.map es ck)) (hst : Stamped es ck) (hL : es.toList.map (fun e => (e.key, e.val)) = L.map (fun p => (key p.1, val p.2))) (K : KeyEmb d key) (hm : P.underlying mt = some (.map kt et)) (hk : P.underlying kt = some d) (k : α) :
    ∃ es' : Array MapEntry, (∀ ty kt', (Builtin.delete_ #[mt, kt'] ty #[.map (some m), key k]).run P w = .ok (.tuple #[]) (setBlock w m (.map es' ck))) ∧ Stamped es' ck ∧ es'.toList.map (fun e => (e.key, e.val)) = (adel k L).map (fun p => (key p.1, val p.2)) ∧ es'.toList.Sublist es.toList := by
  rcases KMap.find es K hL k with ⟨h1, h2, h3⟩ | ⟨A, B, v', E, F, x, rfl, hA, he, hE, hx, hv, hEA, hFB, hf⟩
  · refine ⟨es, ?_, hst, ?_, List.Sublist.refl _⟩
    · intro ty kt'; simp [Builtin.delete_, run_underlying hm, MapKept.run_getObj_map hh, MapKept.run_checkKey hk (K.is k), MapKept.run_findKey hk h1, MapKept.run_setObj_map _ hh, Result.andThen, Go.ChangeMaps.setBlock]
    · rw [adel_none h3]; exact hL
  · have hlt : A.length < es.size := by
      have := congrArg List.length he
      simp at this; omega
    have e1 : (es.eraseIdxIfInBounds A.length).toList = E ++ F := by
      unfold Array.eraseIdxIfInBounds
      rw [dif_pos hlt, Array.toList_eraseIdx, he, ← hE]
      simp [List.eraseIdx_append_of_length_le]
    refine ⟨es.eraseIdxIfInBounds A.length, ?_, stamped_erase hst _, ?_, ?_⟩
    · intro ty kt'; simp [Builtin.delete_, run_underlying hm, MapKept.run_getObj_map hh, MapKept.run_checkKey hk (K.is k), MapKept.run_findKey hk hf, MapKept.run_setObj_map _ hh, Result.andThen, Go.ChangeMaps.setBlock]
    · rw [adel_mid hA, e1]
      simp [hEA, hFB]
    · rw [e1, he]
      exact (List.Sublist.refl E).append (List.sublist_cons_self x F)
end
theorem Fam.oneH {w : World} {base : Nat} {e : TypeId} {sz n : Nat} {v : Value} {xs : List Value} (h : w.ownsRow base e sz v n xs) : Fam w base [⟨e, sz, v, n, xs⟩] := by
  refine ⟨fun i r hr => ?_, fun i j a b hij ha hb k hk => ?_⟩
  · rcases i with _ | i
    · cases hr; exact h
    · simp at hr
  · rcases i with _ | i <;> rcases j with _ | j
    · exact absurd rfl hij
    · simp at hb
    · simp at ha
    · simp at ha
theorem left_sub {es es' : Array MapEntry} (h : es'.toList.Sublist es.toList) (seen : Array Nat) : (leftOf es' seen).size ≤ (leftOf es seen).size := by
  unfold leftOf
  have := (h.filter fun e => !seen.contains e.born).length_le
  have e1 : ∀ a : Array MapEntry, (Array.filter (fun e => !seen.contains e.born) a).size = (a.toList.filter fun e => !seen.contains e.born).length := fun a => by
    have h2 := congrArg List.length (Array.toList_filter (p := fun e : MapEntry => !seen.contains e.born) (xs := a))
    rwa [Array.length_toList] at h2
  rw [e1, e1]
  exact this
def gin (G : List ByteArray) (x : ByteArray) : Bool := G.any fun y => decide (y = x)
theorem gin_iff {G : List ByteArray} {x : ByteArray} : gin G x = true ↔ x ∈ G := by
  unfold gin
  rw [List.any_eq_true]
  exact ⟨fun ⟨y, h1, h2⟩ => by have := of_decide_eq_true h2; exact this ▸ h1, fun h => ⟨x, h, decide_eq_true rfl⟩⟩

/-- Behind so many rounds of the second loop: G are gone. -/
structure DelAt (w wr : World) (own : Nat → Prop) (g m sm Rr ck : Nat) (dc : ByteArray) (rem : Int) (V : View) (K : List (ByteArray × Bool)) (A : List ByteArray) (va vg : Value) (es : Array MapEntry) (L : List (ByteArray × HV)) (seen : Array Nat) (c0 : Nat) (G : List ByteArray) : Prop where
  hh : wr.heap[m]? = some (.map es ck)
  st : Stamped es ck
  hL : es.toList.map (fun e => (e.key, e.val)) = L.map (fun p => (Value.string p.1, hvV p.2))
  tab : TabAt wr (ownI wr w.heap.size own) g m dc rem L
  it : wr.heap[Rr]? = some (.mapIter (some m) ck seen c0)
  le : ck ≤ c0
  view : ∀ x, (aget x L).map HV.abs = if gin G x = true then none else V x
  nd : G.Nodup
  gone : ∀ x ∈ G, (aget x K).getD false = false ∧ (V x).isSome = true
  seen : ∀ e ∈ es.toList, seen.contains e.born = true → ∃ x, e.key = .string x ∧ (aget x K).getD false = true
  names : KMap .string (fun s : ByteArray => Value.string s) Value.bool wr sm K
  fam : Fam wr w.heap.size [⟨9, 1, va, A.length, A.map Value.string⟩, ⟨9, 1, vg, G.length, G.map Value.string⟩]
  kept : Kept (fun k => k = m) w wr
  new : w.heap.size ≤ sm ∧ w.heap.size ≤ Rr
section
variable {w wr w' : World} {own : Nat → Prop} {g m sm Rr ck : Nat} {dc : ByteArray} {rem : Int} {V : View} {K : List (ByteArray × Bool)} {A : List ByteArray} {va vg : Value} {es : Array MapEntry} {L : List (ByteArray × HV)} {seen : Array Nat} {c0 : Nat} {G : List ByteArray}
theorem DelAt.map (h : DelAt w wr own g m sm Rr ck dc rem V K A va vg es L seen c0 G) : HoMap wr m L := ⟨es, ck, h.hh, h.st, h.hL⟩
theorem ownI_lt (hown : ∀ k, own k → k < w.heap.size) (hs : w.heap.size ≤ wr.heap.size) {k : Nat} (h : ownI wr w.heap.size own k) : k < wr.heap.size := by
  rcases h with h | ⟨_, cs, fz, h⟩
  · exact Nat.lt_of_lt_of_le (hown k h) hs
  · exact lt_of_heap h
/-- At the start. -/
theorem DelAt.start (hown : ∀ k, own k → k < w.heap.size) {W : World} {V0 : View} {l : List Ho} (hR : RefAt w W own g m sm dc rem V0 l va) (hK : KMap .string (fun s : ByteArray => Value.string s) Value.bool W sm K) (hA : W.ownsRow w.heap.size 9 1 va A.length (A.map Value.string))
    (hT : TabAt W (ownI W w.heap.size own) g m dc rem L) (hV : ∀ x, (aget x L).map HV.abs = V x) (hh : W.heap[m]? = some (.map es ck)) (hst : Stamped es ck) (hL : es.toList.map (fun e => (e.key, e.val)) = L.map (fun p => (Value.string p.1, hvV p.2)))
    (hk : Kept noBlock W wr) (hi : wr.heap[W.heap.size]? = some (.mapIter (some m) ck #[] ck)) : DelAt w wr own g m sm W.heap.size ck dc rem V K A va (.slice none 0 0) es L #[] ck [] := by
  refine ⟨(hk.block m (lt_of_heap hh) (fun e => e)).trans hh, hst, hL, (hT.keptN hk).wide (fun k e => ownI_kept e hk fun _ _ _ _ e => e) (fun k e => ownI_lt hown (Nat.le_trans hR.kept.size hk.size) e), hi, Nat.le_refl _, fun x => by rw [hV]; rfl, List.nodup_nil, fun x hx => absurd hx List.not_mem_nil, fun e _ h => by simp at h, hK.kept hk (fun e => e), ?_, hR.kept.trans hk fun _ _ e => e.elim, hR.new, hR.kept.size⟩
  exact ((Fam.oneH hA).more 9 1).keptN hk
/-- The iterator has gone on: e's name is one that was seen. -/
theorem DelAt.pass (h : DelAt w wr own g m sm Rr ck dc rem V K A va vg es L seen c0 G) {e : MapEntry} {x : ByteArray} (he : e ∈ es.toList) (hx : e.key = .string x) (hs : (aget x K).getD false = true) (hk : Kept (fun k => k = Rr) wr w') (hi : w'.heap[Rr]? = some (.mapIter (some m) ck (seen.push e.born) ck)) (hown : ∀ k, own k → k < w.heap.size) :
    DelAt w w' own g m sm Rr ck dc rem V K A va vg es L (seen.push e.born) ck G := by
  have hRr : ∀ o, o.isCells = true → wr.heap[Rr]? ≠ some o := fun o ho e => by rw [h.it] at e; cases e; cases ho
  have hRm : m ≠ Rr := fun e => by have := h.hh; rw [e, h.it] at this; cases this
  have hRs : sm ≠ Rr := fun e => by obtain ⟨es', ck', hh'⟩ := h.names.heap; rw [e, h.it] at hh'; cases hh'
  have hno : ∀ k, ownI wr w.heap.size own k → k ≠ Rr := by
    rintro k (h1 | ⟨_, cs, fz, h1⟩) e
    · have := hown k h1; have := h.new.2; omega
    · subst e; exact hRr _ rfl h1
  refine ⟨(hk.block m (lt_of_heap h.hh) hRm).trans h.hh, h.st, h.hL, (h.tab.kept hk hno).wide (fun k e => ownI_kept e hk fun k cs fz h2 e => by subst e; exact hRr _ rfl h2) (fun k e => ownI_lt hown (Nat.le_trans h.kept.size hk.size) e), hi, Nat.le_refl _, h.view, h.nd, h.gone, fun e' he' hs' => ?_, h.names.kept hk hRs, ?_, h.kept.trans hk fun k hlt e => ?_, h.new⟩
  · by_cases hb : e'.born = e.born
    · have : e' = e := by
        have hp := List.pairwise_map.1 h.st.2.1
        exact Classical.byContradiction fun hne => by
          obtain ⟨i, hi', rfl⟩ := List.getElem_of_mem he'
          obtain ⟨j, hj', rfl⟩ := List.getElem_of_mem he
          have hij : i ≠ j := fun e => hne (by subst e; rfl)
          rcases Nat.lt_or_ge i j with hl | hl
          · exact (List.pairwise_iff_getElem.1 hp i j hi' hj' hl) hb
          · exact (List.pairwise_iff_getElem.1 hp j i hj' hi' (by omega)) hb.symm
      subst this
      exact ⟨x, hx, hs⟩
    · refine h.seen e' he' ?_
      simp only [Array.contains_eq_mem, Array.mem_push, decide_eq_true_eq] at hs' ⊢
      rcases hs' with h1 | h1
      · exact h1
      · exact absurd h1 hb
  · refine ⟨fun i r hr => own_keptB (h.fam.1 i r hr) hk fun k e1 e2 => ?_, h.fam.2⟩
    subst e2
    obtain ⟨_, cs, hc⟩ := own_type (h.fam.1 i r hr) e1
    exact hRr _ rfl hc
  · have := h.new.2; omega
/-- .. one that was not: it is told, and goes. -/
theorem DelAt.drop (h : DelAt w wr own g m sm Rr ck dc rem V K A va vg es L seen c0 G) {e : MapEntry} {x : ByteArray} {v : HV} {W : World} {vg' : Value} {es' : Array MapEntry} (he : e ∈ es.toList) (hx : e.key = .string x) (hs : (aget x K).getD false = false) (hk : Kept (fun k => k = Rr ∨ vg.ownBlock = some k) wr W)
    (hi : W.heap[Rr]? = some (.mapIter (some m) ck (seen.push e.born) ck)) (hf : Fam W w.heap.size [⟨9, 1, va, A.length, A.map Value.string⟩, ⟨9, 1, vg', G.length + 1, (G ++ [x]).map Value.string⟩])
    (hst : Stamped es' ck) (hL : es'.toList.map (fun e => (e.key, e.val)) = (adel x L).map (fun p => (Value.string p.1, hvV p.2))) (hsub : es'.toList.Sublist es.toList) (hown : ∀ k, own k → k < w.heap.size) :
    DelAt w (setBlock W m (.map es' ck)) own g m sm Rr ck dc rem V K A va vg' es' (adel x L) (seen.push e.born) ck (G ++ [x]) := by
  have hRr : ∀ o, o.isCells = true → wr.heap[Rr]? ≠ some o := fun o ho e => by rw [h.it] at e; cases e; cases ho
  have hRm : m ≠ Rr := fun e => by have := h.hh; rw [e, h.it] at this; cases this
  have hRs : sm ≠ Rr := fun e => by obtain ⟨es', ck', hh'⟩ := h.names.heap; rw [e, h.it] at hh'; cases hh'
  have hvg : ∀ k, vg.ownBlock = some k → w.heap.size ≤ k ∧ ∃ cs, wr.heap[k]? = some (.cells cs 9 (0, 0)) := fun k e => own_type (h.fam.get 1 rfl) e
  have hmb : ∀ k, vg.ownBlock = some k → m ≠ k := fun k e e2 => by obtain ⟨_, cs, hc⟩ := hvg k e; rw [← e2, h.hh] at hc; cases hc
  have hsb : ∀ k, vg.ownBlock = some k → sm ≠ k := fun k e e2 => by
    obtain ⟨_, cs, hc⟩ := hvg k e
    obtain ⟨es', ck', hh'⟩ := h.names.heap
    rw [← e2, hh'] at hc; cases hc
  have hno : ∀ k, ownI wr w.heap.size own k → ¬ (k = Rr ∨ vg.ownBlock = some k) := by
    rintro k hk' (rfl | e)
    · rcases hk' with h1 | ⟨_, cs, fz, h1⟩
      · have := hown k h1; have := h.new.2; omega
      · exact hRr _ rfl h1
    · obtain ⟨e1, cs', e2⟩ := hvg k e
      rcases hk' with h1 | ⟨_, cs, fz, h1⟩
      · have := hown k h1; omega
      · rw [e2] at h1; injection h1 with h1; injection h1 with _ h1; exact absurd h1 (by decide)
  have hmW : W.heap[m]? = some (.map es ck) := (hk.block m (lt_of_heap h.hh) (fun e => e.elim hRm fun e => hmb m e rfl)).trans h.hh
  have hk2 : Kept (fun k => k = m) W (setBlock W m (.map es' ck)) := (Kept.refl (fun k => k = m) W).setBlock (m := m) (fun _ => rfl) _
  have hTW : TabAt W (ownI wr w.heap.size own) g m dc rem L := h.tab.kept hk hno
  have hsm : sm ≠ m := fun e => by
    rcases h.tab.om with h1 | ⟨_, cs, fz, h1⟩
    · have := hown m h1; have := h.new.1; omega
    · rw [h.hh] at h1; cases h1
  have hgm : g ≠ m := fun e => h.tab.map.ne_blk h.tab.blk e
  have hxL : (aget x L).isSome = true := by
    obtain ⟨i, hi'⟩ := List.getElem?_of_mem he
    have h1 := congrArg (fun l => l[i]?) h.hL
    simp only [List.getElem?_map, hi', Option.map_some] at h1
    cases hp : L[i]? with
    | none => rw [hp] at h1; simp at h1
    | some p =>
      rw [hp, hx] at h1
      simp only [Option.map_some, Option.some.injEq, Prod.mk.injEq, Value.string.injEq] at h1
      have := aget_of_mem h.tab.nd (show (x, p.2) ∈ L by rw [h1.1]; exact List.mem_of_getElem? hp)
      rw [this]; rfl
  have hxG : x ∉ G := fun e => by
    have := h.view x
    rw [if_pos (gin_iff.2 e)] at this
    cases hg : aget x L with
    | none => rw [hg] at hxL; cases hxL
    | some v => rw [hg] at this; cases this
  have hVx : (V x).isSome = true := by
    have := h.view x
    rw [if_neg (fun e => hxG (gin_iff.1 e))] at this
    rw [← this, Option.isSome_map]
    exact hxL
  refine ⟨heap_setBlock_me (lt_of_heap hmW) _, hst, hL, ?_, (heap_setBlock _ _ _ _ (Ne.symm hRm)).trans hi, Nat.le_refl _, fun y => ?_, ?_, fun y hy => ?_, fun e' he' hs' => ?_, (h.names.kept hk (fun e => e.elim hRs fun e => hsb sm e rfl)).setBlock hsm _, ?_, (h.kept.trans hk fun i hi' e => ?_).trans hk2 fun i _ e => e, h.new⟩
  · have h1 : TabAt (setBlock W m (.map es' ck)) (ownI wr w.heap.size own) g m dc rem (adel x L) := by
      refine ⟨hTW.blk.kept hk2 hgm, ⟨es', ck, heap_setBlock_me (lt_of_heap hmW) _, hst, hL⟩, ?_, h.tab.og, h.tab.om, fun p hp => ?_, fun p hp => h.tab.nm p ((adel_sub L).subset hp), fun k e => Nat.lt_of_lt_of_le (hTW.lt k e) (by rw [size_setBlock]; exact Nat.le_refl _)⟩
      · exact ((adel_sub L).map _).nodup h.tab.nd
      · exact (hTW.ot p ((adel_sub L).subset hp)).keptAll hk2 fun k _ e e2 => e.2.2 e2
    refine h1.wide (fun k e => ?_) fun k e => ownI_lt hown (Nat.le_trans h.kept.size (Nat.le_trans hk.size hk2.size)) e
    refine ownI_kept (w := W) ?_ hk2 fun k cs fz h2 e => by subst e; rw [hmW] at h2; cases h2
    rcases e with e | ⟨h2, cs, fz, h3⟩
    · exact .inl e
    · exact .inr ⟨h2, cs, fz, (hk.block k (lt_of_heap h3) (hno k (.inr ⟨h2, cs, fz, h3⟩))).trans h3⟩
  · rw [aget_adel h.tab.nd]
    by_cases e : x = y
    · subst e
      rw [if_pos rfl, if_pos (gin_iff.2 (List.mem_append.2 (.inr (List.mem_singleton.2 rfl))))]; rfl
    · rw [if_neg e, h.view]
      have : gin (G ++ [x]) y = gin G y := by
        rw [Bool.eq_iff_iff, gin_iff, gin_iff, List.mem_append, List.mem_singleton]
        exact ⟨fun h => h.resolve_right (Ne.symm e), .inl⟩
      rw [this]
  · exact List.nodup_append.2 ⟨h.nd, by simp, fun a ha b hb => by simp only [List.mem_singleton] at hb; subst hb; exact fun e => hxG (e ▸ ha)⟩
  · rcases List.mem_append.1 hy with hy | hy
    · exact h.gone y hy
    · simp only [List.mem_singleton] at hy
      subst hy
      exact ⟨hs, hVx⟩
  · have he2 := hsub.subset he'
    by_cases hb : e'.born = e.born
    · exfalso
      have hin : e' = e := by
        have hp := List.pairwise_map.1 h.st.2.1
        exact Classical.byContradiction fun hne => by
          obtain ⟨i, hi', rfl⟩ := List.getElem_of_mem he2
          obtain ⟨j, hj', rfl⟩ := List.getElem_of_mem he
          have hij : i ≠ j := fun e => hne (by subst e; rfl)
          rcases Nat.lt_or_ge i j with hl | hl
          · exact (List.pairwise_iff_getElem.1 hp i j hi' hj' hl) hb
          · exact (List.pairwise_iff_getElem.1 hp j i hj' hi' (by omega)) hb.symm
      subst hin
      obtain ⟨i, hi'⟩ := List.getElem?_of_mem he'
      have h1 := congrArg (fun l => l[i]?) hL
      simp only [List.getElem?_map, hi', Option.map_some] at h1
      cases hp : (adel x L)[i]? with
      | none => rw [hp] at h1; simp at h1
      | some p =>
        rw [hp, hx] at h1
        simp only [Option.map_some, Option.some.injEq, Prod.mk.injEq, Value.string.injEq] at h1
        have hpm := List.mem_of_getElem? hp
        have hpe : p = (x, p.2) := by rw [h1.1]
        rw [hpe] at hpm
        have h4 := aget_of_mem (((adel_sub L).map (·.1)).nodup h.tab.nd) hpm
        rw [aget_adel h.tab.nd, if_pos rfl] at h4
        cases h4
    · refine h.seen e' he2 ?_
      simp only [Array.contains_eq_mem, Array.mem_push, decide_eq_true_eq] at hs' ⊢
      rcases hs' with h1 | h1
      · exact h1
      · exact absurd h1 hb
  · refine ⟨fun i r hr => ?_, fun i j a b hij ha hb k hk' => ?_⟩
    · have h5 : ∀ (i : Nat) (r : Rw), [(⟨9, 1, va, A.length, A.map Value.string⟩ : Rw), ⟨9, 1, vg', (G ++ [x]).length, (G ++ [x]).map Value.string⟩][i]? = some r → [(⟨9, 1, va, A.length, A.map Value.string⟩ : Rw), ⟨9, 1, vg', G.length + 1, (G ++ [x]).map Value.string⟩][i]? = some r := by
        intro i r h; rw [List.length_append] at h; exact h
      exact own_setBlock (hf.1 i r (h5 i r hr)) hmW _
    · rw [List.length_append] at ha hb
      exact hf.2 i j a b hij ha hb k hk'
  · rcases e with rfl | e
    · have := h.new.2; omega
    · have := (hvg i e).1; omega
/-- At the end. -/
theorem DelAt.done (h : DelAt w wr own g m sm Rr ck dc rem V K A va vg es L seen c0 G) (h0 : (leftOf es seen).size = 0) {V0 : View} {l : List Ho} (hV : ∀ x, V x = viewR V0 l x) (hV0 : V0 noStr = none) (hK : ∀ x, (aget x K).getD false = true ↔ (x = noStr ∨ ∃ o ∈ l, o.name = x)) :
    (∀ x, (aget x L).map HV.abs = refr V0 l x) ∧ ∀ x, x ∈ G ↔ (V0 x).isSome = true ∧ refr V0 l x = none := by
  have hall := all_seen es seen h0
  have hG : ∀ x, x ∈ G ↔ (aget x K).getD false = false ∧ (V x).isSome = true := by
    intro x
    refine ⟨h.gone x, fun ⟨h1, h2⟩ => Classical.byContradiction fun hn => ?_⟩
    have h3 := h.view x
    rw [if_neg (fun e => hn (gin_iff.1 e))] at h3
    cases hg : aget x L with
    | none => rw [hg] at h3; rw [← h3] at h2; cases h2
    | some v =>
      obtain ⟨i, hi'⟩ := List.getElem?_of_mem (aget_mem hg)
      have h4 := congrArg (fun l => l[i]?) h.hL
      simp only [List.getElem?_map, hi', Option.map_some] at h4
      cases hp : es.toList[i]? with
      | none => rw [hp] at h4; simp at h4
      | some e =>
        rw [hp] at h4
        simp only [Option.map_some, Option.some.injEq, Prod.mk.injEq] at h4
        have hm := List.mem_of_getElem? hp
        obtain ⟨y, hy, hy2⟩ := h.seen e hm (hall e hm)
        rw [h4.1] at hy
        injection hy with hy
        subst hy
        rw [h1] at hy2; cases hy2
  have hKf : ∀ x, (aget x K).getD false = false ↔ ¬ (x = noStr ∨ ∃ o ∈ l, o.name = x) := by
    intro x; rw [← hK]; cases (aget x K).getD false <;> simp
  have hre : ∀ x, ¬ (x = noStr ∨ ∃ o ∈ l, o.name = x) → refr V0 l x = none := by
    intro x hx
    cases hr : refr V0 l x with
    | none => rfl
    | some o => exact absurd ((refr_has (fun e => hx (.inl e))).1 (by rw [hr]; rfl)) fun e => hx (.inr e)
  have hvr : ∀ x, (x = noStr ∨ ∃ o ∈ l, o.name = x) → viewR V0 l x = refr V0 l x := by
    intro x hx
    by_cases e : x = noStr
    · subst e
      unfold viewR
      rw [refr_empty]
      exact hV0
    · have h2 := (refr_has (V := V0) e).2 (hx.resolve_left e)
      unfold viewR
      cases hr : refr V0 l x with
      | none => rw [hr] at h2; cases h2
      | some o => rfl
  refine ⟨fun x => ?_, fun x => ?_⟩
  · rw [h.view]
    by_cases hx : x = noStr ∨ ∃ o ∈ l, o.name = x
    · have : x ∉ G := fun e => ((hKf x).1 ((hG x).1 e).1) hx
      rw [if_neg (fun e => this (gin_iff.1 e)), hV, hvr x hx]
    · rw [hre x hx]
      by_cases e : x ∈ G
      · rw [if_pos (gin_iff.2 e)]
      · rw [if_neg (fun e2 => e (gin_iff.1 e2))]
        cases hv : V x with
        | none => rfl
        | some o => exact absurd ((hG x).2 ⟨(hKf x).2 hx, by rw [hv]; rfl⟩) e
  · rw [hG, hKf]
    constructor
    · rintro ⟨h1, h2⟩
      refine ⟨?_, hre x h1⟩
      rw [hV, viewR_old fun e => h1 (.inr e)] at h2
      exact h2
    · rintro ⟨h1, h2⟩
      have h3 : ¬ (x = noStr ∨ ∃ o ∈ l, o.name = x) := by
        rintro (e | e)
        · subst e; rw [hV0] at h1; cases h1
        · by_cases e2 : x = noStr
          · subst e2; rw [hV0] at h1; cases h1
          · have := (refr_has (V := V0) e2).2 e
            rw [h2] at this; cases this
      exact ⟨h3, by rw [hV, viewR_old fun e => h3 (.inr e)]; exact h1⟩
end
end Go.Proofs.YtdcdefkloibfnaaGreatDoor
namespace Go.Proofs.YtdcdefkloibfnaaGreatDoor
set_option linter.unusedVariables false
open Go.RowKit Go.MapKept
open Go.ChangeMaps (setBlock)

theorem onceH {G : Prop} (h : ∃ T : Prop, (T → G) ∧ T) : G := by
  obtain ⟨T, h1, h2⟩ := h
  exact h1 h2
theorem nodup_leH {α : Type} [DecidableEq α] : ∀ {A B : List α}, A.Nodup → (∀ x ∈ A, x ∈ B) → A.length ≤ B.length
  | [], _, _, _ => Nat.zero_le _
  | a :: A, B, hn, hs => by
    obtain ⟨h1, h2⟩ := List.nodup_cons.1 hn
    have ha : a ∈ B := hs a (List.mem_cons_self ..)
    have := nodup_leH (A := A) (B := B.erase a) h2 fun x hx => (List.mem_erase_of_ne (fun e => h1 (by rw [← e]; exact hx))).2 (hs x (List.mem_cons_of_mem _ hx))
    rw [List.length_erase_of_mem ha] at this
    have h3 : 0 < B.length := List.length_pos_of_mem ha
    rw [List.length_cons]; omega
theorem adds_len {V : View} {l : List Ho} {A : List ByteArray} (h : addsR V l A) : A.length ≤ l.length := by
  have := nodup_leH (B := l.map (·.name)) h.1 fun x hx => by
    have h1 := ((h.2 x).1 hx).1
    have hx0 : x ≠ noStr := fun e => by subst e; rw [refr_empty] at h1; cases h1
    obtain ⟨o, ho, e⟩ := (refr_has hx0).1 h1
    exact List.mem_map.2 ⟨o, ho, e⟩
  rwa [List.length_map] at this
theorem view_len {V : View} {l : List Ho} {L0 L : List (ByteArray × HV)} (h0 : ∀ x, (aget x L0).map HV.abs = V x) (h : ∀ x, (aget x L).map HV.abs = viewR V l x) (hn : (L.map (·.1)).Nodup) : L.length ≤ L0.length + l.length := by
  have := nodup_leH (B := L0.map (·.1) ++ l.map (·.name)) hn fun x hx => by
    obtain ⟨p, hp, rfl⟩ := List.mem_map.1 hx
    have h1 := h p.1
    rw [aget_of_mem hn hp] at h1
    by_cases e : ∃ o ∈ l, o.name = p.1
    · obtain ⟨o, ho, e⟩ := e
      exact List.mem_append.2 (.inr (List.mem_map.2 ⟨o, ho, e⟩))
    · rw [viewR_old e, ← h0] at h1
      cases hg : aget p.1 L0 with
      | none => rw [hg] at h1; cases h1
      | some v => exact List.mem_append.2 (.inl (List.mem_map.2 ⟨(p.1, v), aget_mem hg, rfl⟩))
  rwa [List.length_map, List.length_append, List.length_map, List.length_map] at this
theorem gone_len {V : View} {L : List (ByteArray × HV)} {G : List ByteArray} (h : ∀ x, (aget x L).map HV.abs = V x) (hn : G.Nodup) (hG : ∀ x ∈ G, (V x).isSome = true) : G.length ≤ L.length := by
  have := nodup_leH (B := L.map (·.1)) hn fun x hx => by
    have h1 := hG x hx
    rw [← h] at h1
    cases hg : aget x L with
    | none => rw [hg] at h1; cases h1
    | some v => exact List.mem_map.2 ⟨(x, v), aget_mem hg, rfl⟩
  rwa [List.length_map] at this
theorem ownI_not_row {w wr : World} {own : Nat → Prop} {va : Value} {n : Nat} {xs : List Value} (hown : ∀ k, own k → k < w.heap.size) (hrow : wr.ownsRow w.heap.size 9 1 va n xs) {k : Nat} (h : ownI wr w.heap.size own k) : va.ownBlock ≠ some k := by
  intro e
  obtain ⟨e1, cs', e2⟩ := own_type hrow e
  rcases h with h | ⟨_, cs, fz, h⟩
  · have := hown _ h; omega
  · rw [e2] at h; injection h with h; injection h with _ h; exact absurd h (by decide)
theorem row_not_map {W : World} {B m : Nat} {va : Value} {n : Nat} {xs : List Value} {es : Array MapEntry} {ck : Nat} (hrow : W.ownsRow B 9 1 va n xs) (h : W.heap[m]? = some (.map es ck)) : va.ownBlock ≠ some m := by
  intro e
  obtain ⟨_, cs, e2⟩ := own_type hrow e
  rw [e2] at h; cases h
def entsOf (w : World) (m : Nat) : Array MapEntry := match w.heap[m]? with
  | some (.map es _) => es
  | _ => #[]
theorem entsOf_is {w : World} {m ck : Nat} {es : Array MapEntry} (h : w.heap[m]? = some (.map es ck)) : entsOf w m = es := by unfold entsOf; rw [h]
theorem htidy_n {w : World} {ok : Nat → TypeId → Prop} {v : Value} {n : Nat} {l : List Int} (h : SlK w ok 1 v n (l.map (Value.int .i64))) (hn : l.length ≤ 1000000) :
    Calls Tryz.prog 72 #[v] w fun e w' => ∃ A k c, e = .returned (.slice A k c) ∧ SlK w' (fun b e' => w.heap.size ≤ b ∧ e' = 2) 1 (.slice A k c) k ((tidyP l).map eI) ∧ Kept noBlock w w' := by
  have h1 := h.len
  rw [List.length_map, Nat.mul_one] at h1
  subst h1
  exact htidy_at h hn
/-- What Refresh leaves. -/
def RefPost (w : World) (own : Nat → Prop) (g : Nat) (dc : ByteArray) (rem : Int) (V : View) (l : List Ho) (m : Nat) (e : Ending) (w' : World) : Prop :=
  ∃ (va vg : Value) (AD G : List ByteArray) (L : List (ByteArray × HV)), e = .returned (.tuple #[va, vg]) ∧ w'.ownsRow w.heap.size 9 1 va (sortN AD).length ((sortN AD).map Value.string) ∧ w'.ownsRow w.heap.size 9 1 vg (sortN G).length ((sortN G).map Value.string) ∧
    addsR V l AD ∧ G.Nodup ∧ (∀ x, x ∈ G ↔ (V x).isSome = true ∧ refr V l x = none) ∧ TabAt w' (ownI w' w.heap.size own) g m dc rem L ∧ (∀ x, (aget x L).map HV.abs = refr V l x) ∧ Kept (fun k => k = m) w w'

set_option maxRecDepth 100000 in
set_option maxHeartbeats 8000000 in
theorem hRefresh_at {w : World} {own : Nat → Prop} {g m : Nat} {dc : ByteArray} {rem : Int} {L0 : List (ByteArray × HV)} {V : View} {l : List HV} {A : Option Addr} {n c : Nat} (hT : TabAt w own g m dc rem L0) (hV : ∀ x, (aget x L0).map HV.abs = V x)
    (hl : Lo w w.heap.size 5 (.slice A n c) n (l.flatMap hvC)) (hn : l.length = n) (hn2 : n ≤ 100000) (hL0 : L0.length ≤ 100000) (hk : ∀ x ∈ l, x.toks.length ≤ 1000000 ∧ SlK w (fun k _ => k < w.heap.size) 1 x.tv x.tn (x.toks.map (Value.int .i64))) :
    Calls Tryz.prog 49 #[.pointer (some ⟨g, 0, none⟩), .slice A n c] w (RefPost w own g dc rem V (l.map HV.abs) m) := by
  have c2 := hT.blk.cell 2
  simp only [List.getElem?_toArray, List.getElem?_cons_succ, List.getElem?_cons_zero] at c2
  have hmk := @run_makeMap Tryz.prog
  have hlen := hl.run_len hostsT
  have k0 : KMap .string (fun s : ByteArray => Value.string s) Value.bool (w.alloc (.map #[] 0)) w.heap.size ([] : List (ByteArray × Bool)) := KMap.new w
  obtain ⟨es0, ck0, hup0, hm0⟩ := k0.run_update (P := Tryz.prog) string_emb msbM strU noStr true
  have hup1 : (Instr.mapUpdate 178 (.map (some w.heap.size)) (.string ⟨#[]⟩) (.bool true)).run Tryz.prog (w.alloc (.map #[] 0)) = .ok () (setBlock (w.alloc (.map #[] 0)) w.heap.size (.map es0 ck0)) := hup0
  clear hup0
  have hcm : m < w.heap.size := hT.map.lt
  have START : Hid (RefAt w (setBlock (w.alloc (.map #[] 0)) w.heap.size (.map es0 ck0)) own g m w.heap.size dc rem V [] (.slice none 0 0)) := Lib.hid (by
    have hk1 : Kept noBlock w (setBlock (w.alloc (.map #[] 0)) w.heap.size (.map es0 ck0)) := ((Kept.refl noBlock w).alloc _).trans ((Kept.refl (fun k => k = w.heap.size) _).setBlock (m := w.heap.size) (fun _ => rfl) _) fun i hi e => by omega
    refine ⟨⟨L0, (hT.keptN hk1).wide (fun k e => .inl e) (fun k e => ?_), fun x => by rw [viewR_nil]; exact hV x⟩, ⟨_, hm0, fun x => ?_⟩, ⟨[], addsR_nil V, World.ownsRow_nil _ _ _ _⟩, Nat.le_refl _, hk1.mono fun _ _ e => e.elim⟩
    · rcases e with h | ⟨_, cs, fz, h'⟩
      · exact Nat.lt_of_lt_of_le (hT.lt k h) hk1.size
      · exact lt_of_heap h'
    · rw [aget_aput]
      by_cases e : noStr = x
      · simp [e]
      · simp [e, aget, Ne.symm e])
  have hnoM : ∀ k cs e fz, w.heap[k]? = some (.cells cs e fz) → k ≠ m := fun k cs e fz hh e2 => by
    obtain ⟨es, ck, h⟩ := hT.map.heap
    subst e2
    rw [h] at hh; cases hh
  have HL : Hid (SlK w (fun k _ => k < w.heap.size ∧ k ≠ m) 5 (.slice A n c) n (l.flatMap hvC)) := Lib.hid (hl.anyH fun k cs e fz hh hlt => ⟨hlt, hnoM k cs e fz hh⟩)
  have HKT : Hid (∀ x ∈ l, x.toks.length ≤ 1000000 ∧ SlK w (fun k _ => k < w.heap.size ∧ k ≠ m) 1 x.tv x.tn (x.toks.map (Value.int .i64))) := Lib.hid fun x hx => ⟨(hk x hx).1, (hk x hx).2.anyH fun k cs e fz hh hlt => ⟨hlt, hnoM k cs e fz hh⟩⟩
  have HG := Lib.hid hT.og
  have HOWN := Lib.hid hT.lt
  have HNL := Lib.hid hn
  have HV0 := Lib.hid hV
  have HVN : Hid (V noStr = none) := Lib.hid (by
    rw [← hV]
    cases hg : aget noStr L0 with
    | none => rfl
    | some v => exact absurd rfl (hT.nm _ (aget_mem hg)).2)
  clear hT hV hl hk k0 hm0 hn
  go_enter Tryz.func49, Tryz.ntmps49
  go_wp2_with fail
  go_loopg [6, 20] n (fun j va vi wr => ∃ i : Nat, i + j = n ∧ vi = .int .i64 i ∧ RefAt w wr own g m w.heap.size dc rem V ((l.take i).map HV.abs) va)
  case atStart => exact ⟨0, by omega, rfl, START.out⟩
  case round =>
    obtain ⟨i, hij, rfl, hR⟩ := hrel
    by_cases hi : i < n
    · obtain ⟨x, hx⟩ : ∃ x, l[i]? = some x := ⟨_, List.getElem?_eq_getElem (by have := HNL.out; omega)⟩
      have HR := Lib.hid hR
      have HX := Lib.hid hx
      have HIJ := Lib.hid hij
      have hsl : SlK wr (fun k _ => k < w.heap.size ∧ k ≠ m) 5 (.slice A n c) n (l.flatMap hvC) := HL.out.keptAll hR.kept fun k e h e2 => h.2 e2
      obtain ⟨gr, off, hidx, y0, y1, y2, y3, y4⟩ : ∃ gr off, (∀ kd w', (Instr.indexAt 31 (.slice A n c) (.int kd (i : Int))).run Tryz.prog w' = .ok (.pointer (some ⟨gr, off, none⟩)) w') ∧
          wr.cell? ⟨gr, off, none⟩ = some (.string x.name) ∧ wr.cell? ⟨gr, off + 1, none⟩ = some (.string x.dc) ∧ wr.cell? ⟨gr, off + 2, none⟩ = some (.string x.rack) ∧ wr.cell? ⟨gr, off + 3, none⟩ = some (.slice x.ta x.tn x.tc) ∧ wr.cell? ⟨gr, off + 4, none⟩ = some (.bool x.up) := by
        obtain ⟨gr, off, h1, _, _, h3⟩ := hsl.run_index hostsT (i := (i : Int)) (k := i) rfl hi
        refine ⟨gr, off, h1, h3 0 _ ?_, h3 1 _ ?_, h3 2 _ ?_, h3 3 _ ?_, h3 4 _ ?_⟩ <;> exact (flat_get (k := 5) (fun _ => rfl) l i _ x hx (by decide)).trans rfl
      have hxk := HKT.out x (List.mem_of_getElem? hx)
      obtain ⟨x1, x2, x3, x4, x5, x6, x7, x8⟩ := x
      simp only [] at y0 y1 y2 y3 y4
      have HXK : Hid (x7.length ≤ 1000000 ∧ SlK w (fun k _ => k < w.heap.size ∧ k ≠ m) 1 (.slice x4 x5 x6) x5 (x7.map (Value.int .i64))) := Lib.hid hxk
      obtain ⟨K, k3, k4⟩ := hR.seen
      obtain ⟨AD, hAD1, hAD2⟩ := hR.adds
      have hADn : AD.length ≤ 100000 := by
        have := adds_len hAD1
        rw [List.length_map, List.length_take] at this
        omega
      have kk := k4 x1
      have k5 := (k3.alloc (.cells #[.string x1, .string x2, .string x3, .slice x4 x5 x6, .bool x8] 94)).run_lookup (P := Tryz.prog) string_emb msbM strU (zero_bool _) x1 false
      have hb : Blk (wr.alloc (.cells #[.string x1, .string x2, .string x3, .slice x4 x5 x6, .bool x8] 94)) wr.heap.size 94 #[.string x1, .string x2, .string x3, .slice x4 x5 x6, .bool x8] := Blk.new _ _ _
      have z0 := hb.cell 0
      have z3 := hb.cell 3
      have z4 := hb.cell 4
      simp only [List.getElem?_toArray, List.getElem?_cons_succ, List.getElem?_cons_zero] at z0 z3 z4
      have k6 : ((aget x1 K).map Value.bool).getD (.bool false) = .bool ((aget x1 K).getD false) := by cases aget x1 K <;> rfl
      rw [if_neg (by decide), k6] at k5
      have hti : (l.take (i + 1)).map HV.abs = (l.take i).map HV.abs ++ [HV.abs ⟨x1, x2, x3, x4, x5, x6, x7, x8⟩] := by rw [List.take_add_one, hx, List.map_append]; rfl
      have HTI := Lib.hid hti
      have hka : Kept noBlock wr (wr.alloc (.cells #[.string x1, .string x2, .string x3, .slice x4 x5 x6, .bool x8] 94)) := (Kept.refl noBlock wr).alloc _
      cases hse : (aget x1 K).getD false with
      | true =>
        rw [hse] at k5 kk
        have FIN := Lib.hid ((hR.keptN hka).skip (o := HV.abs ⟨x1, x2, x3, x4, x5, x6, x7, x8⟩) (kk.1 rfl))
        clear hR hx hij k3 k4 kk k6 hb hti hse hsl hka z3 z4 hxk hAD1 hAD2 hADn
        go_wp2_with fail
        go_roundg (n - (i + 1))
        case measure => have := HIJ.out; omega
        case rel => exact ⟨i + 1, by have := HIJ.out; omega, by go_num, by rw [HTI.out]; exact FIN.out⟩
      | false =>
        rw [hse] at k5 kk
        obtain ⟨hne, hns⟩ : x1 ≠ noStr ∧ ¬ ∃ o ∈ (l.take i).map HV.abs, o.name = x1 := ⟨fun e => absurd (kk.2 (.inl e)) (by decide), fun e => absurd (kk.2 (.inr e)) (by decide)⟩
        obtain ⟨es1, ck1, hup2, k7⟩ := (k3.alloc (.cells #[.string x1, .string x2, .string x3, .slice x4 x5 x6, .bool x8] 94)).run_update (P := Tryz.prog) string_emb msbM strU x1 true
        obtain ⟨L, hTL, hTV⟩ := hR.tab
        have HTL := Lib.hid hTL
        have HTV := Lib.hid hTV
        have HNS := Lib.hid hns
        have HNE := Lib.hid hne
        have HK7 := Lib.hid k7
        have HK3 := Lib.hid k3
        have HKK := Lib.hid k4
        have HKA := Lib.hid hka
        have HB := Lib.hid hb
        have HAD1 := Lib.hid hAD1
        have HAD2 := Lib.hid hAD2
        clear hR hx hij k3 k4 kk k6 hb hti hse hsl hka hTL hTV hns hne k7 hxk hAD1 hAD2
        have hk2 : Kept (fun k => k = w.heap.size) wr (setBlock (wr.alloc (.cells #[.string x1, .string x2, .string x3, .slice x4 x5 x6, .bool x8] 94)) w.heap.size (.map es1 ck1)) := (HKA.out.mono fun _ _ e => e.elim).trans ((Kept.refl (fun k => k = w.heap.size) _).setBlock (m := w.heap.size) (fun _ => rfl) _) fun _ _ e => e
        have HK2 := Lib.hid hk2
        have hos : ∀ k, ownI wr w.heap.size own k → k ≠ w.heap.size := by
          rintro k (h | ⟨_, cs, fz, h⟩) e
          · exact absurd (HOWN.out k h) (by omega)
          · obtain ⟨es', ck', hh⟩ := HK3.out.heap
            subst e
            rw [hh] at h; cases h
        have hT2 := HTL.out.kept hk2 hos
        have hb2 : Blk (setBlock (wr.alloc (.cells #[.string x1, .string x2, .string x3, .slice x4 x5 x6, .bool x8] 94)) w.heap.size (.map es1 ck1)) wr.heap.size 94 #[.string x1, .string x2, .string x3, .slice x4 x5 x6, .bool x8] := by
          have h9 := HR.out.kept.size
          have h8 := HK3.out.lt
          exact HB.out.kept ((Kept.refl (fun k => k = w.heap.size) _).setBlock (m := w.heap.size) (fun _ => rfl) _) (fun e => by omega)
        have hz2 : wr.heap.size < (setBlock (wr.alloc (.cells #[.string x1, .string x2, .string x3, .slice x4 x5 x6, .bool x8] 94)) w.heap.size (.map es1 ck1)).heap.size := hb2.lt
        have hrow2 := own_keptB HAD2.out hk2 (fun k e1 e2 => by
          obtain ⟨es', ck', hh⟩ := HK3.out.heap
          exact row_not_map HAD2.out hh (e2 ▸ e1))
        have HROW2 := Lib.hid hrow2
        have HT2 := Lib.hid hT2
        have HB2 := Lib.hid hb2
        have HZ2 := Lib.hid hz2
        have c22 := hT2.blk.cell 2
        have z02 := hb2.cell 0
        simp only [List.getElem?_toArray, List.getElem?_cons_succ, List.getElem?_cons_zero] at c22 z02
        have l1 := (hT2.map.alloc (.cells #[.string ⟨#[]⟩, .string ⟨#[]⟩, .string ⟨#[]⟩, .slice none 0 0, .bool false] 94)).drew.run_lookup (P := Tryz.prog) string_emb mshM strU (zero_host _) x1 true
        have l2 := hT2.map.drew.run_lookup (P := Tryz.prog) string_emb mshM strU (zero_host _) x1 true
        have z03 := (hb2.alloc (.cells #[.string ⟨#[]⟩, .string ⟨#[]⟩, .string ⟨#[]⟩, .slice none 0 0, .bool false] 94)).drew.cell 0
        have c23 := (hT2.blk.alloc (.cells #[.string ⟨#[]⟩, .string ⟨#[]⟩, .string ⟨#[]⟩, .slice none 0 0, .bool false] 94)).drew.cell 2
        simp only [List.getElem?_toArray, List.getElem?_cons_succ, List.getElem?_cons_zero] at z03 c23
        clear hz2 hrow2
        generalize setBlock (wr.alloc (.cells #[.string x1, .string x2, .string x3, .slice x4 x5 x6, .bool x8] 94)) w.heap.size (.map es1 ck1) = W2 at *
        clear hT2 hb2 hk2
        have HO5 : Hid (∀ k, ownI wr w.heap.size own k → ¬ k = wr.heap.size) := Lib.hid fun k h e => by
          have := ownI_lt HOWN.out HR.out.kept.size h
          omega
        cases hag : aget x1 L with
        | none =>
          rw [hag] at l1 l2
          simp only [Option.map_none, Option.getD_none, Option.isSome_none, if_true] at l1 l2
          have hVx : V x1 = none := by
            have h1 := HTV.out x1
            rw [hag, viewR_old HNS.out] at h1
            exact h1.symm
          have HVX := Lib.hid hVx
          have HVE : Hid (∀ TA TN TC, HV.abs ⟨x1, x2, x3, TA, TN, TC, tidyP x7, x8⟩ = updH V (HV.abs ⟨x1, x2, x3, x4, x5, x6, x7, x8⟩)) := Lib.hid fun _ _ _ => by simp [HV.abs, updH, hVx]
          have HW3 : Hid (Kept noBlock W2 (W2.alloc (.cells #[.string noStr, .string noStr, .string noStr, .slice none 0 0, .bool false] 94)).drew) := Lib.hid ((Kept.refl noBlock W2).alloc _).drew
          clear hVx hag
          go_wp2_with fail
          apply onceH
          apply Exists.intro
          apply And.intro
          · intro key
            go_region
            all_goals exact key
          generalize (W2.alloc (.cells #[.string noStr, .string noStr, .string noStr, .slice none 0 0, .bool false] 94)).drew = W3 at *
          have hz3 : wr.heap.size < W3.heap.size := Nat.lt_of_lt_of_le HZ2.out HW3.out.size
          have z33 := (HB2.out.kept HW3.out (fun e => e)).cell 0
          simp only [List.getElem?_toArray, List.getElem?_cons_zero] at z33
          clear l1 z03 c23
          go_wp2_with (at_builtin; go_must (refine wpList_append_sl _ strsT rfl (.tmp 45) (.tmp 48) rfl w.heap.size _ AD.length (AD.map Value.string) rfl (World.ownsRow.alloc (own_keptB HROW2.out HW3.out (fun _ _ e => e)) _) _ 1 [.string x1] rfl (Sl.made_at (Blk.new_at _ 9 #[.string x1] rfl) _ rfl rfl one_max) (by simp [Value.oneCell']) ?c1 ?c2 ?_))
          case c1 => omega
          case c2 => have := HR.out.kept.size; have := HK2.out.size; have := HW3.out.size; simp only [sz_alloc]; omega
          intro v' W5 hap
          have hk35 : Kept (fun k => u6.ownBlock = some k) W3 W5 := ((Kept.refl (fun k => u6.ownBlock = some k) W3).alloc _).trans hap.kept (fun _ _ e => e)
          have HB5 := Lib.hid (((HB2.out.kept HW3.out (fun e => e))).kept hk35 (fun e => Nat.lt_irrefl _ (own_lt HAD2.out e)))
          have HK5 : Hid (Kept (fun k => k = w.heap.size ∨ u6.ownBlock = some k) wr W5) := Lib.hid (((HK2.out.mono (T := fun k => k = w.heap.size ∨ u6.ownBlock = some k) (fun _ _ e => .inl e)).trans HW3.out (fun _ _ e => e.elim)).trans hk35 (fun _ _ e => .inr e))
          have HT5 := Lib.hid ((HT2.out.kept HW3.out (fun _ _ e => e)).kept hk35 (fun k e => ownI_not_row HOWN.out HAD2.out e))
          have HKM5 := Lib.hid ((HK7.out.kept HW3.out (fun e => e)).kept hk35 (fun e => by obtain ⟨es', ck', hh⟩ := HK3.out.heap; exact row_not_map HAD2.out hh e))
          have HRW5 : Hid (∃ AD', addsR V ((l.take i).map HV.abs ++ [HV.abs ⟨x1, x2, x3, x4, x5, x6, x7, x8⟩]) AD' ∧ W5.ownsRow w.heap.size 9 1 v' AD'.length (AD'.map Value.string)) := Lib.hid ⟨AD ++ [x1], addsR_new (h := HV.abs ⟨x1, x2, x3, x4, x5, x6, x7, x8⟩) HNE.out HNS.out HVX.out HAD1.out, by simpa using hap.own⟩
          have hz5 : wr.heap.size < W5.heap.size := Nat.lt_of_lt_of_le hz3 hk35.size
          have HZ5 := Lib.hid hz5
          have HSZ5 := Lib.hid (Nat.le_of_lt hz5)
          have HVB : Hid (∀ k, v'.ownBlock = some k → k ≠ wr.heap.size) := Lib.hid fun k e e2 => by
            rcases hap.at_ with h1 | h1
            · rw [h1] at e
              have := own_lt HAD2.out e
              omega
            · rw [h1] at e
              injection e with e
              simp only [sz_alloc] at e
              omega
          have HTY := htidy_n (w := W5) ((HXK.out.2.keptAll HR.out.kept fun k e h e2 => h.2 e2).keptAll HK5.out fun k e h e2 => by
            rcases e2 with e2 | e2
            · have := h.1; omega
            · have := (own_type HAD2.out e2).1; have := h.1; omega) HXK.out.1
          have z35 := HB5.out.cell 3
          simp only [List.getElem?_toArray, List.getElem?_cons_succ, List.getElem?_cons_zero] at z35
          clear hap hk35 hz3 hz5 l2 c22 z02 z33 z0 z3 z4 y0 y1 y2 y3 y4 hidx
          go_wp2_with fail
          skip
          refine HTY.mono ?_
          rintro e w6 ⟨TA, TN, TC, rfl, hts, htk⟩
          have hb6 := HB5.out.kept htk (fun e => e)
          have z63 := hb6.cell 3
          have f63 := hb6.frozen 3
          simp only [List.getElem?_toArray, List.getElem?_cons_succ, List.getElem?_cons_zero] at z63
          have hb7 := hb6.set_ 3 (.slice TA TN TC)
          have hk7 : Kept (fun k => k = w.heap.size ∨ u6.ownBlock = some k) wr (w6.setCell ⟨wr.heap.size, 3, none⟩ (.slice TA TN TC)) := (HK5.out.trans htk fun _ _ e => e.elim).setCell (p := ⟨wr.heap.size, 3, none⟩) (fun h => absurd h (Nat.lt_irrefl _)) _
          have hk57 : Kept (fun k => k = wr.heap.size) W5 (w6.setCell ⟨wr.heap.size, 3, none⟩ (.slice TA TN TC)) := (htk.of_none (S := fun k => k = wr.heap.size)).setCell (p := ⟨wr.heap.size, 3, none⟩) (fun _ => rfl) _
          have hT7 := HT5.out.kept hk57 HO5.out
          have c7 := hT7.blk.cell 2
          have y0 := hb7.cell 0
          have y1 := hb7.cell 1
          have y2 := hb7.cell 2
          have y3 := hb7.cell 3
          have y4 := hb7.cell 4
          simp only [List.getElem?_toArray, List.getElem?_cons_succ, List.getElem?_cons_zero, List.setIfInBounds_toArray, List.set_cons_succ, List.set_cons_zero] at c7 y0 y1 y2 y3 y4
          obtain ⟨es2, ck2, hup3, hm3⟩ := (hT7.map.drew).run_update (P := Tryz.prog) string_emb mshM strU x1 (⟨x1, x2, x3, TA, TN, TC, tidyP x7, x8⟩ : HV)
          simp only [hvV] at hup3
          have hts7 := hts.keptAll ((Kept.refl (fun k => k = wr.heap.size) w6).setCell (p := ⟨wr.heap.size, 3, none⟩) (fun _ => rfl) (.slice TA TN TC)) (fun k e h e2 => by have := HZ5.out; have := h.1; omega)
          have HTS7 := Lib.hid hts7
          have HK7' := Lib.hid hk7
          have HT7 := Lib.hid hT7
          have HM3 := Lib.hid hm3
          have HKM7 := Lib.hid (HKM5.out.kept hk57 (fun e => by have h1 := HR.out.kept.size; have h2 := HK3.out.lt; have e2 : w.heap.size = wr.heap.size := e; omega))
          have HRW7 := Lib.hid (HRW5.out.imp fun AD' h => And.intro h.1 (own_keptB h.2 hk57 (fun k e1 e2 => HVB.out k e1 e2)))
          clear hts htk hb6 hb7 hk7 hk57 hT7 hm3 hts7
          skip
          go_wp2_with fail
          generalize w6.setCell ⟨wr.heap.size, 3, none⟩ (.slice TA TN TC) = W7 at *
          go_region
          go_wp2_with fail
          go_roundg (n - (i + 1))
          case measure => have := HIJ.out; omega
          case rel =>
            refine ⟨i + 1, by have := HIJ.out; omega, by go_num, ?_⟩
            rw [HTI.out]
            obtain ⟨AD', hAD1, hAD2⟩ := HRW7.out
            obtain ⟨AD, hAD3, hAD4⟩ := HR.out.adds
            have hts := HTS7.out
            exact ref_enter HOWN.out HTL.out HTV.out HK3.out HKK.out hAD4 HR.out.new HR.out.kept HK7'.out.drew HKM7.out.drew hAD1 (World.ownsRow.drew hAD2) HNE.out HNS.out (HVE.out _ _ _) (hts.drew.any fun b e _ h => ⟨Nat.le_trans (Nat.le_trans HR.out.kept.size HSZ5.out) h.1, h.2⟩) HM3.out
        | some v =>
          have hVx : V x1 = some v.abs := by
            have h1 := HTV.out x1
            rw [hag, viewR_old HNS.out] at h1
            exact h1.symm
          obtain ⟨n1, n2, n3, ta, tn, tc, tk, vu⟩ := v
          rw [hag] at l1 l2
          simp only [Option.map_some, Option.getD_some, Option.isSome_some, if_true, hvV] at l1 l2
          have HVX : Hid (V x1 ≠ none) := Lib.hid (by rw [hVx]; exact fun e => by cases e)
          have HVE : Hid (∀ TA TN TC, HV.abs ⟨x1, x2, x3, TA, TN, TC, tidyP x7, vu⟩ = updH V (HV.abs ⟨x1, x2, x3, x4, x5, x6, x7, x8⟩)) := Lib.hid fun _ _ _ => by simp [HV.abs, updH, hVx]
          have HW3 : Hid (Kept noBlock W2 (W2.alloc (.cells #[.string n1, .string n2, .string n3, .slice ta tn tc, .bool vu] 94)).drew) := Lib.hid ((Kept.refl noBlock W2).alloc _).drew
          have hb3 : Blk (W2.alloc (.cells #[.string n1, .string n2, .string n3, .slice ta tn tc, .bool vu] 94)).drew W2.heap.size 94 #[.string n1, .string n2, .string n3, .slice ta tn tc, .bool vu] := (Blk.new _ _ _).drew
          have w44 := hb3.cell 4
          simp only [List.getElem?_toArray, List.getElem?_cons_succ, List.getElem?_cons_zero] at w44
          clear hVx hag hb3
          go_wp2_with fail
          apply onceH
          apply Exists.intro
          apply And.intro
          · intro key
            go_region
            all_goals exact key
          generalize (W2.alloc (.cells #[.string n1, .string n2, .string n3, .slice ta tn tc, .bool vu] 94)).drew = W3 at *
          have hz3 : wr.heap.size < W3.heap.size := Nat.lt_of_lt_of_le HZ2.out HW3.out.size
          have hb33 := HB2.out.kept HW3.out (fun e => e)
          have f34 := hb33.frozen 4
          have z34 := hb33.cell 4
          have z35 := hb33.cell 3
          simp only [List.getElem?_toArray, List.getElem?_cons_succ, List.getElem?_cons_zero] at z34 z35
          have hb5 : Blk (W3.setCell ⟨wr.heap.size, 4, none⟩ (.bool vu)) wr.heap.size 94 #[.string x1, .string x2, .string x3, .slice x4 x5 x6, .bool vu] := hb33.set_ 4 (.bool vu)
          have hk35 : Kept (fun k => k = wr.heap.size) W3 (W3.setCell ⟨wr.heap.size, 4, none⟩ (.bool vu)) := (Kept.refl (fun k => k = wr.heap.size) W3).setCell (p := ⟨wr.heap.size, 4, none⟩) (fun _ => rfl) _
          have hk5 : Kept (fun k => k = w.heap.size ∨ u6.ownBlock = some k) wr (W3.setCell ⟨wr.heap.size, 4, none⟩ (.bool vu)) := ((HK2.out.mono (T := fun k => k = w.heap.size ∨ u6.ownBlock = some k) (fun _ _ e => .inl e)).trans HW3.out (fun _ _ e => e.elim)).setCell (p := ⟨wr.heap.size, 4, none⟩) (fun h => absurd h (Nat.lt_irrefl _)) _
          have HB5 := Lib.hid hb5
          have HK5 := Lib.hid hk5
          have HT5 := Lib.hid ((HT2.out.kept HW3.out (fun _ _ e => e)).kept hk35 HO5.out)
          have HKM5 := Lib.hid ((HK7.out.kept HW3.out (fun e => e)).kept hk35 (fun e => by have h1 := HR.out.kept.size; have h2 := HK3.out.lt; have e2 : w.heap.size = wr.heap.size := e; omega))
          have HRW5 : Hid (∃ AD', addsR V ((l.take i).map HV.abs ++ [HV.abs ⟨x1, x2, x3, x4, x5, x6, x7, x8⟩]) AD' ∧ (W3.setCell ⟨wr.heap.size, 4, none⟩ (.bool vu)).ownsRow w.heap.size 9 1 u6 AD'.length (AD'.map Value.string)) := Lib.hid ⟨AD, addsR_old (h := HV.abs ⟨x1, x2, x3, x4, x5, x6, x7, x8⟩) HNE.out HNS.out HVX.out HAD1.out, own_keptB (own_keptB HROW2.out HW3.out (fun _ _ e => e)) hk35 (fun k e1 e2 => by have := own_lt HAD2.out e1; omega)⟩
          have HZ5 : Hid (wr.heap.size < (W3.setCell ⟨wr.heap.size, 4, none⟩ (.bool vu)).heap.size) := Lib.hid hb5.lt
          have HSZ5 := Lib.hid (Nat.le_of_lt HZ5.out)
          have HVB : Hid (∀ k, u6.ownBlock = some k → k ≠ wr.heap.size) := Lib.hid fun k e e2 => by
            have := own_lt HAD2.out e
            omega
          have HTY := htidy_n (w := W3.setCell ⟨wr.heap.size, 4, none⟩ (.bool vu)) ((HXK.out.2.keptAll HR.out.kept fun k e h e2 => h.2 e2).keptAll HK5.out fun k e h e2 => by
            rcases e2 with e2 | e2
            · have := h.1; omega
            · have := (own_type HAD2.out e2).1; have := h.1; omega) HXK.out.1
          clear hb5 hk35 hk5 hb33 hz3 l1 l2 c22 c23 z02 z03 z0 z3 z4 y0 y1 y2 y3 y4 hidx
          go_wp2_with fail
          generalize W3.setCell ⟨wr.heap.size, 4, none⟩ (.bool vu) = W5 at *
          skip
          refine HTY.mono ?_
          rintro e w6 ⟨TA, TN, TC, rfl, hts, htk⟩
          have hb6 := HB5.out.kept htk (fun e => e)
          have z63 := hb6.cell 3
          have f63 := hb6.frozen 3
          simp only [List.getElem?_toArray, List.getElem?_cons_succ, List.getElem?_cons_zero] at z63
          have hb7 := hb6.set_ 3 (.slice TA TN TC)
          have hk7 : Kept (fun k => k = w.heap.size ∨ u6.ownBlock = some k) wr (w6.setCell ⟨wr.heap.size, 3, none⟩ (.slice TA TN TC)) := (HK5.out.trans htk fun _ _ e => e.elim).setCell (p := ⟨wr.heap.size, 3, none⟩) (fun h => absurd h (Nat.lt_irrefl _)) _
          have hk57 : Kept (fun k => k = wr.heap.size) W5 (w6.setCell ⟨wr.heap.size, 3, none⟩ (.slice TA TN TC)) := (htk.of_none (S := fun k => k = wr.heap.size)).setCell (p := ⟨wr.heap.size, 3, none⟩) (fun _ => rfl) _
          have hT7 := HT5.out.kept hk57 HO5.out
          have c7 := hT7.blk.cell 2
          have y0 := hb7.cell 0
          have y1 := hb7.cell 1
          have y2 := hb7.cell 2
          have y3 := hb7.cell 3
          have y4 := hb7.cell 4
          simp only [List.getElem?_toArray, List.getElem?_cons_succ, List.getElem?_cons_zero, List.setIfInBounds_toArray, List.set_cons_succ, List.set_cons_zero] at c7 y0 y1 y2 y3 y4
          obtain ⟨es2, ck2, hup3, hm3⟩ := (hT7.map.drew).run_update (P := Tryz.prog) string_emb mshM strU x1 (⟨x1, x2, x3, TA, TN, TC, tidyP x7, vu⟩ : HV)
          simp only [hvV] at hup3
          have hts7 := hts.keptAll ((Kept.refl (fun k => k = wr.heap.size) w6).setCell (p := ⟨wr.heap.size, 3, none⟩) (fun _ => rfl) (.slice TA TN TC)) (fun k e h e2 => by have := HZ5.out; have := h.1; omega)
          have HTS7 := Lib.hid hts7
          have HK7' := Lib.hid hk7
          have HT7 := Lib.hid hT7
          have HM3 := Lib.hid hm3
          have HKM7 := Lib.hid (HKM5.out.kept hk57 (fun e => by have h1 := HR.out.kept.size; have h2 := HK3.out.lt; have e2 : w.heap.size = wr.heap.size := e; omega))
          have HRW7 := Lib.hid (HRW5.out.imp fun AD' h => And.intro h.1 (own_keptB h.2 hk57 (fun k e1 e2 => HVB.out k e1 e2)))
          clear hts htk hb6 hb7 hk7 hk57 hT7 hm3 hts7
          skip
          go_wp2_with fail
          generalize w6.setCell ⟨wr.heap.size, 3, none⟩ (.slice TA TN TC) = W7 at *
          go_region
          go_wp2_with fail
          go_roundg (n - (i + 1))
          case measure => have := HIJ.out; omega
          case rel =>
            refine ⟨i + 1, by have := HIJ.out; omega, by go_num, ?_⟩
            rw [HTI.out]
            obtain ⟨AD', hAD1, hAD2⟩ := HRW7.out
            obtain ⟨AD, hAD3, hAD4⟩ := HR.out.adds
            have hts := HTS7.out
            exact ref_enter HOWN.out HTL.out HTV.out HK3.out HKK.out hAD4 HR.out.new HR.out.kept HK7'.out.drew HKM7.out.drew hAD1 (World.ownsRow.drew hAD2) HNE.out HNS.out (HVE.out _ _ _) (hts.drew.any fun b e _ h => ⟨Nat.le_trans (Nat.le_trans HR.out.kept.size HSZ5.out) h.1, h.2⟩) HM3.out
    · obtain rfl : i = n := by omega
      obtain ⟨wl, rfl⟩ : ∃ wl : World, wl = wr := ⟨_, rfl⟩
      have HTK : Hid ((l.take i).map HV.abs = l.map HV.abs) := Lib.hid (by rw [List.take_of_length_le (by have := HNL.out; omega)])
      rw [HTK.out] at hR
      obtain ⟨L, hTL, hTV⟩ := hR.tab
      obtain ⟨K, k3, k4⟩ := hR.seen
      obtain ⟨AD, hAD1, hAD2⟩ := hR.adds
      have hLn : L.length ≤ 200000 := by
        have := view_len HV0.out hTV hTL.nd
        rw [List.length_map, HNL.out] at this
        omega
      have hADn : AD.length ≤ 1000000 := by
        have := adds_len hAD1
        rw [List.length_map, HNL.out] at this
        omega
      obtain ⟨es, ck, hh, hst, hLs⟩ := hTL.map
      have hrg := run_range_map (P := Tryz.prog) wl 133 9 94 m es ck mshM hh
      have c2r := hTL.blk.cell 2
      simp only [List.getElem?_toArray, List.getElem?_cons_succ, List.getElem?_cons_zero] at c2r
      have ST2 : Hid (DelAt w (wl.alloc (.mapIter (some m) ck #[] ck)) own g m w.heap.size wl.heap.size ck dc rem (viewR V (l.map HV.abs)) K AD u6 (.slice none 0 0) es L #[] ck []) := Lib.hid (DelAt.start HOWN.out hR k3 hAD2 hTL hTV hh hst hLs ((Kept.refl noBlock wl).alloc _) (heap_alloc_new wl _))
      have HAD1 := Lib.hid hAD1
      have HK4 := Lib.hid k4
      have HLV := Lib.hid hTV
      have HSP : Hid (w.heap.size < wl.heap.size) := Lib.hid k3.lt
      clear hR hTL hTV k3 k4 hAD1 hAD2 hst hLs hij START HL HKT
      go_wp2_with fail
      generalize wl.heap.size = Rr at *
      go_loopw [7] (fun vg wr => ∃ es L seen c0 G, DelAt w wr own g m w.heap.size Rr ck dc rem (viewR V (l.map HV.abs)) K AD u6 vg es L seen c0 G) (fun _ wr => (leftOf (entsOf wr m) (wr.iterSeen Rr)).size)
      case atStart => exact ⟨_, _, _, _, _, ST2.out⟩
      case round =>
        obtain ⟨es, L, seen, c0, G, hD⟩ := hrel
        have HD := Lib.hid hD
        have law := run_next_at (P := Tryz.prog) wr 0 Rr m ck c0 seen es ck hD.it hD.hh hD.st.1 hD.le
        have hGn : G.length ≤ 200000 := by
          have := gone_len HLV.out hD.nd fun x hx => (hD.gone x hx).2
          omega
        rcases law with ⟨h0, hrun⟩ | ⟨e, he, w2, hw2, hrun⟩
        · have hnx : ∀ ty, (Instr.next (.pointer (some ⟨Rr, 0, none⟩)) false ty).run Tryz.prog wr = _ := fun _ => hrun
          have HDN := Lib.hid (hD.done h0 (fun _ => rfl) HVN.out HK4.out)
          have HS1 := SSort_at (hD.fam.get 0 rfl) hADn
          clear hD h0
          go_wp2_with fail
          refine HS1.mono ?_
          rintro e w3 ⟨rfl, ho3, hk3⟩
          have ho3g : w3.ownsRow w.heap.size 9 1 u7 G.length (G.map Value.string) := own_keptB (HD.out.fam.get 1 rfl) hk3 (fun k e1 e2 => HD.out.fam.2 0 1 _ _ (by decide) rfl rfl k e2 e1)
          have HS2 := SSort_at ho3g (by omega)
          have HO3 := Lib.hid ho3
          have HK3' := Lib.hid hk3
          clear ho3 hk3 ho3g HS1
          go_wp2_with fail
          refine HS2.mono ?_
          rintro e w4 ⟨rfl, ho4, hk4⟩
          have ho3a := own_keptB HO3.out hk4 (fun k e1 e2 => HD.out.fam.2 0 1 _ _ (by decide) rfl rfl k e1 e2)
          have HO4 := Lib.hid ho4
          have HO3A := Lib.hid ho3a
          have HK4' := Lib.hid hk4
          clear ho4 ho3a hk4 HS2
          go_wp2
          go_ret2
          have hown3 : ∀ (u : Value) (q : Nat) (ys : List Value) (W : World), W.ownsRow w.heap.size 9 1 u q ys → ∀ k, ownI W w.heap.size own k → ¬ u.ownBlock = some k := fun u q ys W hu k hk => ownI_not_row HOWN.out hu hk
          have e1 : (sortN AD).length = AD.length := (sortN_perm AD).length_eq
          have e2 : (sortN G).length = G.length := (sortN_perm G).length_eq
          have hd := HD.out
          have t3 := hd.tab.kept HK3'.out (fun k hk => hown3 _ _ _ _ (hd.fam.get 0 rfl) k hk)
          have hrow3 : w3.ownsRow w.heap.size 9 1 u7 G.length (G.map Value.string) := own_keptB (hd.fam.get 1 rfl) HK3'.out (fun k e1 e2 => hd.fam.2 0 1 _ _ (by decide) rfl rfl k e2 e1)
          have t4 := t3.kept HK4'.out (fun k hk => hown3 _ _ _ _ (hd.fam.get 1 rfl) k hk)
          have ki : ∀ k, ownI wr w.heap.size own k → ownI w4 w.heap.size own k := by
            rintro k (h | ⟨h1, cs, fz, h2⟩)
            · exact .inl h
            · have hI : ownI wr w.heap.size own k := .inr ⟨h1, cs, fz, h2⟩
              have h3 := (HK3'.out.block k (lt_of_heap h2) (hown3 _ _ _ _ (hd.fam.get 0 rfl) k hI)).trans h2
              exact .inr ⟨h1, cs, fz, (HK4'.out.block k (lt_of_heap h3) (hown3 _ _ _ _ (hd.fam.get 1 rfl) k hI)).trans h3⟩
          have hs4 : w.heap.size ≤ w4.heap.size := Nat.le_trans hd.kept.size (Nat.le_trans HK3'.out.size HK4'.out.size)
          refine ⟨u6, u7, AD, G, L, rfl, by rw [e1]; exact HO3A.out, by rw [e2]; exact HO4.out, HAD1.out, hd.nd, HDN.out.2, t4.wide ki (fun k e => ownI_lt HOWN.out hs4 e), HDN.out.1, (hd.kept.trans HK3'.out fun k hlt e => ?_).trans HK4'.out fun k hlt e => ?_⟩
          · have := (own_type (hd.fam.get 0 rfl) e).1; omega
          · have := (own_type (hd.fam.get 1 rfl) e).1; omega
        · have hem := mem_left he
          obtain ⟨x, hv, hek, hev⟩ : ∃ (x : ByteArray) (v : HV), e.key = .string x ∧ e.val = hvV v := by
            obtain ⟨j, hj⟩ := List.getElem?_of_mem hem.1
            have h1 := congrArg (fun l => l[j]?) hD.hL
            simp only [List.getElem?_map, hj, Option.map_some] at h1
            cases hp : L[j]? with
            | none => rw [hp] at h1; simp at h1
            | some p =>
              rw [hp] at h1
              simp only [Option.map_some, Option.some.injEq, Prod.mk.injEq] at h1
              exact ⟨p.1, p.2, h1.1, h1.2⟩
          obtain ⟨v1, v2, v3, v4, v5, v6, v7, v8⟩ := hv
          rw [hek, hev] at hrun
          have hnx : ∀ ty, (Instr.next (.pointer (some ⟨Rr, 0, none⟩)) false ty).run Tryz.prog wr = _ := fun _ => hrun
          have hk2 : Kept (fun k => k = Rr) wr (setBlock w2 Rr (.mapIter (some m) ck (seen.push e.born) ck)) := by
            have : Kept (fun k => k = Rr) wr w2 := by
              rcases hw2 with rfl | rfl
              · exact Kept.refl _ _
              · exact (Kept.refl _ _).drew
            exact this.setBlock (m := Rr) (fun _ => rfl) _
          have hr2 : (setBlock w2 Rr (.mapIter (some m) ck (seen.push e.born) ck)).heap[Rr]? = some (.mapIter (some m) ck (seen.push e.born) ck) := heap_setBlock_me (by rcases hw2 with rfl | rfl <;> exact lt_of_heap hD.it) _
          have hRm : m ≠ Rr := fun e => by have := hD.hh; rw [e, hD.it] at this; cases this
          have hRs : w.heap.size ≠ Rr := fun e => by obtain ⟨es', ck', hh'⟩ := hD.names.heap; rw [e, hD.it] at hh'; cases hh'
          have hRg : g ≠ Rr := fun e => by have := hD.tab.blk; unfold Blk at this; rw [e, hD.it] at this; cases this
          have hb2 : (setBlock w2 Rr (.mapIter (some m) ck (seen.push e.born) ck)).heap[m]? = some (.map es ck) := (hk2.block m (lt_of_heap hD.hh) hRm).trans hD.hh
          have hen := run_entry_at (P := Tryz.prog) (setBlock w2 Rr (.mapIter (some m) ck (seen.push e.born) ck)) Rr m ck seen es ck e hr2 hb2 hem.1 hD.st.2.1
          rw [hek, hev] at hen
          have k6 : ((aget x K).map Value.bool).getD (.bool false) = .bool ((aget x K).getD false) := by cases aget x K <;> rfl
          have k5 := (hD.names.kept hk2 hRs).run_lookup (P := Tryz.prog) string_emb msbM strU (zero_bool _) x false
          rw [if_neg (by decide), k6] at k5
          have c23 := (hD.tab.blk.kept hk2 hRg).cell 2
          simp only [List.getElem?_toArray, List.getElem?_cons_succ, List.getElem?_cons_zero] at c23
          simp only [hvV] at hrun hnx hen
          have HEM := Lib.hid hem.1
          have HEK := Lib.hid hek
          have HR2 := Lib.hid hr2
          have HB2 := Lib.hid hb2
          have HK2 := Lib.hid hk2
          have HMS := Lib.hid (left_shrinks es seen e he)
          cases hse : (aget x K).getD false with
          | true =>
            rw [hse] at k5
            have HFIN := Lib.hid (hD.pass hem.1 hek hse hk2 hr2 HOWN.out)
            have HM1 := Lib.hid (entsOf_is hD.hh)
            have HM2 := Lib.hid (iterSeen_is hD.it)
            clear hD he hem hek hev hk2 hr2 hb2 hse k6 hw2 hRm hRs hRg
            go_wp2_with fail
            go_roundw
            case rel => exact ⟨_, _, _, _, _, HFIN.out⟩
            case measure =>
              rw [entsOf_is HFIN.out.hh, iterSeen_is HFIN.out.it, HM1.out, HM2.out]
              exact HMS.out
          | false =>
            rw [hse] at k5
            have HSE := Lib.hid hse
            have HM1 := Lib.hid (entsOf_is hD.hh)
            have HM2 := Lib.hid (iterSeen_is hD.it)
            have HFAM : Hid (Fam (setBlock w2 Rr (.mapIter (some m) ck (seen.push e.born) ck)) w.heap.size [⟨9, 1, u6, AD.length, AD.map Value.string⟩, ⟨9, 1, u7, G.length, G.map Value.string⟩]) := Lib.hid ⟨fun i r hr => own_keptB (hD.fam.1 i r hr) hk2 (fun k e1 e2 => by
              obtain ⟨_, cs, hc⟩ := own_type (hD.fam.1 i r hr) e1
              rw [e2, hD.it] at hc; cases hc), hD.fam.2⟩
            have HC2 : Hid (Blk (setBlock w2 Rr (.mapIter (some m) ck (seen.push e.born) ck)) g 135 #[.string dc, .int .i64 rem, .map (some m)]) := Lib.hid (hD.tab.blk.kept hk2 hRg)
            clear hD he hem hek hev hk2 hr2 hb2 hse k6 hw2 hRm hRs hRg c23
            generalize setBlock w2 Rr (.mapIter (some m) ck (seen.push e.born) ck) = w3 at *
            go_wp2_with (at_builtin; go_must (refine wpList_append_sl _ strsT rfl (.tmp 75) (.tmp 77) rfl w.heap.size _ G.length (G.map Value.string) rfl ((HFAM.out.keptN ((Kept.refl noBlock _).alloc _)).get 1 rfl) _ 1 [.string x] rfl (Sl.made_at (Blk.new_at _ 9 #[.string x] rfl) _ rfl rfl one_max) (by simp [Value.oneCell']) ?c1 ?c2 ?_))
            case c1 => omega
            case c2 => have := HD.out.kept.size; have := HK2.out.size; simp only [sz_alloc]; omega
            intro v' W hap
            have hkw : Kept (fun k => u7.ownBlock = some k) w3 W := ((Kept.refl (fun k => u7.ownBlock = some k) w3).alloc _).trans hap.kept (fun _ _ e => e)
            have hfam := HFAM.out.app 1 rfl ((Kept.refl noBlock w3).alloc (.cells #[.string x] 9)) hap
            have hmW : W.heap[m]? = some (.map es ck) := (hkw.block m (lt_of_heap HB2.out) (fun e => row_not_map (HFAM.out.get 1 rfl) HB2.out e)).trans HB2.out
            have hrw7 : w3.ownsRow w.heap.size 9 1 u7 G.length (G.map Value.string) := HFAM.out.get 1 rfl
            have hgW : Blk W g 135 #[.string dc, .int .i64 rem, .map (some m)] := HC2.out.kept hkw (fun e => by
              obtain ⟨_, cs, hc⟩ := own_type hrw7 e
              have := HC2.out
              unfold Blk at this
              rw [this] at hc; injection hc with hc; injection hc with _ hc; exact absurd hc (by decide))
            have hiW : W.heap[Rr]? = some (.mapIter (some m) ck (seen.push e.born) ck) := (hkw.block Rr (lt_of_heap HR2.out) (fun e => by
              obtain ⟨_, cs, hc⟩ := own_type (HFAM.out.get 1 rfl) e
              rw [HR2.out] at hc; cases hc)).trans HR2.out
            obtain ⟨es', hdel, hst', hL', hsub⟩ := run_delete_at (P := Tryz.prog) hmW HD.out.st HD.out.hL string_emb mshM strU x
            have cW := hgW.cell 2
            simp only [List.getElem?_toArray, List.getElem?_cons_succ, List.getElem?_cons_zero] at cW
            have HFIN := Lib.hid (HD.out.drop (v := ⟨v1, v2, v3, v4, v5, v6, v7, v8⟩) HEM.out HEK.out HSE.out ((HK2.out.mono (T := fun k => k = Rr ∨ u7.ownBlock = some k) (fun _ _ e => .inl e)).trans hkw (fun _ _ e => .inr e)) hiW (by simpa using hfam) hst' hL' hsub HOWN.out)
            have HMS2 := Lib.hid (Nat.lt_of_le_of_lt (left_sub hsub (seen.push e.born)) HMS.out)
            clear hap hkw hfam hmW hgW hrw7 hiW hst' hL' hsub hrun hnx hen k5
            go_wp2_with fail
            go_roundw
            case rel => exact ⟨_, _, _, _, _, HFIN.out⟩
            case measure =>
              rw [entsOf_is HFIN.out.hh, iterSeen_is HFIN.out.it, HM1.out, HM2.out]
              exact HMS2.out
end Go.Proofs.YtdcdefkloibfnaaGreatDoor
namespace Go.Proofs.YtdcdefkloibfnaaGreatDoor
set_option linter.unusedVariables false
open Go.RowKit
open Go.ChangeMaps (setBlock)

theorem hAllN_at (w : World) : Calls Tryz.prog 21 #[.pointer none] w fun e w' => e = .returned (.slice none 0 0) ∧ w' = w := by
  go_enter Tryz.func21, Tryz.ntmps21
  go_wp2
  go_ret
  exact ⟨rfl, rfl⟩
theorem hRefreshN_at (v : Value) (w : World) : Calls Tryz.prog 49 #[.pointer none, v] w fun e w' => e = .returned (.tuple #[.slice none 0 0, .slice none 0 0]) ∧ w' = w := by
  go_enter Tryz.func49, Tryz.ntmps49
  go_wp2
  go_ret2
  exact ⟨rfl, rfl⟩
/-- Hosts that are handed back, in new memory. -/
structure Told (w w' : World) (A : Option Addr) (n c : Nat) (T : List HV) (S : List Ho) : Prop where
  abs : T.map HV.abs = S
  len : T.length = n
  row : w'.ownsRow w.heap.size 94 5 (.slice A n c) n (T.flatMap hvC)
  toksO : ∀ x ∈ T, w'.ownsRow w.heap.size 2 1 (.slice x.ta x.tn x.tc) x.tn (x.toks.map (Value.int .i64))
theorem Told.kept {w w' w2 : World} {A : Option Addr} {n c : Nat} {T : List HV} {S : List Ho} {R : Nat → Prop} (h : Told w w' A n c T S) (hk : Kept R w' w2) (hR : ∀ k, w.heap.size ≤ k → ¬ R k) : Told w w2 A n c T S :=
  ⟨h.abs, h.len, own_keptB h.row hk fun k e e2 => hR k (own_type h.row e).1 e2, fun x hx => own_keptB (h.toksO x hx) hk fun k e e2 => hR k (own_type (h.toksO x hx) e).1 e2⟩
theorem Told.toks {w w' : World} {A : Option Addr} {n c : Nat} {T : List HV} {S : List Ho} (h : Told w w' A n c T S) : ∀ x ∈ T, SlK w' (fun k e => w.heap.size ≤ k ∧ e = 2) 1 (.slice x.ta x.tn x.tc) x.tn (x.toks.map (Value.int .i64)) := fun x hx => SlK.of_ownB (h.toksO x hx)
theorem hAll_told {w : World} {own : Nat → Prop} {g : Nat} {dc : ByteArray} {rem : Int} {S : List Ho} (hT : TabS w own g dc rem S) (hS : S.length ≤ 100000) (hk : ∀ o ∈ S, o.toks.length ≤ 1000000) :
    Calls Tryz.prog 21 #[.pointer (some ⟨g, 0, none⟩)] w fun e w' => ∃ A n c T, e = .returned (.slice A n c) ∧ Told w w' A n c T S ∧ Kept noBlock w w' := by
  obtain ⟨m, L, h1, h2, h3⟩ := hT
  have hp := tab_perm h1.nd h1.nm h2 h3
  have hL : L.length ≤ 100000 := by
    have := hp.length_eq
    rw [List.length_map] at this
    omega
  refine (hAll_at h1 hL fun p hpL => ?_).mono ?_
  · have h4 := (h1.ot p hpL).len
    rw [List.length_map, Nat.mul_one] at h4
    rw [← h4]
    exact hk p.2.abs (hp.mem_iff.1 (List.mem_map.2 ⟨p, hpL, rfl⟩))
  · rintro e w' ⟨v, T, rfl, q1, q2, q3, q4, q5⟩
    obtain ⟨A, c, rfl, -, -⟩ := (Sl.of_own q3).shape
    refine ⟨A, T.length, c, T, rfl, ⟨?_, rfl, q3, q4⟩, q5⟩
    have q6 : (T.map HV.abs).Perm S := q1.trans hp
    have q7 : (T.map HV.abs).Pairwise (fun a b => ¬ nlt b.name a.name) := List.pairwise_map.2 q2
    have q8 : (T.map HV.abs).Pairwise (fun a b => a.name ≠ b.name) := (q6.pairwise_iff (fun {a b} h e => h e.symm)).2 (rising_ne h2)
    have q9 : risingH (T.map HV.abs) := by
      refine List.Pairwise.imp (fun {a b} h => ?_) (q7.and q8)
      exact Classical.byContradiction fun hn => h.2 (nlt_tri hn h.1)
    exact List.Perm.eq_of_pairwise (fun a b _ _ h1 h2 => absurd h2 (nlt_asymm h1)) q9 h2 q6
theorem pairs_snoc (l : List Ho) (h : Ho) : pairsH (l ++ [h]) = pairsH l ++ h.toks.map fun k => (k, h.name) := by unfold pairsH; rw [List.flatMap_append]; simp
theorem pairs_le {l : List Ho} {b : Nat} (h : ∀ o ∈ l, o.toks.length ≤ b) : (pairsH l).length ≤ l.length * b := by
  unfold pairsH
  induction l with
  | nil => simp
  | cons a l ih =>
    rw [List.flatMap_cons, List.length_append, List.length_map, List.length_cons, Nat.add_mul]
    have h1 := ih fun o ho => h o (List.mem_cons_of_mem _ ho)
    have h2 := h a (List.mem_cons_self ..)
    omega
end Go.Proofs.YtdcdefkloibfnaaGreatDoor
namespace Go.Proofs.YtdcdefkloibfnaaGreatDoor
set_option linter.unusedVariables false
open Go.RowKit

/-- How many of the first k are of the center d. -/
def sameN (S : List Ho) (d : ByteArray) (k : Nat) : Nat := ((S.take k).filter fun o => decide (o.dc = d)).length
theorem sameN_zero (S : List Ho) (d : ByteArray) : sameN S d 0 = 0 := rfl
theorem sameN_succ {S : List Ho} {k : Nat} {h : Ho} (hk : S[k]? = some h) (d : ByteArray) : sameN S d (k + 1) = sameN S d k + if h.dc = d then 1 else 0 := by
  unfold sameN
  rw [List.take_add_one, hk, List.filter_append, List.length_append]
  by_cases e : h.dc = d <;> simp [e]
theorem sameN_le (S : List Ho) (d : ByteArray) (k : Nat) : sameN S d k ≤ k := by
  unfold sameN
  exact Nat.le_trans (List.length_filter_le _ _) (by rw [List.length_take]; omega)
theorem getS_at {S : List Ho} (hS : risingH S) {k : Nat} {h : Ho} (hk : S[k]? = some h) : getS h.name S = some h := getS_of_mem (rising_ne hS) (List.mem_of_getElem? hk)
theorem dist_at {S : List Ho} (hS : risingH S) {k : Nat} {h : Ho} (hk : S[k]? = some h) (dc : ByteArray) (rem : Int) : distP dc rem S h.name = if h.dc = dc then 1 else if (sameN S h.dc k : Int) < rem then 2 else 0 := by
  unfold distP
  rw [getS_at hS hk]
  simp only []
  rw [ahead_take hS hk]; rfl
/-- How many hosts of the center d among the first k count as remote. -/
def farN (rem : Int) (n : Nat) : Nat := min n rem.toNat
theorem farN_succ {rem : Int} {n : Nat} : farN rem (n + 1) = farN rem n + if (n : Int) < rem then 1 else 0 := by
  unfold farN
  split <;> omega
/-! The pairs of a token and its host. -/
theorem toks_mem {S : List Ho} {p : Pl} : p ∈ pairsH S ↔ ∃ h ∈ S, p.1 ∈ h.toks ∧ p.2 = h.name := by
  unfold pairsH
  rw [List.mem_flatMap]
  constructor
  · rintro ⟨h, hh, hp⟩
    obtain ⟨k, hk, rfl⟩ := List.mem_map.1 hp
    exact ⟨h, hh, hk, rfl⟩
  · rintro ⟨h, hh, h1, h2⟩
    exact ⟨h, hh, List.mem_map.2 ⟨p.1, h1, by rw [← h2]⟩⟩
theorem places_mem {S : List Ho} {p : Pl} (h : p ∈ placesP S) : p ∈ pairsH S ∧ getP p.1 (pairsH S) = some p := by
  have h2 := places_spec S
  have := getP_of_mem h2.1 h
  rw [h2.2] at this
  exact ⟨(getP_mem this).1, this⟩
theorem places_has {S : List Ho} {p : Pl} (h : p ∈ pairsH S) : ∃ q ∈ placesP S, q.1 = p.1 := by
  have h2 := places_spec S
  cases hg : getP p.1 (placesP S) with
  | none =>
    rw [h2.2] at hg
    exact absurd rfl (getP_none.1 hg p h)
  | some q => exact ⟨q, (getP_mem hg).1, (getP_mem hg).2⟩
theorem pairs_nodup {S : List Ho} (hS : risingH S) (ht : ∀ h ∈ S, h.toks.Pairwise (· < ·)) : (pairsH S).Nodup := by
  unfold pairsH
  induction S with
  | nil => exact List.nodup_nil
  | cons a S ih =>
    obtain ⟨h1, h2⟩ := List.pairwise_cons.1 hS
    rw [List.flatMap_cons, List.nodup_append]
    refine ⟨?_, ih h2 fun h hh => ht h (List.mem_cons_of_mem _ hh), fun p hp q hq e => ?_⟩
    · exact List.pairwise_map.2 ((ht a (List.mem_cons_self ..)).imp fun {x y} hlt e => by
        have : x = y := congrArg Prod.fst e
        omega)
    · subst e
      obtain ⟨k, _, rfl⟩ := List.mem_map.1 hp
      obtain ⟨o, ho, hq2⟩ := List.mem_flatMap.1 hq
      obtain ⟨k2, _, e2⟩ := List.mem_map.1 hq2
      have : o.name = a.name := congrArg Prod.snd e2
      have h3 := h1 o ho
      rw [this] at h3
      exact nlt_irrefl _ h3
/-- The first host that has a token, as a search from the last one down finds it: among those from k on. -/
def firstT (S : List Ho) (t : Int) : ByteArray := match getP t (pairsH S) with
  | some p => p.2
  | none => noStr
theorem firstT_nil (t : Int) : firstT [] t = noStr := rfl
theorem firstT_cons (a : Ho) (S : List Ho) (t : Int) : firstT (a :: S) t = if t ∈ a.toks then a.name else firstT S t := by
  unfold firstT getP pairsH
  rw [List.flatMap_cons, List.find?_append]
  by_cases h : t ∈ a.toks
  · rw [if_pos h]
    have : (a.toks.map fun k => (k, a.name)).find? (fun p : Pl => decide (p.1 = t)) = some (t, a.name) := by
      revert h
      generalize a.toks = ts
      intro h
      induction ts with
      | nil => cases h
      | cons y l ih =>
        rw [List.map_cons, List.find?_cons]
        by_cases e : y = t
        · subst e; simp
        · rw [decide_eq_false (show ¬ (y, a.name).1 = t from e)]
          exact ih ((List.mem_cons.1 h).resolve_left fun e2 => e e2.symm)
    rw [this]; rfl
  · rw [if_neg h]
    have : (a.toks.map fun k => (k, a.name)).find? (fun p : Pl => decide (p.1 = t)) = none := by
      refine List.find?_eq_none.2 fun p hp => ?_
      obtain ⟨k, hk, rfl⟩ := List.mem_map.1 hp
      have : ¬ k = t := fun e => h (e ▸ hk)
      simpa using this
    rw [this]; rfl
theorem place_first {S : List Ho} {p : Pl} (h : p ∈ placesP S) : firstT S p.1 = p.2 := by
  unfold firstT
  rw [(places_mem h).2]
/-- Who owns a token has no greater name than who has it. -/
theorem first_le {S : List Ho} (hS : risingH S) {h : Ho} (hh : h ∈ S) {t : Int} (ht : t ∈ h.toks) : ¬ nlt h.name (firstT S t) := by
  induction S with
  | nil => cases hh
  | cons a S ih =>
    obtain ⟨h1, h2⟩ := List.pairwise_cons.1 hS
    rw [firstT_cons]
    by_cases e : t ∈ a.toks
    · rw [if_pos e]
      rcases List.mem_cons.1 hh with rfl | hh
      · exact nlt_irrefl _
      · exact nlt_asymm (h1 h hh)
    · rw [if_neg e]
      rcases List.mem_cons.1 hh with rfl | hh
      · exact absurd ht e
      · exact ih h2 hh
/-- How many of some pairs stand among others. -/
def hitsN (P l : List Pl) : Nat := (l.map fun q => (P.filter fun p => decide (p = q)).length).sum
def inP (P : List Pl) (q : Pl) : Bool := P.any fun p => decide (p = q)
theorem inP_iff {P : List Pl} {q : Pl} : inP P q = true ↔ q ∈ P := by
  unfold inP
  rw [List.any_eq_true]
  exact ⟨fun ⟨x, h1, h2⟩ => by have := of_decide_eq_true h2; exact this ▸ h1, fun h => ⟨q, h, decide_eq_true rfl⟩⟩
theorem count_one {P : List Pl} (hP : P.Nodup) (q : Pl) : (P.filter fun p => decide (p = q)).length = if inP P q = true then 1 else 0 := by
  induction P with
  | nil => rfl
  | cons a P ih =>
    obtain ⟨h1, h2⟩ := List.nodup_cons.1 hP
    rw [List.filter_cons]
    have hc : inP (a :: P) q = (decide (a = q) || inP P q) := by unfold inP; rw [List.any_cons]
    rw [hc]
    by_cases e : a = q
    · subst e
      have h3 : ¬ inP P a = true := fun h => h1 (inP_iff.1 h)
      rw [decide_eq_true rfl]
      simp only [if_true, List.length_cons, ih h2, if_neg h3, Bool.true_or]
    · rw [decide_eq_false e]
      simp only [Bool.false_eq_true, if_false, ih h2, Bool.false_or]
theorem hits_all {P l : List Pl} (hP : P.Nodup) (hl : l.Nodup) (hs : ∀ p ∈ P, p ∈ l) : hitsN P l = P.length := by
  have h1 : hitsN P l = (l.filter fun q => inP P q).length := by
    unfold hitsN
    clear hl hs
    induction l with
    | nil => rfl
    | cons a l ih =>
      rw [List.map_cons, List.sum_cons, ih, count_one hP, List.filter_cons]
      by_cases e : inP P a = true
      · rw [if_pos e, if_pos e, List.length_cons]; omega
      · rw [if_neg e, if_neg e]; omega
  rw [h1]
  have h2 : (l.filter fun q => inP P q).Perm P := (List.perm_ext_iff_of_nodup (hl.filter _) hP).2 fun a => by
    rw [List.mem_filter, inP_iff]
    exact ⟨fun h => h.2, fun h => ⟨hs a h, h⟩⟩
  exact h2.length_eq
theorem hits_snoc (P l : List Pl) (q : Pl) : hitsN P (l ++ [q]) = hitsN P l + (P.filter fun p => decide (p = q)).length := by
  unfold hitsN
  rw [List.map_append, List.sum_append]; simp
end Go.Proofs.YtdcdefkloibfnaaGreatDoor

/- octets.Put: a number in so many bytes · slices.Contains of bytes. -/
import Derived.Test.YtfnjoceolcdeoaaGreatDoorMg01
import Derived.Test.YtfnjoceolcdeoaaGreatDoorMg04
import Derived.Deep.LoopGhost
import Derived.Lib.UnsafeStr
namespace Go.Proofs.YtfnjoceolcdeoaaGreatDoor
set_option linter.unusedVariables false
open Go.RowKit

set_option maxHeartbeats 1000000 in
set_option maxRecDepth 100000 in
theorem oSizeP_at (n : Int) (h1 : 1 ≤ n) (h8 : n ≤ 8) (w : World) : Calls Tryz.prog 129 #[.int .i64 n] w fun e w' => e = .returned (.bool true) ∧ w' = w := by
  go_enter Tryz.func129, Tryz.ntmps129
  go_wp2
  go_ret
  exact ⟨rfl, rfl⟩

set_option maxHeartbeats 2000000 in
set_option maxRecDepth 100000 in
theorem oPut_at (x n : Nat) (hx : x < 18446744073709551616) (h1 : 1 ≤ n) (h8 : n ≤ 8) (w : World) :
    Calls Tryz.prog 111 #[.int .u64 x, .int .i64 n] w fun e w' => ∃ v', e = .returned v' ∧ w'.ownsRow w.heap.size 5 1 v' n (Lib.byteCells (putB x n)) ∧ Kept noBlock w w' := by
  obtain ⟨it, hi, hz, hsize, hby⟩ : ∃ it, Tryz.prog.info? 5 = some it ∧ it.zero = some (.int .u8 0) ∧ it.size = 1 ∧ it.bytes = 1 := by
    obtain ⟨it, h, hh⟩ := Option.map_eq_some_iff.1 (show (Tryz.prog.info? 5).map (fun i => (i.zero, i.size, i.bytes)) = some (some (.int .u8 0), 1, 1) by kernel_rfl)
    simp only [Prod.mk.injEq] at hh
    exact ⟨it, h, hh.1, hh.2.1, hh.2.2⟩
  go_enter Tryz.func111, Tryz.ntmps111
  go_wp2_with fail
  go_at_call 129
  refine (oSizeP_at (n : Int) (by omega) (by omega) w).mono ?_
  rintro e w0 ⟨rfl, hw0⟩
  subst hw0
  go_wp2_with (refine wpList_make_full w0 rfl (.tmp 10) (.tmp 10) 30 rfl w0.heap.size 5 it (.int .u8 0) 1 Tryz.underlying30 hi hz hsize .i64 .i64 (n : Int) (n : Int) n rfl rfl rfl rfl (by rw [hby]; omega) (by unfold maxLen; omega) (Nat.le_refl _) ?_)
  intro w1 hown hgr
  have hk1 : Kept noBlock w0 w1 := Kept.of_grown hgr fun k e => by cases e
  generalize hg : w0.heap.size = g at *
  have HK1 := Lib.hid hk1
  have hX : Hid (w1.ownsRow g 5 1 (.slice (some ⟨g, 0, none⟩) n n) n (List.replicate n (.int .u8 0))) := Lib.hid (by
    have : w1.ownsRow g 5 1 (.slice (some ⟨g, 0, none⟩) n n) n (madeCells #[.int .u8 0] n).toList := by simpa using hown
    rw [toList_madeCells_one] at this
    exact this)
  clear hown hgr hk1
  go_wp2_with fail
  go_loopg [13] n (fun j vi wr => ∃ (i : Nat) (X : List Value), i + j = n ∧ vi = .int .i64 i ∧ wr.ownsRow g 5 1 (.slice (some ⟨g, 0, none⟩) n n) n X ∧ (∀ q, q < i → X[n - 1 - q]? = some (.int .u8 ((UInt8.ofNat (x / 256 ^ q)).toNat : Int))) ∧ Kept noBlock w0 wr)
  case atStart => exact ⟨0, _, by omega, rfl, hX.out, fun q hq => by omega, HK1.out⟩
  case round =>
    obtain ⟨i, X, hij, rfl, hown, hXq, hk⟩ := hrel
    have HIJ := Lib.hid hij
    have HO := Lib.hid hown
    have HXQ := Lib.hid hXq
    have HK := Lib.hid hk
    by_cases hlt : i < n
    · have hc := hown.cellAt (n - 1 - i) (by omega)
      obtain ⟨u, hu⟩ : ∃ u, X[n - 1 - i]? = some u := ⟨_, List.getElem?_eq_getElem (by have := hown.1; omega)⟩
      rw [hu] at hc
      have hf := hown.frozenAt (n - 1 - i)
      obtain ⟨v, hv⟩ : ∃ v : Int, v = ((UInt8.ofNat (x / 256 ^ i)).toNat : Int) := ⟨_, rfl⟩
      have hval : (x : Int) / 2 ^ (8 * i) % 256 = v := by
        rw [hv, UInt8.toNat_ofNat', show (256 : Nat) ^ i = 2 ^ (8 * i) by rw [Nat.pow_mul]]
        have : ((2 : Int) ^ (8 * i)) = ((2 ^ (8 * i) : Nat) : Int) := by rw [Int.natCast_pow]; rfl
        rw [this, ← Int.natCast_ediv]
        omega
      have hs := (hown.stored (n - 1 - i) (.int .u8 v)).1
      have FIN : Hid ((wr.setCell ⟨g, n - 1 - i, none⟩ (.int .u8 v)).ownsRow g 5 1 (.slice (some ⟨g, 0, none⟩) n n) n (X.set (n - 1 - i) (.int .u8 v)) ∧ (∀ q, q < i + 1 → (X.set (n - 1 - i) (.int .u8 v))[n - 1 - q]? = some (.int .u8 ((UInt8.ofNat (x / 256 ^ q)).toNat : Int))) ∧ Kept noBlock w0 (wr.setCell ⟨g, n - 1 - i, none⟩ (.int .u8 v))) := Lib.hid ⟨hs, fun q hq => by
        rw [List.getElem?_set]
        by_cases e : q = i
        · subst e
          rw [if_pos rfl, if_pos (by have := hown.1; omega), hv]
        · rw [if_neg (by omega)]
          exact hXq q (by omega), hk.setCell (p := ⟨g, n - 1 - i, none⟩) (fun h => absurd h (by simp only []; omega)) _⟩
      clear hij hown hXq hk hs hv hu
      go_wp2_with fail
      go_roundg (n - (i + 1))
      case measure => have := HIJ.out; omega
      case rel => exact ⟨i + 1, _, by have := HIJ.out; omega, by go_num, FIN.out.1, FIN.out.2.1, FIN.out.2.2⟩
    · obtain rfl : n = i := by omega
      have hfin : Hid (X = Lib.byteCells (putB x n)) := Lib.hid (by
        refine List.ext_getElem? fun j => ?_
        by_cases hj : j < n
        · have h2 := hXq (n - 1 - j) (by omega)
          rw [show n - 1 - (n - 1 - j) = j by omega] at h2
          have h3 := putB_at x n (n - 1 - j) (by omega)
          rw [show n - 1 - (n - 1 - j) = j by omega] at h3
          rw [h2]
          unfold Lib.byteCells
          rw [List.getElem?_map, h3]; rfl
        · have h2 := hown.1
          rw [List.getElem?_eq_none (by omega), List.getElem?_eq_none (by unfold Lib.byteCells; rw [List.length_map, putB_len]; omega)])
      clear hij hown hXq hk
      go_wp2
      go_ret
      rw [← hfin.out, hg]
      exact ⟨_, rfl, HO.out, HK.out⟩
end Go.Proofs.YtfnjoceolcdeoaaGreatDoor
namespace Go.Proofs.YtfnjoceolcdeoaaGreatDoor
set_option linter.unusedVariables false
open Go.RowKit

theorem byteCells_app (a b : List UInt8) : Lib.byteCells (a ++ b) = Lib.byteCells a ++ Lib.byteCells b := by unfold Lib.byteCells; rw [List.map_append]
theorem byteCells_one {l : List UInt8} {u : Value} (hu : u ∈ Lib.byteCells l) : u.oneCell' = true := by
  unfold Lib.byteCells at hu
  obtain ⟨x, -, rfl⟩ := List.mem_map.1 hu; rfl
theorem byteCells_length (l : List UInt8) : (Lib.byteCells l).length = l.length := by unfold Lib.byteCells; rw [List.length_map]
theorem bytesQT : SlT Tryz.prog 30 5 (.int .u8 0) 1 1 := ⟨Tryz.underlying30, by kernel_rfl, rfl, by decide, by decide⟩
set_option maxHeartbeats 1000000 in
set_option maxRecDepth 100000 in
theorem BIndex_at {w : World} {ok : Nat → TypeId → Prop} {A : Option Addr} {n c : Nat} {l : List UInt8} (h : SlK w ok 1 (.slice A n c) n (Lib.byteCells l)) (b : UInt8) :
    Calls Tryz.prog 137 #[.slice A n c, .int .u8 (b.toNat : Int)] w fun e w' => ∃ i : Int, e = .returned (.int .i64 i) ∧ (0 ≤ i ↔ b ∈ l) ∧ w' = w := by
  have hln : l.length = n := by have := h.len; unfold Lib.byteCells at this; rw [List.length_map, Nat.mul_one] at this; exact this
  have hlen := h.run_len bytesQT
  have hnm : n ≤ 9223372036854775807 := by obtain ⟨_, _, hv, h1, h2⟩ := h.shape; cases hv; unfold maxLen at h2; omega
  have H := Lib.hid h
  have HL := Lib.hid hln
  clear h hln
  go_enter Tryz.func137, Tryz.ntmps137
  go_wp2_with fail
  go_loopg [8] n (fun j vi wr => ∃ i : Nat, i + j = n ∧ vi = .int .i64 i ∧ (∀ q x, l[q]? = some x → q < i → x ≠ b) ∧ wr = w)
  case atStart => exact ⟨0, by omega, rfl, fun _ _ _ h => by omega, rfl⟩
  case round =>
    obtain ⟨i, hij, rfl, hno, rfl⟩ := hrel
    have HIJ := Lib.hid hij
    have HNO := Lib.hid hno
    by_cases hi : i < n
    · obtain ⟨x, hx⟩ : ∃ x, l[i]? = some x := ⟨_, List.getElem?_eq_getElem (by rw [HL.out]; exact hi)⟩
      obtain ⟨g, off, hidx, -, -, h3⟩ := H.out.run_index bytesQT (i := (i : Int)) (k := i) rfl hi
      have c0 : wr.cell? ⟨g, off, none⟩ = some (.int .u8 (x.toNat : Int)) := h3 0 _ (by rw [Nat.mul_one, Nat.add_zero]; unfold Lib.byteCells; rw [List.getElem?_map, hx]; rfl)
      have HX := Lib.hid hx
      clear hij hno h3 hx
      by_cases e : x = b
      · have hq : ((b.toNat : Int) == (x.toNat : Int)) = true := by rw [e]; exact beq_self_eq_true _
        have HM := Lib.hid (show b ∈ l from e ▸ List.mem_of_getElem? HX.out)
        clear e
        go_wp2
        go_ret
        exact ⟨_, rfl, ⟨fun _ => HM.out, fun _ => by omega⟩, rfl⟩
      · have hq : ((b.toNat : Int) == (x.toNat : Int)) = false := by
          rw [beq_eq_false_iff_ne]
          intro h
          exact e (UInt8.toNat_inj.1 (by omega)).symm
        have HE := Lib.hid e
        clear e
        go_wp2_with fail
        go_roundg (n - (i + 1))
        case measure => have := HIJ.out; omega
        case rel =>
          refine ⟨i + 1, by have := HIJ.out; omega, by go_num, fun q y hy hqk => ?_, rfl⟩
          by_cases he : q = i
          · subst he
            rw [HX.out] at hy
            cases hy
            exact HE.out
          · exact HNO.out q y hy (by omega)
    · obtain rfl : n = i := by omega
      have HM : Hid (¬ b ∈ l) := Lib.hid fun hm => by
        obtain ⟨q, hq⟩ := List.getElem?_of_mem hm
        exact HNO.out q b hq (by have := (List.getElem?_eq_some_iff.1 hq).1; have := HL.out; omega) rfl
      clear hij hno
      go_wp2
      go_ret
      exact ⟨_, rfl, ⟨fun h => by omega, fun h => absurd h HM.out⟩, rfl⟩
set_option maxHeartbeats 1000000 in
set_option maxRecDepth 100000 in
theorem BContains_at {w : World} {ok : Nat → TypeId → Prop} {A : Option Addr} {n c : Nat} {l : List UInt8} (h : SlK w ok 1 (.slice A n c) n (Lib.byteCells l)) (b : UInt8) :
    Calls Tryz.prog 105 #[.slice A n c, .int .u8 (b.toNat : Int)] w fun e w' => e = .returned (.bool (decide (b ∈ l))) ∧ w' = w := by
  have HI := Lib.hid (BIndex_at h b)
  clear h
  go_enter Tryz.func105, Tryz.ntmps105
  go_wp2_with fail
  go_at_call 137
  refine HI.out.mono ?_
  rintro e w1 ⟨i, rfl, him, hw⟩
  subst hw
  by_cases h0 : 0 ≤ i
  · have HD : Hid (decide (b ∈ l) = true) := Lib.hid (decide_eq_true (him.1 h0))
    clear him
    go_wp2
    go_ret
    rw [HD.out]
    exact ⟨rfl, rfl⟩
  · have HD : Hid (decide (b ∈ l) = false) := Lib.hid (decide_eq_false fun h => h0 (him.2 h))
    clear him
    have hdi : decide (0 ≤ i) = false := decide_eq_false h0
    go_wp2
    go_ret
    rw [HD.out]
    first
      | exact ⟨rfl, rfl⟩
      | exact ⟨by rw [← hdi]; rfl, rfl⟩
end Go.Proofs.YtfnjoceolcdeoaaGreatDoor

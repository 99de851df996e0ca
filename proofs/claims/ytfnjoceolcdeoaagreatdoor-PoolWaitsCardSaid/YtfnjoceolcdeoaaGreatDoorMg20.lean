/- slices.Grow at no place, slices.Concat of rows of bytes. -/
import Derived.Test.YtfnjoceolcdeoaaGreatDoorMg05
import Derived.Lib.AppendZerosOnto
import Derived.Shelf.Spec.SlicesGrow
namespace Go.Proofs.YtfnjoceolcdeoaaGreatDoor
set_option linter.unusedVariables false
open Go.RowKit

set_option maxHeartbeats 1000000 in
set_option maxRecDepth 100000 in
theorem BGrow_at (n : Nat) (w : World) (hn : n ≤ 10000000) :
    Calls Tryz.prog 147 #[.slice none 0 0, .int .i64 n] w fun e w' => ∃ v, e = .returned v ∧ w'.ownsRow w.heap.size 5 1 v 0 [] ∧ Kept noBlock w w' := by
  by_cases h0 : n = 0
  · subst h0
    go_enter Tryz.func147, Tryz.ntmps147
    go_wp2
    go_ret
    exact ⟨_, rfl, World.ownsRow_nil _ _ _ _, Kept.refl _ _⟩
  · obtain ⟨i0, hi0, hz0, hs0, hb0⟩ := info_parts bytesQT.info
    have hold : (Builtin.firstCells i0.size 0 (.slice none 0 0)).run Tryz.prog w.drew = .ok #[] w.drew := run_firstCells_none w.drew i0.size 0 0 0
    have hfit : Builtin.nextslicecap (0 + n) 0 * i0.bytes ≤ 281474976710656 := growslice_fits (by omega) (by rw [hb0]; omega)
    have hrz := fun ty => Lib.run_append_grow_zeros (P := Tryz.prog) w 30 3 ty 5 i0 _ .i64 .i64 Tryz.underlying30 Tryz.underlying3 hi0 hz0 none 0 0 [] hold n (by omega) (by rw [hs0]; decide) (by omega) (by omega) (by rw [hb0]; omega) hfit
    have hGn : n ≤ grownCap w (0 + n) 0 5 := by have := grownCap_ge w (0 + n) 0 5; omega
    have hGm : grownCap w (0 + n) 0 5 ≤ maxLen := grownCap_le_maxLen w (0 + n) 0 5 (by unfold maxLen; omega)
    generalize grownCap w (0 + n) 0 5 = G at *
    have hG63 : G ≤ 9223372036854775807 := by unfold maxLen at hGm; omega
    simp only [Nat.zero_add] at hrz
    obtain ⟨cs, hcs⟩ : ∃ cs : Array Value, cs = (#[] : Array Value) ++ Builtin.zeroCells (Value.int .u8 0).cells n ++ Builtin.zeroCells (Value.int .u8 0).cells (G - n) := ⟨_, rfl⟩
    have hrz2 : ∀ ty, (Builtin.append_ #[30, 3] ty #[.slice none 0 0, .int .i64 n]).run Tryz.prog w = .ok (.slice (some ⟨w.heap.size, 0, none⟩) n G) (w.drew.alloc (.cells cs 5)) := fun ty => by rw [hcs]; exact hrz ty
    have hsz : cs.size = G * 1 := by rw [hcs]; simp [Builtin.zeroCells, Value.cells]; omega
    have hown : ((w.alloc (.cells cs 5)).drew).ownsRow w.heap.size 5 1 (.slice (some ⟨w.heap.size, 0, none⟩) 0 G) 0 [] :=
      ⟨rfl, .inr ⟨w.heap.size, G, cs, rfl, Nat.le_refl _, heap_alloc_new w _, Nat.zero_le _, hGm, hsz, by simp⟩⟩
    have HO := Lib.hid hown
    have HK := Lib.hid (((Kept.refl noBlock w).alloc (.cells cs 5)).drew)
    clear hcs hrz hsz
    clear hown hold hfit hi0 hz0 hs0 hb0
    go_enter Tryz.func147, Tryz.ntmps147
    go_wp2_with (at_builtin; refine Lib.wpList_append_run _ rfl _ _ _ _ rfl _ _ rfl rfl _ _ (hrz2 _) ?_)
    all_goals (go_ret; exact ⟨_, rfl, HO.out, HK.out⟩)

theorem bytessT : SlT Tryz.prog 259 30 (.slice none 0 0) 1 24 := ⟨Tryz.underlying259, by kernel_rfl, rfl, by decide, by decide⟩
/-- A row of rows of bytes. -/
abbrev BsL := List (Value × List UInt8)
def bsTot (L : BsL) (i : Nat) : Nat := ((L.take i).map fun p => p.2.length).sum
def bsAll (L : BsL) (i : Nat) : List UInt8 := (L.take i).flatMap (·.2)
theorem take_succ_of {α : Type} {l : List α} {i : Nat} {x : α} (h : l[i]? = some x) : l.take (i + 1) = l.take i ++ [x] := by
  rw [List.take_add_one, h]; rfl
theorem bsTot_succ {L : BsL} {i : Nat} {p : Value × List UInt8} (h : L[i]? = some p) : bsTot L (i + 1) = bsTot L i + p.2.length := by
  unfold bsTot
  rw [take_succ_of h, List.map_append, List.sum_append]; simp
theorem bsAll_succ {L : BsL} {i : Nat} {p : Value × List UInt8} (h : L[i]? = some p) : bsAll L (i + 1) = bsAll L i ++ p.2 := by
  unfold bsAll
  rw [take_succ_of h, List.flatMap_append]; simp
theorem bsAll_len (L : BsL) : ∀ i, i ≤ L.length → (bsAll L i).length = bsTot L i
  | 0, _ => by simp [bsAll, bsTot]
  | i + 1, h => by
    obtain ⟨p, hp⟩ : ∃ p, L[i]? = some p := ⟨_, List.getElem?_eq_getElem (by omega)⟩
    rw [bsAll_succ hp, bsTot_succ hp, List.length_append, bsAll_len L i (by omega)]
theorem bsTot_le (L : BsL) : ∀ i, i ≤ L.length → bsTot L i ≤ bsTot L L.length := by
  intro i hi
  unfold bsTot
  rw [List.take_length]
  conv => rhs; rw [← List.take_append_drop i L, List.map_append, List.sum_append]
  omega

set_option maxHeartbeats 2000000 in
set_option maxRecDepth 100000 in
theorem BConcat_at {w : World} {ok : Nat → TypeId → Prop} {A0 : Option Addr} {n c0 : Nat} {L : BsL} (h : SlK w ok 1 (.slice A0 n c0) n (L.map (·.1))) (hL : ∀ (i : Nat) (p : Value × List UInt8), L[i]? = some p → Sl w 5 1 p.1 p.2.length (Lib.byteCells p.2)) (hb : bsTot L n ≤ 10000000) :
    Calls Tryz.prog 128 #[.slice A0 n c0] w fun e w' => ∃ v, e = .returned v ∧ w'.ownsRow w.heap.size 5 1 v (bsTot L n) (Lib.byteCells (bsAll L n)) ∧ Kept noBlock w w' := by
  have hln : L.length = n := by have := h.len; rw [List.length_map, Nat.mul_one] at this; exact this
  have hlen := h.run_len bytessT
  have hnm : n ≤ 9223372036854775807 := by obtain ⟨_, _, hv, h1, h2⟩ := h.shape; cases hv; unfold maxLen at h2; omega
  have H := Lib.hid h
  have HL := Lib.hid hL
  have HLN := Lib.hid hln
  have HB := Lib.hid hb
  have HTL := Lib.hid (bsTot_le L)
  clear h hL hln hb
  go_enter Tryz.func128, Tryz.ntmps128
  go_wp2_with fail
  go_loopg [3, 11] n (fun j vs vi wr => ∃ i s : Nat, i + j = n ∧ vi = .int .i64 i ∧ vs = .int .i64 s ∧ s = bsTot L i ∧ wr = w)
  case atStart => exact ⟨0, 0, by omega, rfl, rfl, by simp [bsTot], rfl⟩
  case round =>
    obtain ⟨i, s, hij, rfl, rfl, hs, rfl⟩ := hrel
    have HIJ := Lib.hid hij
    have HS := Lib.hid hs
    by_cases hi : i < n
    · obtain ⟨p, hp⟩ : ∃ p, L[i]? = some p := ⟨_, List.getElem?_eq_getElem (by rw [HLN.out]; exact hi)⟩
      obtain ⟨A1, c1, hv, -, -⟩ := (HL.out i p hp).shape
      obtain ⟨g, off, hidx, -, -, h3⟩ := H.out.run_index bytessT (i := (i : Int)) (k := i) rfl hi
      have c0 : wr.cell? ⟨g, off, none⟩ = some (.slice A1 p.2.length c1) := h3 0 _ (by rw [Nat.mul_one, Nat.add_zero, List.getElem?_map, hp, ← hv]; rfl)
      have l1 : ∀ ty w', (Builtin.len_ #[30] ty #[.slice A1 p.2.length c1]).run Tryz.prog w' = .ok (.int .i64 (p.2.length : Nat)) w' := by
        have := (HL.out i p hp).run_len bytesQT
        rw [hv] at this
        exact this
      have hT : Hid (s + p.2.length = bsTot L (i + 1)) := Lib.hid (by rw [bsTot_succ hp, HS.out])
      have hsb : s + p.2.length ≤ 10000000 := by
        have h1 := HTL.out (i + 1) (by rw [HLN.out]; omega)
        rw [HLN.out] at h1
        have := HB.out; have := hT.out; omega
      generalize hq : p.2.length = q at *
      clear hs hij h3 hv hp hq
      go_wp2_with fail
      go_roundg (n - (i + 1))
      case measure => have := HIJ.out; omega
      case rel => exact ⟨i + 1, s + q, by have := HIJ.out; omega, by go_num, by go_num, hT.out, rfl⟩
    · obtain rfl : n = i := by omega
      have HG := Lib.hid (BGrow_at s wr (by rw [HS.out]; exact HB.out))
      clear hs hij
      go_wp2_with fail
      go_at_call 147
      refine HG.out.mono ?_
      rintro e w1 ⟨v3, rfl, hown3, hk3⟩
      have START := Lib.hid (⟨hown3, hk3⟩ : w1.ownsRow wr.heap.size 5 1 v3 0 [] ∧ Kept noBlock wr w1)
      obtain ⟨wz, hwz⟩ : ∃ wz, wz = wr := ⟨wr, rfl⟩
      subst hwz
      clear hown3 hk3 HG
      go_wp2_with fail
      go_loopg [6, 27] n (fun j v6 vi wx => ∃ i t : Nat, i + j = n ∧ vi = .int .i64 i ∧ Kept noBlock wz wx ∧ t = bsTot L i ∧ wx.ownsRow wz.heap.size 5 1 v6 t (Lib.byteCells (bsAll L i)))
      case atStart => exact ⟨0, 0, by omega, rfl, START.out.2, by simp [bsTot], by simpa [bsAll, Lib.byteCells] using START.out.1⟩
      case round =>
        obtain ⟨i, t, hij, rfl, hk, ht, hown⟩ := hrel
        have HIJ := Lib.hid hij
        have HT := Lib.hid ht
        have HK := Lib.hid hk
        have HO := Lib.hid hown
        have hz := hk.size
        by_cases hi : i < n
        · obtain ⟨p, hp⟩ : ∃ p, L[i]? = some p := ⟨_, List.getElem?_eq_getElem (by rw [HLN.out]; exact hi)⟩
          obtain ⟨A1, c1, hv, -, -⟩ := (HL.out i p hp).shape
          have hk' := H.out.keptAll (S := noBlock) hk fun _ _ _ h => h
          obtain ⟨g, off, hidx, -, -, h3⟩ := hk'.run_index bytessT (i := (i : Int)) (k := i) rfl hi
          have c0 : wr.cell? ⟨g, off, none⟩ = some (.slice A1 p.2.length c1) := h3 0 _ (by rw [Nat.mul_one, Nat.add_zero, List.getElem?_map, hp, ← hv]; rfl)
          have HS1 : Hid (Sl wr 5 1 (.slice A1 p.2.length c1) p.2.length (Lib.byteCells p.2)) := Lib.hid (by have := SlK.keptNone (HL.out i p hp) hk; rw [hv] at this; exact this)
          have hT : Hid (t + p.2.length = bsTot L (i + 1)) := Lib.hid (by rw [bsTot_succ hp, HT.out])
          have hA : Hid (Lib.byteCells (bsAll L i) ++ Lib.byteCells p.2 = Lib.byteCells (bsAll L (i + 1))) := Lib.hid (by rw [bsAll_succ hp, byteCells_app])
          have hsb : t + p.2.length ≤ 10000000 := by
            have h1 := HTL.out (i + 1) (by rw [HLN.out]; omega)
            rw [HLN.out] at h1
            have := HB.out; have := hT.out; omega
          generalize hq : p.2.length = q at *
          generalize Lib.byteCells (bsAll L i) = X at *
          clear hij h3 hv hp hq ht hk hown hk' hlen
          have hlen2 := H.out.run_len bytessT
          go_wp2_with (at_builtin; go_must (refine wpList_append_sl _ bytesQT rfl (.tmp 31) (.tmp 32) rfl wz.heap.size _ t X rfl HO.out _ q (Lib.byteCells p.2) rfl HS1.out (fun u hu => byteCells_one hu) ?c1 ?c2 ?_))
          case c1 => omega
          case c2 => first | omega | (simp; omega)
          intro v' w3 hap
          have HK3 := Lib.hid (hap.below HO.out HK.out (Nat.le_refl _))
          have HO3 := Lib.hid hap.own
          clear hap
          go_wp2
          go_roundg (n - (i + 1))
          case measure => have := HIJ.out; omega
          case rel => exact ⟨i + 1, t + q, by have := HIJ.out; omega, by go_num, HK3.out, hT.out, by rw [← hA.out]; exact HO3.out⟩
        · obtain rfl : n = i := by omega
          clear hij ht hk hown
          go_wp2
          go_ret
          rw [← HT.out]
          exact ⟨_, rfl, HO.out, HK.out⟩
end Go.Proofs.YtfnjoceolcdeoaaGreatDoor

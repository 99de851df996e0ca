/- replica.Simple and the document's: the first hosts of a walk. -/
import Derived.Test.YtjdjfikeiphgpaaR3Walk
namespace Go.Proofs.Ytjdjfikeiphgpaa
set_option linter.unusedVariables false
open Go.RowKit

set_option maxHeartbeats 2000000 in
set_option maxRecDepth 100000 in
theorem rSimple_in {w : World} {rv : Value} {t n : Int} {l : List ByteArray} {k : Nat} (hll : l.length ≤ 1000) (hk : k = (max (min n (l.length : Int)) 0).toNat)
    (hw : Calls Try.prog 17 #[rv, .int .i64 t] w fun e w' => ∃ v, e = .returned v ∧ Sl w' 9 1 v l.length (l.map Value.string) ∧ Kept noBlock w w') :
    Calls Try.prog 13 #[rv, .int .i64 t, .int .i64 n] w fun e w' => ∃ v, e = .returned v ∧ Sl w' 9 1 v k ((l.take k).map Value.string) ∧ Kept noBlock w w' := by
  have HW := Lib.hid hw
  have HKK := Lib.hid hk
  clear hw hk
  go_enter Try.func13, Try.ntmps13
  go_wp2_with fail
  go_at_call 17
  refine HW.out.mono ?_
  rintro e w1 ⟨v, rfl, hs, hk1⟩
  obtain ⟨A, c, rfl, -, -⟩ := hs.shape
  have hlen := hs.run_len strsT
  obtain ⟨A2, c2, hto, hs2⟩ := hs.run_to strsT (i := max (min n (l.length : Int)) 0) (k := k) (by have := HKK.out; omega) (by have := HKK.out; omega)
  have e : (l.map Value.string).take (k * 1) = (l.take k).map Value.string := by rw [Nat.mul_one, List.map_take]
  rw [e] at hs2
  have HS2 := Lib.hid hs2
  have HK1 := Lib.hid hk1
  clear hs hs2 hk1 e
  go_wp2_with fail
  go_ret
  exact ⟨_, rfl, HS2.out, HK1.out⟩

set_option maxHeartbeats 2000000 in
set_option maxRecDepth 100000 in
theorem r4Simple_in {w : World} {rv : Value} {t n : Int} {l : List ByteArray} {k : Nat} (hll : l.length ≤ 1000) (hk : k = (max (min n (l.length : Int)) 0).toNat)
    (hw : Calls Try.prog 27 #[rv, .int .i64 t] w fun e w' => ∃ v, e = .returned v ∧ Sl w' 9 1 v l.length (l.map Value.string) ∧ Kept noBlock w w') :
    Calls Try.prog 14 #[rv, .int .i64 t, .int .i64 n] w fun e w' => ∃ v, e = .returned v ∧ Sl w' 9 1 v k ((l.take k).map Value.string) ∧ Kept noBlock w w' := by
  have HW := Lib.hid hw
  have hkl : k ≤ l.length := by omega
  have HKI : Hid (∀ i : Nat, i ≤ k → ((i : Int) < l.length ∧ (i : Int) < n ↔ i < k)) := Lib.hid fun i hi => by omega
  clear hw hk
  go_enter Try.func14, Try.ntmps14
  go_wp2_with fail
  go_at_call 27
  refine HW.out.mono ?_
  rintro e w1 ⟨v, rfl, hs, hk1⟩
  obtain ⟨A, c, rfl, -, -⟩ := hs.shape
  have hlen := hs.run_len strsT
  have HS := Lib.hid hs
  have HK1 := Lib.hid hk1
  clear hs hk1
  go_wp2_with fail
  go_loopg [8, 9] k (fun j vo vi wr => ∃ i : Nat, i + j = k ∧ vi = .int .i64 i ∧ wr.ownsRow w1.heap.size 9 1 vo i ((l.take i).map Value.string) ∧ Kept noBlock w1 wr)
  case atStart => exact ⟨0, by omega, rfl, World.ownsRow_nil _ _ _ _, Kept.refl _ _⟩
  case round =>
    obtain ⟨i, hij, rfl, hown, hk⟩ := hrel
    have HIJ := Lib.hid hij
    have HO := Lib.hid hown
    have HK := Lib.hid hk
    have hz := hk.size
    by_cases hik : i < k
    · obtain ⟨hc1, hc2⟩ := (HKI.out i (by omega)).2 hik
      obtain ⟨x, hx⟩ : ∃ x, l[i]? = some x := ⟨_, List.getElem?_eq_getElem (by omega)⟩
      obtain ⟨g, off, hidx, hgl, hc0⟩ := str_at (SlK.keptNone HS.out hk) hx
      have hnx : (l.take (i + 1)).map Value.string = (l.take i).map Value.string ++ [.string x] := by rw [List.take_add_one, hx]; simp
      have HNX := Lib.hid hnx
      clear hij hown hk hx hnx
      go_wp2_with (at_builtin; go_must (refine wpList_append_sl _ strsT rfl (.tmp 24) (.tmp 29) rfl w1.heap.size _ i ((l.take i).map Value.string) rfl (HO.out.alloc _) _ 1 [.string x] rfl (Sl.made_at (Blk.new_at _ _ _ rfl) _ rfl rfl one_max) (by simp [Value.oneCell']) ?d1 ?d2 ?_))
      case d1 => omega
      case d2 => first | omega | (simp; omega)
      intro v' w3 hap
      have HK3 := Lib.hid (hap.below (HO.out.alloc _) (HK.out.alloc _) (Nat.le_refl _))
      have HO3 := Lib.hid hap.own
      clear hap
      go_wp2
      go_roundg (k - (i + 1))
      case measure => have := HIJ.out; omega
      case rel =>
        have hij := HIJ.out
        refine ⟨i + 1, by omega, by go_num, ?_, HK3.out⟩
        rw [HNX.out, List.map_take]; exact HO3.out
    · obtain rfl : i = k := by omega
      have hs2 := Sl.of_own hown
      obtain ⟨A5, c5, rfl, -, -⟩ := hs2.shape
      rw [List.map_take] at hs2
      have HS2 := Lib.hid hs2
      have hno : ¬ ((i : Int) < l.length ∧ (i : Int) < n) := fun e => hik ((HKI.out i (Nat.le_refl _)).1 e)
      clear hij hown hk hs2
      by_cases hil : (i : Int) < l.length
      · have hin : ¬ (i : Int) < n := fun e => hno ⟨hil, e⟩
        go_wp2
        go_ret
        exact ⟨_, rfl, HS2.out, HK1.out.trans HK.out (fun _ _ e => e)⟩
      · go_wp2
        go_ret
        exact ⟨_, rfl, HS2.out, HK1.out.trans HK.out (fun _ _ e => e)⟩
end Go.Proofs.Ytjdjfikeiphgpaa

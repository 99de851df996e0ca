/- maps.both; maps.Pairs of short texts. -/
import Derived.Test.YtfnjoceolcdeoaaGreatDoorMg06
import Derived.Test.YtfnjoceolcdeoaaGreatDoorMg08
import Derived.Deep.LoopGhost
namespace Go.Proofs.YtfnjoceolcdeoaaGreatDoor
set_option linter.unusedVariables false
open Go.RowKit

set_option maxHeartbeats 1000000 in
set_option maxRecDepth 100000 in
theorem mpBoth_at {w : World} (k : ByteArray) (hk : k.size ≤ 65535) {A : Option Addr} {n c : Nat} {l : List UInt8} (h : Sl w 5 1 (.slice A n c) n (Lib.byteCells l)) (hn : n ≤ 10000000000) :
    Calls Tryz.prog 110 #[.string k, .slice A n c, .int .i64 0] w fun e w' => ∃ v', e = .returned (.tuple #[v', .int .i64 0]) ∧ w'.ownsRow w.heap.size 5 1 v' (2 + k.size + n) (Lib.byteCells (txtB k ++ l)) ∧ Kept noBlock w w' := by
  have HT := Lib.hid (pText_at k hk w)
  have H := Lib.hid h
  clear h
  go_enter Tryz.func110, Tryz.ntmps110
  go_wp2_with fail
  go_at_call 109
  refine HT.out.mono ?_
  rintro e w2 ⟨v2, rfl, ho2, hk2⟩
  have HO2 := Lib.hid ho2
  have HK2 := Lib.hid hk2
  have HS := Lib.hid (SlK.keptNone H.out hk2)
  clear ho2 hk2
  go_wp2_with (at_builtin; go_must (refine wpList_append_sl _ bytesQT rfl (.tmp 23) (.tmp 24) rfl w.heap.size _ (2 + k.size) (Lib.byteCells (txtB k)) rfl HO2.out _ n (Lib.byteCells l) rfl HS.out (fun u hu => byteCells_one hu) ?c1 ?c2 ?_))
  case c1 => omega
  case c2 => exact HK2.out.size
  intro v' w3 hap
  have HK3 := Lib.hid (hap.below HO2.out HK2.out (Nat.le_refl _))
  have HO3 := Lib.hid hap.own
  clear hap
  go_wp2
  go_ret2
  exact ⟨_, rfl, by rw [byteCells_app]; exact HO3.out, HK3.out⟩

set_option maxHeartbeats 1000000 in
set_option maxRecDepth 100000 in
theorem mpPairs1_at (k v : ByteArray) (hk : k.size ≤ 65535) (hv : v.size ≤ 65535) (w : World) :
    Calls Tryz.prog 108 #[.agg #[.string k, .string v]] w fun e w' => ∃ v', e = .returned (.tuple #[v', .int .i64 0]) ∧ w'.ownsRow w.heap.size 5 1 v' (2 + k.size + (2 + v.size)) (Lib.byteCells (txtB k ++ txtB v)) ∧ Kept noBlock w w' := by
  go_enter Tryz.func108, Tryz.ntmps108
  go_wp2_with fail
  have HB := Lib.hid (Blk.new w 146 #[.string k, .string v])
  have HK0 := Lib.hid ((Kept.refl noBlock w).alloc (.cells #[.string k, .string v] 146))
  have HZ := Lib.hid (sz_alloc w (.cells #[.string k, .string v] 146))
  generalize hw0 : w.alloc (.cells #[.string k, .string v] 146) = w0 at *
  have HT := Lib.hid (pText_at v hv w0)
  go_at_call 109
  refine HT.out.mono ?_
  rintro e w2 ⟨v2, rfl, ho2, hk2⟩
  obtain ⟨A2, c2, rfl, -, -⟩ := (Sl.of_own ho2).shape
  have hb2 := HB.out.kept hk2 (fun h => h)
  have y0 := hb2.cell 0
  simp only [List.getElem?_toArray, List.getElem?_cons_zero] at y0
  have HBO := Lib.hid (mpBoth_at k hk (Sl.of_own ho2) (by omega))
  have HK2 := Lib.hid (HK0.out.trans hk2 fun _ _ e => e)
  clear ho2 hk2 hb2
  go_wp2_with fail
  go_at_call 110
  refine HBO.out.mono ?_
  rintro e w3 ⟨v3, rfl, ho3, hk3⟩
  have HO3 := Lib.hid (own_base ho3 HK2.out.size)
  have HK3 := Lib.hid (HK2.out.trans hk3 fun _ _ e => e)
  clear ho3 hk3
  go_wp2
  go_ret2
  exact ⟨_, rfl, HO3.out, HK3.out⟩

theorem pairT : SlT Tryz.prog 136 146 (.agg #[.string noStr, .string noStr]) 2 32 := ⟨Tryz.underlying136, by kernel_rfl, rfl, by decide, by decide⟩
/-- One pair behind its number. -/
def pairB (k v : ByteArray) : List UInt8 := putB 1 2 ++ (txtB k ++ txtB v)
theorem pairB_len (k v : ByteArray) : (pairB k v).length = 2 + (2 + k.size + (2 + v.size)) := by unfold pairB; rw [List.length_append, List.length_append, putB_len, txtB_len, txtB_len]
set_option maxHeartbeats 2000000 in
set_option maxRecDepth 100000 in
theorem mpPutPair_at {w : World} {ok : Nat → TypeId → Prop} {A : Option Addr} {c : Nat} (k v : ByteArray) (hk : k.size ≤ 65535) (hv : v.size ≤ 65535) (h : SlK w ok 2 (.slice A 1 c) 1 [.string k, .string v]) :
    Calls Tryz.prog 107 #[.slice A 1 c, .func (.func 108) #[] #[]] w fun e w' => ∃ v', e = .returned (.tuple #[v', .int .i64 0]) ∧ w'.ownsRow w.heap.size 5 1 v' (2 + (2 + k.size + (2 + v.size))) (Lib.byteCells (pairB k v)) ∧ Kept noBlock w w' := by
  have hlen := h.run_len pairT
  have H := Lib.hid h
  clear h
  have HP := Lib.hid (oPut_at 1 2 (by omega) (by decide) (by decide) w)
  go_enter Tryz.func107, Tryz.ntmps107
  go_wp2_with fail
  go_at_call 111
  refine HP.out.mono ?_
  rintro e w1 ⟨v1, rfl, ho, hk⟩
  have START := Lib.hid (⟨ho, hk⟩ : w1.ownsRow w.heap.size 5 1 v1 2 (Lib.byteCells (putB 1 2)) ∧ Kept noBlock w w1)
  clear ho hk HP
  go_wp2_with fail
  go_loopg [6, 20] 1 (fun j v6 vi wr => ∃ i : Nat, i + j = 1 ∧ vi = .int .i64 i ∧ Kept noBlock w wr ∧ ((i = 0 ∧ wr.ownsRow w.heap.size 5 1 v6 2 (Lib.byteCells (putB 1 2))) ∨ (i = 1 ∧ wr.ownsRow w.heap.size 5 1 v6 (2 + (2 + k.size + (2 + v.size))) (Lib.byteCells (pairB k v)))))
  case atStart => exact ⟨0, rfl, rfl, START.out.2, .inl ⟨rfl, START.out.1⟩⟩
  case round =>
    obtain ⟨i, hij, rfl, hk, hd⟩ := hrel
    have HK := Lib.hid hk
    rcases hd with ⟨rfl, hown⟩ | ⟨rfl, hown⟩
    · obtain ⟨g, off, hidx, hgl, -, h3⟩ := (SlK.keptNone H.out hk).run_index pairT (i := (0 : Int)) (k := 0) rfl (by decide)
      have c0 : wr.cell? ⟨g, off, none⟩ = some (.string k) := h3 0 _ rfl
      have c1 : wr.cell? ⟨g, off + 1, none⟩ = some (.string v) := h3 1 _ rfl
      have HO := Lib.hid hown
      clear hk h3 hgl hown START
      go_wp2_with fail
      have HKA := Lib.hid (HK.out.alloc (.cells #[.string k, .string v] 146))
      have HOA := Lib.hid (own_keptB HO.out ((Kept.refl noBlock wr).alloc (.cells #[.string k, .string v] 146)) fun _ _ e => e)
      have HPP := Lib.hid (mpPairs1_at k v (by assumption) hv (wr.alloc (.cells #[.string k, .string v] 146)))
      generalize wr.alloc (.cells #[.string k, .string v] 146) = wa at *
      go_at_call 108
      refine HPP.out.mono ?_
      rintro e w2 ⟨v2, rfl, ho2, hk2⟩
      obtain ⟨A2, c2, rfl, -, -⟩ := (Sl.of_own ho2).shape
      have HO1 := Lib.hid (own_keptB HOA.out hk2 fun _ _ e => e)
      have HK2 := Lib.hid (HKA.out.trans hk2 fun _ _ e => e)
      have HO2 := Lib.hid ho2
      clear ho2 hk2
      go_wp2_with (at_builtin; go_must (refine wpList_append_sl _ bytesQT rfl (.tmp 33) (.tmp 34) rfl w.heap.size _ 2 (Lib.byteCells (putB 1 2)) rfl HO1.out _ (2 + k.size + (2 + v.size)) (Lib.byteCells (txtB k ++ txtB v)) rfl (Sl.of_own HO2.out) (fun u hu => byteCells_one hu) ?c1 ?c2 ?_))
      case c1 => omega
      case c2 => exact HK2.out.size
      intro v' w3 hap
      have HK3 := Lib.hid (hap.below HO1.out HK2.out (Nat.le_refl _))
      have HO3 := Lib.hid hap.own
      clear hap
      go_wp2
      go_roundg 0
      case measure => omega
      case rel => exact ⟨1, rfl, by go_num, HK3.out, .inr ⟨rfl, by unfold pairB; rw [byteCells_app]; exact HO3.out⟩⟩
    · have HO := Lib.hid hown
      clear hk hown
      go_wp2
      go_ret2
      exact ⟨_, rfl, HO.out, HK.out⟩

set_option maxHeartbeats 1000000 in
set_option maxRecDepth 100000 in
theorem mpPairs_at {w : World} {ok : Nat → TypeId → Prop} {A : Option Addr} {c : Nat} (k v : ByteArray) (hk : k.size ≤ 65535) (hv : v.size ≤ 65535) (h : SlK w ok 2 (.slice A 1 c) 1 [.string k, .string v]) :
    Calls Tryz.prog 77 #[.slice A 1 c] w fun e w' => ∃ v', e = .returned (.tuple #[v', .int .i64 0]) ∧ w'.ownsRow w.heap.size 5 1 v' (2 + (2 + k.size + (2 + v.size))) (Lib.byteCells (pairB k v)) ∧ Kept noBlock w w' := by
  have H := Lib.hid (mpPutPair_at k v hk hv h)
  clear h
  go_enter Tryz.func77, Tryz.ntmps77
  go_wp2_with fail
  go_at_call 107
  refine H.out.mono ?_
  rintro e w1 ⟨v1, rfl, ho, hk⟩
  have HO := Lib.hid ho
  have HK := Lib.hid hk
  clear ho hk
  go_wp2
  go_ret2
  exact ⟨_, rfl, HO.out, HK.out⟩
end Go.Proofs.YtfnjoceolcdeoaaGreatDoor

/- request.Put: Options; how a request lies in memory · maps.put of texts; maps.both, maps.put of pairs · Several rows of one's own: two of them; those that a call has made beside those that were there · maps.both; maps.Pairs of short texts. -/
import Derived.Test.YtfnjoceolcdeoaaGreatDoorMr05
import Derived.Deep.LoopGhost
import Derived.Test.YtfnjoceolcdeoaaGreatDoorMr04
namespace Go.Proofs.YtfnjoceolcdeoaaGreatDoor
set_option linter.unusedVariables false
open Go.RowKit

/-- A request's cells. -/
def reqC (op : Int) (o : Value) (t : ByteArray) (cons : Int) (ev : Value) (tk : Int) (tb : Value) : Array Value := #[.int .u8 op, o, .string t, .slice none 0 0, .int .u16 cons, .slice none 0 0, .slice none 0 0, .bool false, .bool false, .int .i32 0, .bool false, .int .i64 0, .slice none 0 0, .bool false, .int .u16 0, .bool false, .int .i64 0, ev, .int .i64 tk, tb, .int .u8 0, .slice none 0 0]
/-- What a writer hands back. -/
def wrFin (s : List UInt8 × Int) : List UInt8 × Int := if s.2 = 0 then s else ([], s.2)
def PutPost (w : World) (s : List UInt8 × Int) (e : Ending) (w' : World) : Prop := ∃ A n c, e = .returned (.tuple #[.slice A n c, .int .i64 s.2]) ∧ n = s.1.length ∧ Sl w' 5 1 (.slice A n c) n (Lib.byteCells s.1) ∧ Kept noBlock w w'

set_option maxHeartbeats 2000000 in
set_option maxRecDepth 100000 in
theorem rqPut_opt (w : World) : Calls Tryz.prog 57 #[.agg (reqC 5 (.slice none 0 0) noStr 0 (.slice none 0 0) 0 (.slice none 0 0))] w (PutPost w ([], 0)) := by
  unfold reqC
  go_enter Tryz.func57, Tryz.ntmps57
  go_wp2
  go_ret2
  exact ⟨none, 0, 0, rfl, rfl, Sl.nil _ _ _, ((Kept.refl noBlock w).alloc _).alloc _⟩
end Go.Proofs.YtfnjoceolcdeoaaGreatDoor
namespace Go.Proofs.YtfnjoceolcdeoaaGreatDoor
set_option linter.unusedVariables false
open Go.RowKit

def txtOk (L : List ByteArray) : Bool := L.all fun s => decide (s.size ≤ 65535)
/-- Texts behind their number, and the error. -/
def textsP (L : List ByteArray) : List UInt8 × Int := if L.length ≤ 65535 ∧ txtOk L = true then (putB L.length 2 ++ L.flatMap txtB, 0) else ([], 12)
theorem textsP_ok {L : List ByteArray} (h : L.length ≤ 65535) (h2 : txtOk L = true) : textsP L = (putB L.length 2 ++ L.flatMap txtB, 0) := by unfold textsP; rw [if_pos ⟨h, h2⟩]
theorem textsP_bad {L : List ByteArray} (h : ¬ (L.length ≤ 65535 ∧ txtOk L = true)) : textsP L = ([], 12) := by unfold textsP; rw [if_neg h]
theorem txtOk_bad {L : List ByteArray} {i : Nat} {s : ByteArray} (h : L[i]? = some s) (hs : 65535 < s.size) : ¬ txtOk L = true := by
  intro h2
  unfold txtOk at h2
  rw [List.all_eq_true] at h2
  have := of_decide_eq_true (h2 s (List.mem_of_getElem? h))
  omega

set_option maxHeartbeats 2000000 in
set_option maxRecDepth 100000 in
theorem mpPutStr_at {w : World} {ok : Nat → TypeId → Prop} {A : Option Addr} {n c : Nat} {L : List ByteArray} (h : SlK w ok 1 (.slice A n c) n (L.map Value.string)) (hm : ∀ s ∈ L, s.size ≤ 9223372036854775807) :
    Calls Tryz.prog 118 #[.slice A n c, .func (.func 109) #[] #[]] w fun e w' => ∃ A' m c', e = .returned (.tuple #[.slice A' m c', .int .i64 (textsP L).2]) ∧ m = (textsP L).1.length ∧ Sl w' 5 1 (.slice A' m c') m (Lib.byteCells (textsP L).1) ∧ Kept noBlock w w' := by
  have hln : L.length = n := by have := h.len; rw [List.length_map, Nat.mul_one] at this; exact this
  have hlen := h.run_len strsT
  have hnm : n ≤ 9223372036854775807 := by obtain ⟨_, _, hv, h1, h2⟩ := h.shape; cases hv; unfold maxLen at h2; omega
  have H := Lib.hid h
  have HLN := Lib.hid hln
  have HM := Lib.hid hm
  clear h hln hm
  by_cases h65 : n ≤ 65535
  · have HP := Lib.hid (oPut_at n 2 (by omega) (by decide) (by decide) w)
    go_enter Tryz.func118, Tryz.ntmps118
    go_wp2_with fail
    go_at_call 111
    refine HP.out.mono ?_
    rintro e w1 ⟨v1, rfl, ho, hk⟩
    have START := Lib.hid (⟨ho, hk⟩ : w1.ownsRow w.heap.size 5 1 v1 2 (Lib.byteCells (putB n 2)) ∧ Kept noBlock w w1)
    clear ho hk HP
    go_wp2_with fail
    go_loopg [6, 20] n (fun j v6 vi wr => ∃ (i m : Nat) (X : List UInt8), i + j = n ∧ vi = .int .i64 i ∧ X = putB n 2 ++ (L.take i).flatMap txtB ∧ (∀ s ∈ L.take i, s.size ≤ 65535) ∧ X.length = m ∧ m ≤ 2 + 65537 * i ∧ wr.ownsRow w.heap.size 5 1 v6 m (Lib.byteCells X) ∧ Kept noBlock w wr)
    case atStart => exact ⟨0, 2, _, by omega, rfl, by simp, by simp, putB_len _ _, by omega, START.out.1, START.out.2⟩
    case round =>
      obtain ⟨i, m, X, hij, rfl, hX, hall, hm, hmb, hown, hk⟩ := hrel
      have HIJ := Lib.hid hij
      have HX := Lib.hid hX
      have HALL := Lib.hid hall
      have HMX := Lib.hid hm
      have HO := Lib.hid hown
      have HK := Lib.hid hk
      by_cases hi : i < n
      · obtain ⟨s, hs⟩ : ∃ s, L[i]? = some s := ⟨_, List.getElem?_eq_getElem (by rw [HLN.out]; exact hi)⟩
        have hsm := HM.out s (List.mem_of_getElem? hs)
        obtain ⟨g, off, hidx, hgl, hc0⟩ := str_at (SlK.keptNone H.out hk) hs
        have HSI := Lib.hid hs
        clear hij hX hall hm hown hk hs hgl
        by_cases hsz : s.size ≤ 65535
        · have HT := Lib.hid (pText_at s hsz wr)
          have HTL := Lib.hid (txtB_len s)
          go_wp2_with fail
          go_at_call 109
          refine HT.out.mono ?_
          rintro e w2 ⟨v2, rfl, ho2, hk2⟩
          obtain ⟨A2, c2, rfl, -, -⟩ := (Sl.of_own ho2).shape
          have HO1 := Lib.hid (own_keptB HO.out hk2 fun _ _ e => e)
          have HK2 := Lib.hid (HK.out.trans hk2 fun _ _ e => e)
          have HO2 := Lib.hid ho2
          clear ho2 hk2
          go_wp2_with (at_builtin; go_must (refine wpList_append_sl _ bytesQT rfl (.tmp 33) (.tmp 34) rfl w.heap.size _ m (Lib.byteCells X) rfl HO1.out _ (2 + s.size) (Lib.byteCells (txtB s)) rfl (Sl.of_own HO2.out) (fun u hu => byteCells_one hu) ?c1 ?c2 ?_))
          case c1 => omega
          case c2 => exact HK2.out.size
          intro v' w3 hap
          have HK3 := Lib.hid (hap.below HO1.out HK2.out (Nat.le_refl _))
          have HO3 := Lib.hid hap.own
          clear hap
          go_wp2
          go_roundg (n - (i + 1))
          case measure => have := HIJ.out; omega
          case rel =>
            have hij := HIJ.out
            refine ⟨i + 1, m + (2 + s.size), X ++ txtB s, by omega, by go_num, ?_, ?_, ?_, by omega, ?_, HK3.out⟩
            · rw [HX.out, List.take_add_one, HSI.out]; simp
            · intro t ht
              rw [List.take_add_one, HSI.out] at ht
              rcases List.mem_append.1 ht with ht | ht
              · exact HALL.out t ht
              · simp at ht; subst ht; exact hsz
            · rw [List.length_append, HMX.out, HTL.out]
            · rw [byteCells_app]; exact HO3.out
        · have hsz2 : 65535 < s.size := by omega
          have HT := Lib.hid (pText_long s hsz2 hsm wr)
          have HBAD : Hid (textsP L = ([], 12)) := Lib.hid (textsP_bad fun h => txtOk_bad HSI.out hsz2 h.2)
          clear hsz
          go_wp2_with fail
          go_at_call 109
          refine HT.out.mono ?_
          rintro e w2 ⟨rfl, hw2⟩
          subst hw2
          go_wp2
          go_ret2
          rw [HBAD.out]
          exact ⟨none, 0, 0, rfl, rfl, Sl.nil _ _ _, HK.out⟩
      · obtain rfl : n = i := by omega
        have HG : Hid (textsP L = (X, 0)) := Lib.hid (by
          have ht : L.take n = L := List.take_of_length_le (by rw [HLN.out]; exact Nat.le_refl _)
          have h1 : txtOk L = true := by
            unfold txtOk
            rw [List.all_eq_true]
            intro s hs
            rw [← ht] at hs
            exact decide_eq_true (HALL.out s hs)
          rw [textsP_ok (by rw [HLN.out]; exact h65) h1, HX.out, ht, HLN.out])
        clear hij hX hall hm hown hk
        obtain ⟨A6, c6, rfl, -, -⟩ := (Sl.of_own HO.out).shape
        go_wp2
        go_ret2
        rw [HG.out]
        exact ⟨A6, m, c6, rfl, HMX.out.symm, Sl.of_own HO.out, HK.out⟩
  · have HBAD : Hid (textsP L = ([], 12)) := Lib.hid (textsP_bad fun h => h65 (by rw [← HLN.out]; exact h.1))
    have h65' : 65535 < n := by omega
    clear h65
    go_enter Tryz.func118, Tryz.ntmps118
    go_wp2
    go_ret2
    rw [HBAD.out]
    exact ⟨none, 0, 0, rfl, rfl, Sl.nil _ _ _, Kept.refl _ _⟩

set_option maxHeartbeats 1000000 in
set_option maxRecDepth 100000 in
theorem mpTexts_at {w : World} {ok : Nat → TypeId → Prop} {A : Option Addr} {n c : Nat} {L : List ByteArray} (h : SlK w ok 1 (.slice A n c) n (L.map Value.string)) (hm : ∀ s ∈ L, s.size ≤ 9223372036854775807) :
    Calls Tryz.prog 81 #[.slice A n c] w fun e w' => ∃ A' m c', e = .returned (.tuple #[.slice A' m c', .int .i64 (textsP L).2]) ∧ m = (textsP L).1.length ∧ Sl w' 5 1 (.slice A' m c') m (Lib.byteCells (textsP L).1) ∧ Kept noBlock w w' := by
  have H := Lib.hid (mpPutStr_at h hm)
  clear h hm
  go_enter Tryz.func81, Tryz.ntmps81
  go_wp2_with fail
  go_at_call 118
  refine H.out.mono ?_
  rintro e w1 ⟨A', m, c', rfl, hm, hs, hk⟩
  have HM := Lib.hid hm
  clear hm
  have HS := Lib.hid hs
  have HK := Lib.hid hk
  obtain ⟨e0, he0⟩ : ∃ e0, e0 = (textsP L).2 := ⟨_, rfl⟩
  rw [← he0]
  have HE := Lib.hid he0
  clear hs hk he0
  go_wp2
  go_ret2
  exact ⟨A', m, c', by rw [← HE.out]; rfl, HM.out, HS.out, HK.out⟩
end Go.Proofs.YtfnjoceolcdeoaaGreatDoor
namespace Go.Proofs.YtfnjoceolcdeoaaGreatDoor
set_option linter.unusedVariables false
open Go.RowKit

section
variable {w w' W : World} {base : Nat} {S : Nat → Prop}
theorem own_base {B : Nat} {e : TypeId} {sz n : Nat} {v : Value} {xs : List Value} (h : w.ownsRow base e sz v n xs) (hB : B ≤ base) : w.ownsRow B e sz v n xs := by
  obtain ⟨hl, h⟩ := h
  refine ⟨hl, ?_⟩
  rcases h with h | ⟨g, cap, cur, rfl, hb, r⟩
  · exact .inl h
  · exact .inr ⟨g, cap, cur, rfl, Nat.le_trans hB hb, r⟩
theorem Fam.two {L : List Rw} {a b : Rw} (h : Fam w base L) (i j : Nat) (hij : i ≠ j) (hi : L[i]? = some a) (hj : L[j]? = some b) : Fam w base [a, b] := by
  refine ⟨fun m r hm => ?_, fun m n x y hmn hm hn k hk => ?_⟩
  · rcases m with _ | _ | m
    · cases hm; exact h.1 i a hi
    · cases hm; exact h.1 j b hj
    · simp at hm
  · rcases m with _ | _ | m <;> rcases n with _ | _ | n
    · exact absurd rfl hmn
    · cases hm; cases hn; exact h.2 i j a b hij hi hj k hk
    · simp at hn
    · cases hm; cases hn; exact h.2 j i b a (fun e => hij e.symm) hj hi k hk
    · exact absurd rfl hmn
    · simp at hn
    · simp at hm
    · simp at hm
    · simp at hm
/-- What a call has made stands beside what was there. -/
theorem Fam.join {L M : List Rw} {B : Nat} (h : Fam w B L) (hk : Kept noBlock w w') (hb : w.heap.size ≤ base) (hB : B ≤ base) (h2 : Fam w' base M) : Fam w' B (L ++ M) := by
  have h1 := h.keptN hk
  have key : ∀ (i : Nat) (r : Rw), (L ++ M)[i]? = some r → (i < L.length ∧ L[i]? = some r) ∨ (L.length ≤ i ∧ M[i - L.length]? = some r) := by
    intro i r hr
    by_cases hl : i < L.length
    · rw [List.getElem?_append_left hl] at hr; exact .inl ⟨hl, hr⟩
    · rw [List.getElem?_append_right (by omega)] at hr; exact .inr ⟨by omega, hr⟩
  have cross : ∀ (i j : Nat) (a b : Rw), L[i]? = some a → M[j]? = some b → ∀ k, a.v.ownBlock = some k → b.v.ownBlock ≠ some k := by
    intro i j a b ha hb' k e e2
    have h3 := own_lt (h.1 i a ha) e
    have h4 := (own_type (h2.1 j b hb') e2).1
    omega
  refine ⟨fun i r hr => ?_, fun i j a b hij ha hb' k hk' => ?_⟩
  · rcases key i r hr with ⟨_, e⟩ | ⟨_, e⟩
    · exact h1.1 i r e
    · exact own_base (h2.1 _ r e) hB
  · rcases key i a ha with ⟨l1, e1⟩ | ⟨l1, e1⟩ <;> rcases key j b hb' with ⟨l2, e2⟩ | ⟨l2, e2⟩
    · exact h1.2 i j a b hij e1 e2 k hk'
    · exact cross i _ a b e1 e2 k hk'
    · exact fun e => cross j _ b a e2 e1 k e hk'
    · exact h2.2 _ _ a b (by omega) e1 e2 k hk'
end
end Go.Proofs.YtfnjoceolcdeoaaGreatDoor
namespace Go.Proofs.YtfnjoceolcdeoaaGreatDoor
set_option linter.unusedVariables false
open Go.RowKit

set_option maxHeartbeats 1000000 in
set_option maxRecDepth 100000 in
theorem mpBoth_at {w : World} (k : ByteArray) (hk : k.size ≤ 65535) {A : Option Addr} {n c : Nat} {l : List UInt8} (h : Sl w 5 1 (.slice A n c) n (Lib.byteCells l)) (hn : n ≤ 10000000000) :
    Calls Tryz.prog 110 #[.string k, .slice A n c, .int .i64 0] w fun e w' => ∃ v', e = .returned (.tuple #[v', .int .i64 0]) ∧ w'.ownsRow w.heap.size 5 1 v' (2 + k.size + n) (Lib.byteCells (txtB k ++ l)) ∧ Kept noBlock w w' := by
  have HT := Lib.hid (pText_at k hk w)
  have H := Lib.hid h
  clear h
  go_enter Tryz.func110, Tryz.ntmps110
  go_wp2_with fail
  go_at_call 109
  refine HT.out.mono ?_
  rintro e w2 ⟨v2, rfl, ho2, hk2⟩
  have HO2 := Lib.hid ho2
  have HK2 := Lib.hid hk2
  have HS := Lib.hid (SlK.keptNone H.out hk2)
  clear ho2 hk2
  go_wp2_with (at_builtin; go_must (refine wpList_append_sl _ bytesQT rfl (.tmp 23) (.tmp 24) rfl w.heap.size _ (2 + k.size) (Lib.byteCells (txtB k)) rfl HO2.out _ n (Lib.byteCells l) rfl HS.out (fun u hu => byteCells_one hu) ?c1 ?c2 ?_))
  case c1 => omega
  case c2 => exact HK2.out.size
  intro v' w3 hap
  have HK3 := Lib.hid (hap.below HO2.out HK2.out (Nat.le_refl _))
  have HO3 := Lib.hid hap.own
  clear hap
  go_wp2
  go_ret2
  exact ⟨_, rfl, by rw [byteCells_app]; exact HO3.out, HK3.out⟩

set_option maxHeartbeats 1000000 in
set_option maxRecDepth 100000 in
theorem mpPairs1_at (k v : ByteArray) (hk : k.size ≤ 65535) (hv : v.size ≤ 65535) (w : World) :
    Calls Tryz.prog 108 #[.agg #[.string k, .string v]] w fun e w' => ∃ v', e = .returned (.tuple #[v', .int .i64 0]) ∧ w'.ownsRow w.heap.size 5 1 v' (2 + k.size + (2 + v.size)) (Lib.byteCells (txtB k ++ txtB v)) ∧ Kept noBlock w w' := by
  go_enter Tryz.func108, Tryz.ntmps108
  go_wp2_with fail
  have HB := Lib.hid (Blk.new w 146 #[.string k, .string v])
  have HK0 := Lib.hid ((Kept.refl noBlock w).alloc (.cells #[.string k, .string v] 146))
  have HZ := Lib.hid (sz_alloc w (.cells #[.string k, .string v] 146))
  generalize hw0 : w.alloc (.cells #[.string k, .string v] 146) = w0 at *
  have HT := Lib.hid (pText_at v hv w0)
  go_at_call 109
  refine HT.out.mono ?_
  rintro e w2 ⟨v2, rfl, ho2, hk2⟩
  obtain ⟨A2, c2, rfl, -, -⟩ := (Sl.of_own ho2).shape
  have hb2 := HB.out.kept hk2 (fun h => h)
  have y0 := hb2.cell 0
  simp only [List.getElem?_toArray, List.getElem?_cons_zero] at y0
  have HBO := Lib.hid (mpBoth_at k hk (Sl.of_own ho2) (by omega))
  have HK2 := Lib.hid (HK0.out.trans hk2 fun _ _ e => e)
  clear ho2 hk2 hb2
  go_wp2_with fail
  go_at_call 110
  refine HBO.out.mono ?_
  rintro e w3 ⟨v3, rfl, ho3, hk3⟩
  have HO3 := Lib.hid (own_base ho3 HK2.out.size)
  have HK3 := Lib.hid (HK2.out.trans hk3 fun _ _ e => e)
  clear ho3 hk3
  go_wp2
  go_ret2
  exact ⟨_, rfl, HO3.out, HK3.out⟩

theorem pairT : SlT Tryz.prog 136 146 (.agg #[.string noStr, .string noStr]) 2 32 := ⟨Tryz.underlying136, by kernel_rfl, rfl, by decide, by decide⟩
/-- One pair behind its number. -/
def pairB (k v : ByteArray) : List UInt8 := putB 1 2 ++ (txtB k ++ txtB v)
theorem pairB_len (k v : ByteArray) : (pairB k v).length = 2 + (2 + k.size + (2 + v.size)) := by unfold pairB; rw [List.length_append, List.length_append, putB_len, txtB_len, txtB_len]
set_option maxHeartbeats 2000000 in
set_option maxRecDepth 100000 in
theorem mpPutPair_at {w : World} {ok : Nat → TypeId → Prop} {A : Option Addr} {c : Nat} (k v : ByteArray) (hk : k.size ≤ 65535) (hv : v.size ≤ 65535) (h : SlK w ok 2 (.slice A 1 c) 1 [.string k, .string v]) :
    Calls Tryz.prog 107 #[.slice A 1 c, .func (.func 108) #[] #[]] w fun e w' => ∃ v', e = .returned (.tuple #[v', .int .i64 0]) ∧ w'.ownsRow w.heap.size 5 1 v' (2 + (2 + k.size + (2 + v.size))) (Lib.byteCells (pairB k v)) ∧ Kept noBlock w w' := by
  have hlen := h.run_len pairT
  have H := Lib.hid h
  clear h
  have HP := Lib.hid (oPut_at 1 2 (by omega) (by decide) (by decide) w)
  go_enter Tryz.func107, Tryz.ntmps107
  go_wp2_with fail
  go_at_call 111
  refine HP.out.mono ?_
  rintro e w1 ⟨v1, rfl, ho, hk⟩
  have START := Lib.hid (⟨ho, hk⟩ : w1.ownsRow w.heap.size 5 1 v1 2 (Lib.byteCells (putB 1 2)) ∧ Kept noBlock w w1)
  clear ho hk HP
  go_wp2_with fail
  go_loopg [6, 20] 1 (fun j v6 vi wr => ∃ i : Nat, i + j = 1 ∧ vi = .int .i64 i ∧ Kept noBlock w wr ∧ ((i = 0 ∧ wr.ownsRow w.heap.size 5 1 v6 2 (Lib.byteCells (putB 1 2))) ∨ (i = 1 ∧ wr.ownsRow w.heap.size 5 1 v6 (2 + (2 + k.size + (2 + v.size))) (Lib.byteCells (pairB k v)))))
  case atStart => exact ⟨0, rfl, rfl, START.out.2, .inl ⟨rfl, START.out.1⟩⟩
  case round =>
    obtain ⟨i, hij, rfl, hk, hd⟩ := hrel
    have HK := Lib.hid hk
    rcases hd with ⟨rfl, hown⟩ | ⟨rfl, hown⟩
    · obtain ⟨g, off, hidx, hgl, -, h3⟩ := (SlK.keptNone H.out hk).run_index pairT (i := (0 : Int)) (k := 0) rfl (by decide)
      have c0 : wr.cell? ⟨g, off, none⟩ = some (.string k) := h3 0 _ rfl
      have c1 : wr.cell? ⟨g, off + 1, none⟩ = some (.string v) := h3 1 _ rfl
      have HO := Lib.hid hown
      clear hk h3 hgl hown START
      go_wp2_with fail
      have HKA := Lib.hid (HK.out.alloc (.cells #[.string k, .string v] 146))
      have HOA := Lib.hid (own_keptB HO.out ((Kept.refl noBlock wr).alloc (.cells #[.string k, .string v] 146)) fun _ _ e => e)
      have HPP := Lib.hid (mpPairs1_at k v (by assumption) hv (wr.alloc (.cells #[.string k, .string v] 146)))
      generalize wr.alloc (.cells #[.string k, .string v] 146) = wa at *
      go_at_call 108
      refine HPP.out.mono ?_
      rintro e w2 ⟨v2, rfl, ho2, hk2⟩
      obtain ⟨A2, c2, rfl, -, -⟩ := (Sl.of_own ho2).shape
      have HO1 := Lib.hid (own_keptB HOA.out hk2 fun _ _ e => e)
      have HK2 := Lib.hid (HKA.out.trans hk2 fun _ _ e => e)
      have HO2 := Lib.hid ho2
      clear ho2 hk2
      go_wp2_with (at_builtin; go_must (refine wpList_append_sl _ bytesQT rfl (.tmp 33) (.tmp 34) rfl w.heap.size _ 2 (Lib.byteCells (putB 1 2)) rfl HO1.out _ (2 + k.size + (2 + v.size)) (Lib.byteCells (txtB k ++ txtB v)) rfl (Sl.of_own HO2.out) (fun u hu => byteCells_one hu) ?c1 ?c2 ?_))
      case c1 => omega
      case c2 => exact HK2.out.size
      intro v' w3 hap
      have HK3 := Lib.hid (hap.below HO1.out HK2.out (Nat.le_refl _))
      have HO3 := Lib.hid hap.own
      clear hap
      go_wp2
      go_roundg 0
      case measure => omega
      case rel => exact ⟨1, rfl, by go_num, HK3.out, .inr ⟨rfl, by unfold pairB; rw [byteCells_app]; exact HO3.out⟩⟩
    · have HO := Lib.hid hown
      clear hk hown
      go_wp2
      go_ret2
      exact ⟨_, rfl, HO.out, HK.out⟩

set_option maxHeartbeats 1000000 in
set_option maxRecDepth 100000 in
theorem mpPairs_at {w : World} {ok : Nat → TypeId → Prop} {A : Option Addr} {c : Nat} (k v : ByteArray) (hk : k.size ≤ 65535) (hv : v.size ≤ 65535) (h : SlK w ok 2 (.slice A 1 c) 1 [.string k, .string v]) :
    Calls Tryz.prog 77 #[.slice A 1 c] w fun e w' => ∃ v', e = .returned (.tuple #[v', .int .i64 0]) ∧ w'.ownsRow w.heap.size 5 1 v' (2 + (2 + k.size + (2 + v.size))) (Lib.byteCells (pairB k v)) ∧ Kept noBlock w w' := by
  have H := Lib.hid (mpPutPair_at k v hk hv h)
  clear h
  go_enter Tryz.func77, Tryz.ntmps77
  go_wp2_with fail
  go_at_call 107
  refine H.out.mono ?_
  rintro e w1 ⟨v1, rfl, ho, hk⟩
  have HO := Lib.hid ho
  have HK := Lib.hid hk
  clear ho hk
  go_wp2
  go_ret2
  exact ⟨_, rfl, HO.out, HK.out⟩
end Go.Proofs.YtfnjoceolcdeoaaGreatDoor

/- prims: a number, and a long text, at the beginning · Frames of a direction out of bytes, plainly. No program is named · What stands at the beginning of bytes, plainly: texts, values, addresses. No program is named · prims: a text, a value, an address at the beginning. -/
import Derived.Test.YtfnjoceolcdeoaaGreatDoorMr26
import Derived.Test.YtfnjoceolcdeoaaGreatDoorMr03
namespace Go.Proofs.YtfnjoceolcdeoaaGreatDoor
set_option linter.unusedVariables false
open Go.RowKit

theorem be4_lt {l : List UInt8} : beN (l.take 4) < 4294967296 := by
  refine Nat.lt_of_lt_of_le (beN_lt _) ?_
  exact Nat.le_trans (Nat.pow_le_pow_right (by decide) (show (l.take 4).length ≤ 4 by rw [List.length_take]; omega)) (by decide)
set_option maxHeartbeats 1000000 in
set_option maxRecDepth 100000 in
theorem pNumber_short {w : World} {ok : Nat → TypeId → Prop} {v : Value} {n : Nat} {l : List UInt8} (h : SlK w ok 1 v n (bsC l)) (hs : n < 4) :
    Calls Tryz.prog 201 #[v] w fun e w' => e = .returned (.tuple #[.int .i64 0, .slice none 0 0, .int .i64 10]) ∧ w' = w := by
  have HG := Lib.hid (oGet_short h 4 (by omega) (by omega) hs)
  have HS := Lib.hid (fun w => oSigned_at 0 (by omega) w)
  clear h
  go_enter Tryz.func201, Tryz.ntmps201
  go_wp2_with fail
  go_at_call 89
  refine HG.out.mono ?_
  rintro e w2 ⟨rfl, rfl⟩
  go_wp2_with fail
  go_at_call 222
  refine (HS.out _).mono ?_
  rintro e w3 ⟨rfl, rfl⟩
  go_wp2
  go_ret3
  exact ⟨rfl, rfl⟩
set_option maxHeartbeats 1000000 in
set_option maxRecDepth 100000 in
theorem pNumber_at {w : World} {ok : Nat → TypeId → Prop} {v : Value} {n : Nat} {l : List UInt8} (h : SlK w ok 1 v n (bsC l)) (hs : 4 ≤ n) :
    Calls Tryz.prog 201 #[v] w fun e w' => ∃ A c, e = .returned (.tuple #[.int .i64 (s32 (beN (l.take 4))), .slice A (n - 4) c, .int .i64 0]) ∧ SlK w ok 1 (.slice A (n - 4) c) (n - 4) (bsC (l.drop 4)) ∧ Grew w w' := by
  have HG := Lib.hid (oGet_at h 4 (by omega) (by omega) hs)
  have HS := Lib.hid (fun w => oSigned_at (beN (l.take 4)) be4_lt w)
  clear h
  go_enter Tryz.func201, Tryz.ntmps201
  go_wp2_with fail
  go_at_call 89
  refine HG.out.mono ?_
  rintro e w2 ⟨A, c, rfl, hs1, hg⟩
  go_wp2_with fail
  go_at_call 222
  refine (HS.out _).mono ?_
  rintro e w3 ⟨rfl, rfl⟩
  go_wp2
  go_ret3
  exact ⟨_, _, rfl, hs1, hg⟩
set_option maxHeartbeats 1000000 in
set_option maxRecDepth 100000 in
theorem pCounted_short {w : World} {ok : Nat → TypeId → Prop} {v : Value} {n : Nat} {l : List UInt8} (h : SlK w ok 1 v n (bsC l)) (k : Nat) (hn : n ≤ 1000000) (hs : n < k) :
    Calls Tryz.prog 200 #[.int .u64 (k : Int), v] w fun e w' => e = .returned (.tuple #[.string noStr, .slice none 0 0, .int .i64 10]) ∧ w' = w := by
  have HG := Lib.hid (oTake_short h k hn hs)
  have hq : (convert 30 9 (.slice none 0 0)).run Tryz.prog w = .ok (.string (bS [])) w := bytes_str (SlK.nil w (fun _ _ => True) 1)
  clear h
  go_enter Tryz.func200, Tryz.ntmps200
  go_wp2_with fail
  go_at_call 161
  refine HG.out.mono ?_
  rintro e w2 ⟨rfl, rfl⟩
  go_wp2
  go_ret3
  exact ⟨rfl, rfl⟩
set_option maxHeartbeats 1000000 in
set_option maxRecDepth 100000 in
theorem pCounted_at {w : World} {ok : Nat → TypeId → Prop} {v : Value} {n : Nat} {l : List UInt8} (h : SlK w ok 1 v n (bsC l)) (k : Nat) (hn : n ≤ 1000000) (hs : k ≤ n) :
    Calls Tryz.prog 200 #[.int .u64 (k : Int), v] w fun e w' => ∃ A c, e = .returned (.tuple #[.string (bS (l.take k)), .slice A (n - k) c, .int .i64 0]) ∧ SlK w' ok 1 (.slice A (n - k) c) (n - k) (bsC (l.drop k)) ∧ Kept noBlock w w' := by
  have HG := Lib.hid (oTake_at h k hn hs)
  clear h
  go_enter Tryz.func200, Tryz.ntmps200
  go_wp2_with fail
  go_at_call 161
  refine HG.out.mono ?_
  rintro e w2 ⟨v1, A, c, rfl, ho, hsf, hk⟩
  have hq := bytes_str (Sl.of_own ho)
  go_wp2
  go_ret3
  exact ⟨_, _, rfl, hsf, hk⟩
end Go.Proofs.YtfnjoceolcdeoaaGreatDoor
namespace Go.Proofs.YtfnjoceolcdeoaaGreatDoor
set_option linter.unusedVariables false
open Go.RowKit

/-- The opcodes of responses. -/
def resOps : List UInt8 := [0, 2, 3, 6, 8, 12, 14, 16]
/-- A frame: its header and its body. -/
structure Fr where
  fl : UInt8
  st : Int
  op : UInt8
  body : List UInt8
/-- What is wrong with a response's header. -/
def resE (fl op : UInt8) (len : Nat) : Int := if bits BinOp.andNot IntKind.u8 (fl.toNat : Int) 14 ≠ 0 then 21 else if op ∉ resOps then 22 else if 1048576 < len then 12 else 0
/-- .. a request's. -/
def askE (ops : List UInt8) (fl op : UInt8) (len : Nat) : Int := if bits BinOp.andNot IntKind.u8 (fl.toNat : Int) 6 ≠ 0 then 21 else if op ∉ ops then 22 else if 1048576 < len then 12 else 0
theorem resE_not (fl op : UInt8) (len : Nat) : resE fl op len = 0 ∨ resE fl op len = 21 ∨ resE fl op len = 22 ∨ resE fl op len = 12 := by
  unfold resE; split
  · exact .inr (.inl rfl)
  · split
    · exact .inr (.inr (.inl rfl))
    · split
      · exact .inr (.inr (.inr rfl))
      · exact .inl rfl
/-- The length that a header tells. -/
def lenP (l : List UInt8) : Nat := beN ((l.drop 5).take 4)
def stP (l : List UInt8) : Int := IntKind.i16.wrap (beN ((l.drop 2).take 2) : Nat)
def atP (l : List UInt8) (i : Nat) : UInt8 := l.getD i 0
/-- What is wrong with the header of bytes, where a response is wanted; 'ops': the opcodes of requests. -/
def headE (ops : List UInt8) (l : List UInt8) : Int :=
  if atP l 0 = 132 then resE (atP l 1) (atP l 4) (lenP l)
  else if atP l 0 = 4 then (if askE ops (atP l 1) (atP l 4) (lenP l) = 0 then 20 else askE ops (atP l 1) (atP l 4) (lenP l)) else 20
/-- The first frame of bytes. -/
def frP (l : List UInt8) : Fr := ⟨atP l 1, stP l, atP l 4, (l.drop 9).take (lenP l)⟩
/-- The frames that are whole, what is left, the error. -/
def addP (ops : List UInt8) : Nat → List UInt8 → List Fr × List UInt8 × Int
  | 0, l => ([], l, 0)
  | k + 1, l =>
    if l.length < 9 then ([], l, 0)
    else if headE ops l ≠ 0 then ([], [], headE ops l)
    else if l.length < 9 + lenP l then ([], l, 0)
    else (frP l :: (addP ops k (l.drop (9 + lenP l))).1, (addP ops k (l.drop (9 + lenP l))).2)
theorem lenP_lt (l : List UInt8) : lenP l < 4294967296 := by
  refine Nat.lt_of_lt_of_le (beN_lt _) (Nat.le_trans (Nat.pow_le_pow_right (by decide) (show ((l.drop 5).take 4).length ≤ 4 by rw [List.length_take]; omega)) (by decide))
theorem headE_len {ops l : List UInt8} (h : headE ops l = 0) : lenP l ≤ 1048576 ∧ atP l 0 = 132 ∧ resE (atP l 1) (atP l 4) (lenP l) = 0 := by
  unfold headE at h
  split at h
  · refine ⟨?_, by assumption, h⟩
    unfold resE at h
    split at h
    · cases h
    · split at h
      · cases h
      · split at h
        · cases h
        · omega
  · split at h
    · split at h
      · cases h
      · exact absurd h (by assumption)
    · cases h
end Go.Proofs.YtfnjoceolcdeoaaGreatDoor
namespace Go.Proofs.YtfnjoceolcdeoaaGreatDoor
set_option linter.unusedVariables false
open Go.RowKit

def takeP (n : Nat) (l : List UInt8) : Option (List UInt8 × List UInt8) := if l.length < n then none else some (l.take n, l.drop n)
def getTextP (l : List UInt8) : Option (List UInt8 × List UInt8) := if l.length < 2 then none else takeP (beN (l.take 2)) (l.drop 2)
def valS (n : Int) (l : List UInt8) : Option ((Int × List UInt8) × List UInt8) :=
  if n = -2 then some ((1, []), l) else if n = -1 then some ((0, []), l) else if n < 0 then none else (takeP n.toNat l).map fun q => ((2, q.1), q.2)
def getValP (l : List UInt8) : Option ((Int × List UInt8) × List UInt8) := if l.length < 4 then none else valS (s32 (beN (l.take 4))) (l.drop 4)
def inetS (a : List UInt8) (l : List UInt8) : Option ((List UInt8 × Nat) × List UInt8) := if l.length < 4 then none else some ((a, beN (l.take 4)), l.drop 4)
def getInetP (l : List UInt8) : Option ((List UInt8 × Nat) × List UInt8) :=
  if l.length < 1 then none else if beN (l.take 1) ≠ 4 ∧ beN (l.take 1) ≠ 16 then none else (takeP (beN (l.take 1)) (l.drop 1)).bind fun q => inetS q.1 q.2
/-- So many items. -/
def itemsP {α : Type} (one : List UInt8 → Option (α × List UInt8)) : Nat → List UInt8 → Option (List α × List UInt8)
  | 0, l => some ([], l)
  | k + 1, l => (one l).bind fun q => (itemsP one k q.2).map fun r => (q.1 :: r.1, r.2)
def getListP {α : Type} (one : List UInt8 → Option (α × List UInt8)) (l : List UInt8) : Option (List α × List UInt8) := if l.length < 2 then none else itemsP one (beN (l.take 2)) (l.drop 2)
def getTextsP : List UInt8 → Option (List (List UInt8) × List UInt8) := getListP getTextP
def getMultiP (l : List UInt8) : Option ((List UInt8 × List (List UInt8)) × List UInt8) := (getTextP l).bind fun q => (getTextsP q.2).map fun r => ((q.1, r.1), r.2)
def getMultisP : List UInt8 → Option (List (List UInt8 × List (List UInt8)) × List UInt8) := getListP getMultiP
def getCodeP (k : Nat) (l : List UInt8) : Option (Nat × List UInt8) := if l.length < k then none else some (beN (l.take k), l.drop k)

/-- What a getter hands back: its value, and what is behind; or nothing, and an error. -/
def GetPost {α : Type} (w : World) (ok : Nat → TypeId → Prop) (z : Value) (rep : World → Nat → α → Value → Prop) (r : Option (α × List UInt8)) (e : Ending) (w' : World) : Prop :=
  Kept noBlock w w' ∧ ((r = none ∧ ∃ c : Int, c ≠ 0 ∧ e = .returned (.tuple #[z, .slice none 0 0, .int .i64 c])) ∨
    ∃ a rest x A c, r = some (a, rest) ∧ e = .returned (.tuple #[x, .slice A rest.length c, .int .i64 0]) ∧ rep w' w.heap.size a x ∧ SlK w' ok 1 (.slice A rest.length c) rest.length (Lib.byteCells rest))
theorem GetPost.bad {α : Type} {w w' : World} {ok : Nat → TypeId → Prop} {z : Value} {rep : World → Nat → α → Value → Prop} {r : Option (α × List UInt8)} {e : Ending} {c : Int} (hk : Kept noBlock w w') (hr : r = none) (hc : c ≠ 0) (he : e = .returned (.tuple #[z, .slice none 0 0, .int .i64 c])) : GetPost w ok z rep r e w' :=
  ⟨hk, .inl ⟨hr, c, hc, he⟩⟩
theorem GetPost.good {α : Type} {w w' : World} {ok : Nat → TypeId → Prop} {z : Value} {rep : World → Nat → α → Value → Prop} {r : Option (α × List UInt8)} {e : Ending} {a : α} {rest : List UInt8} {x : Value} {A : Option Addr} {n c : Nat} (hk : Kept noBlock w w') (hr : r = some (a, rest)) (hn : rest.length = n) (he : e = .returned (.tuple #[x, .slice A n c, .int .i64 0])) (hx : rep w' w.heap.size a x) (hs : SlK w' ok 1 (.slice A n c) n (Lib.byteCells rest)) : GetPost w ok z rep r e w' := by
  subst hn
  exact ⟨hk, .inr ⟨a, rest, x, A, c, hr, he, hx, hs⟩⟩
theorem own_slk2 {w : World} {b : Nat} {e : TypeId} {sz n : Nat} {v : Value} {xs : List Value} (h : w.ownsRow b e sz v n xs) : SlK w (fun g e' => b ≤ g ∧ e' = e) sz v n xs := by
  have hs := Sl.of_own h
  obtain ⟨hl, A, cap, rfl, h1, h2, h3⟩ := hs
  refine ⟨hl, A, cap, rfl, h1, h2, ?_⟩
  rcases h3 with h3 | ⟨g, off, cs, e1, fz, rfl, hh, ho, hc⟩
  · exact .inl h3
  · refine .inr ⟨g, off, cs, e1, fz, rfl, hh, ?_, hc⟩
    rcases h.2 with ⟨e, h0⟩ | ⟨g', cap', cur, e, hb, _⟩
    · cases e
    · cases e; exact ⟨hb, ho⟩
/-- How values lie: a text; bytes of their own. -/
def txR (_ : World) (_ : Nat) (a : List UInt8) (x : Value) : Prop := x = .string (bS a)
def OwnB (ty : TypeId) (w : World) (B : Nat) (A : Option Addr) (n c : Nat) (l : List UInt8) : Prop := n = l.length ∧ SlK w (fun g e => B ≤ g ∧ e = ty) 1 (.slice A n c) n (Lib.byteCells l)
def vlR (ty : TypeId) (w : World) (B : Nat) (a : Int × List UInt8) (x : Value) : Prop := ∃ A n c, x = .agg #[.int .i64 a.1, .slice A n c] ∧ OwnB ty w B A n c a.2
def inR (ty : TypeId) (w : World) (B : Nat) (a : List UInt8 × Nat) (x : Value) : Prop := ∃ A n c, x = .agg #[.slice A n c, .int .u32 (a.2 : Int)] ∧ OwnB ty w B A n c a.1
theorem OwnB.kept {ty : TypeId} {w w' : World} {B B' : Nat} {A : Option Addr} {n c : Nat} {l : List UInt8} (h : OwnB ty w B A n c l) (hk : Kept noBlock w w') (hB : B' ≤ B) : OwnB ty w' B' A n c l :=
  ⟨h.1, (h.2.keptNone hk).any fun _ _ _ e => ⟨Nat.le_trans hB e.1, e.2⟩⟩
theorem OwnB.nil (ty : TypeId) (w : World) (B : Nat) : OwnB ty w B none 0 0 [] := ⟨rfl, SlK.nil _ _ _⟩
theorem takeP_none {n : Nat} {l : List UInt8} (h : l.length < n) : takeP n l = none := by unfold takeP; rw [if_pos h]
theorem takeP_some {n : Nat} {l : List UInt8} (h : n ≤ l.length) : takeP n l = some (l.take n, l.drop n) := by unfold takeP; rw [if_neg (by omega)]
end Go.Proofs.YtfnjoceolcdeoaaGreatDoor
namespace Go.Proofs.YtfnjoceolcdeoaaGreatDoor
set_option linter.unusedVariables false
open Go.RowKit

set_option maxHeartbeats 1000000 in
set_option maxRecDepth 100000 in
theorem pGetText_at {w : World} {ok : Nat → TypeId → Prop} {v : Value} {n : Nat} {l : List UInt8} (h : SlK w ok 1 v n (bsC l)) (hn : n ≤ 1000000) :
    Calls Tryz.prog 177 #[v] w (GetPost w ok (.string noStr) txR (getTextP l)) := by
  have hln : l.length = n := by have := h.len; rw [bsC_len] at this; omega
  have HLN := Lib.hid hln
  clear hln
  by_cases hs : n < 2
  · have HR : Hid (getTextP l = none) := Lib.hid (by unfold getTextP; rw [if_pos (by have := HLN.out; omega)])
    have HG := Lib.hid (oGet_short h 2 (by omega) (by omega) hs)
    clear h
    go_enter Tryz.func177, Tryz.ntmps177
    go_wp2_with fail
    go_at_call 89
    refine HG.out.mono ?_
    rintro e w2 ⟨rfl, rfl⟩
    go_wp2
    go_ret3
    exact GetPost.bad (Kept.refl _ _) HR.out (by decide) rfl
  · have HG := Lib.hid (oGet_at h 2 (by omega) (by omega) (by omega))
    clear h
    have hb : beN (l.take 2) < 65536 := Nat.lt_of_lt_of_le (beN_lt _) (Nat.le_trans (Nat.pow_le_pow_right (by decide) (show (l.take 2).length ≤ 2 by rw [List.length_take]; omega)) (by decide))
    have HBN := Lib.hid hb
    clear hb
    generalize hm : beN (l.take 2) = m at *
    have HM := Lib.hid hm
    clear hm
    by_cases hl : n - 2 < m
    · have HR : Hid (getTextP l = none) := Lib.hid (by unfold getTextP; rw [if_neg (by have := HLN.out; omega), HM.out]; exact takeP_none (by rw [List.length_drop, HLN.out]; exact hl))
      go_enter Tryz.func177, Tryz.ntmps177
      go_wp2_with fail
      go_at_call 89
      refine HG.out.mono ?_
      rintro e w2 ⟨A, c, rfl, hs1, hg⟩
      have HC := Lib.hid (pCounted_short (SlK.keptNone hs1 hg.kept) m (by omega) hl)
      go_wp2_with fail
      go_at_call 200
      refine HC.out.mono ?_
      rintro e w3 ⟨rfl, rfl⟩
      go_wp2
      go_ret3
      exact GetPost.bad hg.kept HR.out (by decide) rfl
    · have HR : Hid (getTextP l = some ((l.drop 2).take m, (l.drop 2).drop m)) := Lib.hid (by unfold getTextP; rw [if_neg (by have := HLN.out; omega), HM.out]; exact takeP_some (by rw [List.length_drop, HLN.out]; omega))
      have HLR : Hid (((l.drop 2).drop m).length = n - 2 - m) := Lib.hid (by rw [List.length_drop, List.length_drop, HLN.out])
      go_enter Tryz.func177, Tryz.ntmps177
      go_wp2_with fail
      go_at_call 89
      refine HG.out.mono ?_
      rintro e w2 ⟨A, c, rfl, hs1, hg⟩
      have HC := Lib.hid (pCounted_at (SlK.keptNone hs1 hg.kept) m (by omega) (by omega))
      go_wp2_with fail
      go_at_call 200
      refine HC.out.mono ?_
      rintro e w3 ⟨A3, c3, rfl, hs3, hk⟩
      go_wp2
      go_ret3
      exact GetPost.good (hg.kept.trans hk fun _ _ h => h) HR.out HLR.out rfl rfl hs3

theorem s32_lt {l : List UInt8} : s32 (beN (l.take 4)) < 2147483648 ∧ -2147483648 ≤ s32 (beN (l.take 4)) := by
  have := be4_lt (l := l)
  unfold s32
  split <;> omega
set_option maxHeartbeats 1000000 in
set_option maxRecDepth 100000 in
theorem pLength_at (n : Int) (w : World) : Calls Tryz.prog 224 #[.int .i64 n] w fun e w' => e = .returned (.bool (decide (n = 4 ∨ n = 16))) ∧ w' = w := by
  by_cases h4 : n = 4
  · subst h4
    go_enter Tryz.func224, Tryz.ntmps224
    go_wp2
    go_ret
    exact ⟨rfl, rfl⟩
  · by_cases h16 : n = 16
    · subst h16
      go_enter Tryz.func224, Tryz.ntmps224
      go_wp2
      go_ret
      exact ⟨rfl, rfl⟩
    · have q4 : (n == 4) = false := by rw [beq_eq_false_iff_ne]; exact h4
      have q16 : (n == 16) = false := by rw [beq_eq_false_iff_ne]; exact h16
      rw [decide_eq_false (by omega)]
      clear h4 h16
      go_enter Tryz.func224, Tryz.ntmps224
      go_wp2
      go_ret
      exact ⟨rfl, rfl⟩
end Go.Proofs.YtfnjoceolcdeoaaGreatDoor

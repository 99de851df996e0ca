/- Texts: the comparison by bytes · conn.step to open; conn.onward · Numbers and long texts out of bytes, plainly. No program is named · A byte behind others, a half of a byte: or, and, shifts. No program is named · octets: the number in the first bytes; so many bytes; a number below 0, or not · octets.Signed, octets.Take; prims' numbers and long texts. -/
import Derived.Test.YtfnjoceolcdeoaaGreatDoorMr03
import Derived.Laws.StructEq
import Derived.Test.YtfnjoceolcdeoaaGreatDoorMr25
import Derived.WalkKit
import Derived.Laws.BitsLemmas
import Derived.Test.YtfnjoceolcdeoaaGreatDoorMr04
import Derived.Test.YtfnjoceolcdeoaaGreatDoorMr07
import Derived.Deep.LoopGhost
import Derived.Laws.OwnMore
import Derived.Lib.SliceRun
import Derived.BigQuiet
import Derived.OwnWalk
import Derived.Laws.IdiomStrings
namespace Go.Proofs.YtfnjoceolcdeoaaGreatDoor
set_option linter.unusedVariables false
open Go.RowKit

theorem strEq (a b : ByteArray) : (a.toList == b.toList) = decide (a = b) := by
  rw [← beq_toListBytes]
  cases a with
  | mk x =>
    cases b with
    | mk y =>
      show (x == y) = _
      by_cases h : x = y
      · subst h; simp
      · have h2 : ¬ (ByteArray.mk x = ByteArray.mk y) := fun e => h (by injection e)
        rw [decide_eq_false h2]
        simp [h]
theorem strEq_self (a : ByteArray) : (a.toList == a.toList) = true := by rw [strEq]; simp
theorem strEq_ne {a b : ByteArray} (h : a ≠ b) : (a.toList == b.toList) = false := by rw [strEq]; simp [h]
end Go.Proofs.YtfnjoceolcdeoaaGreatDoor
namespace Go.Proofs.YtfnjoceolcdeoaaGreatDoor
set_option linter.unusedVariables false
open Go.RowKit

theorem OutB.cells {w : World} {o B : Nat} {X : List UInt8} {an nt : RwN} {rd : Bool} {dd : Int} {ls : RwN} (h : OutB w o B X an nt rd dd ls) : w.cell? ⟨o, 3, none⟩ = some (.bool rd) ∧ w.frozen? ⟨o, 3, none⟩ = false ∧ o < w.heap.size := by
  obtain ⟨A, n, k, va, vn, vl, hn, hb, hr, ha, ht, hs, hl⟩ := h
  exact ⟨hb.cell 3, hb.frozen 3, hb.lt⟩
theorem OutB.ready {w : World} {o B : Nat} {X : List UInt8} {an nt : RwN} {rd : Bool} {dd : Int} {ls : RwN} (h : OutB w o B X an nt rd dd ls) (b : Bool) : OutB (w.setCell ⟨o, 3, none⟩ (.bool b)) o B X an nt b dd ls := by
  obtain ⟨A, n, k, va, vn, vl, hn, hb, hr, ha, ht, hs, hl⟩ := h
  exact ⟨A, n, k, va, vn, vl, hn, hb.set_ 3 _, own_far hr hb (by decide) 3 _, own_far ha hb (by decide) 3 _, own_far ht hb (by decide) 3 _, own_far hs hb (by decide) 3 _, hl⟩
/-- Open. -/
def XC.opened (x : XC) : XC := { x with state := 6, shake := -1 }
def OpenPost (w : World) (lo hi c : Nat) (x : XC) (o B : Nat) (X : List UInt8) (an nt : RwN) (dd : Int) (ls : RwN) (e : Ending) (w' : World) : Prop :=
  e = .returned (.tuple #[]) ∧ ConnAt w' lo hi c x.opened ∧ OutB w' o B X an nt true dd ls ∧ Kept (outS lo hi o B) w w'
set_option maxHeartbeats 4000000 in
set_option maxRecDepth 100000 in
theorem cnStep_open {w : World} {lo hi c : Nat} {x : XC} (h : ConnAt w lo hi c x) {o B : Nat} {X : List UInt8} {an nt : RwN} {rd : Bool} {dd : Int} {ls : RwN} (hO : OutB w o B X an nt rd dd ls) (hoB : ¬ (lo ≤ o ∧ o < hi)) (hB : hi ≤ B) :
    Calls Tryz.prog 39 #[.pointer (some ⟨c, 0, none⟩), .int .i64 6, .pointer (some ⟨o, 0, none⟩)] w (OpenPost w lo hi c x o B X an nt dd ls) := by
  obtain ⟨gs, g, m1, m2, mo, h⟩ := h
  have c8 : w.cell? ⟨c, 8, none⟩ = some (.int .i64 x.state) := h.blk.cell 8
  have c12 : w.cell? ⟨c, 12, none⟩ = some (.int .i64 x.shake) := h.blk.cell 12
  have f8 := h.blk.frozen 8
  have f12 := h.blk.frozen 12
  have hoc : o ≠ c := fun e => hoB (by rw [e]; exact h.rc)
  have h1 := (h.setc 8 (.int .i64 6) { x with state := 6 } rfl rfl (fun _ e => e) rfl rfl).setc 12 (.int .i64 (-1)) x.opened rfl rfl (fun _ e => e) rfl rfl
  have hk1 : Kept (fun k => k = c) w ((w.setCell ⟨c, 8, none⟩ (.int .i64 6)).setCell ⟨c, 12, none⟩ (.int .i64 (-1))) := ((Kept.refl (fun k => k = c) w).setCell (p := ⟨c, 8, none⟩) (fun _ => rfl) _).setCell (p := ⟨c, 12, none⟩) (fun _ => rfl) _
  have hO1 := hO.kept hk1 (fun e => hoB (by rw [e]; exact h.rc)) fun k hk e => by have := h.rc; omega
  obtain ⟨o3, of3, -⟩ := hO1.cells
  have HO1 := Lib.hid hO1
  have HK1 := Lib.hid hk1
  have H1 := Lib.hid h1
  have HRC := Lib.hid h.rc
  clear h1 hk1 hO1 h hO
  go_enter Tryz.func39, Tryz.ntmps39
  go_wp2
  go_end0
  have hk2 := (Kept.refl (fun k => k = o) ((w.setCell ⟨c, 8, none⟩ (.int .i64 6)).setCell ⟨c, 12, none⟩ (.int .i64 (-1)))).setCell (p := ⟨o, 3, none⟩) (fun _ => rfl) (.bool true)
  exact ⟨rfl, ⟨gs, g, m1, m2, mo, H1.out.kept hk2 fun k e => by rw [e]; exact hoB⟩, HO1.out.ready true, (HK1.out.mono (T := outS lo hi o B) fun k _ e => .inl (by rw [e]; exact HRC.out)).trans (hk2.mono (T := outS lo hi o B) fun k _ e => .inr (.inl e)) fun _ _ e => e⟩
set_option maxHeartbeats 4000000 in
set_option maxRecDepth 100000 in
/-- onward, where no keyspace is wanted any more, and no events. -/
theorem cnOn_open {w : World} {lo hi c : Nat} {x : XC} (h : ConnAt w lo hi c x) {o B : Nat} {X : List UInt8} {an nt : RwN} {rd : Bool} {dd : Int} {ls : RwN} (hO : OutB w o B X an nt rd dd ls) (hoB : ¬ (lo ≤ o ∧ o < hi)) (hB : hi ≤ B)
    (hks : 4 ≤ x.state ∨ x.ks = ⟨#[]⟩) {Ae : Option Addr} {ce : Nat} (hev : 5 ≤ x.state ∨ x.ev = .slice Ae 0 ce) :
    Calls Tryz.prog 93 #[.pointer (some ⟨c, 0, none⟩), .pointer (some ⟨o, 0, none⟩)] w (OpenPost w lo hi c x o B X an nt dd ls) := by
  have HS := Lib.hid (cnStep_open h hO hoB hB)
  obtain ⟨gs, g, m1, m2, mo, h⟩ := h
  have c8 : w.cell? ⟨c, 8, none⟩ = some (.int .i64 x.state) := h.blk.cell 8
  have c1 : w.cell? ⟨c, 1, none⟩ = some (.string x.ks) := h.blk.cell 1
  have c3 : w.cell? ⟨c, 3, none⟩ = some x.ev := h.blk.cell 3
  clear h hO
  generalize x.state = st at *
  by_cases h4 : 4 ≤ st
  · by_cases h5 : 5 ≤ st
    · clear hks hev
      go_enter Tryz.func93, Tryz.ntmps93
      go_wp2_with fail
      go_at_call 39
      refine HS.out.mono ?_
      rintro e w2 ⟨rfl, hp⟩
      have HP := Lib.hid hp
      clear hp
      go_wp2
      go_end0
      exact ⟨rfl, HP.out⟩
    · have he := hev.resolve_left h5
      rw [he] at c3
      clear hks hev
      go_enter Tryz.func93, Tryz.ntmps93
      go_wp2_with fail
      go_at_call 39
      refine HS.out.mono ?_
      rintro e w2 ⟨rfl, hp⟩
      have HP := Lib.hid hp
      clear hp
      go_wp2
      go_end0
      exact ⟨rfl, HP.out⟩
  · have hk := hks.resolve_left h4
    have he := hev.resolve_left (by omega)
    rw [he] at c3
    rw [hk] at c1
    clear hks hev
    go_enter Tryz.func93, Tryz.ntmps93
    go_wp2_with fail
    go_at_call 39
    refine HS.out.mono ?_
    rintro e w2 ⟨rfl, hp⟩
    have HP := Lib.hid hp
    clear hp
    go_wp2
    go_end0
    exact ⟨rfl, HP.out⟩
end Go.Proofs.YtfnjoceolcdeoaaGreatDoor
namespace Go.Proofs.YtfnjoceolcdeoaaGreatDoor
set_option linter.unusedVariables false
open Go.RowKit

def bS (l : List UInt8) : ByteArray := ⟨l.toArray⟩
def beN (l : List UInt8) : Nat := l.foldl (fun x c => x * 256 + c.toNat) 0
def s32 (n : Nat) : Int := if n < 2147483648 then (n : Int) else (n : Int) - 4294967296
theorem beN_snoc (l : List UInt8) (c : UInt8) : beN (l ++ [c]) = beN l * 256 + c.toNat := by unfold beN; rw [List.foldl_append]; rfl
theorem beN_lt (l : List UInt8) : beN l < 256 ^ l.length := by
  have key : ∀ (l : List UInt8) (x : Nat), l.foldl (fun x c => x * 256 + c.toNat) x < (x + 1) * 256 ^ l.length := by
    intro l
    induction l with
    | nil => intro x; simp
    | cons c l ih =>
      intro x
      rw [List.foldl_cons, List.length_cons, Nat.pow_succ]
      refine Nat.lt_of_lt_of_le (ih _) ?_
      have := c.toNat_lt
      rw [Nat.mul_comm (256 ^ l.length) 256, ← Nat.mul_assoc]
      exact Nat.mul_le_mul_right _ (by omega)
  unfold beN; simpa using key l 0
/-- A long text at the beginning, and what is behind. -/
def getLongP (l : List UInt8) : Option (List UInt8 × List UInt8) :=
  if l.length < 4 then none else if s32 (beN (l.take 4)) < 0 then none
  else if (l.drop 4).length < beN (l.take 4) then none else some ((l.drop 4).take (beN (l.take 4)), (l.drop 4).drop (beN (l.take 4)))
/-- Its code. -/
def getLongC (l : List UInt8) : Int :=
  if l.length < 4 then 10 else if s32 (beN (l.take 4)) < 0 then 11 else if (l.drop 4).length < beN (l.take 4) then 10 else 0
theorem getLong_len {l a r : List UInt8} (h : getLongP l = some (a, r)) : a.length ≤ l.length ∧ r.length + 4 ≤ l.length := by
  unfold getLongP at h
  split at h
  · cases h
  split at h
  · cases h
  split at h
  · cases h
  injection h with h
  injection h with h1 h2
  subst h1 h2
  simp only [List.length_take, List.length_drop] at *
  omega
end Go.Proofs.YtfnjoceolcdeoaaGreatDoor
namespace Go.Proofs.YtfnjoceolcdeoaaGreatDoor
set_option linter.unusedVariables false
theorem u64_or8 (x c : Nat) (hx : x * 256 + c < 18446744073709551616) (hc : c < 256) : bits .or .u64 (IntKind.u64.wrap ((x : Int) * 256)) (IntKind.u64.wrap (c : Int)) = ((x * 256 + c : Nat) : Int) := by
  have e1 : IntKind.u64.wrap ((x : Int) * 256) = ((x * 256 : Nat) : Int) := by rw [IntKind.wrap_u64]; omega
  have e2 : IntKind.u64.wrap (c : Int) = (c : Int) := by rw [IntKind.wrap_u64]; omega
  rw [e1, e2]
  have h1 : (BitVec.ofInt 64 ((x * 256 : Nat) : Int)).toNat = x * 256 := by rw [BitVec.toNat_ofInt]; omega
  have h2 : (BitVec.ofInt 64 (c : Int)).toNat = c := by rw [BitVec.toNat_ofInt]; omega
  have h3 : x * 256 ||| c = x * 256 + c := by
    have := Nat.shiftLeft_add_eq_or_of_lt (a := x) (i := 8) (b := c) (by omega)
    rw [Nat.shiftLeft_eq] at this
    exact this.symm
  show IntKind.u64.wrap ((BitVec.ofInt 64 ((x * 256 : Nat) : Int) ||| BitVec.ofInt 64 (c : Int)).toNat : Nat) = _
  rw [BitVec.toNat_or, h1, h2, h3, IntKind.wrap_u64]
  omega
theorem u8_and15 (c : Nat) : bits .and .u8 (c : Int) 15 = ((c % 16 : Nat) : Int) := by
  have h1 : (BitVec.ofInt 8 (c : Int)).toNat = c % 256 := by rw [BitVec.toNat_ofInt]; omega
  have h2 : (BitVec.ofInt 8 (15 : Int)).toNat = 15 := by decide
  have h3 : c % 256 &&& 15 = c % 256 % 16 := Nat.and_two_pow_sub_one_eq_mod _ 4
  show IntKind.u8.wrap ((BitVec.ofInt 8 (c : Int) &&& BitVec.ofInt 8 (15 : Int)).toNat : Nat) = _
  rw [BitVec.toNat_and, h1, h2, h3, IntKind.wrap_u8]
  omega
end Go.Proofs.YtfnjoceolcdeoaaGreatDoor
namespace Go.Proofs.YtfnjoceolcdeoaaGreatDoor
set_option linter.unusedVariables false
open Go.RowKit

theorem bytesT : SlT Tryz.prog 30 5 (.int .u8 0) 1 1 := ⟨Tryz.underlying30, by kernel_rfl, rfl, by decide, by decide⟩
abbrev bsC (l : List UInt8) : List Value := Lib.byteCells l
theorem bsC_len (l : List UInt8) : (bsC l).length = l.length := Lib.byteCells_length l
theorem bsC_get {l : List UInt8} {i : Nat} {c : UInt8} (h : l[i]? = some c) : (bsC l)[i]? = some (.int .u8 c.toNat) := by
  show (l.map _)[i]? = _
  rw [List.getElem?_map, h]; rfl
theorem bsC_take (l : List UInt8) (k : Nat) : (bsC l).take k = bsC (l.take k) := (List.map_take ..).symm
theorem bsC_drop (l : List UInt8) (k : Nat) : (bsC l).drop k = bsC (l.drop k) := (List.map_drop ..).symm
theorem byte_at {w : World} {ok : Nat → TypeId → Prop} {v : Value} {l : List UInt8} {n : Nat} (h : SlK w ok 1 v n (bsC l)) {i : Nat} {c : UInt8} (hi : l[i]? = some c) :
    ∃ g off, (∀ kd w', (Instr.indexAt 30 v (.int kd (i : Int))).run Tryz.prog w' = .ok (.pointer (some ⟨g, off, none⟩)) w') ∧ g < w.heap.size ∧ w.cell? ⟨g, off, none⟩ = some (.int .u8 c.toNat) := by
  have hlt : i < n := by
    have h1 := (List.getElem?_eq_some_iff.1 hi).1
    have h2 := h.len
    rw [bsC_len] at h2
    omega
  obtain ⟨g, off, h1, h2, h4, h3⟩ := h.run_index bytesT (i := (i : Int)) (k := i) rfl hlt
  exact ⟨g, off, h1, h2, h3 0 _ (by rw [Nat.mul_one, Nat.add_zero]; exact bsC_get hi)⟩

theorem Grew.drewN {w w' : World} (h : Grew w w') (k : Nat) : Grew w (w'.drewN k) := h.trans ⟨k, #[], by rw [Go.Sort.grow_empty]⟩
set_option maxHeartbeats 1000000 in
set_option maxRecDepth 100000 in
theorem oSize_at (n : Int) (h1 : 1 ≤ n) (h8 : n ≤ 8) (w : World) : Calls Tryz.prog 129 #[.int .i64 n] w fun e w' => e = .returned (.bool true) ∧ w' = w := by
  go_enter Tryz.func129, Tryz.ntmps129
  go_wp2
  go_ret
  exact ⟨rfl, rfl⟩

set_option maxHeartbeats 1000000 in
set_option maxRecDepth 100000 in
theorem oGet_short {w : World} {ok : Nat → TypeId → Prop} {v : Value} {n : Nat} {l : List UInt8} (h : SlK w ok 1 v n (bsC l)) (k : Nat) (h1 : 1 ≤ k) (h8 : k ≤ 8) (hs : n < k) :
    Calls Tryz.prog 89 #[v, .int .i64 (k : Int)] w fun e w' => e = .returned (.tuple #[.int .u64 0, .slice none 0 0, .int .i64 10]) ∧ w' = w := by
  have hsz := fun w => oSize_at (k : Int) (by omega) (by omega) w
  have hlen := h.run_len bytesT
  have HSZ := Lib.hid hsz
  clear hsz
  go_enter Tryz.func89, Tryz.ntmps89
  go_wp2_with fail
  go_at_call 129
  refine (HSZ.out _).mono ?_
  rintro e w2 ⟨rfl, rfl⟩
  go_wp2
  go_ret3
  exact ⟨rfl, rfl⟩
set_option maxHeartbeats 4000000 in
set_option maxRecDepth 100000 in
theorem oGet_at {w : World} {ok : Nat → TypeId → Prop} {v : Value} {n : Nat} {l : List UInt8} (h : SlK w ok 1 v n (bsC l)) (k : Nat) (h1 : 1 ≤ k) (h8 : k ≤ 8) (hs : k ≤ n) :
    Calls Tryz.prog 89 #[v, .int .i64 (k : Int)] w fun e w' => ∃ A c, e = .returned (.tuple #[.int .u64 (beN (l.take k)), .slice A (n - k) c, .int .i64 0]) ∧ SlK w ok 1 (.slice A (n - k) c) (n - k) (bsC (l.drop k)) ∧ Grew w w' := by
  have hln : l.length = n := by have := h.len; rw [bsC_len] at this; omega
  have hsz := fun w => oSize_at (k : Int) (by omega) (by omega) w
  have hlen := h.run_len bytesT
  obtain ⟨A1, c1, hto, hst⟩ := h.run_to bytesT (i := (k : Int)) (k := k) rfl hs
  obtain ⟨A2, c2, hfrom, hsf⟩ := h.run_from bytesT (i := (k : Int)) (k := k) rfl hs
  rw [Nat.mul_one, bsC_drop] at hsf
  rw [Nat.mul_one, bsC_take] at hst
  have hlen1 := hst.run_len bytesT
  have HSF := Lib.hid hsf
  have HST := Lib.hid hst
  have HSZ := Lib.hid hsz
  clear hsz hsf hst h
  go_enter Tryz.func89, Tryz.ntmps89
  go_wp2_with fail
  go_at_call 129
  refine (HSZ.out _).mono ?_
  rintro e w2 ⟨rfl, rfl⟩
  go_wp2_with fail
  go_loopg [7, 23, 9] k (fun j vx vi vc wr => ∃ i : Nat, i + j = k ∧ vi = .int .i64 (i : Nat) ∧ vx = .int .u64 (beN (l.take i) : Nat) ∧ Grew w2 wr)
  case atStart => exact ⟨0, by omega, rfl, rfl, Grew.refl _⟩
  case round =>
    obtain ⟨i, hik, rfl, rfl, hg⟩ := hrel
    have HIK := Lib.hid hik
    have HG := Lib.hid hg
    by_cases hlt : i < k
    · obtain ⟨c, hc⟩ : ∃ c, l[i]? = some c := ⟨_, List.getElem?_eq_getElem (by omega)⟩
      have hc2 : (l.take k)[i]? = some c := by rw [List.getElem?_take_of_lt hlt]; exact hc
      obtain ⟨g, off, hidx, hgl, hc0⟩ := byte_at (SlK.keptNone HST.out hg.kept) hc2
      have hnx : beN (l.take (i + 1)) = beN (l.take i) * 256 + c.toNat := by rw [List.take_add_one, hc]; exact beN_snoc (l.take i) c
      have hb := beN_lt (l.take i)
      have hbb : beN (l.take i) < 256 ^ 7 := Nat.lt_of_lt_of_le hb (Nat.pow_le_pow_right (by decide) (by rw [List.length_take]; omega))
      have hor := u64_or8 (beN (l.take i)) c.toNat (by have := c.toNat_lt; omega) c.toNat_lt
      rw [← hnx] at hor
      have HOR := Lib.hid hor
      clear hik hg hnx hb hbb hor
      go_wp2
      go_roundg (k - (i + 1))
      case measure => have := HIK.out; omega
      case rel => exact ⟨i + 1, by have := HIK.out; omega, by go_num, by rw [HOR.out], HG.out⟩
    · obtain rfl : i = k := by omega
      clear hik hg
      go_wp2_with fail
      go_quiet (fail)
      go_wp2
      go_ret3
      exact ⟨_, _, rfl, HSF.out, HG.out.drewN _⟩
end Go.Proofs.YtfnjoceolcdeoaaGreatDoor
namespace Go.Proofs.YtfnjoceolcdeoaaGreatDoor
set_option linter.unusedVariables false
open Go.RowKit

theorem bsC_one {l : List UInt8} {u : Value} (h : u ∈ bsC l) : u.oneCell' = true := by
  obtain ⟨b, -, rfl⟩ := List.mem_map.1 h; rfl
theorem bytes_str {w : World} {ok : Nat → TypeId → Prop} {v : Value} {n : Nat} {l : List UInt8} (h : SlK w ok 1 v n (bsC l)) : (convert 30 9 v).run Tryz.prog w = .ok (.string (bS l)) w := by
  have hln : l.length = n := by have := h.len; rw [bsC_len] at this; omega
  obtain ⟨hl, A, c, rfl, -, -, hd⟩ := h
  rcases hd with ⟨h0, rfl⟩ | ⟨g, off, cs, e1, fz, rfl, hh, -, hc⟩
  · subst h0
    obtain rfl : l = [] := List.eq_nil_of_length_eq_zero hln
    rw [run_convert_bytes_string w _ _ _ A 0 _ Tryz.underlying30 Tryz.underlying5 Tryz.underlying9]
    cases A with
    | none => simp [Conv.bytesToString]; rfl
    | some a => exact run_bytesToString w a 0 _ [] (by simp [loadCells]; rfl)
  · subst hln
    exact run_convert_bytes_back w _ _ _ ⟨g, off, none⟩ c l Tryz.underlying30 Tryz.underlying5 Tryz.underlying9 fun j hj => by
      rw [Addr.add_lit, cell_of_row w g _ cs e1 fz hh]
      exact hc _ _ (bsC_get (List.getElem?_eq_getElem hj))
theorem s32_shift (x : Nat) (hx : x < 4294967296) : wrap64 ((x : Int) * 4294967296) / 4294967296 = s32 x := by
  unfold s32 wrap64
  split <;> omega
set_option maxHeartbeats 1000000 in
set_option maxRecDepth 100000 in
theorem oSigned_at (x : Nat) (hx : x < 4294967296) (w : World) : Calls Tryz.prog 222 #[.int .u64 x, .int .i64 4] w fun e w' => e = .returned (.int .i64 (s32 x)) ∧ w' = w := by
  have HSZ := Lib.hid (fun w => oSize_at 4 (by omega) (by omega) w)
  have hs := s32_shift x hx
  go_enter Tryz.func222, Tryz.ntmps222
  go_wp2_with fail
  go_at_call 129
  refine (HSZ.out _).mono ?_
  rintro e w2 ⟨rfl, rfl⟩
  go_wp2
  go_ret
  rw [← hs]
  exact ⟨rfl, rfl⟩
set_option maxHeartbeats 1000000 in
set_option maxRecDepth 100000 in
theorem BClone_at {w : World} {ok : Nat → TypeId → Prop} {v : Value} {n : Nat} {l : List UInt8} (h : SlK w ok 1 v n (bsC l)) (hn : n ≤ 1000000) :
    Calls Tryz.prog 35 #[v] w fun e w' => ∃ v', e = .returned v' ∧ w'.ownsRow w.heap.size 5 1 v' n (bsC l) ∧ Kept noBlock w w' := by
  obtain ⟨A, c, rfl, -, -⟩ := h.shape
  cases A with
  | none =>
    have hz : n = 0 ∧ bsC l = [] := by
      obtain ⟨hl, A', c', e, -, -, hd⟩ := h
      cases e
      rcases hd with ⟨h0, -⟩ | ⟨g, off, cs, t, fz, e, -⟩
      · subst h0; exact ⟨rfl, List.eq_nil_of_length_eq_zero (by omega)⟩
      · cases e
    obtain ⟨rfl, hz⟩ := hz
    rw [hz]
    clear h hz
    have q1 : ∀ w, (binOp .eql 30 (.slice none 0 c) (.slice none 0 0)).run Tryz.prog w = .ok (.bool true) w := fun w => Lib.run_eql_slice_nil w _ _ none 0 c 0 0 Tryz.underlying30
    go_enter Tryz.func35, Tryz.ntmps35
    go_wp2
    go_ret
    exact ⟨_, rfl, World.ownsRow_nil _ _ _ _, Kept.refl _ _⟩
  | some A =>
    have H := Lib.hid h
    clear h
    have q1 : ∀ w, (binOp .eql 30 (.slice (some A) n c) (.slice none 0 0)).run Tryz.prog w = .ok (.bool false) w := fun w => Lib.run_eql_slice_nil w _ _ (some A) n c 0 0 Tryz.underlying30
    go_enter Tryz.func35, Tryz.ntmps35
    go_wp2_with (at_builtin; go_must (refine wpList_append_sl _ bytesT rfl (.tmp 5) (.tmp 6) rfl w.heap.size _ 0 [] rfl (World.ownsRow_made w #[] 0 (Nat.le_refl _) (Nat.zero_le _) rfl) _ n (bsC l) rfl (H.out.alloc _) (fun u hu => bsC_one hu) ?c1 ?c2 ?_))
    case c1 => omega
    case c2 => simp
    intro v' w3 hap
    have hown := hap.own
    have hk := hap.below (World.ownsRow_made w #[] 0 (Nat.le_refl _) (Nat.zero_le _) rfl) ((Kept.refl noBlock w).alloc _) (Nat.le_refl _)
    clear hap
    go_wp2
    go_ret
    exact ⟨_, rfl, by simpa using hown, hk⟩
set_option maxHeartbeats 1000000 in
set_option maxRecDepth 100000 in
theorem oTake_short {w : World} {ok : Nat → TypeId → Prop} {v : Value} {n : Nat} {l : List UInt8} (h : SlK w ok 1 v n (bsC l)) (k : Nat) (hn : n ≤ 1000000) (hs : n < k) :
    Calls Tryz.prog 161 #[v, .int .u64 (k : Int)] w fun e w' => e = .returned (.tuple #[.slice none 0 0, .slice none 0 0, .int .i64 10]) ∧ w' = w := by
  have hlen := h.run_len bytesT
  clear h
  go_enter Tryz.func161, Tryz.ntmps161
  go_wp2
  go_ret3
  exact ⟨rfl, rfl⟩
set_option maxHeartbeats 1000000 in
set_option maxRecDepth 100000 in
theorem oTake_at {w : World} {ok : Nat → TypeId → Prop} {v : Value} {n : Nat} {l : List UInt8} (h : SlK w ok 1 v n (bsC l)) (k : Nat) (hn : n ≤ 1000000) (hs : k ≤ n) :
    Calls Tryz.prog 161 #[v, .int .u64 (k : Int)] w fun e w' => ∃ v' A c, e = .returned (.tuple #[v', .slice A (n - k) c, .int .i64 0]) ∧ w'.ownsRow w.heap.size 5 1 v' k (bsC (l.take k)) ∧ SlK w' ok 1 (.slice A (n - k) c) (n - k) (bsC (l.drop k)) ∧ Kept noBlock w w' := by
  have hlen := h.run_len bytesT
  obtain ⟨A1, c1, hto, hst⟩ := h.run_to bytesT (i := (k : Int)) (k := k) rfl hs
  obtain ⟨A2, c2, hfrom, hsf⟩ := h.run_from bytesT (i := (k : Int)) (k := k) rfl hs
  rw [Nat.mul_one, bsC_drop] at hsf
  rw [Nat.mul_one, bsC_take] at hst
  have HSF := Lib.hid hsf
  have HST := Lib.hid hst
  clear hsf hst h
  go_enter Tryz.func161, Tryz.ntmps161
  go_wp2_with fail
  go_region_with (go_at_call 35; refine (BClone_at (by exact HST.out.drew) (by omega)).mono ?_; rintro e w1 ⟨v1, rfl, ho, hk⟩)
  go_wp2
  go_ret3
  exact ⟨_, _, _, rfl, ho, SlK.keptNone HSF.out ((Kept.refl noBlock w).drew.trans hk fun _ _ h => h), (Kept.refl noBlock w).drew.trans hk fun _ _ h => h⟩
end Go.Proofs.YtfnjoceolcdeoaaGreatDoor

/- ring.Read: where a text spells a number · ring.Read by digits: strconv's reading of a number and the document's reference · Numbers as digits: what the reference reads of them · control, plainly: tokens out of bytes. No program is named · Texts: the comparison by bytes · hosts, plainly: hosts by rising names; what a refresh makes of them; how far one is; their ring's places. No program is named · control, plainly: the hosts that rows tell of. No program is named · control: tables of rows as they stand in memory · A byte behind others, a half of a byte: or, and, shifts. No program is named · A region that draws its order, walked in ONE order that a program checks: an operation marked 'true' may be taken now (it may come up, nobody who could come before it touches its slots, and it yields one value in every world of S); an operation marked 'false' is the only one that may come up now. No program is named · A region that draws its order, where at one place two operations may come up: both ways are walked. No program is named · octets: the number in the first bytes; so many bytes; a number below 0, or not · octets.Signed, octets.Take; prims' numbers and long texts · hosts, plainly: how far one is; the places of the ring; what is new, what is gone. No program is named · Several rows of one's own: an append to one leaves the others as they are · map[string]bool · A map as a list of pairs: reading and writing. No program is named · hosts: the picture of a table in the heap: its block, its map, its hosts' token rows; what is the table's own. -/
import Derived.Test.YtdcdefkloibfnaaGreatDoorMg01
import Derived.Test.YtdcdefkloibfnaaGreatDoorPiShelf
import Derived.Laws.StructEq
import Derived.WalkKit
import Derived.Laws.BitsLemmas
import Derived.OrdersHeld
import Derived.RegionTactic
import Derived.Deep.RegionHeld3
import Derived.Deep.LoopGhost
import Derived.Laws.OwnMore
import Derived.Lib.SliceRun
import Derived.BigQuiet
import Derived.OwnWalk
import Derived.Laws.IdiomStrings
namespace Go.Proofs.YtdcdefkloibfnaaGreatDoor
set_option linter.unusedVariables false
open Go.RowKit

theorem bytesWorld_kept (w : World) (e : TypeId) (s : ByteArray) : Kept noBlock w (Lib.bytesWorld w e s) := by
  have h1 := ((Kept.refl noBlock w).drew).alloc (.cells (Lib.bytesCells w e s) e)
  unfold Lib.bytesWorld World.freeze
  rw [if_neg (by decide)]
  refine ⟨rfl, rfl, rfl, by simp [Array.size_modify], fun k hk _ => ?_⟩
  have h2 := h1.block k hk (fun h => h)
  rw [← h2]
  show (Array.modify _ w.heap.size _)[k]? = _
  rw [Array.getElem?_modify, if_neg (by omega)]

/-- Does a text begin with '+'? -/
def plus (s : ByteArray) : Bool := decide (1 ≤ s.size) && ((s.extract 0 1).toList == [43])
set_option maxHeartbeats 1000000 in
set_option maxRecDepth 100000 in
theorem HasPre_at (s : ByteArray) (hs : s.size ≤ 1000) (w : World) : Calls Tryz.prog 78 #[.string s, .string ⟨#[43]⟩] w fun e w' => e = .returned (.bool (plus s)) ∧ w' = w := by
  by_cases h0 : 1 ≤ s.size
  · have hp := Lib.hid (show plus s = ((s.extract 0 1).toList == [43]) by unfold plus; rw [decide_eq_true h0, Bool.true_and])
    go_enter Tryz.func78, Tryz.ntmps78
    go_wp2
    go_ret
    exact ⟨by rw [hp.out]; rfl, rfl⟩
  · have hp := Lib.hid (show plus s = false by unfold plus; rw [decide_eq_false h0, Bool.false_and])
    go_enter Tryz.func78, Tryz.ntmps78
    go_wp2
    go_ret
    exact ⟨by rw [hp.out]; rfl, rfl⟩

set_option maxHeartbeats 1000000 in
set_option maxRecDepth 100000 in
theorem Rread_ok {s : ByteArray} {v : Int} (hs : s.size ≤ 1000) (h : Lib.parseIntB 64 s.data.toList = .ok v) (hp : plus s = false) (w : World) :
    Calls Tryz.prog 57 #[.string s] w fun e w' => e = .returned (.tuple #[.int .i64 v, .int .i64 0]) ∧ Kept noBlock w w' := by
  have HC := Lib.hid (Any.strconv_ParseInt_10_at64_ok Tryz.pint s (by omega) v h w)
  have HP := Lib.hid (fun W => hp ▸ HasPre_at s hs W)
  clear h hp
  go_enter Tryz.func57, Tryz.ntmps57
  go_wp2_with fail
  go_at_call 77
  refine HC.out.mono ?_
  rintro e w1 ⟨rfl, hw⟩
  have hk : Kept noBlock w w1 := by
    rcases hw with rfl | ⟨t, rfl⟩
    · exact Kept.refl _ _
    · exact bytesWorld_kept _ _ _
  clear hw
  go_wp2_with fail
  go_at_call 78
  refine (HP.out _).mono ?_
  rintro e w2 ⟨rfl, rfl⟩
  go_wp2
  go_ret2
  exact ⟨rfl, hk⟩
end Go.Proofs.YtdcdefkloibfnaaGreatDoor
namespace Go.Proofs.YtdcdefkloibfnaaGreatDoor
set_option linter.unusedVariables false
open Go.Lib

/-- The reference's walk over the digits, below 0 all the way. -/
def rgo (n : Int) : List UInt8 → Option Int
  | [] => some n
  | c :: r => if c.toNat < 48 ∨ 57 < c.toNat then none else
    if n < -922337203685477580 ∨ (n = -922337203685477580 ∧ 8 < (c.toNat : Int) - 48) then none else rgo (n * 10 - ((c.toNat : Int) - 48)) r
/-- What the reference answers, its number and its code. -/
def refRead (l : List UInt8) : Int × Int :=
  let neg := l.head? = some 45
  let r := if neg then l.drop 1 else l
  if r = [] then (0, 11) else
  match rgo 0 r with
  | none => (0, 11)
  | some n => if neg then (n, 0) else if n = -9223372036854775808 then (0, 11) else (-n, 0)
/-- What ring.Read answers. -/
def ringRead (l : List UInt8) : Int × Int :=
  match parseIntB 64 l with
  | .ok v => if l.head? = some 43 then (0, 11) else (v, 0)
  | _ => (0, 11)

theorem parseUintM_le {M acc u : Nat} {l : List UInt8} (h : parseUintM M acc l = .ok u) : acc ≤ u := by
  induction l generalizing acc with
  | nil => simp [parseUintM] at h; omega
  | cons c r ih =>
    unfold parseUintM at h
    split at h
    · split at h
      · cases h
      · split at h
        · cases h
        · have := ih h; omega
    · cases h
theorem rgo_parse (l : List UInt8) (acc : Nat) (ha : acc ≤ 9223372036854775808) :
    rgo (-(acc : Int)) l = match parseUintM (2 ^ 64 - 1) acc l with | .ok u => if u ≤ 9223372036854775808 then some (-(u : Int)) else none | _ => none := by
  induction l generalizing acc with
  | nil => simp [rgo, parseUintM, ha]
  | cons c r ih =>
    unfold rgo parseUintM
    by_cases hc : 48 ≤ c.toNat ∧ c.toNat ≤ 57
    · rw [if_neg (by omega), if_pos hc]
      by_cases hb : acc * 10 + (c.toNat - 48) ≤ 9223372036854775808
      · rw [if_neg (by omega), if_neg (by omega), if_neg (by omega), ← ih _ hb]
        congr 1; omega
      · rw [if_pos (by omega)]
        split
        · rename_i u hu
          split at hu
          · cases hu
          · split at hu
            · cases hu
            · have := parseUintM_le hu
              rw [if_neg (by omega)]
        · rfl
    · rw [if_pos (by omega), if_neg hc]

theorem rgo_zero (l : List UInt8) (hl : l ≠ []) : rgo 0 l = match parseUintB 64 l with | .ok u => if u ≤ 9223372036854775808 then some (-(u : Int)) else none | _ => none := by
  have h := rgo_parse l 0 (by omega)
  unfold parseUintB
  rw [if_neg hl]
  exact h
/-- THE LAW: the reference answers as strconv does. -/
theorem read_same (l : List UInt8) : refRead l = ringRead l := by
  cases l with
  | nil => rfl
  | cons c r =>
    have e45 : (some c = some 45) ↔ c.toNat = 45 := by
      rw [Option.some.injEq]; exact ⟨fun h => h ▸ rfl, fun h => UInt8.toNat_inj.1 h⟩
    have e43 : (some c = some 43) ↔ c.toNat = 43 := by
      rw [Option.some.injEq]; exact ⟨fun h => h ▸ rfl, fun h => UInt8.toNat_inj.1 h⟩
    by_cases h43 : c.toNat = 43
    · have hg : rgo 0 (c :: r) = none := by unfold rgo; rw [if_pos (by omega)]
      obtain rfl : c = 43 := UInt8.toNat_inj.1 h43
      clear h43 e45 e43
      have f45 : (some (43 : UInt8) = some 45) = False := eq_false (by decide)
      unfold refRead ringRead
      simp only [List.head?_cons, f45, if_true, if_false]
      rw [if_neg (by simp), hg]
      cases parseIntB 64 (43 :: r) <;> rfl
    unfold refRead ringRead parseIntB
    simp only [List.head?_cons, e45, e43, List.drop_succ_cons, List.drop_zero]
    by_cases h45 : c.toNat = 45
    · clear h43
      have h43 : ¬ c.toNat = 43 := by omega
      simp only [h45, if_true, if_false, or_true, not_true, false_and, true_and]
      by_cases hr : r = []
      · subst hr; rfl
      · rw [if_neg hr, rgo_zero r hr]
        rcases hp : parseUintB 64 r with u | _ | _
        · by_cases hu : u ≤ 9223372036854775808
          · simp [hu, Nat.not_lt.2 hu]
          · simp [hu, Nat.lt_of_not_le hu]
        · rfl
        · rfl
    · simp only [h45, h43, if_false, or_self, not_false_iff, true_and, false_and]
      rw [if_neg (by simp), rgo_zero _ (by simp)]
      rcases hp : parseUintB 64 (c :: r) with u | _ | _
      · by_cases hu : u ≤ 9223372036854775808
        · by_cases hu2 : u = 9223372036854775808
          · simp [hu2]
          · have : ¬ (9223372036854775808 ≤ u) := by omega
            have h3 : ¬ (-(u : Int) = -9223372036854775808) := by omega
            simp [hu, this, h3]
        · simp [hu, Nat.le_of_lt (Nat.lt_of_not_le hu)]
      · rfl
      · rfl
end Go.Proofs.YtdcdefkloibfnaaGreatDoor
namespace Go.Proofs.YtdcdefkloibfnaaGreatDoor
set_option linter.unusedVariables false

/-- Is it a digit? -/
def isDig (c : UInt8) : Prop := 48 ≤ c.toNat ∧ c.toNat ≤ 57
instance (c : UInt8) : Decidable (isDig c) := inferInstanceAs (Decidable (_ ∧ _))
/-- What a row of digits says, behind acc. -/
def val (acc : Nat) : List UInt8 → Nat
  | [] => acc
  | c :: r => val (acc * 10 + (c.toNat - 48)) r
theorem val_le (l : List UInt8) (acc : Nat) : acc ≤ val acc l := by
  induction l generalizing acc with
  | nil => exact Nat.le_refl _
  | cons c r ih => exact Nat.le_trans (by omega) (ih _)
theorem val_append (l r : List UInt8) (acc : Nat) : val acc (l ++ r) = val (val acc l) r := by
  induction l generalizing acc with
  | nil => rfl
  | cons c t ih => exact ih _
theorem rgo_val (l : List UInt8) (acc : Nat) (hd : ∀ c ∈ l, isDig c) (hv : val acc l ≤ 9223372036854775808) : rgo (-(acc : Int)) l = some (-(val acc l : Int)) := by
  induction l generalizing acc with
  | nil => rfl
  | cons c r ih =>
    have h1 := val_le r (acc * 10 + (c.toNat - 48))
    have h2 : val (acc * 10 + (c.toNat - 48)) r ≤ 9223372036854775808 := hv
    have h3 : 48 ≤ c.toNat ∧ c.toNat ≤ 57 := hd c (List.mem_cons_self ..)
    unfold rgo val
    rw [if_neg (by omega), if_neg (by omega), ← ih _ (fun d h => hd d (List.mem_cons_of_mem _ h)) h2]
    congr 1; omega
theorem rgo_bad (l : List UInt8) (n : Int) {c : UInt8} (hc : c ∈ l) (hb : ¬ isDig c) : rgo n l = none := by
  induction l generalizing n with
  | nil => cases hc
  | cons d r ih =>
    unfold rgo
    by_cases hd : d.toNat < 48 ∨ 57 < d.toNat
    · rw [if_pos hd]
    · rw [if_neg hd]
      split
      · rfl
      · refine ih _ ?_
        rcases List.mem_cons.1 hc with rfl | h
        · exact absurd (show 48 ≤ c.toNat ∧ c.toNat ≤ 57 by omega) hb
        · exact h
/-- The digits of a number. -/
def digs (m : Nat) : List UInt8 := if h : m < 10 then [UInt8.ofNat (48 + m)] else digs (m / 10) ++ [UInt8.ofNat (48 + m % 10)]
theorem dig_toNat {d : Nat} (h : d < 10) : (UInt8.ofNat (48 + d)).toNat = 48 + d := by
  simp [UInt8.toNat_ofNat']; omega
theorem digs_isDig (m : Nat) : ∀ c ∈ digs m, isDig c := by
  induction m using Nat.strongRecOn with
  | ind m ih =>
    intro c hc
    unfold digs at hc
    split at hc
    · rename_i h
      obtain rfl := List.mem_singleton.1 hc
      unfold isDig; rw [dig_toNat h]; omega
    · rcases List.mem_append.1 hc with h | h
      · exact ih _ (by omega) c h
      · obtain rfl := List.mem_singleton.1 h
        unfold isDig; rw [dig_toNat (Nat.mod_lt _ (by decide))]; omega
theorem digs_small {m : Nat} (h : m < 10) : digs m = [UInt8.ofNat (48 + m)] := by unfold digs; exact dif_pos h
theorem digs_great {m : Nat} (h : ¬ m < 10) : digs m = digs (m / 10) ++ [UInt8.ofNat (48 + m % 10)] := by
  conv => lhs; unfold digs
  exact dif_neg h
theorem val_one (a d : Nat) (h : d < 10) : val a [UInt8.ofNat (48 + d)] = a * 10 + d := by
  show a * 10 + ((UInt8.ofNat (48 + d)).toNat - 48) = _
  rw [dig_toNat h]; omega
theorem digs_val (m : Nat) : val 0 (digs m) = m := by
  induction m using Nat.strongRecOn with
  | ind m ih =>
    by_cases h : m < 10
    · rw [digs_small h, val_one _ _ h]; omega
    · rw [digs_great h, val_append, ih _ (by omega), val_one _ _ (Nat.mod_lt _ (by decide))]; omega
theorem digs_ne (m : Nat) : digs m ≠ [] := by
  unfold digs; split <;> simp
theorem digs_len (m k : Nat) (h : m < 10 ^ (k + 1)) : (digs m).length ≤ k + 1 := by
  induction k generalizing m with
  | zero => unfold digs; rw [dif_pos (by simpa using h)]; exact Nat.le_refl _
  | succ k ih =>
    unfold digs
    split
    · simp
    · rw [List.length_append]
      have := ih (m / 10) (by rw [Nat.div_lt_iff_lt_mul (by decide)]; rw [← Nat.pow_succ]; exact h)
      exact Nat.succ_le_succ this
/-- How a number is written. -/
def spell (n : Int) : List UInt8 := if n < 0 then 45 :: digs n.natAbs else digs n.natAbs
theorem head_dig {l : List UInt8} (hd : ∀ c ∈ l, isDig c) : l.head? = some 45 → False := by
  intro h
  have := hd 45 (List.mem_of_mem_head? h)
  exact absurd this (by decide)
theorem refRead_pos {l : List UInt8} (hne : l ≠ []) (hd : ∀ c ∈ l, isDig c) (hv : val 0 l < 9223372036854775808) : refRead l = (((val 0 l : Nat) : Int), 0) := by
  have hn : ¬ (l.head? = some 45) := head_dig hd
  have hr : rgo 0 l = some (-(val 0 l : Int)) := rgo_val l 0 hd (by omega)
  unfold refRead
  simp only [hn, if_false]
  rw [if_neg hne, hr]
  simp only []
  rw [if_neg (by omega), Int.neg_neg]
theorem refRead_neg {l : List UInt8} (hne : l ≠ []) (hd : ∀ c ∈ l, isDig c) (hv : val 0 l ≤ 9223372036854775808) : refRead (45 :: l) = (-(val 0 l : Int), 0) := by
  have hr : rgo 0 l = some (-(val 0 l : Int)) := rgo_val l 0 hd hv
  unfold refRead
  simp only [List.head?_cons, if_true, List.drop_succ_cons, List.drop_zero]
  rw [if_neg hne, hr]
theorem refRead_bad {l : List UInt8} {c : UInt8} (hc : c ∈ l) (hb : ¬ isDig c) (h45 : l.head? = some 45 → c ∈ l.drop 1) : refRead l = (0, 11) := by
  unfold refRead
  by_cases hn : l.head? = some 45
  · simp only [hn, if_true]
    have := h45 hn
    rw [if_neg (List.ne_nil_of_mem this), rgo_bad _ _ this hb]
  · simp only [hn, if_false]
    rw [if_neg (List.ne_nil_of_mem hc), rgo_bad _ _ hc hb]
theorem val_zeros (k : Nat) (l : List UInt8) : val 0 (List.replicate k 48 ++ l) = val 0 l := by
  induction k with
  | zero => rfl
  | succ k ih => rw [List.replicate_succ, List.cons_append]; exact ih
/-- With noughts ahead. -/
def wrz (n : Int) (k : Nat) : List UInt8 := if n < 0 then 45 :: (List.replicate k 48 ++ digs n.natAbs) else List.replicate k 48 ++ digs n.natAbs
theorem wrz_zero (n : Int) : wrz n 0 = spell n := by unfold wrz spell; rfl
theorem zeros_dig (k m : Nat) : ∀ c ∈ List.replicate k (48 : UInt8) ++ digs m, isDig c := by
  intro c hc
  rcases List.mem_append.1 hc with h | h
  · rw [(List.mem_replicate.1 h).2]; decide
  · exact digs_isDig m c h
/-- LAW: a number that is written, noughts ahead or not, is read. -/
theorem read_wrz {n : Int} (h1 : -9223372036854775808 ≤ n) (h2 : n < 9223372036854775808) (k : Nat) : refRead (wrz n k) = (n, 0) := by
  have hne : List.replicate k (48 : UInt8) ++ digs n.natAbs ≠ [] := by simp [digs_ne]
  unfold wrz
  split
  · rw [refRead_neg hne (zeros_dig _ _) (by rw [val_zeros, digs_val]; omega), val_zeros, digs_val]
    congr 1; omega
  · rw [refRead_pos hne (zeros_dig _ _) (by rw [val_zeros, digs_val]; omega), val_zeros, digs_val]
    congr 1; omega
/-- LAW: with another byte put in it is refused. -/
theorem read_put (n : Int) (k : Nat) (c : UInt8) (hk : k ≤ (spell n).length) (hc : ¬ isDig c) (hm : ¬ (c = 45 ∧ k = 0 ∧ 0 ≤ n)) : refRead ((spell n).take k ++ [c] ++ (spell n).drop k) = (0, 11) := by
  cases k with
  | zero =>
    rw [List.take_zero, List.nil_append, List.drop_zero]
    by_cases h45 : c = 45
    · subst h45
      have hn : n < 0 := by
        rcases Int.lt_or_le n 0 with h | h
        · exact h
        · exact absurd ⟨rfl, rfl, h⟩ hm
      refine refRead_bad (c := 45) (List.mem_append_left _ (List.mem_singleton.2 rfl)) (by decide) (fun _ => ?_)
      unfold spell; rw [if_pos hn]
      exact List.mem_cons_self ..
    · exact refRead_bad (c := c) (List.mem_append_left _ (List.mem_singleton.2 rfl)) hc (fun h => absurd (Option.some.inj h) h45)
  | succ k =>
    refine refRead_bad (c := c) (List.mem_append_left _ (List.mem_append_right _ (List.mem_singleton.2 rfl))) hc (fun _ => ?_)
    cases hw : spell n with
    | nil => rw [hw] at hk; simp at hk
    | cons d r =>
      rw [List.take_succ_cons, List.drop_succ_cons, List.cons_append, List.cons_append, List.drop_succ_cons, List.drop_zero]
      exact List.mem_append_left _ (List.mem_append_right _ (List.mem_singleton.2 rfl))
/-- Digits one by one, from the last one on: what stands ahead. -/
theorem digs_step {m : Nat} (r : List UInt8) (h : ¬ m < 10) : digs m ++ r = digs (m / 10) ++ ([UInt8.ofNat (48 + m % 10)] ++ r) := by
  rw [digs_great h, List.append_assoc]
theorem digs_last {m : Nat} (r : List UInt8) (h : m < 10) : digs m ++ r = [UInt8.ofNat (48 + m % 10)] ++ r := by
  rw [digs_small h, Nat.mod_eq_of_lt h]
end Go.Proofs.YtdcdefkloibfnaaGreatDoor
namespace Go.Proofs.YtdcdefkloibfnaaGreatDoor
set_option linter.unusedVariables false
open Go.RowKit

def bS (l : List UInt8) : ByteArray := ⟨l.toArray⟩
def beN (l : List UInt8) : Nat := l.foldl (fun x c => x * 256 + c.toNat) 0
def s32 (n : Nat) : Int := if n < 2147483648 then (n : Int) else (n : Int) - 4294967296
theorem beN_snoc (l : List UInt8) (c : UInt8) : beN (l ++ [c]) = beN l * 256 + c.toNat := by unfold beN; rw [List.foldl_append]; rfl
theorem beN_lt (l : List UInt8) : beN l < 256 ^ l.length := by
  have key : ∀ (l : List UInt8) (x : Nat), l.foldl (fun x c => x * 256 + c.toNat) x < (x + 1) * 256 ^ l.length := by
    intro l
    induction l with
    | nil => intro x; simp
    | cons c l ih =>
      intro x
      rw [List.foldl_cons, List.length_cons, Nat.pow_succ]
      refine Nat.lt_of_lt_of_le (ih _) ?_
      have := c.toNat_lt
      rw [Nat.mul_comm (256 ^ l.length) 256, ← Nat.mul_assoc]
      exact Nat.mul_le_mul_right _ (by omega)
  unfold beN; simpa using key l 0
/-- A long text at the beginning, and what is behind. -/
def getLongP (l : List UInt8) : Option (List UInt8 × List UInt8) :=
  if l.length < 4 then none else if s32 (beN (l.take 4)) < 0 then none
  else if (l.drop 4).length < beN (l.take 4) then none else some ((l.drop 4).take (beN (l.take 4)), (l.drop 4).drop (beN (l.take 4)))
/-- Its code. -/
def getLongC (l : List UInt8) : Int :=
  if l.length < 4 then 10 else if s32 (beN (l.take 4)) < 0 then 11 else if (l.drop 4).length < beN (l.take 4) then 10 else 0
/-- So many tokens. -/
def tokGo : Nat → List UInt8 → Option (List Int × List UInt8)
  | 0, l => some ([], l)
  | k + 1, l => match getLongP l with
    | none => none
    | some p => if (ringRead p.1).2 = 0 then (tokGo k p.2).map fun q => ((ringRead p.1).1 :: q.1, q.2) else none
def tokEnd : Option (List Int × List UInt8) → Option (List Int)
  | none => none
  | some q => if q.2.length = 0 then some q.1 else none
/-- The tokens of a value. -/
def tokensP (kind : Int) (l : List UInt8) : Option (List Int) :=
  if kind ≠ 2 then some [] else if l.length < 4 then none else if s32 (beN (l.take 4)) < 0 then none
  else tokEnd (tokGo (beN (l.take 4)) (l.drop 4))
theorem getLong_len {l a r : List UInt8} (h : getLongP l = some (a, r)) : a.length ≤ l.length ∧ r.length + 4 ≤ l.length := by
  unfold getLongP at h
  split at h
  · cases h
  split at h
  · cases h
  split at h
  · cases h
  injection h with h
  injection h with h1 h2
  subst h1 h2
  simp only [List.length_take, List.length_drop] at *
  omega
theorem ringRead_code (l : List UInt8) : (ringRead l).2 = 0 ∨ (ringRead l).2 = 11 := by
  unfold ringRead
  split
  · split
    · exact .inr rfl
    · exact .inl rfl
  · exact .inr rfl
theorem tokGo_bad {k : Nat} {l : List UInt8} (h : getLongP l = none) : tokGo (k + 1) l = none := by unfold tokGo; rw [h]
theorem tokGo_bad2 {k : Nat} {l : List UInt8} {p : List UInt8 × List UInt8} (h : getLongP l = some p) (hr : (ringRead p.1).2 ≠ 0) : tokGo (k + 1) l = none := by
  unfold tokGo; rw [h]; simp only []; rw [if_neg hr]
theorem tokGo_ok {k : Nat} {l : List UInt8} {p : List UInt8 × List UInt8} (h : getLongP l = some p) (hr : (ringRead p.1).2 = 0) : tokGo (k + 1) l = (tokGo k p.2).map fun q => ((ringRead p.1).1 :: q.1, q.2) := by
  conv => lhs; unfold tokGo
  rw [h]; simp only []; rw [if_pos hr]
theorem tokGo_len : ∀ (k : Nat) (l : List UInt8) (q : List Int × List UInt8), tokGo k l = some q → q.1.length = k ∧ 4 * k + q.2.length ≤ l.length
  | 0, l, q, h => by unfold tokGo at h; cases h; simp
  | k + 1, l, q, h => by
    cases hg : getLongP l with
    | none => rw [tokGo_bad hg] at h; cases h
    | some p =>
      by_cases hr : (ringRead p.1).2 = 0
      · rw [tokGo_ok hg hr] at h
        cases hq : tokGo k p.2 with
        | none => rw [hq] at h; cases h
        | some q' =>
          rw [hq] at h
          cases h
          have h1 := tokGo_len k p.2 q' hq
          have h2 := getLong_len (l := l) (a := p.1) (r := p.2) hg
          simp only [List.length_cons]
          omega
      · rw [tokGo_bad2 hg hr] at h; cases h
theorem tokens_len {kind : Int} {l : List UInt8} {ts : List Int} (h : tokensP kind l = some ts) : 4 * ts.length ≤ l.length := by
  unfold tokensP at h
  split at h
  · cases h; simp
  split at h
  · cases h
  split at h
  · cases h
  cases hq : tokGo (beN (l.take 4)) (l.drop 4) with
  | none => rw [hq] at h; cases h
  | some q =>
    rw [hq] at h
    unfold tokEnd at h
    simp only at h
    split at h
    · cases h
      have := tokGo_len _ _ _ hq
      rw [List.length_drop] at this
      omega
    · cases h
end Go.Proofs.YtdcdefkloibfnaaGreatDoor
namespace Go.Proofs.YtdcdefkloibfnaaGreatDoor
set_option linter.unusedVariables false
open Go.RowKit

theorem strEq (a b : ByteArray) : (a.toList == b.toList) = decide (a = b) := by
  rw [← beq_toListBytes]
  cases a with
  | mk x =>
    cases b with
    | mk y =>
      show (x == y) = _
      by_cases h : x = y
      · subst h; simp
      · have h2 : ¬ (ByteArray.mk x = ByteArray.mk y) := fun e => h (by injection e)
        rw [decide_eq_false h2]
        simp [h]
theorem strEq_self (a : ByteArray) : (a.toList == a.toList) = true := by rw [strEq]; simp
theorem strEq_ne {a b : ByteArray} (h : a ≠ b) : (a.toList == b.toList) = false := by rw [strEq]; simp [h]
end Go.Proofs.YtdcdefkloibfnaaGreatDoor
namespace Go.Proofs.YtdcdefkloibfnaaGreatDoor
set_option linter.unusedVariables false
open Go.RowKit

structure Ho where
  name : ByteArray
  dc : ByteArray
  rack : ByteArray
  toks : List Int
  up : Bool
/-- A text is ahead of another one. -/
def nlt (a b : ByteArray) : Prop := a.toList < b.toList
theorem nlt_iff (a b : ByteArray) : a.data.toList < b.data.toList ↔ nlt a b := by unfold nlt; rw [ByteArray.toList_eq, ByteArray.toList_eq]
instance decNlt (a b : ByteArray) : Decidable (nlt a b) := decidable_of_iff (a.data.toList < b.data.toList) (nlt_iff a b)
theorem toList_inj {a b : ByteArray} (h : a.toList = b.toList) : a = b := by
  have := strEq a b
  rw [h] at this
  simpa using this
theorem nlt_irrefl (a : ByteArray) : ¬ nlt a a := List.lt_irrefl _
theorem nlt_trans {a b c : ByteArray} (h : nlt a b) (k : nlt b c) : nlt a c := List.lt_trans h k
theorem nlt_tri {a b : ByteArray} (h : ¬ nlt a b) (k : ¬ nlt b a) : a = b := toList_inj (List.le_antisymm (List.not_lt.1 k) (List.not_lt.1 h))
theorem nlt_asymm {a b : ByteArray} (h : nlt a b) : ¬ nlt b a := fun k => nlt_irrefl a (nlt_trans h k)
def risingH (S : List Ho) : Prop := S.Pairwise fun a b => nlt a.name b.name
def getS (x : ByteArray) (S : List Ho) : Option Ho := S.find? fun h => decide (h.name = x)
theorem getS_name {x : ByteArray} {S : List Ho} {h : Ho} (e : getS x S = some h) : h.name = x := by simpa using List.find?_some e
theorem getS_mem {x : ByteArray} {S : List Ho} {h : Ho} (e : getS x S = some h) : h ∈ S := List.mem_of_find?_eq_some e
theorem getS_none {x : ByteArray} {S : List Ho} : getS x S = none ↔ ∀ h ∈ S, h.name ≠ x := by
  unfold getS; rw [List.find?_eq_none]; simp
theorem rising_ne {S : List Ho} (hS : risingH S) : S.Pairwise fun a b => a.name ≠ b.name := List.Pairwise.imp (R := fun a b : Ho => nlt a.name b.name) (S := fun a b : Ho => a.name ≠ b.name) (fun {a b} h e => nlt_irrefl b.name (by rw [e] at h; exact h)) hS
theorem getS_of_mem : ∀ {S : List Ho} {h : Ho}, S.Pairwise (fun a b => a.name ≠ b.name) → h ∈ S → getS h.name S = some h
  | [], _, _, hh => by cases hh
  | a :: S, h, hS, hh => by
    obtain ⟨h1, h2⟩ := List.pairwise_cons.1 hS
    unfold getS
    rw [List.find?_cons]
    rcases List.mem_cons.1 hh with rfl | hh
    · simp
    · rw [decide_eq_false (h1 h hh)]
      exact getS_of_mem h2 hh
theorem ne_nodup {S : List Ho} (h : S.Pairwise fun a b => a.name ≠ b.name) : S.Nodup := h.imp fun h e => h (by rw [e])
/-- Two rows of the same hosts are a permutation of each other. -/
theorem perm_of_get {S S' : List Ho} (h : S.Pairwise fun a b => a.name ≠ b.name) (h' : S'.Pairwise fun a b => a.name ≠ b.name) (e : ∀ x, getS x S = getS x S') : S.Perm S' :=
  (List.perm_ext_iff_of_nodup (ne_nodup h) (ne_nodup h')).2 fun a => ⟨fun ha => getS_mem ((e a.name) ▸ getS_of_mem h ha), fun ha => getS_mem ((e a.name).symm ▸ getS_of_mem h' ha)⟩
theorem rising_ext {S S' : List Ho} (h : risingH S) (h' : risingH S') (e : ∀ x, getS x S = getS x S') : S = S' :=
  List.Perm.eq_of_pairwise (fun a b _ _ h1 h2 => absurd h2 (nlt_asymm h1)) h h' (perm_of_get (rising_ne h) (rising_ne h') e)
theorem nlt_nodup {A : List ByteArray} (h : A.Pairwise nlt) : A.Nodup := List.Pairwise.imp (R := nlt) (S := fun a b => a ≠ b) (fun {a b} h e => nlt_irrefl b (by rw [e] at h; exact h)) h
theorem names_ext {A B : List ByteArray} (h : A.Pairwise nlt) (h' : B.Pairwise nlt) (e : ∀ x, x ∈ A ↔ x ∈ B) : A = B :=
  List.Perm.eq_of_pairwise (fun a b _ _ h1 h2 => absurd h2 (nlt_asymm h1)) h h' ((List.perm_ext_iff_of_nodup (nlt_nodup h) (nlt_nodup h')).2 e)
theorem ints_ext {A B : List Int} (h : A.Pairwise (· < ·)) (h' : B.Pairwise (· < ·)) (e : ∀ x, x ∈ A ↔ x ∈ B) : A = B :=
  List.Perm.eq_of_pairwise (fun a b _ _ h1 h2 => by omega) h h' ((List.perm_ext_iff_of_nodup (h.imp fun h e => by omega) (h'.imp fun h e => by omega)).2 e)

/-! Tokens, rising, each one once. -/
def tokAt (l : List Int) (x : Int) : Nat := l.findIdx fun y => !decide (y < x)
def insTok (l : List Int) (x : Int) : List Int := if l[tokAt l x]? = some x then l else l.take (tokAt l x) ++ x :: l.drop (tokAt l x)
def tidyP (l : List Int) : List Int := l.foldl insTok []
theorem tokAt_le (l : List Int) (x : Int) : tokAt l x ≤ l.length := List.findIdx_le_length
theorem tokAt_lt {l : List Int} {x y : Int} {k : Nat} (h : k < tokAt l x) (hy : l[k]? = some y) : y < x := by
  have h1 := List.not_of_lt_findIdx h
  have h2 : l[k]'(Nat.lt_of_lt_of_le h (tokAt_le l x)) = y := (List.getElem?_eq_some_iff.1 hy).2
  rw [h2] at h1
  simpa using h1
theorem tokAt_ge {l : List Int} {x y : Int} (hy : l[tokAt l x]? = some y) : ¬ y < x := by
  obtain ⟨h1, h2⟩ := List.getElem?_eq_some_iff.1 hy
  have h3 := List.findIdx_getElem (w := h1)
  have h4 : (!decide (l[tokAt l x] < x)) = true := h3
  rw [h2] at h4
  simpa using h4
theorem insTok_spec {l : List Int} (h : l.Pairwise (· < ·)) (x : Int) : (insTok l x).Pairwise (· < ·) ∧ ∀ y, y ∈ insTok l x ↔ y = x ∨ y ∈ l := by
  unfold insTok
  by_cases e : l[tokAt l x]? = some x
  · rw [if_pos e]
    exact ⟨h, fun y => ⟨.inr, fun hy => hy.elim (fun e2 => e2 ▸ List.mem_of_getElem? e) id⟩⟩
  · rw [if_neg e]
    have hs := List.take_append_drop (tokAt l x) l
    have hm : ∀ y, y ∈ l ↔ y ∈ l.take (tokAt l x) ∨ y ∈ l.drop (tokAt l x) := fun y => by rw [← List.mem_append, hs]
    have h1 : ∀ y ∈ l.take (tokAt l x), y < x := by
      intro y hy
      obtain ⟨k, hk⟩ := List.getElem?_of_mem hy
      have hkl : k < tokAt l x := by
        have := (List.getElem?_eq_some_iff.1 hk).1
        rw [List.length_take] at this; omega
      rw [List.getElem?_take_of_lt hkl] at hk
      exact tokAt_lt hkl hk
    have h2 : ∀ y ∈ l.drop (tokAt l x), x < y := by
      rw [← hs] at h
      have hd := (List.pairwise_append.1 h).2.1
      cases hq : l.drop (tokAt l x) with
      | nil => intro y hy; cases hy
      | cons z r =>
        have hz : l[tokAt l x]? = some z := by
          have := congrArg (fun t => t[0]?) hq
          simpa using this
        have h3 := tokAt_ge hz
        have h4 : z ≠ x := fun e2 => e (by rw [hz, e2])
        rw [hq] at hd
        intro y hy
        rcases List.mem_cons.1 hy with rfl | hy
        · omega
        · have := (List.pairwise_cons.1 hd).1 y hy; omega
    rw [← hs] at h
    obtain ⟨p1, p2, p3⟩ := List.pairwise_append.1 h
    refine ⟨List.pairwise_append.2 ⟨p1, List.pairwise_cons.2 ⟨h2, p2⟩, fun a ha b hb => ?_⟩, fun y => ?_⟩
    · rcases List.mem_cons.1 hb with rfl | hb
      · exact h1 a ha
      · have := h1 a ha; have := h2 b hb; omega
    · rw [List.mem_append, List.mem_cons, hm]
      constructor
      · rintro (h | h | h)
        · exact .inr (.inl h)
        · exact .inl h
        · exact .inr (.inr h)
      · rintro (h | h | h)
        · exact .inr (.inl h)
        · exact .inl h
        · exact .inr (.inr h)
theorem tidy_fold : ∀ (l out : List Int), out.Pairwise (· < ·) → (l.foldl insTok out).Pairwise (· < ·) ∧ ∀ y, y ∈ l.foldl insTok out ↔ y ∈ out ∨ y ∈ l
  | [], out, h => ⟨h, by simp⟩
  | a :: l, out, h => by
    obtain ⟨h1, h2⟩ := insTok_spec h a
    obtain ⟨h3, h4⟩ := tidy_fold l (insTok out a) h1
    refine ⟨h3, fun y => ?_⟩
    rw [List.foldl_cons, h4, h2, List.mem_cons]
    constructor
    · rintro ((h | h) | h)
      · exact .inr (.inl h)
      · exact .inl h
      · exact .inr (.inr h)
    · rintro (h | h | h)
      · exact .inl (.inr h)
      · exact .inl (.inl h)
      · exact .inr h
theorem tidy_spec (l : List Int) : (tidyP l).Pairwise (· < ·) ∧ ∀ y, y ∈ tidyP l ↔ y ∈ l := by
  have := tidy_fold l [] .nil
  exact ⟨this.1, fun y => (this.2 y).trans (by simp)⟩
theorem tidy_uniq {l out : List Int} (h : out.Pairwise (· < ·)) (hm : ∀ y, y ∈ out ↔ y ∈ l) : out = tidyP l :=
  ints_ext h (tidy_spec l).1 fun x => (hm x).trans ((tidy_spec l).2 x).symm

/-! A refresh. -/
abbrev View := ByteArray → Option Ho
def updH (V : View) (h : Ho) : Ho := { h with toks := tidyP h.toks, up := match V h.name with | some o => o.up | none => h.up }
/-- Who is there behind a refresh. -/
def refr (V : View) (l : List Ho) (x : ByteArray) : Option Ho := if x = noStr then none else (getS x l).map (updH V)
theorem refr_nil (V : View) (x : ByteArray) : refr V [] x = none := by unfold refr getS; split <;> rfl
theorem refr_snoc (V : View) (l : List Ho) (h : Ho) (x : ByteArray) : refr V (l ++ [h]) x = match refr V l x with
    | some o => some o
    | none => if h.name = x ∧ x ≠ noStr then some (updH V h) else none := by
  unfold refr getS
  by_cases e : x = noStr
  · rw [if_pos e, if_pos e]; simp [e]
  · rw [if_neg e, if_neg e, List.find?_append]
    cases hf : l.find? fun h => decide (h.name = x) with
    | some o => rfl
    | none =>
      by_cases e2 : h.name = x
      · simp [e, e2]
      · simp [e2]
theorem refr_name {V : View} {l : List Ho} {x : ByteArray} {h : Ho} (e : refr V l x = some h) : h.name = x ∧ x ≠ noStr := by
  unfold refr at e
  by_cases h1 : x = noStr
  · rw [if_pos h1] at e; cases e
  · rw [if_neg h1] at e
    obtain ⟨o, ho, rfl⟩ := Option.map_eq_some_iff.1 e
    exact ⟨show o.name = x from getS_name ho, h1⟩

/-! The reference's way: one behind the other, each at its place. -/
def hoAt (S : List Ho) (x : ByteArray) : Nat := S.findIdx fun o => !decide (nlt o.name x)
def insH (S : List Ho) (h : Ho) : List Ho := S.take (hoAt S h.name) ++ h :: S.drop (hoAt S h.name)
theorem insH_spec {S : List Ho} (hS : risingH S) {h : Ho} (hn : getS h.name S = none) : risingH (insH S h) ∧ ∀ x, getS x (insH S h) = if h.name = x then some h else getS x S := by
  have hne := getS_none.1 hn
  have hs := List.take_append_drop (hoAt S h.name) S
  have h1 : ∀ o ∈ S.take (hoAt S h.name), nlt o.name h.name := by
    intro o ho
    obtain ⟨k, hk⟩ := List.getElem?_of_mem ho
    have hkl : k < hoAt S h.name := by
      have := (List.getElem?_eq_some_iff.1 hk).1
      rw [List.length_take] at this; omega
    rw [List.getElem?_take_of_lt hkl] at hk
    have h3 := List.not_of_lt_findIdx hkl
    have h4 := (List.getElem?_eq_some_iff.1 hk).2
    rw [h4] at h3
    simpa using h3
  have h2 : ∀ o ∈ S.drop (hoAt S h.name), nlt h.name o.name := by
    have hS2 := hS
    unfold risingH at hS2
    rw [← hs] at hS2
    have hd := (List.pairwise_append.1 hS2).2.1
    cases hq : S.drop (hoAt S h.name) with
    | nil => intro o ho; cases ho
    | cons z r =>
      have hz : S[hoAt S h.name]? = some z := by
        have := congrArg (fun t => t[0]?) hq
        simpa using this
      obtain ⟨h5, h6⟩ := List.getElem?_eq_some_iff.1 hz
      have h7 := List.findIdx_getElem (w := h5)
      have h7' : (!decide (nlt (S[hoAt S h.name]).name h.name)) = true := h7
      rw [h6] at h7'
      have h8 : ¬ nlt z.name h.name := by simpa using h7'
      have h9 : nlt h.name z.name := Classical.byContradiction fun e => hne z (List.mem_of_getElem? hz) (nlt_tri h8 e)
      rw [hq] at hd
      intro o ho
      rcases List.mem_cons.1 ho with rfl | ho
      · exact h9
      · exact nlt_trans h9 ((List.pairwise_cons.1 hd).1 o ho)
  have hS2 := hS
  unfold risingH at hS2
  rw [← hs] at hS2
  obtain ⟨p1, p2, p3⟩ := List.pairwise_append.1 hS2
  constructor
  · exact List.pairwise_append.2 ⟨p1, List.pairwise_cons.2 ⟨h2, p2⟩, fun a ha b hb => by
      rcases List.mem_cons.1 hb with rfl | hb
      · exact h1 a ha
      · exact p3 a ha b hb⟩
  · intro x
    unfold insH getS
    conv => rhs; rw [← hs]
    rw [List.find?_append, List.find?_append, List.find?_cons]
    by_cases e : h.name = x
    · have hnt : (S.take (hoAt S h.name)).find? (fun o => decide (o.name = x)) = none := List.find?_eq_none.2 fun o ho => by
        have := hne o (List.mem_of_mem_take ho)
        rw [e] at this
        simpa using this
      rw [hnt, decide_eq_true e, if_pos e]; rfl
    · rw [decide_eq_false e, if_neg e]
def refStep (V : View) (now : List Ho) (h : Ho) : List Ho := if h.name = noStr ∨ (getS h.name now).isSome = true then now else insH now (updH V h)
def refNow (V : View) (l : List Ho) : List Ho := l.foldl (refStep V) []
theorem refNow_fold (V : View) : ∀ (l l0 now : List Ho), risingH now → (∀ x, getS x now = refr V l0 x) → risingH (l.foldl (refStep V) now) ∧ ∀ x, getS x (l.foldl (refStep V) now) = refr V (l0 ++ l) x
  | [], l0, now, h1, h2 => ⟨h1, by simpa using h2⟩
  | h :: l, l0, now, h1, h2 => by
    have key : risingH (refStep V now h) ∧ ∀ x, getS x (refStep V now h) = refr V (l0 ++ [h]) x := by
      unfold refStep
      by_cases e : h.name = noStr ∨ (getS h.name now).isSome = true
      · rw [if_pos e]
        refine ⟨h1, fun x => ?_⟩
        rw [refr_snoc, h2]
        cases hr : refr V l0 x with
        | some o => rfl
        | none =>
          have : ¬ (h.name = x ∧ x ≠ noStr) := by
            rintro ⟨e1, e2⟩
            rcases e with e | e
            · exact e2 (e1 ▸ e)
            · rw [e1, h2, hr] at e; cases e
          simp only [if_neg this]
      · rw [if_neg e]
        have en : getS (updH V h).name now = none := by
          cases hg : getS (updH V h).name now with
          | none => rfl
          | some o => exact absurd (.inr (by rw [show h.name = (updH V h).name from rfl, hg]; rfl)) e
        obtain ⟨g1, g2⟩ := insH_spec h1 en
        refine ⟨g1, fun x => ?_⟩
        rw [g2, refr_snoc, h2]
        by_cases e1 : h.name = x
        · have e2 : refr V l0 x = none := by rw [← h2, ← e1]; exact en
          have e3 : x ≠ noStr := fun e4 => e (.inl (e1.trans e4))
          rw [if_pos (show (updH V h).name = x from e1), e2]
          simp only [if_pos (And.intro e1 e3)]
        · rw [if_neg (show ¬ (updH V h).name = x from e1)]
          cases hr : refr V l0 x with
          | some o => rfl
          | none => simp only [if_neg (fun e4 : h.name = x ∧ x ≠ noStr => e1 e4.1)]
    have := refNow_fold V l (l0 ++ [h]) (refStep V now h) key.1 key.2
    rw [List.append_assoc] at this
    exact this
theorem refNow_spec (V : View) (l : List Ho) : risingH (refNow V l) ∧ ∀ x, getS x (refNow V l) = refr V l x := by
  have := refNow_fold V l [] [] .nil fun x => by rw [refr_nil]; rfl
  exact ⟨this.1, fun x => by have h := this.2 x; rw [List.nil_append] at h; exact h⟩
end Go.Proofs.YtdcdefkloibfnaaGreatDoor
namespace Go.Proofs.YtdcdefkloibfnaaGreatDoor
set_option linter.unusedVariables false
open Go.RowKit

/-- A value: its kind, its bytes. -/
abbrev Vl := Int × List UInt8
abbrev cRpc : ByteArray := ⟨#[114, 112, 99, 95, 97, 100, 100, 114, 101, 115, 115]⟩
abbrev cTok : ByteArray := ⟨#[116, 111, 107, 101, 110, 115]⟩
abbrev cDc : ByteArray := ⟨#[100, 97, 116, 97, 95, 99, 101, 110, 116, 101, 114]⟩
abbrev cRack : ByteArray := ⟨#[114, 97, 99, 107]⟩
/-- A row's value of a column's name. -/
def cellP (cols : List ByteArray) (row : List Vl) (name : ByteArray) : Vl :=
  if cols.findIdx (fun c => decide (c = name)) < cols.length then (row[cols.findIdx fun c => decide (c = name)]?).getD (0, []) else (0, [])
def textP (v : Vl) : List UInt8 := if v.1 = 2 then v.2 else []
/-- What a row tells: no host, a host, or what may not be. -/
inductive RowP where
  | skip | bad | host (h : Ho)
def rowP (cols : List ByteArray) (row : List Vl) : RowP :=
  if nameP (textP (cellP cols row cRpc)) = [] then .skip
  else match tokensP (cellP cols row cTok).1 (cellP cols row cTok).2 with
    | none => .bad
    | some ts => .host ⟨bS (nameP (textP (cellP cols row cRpc))), bS (textP (cellP cols row cDc)), bS (textP (cellP cols row cRack)), ts, true⟩
def stepR (cols : List ByteArray) (acc : Option (List Ho)) (row : List Vl) : Option (List Ho) :=
  match acc with
  | none => none
  | some out => match rowP cols row with
    | .skip => some out
    | .bad => none
    | .host h => some (out ++ [h])
def hostsP (cols : List ByteArray) (rows : List (List Vl)) : Option (List Ho) := rows.foldl (stepR cols) (some [])
theorem hosts_none (cols : List ByteArray) : ∀ (rows : List (List Vl)), rows.foldl (stepR cols) none = none
  | [] => rfl
  | _ :: rows => by rw [List.foldl_cons]; exact hosts_none cols rows
theorem hosts_step {cols : List ByteArray} {rows : List (List Vl)} {i : Nat} {r : List Vl} (h : rows[i]? = some r) : hostsP cols (rows.take (i + 1)) = stepR cols (hostsP cols (rows.take i)) r := by
  unfold hostsP
  rw [List.take_add_one, h, List.foldl_append]; rfl
theorem hosts_bad {cols : List ByteArray} {rows : List (List Vl)} {i : Nat} (h : hostsP cols (rows.take i) = none) : hostsP cols rows = none := by
  unfold hostsP at *
  rw [← List.take_append_drop i rows, List.foldl_append, h]
  exact hosts_none _ _
section
variable {cols : List ByteArray} {rows : List (List Vl)} {i : Nat} {r : List Vl} {hs : List Ho}
theorem hosts_skip (h : rows[i]? = some r) (hp : hostsP cols (rows.take i) = some hs) (hn : nameP (textP (cellP cols r cRpc)) = []) : hostsP cols (rows.take (i + 1)) = some hs := by
  have e : rowP cols r = .skip := by unfold rowP; rw [if_pos hn]
  rw [hosts_step h, hp]; simp only [stepR, e]
theorem hosts_fail (h : rows[i]? = some r) (hp : hostsP cols (rows.take i) = some hs) (hn : nameP (textP (cellP cols r cRpc)) ≠ []) (ht : tokensP (cellP cols r cTok).1 (cellP cols r cTok).2 = none) : hostsP cols rows = none := by
  have e : rowP cols r = .bad := by unfold rowP; rw [if_neg hn, ht]
  refine hosts_bad (i := i + 1) ?_
  rw [hosts_step h, hp]; simp only [stepR, e]
theorem hosts_more (h : rows[i]? = some r) (hp : hostsP cols (rows.take i) = some hs) (hn : nameP (textP (cellP cols r cRpc)) ≠ []) {ts : List Int} (ht : tokensP (cellP cols r cTok).1 (cellP cols r cTok).2 = some ts) :
    hostsP cols (rows.take (i + 1)) = some (hs ++ [⟨bS (nameP (textP (cellP cols r cRpc))), bS (textP (cellP cols r cDc)), bS (textP (cellP cols r cRack)), ts, true⟩]) := by
  have e : rowP cols r = .host ⟨bS (nameP (textP (cellP cols r cRpc))), bS (textP (cellP cols r cDc)), bS (textP (cellP cols r cRack)), ts, true⟩ := by unfold rowP; rw [if_neg hn, ht]
  rw [hosts_step h, hp]; simp only [stepR, e]
theorem cell_le {M : Nat} (hM : ∀ v ∈ r, v.2.length ≤ M) (name : ByteArray) : (cellP cols r name).2.length ≤ M := by
  unfold cellP
  split
  · cases hg : r[cols.findIdx fun c => decide (c = name)]? with
    | none => exact Nat.zero_le _
    | some v => exact hM v (List.mem_of_getElem? hg)
  · exact Nat.zero_le _
end
theorem hosts_len (cols : List ByteArray) : ∀ (rows : List (List Vl)) (out o : List Ho), rows.foldl (stepR cols) (some out) = some o → o.length ≤ out.length + rows.length
  | [], out, o, h => by cases h; simp
  | r :: rows, out, o, h => by
    rw [List.foldl_cons] at h
    cases hr : rowP cols r with
    | skip =>
      have e : stepR cols (some out) r = some out := by simp only [stepR, hr]
      rw [e] at h; have := hosts_len cols rows out o h; simp; omega
    | bad =>
      have e : stepR cols (some out) r = none := by simp only [stepR, hr]
      rw [e, hosts_none] at h; cases h
    | host x =>
      have e : stepR cols (some out) r = some (out ++ [x]) := by simp only [stepR, hr]
      rw [e] at h; have := hosts_len cols rows _ o h; simp at this ⊢; omega
theorem hosts_toks {cols : List ByteArray} : ∀ (rows : List (List Vl)) (out o : List Ho), (∀ r ∈ rows, ∀ v ∈ r, v.2.length ≤ 1000) → (∀ h ∈ out, h.toks.length ≤ 250) → rows.foldl (stepR cols) (some out) = some o → ∀ h ∈ o, h.toks.length ≤ 250
  | [], out, o, _, ho, h => by cases h; exact ho
  | r :: rows, out, o, hr, ho, h => by
    rw [List.foldl_cons] at h
    cases hc : rowP cols r with
    | skip =>
      have e : stepR cols (some out) r = some out := by simp only [stepR, hc]
      rw [e] at h
      exact hosts_toks rows out o (fun r hr' => hr r (List.mem_cons_of_mem _ hr')) ho h
    | bad =>
      have e : stepR cols (some out) r = none := by simp only [stepR, hc]
      rw [e, hosts_none] at h; cases h
    | host x =>
      have e : stepR cols (some out) r = some (out ++ [x]) := by simp only [stepR, hc]
      rw [e] at h
      refine hosts_toks rows (out ++ [x]) o (fun r hr' => hr r (List.mem_cons_of_mem _ hr')) (fun y hy => ?_) h
      rcases List.mem_append.1 hy with h1 | h1
      · exact ho y h1
      · obtain rfl : y = x := by simpa using h1
        unfold rowP at hc
        split at hc
        · cases hc
        · split at hc
          · cases hc
          · rename_i ts ht
            cases hc
            have h1 := tokens_len ht
            have h2 := cell_le (M := 1000) (hr r (List.mem_cons_self ..)) (cols := cols) cTok
            show ts.length ≤ 250
            omega
end Go.Proofs.YtdcdefkloibfnaaGreatDoor
namespace Go.Proofs.YtdcdefkloibfnaaGreatDoor
set_option linter.unusedVariables false
open Go.RowKit

/-- A column. -/
structure CV where
  space : ByteArray
  table : ByteArray
  name : ByteArray
  id : Int
  osp : ByteArray
  onm : ByteArray
  na : Option Addr
  nn : Nat
  nc : Nat
  ka : Option Addr
  kn : Nat
  kc : Nat
def cvC (x : CV) : List Value := [.string x.space, .string x.table, .string x.name, .int .u16 x.id, .string x.osp, .string x.onm, .slice x.na x.nn x.nc, .slice x.ka x.kn x.kc]
/-- A value. -/
structure VV where
  kind : Int
  a : Option Addr
  n : Nat
  c : Nat
  l : List UInt8
def vvC (x : VV) : List Value := [.int .i64 x.kind, .slice x.a x.n x.c]
def VV.abs (x : VV) : Vl := (x.kind, x.l)
/-- A row. -/
structure RV where
  a : Option Addr
  n : Nat
  c : Nat
  vs : List VV
def RV.abs (x : RV) : List Vl := x.vs.map VV.abs
abbrev bC (l : List UInt8) : List Value := Lib.byteCells l
/-- A table's value. -/
structure TV2 where
  cnt : Int
  ca : Option Addr
  cn : Nat
  cc : Nat
  more : Bool
  sk : Int
  sa : Option Addr
  sn : Nat
  sc : Nat
  ra : Option Addr
  rn : Nat
  rc : Nat
  cols : List CV
  rows : List RV
def TV2.v (t : TV2) : Value := .agg #[.int .i64 t.cnt, .slice t.ca t.cn t.cc, .bool t.more, .int .i64 t.sk, .slice t.sa t.sn t.sc, .slice t.ra t.rn t.rc]
def TV2.names (t : TV2) : List ByteArray := t.cols.map (·.name)
def TV2.vals (t : TV2) : List (List Vl) := t.rows.map RV.abs
def VVAt (W : World) (B : Nat) (x : VV) : Prop := x.l.length = x.n ∧ Lo W B 1 (.slice x.a x.n x.c) x.n (bC x.l)
def RVAt (W : World) (B : Nat) (r : RV) : Prop := r.vs.length = r.n ∧ Lo W B 2 (.slice r.a r.n r.c) r.n (r.vs.flatMap vvC) ∧ ∀ x ∈ r.vs, VVAt W B x
/-- A table in memory, below block B. -/
structure TblAt (W : World) (B : Nat) (t : TV2) : Prop where
  cl : t.cols.length = t.cn
  cs : Lo W B 8 (.slice t.ca t.cn t.cc) t.cn (t.cols.flatMap cvC)
  rl : t.rows.length = t.rn
  rs : Lo W B 1 (.slice t.ra t.rn t.rc) t.rn (t.rows.map fun r => .slice r.a r.n r.c)
  rr : ∀ r ∈ t.rows, RVAt W B r
section
variable {W W' : World} {B : Nat} {S : Nat → Prop} {t : TV2}
theorem VVAt.kept {x : VV} (h : VVAt W B x) (hk : Kept S W W') (hS : ∀ k, k < B → ¬ S k) : VVAt W' B x := ⟨h.1, Lo.kept h.2 hk hS⟩
theorem RVAt.kept {r : RV} (h : RVAt W B r) (hk : Kept S W W') (hS : ∀ k, k < B → ¬ S k) : RVAt W' B r := ⟨h.1, Lo.kept h.2.1 hk hS, fun x hx => (h.2.2 x hx).kept hk hS⟩
theorem TblAt.kept (h : TblAt W B t) (hk : Kept S W W') (hS : ∀ k, k < B → ¬ S k) : TblAt W' B t := ⟨h.cl, Lo.kept h.cs hk hS, h.rl, Lo.kept h.rs hk hS, fun r hr => (h.rr r hr).kept hk hS⟩
theorem TblAt.keptN (h : TblAt W B t) (hk : Kept noBlock W W') : TblAt W' B t := h.kept hk fun _ _ e => e
end
end Go.Proofs.YtdcdefkloibfnaaGreatDoor
namespace Go.Proofs.YtdcdefkloibfnaaGreatDoor
set_option linter.unusedVariables false
theorem u64_or8 (x c : Nat) (hx : x * 256 + c < 18446744073709551616) (hc : c < 256) : bits .or .u64 (IntKind.u64.wrap ((x : Int) * 256)) (IntKind.u64.wrap (c : Int)) = ((x * 256 + c : Nat) : Int) := by
  have e1 : IntKind.u64.wrap ((x : Int) * 256) = ((x * 256 : Nat) : Int) := by rw [IntKind.wrap_u64]; omega
  have e2 : IntKind.u64.wrap (c : Int) = (c : Int) := by rw [IntKind.wrap_u64]; omega
  rw [e1, e2]
  have h1 : (BitVec.ofInt 64 ((x * 256 : Nat) : Int)).toNat = x * 256 := by rw [BitVec.toNat_ofInt]; omega
  have h2 : (BitVec.ofInt 64 (c : Int)).toNat = c := by rw [BitVec.toNat_ofInt]; omega
  have h3 : x * 256 ||| c = x * 256 + c := by
    have := Nat.shiftLeft_add_eq_or_of_lt (a := x) (i := 8) (b := c) (by omega)
    rw [Nat.shiftLeft_eq] at this
    exact this.symm
  show IntKind.u64.wrap ((BitVec.ofInt 64 ((x * 256 : Nat) : Int) ||| BitVec.ofInt 64 (c : Int)).toNat : Nat) = _
  rw [BitVec.toNat_or, h1, h2, h3, IntKind.wrap_u64]
  omega
theorem u8_and15 (c : Nat) : bits .and .u8 (c : Int) 15 = ((c % 16 : Nat) : Int) := by
  have h1 : (BitVec.ofInt 8 (c : Int)).toNat = c % 256 := by rw [BitVec.toNat_ofInt]; omega
  have h2 : (BitVec.ofInt 8 (15 : Int)).toNat = 15 := by decide
  have h3 : c % 256 &&& 15 = c % 256 % 16 := Nat.and_two_pow_sub_one_eq_mod _ 4
  show IntKind.u8.wrap ((BitVec.ofInt 8 (c : Int) &&& BitVec.ofInt 8 (15 : Int)).toNat : Nat) = _
  rw [BitVec.toNat_and, h1, h2, h3, IntKind.wrap_u8]
  omega
end Go.Proofs.YtdcdefkloibfnaaGreatDoor
namespace Go.Proofs.YtdcdefkloibfnaaGreatDoor
set_option linter.unusedVariables false
open Go.RowKit

/-- The check of an order. -/
def schedB (ops : Array Oper) : List (Nat × Bool) → Array Bool → Bool
  | [], listed => (Region.ready .any ops listed).isEmpty
  | (i, true) :: r, listed => (Region.ready .any ops listed).contains i && Region.free .any ops listed i && schedB ops r (listed.setIfInBounds i true)
  | (i, false) :: r, listed => (Region.ready .any ops listed == [i]) && schedB ops r (listed.setIfInBounds i true)

/-- An operation that yields one value and leaves the world: as the walk reads it. -/
def takesAt (P : Program) (o : Oper) (a : Act) (w : World) (v : Value) : Prop := (execOp a.eval o).run P w = .ok (.value v) w

section
variable {P : Program} {ops : Array Oper} {S : World → Prop} {Q : Exit → Act → World → Prop}

/-- The walk in that order. -/
def wpSched (P : Program) (ops : Array Oper) (S : World → Prop) (Q : Exit → Act → World → Prop) : List (Nat × Bool) → Act → World → Prop
  | [], a, w => Q .normal a w
  | (i, b) :: r, a, w => ∃ o, ops[i]? = some o ∧
    ((Region.wanted o (yielded ops a.tmps) = false ∧ wpSched P ops S Q r (a.put o.dst undef) w) ∨
     (Region.wanted o (yielded ops a.tmps) = true ∧ (match b with
        | true => ∃ v, (∀ w', S w' → takesAt P o a w' v) ∧ wpSched P ops S Q r (a.put o.dst v) w
        | false => o.wp P a w (fun a' w' => S w' ∧ wpSched P ops S Q r a' w') Q)))

theorem wpSched_sound (hs : Region.noSelect ops = true) (hQ : ∀ (d : Option Tmp) v c a w, Q (.panic c) (a.put d v) w → Q (.panic c) a w) :
    ∀ (l : List (Nat × Bool)) (listed : Array Bool) (a : Act) (w : World), schedB ops l listed = true → S w → wpSched P ops S Q l a w → wpAnyH P .any ops Q S l.length listed a w := by
  intro l
  induction l with
  | nil =>
    intro listed a w hB _ h
    exact ⟨List.isEmpty_iff.1 hB, h⟩
  | cons ib r ih =>
    obtain ⟨i, b⟩ := ib
    intro listed a w hB hS h
    obtain ⟨o, hi, h⟩ := h
    cases b with
    | true =>
      simp only [schedB, Bool.and_eq_true] at hB
      obtain ⟨⟨hr, hf⟩, hB⟩ := hB
      rcases h with ⟨hw, h⟩ | ⟨hw, v, hv, h⟩
      · exact wpAnyH_take hi hs hf hr (hQ _ _) (.inr ⟨hw, rfl⟩) hS (ih _ _ _ hB hS h)
      · exact wpAnyH_take hi hs hf hr (hQ _ _) (.inl ⟨hw, hv⟩) hS (ih _ _ _ hB hS h)
    | false =>
      simp only [schedB, Bool.and_eq_true, beq_iff_eq] at hB
      obtain ⟨hr, hB⟩ := hB
      refine wpAnyH_all hr (by simp) fun j hj => ?_
      obtain rfl : j = i := by simpa using hj
      unfold wpOp
      simp only [hi]
      rcases h with ⟨hw, h⟩ | ⟨hw, h⟩
      · simp only [hw, Bool.false_eq_true, if_false]
        exact ⟨hS, ih _ _ _ hB hS h⟩
      · simp only [hw, if_true]
        exact .inl (Oper.wp_mono (fun a' w' h' => ⟨h'.1, ih _ _ _ hB h'.1 h'.2⟩) h)

/-- The law. -/
theorem wp_region_sched {id : Nat} {a : Act} {w : World} (l : List (Nat × Bool)) (hm : P.follows .mixedOrders = true) (hs : Region.noSelect ops = true) (hB : (l.length == ops.size && schedB ops l (Array.replicate ops.size false)) = true)
    (hQ : ∀ (d : Option Tmp) v c a w, Q (.panic c) (a.put d v) w → Q (.panic c) a w) (hS : S w.drew) (h : wpSched P ops S Q l a w.drew) : (Code.region id ops true).wp P Q a w := by
  simp only [Bool.and_eq_true, beq_iff_eq] at hB
  refine wp_region_held (S := S) hm ?_
  have := wpSched_sound (P := P) (S := S) hs hQ l _ a w.drew hB.2 hS h
  rw [hB.1] at this
  exact this

/-- .. of a region that does not panic: whatever follows. -/
theorem wp_region_order {id : Nat} {a : Act} {w : World} (S : World → Prop) (l : List (Nat × Bool)) (hm : P.follows .mixedOrders = true) (hs : Region.noSelect ops = true) (hB : (l.length == ops.size && schedB ops l (Array.replicate ops.size false)) = true)
    (hS : S w.drew) (h : wpSched P ops S (NoPanic Q) l a w.drew) : (Code.region id ops true).wp P Q a w :=
  wp_region_noPanic (wp_region_sched l hm hs hB (fun _ _ _ _ _ h => h) hS h)

/-! The steps of the walk. 'K' stands for what follows, so that the walk does not look into it. -/
theorem sched_take {i : Nat} {r : List (Nat × Bool)} {a : Act} {w : World} {o : Oper} (hi : ops[i]? = some o) (hw : Region.wanted o (yielded ops a.tmps) = true) {v : Value} (hv : ∀ w', S w' → takesAt P o a w' v)
    (h : wpSched P ops S Q r (a.put o.dst v) w) : wpSched P ops S Q ((i, true) :: r) a w := ⟨o, hi, .inr ⟨hw, v, hv, h⟩⟩
theorem sched_skip {i : Nat} {b : Bool} {r : List (Nat × Bool)} {a : Act} {w : World} {o : Oper} (hi : ops[i]? = some o) (hw : Region.wanted o (yielded ops a.tmps) = false)
    (h : wpSched P ops S Q r (a.put o.dst undef) w) : wpSched P ops S Q ((i, b) :: r) a w := ⟨o, hi, .inl ⟨hw, h⟩⟩
theorem sched_do {i : Nat} {r : List (Nat × Bool)} {a : Act} {w : World} {o : Oper} (hi : ops[i]? = some o) (hw : Region.wanted o (yielded ops a.tmps) = true)
    (h : o.wp P a w (fun a' w' => S w' ∧ wpSched P ops S Q r a' w') Q) : wpSched P ops S Q ((i, false) :: r) a w := ⟨o, hi, .inr ⟨hw, h⟩⟩
theorem sched_takeK {i : Nat} {r : List (Nat × Bool)} {a : Act} {w : World} {o : Oper} (hi : ops[i]? = some o) (hw : Region.wanted o (yielded ops a.tmps) = true) {v : Value} (hv : ∀ w', S w' → takesAt P o a w' v)
    (h : ∀ K : Act → Prop, (∀ a, wpSched P ops S Q r a w → K a) → K (a.put o.dst v)) : wpSched P ops S Q ((i, true) :: r) a w := sched_take hi hw hv (h _ fun _ h => h)
theorem sched_takeE {i : Nat} {r : List (Nat × Bool)} {a : Act} {w : World} {o : Oper} (hi : ops[i]? = some o) (hw : Region.wanted o (yielded ops a.tmps) = true)
    (h : ∃ v, (∀ w', S w' → takesAt P o a w' v) ∧ ∀ K : Act → Prop, (∀ a, wpSched P ops S Q r a w → K a) → K (a.put o.dst v)) : wpSched P ops S Q ((i, true) :: r) a w := by
  obtain ⟨v, h1, h2⟩ := h
  exact sched_take hi hw h1 (h2 _ fun _ h => h)
theorem sched_skipK {i : Nat} {b : Bool} {r : List (Nat × Bool)} {a : Act} {w : World} {o : Oper} (hi : ops[i]? = some o) (hw : Region.wanted o (yielded ops a.tmps) = false)
    (h : ∀ K : Act → Prop, (∀ a, wpSched P ops S Q r a w → K a) → K (a.put o.dst undef)) : wpSched P ops S Q ((i, b) :: r) a w := sched_skip hi hw (h _ fun _ h => h)
theorem sched_doK {i : Nat} {r : List (Nat × Bool)} {a : Act} {w : World} {o : Oper} (hi : ops[i]? = some o) (hw : Region.wanted o (yielded ops a.tmps) = true)
    (h : ∀ K : Act → World → Prop, (∀ a w, S w → wpSched P ops S Q r a w → K a w) → o.wp P a w K Q) : wpSched P ops S Q ((i, false) :: r) a w := sched_do hi hw (h _ fun _ _ h1 h2 => ⟨h1, h2⟩)
theorem sched_nil {a : Act} {w : World} (h : Q .normal a w) : wpSched P ops S Q [] a w := h
end
#print axioms wp_region_sched
end Go.Proofs.YtdcdefkloibfnaaGreatDoor
namespace Go.Proofs.YtdcdefkloibfnaaGreatDoor
set_option linter.unusedVariables false
open Go.RowKit

/-- An order with branchings. -/
inductive Sch where
  | nil
  | take (i : Nat) (r : Sch)
  | one (i : Nat) (r : Sch)
  | two (i : Nat) (r : Sch) (j : Nat) (s : Sch)

def Sch.len : Sch → Nat
  | nil => 0
  | take _ r => r.len + 1
  | one _ r => r.len + 1
  | two _ r _ _ => r.len + 1

def schB (ops : Array Oper) : Sch → Array Bool → Bool
  | .nil, listed => (Region.ready .any ops listed).isEmpty
  | .take i r, listed => (Region.ready .any ops listed).contains i && Region.free .any ops listed i && schB ops r (listed.setIfInBounds i true)
  | .one i r, listed => (Region.ready .any ops listed == [i]) && schB ops r (listed.setIfInBounds i true)
  | .two i r j s, listed => (Region.ready .any ops listed == [i, j]) && schB ops r (listed.setIfInBounds i true) && schB ops s (listed.setIfInBounds j true) && r.len == s.len

section
variable {P : Program} {ops : Array Oper} {S : World → Prop} {Q : Exit → Act → World → Prop}
/-- One operation, carried out, where it is wanted. -/
def doOp (P : Program) (ops : Array Oper) (S : World → Prop) (Q : Exit → Act → World → Prop) (i : Nat) (K : Act → World → Prop) (a : Act) (w : World) : Prop :=
  ∃ o, ops[i]? = some o ∧ ((Region.wanted o (yielded ops a.tmps) = false ∧ K (a.put o.dst undef) w) ∨ (Region.wanted o (yielded ops a.tmps) = true ∧ o.wp P a w (fun a' w' => S w' ∧ K a' w') Q))

def wpSch (P : Program) (ops : Array Oper) (S : World → Prop) (Q : Exit → Act → World → Prop) : Sch → Act → World → Prop
  | .nil, a, w => Q .normal a w
  | .take i r, a, w => ∃ o, ops[i]? = some o ∧ ((Region.wanted o (yielded ops a.tmps) = false ∧ wpSch P ops S Q r (a.put o.dst undef) w) ∨ (Region.wanted o (yielded ops a.tmps) = true ∧ ∃ v, (∀ w', S w' → takesAt P o a w' v) ∧ wpSch P ops S Q r (a.put o.dst v) w))
  | .one i r, a, w => doOp P ops S Q i (wpSch P ops S Q r) a w
  | .two i r j s, a, w => doOp P ops S Q i (wpSch P ops S Q r) a w ∧ doOp P ops S Q j (wpSch P ops S Q s) a w

theorem wpOp_of_do {n : Nat} {K : Act → World → Prop} {listed : Array Bool} {i : Nat} {a : Act} {w : World} (hS : S w) (h : doOp P ops S Q i K a w) (hK : ∀ a w, S w → K a w → wpAnyH P .any ops Q S n (listed.setIfInBounds i true) a w) :
    wpOp P ops Q i (fun a w => S w ∧ wpAnyH P .any ops Q S n (listed.setIfInBounds i true) a w) a w := by
  obtain ⟨o, hi, h⟩ := h
  unfold wpOp
  simp only [hi]
  rcases h with ⟨hw, h⟩ | ⟨hw, h⟩
  · simp only [hw, Bool.false_eq_true, if_false]
    exact ⟨hS, hK _ _ hS h⟩
  · simp only [hw, if_true]
    exact .inl (Oper.wp_mono (fun a' w' h' => ⟨h'.1, hK _ _ h'.1 h'.2⟩) h)

theorem wpSch_sound (hs : Region.noSelect ops = true) (hQ : ∀ (d : Option Tmp) v c a w, Q (.panic c) (a.put d v) w → Q (.panic c) a w) :
    ∀ (l : Sch) (listed : Array Bool) (a : Act) (w : World), schB ops l listed = true → S w → wpSch P ops S Q l a w → wpAnyH P .any ops Q S l.len listed a w := by
  intro l
  induction l with
  | nil =>
    intro listed a w hB _ h
    exact ⟨List.isEmpty_iff.1 hB, h⟩
  | take i r ih =>
    intro listed a w hB hS h
    obtain ⟨o, hi, h⟩ := h
    simp only [schB, Bool.and_eq_true] at hB
    obtain ⟨⟨hr, hf⟩, hB⟩ := hB
    rcases h with ⟨hw, h⟩ | ⟨hw, v, hv, h⟩
    · exact wpAnyH_take hi hs hf hr (hQ _ _) (.inr ⟨hw, rfl⟩) hS (ih _ _ _ hB hS h)
    · exact wpAnyH_take hi hs hf hr (hQ _ _) (.inl ⟨hw, hv⟩) hS (ih _ _ _ hB hS h)
  | one i r ih =>
    intro listed a w hB hS h
    simp only [schB, Bool.and_eq_true, beq_iff_eq] at hB
    obtain ⟨hr, hB⟩ := hB
    refine wpAnyH_all hr (by simp) fun j hj => ?_
    obtain rfl : j = i := by simpa using hj
    exact wpOp_of_do hS h fun a w hS h => ih _ _ _ hB hS h
  | two i r j s ih1 ih2 =>
    intro listed a w hB hS h
    simp only [schB, Bool.and_eq_true, beq_iff_eq] at hB
    obtain ⟨⟨⟨hr, hB1⟩, hB2⟩, hl⟩ := hB
    refine wpAnyH_all hr (by simp) fun k hk => ?_
    simp only [List.mem_cons, List.not_mem_nil, or_false] at hk
    rcases hk with rfl | rfl
    · exact wpOp_of_do hS h.1 fun a w hS h => ih1 _ _ _ hB1 hS h
    · exact wpOp_of_do hS h.2 fun a w hS h => by have := ih2 _ _ _ hB2 hS h; rw [← hl] at this; exact this

theorem wp_region_sch {id : Nat} {a : Act} {w : World} (S : World → Prop) (l : Sch) (hm : P.follows .mixedOrders = true) (hs : Region.noSelect ops = true) (hB : (l.len == ops.size && schB ops l (Array.replicate ops.size false)) = true)
    (hS : S w.drew) (h : wpSch P ops S (NoPanic Q) l a w.drew) : (Code.region id ops true).wp P Q a w := by
  refine wp_region_noPanic (wp_region_held (S := S) hm ?_)
  simp only [Bool.and_eq_true, beq_iff_eq] at hB
  have := wpSch_sound (P := P) (S := S) hs (fun _ _ _ _ _ h => h) l _ a w.drew hB.2 hS h
  rw [hB.1] at this
  exact this

theorem sch_takeE {i : Nat} {r : Sch} {a : Act} {w : World} {o : Oper} (hi : ops[i]? = some o) (hw : Region.wanted o (yielded ops a.tmps) = true)
    (h : ∃ v, (∀ w', S w' → takesAt P o a w' v) ∧ ∀ K : Act → Prop, (∀ a, wpSch P ops S Q r a w → K a) → K (a.put o.dst v)) : wpSch P ops S Q (.take i r) a w := by
  obtain ⟨v, h1, h2⟩ := h
  exact ⟨o, hi, .inr ⟨hw, v, h1, h2 _ fun _ h => h⟩⟩
theorem do_doK {K0 : Act → World → Prop} {i : Nat} {a : Act} {w : World} {o : Oper} (hi : ops[i]? = some o) (hw : Region.wanted o (yielded ops a.tmps) = true)
    (h : ∀ K : Act → World → Prop, (∀ a w, S w → K0 a w → K a w) → o.wp P a w K Q) : doOp P ops S Q i K0 a w := ⟨o, hi, .inr ⟨hw, h _ fun _ _ h1 h2 => ⟨h1, h2⟩⟩⟩
theorem sch_doK {i : Nat} {r : Sch} {a : Act} {w : World} {o : Oper} (hi : ops[i]? = some o) (hw : Region.wanted o (yielded ops a.tmps) = true)
    (h : ∀ K : Act → World → Prop, (∀ a w, S w → wpSch P ops S Q r a w → K a w) → o.wp P a w K Q) : wpSch P ops S Q (.one i r) a w := do_doK hi hw h
theorem sch_two {i : Nat} {r : Sch} {j : Nat} {s : Sch} {a : Act} {w : World} (h1 : doOp P ops S Q i (wpSch P ops S Q r) a w) (h2 : doOp P ops S Q j (wpSch P ops S Q s) a w) : wpSch P ops S Q (.two i r j s) a w := ⟨h1, h2⟩
theorem sch_nil {a : Act} {w : World} (h : Q .normal a w) : wpSch P ops S Q .nil a w := h
end
end Go.Proofs.YtdcdefkloibfnaaGreatDoor
namespace Go.Proofs.YtdcdefkloibfnaaGreatDoor
set_option linter.unusedVariables false
open Go.RowKit

theorem bytesT : SlT Tryz.prog 23 5 (.int .u8 0) 1 1 := ⟨Tryz.underlying23, by kernel_rfl, rfl, by decide, by decide⟩
abbrev bsC (l : List UInt8) : List Value := Lib.byteCells l
theorem bsC_len (l : List UInt8) : (bsC l).length = l.length := Lib.byteCells_length l
theorem bsC_get {l : List UInt8} {i : Nat} {c : UInt8} (h : l[i]? = some c) : (bsC l)[i]? = some (.int .u8 c.toNat) := by
  show (l.map _)[i]? = _
  rw [List.getElem?_map, h]; rfl
theorem bsC_take (l : List UInt8) (k : Nat) : (bsC l).take k = bsC (l.take k) := (List.map_take ..).symm
theorem bsC_drop (l : List UInt8) (k : Nat) : (bsC l).drop k = bsC (l.drop k) := (List.map_drop ..).symm
theorem byte_at {w : World} {ok : Nat → TypeId → Prop} {v : Value} {l : List UInt8} {n : Nat} (h : SlK w ok 1 v n (bsC l)) {i : Nat} {c : UInt8} (hi : l[i]? = some c) :
    ∃ g off, (∀ kd w', (Instr.indexAt 23 v (.int kd (i : Int))).run Tryz.prog w' = .ok (.pointer (some ⟨g, off, none⟩)) w') ∧ g < w.heap.size ∧ w.cell? ⟨g, off, none⟩ = some (.int .u8 c.toNat) := by
  have hlt : i < n := by
    have h1 := (List.getElem?_eq_some_iff.1 hi).1
    have h2 := h.len
    rw [bsC_len] at h2
    omega
  obtain ⟨g, off, h1, h2, h4, h3⟩ := h.run_index bytesT (i := (i : Int)) (k := i) rfl hlt
  exact ⟨g, off, h1, h2, h3 0 _ (by rw [Nat.mul_one, Nat.add_zero]; exact bsC_get hi)⟩

theorem Grew.drewN {w w' : World} (h : Grew w w') (k : Nat) : Grew w (w'.drewN k) := h.trans ⟨k, #[], by rw [Go.Sort.grow_empty]⟩
set_option maxHeartbeats 1000000 in
set_option maxRecDepth 100000 in
theorem oSize_at (n : Int) (h1 : 1 ≤ n) (h8 : n ≤ 8) (w : World) : Calls Tryz.prog 74 #[.int .i64 n] w fun e w' => e = .returned (.bool true) ∧ w' = w := by
  go_enter Tryz.func74, Tryz.ntmps74
  go_wp2
  go_ret
  exact ⟨rfl, rfl⟩

set_option maxHeartbeats 1000000 in
set_option maxRecDepth 100000 in
theorem oGet_short {w : World} {ok : Nat → TypeId → Prop} {v : Value} {n : Nat} {l : List UInt8} (h : SlK w ok 1 v n (bsC l)) (k : Nat) (h1 : 1 ≤ k) (h8 : k ≤ 8) (hs : n < k) :
    Calls Tryz.prog 54 #[v, .int .i64 (k : Int)] w fun e w' => e = .returned (.tuple #[.int .u64 0, .slice none 0 0, .int .i64 10]) ∧ w' = w := by
  have hsz := fun w => oSize_at (k : Int) (by omega) (by omega) w
  have hlen := h.run_len bytesT
  have HSZ := Lib.hid hsz
  clear hsz
  go_enter Tryz.func54, Tryz.ntmps54
  go_wp2_with fail
  go_at_call 74
  refine (HSZ.out _).mono ?_
  rintro e w2 ⟨rfl, rfl⟩
  go_wp2
  go_ret3
  exact ⟨rfl, rfl⟩
set_option maxHeartbeats 4000000 in
set_option maxRecDepth 100000 in
theorem oGet_at {w : World} {ok : Nat → TypeId → Prop} {v : Value} {n : Nat} {l : List UInt8} (h : SlK w ok 1 v n (bsC l)) (k : Nat) (h1 : 1 ≤ k) (h8 : k ≤ 8) (hs : k ≤ n) :
    Calls Tryz.prog 54 #[v, .int .i64 (k : Int)] w fun e w' => ∃ A c, e = .returned (.tuple #[.int .u64 (beN (l.take k)), .slice A (n - k) c, .int .i64 0]) ∧ SlK w ok 1 (.slice A (n - k) c) (n - k) (bsC (l.drop k)) ∧ Grew w w' := by
  have hln : l.length = n := by have := h.len; rw [bsC_len] at this; omega
  have hsz := fun w => oSize_at (k : Int) (by omega) (by omega) w
  have hlen := h.run_len bytesT
  obtain ⟨A1, c1, hto, hst⟩ := h.run_to bytesT (i := (k : Int)) (k := k) rfl hs
  obtain ⟨A2, c2, hfrom, hsf⟩ := h.run_from bytesT (i := (k : Int)) (k := k) rfl hs
  rw [Nat.mul_one, bsC_drop] at hsf
  rw [Nat.mul_one, bsC_take] at hst
  have hlen1 := hst.run_len bytesT
  have HSF := Lib.hid hsf
  have HST := Lib.hid hst
  have HSZ := Lib.hid hsz
  clear hsz hsf hst h
  go_enter Tryz.func54, Tryz.ntmps54
  go_wp2_with fail
  go_at_call 74
  refine (HSZ.out _).mono ?_
  rintro e w2 ⟨rfl, rfl⟩
  go_wp2_with fail
  go_loopg [7, 23, 9] k (fun j vx vi vc wr => ∃ i : Nat, i + j = k ∧ vi = .int .i64 (i : Nat) ∧ vx = .int .u64 (beN (l.take i) : Nat) ∧ Grew w2 wr)
  case atStart => exact ⟨0, by omega, rfl, rfl, Grew.refl _⟩
  case round =>
    obtain ⟨i, hik, rfl, rfl, hg⟩ := hrel
    have HIK := Lib.hid hik
    have HG := Lib.hid hg
    by_cases hlt : i < k
    · obtain ⟨c, hc⟩ : ∃ c, l[i]? = some c := ⟨_, List.getElem?_eq_getElem (by omega)⟩
      have hc2 : (l.take k)[i]? = some c := by rw [List.getElem?_take_of_lt hlt]; exact hc
      obtain ⟨g, off, hidx, hgl, hc0⟩ := byte_at (SlK.keptNone HST.out hg.kept) hc2
      have hnx : beN (l.take (i + 1)) = beN (l.take i) * 256 + c.toNat := by rw [List.take_add_one, hc]; exact beN_snoc (l.take i) c
      have hb := beN_lt (l.take i)
      have hbb : beN (l.take i) < 256 ^ 7 := Nat.lt_of_lt_of_le hb (Nat.pow_le_pow_right (by decide) (by rw [List.length_take]; omega))
      have hor := u64_or8 (beN (l.take i)) c.toNat (by have := c.toNat_lt; omega) c.toNat_lt
      rw [← hnx] at hor
      have HOR := Lib.hid hor
      clear hik hg hnx hb hbb hor
      go_wp2
      go_roundg (k - (i + 1))
      case measure => have := HIK.out; omega
      case rel => exact ⟨i + 1, by have := HIK.out; omega, by go_num, by rw [HOR.out], HG.out⟩
    · obtain rfl : i = k := by omega
      clear hik hg
      go_wp2_with fail
      go_quiet (fail)
      go_wp2
      go_ret3
      exact ⟨_, _, rfl, HSF.out, HG.out.drewN _⟩
end Go.Proofs.YtdcdefkloibfnaaGreatDoor
namespace Go.Proofs.YtdcdefkloibfnaaGreatDoor
set_option linter.unusedVariables false
open Go.RowKit

theorem bsC_one {l : List UInt8} {u : Value} (h : u ∈ bsC l) : u.oneCell' = true := by
  obtain ⟨b, -, rfl⟩ := List.mem_map.1 h; rfl
theorem bytes_str {w : World} {ok : Nat → TypeId → Prop} {v : Value} {n : Nat} {l : List UInt8} (h : SlK w ok 1 v n (bsC l)) : (convert 23 9 v).run Tryz.prog w = .ok (.string (bS l)) w := by
  have hln : l.length = n := by have := h.len; rw [bsC_len] at this; omega
  obtain ⟨hl, A, c, rfl, -, -, hd⟩ := h
  rcases hd with ⟨h0, rfl⟩ | ⟨g, off, cs, e1, fz, rfl, hh, -, hc⟩
  · subst h0
    obtain rfl : l = [] := List.eq_nil_of_length_eq_zero hln
    rw [run_convert_bytes_string w _ _ _ A 0 _ Tryz.underlying23 Tryz.underlying5 Tryz.underlying9]
    cases A with
    | none => simp [Conv.bytesToString]; rfl
    | some a => exact run_bytesToString w a 0 _ [] (by simp [loadCells]; rfl)
  · subst hln
    exact run_convert_bytes_back w _ _ _ ⟨g, off, none⟩ c l Tryz.underlying23 Tryz.underlying5 Tryz.underlying9 fun j hj => by
      rw [Addr.add_lit, cell_of_row w g _ cs e1 fz hh]
      exact hc _ _ (bsC_get (List.getElem?_eq_getElem hj))
theorem s32_shift (x : Nat) (hx : x < 4294967296) : wrap64 ((x : Int) * 4294967296) / 4294967296 = s32 x := by
  unfold s32 wrap64
  split <;> omega
set_option maxHeartbeats 1000000 in
set_option maxRecDepth 100000 in
theorem oSigned_at (x : Nat) (hx : x < 4294967296) (w : World) : Calls Tryz.prog 55 #[.int .u64 x, .int .i64 4] w fun e w' => e = .returned (.int .i64 (s32 x)) ∧ w' = w := by
  have HSZ := Lib.hid (fun w => oSize_at 4 (by omega) (by omega) w)
  have hs := s32_shift x hx
  go_enter Tryz.func55, Tryz.ntmps55
  go_wp2_with fail
  go_at_call 74
  refine (HSZ.out _).mono ?_
  rintro e w2 ⟨rfl, rfl⟩
  go_wp2
  go_ret
  rw [← hs]
  exact ⟨rfl, rfl⟩
set_option maxHeartbeats 1000000 in
set_option maxRecDepth 100000 in
theorem BClone_at {w : World} {ok : Nat → TypeId → Prop} {v : Value} {n : Nat} {l : List UInt8} (h : SlK w ok 1 v n (bsC l)) (hn : n ≤ 1000000) :
    Calls Tryz.prog 125 #[v] w fun e w' => ∃ v', e = .returned v' ∧ w'.ownsRow w.heap.size 5 1 v' n (bsC l) ∧ Kept noBlock w w' := by
  obtain ⟨A, c, rfl, -, -⟩ := h.shape
  cases A with
  | none =>
    have hz : n = 0 ∧ bsC l = [] := by
      obtain ⟨hl, A', c', e, -, -, hd⟩ := h
      cases e
      rcases hd with ⟨h0, -⟩ | ⟨g, off, cs, t, fz, e, -⟩
      · subst h0; exact ⟨rfl, List.eq_nil_of_length_eq_zero (by omega)⟩
      · cases e
    obtain ⟨rfl, hz⟩ := hz
    rw [hz]
    clear h hz
    have q1 : ∀ w, (binOp .eql 23 (.slice none 0 c) (.slice none 0 0)).run Tryz.prog w = .ok (.bool true) w := fun w => Lib.run_eql_slice_nil w _ _ none 0 c 0 0 Tryz.underlying23
    go_enter Tryz.func125, Tryz.ntmps125
    go_wp2
    go_ret
    exact ⟨_, rfl, World.ownsRow_nil _ _ _ _, Kept.refl _ _⟩
  | some A =>
    have H := Lib.hid h
    clear h
    have q1 : ∀ w, (binOp .eql 23 (.slice (some A) n c) (.slice none 0 0)).run Tryz.prog w = .ok (.bool false) w := fun w => Lib.run_eql_slice_nil w _ _ (some A) n c 0 0 Tryz.underlying23
    go_enter Tryz.func125, Tryz.ntmps125
    go_wp2_with (at_builtin; go_must (refine wpList_append_sl _ bytesT rfl (.tmp 5) (.tmp 6) rfl w.heap.size _ 0 [] rfl (World.ownsRow_made w #[] 0 (Nat.le_refl _) (Nat.zero_le _) rfl) _ n (bsC l) rfl (H.out.alloc _) (fun u hu => bsC_one hu) ?c1 ?c2 ?_))
    case c1 => omega
    case c2 => simp
    intro v' w3 hap
    have hown := hap.own
    have hk := hap.below (World.ownsRow_made w #[] 0 (Nat.le_refl _) (Nat.zero_le _) rfl) ((Kept.refl noBlock w).alloc _) (Nat.le_refl _)
    clear hap
    go_wp2
    go_ret
    exact ⟨_, rfl, by simpa using hown, hk⟩
set_option maxHeartbeats 1000000 in
set_option maxRecDepth 100000 in
theorem oTake_short {w : World} {ok : Nat → TypeId → Prop} {v : Value} {n : Nat} {l : List UInt8} (h : SlK w ok 1 v n (bsC l)) (k : Nat) (hn : n ≤ 1000000) (hs : n < k) :
    Calls Tryz.prog 94 #[v, .int .u64 (k : Int)] w fun e w' => e = .returned (.tuple #[.slice none 0 0, .slice none 0 0, .int .i64 10]) ∧ w' = w := by
  have hlen := h.run_len bytesT
  clear h
  go_enter Tryz.func94, Tryz.ntmps94
  go_wp2
  go_ret3
  exact ⟨rfl, rfl⟩
set_option maxHeartbeats 1000000 in
set_option maxRecDepth 100000 in
theorem oTake_at {w : World} {ok : Nat → TypeId → Prop} {v : Value} {n : Nat} {l : List UInt8} (h : SlK w ok 1 v n (bsC l)) (k : Nat) (hn : n ≤ 1000000) (hs : k ≤ n) :
    Calls Tryz.prog 94 #[v, .int .u64 (k : Int)] w fun e w' => ∃ v' A c, e = .returned (.tuple #[v', .slice A (n - k) c, .int .i64 0]) ∧ w'.ownsRow w.heap.size 5 1 v' k (bsC (l.take k)) ∧ SlK w' ok 1 (.slice A (n - k) c) (n - k) (bsC (l.drop k)) ∧ Kept noBlock w w' := by
  have hlen := h.run_len bytesT
  obtain ⟨A1, c1, hto, hst⟩ := h.run_to bytesT (i := (k : Int)) (k := k) rfl hs
  obtain ⟨A2, c2, hfrom, hsf⟩ := h.run_from bytesT (i := (k : Int)) (k := k) rfl hs
  rw [Nat.mul_one, bsC_drop] at hsf
  rw [Nat.mul_one, bsC_take] at hst
  have HSF := Lib.hid hsf
  have HST := Lib.hid hst
  clear hsf hst h
  go_enter Tryz.func94, Tryz.ntmps94
  go_wp2_with fail
  go_region_with (go_at_call 125; refine (BClone_at (by exact HST.out.drew) (by omega)).mono ?_; rintro e w1 ⟨v1, rfl, ho, hk⟩)
  go_wp2
  go_ret3
  exact ⟨_, _, _, rfl, ho, SlK.keptNone HSF.out ((Kept.refl noBlock w).drew.trans hk fun _ _ h => h), (Kept.refl noBlock w).drew.trans hk fun _ _ h => h⟩
end Go.Proofs.YtdcdefkloibfnaaGreatDoor
namespace Go.Proofs.YtdcdefkloibfnaaGreatDoor
set_option linter.unusedVariables false
open Go.RowKit

/-! How far a host is. -/
def aheadN (S : List Ho) (d x : ByteArray) : Nat := (S.filter fun o => decide (o.dc = d) && decide (nlt o.name x)).length
def distP (dc : ByteArray) (rem : Int) (S : List Ho) (x : ByteArray) : Int :=
  match getS x S with
  | none => 0
  | some h => if h.dc = dc then 1 else if (aheadN S h.dc x : Int) < rem then 2 else 0
theorem ahead_perm {S S' : List Ho} (h : S.Perm S') (d x : ByteArray) : aheadN S d x = aheadN S' d x := (h.filter _).length_eq
theorem ahead_take {S : List Ho} (hS : risingH S) {at_ : Nat} {h : Ho} (ha : S[at_]? = some h) : aheadN S h.dc h.name = ((S.take at_).filter fun o => decide (o.dc = h.dc)).length := by
  have e : S = S.take at_ ++ h :: S.drop (at_ + 1) := by
    conv => lhs; rw [← List.take_append_drop at_ S]
    rw [List.drop_eq_getElem_cons (List.getElem?_eq_some_iff.1 ha).1, (List.getElem?_eq_some_iff.1 ha).2]
  have hS2 := hS
  unfold risingH at hS2
  rw [e] at hS2
  obtain ⟨-, p2, p3⟩ := List.pairwise_append.1 hS2
  obtain ⟨p4, -⟩ := List.pairwise_cons.1 p2
  unfold aheadN
  conv => lhs; rw [e]
  rw [List.filter_append, List.length_append]
  have h1 : (h :: S.drop (at_ + 1)).filter (fun o => decide (o.dc = h.dc) && decide (nlt o.name h.name)) = [] := by
    refine List.filter_eq_nil_iff.2 fun o ho e2 => ?_
    have e3 : nlt o.name h.name := by
      have := (Bool.and_eq_true_iff.1 e2).2
      simpa using this
    rcases List.mem_cons.1 ho with rfl | ho
    · exact nlt_irrefl _ e3
    · exact nlt_asymm (p4 o ho) e3
  have h2 : (S.take at_).filter (fun o => decide (o.dc = h.dc) && decide (nlt o.name h.name)) = (S.take at_).filter fun o => decide (o.dc = h.dc) := by
    refine List.filter_congr fun o ho => ?_
    have := p3 o ho h (List.mem_cons_self ..)
    rw [decide_eq_true this, Bool.and_true]
  rw [h1, h2]; rfl

/-! The places of the ring. -/
def pairsH (S : List Ho) : List Pl := S.flatMap fun h => h.toks.map fun k => (k, h.name)
def getP (k : Int) (l : List Pl) : Option Pl := l.find? fun p => decide (p.1 = k)
/-- The program's way: whose token was not taken yet. -/
def takeP (out : List Pl) (p : Pl) : List Pl := if (getP p.1 out).isSome = true then out else out ++ [p]
def placesP (S : List Ho) : List Pl := (pairsH S).foldl takeP []
theorem getP_snoc (k : Int) (l : List Pl) (p : Pl) : getP k (l ++ [p]) = match getP k l with
    | some o => some o
    | none => if p.1 = k then some p else none := by
  unfold getP
  rw [List.find?_append]
  cases l.find? fun p => decide (p.1 = k) with
  | some o => rfl
  | none => by_cases e : p.1 = k <;> simp [e]
theorem getP_none {k : Int} {l : List Pl} : getP k l = none ↔ ∀ p ∈ l, p.1 ≠ k := by
  unfold getP; rw [List.find?_eq_none]; simp
theorem getP_mem {k : Int} {l : List Pl} {p : Pl} (h : getP k l = some p) : p ∈ l ∧ p.1 = k := ⟨List.mem_of_find?_eq_some h, by simpa using List.find?_some h⟩
theorem takeP_fold : ∀ (l l0 out : List Pl), (out.map (·.1)).Nodup → (∀ k, getP k out = getP k l0) → ((l.foldl takeP out).map (·.1)).Nodup ∧ ∀ k, getP k (l.foldl takeP out) = getP k (l0 ++ l)
  | [], l0, out, h1, h2 => ⟨h1, by simpa using h2⟩
  | p :: l, l0, out, h1, h2 => by
    have key : ((takeP out p).map (·.1)).Nodup ∧ ∀ k, getP k (takeP out p) = getP k (l0 ++ [p]) := by
      unfold takeP
      by_cases e : (getP p.1 out).isSome = true
      · rw [if_pos e]
        refine ⟨h1, fun k => ?_⟩
        rw [getP_snoc, h2]
        cases hk : getP k l0 with
        | some o => rfl
        | none =>
          by_cases e2 : p.1 = k
          · rw [e2, h2, hk] at e; cases e
          · simp only [if_neg e2]
      · rw [if_neg e]
        have en : getP p.1 out = none := by simpa using e
        refine ⟨?_, fun k => by rw [getP_snoc, getP_snoc, h2]⟩
        rw [List.map_append, List.nodup_append]
        refine ⟨h1, by simp, ?_⟩
        rintro a ha b hb rfl
        obtain ⟨q, hq, rfl⟩ := List.mem_map.1 ha
        have : q.1 = p.1 := by simpa using hb
        exact getP_none.1 en q hq this
    have := takeP_fold l (l0 ++ [p]) (takeP out p) key.1 key.2
    rw [List.append_assoc] at this
    exact this
theorem places_spec (S : List Ho) : ((placesP S).map (·.1)).Nodup ∧ ∀ k, getP k (placesP S) = getP k (pairsH S) := by
  have := takeP_fold (pairsH S) [] [] .nil fun _ => rfl
  exact ⟨this.1, fun k => by have h := this.2 k; rw [List.nil_append] at h; exact h⟩
/-- The reference's way: each at its place. -/
def plAt (l : List Pl) (k : Int) : Nat := l.findIdx fun p => !decide (p.1 < k)
def insP (l : List Pl) (p : Pl) : List Pl := if (l[plAt l p.1]?).map (·.1) = some p.1 then l else l.take (plAt l p.1) ++ p :: l.drop (plAt l p.1)
def refRing (S : List Ho) : List Pl := (pairsH S).foldl insP []
theorem insP_spec {l : List Pl} (h : rising l) (p : Pl) : rising (insP l p) ∧ ∀ k, getP k (insP l p) = match getP k l with
    | some o => some o
    | none => if p.1 = k then some p else none := by
  have hs := List.take_append_drop (plAt l p.1) l
  have h1 : ∀ q ∈ l.take (plAt l p.1), q.1 < p.1 := by
    intro o ho
    obtain ⟨k, hk⟩ := List.getElem?_of_mem ho
    have hkl : k < plAt l p.1 := by
      have := (List.getElem?_eq_some_iff.1 hk).1
      rw [List.length_take] at this; omega
    rw [List.getElem?_take_of_lt hkl] at hk
    have h3 := List.not_of_lt_findIdx hkl
    have h4 := (List.getElem?_eq_some_iff.1 hk).2
    rw [h4] at h3
    simpa using h3
  unfold insP
  by_cases e : (l[plAt l p.1]?).map (·.1) = some p.1
  · rw [if_pos e]
    refine ⟨h, fun k => ?_⟩
    obtain ⟨o, ho, e2⟩ := Option.map_eq_some_iff.1 e
    cases hk : getP k l with
    | some o => rfl
    | none =>
      have : ¬ p.1 = k := fun e3 => getP_none.1 hk o (List.mem_of_getElem? ho) (e2.trans e3)
      simp only [if_neg this]
  · rw [if_neg e]
    have h2 : ∀ q ∈ l.drop (plAt l p.1), p.1 < q.1 := by
      have hS2 := h
      unfold rising at hS2
      rw [← hs] at hS2
      have hd := (List.pairwise_append.1 hS2).2.1
      cases hq : l.drop (plAt l p.1) with
      | nil => intro o ho; cases ho
      | cons z r =>
        have hz : l[plAt l p.1]? = some z := by
          have := congrArg (fun t => t[0]?) hq
          simpa using this
        obtain ⟨h5, h6⟩ := List.getElem?_eq_some_iff.1 hz
        have h7 := List.findIdx_getElem (w := h5)
        have h7' : (!decide ((l[plAt l p.1]).1 < p.1)) = true := h7
        rw [h6] at h7'
        have h8 : ¬ z.1 < p.1 := by simpa using h7'
        have h9 : z.1 ≠ p.1 := fun e2 => e (by rw [hz]; simp [e2])
        rw [hq] at hd
        intro o ho
        rcases List.mem_cons.1 ho with rfl | ho
        · omega
        · have := (List.pairwise_cons.1 hd).1 o ho; omega
    have hS2 := h
    unfold rising at hS2
    rw [← hs] at hS2
    obtain ⟨p1, p2, p3⟩ := List.pairwise_append.1 hS2
    constructor
    · exact List.pairwise_append.2 ⟨p1, List.pairwise_cons.2 ⟨h2, p2⟩, fun a ha b hb => by
        rcases List.mem_cons.1 hb with rfl | hb
        · exact h1 a ha
        · exact p3 a ha b hb⟩
    · intro k
      unfold getP
      conv => rhs; rw [← hs]
      rw [List.find?_append, List.find?_append, List.find?_cons]
      by_cases e1 : p.1 = k
      · have hnt : (l.take (plAt l p.1)).find? (fun o => decide (o.1 = k)) = none := List.find?_eq_none.2 fun o ho => by
          have := h1 o ho
          simp; omega
        have hnd : (l.drop (plAt l p.1)).find? (fun o => decide (o.1 = k)) = none := List.find?_eq_none.2 fun o ho => by
          have := h2 o ho
          simp; omega
        rw [hnt, hnd, decide_eq_true e1]
        simp [e1]
      · rw [decide_eq_false e1]
        cases hk : (l.take (plAt l p.1)).find? (fun o => decide (o.1 = k)) with
        | some o => rfl
        | none =>
          cases hk2 : (l.drop (plAt l p.1)).find? (fun o => decide (o.1 = k)) with
          | some o => rfl
          | none => simp [e1]
theorem insP_fold : ∀ (l l0 out : List Pl), rising out → (∀ k, getP k out = getP k l0) → rising (l.foldl insP out) ∧ ∀ k, getP k (l.foldl insP out) = getP k (l0 ++ l)
  | [], l0, out, h1, h2 => ⟨h1, by simpa using h2⟩
  | p :: l, l0, out, h1, h2 => by
    obtain ⟨g1, g2⟩ := insP_spec h1 p
    have := insP_fold l (l0 ++ [p]) (insP out p) g1 (fun k => by rw [g2, getP_snoc, h2])
    rw [List.append_assoc] at this
    exact this
theorem refRing_spec (S : List Ho) : rising (refRing S) ∧ ∀ k, getP k (refRing S) = getP k (pairsH S) := by
  have := insP_fold (pairsH S) [] [] .nil fun _ => rfl
  exact ⟨this.1, fun k => by have h := this.2 k; rw [List.nil_append] at h; exact h⟩
theorem getP_of_mem : ∀ {l : List Pl} {p : Pl}, (l.map (·.1)).Nodup → p ∈ l → getP p.1 l = some p
  | [], _, _, h => by cases h
  | a :: l, p, hn, h => by
    have hn' : a.1 ∉ l.map (·.1) ∧ (l.map (·.1)).Nodup := List.nodup_cons.1 hn
    unfold getP
    rw [List.find?_cons]
    rcases List.mem_cons.1 h with rfl | h
    · simp
    · rw [decide_eq_false (show ¬ a.1 = p.1 from fun e => hn'.1 (e ▸ List.mem_map.2 ⟨p, h, rfl⟩))]
      exact getP_of_mem hn'.2 h
theorem pl_nodup {l : List Pl} (h : (l.map (·.1)).Nodup) : l.Nodup := List.Pairwise.imp (R := fun a b : Pl => a.1 ≠ b.1) (S := fun a b : Pl => a ≠ b) (fun {a b} h e => h (by rw [e])) (List.pairwise_map.1 h)
/-- Both rings are of the same places. -/
theorem ring_perm (S : List Ho) : (refRing S).Perm (placesP S) := by
  have h1 := refRing_spec S
  have h2 := places_spec S
  have n1 := rising_nodup h1.1
  refine (List.perm_ext_iff_of_nodup (pl_nodup n1) (pl_nodup h2.1)).2 fun p => ⟨fun h => ?_, fun h => ?_⟩
  · have := getP_of_mem n1 h
    rw [h1.2, ← h2.2] at this
    exact (getP_mem this).1
  · have := getP_of_mem h2.1 h
    rw [h2.2, ← h1.2] at this
    exact (getP_mem this).1
theorem places_named {S : List Ho} (h : ∀ o ∈ S, o.name ≠ noStr) : ∀ p ∈ placesP S, p.2 ≠ noStr := by
  intro p hp
  have h2 := places_spec S
  have := getP_of_mem h2.1 hp
  rw [h2.2] at this
  obtain ⟨o, ho, hq⟩ := List.mem_flatMap.1 (getP_mem this).1
  obtain ⟨k, _, rfl⟩ := List.mem_map.1 hq
  exact h o ho

/-! What is new, what is gone. -/
def addedP (V : View) (S : List Ho) : List ByteArray := (S.filter fun h => (V h.name).isNone).map (·.name)
def goneP (S0 S : List Ho) : List ByteArray := (S0.filter fun h => (getS h.name S).isNone).map (·.name)
theorem rising_names {S : List Ho} (h : risingH S) (P : Ho → Bool) : ((S.filter P).map (·.name)).Pairwise nlt := List.pairwise_map.2 (List.Pairwise.filter P h)
theorem added_mem {V : View} {l : List Ho} {x : ByteArray} : x ∈ addedP V (refNow V l) ↔ (refr V l x).isSome = true ∧ V x = none := by
  have h := refNow_spec V l
  unfold addedP
  constructor
  · intro hx
    obtain ⟨o, ho, rfl⟩ := List.mem_map.1 hx
    obtain ⟨h1, h2⟩ := List.mem_filter.1 ho
    have := getS_of_mem (rising_ne h.1) h1
    rw [h.2] at this
    exact ⟨by rw [this]; rfl, by simpa using h2⟩
  · rintro ⟨h1, h2⟩
    obtain ⟨o, ho⟩ := Option.isSome_iff_exists.1 h1
    have h3 := ho
    rw [← h.2] at h3
    have h4 := getS_name h3
    exact List.mem_map.2 ⟨o, List.mem_filter.2 ⟨getS_mem h3, by rw [h4, h2]; rfl⟩, h4⟩
theorem gone_mem {S0 : List Ho} {V : View} {l : List Ho} {x : ByteArray} (h0 : risingH S0) : x ∈ goneP S0 (refNow V l) ↔ (getS x S0).isSome = true ∧ refr V l x = none := by
  have h := refNow_spec V l
  unfold goneP
  constructor
  · intro hx
    obtain ⟨o, ho, rfl⟩ := List.mem_map.1 hx
    obtain ⟨h1, h2⟩ := List.mem_filter.1 ho
    have := getS_of_mem (rising_ne h0) h1
    exact ⟨by rw [this]; rfl, by rw [← h.2]; simpa using h2⟩
  · rintro ⟨h1, h2⟩
    obtain ⟨o, ho⟩ := Option.isSome_iff_exists.1 h1
    have h4 := getS_name ho
    exact List.mem_map.2 ⟨o, List.mem_filter.2 ⟨getS_mem ho, by rw [h4, h.2, h2]; rfl⟩, h4⟩
end Go.Proofs.YtdcdefkloibfnaaGreatDoor
namespace Go.Proofs.YtdcdefkloibfnaaGreatDoor
set_option linter.unusedVariables false
open Go.RowKit

section
variable {w w' W : World} {base : Nat} {S : Nat → Prop}
theorem own_keptB {e : TypeId} {sz n : Nat} {v : Value} {xs : List Value} (h : w.ownsRow base e sz v n xs) (hk : Kept S w w') (hS : ∀ k, v.ownBlock = some k → ¬ S k) : w'.ownsRow base e sz v n xs := by
  obtain ⟨hl, h⟩ := h
  refine ⟨hl, ?_⟩
  rcases h with h | ⟨g, cap, cur, rfl, hb, hh, r⟩
  · exact .inl h
  · exact .inr ⟨g, cap, cur, rfl, hb, (hk.block g (lt_of_heap hh) (hS g rfl)).trans hh, r⟩
theorem own_lt {e : TypeId} {sz n : Nat} {v : Value} {xs : List Value} (h : w.ownsRow base e sz v n xs) {k : Nat} (hk : v.ownBlock = some k) : k < w.heap.size := by
  obtain ⟨_, cs, hh⟩ := own_type h hk
  exact lt_of_heap hh
structure Rw where
  e : TypeId
  sz : Nat
  v : Value
  n : Nat
  xs : List Value
/-- Rows of one's own that share no block. -/
def Fam (w : World) (base : Nat) (L : List Rw) : Prop :=
  (∀ (i : Nat) (r : Rw), L[i]? = some r → w.ownsRow base r.e r.sz r.v r.n r.xs) ∧ ∀ (i j : Nat) (a b : Rw), i ≠ j → L[i]? = some a → L[j]? = some b → ∀ k, a.v.ownBlock = some k → b.v.ownBlock ≠ some k
theorem Fam.nil : Fam w base [] := ⟨fun i r h => by simp at h, fun i j a b _ h => by simp at h⟩
/-- One more row, empty. -/
theorem Fam.more {L : List Rw} (h : Fam w base L) (e : TypeId) (sz : Nat) : Fam w base (L ++ [⟨e, sz, .slice none 0 0, 0, []⟩]) := by
  have key : ∀ i r, (L ++ [(⟨e, sz, .slice none 0 0, 0, []⟩ : Rw)])[i]? = some r → (i < L.length ∧ L[i]? = some r) ∨ (i = L.length ∧ r = ⟨e, sz, .slice none 0 0, 0, []⟩) := by
    intro i r hr
    by_cases hl : i < L.length
    · rw [List.getElem?_append_left hl] at hr; exact .inl ⟨hl, hr⟩
    · rw [List.getElem?_append_right (by omega)] at hr
      have h0 : i - L.length = 0 := by
        have := (List.getElem?_eq_some_iff.1 hr).1
        simp at this; omega
      rw [h0] at hr
      exact .inr ⟨by omega, (Option.some.inj hr).symm⟩
  refine ⟨fun i r hr => ?_, fun i j a b hij ha hb k hk => ?_⟩
  · rcases key i r hr with ⟨_, h1⟩ | ⟨_, rfl⟩
    · exact h.1 i r h1
    · exact World.ownsRow_nil _ _ _ _
  · rcases key i a ha with ⟨_, h1⟩ | ⟨_, rfl⟩
    · rcases key j b hb with ⟨_, h2⟩ | ⟨_, rfl⟩
      · exact h.2 i j a b hij h1 h2 k hk
      · simp [Value.ownBlock]
    · simp [Value.ownBlock] at hk
theorem Fam.get {L : List Rw} (h : Fam w base L) (i : Nat) {r : Rw} (hi : L[i]? = some r) : w.ownsRow base r.e r.sz r.v r.n r.xs := h.1 i r hi
theorem Fam.sl {L : List Rw} (h : Fam w base L) (i : Nat) {r : Rw} (hi : L[i]? = some r) : Sl w r.e r.sz r.v r.n r.xs := Sl.of_own (h.1 i r hi)
theorem Fam.kept {L : List Rw} (h : Fam w base L) (hk : Kept S w w') (hS : ∀ k, S k → k < base) : Fam w' base L :=
  ⟨fun i r hr => own_keptB (h.1 i r hr) hk fun k e hs => by have := (own_type (h.1 i r hr) e).1; have := hS k hs; omega, h.2⟩
theorem Fam.keptN {L : List Rw} (h : Fam w base L) (hk : Kept noBlock w w') : Fam w' base L := h.kept hk fun _ e => False.elim e
theorem Fam.app {L : List Rw} {r : Rw} {v' : Value} {n' : Nat} {xs' : List Value} (h : Fam w base L) (i : Nat) (hi : L[i]? = some r) (hk : Kept noBlock w W) (ha : Appended W w' base r.e r.sz r.v v' n' xs') : Fam w' base (L.set i { r with v := v', n := n', xs := xs' }) := by
  have hil := (List.getElem?_eq_some_iff.1 hi).1
  have hnew : ∀ k, v'.ownBlock = some k → r.v.ownBlock = some k ∨ k = W.heap.size := by
    intro k hk
    rcases ha.at_ with h1 | h1
    · rw [h1] at hk; exact .inl hk
    · rw [h1] at hk; exact .inr (Option.some.inj hk).symm
  have hap : ∀ j b, i ≠ j → L[j]? = some b → ∀ k, v'.ownBlock = some k → b.v.ownBlock ≠ some k := by
    intro j b hij hb k e e2
    rcases hnew k e with h1 | h1
    · exact h.2 i j r b hij hi hb k h1 e2
    · have := own_lt (h.1 j b hb) e2
      have := hk.size
      omega
  refine ⟨fun j b hj => ?_, fun j m a b hjm hj hm k e => ?_⟩
  · rw [List.getElem?_set] at hj
    by_cases e : i = j
    · rw [if_pos e, if_pos hil] at hj
      cases hj
      exact ha.own
    · rw [if_neg e] at hj
      exact own_keptB (own_keptB (h.1 j b hj) hk fun k _ e => e) ha.kept fun k e1 e2 => h.2 i j r b e hi hj k e2 e1
  · rw [List.getElem?_set] at hj hm
    by_cases e1 : i = j
    · rw [if_pos e1, if_pos hil] at hj
      cases hj
      rw [if_neg (fun e2 => hjm (e1.symm.trans e2))] at hm
      exact hap m b (fun e2 => hjm (e1.symm.trans e2)) hm k e
    · rw [if_neg e1] at hj
      by_cases e2 : i = m
      · rw [if_pos e2, if_pos hil] at hm
        cases hm
        intro e3
        exact hap j a e1 hj k e3 e
      · rw [if_neg e2] at hm
        exact h.2 j m a b hjm hj hm k e
end
end Go.Proofs.YtdcdefkloibfnaaGreatDoor
namespace Go.Proofs.YtdcdefkloibfnaaGreatDoor
set_option linter.unusedVariables false
open Go.RowKit

theorem msbM : Tryz.prog.underlying 178 = some (.map 9 4) := by kernel_rfl
theorem strU : Tryz.prog.underlying 9 = some .string := by kernel_rfl
theorem zero_bool (w : World) : (zeroValue 4).run Tryz.prog w = .ok (.bool false) w := Tryz.zeroValue4 w
end Go.Proofs.YtdcdefkloibfnaaGreatDoor
namespace Go.Proofs.YtdcdefkloibfnaaGreatDoor
set_option linter.unusedVariables false
open Go.RowKit

section
variable {α β : Type} [DecidableEq α]
theorem aget_aput (k k' : α) (v : β) : ∀ (l : List (α × β)), aget k (aput k' v l) = if k' = k then some v else aget k l
  | [] => by
    by_cases h : k' = k
    · subst h; simp [aput, aget]
    · simp [aput, aget, h]
  | (a, b) :: l => by
    by_cases h1 : a = k'
    · subst h1
      by_cases h : a = k
      · subst h; simp [aput, aget]
      · simp [aput, aget, h]
    · by_cases h2 : a = k
      · subst h2
        have h3 : ¬ k' = a := fun e => h1 e.symm
        simp [aput, aget, h1, h3]
      · simp only [aput, aget, h1, h2, if_false, aget_aput k k' v l]
theorem mem_aput {k : α} {v : β} {p : α × β} : ∀ {l : List (α × β)}, (l.map (·.1)).Nodup → p ∈ aput k v l → p = (k, v) ∨ (p ∈ l ∧ p.1 ≠ k)
  | [], _, h => by simp [aput] at h; exact .inl h
  | (a, b) :: l, hn, h => by
    have hn' : a ∉ l.map (·.1) ∧ (l.map (·.1)).Nodup := List.nodup_cons.1 hn
    by_cases h1 : a = k
    · subst h1
      simp only [aput, if_true] at h
      rcases List.mem_cons.1 h with h | h
      · exact .inl h
      · exact .inr ⟨List.mem_cons_of_mem _ h, fun e => hn'.1 (List.mem_map.2 ⟨p, h, e⟩)⟩
    · simp only [aput, h1, if_false] at h
      rcases List.mem_cons.1 h with h | h
      · subst h; exact .inr ⟨List.mem_cons_self .., h1⟩
      · rcases mem_aput hn'.2 h with h | ⟨h, h2⟩
        · exact .inl h
        · exact .inr ⟨List.mem_cons_of_mem _ h, h2⟩
theorem aput_keys {k : α} {v : β} : ∀ {l : List (α × β)}, k ∈ l.map (·.1) → (aput k v l).map (·.1) = l.map (·.1)
  | [], h => by simp at h
  | (a, b) :: l, h => by
    by_cases h1 : a = k
    · subst h1; simp [aput]
    · have : k ∈ l.map (·.1) := by
        rcases List.mem_cons.1 h with h | h
        · exact absurd h.symm h1
        · exact h
      simp [aput, h1, aput_keys this]
theorem aget_mem {k : α} {v : β} {l : List (α × β)} (h : aget k l = some v) : (k, v) ∈ l := by
  obtain ⟨A, B, rfl, _⟩ := aget_some_split h
  simp
theorem aget_of_mem {k : α} {v : β} : ∀ {l : List (α × β)}, (l.map (·.1)).Nodup → (k, v) ∈ l → aget k l = some v
  | [], _, h => by cases h
  | (a, b) :: l, hn, h => by
    have hn' : a ∉ l.map (·.1) ∧ (l.map (·.1)).Nodup := List.nodup_cons.1 hn
    rcases List.mem_cons.1 h with h | h
    · cases h; simp [aget]
    · have : ¬ a = k := fun e => hn'.1 (e ▸ List.mem_map.2 ⟨(k, v), h, rfl⟩)
      simp [aget, this, aget_of_mem hn'.2 h]
theorem aput_map {γ : Type} (f : β → γ) (k : α) (v : β) : ∀ (l : List (α × β)), (aput k v l).map (fun p => (p.1, f p.2)) = aput k (f v) (l.map fun p => (p.1, f p.2))
  | [] => by simp [aput]
  | (a, b) :: l => by
    by_cases h1 : a = k
    · subst h1; simp [aput]
    · simp [aput, h1, aput_map f k v l]
theorem aput_same {k : α} {v : β} : ∀ {l : List (α × β)}, aget k l = some v → aput k v l = l
  | [], h => by simp [aget] at h
  | (a, b) :: l, h => by
    by_cases h1 : a = k
    · subst h1; simp [aget] at h; subst h; simp [aput]
    · simp only [aget, h1, if_false] at h
      simp [aput, h1, aput_same h]
end
end Go.Proofs.YtdcdefkloibfnaaGreatDoor
namespace Go.Proofs.YtdcdefkloibfnaaGreatDoor
set_option linter.unusedVariables false
open Go.RowKit
open Go.ChangeMaps (setBlock)

/-- A host as the map holds it: its tokens' slice, and what it reads as. -/
structure HV where
  name : ByteArray
  dc : ByteArray
  rack : ByteArray
  ta : Option Addr
  tn : Nat
  tc : Nat
  toks : List Int
  up : Bool
def HV.tv (h : HV) : Value := .slice h.ta h.tn h.tc
def HV.abs (h : HV) : Ho := ⟨h.name, h.dc, h.rack, h.toks, h.up⟩
def hvV (h : HV) : Value := .agg #[.string h.name, .string h.dc, .string h.rack, .slice h.ta h.tn h.tc, .bool h.up]
def hvC (h : HV) : List Value := [.string h.name, .string h.dc, .string h.rack, .slice h.ta h.tn h.tc, .bool h.up]
theorem mshM : Tryz.prog.underlying 133 = some (.map 9 94) := by kernel_rfl
abbrev HoMap := KMap (β := HV) .string (fun s : ByteArray => Value.string s) hvV
theorem zero_host (w : World) : (zeroValue 94).run Tryz.prog w = .ok (.agg #[.string noStr, .string noStr, .string noStr, .slice none 0 0, .bool false]) w := Tryz.zeroValue94 w

/-- A table: g its block, m its map; own: the blocks that are its own. -/
structure TabAt (w : World) (own : Nat → Prop) (g m : Nat) (dc : ByteArray) (rem : Int) (L : List (ByteArray × HV)) : Prop where
  blk : Blk w g 135 #[.string dc, .int .i64 rem, .map (some m)]
  map : HoMap w m L
  nd : (L.map (·.1)).Nodup
  og : own g
  om : own m
  ot : ∀ p ∈ L, SlK w (fun k _ => own k ∧ k ≠ g ∧ k ≠ m) 1 p.2.tv p.2.tn (p.2.toks.map (Value.int .i64))
  nm : ∀ p ∈ L, p.2.name = p.1 ∧ p.1 ≠ noStr
  lt : ∀ k, own k → k < w.heap.size
section
variable {w w' : World} {own : Nat → Prop} {g m : Nat} {dc : ByteArray} {rem : Int} {L : List (ByteArray × HV)} {T : Nat → Prop}
theorem TabAt.kept (h : TabAt w own g m dc rem L) (hk : Kept T w w') (hT : ∀ k, own k → ¬ T k) : TabAt w' own g m dc rem L :=
  ⟨h.blk.kept hk (hT _ h.og), h.map.kept hk (hT _ h.om), h.nd, h.og, h.om, fun p hp => (h.ot p hp).keptAll hk fun k _ hk => hT k hk.1, h.nm, fun k hk' => Nat.lt_of_lt_of_le (h.lt k hk') hk.size⟩
theorem TabAt.keptN (h : TabAt w own g m dc rem L) (hk : Kept noBlock w w') : TabAt w' own g m dc rem L := h.kept hk fun _ _ e => e
/-- The table's hosts, by rising names. -/
def TabS (w : World) (own : Nat → Prop) (g : Nat) (dc : ByteArray) (rem : Int) (S : List Ho) : Prop :=
  ∃ m L, TabAt w own g m dc rem L ∧ risingH S ∧ ∀ x, (aget x L).map HV.abs = getS x S
theorem TabS.kept {S : List Ho} (h : TabS w own g dc rem S) (hk : Kept T w w') (hT : ∀ k, own k → ¬ T k) : TabS w' own g dc rem S := by
  obtain ⟨m, L, h1, h2⟩ := h
  exact ⟨m, L, h1.kept hk hT, h2⟩
/-- The map's hosts are the table's, in some order. -/
theorem tab_perm {S : List Ho} (hn : (L.map (·.1)).Nodup) (hm : ∀ p ∈ L, p.2.name = p.1 ∧ p.1 ≠ noStr) (hS : risingH S) (h : ∀ x, (aget x L).map HV.abs = getS x S) : (L.map fun p => p.2.abs).Perm S := by
  have hp : (L.map fun p => p.2.abs).Pairwise fun a b => a.name ≠ b.name := by
    rw [List.pairwise_map]
    have h1 := List.pairwise_map.1 hn
    refine List.Pairwise.imp_of_mem (fun {a b} ha hb hne e => ?_) h1
    have e1 : a.2.name = b.2.name := e
    rw [(hm a ha).1, (hm b hb).1] at e1
    exact hne e1
  refine perm_of_get hp (rising_ne hS) fun x => ?_
  rw [← h]
  cases hx : aget x L with
  | none =>
    refine getS_none.2 fun o ho => ?_
    obtain ⟨p, hpL, rfl⟩ := List.mem_map.1 ho
    have := aget_eq_none.1 hx p hpL
    show p.2.name ≠ x
    rw [(hm p hpL).1]; exact this
  | some v =>
    have hmem := aget_mem hx
    have h2 := getS_of_mem hp (List.mem_map.2 ⟨(x, v), hmem, rfl⟩)
    have h3 : (HV.abs v).name = x := (hm _ hmem).1
    have h4 : getS (HV.abs v).name (L.map fun p => p.2.abs) = some (HV.abs v) := h2
    rw [h3] at h4
    exact h4
theorem aput_nodup {β : Type} {x : ByteArray} {v : β} {L : List (ByteArray × β)} (h : (L.map (·.1)).Nodup) : ((aput x v L).map (·.1)).Nodup := by
  by_cases e : x ∈ L.map (·.1)
  · rw [aput_keys e]; exact h
  · rw [aput_none fun p hp e2 => e (List.mem_map.2 ⟨p, hp, e2⟩), List.map_append, List.nodup_append]
    exact ⟨h, by simp, fun a ha b hb e2 => by
      have : b = x := by simpa using hb
      subst this; exact e (e2 ▸ ha)⟩
/-- A host is written into the map. -/
theorem TabAt.put {W : World} {es : Array MapEntry} {ck : Nat} {x : ByteArray} {v : HV} (h : TabAt w own g m dc rem L) (hk : Kept noBlock w W) (hm : HoMap (setBlock W m (.map es ck)) m (aput x v L)) (hn : v.name = x ∧ x ≠ noStr)
    (ht : SlK W (fun k _ => own k ∧ k ≠ g ∧ k ≠ m) 1 v.tv v.tn (v.toks.map (Value.int .i64))) : TabAt (setBlock W m (.map es ck)) own g m dc rem (aput x v L) := by
  have hk2 : Kept (fun k => k = m) W (setBlock W m (.map es ck)) := (Kept.refl (fun k => k = m) W).setBlock (m := m) (fun _ => rfl) _
  have hgm : g ≠ m := fun e => h.map.ne_blk h.blk e
  refine ⟨(h.blk.kept hk (fun e => e)).kept hk2 hgm, hm, aput_nodup h.nd, h.og, h.om, fun p hp => ?_, fun p hp => ?_, fun k e => Nat.lt_of_lt_of_le (h.lt k e) (by rw [size_setBlock]; exact hk.size)⟩
  · rcases mem_aput h.nd hp with rfl | ⟨hp, -⟩
    · exact ht.keptAll hk2 fun k _ e e2 => e.2.2 e2
    · exact ((h.ot p hp).keptNone hk).keptAll hk2 fun k _ e e2 => e.2.2 e2
  · rcases mem_aput h.nd hp with rfl | ⟨hp, -⟩
    · exact hn
    · exact h.nm p hp
/-- More blocks become the table's own. -/
theorem TabAt.wide {own' : Nat → Prop} (h : TabAt w own g m dc rem L) (ho : ∀ k, own k → own' k) (hl : ∀ k, own' k → k < w.heap.size) : TabAt w own' g m dc rem L :=
  ⟨h.blk, h.map, h.nd, ho _ h.og, ho _ h.om, fun p hp => (h.ot p hp).any fun _ _ _ e => ⟨ho _ e.1, e.2⟩, h.nm, hl⟩

/-! Marking. -/
def markP (S : List Ho) (x : ByteArray) (up : Bool) : List Ho × Bool :=
  match getS x S with
  | none => (S, false)
  | some h => if h.up = up then (S, false) else (S.map fun o => if o.name = x then { o with up := up } else o, true)
def setUp (x : ByteArray) (up : Bool) (o : Ho) : Ho := if o.name = x then { o with up := up } else o
theorem setUp_name (x : ByteArray) (up : Bool) (o : Ho) : (setUp x up o).name = o.name := by unfold setUp; split <;> rfl
theorem mark_rising {S : List Ho} (h : risingH S) (x : ByteArray) (up : Bool) : risingH (S.map (setUp x up)) := by
  refine List.pairwise_map.2 (List.Pairwise.imp (fun {a b} e => ?_) h)
  rw [setUp_name, setUp_name]; exact e
theorem mark_get (x y : ByteArray) (up : Bool) : ∀ (S : List Ho), getS y (S.map (setUp x up)) = (getS y S).map (setUp x up)
  | [] => rfl
  | o :: S => by
    unfold getS
    rw [List.map_cons, List.find?_cons, List.find?_cons, setUp_name]
    by_cases e : o.name = y
    · rw [decide_eq_true e]; rfl
    · rw [decide_eq_false e]
      exact mark_get x y up S
end
end Go.Proofs.YtdcdefkloibfnaaGreatDoor

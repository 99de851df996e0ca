/- ring.Read by digits: strconv's reading of a number and the document's reference. -/
import Derived.Test.YthjpoiemconeeaaDoorRgRead
namespace Go.Proofs.YthjpoiemconeeaaDoor
set_option linter.unusedVariables false
open Go.Lib

/-- The reference's walk over the digits, below 0 all the way. -/
def rgo (n : Int) : List UInt8 → Option Int
  | [] => some n
  | c :: r => if c.toNat < 48 ∨ 57 < c.toNat then none else
    if n < -922337203685477580 ∨ (n = -922337203685477580 ∧ 8 < (c.toNat : Int) - 48) then none else rgo (n * 10 - ((c.toNat : Int) - 48)) r
/-- What the reference answers, its number and its code. -/
def refRead (l : List UInt8) : Int × Int :=
  let neg := l.head? = some 45
  let r := if neg then l.drop 1 else l
  if r = [] then (0, 11) else
  match rgo 0 r with
  | none => (0, 11)
  | some n => if neg then (n, 0) else if n = -9223372036854775808 then (0, 11) else (-n, 0)
/-- What ring.Read answers. -/
def ringRead (l : List UInt8) : Int × Int :=
  match parseIntB 64 l with
  | .ok v => if l.head? = some 43 then (0, 11) else (v, 0)
  | _ => (0, 11)

theorem parseUintM_le {M acc u : Nat} {l : List UInt8} (h : parseUintM M acc l = .ok u) : acc ≤ u := by
  induction l generalizing acc with
  | nil => simp [parseUintM] at h; omega
  | cons c r ih =>
    unfold parseUintM at h
    split at h
    · split at h
      · cases h
      · split at h
        · cases h
        · have := ih h; omega
    · cases h
theorem rgo_parse (l : List UInt8) (acc : Nat) (ha : acc ≤ 9223372036854775808) :
    rgo (-(acc : Int)) l = match parseUintM (2 ^ 64 - 1) acc l with | .ok u => if u ≤ 9223372036854775808 then some (-(u : Int)) else none | _ => none := by
  induction l generalizing acc with
  | nil => simp [rgo, parseUintM, ha]
  | cons c r ih =>
    unfold rgo parseUintM
    by_cases hc : 48 ≤ c.toNat ∧ c.toNat ≤ 57
    · rw [if_neg (by omega), if_pos hc]
      by_cases hb : acc * 10 + (c.toNat - 48) ≤ 9223372036854775808
      · rw [if_neg (by omega), if_neg (by omega), if_neg (by omega), ← ih _ hb]
        congr 1; omega
      · rw [if_pos (by omega)]
        split
        · rename_i u hu
          split at hu
          · cases hu
          · split at hu
            · cases hu
            · have := parseUintM_le hu
              rw [if_neg (by omega)]
        · rfl
    · rw [if_pos (by omega), if_neg hc]

theorem rgo_zero (l : List UInt8) (hl : l ≠ []) : rgo 0 l = match parseUintB 64 l with | .ok u => if u ≤ 9223372036854775808 then some (-(u : Int)) else none | _ => none := by
  have h := rgo_parse l 0 (by omega)
  unfold parseUintB
  rw [if_neg hl]
  exact h
/-- THE LAW: the reference answers as strconv does. -/
theorem read_same (l : List UInt8) : refRead l = ringRead l := by
  cases l with
  | nil => rfl
  | cons c r =>
    have e45 : (some c = some 45) ↔ c.toNat = 45 := by
      rw [Option.some.injEq]; exact ⟨fun h => h ▸ rfl, fun h => UInt8.toNat_inj.1 h⟩
    have e43 : (some c = some 43) ↔ c.toNat = 43 := by
      rw [Option.some.injEq]; exact ⟨fun h => h ▸ rfl, fun h => UInt8.toNat_inj.1 h⟩
    by_cases h43 : c.toNat = 43
    · have hg : rgo 0 (c :: r) = none := by unfold rgo; rw [if_pos (by omega)]
      obtain rfl : c = 43 := UInt8.toNat_inj.1 h43
      clear h43 e45 e43
      have f45 : (some (43 : UInt8) = some 45) = False := eq_false (by decide)
      unfold refRead ringRead
      simp only [List.head?_cons, f45, if_true, if_false]
      rw [if_neg (by simp), hg]
      cases parseIntB 64 (43 :: r) <;> rfl
    unfold refRead ringRead parseIntB
    simp only [List.head?_cons, e45, e43, List.drop_succ_cons, List.drop_zero]
    by_cases h45 : c.toNat = 45
    · clear h43
      have h43 : ¬ c.toNat = 43 := by omega
      simp only [h45, if_true, if_false, or_true, not_true, false_and, true_and]
      by_cases hr : r = []
      · subst hr; rfl
      · rw [if_neg hr, rgo_zero r hr]
        rcases hp : parseUintB 64 r with u | _ | _
        · by_cases hu : u ≤ 9223372036854775808
          · simp [hu, Nat.not_lt.2 hu]
          · simp [hu, Nat.lt_of_not_le hu]
        · rfl
        · rfl
    · simp only [h45, h43, if_false, or_self, not_false_iff, true_and, false_and]
      rw [if_neg (by simp), rgo_zero _ (by simp)]
      rcases hp : parseUintB 64 (c :: r) with u | _ | _
      · by_cases hu : u ≤ 9223372036854775808
        · by_cases hu2 : u = 9223372036854775808
          · simp [hu2]
          · have : ¬ (9223372036854775808 ≤ u) := by omega
            have h3 : ¬ (-(u : Int) = -9223372036854775808) := by omega
            simp [hu, this, h3]
        · simp [hu, Nat.le_of_lt (Nat.lt_of_not_le hu)]
      · rfl
      · rfl
end Go.Proofs.YthjpoiemconeeaaDoor

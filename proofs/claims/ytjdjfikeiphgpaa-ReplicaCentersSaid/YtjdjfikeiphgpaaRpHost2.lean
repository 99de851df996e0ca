/- replica: (*chooser).host as one step. -/
import Derived.Test.YtjdjfikeiphgpaaRpHost
namespace Go.Proofs.Ytjdjfikeiphgpaa
set_option linter.unusedVariables false
open Go.RowKit

/-- What host makes of the centers and of the hosts that are out. -/
def stepH (s : Si) (h : ByteArray) (cs : List (ByteArray × Cr)) (out : List ByteArray) : List (ByteArray × Cr) × List ByteArray :=
  match aget s.2.1 cs with
  | none => (cs, out)
  | some c => if c.need ≤ (c.tk : Int) then (cs, out) else if c.racks.all (·.2) = true then (takeCs s.2.1 c cs, takeOut c h out)
    else if aget s.2.2 c.racks = some true then (aput s.2.1 { c with ws := c.ws ++ [h] } cs, out) else (newCs s.2.1 s.2.2 c cs, newOut s.2.2 c h out)
/-- How great all may be behind i steps. -/
def Bd (i : Nat) (cs : List (ByteArray × Cr)) (out : List ByteArray) : Prop := out.length ≤ i * (i + 1) ∧ ∀ p ∈ cs, p.2.ws.length ≤ i ∧ p.2.tk ≤ i * (i + 1)

section
variable {w : World} {base bX mS mC : Nat} {sm : List (ByteArray × Si)} {cs : List (ByteArray × Cr)} {out : List ByteArray} {own : Nat → Own} {vo : Value}
theorem rhost_at {h : ByteArray} {s : Si} {i : Nat} (hO : ChO w base bX mS mC sm cs out own vo) (hs : aget h sm = some s) (hb : Bd i cs out) (hi : i ≤ 200) :
    Calls Try.prog 29 #[.pointer (some ⟨bX, 0, none⟩), .string h] w fun e w' => e = .returned (.tuple #[]) ∧ ∃ own' vo', ChO w' base bX mS mC sm (stepH s h cs out).1 (stepH s h cs out).2 own' vo' ∧ Step own own' w w' := by
  have hsq : i * (i + 1) ≤ 200 * 201 := Nat.mul_le_mul hi (by omega)
  unfold stepH
  cases hd : aget s.2.1 cs with
  | none => exact rhost_none hO hs hd
  | some c =>
    have hbc := hb.2 _ (aget_mem hd)
    have h1 : c.ws.length ≤ i := hbc.1
    have h2 : c.tk ≤ i * (i + 1) := hbc.2
    have h3 := hb.1
    simp only []
    by_cases hge : c.need ≤ (c.tk : Int)
    · rw [if_pos hge]; exact rhost_full hO hs hd hge
    · rw [if_neg hge]
      by_cases hall : c.racks.all (·.2) = true
      · rw [if_pos hall]; exact rhost_all hO hs hd (by omega) hall (by omega) (by omega)
      · rw [if_neg hall]
        by_cases hr : aget s.2.2 c.racks = some true
        · rw [if_pos hr]; exact rhost_wait hO hs hd (by omega) (by simpa using hall) hr (by omega)
        · rw [if_neg hr]; exact rhost_new hO hs hd (by omega) (by simpa using hall) hr (by omega) (by omega)
end
theorem takeCs_keys {d : ByteArray} {c : Cr} {cs : List (ByteArray × Cr)} (hd : d ∈ cs.map (·.1)) : (takeCs d c cs).map (·.1) = cs.map (·.1) := by
  unfold takeCs; split
  · exact aput_keys hd
  · rfl
theorem newCs_keys {d r : ByteArray} {c : Cr} {cs : List (ByteArray × Cr)} (hd : d ∈ cs.map (·.1)) : (newCs d r c cs).map (·.1) = cs.map (·.1) := by
  unfold newCs; split <;> exact aput_keys hd
theorem stepH_keys (s : Si) (h : ByteArray) (cs : List (ByteArray × Cr)) (out : List ByteArray) : (stepH s h cs out).1.map (·.1) = cs.map (·.1) := by
  unfold stepH
  cases hd : aget s.2.1 cs with
  | none => rfl
  | some c =>
    have hk : s.2.1 ∈ cs.map (·.1) := List.mem_map.2 ⟨_, aget_mem hd, rfl⟩
    simp only []
    split
    · rfl
    · split
      · exact takeCs_keys hk
      · split
        · exact aput_keys hk
        · exact newCs_keys hk
theorem Bd.mono {i : Nat} {cs : List (ByteArray × Cr)} {out : List ByteArray} (h : Bd i cs out) : Bd (i + 1) cs out := by
  have e : (i + 1) * (i + 1 + 1) = i * (i + 1) + 2 * (i + 1) := by rw [Nat.mul_comm, ← Nat.add_mul]
  refine ⟨by have := h.1; omega, fun p hp => ?_⟩
  have := h.2 p hp
  omega
theorem Bd.put {i : Nat} {cs : List (ByteArray × Cr)} {out out' : List ByteArray} {d : ByteArray} {c : Cr} (h : Bd i cs out) (hn : (cs.map (·.1)).Nodup) (h1 : c.ws.length ≤ i + 1) (h2 : c.tk ≤ i * (i + 1) + (i + 1)) (h3 : out'.length ≤ i * (i + 1) + (i + 1)) : Bd (i + 1) (aput d c cs) out' := by
  have e : (i + 1) * (i + 1 + 1) = i * (i + 1) + 2 * (i + 1) := by rw [Nat.mul_comm, ← Nat.add_mul]
  refine ⟨by omega, fun p hp => ?_⟩
  rcases mem_aput hn hp with rfl | ⟨hp, -⟩
  · simp only []; omega
  · have := h.2 p hp; omega
theorem Bd.step {i : Nat} {cs : List (ByteArray × Cr)} {out : List ByteArray} (h : Bd i cs out) (hn : (cs.map (·.1)).Nodup) (s : Si) (x : ByteArray) : Bd (i + 1) (stepH s x cs out).1 (stepH s x cs out).2 := by
  unfold stepH
  cases hd : aget s.2.1 cs with
  | none => exact h.mono
  | some c =>
    have hbc := h.2 _ (aget_mem hd)
    have h1 : c.ws.length ≤ i := hbc.1
    have h2 : c.tk ≤ i * (i + 1) := hbc.2
    have h3 := h.1
    simp only []
    split
    · exact h.mono
    · rename_i hlt
      have hlt' : (c.tk : Int) < c.need := by omega
      split
      · unfold takeCs takeOut
        rw [if_pos hlt', if_pos hlt']
        exact h.put hn (by show c.ws.length ≤ _; omega) (by show c.tk + 1 ≤ _; omega) (by rw [List.length_append]; simp; omega)
      · split
        · exact h.put hn (by simp; omega) (by show c.tk ≤ _; omega) (by show out.length ≤ _; omega)
        · unfold newCs newOut
          split
          · refine h.put hn (by show c.ws.length ≤ _; omega) (by show c.tk + 1 + min _ _ ≤ _; omega) ?_
            rw [List.length_append, List.length_append, List.length_take]
            simp; omega
          · exact h.put hn (by show c.ws.length ≤ _; omega) (by show c.tk + 1 ≤ _; omega) (by rw [List.length_append]; simp; omega)
end Go.Proofs.Ytjdjfikeiphgpaa

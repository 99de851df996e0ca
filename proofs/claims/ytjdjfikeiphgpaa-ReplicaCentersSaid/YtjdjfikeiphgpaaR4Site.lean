/- The reference of chapter 14: a host's site. -/
import Derived.Test.YtjdjfikeiphgpaaR3Walk
import Derived.Test.YtjdjfikeiphgpaaFam
namespace Go.Proofs.Ytjdjfikeiphgpaa
set_option linter.unusedVariables false
open Go.RowKit

theorem s4sT : SlT Try.prog 39 43 (.agg #[.string noStr, .string noStr, .string noStr]) 3 48 := ⟨Try.underlying39, by kernel_rfl, rfl, by decide, by decide⟩
abbrev S4i := ByteArray × ByteArray × ByteArray
def s4C (s : S4i) : List Value := [.string s.1, .string s.2.1, .string s.2.2]
theorem s4C_len (l : List S4i) : (l.flatMap s4C).length = l.length * 3 := flat_len (k := 3) (fun _ => rfl) l
theorem s4_at {w : World} {ok : Nat → TypeId → Prop} {v : Value} {L : List S4i} {n : Nat} (h : SlK w ok 3 v n (L.flatMap s4C)) {i : Nat} {s : S4i} (hi : L[i]? = some s) :
    ∃ g off, (∀ kd w', (Instr.indexAt 39 v (.int kd (i : Int))).run Try.prog w' = .ok (.pointer (some ⟨g, off, none⟩)) w') ∧ g < w.heap.size ∧ w.cell? ⟨g, off, none⟩ = some (.string s.1) ∧ w.cell? ⟨g, off + 1, none⟩ = some (.string s.2.1) ∧ w.cell? ⟨g, off + 2, none⟩ = some (.string s.2.2) := by
  have hlt : i < n := by
    have h1 := (List.getElem?_eq_some_iff.1 hi).1
    have h2 := h.len
    rw [s4C_len] at h2
    omega
  obtain ⟨g, off, h1, h2, h4, h3⟩ := h.run_index s4sT (i := (i : Int)) (k := i) rfl hlt
  refine ⟨g, off, h1, h2, h3 0 _ ?_, h3 1 _ ?_, h3 2 _ ?_⟩
  · rw [flat_get (k := 3) (fun _ => rfl) L i 0 s hi (by decide)]; rfl
  · rw [flat_get (k := 3) (fun _ => rfl) L i 1 s hi (by decide)]; rfl
  · rw [flat_get (k := 3) (fun _ => rfl) L i 2 s hi (by decide)]; rfl
/-- The first site of a host. -/
def siteOf (L : List S4i) (h : ByteArray) : Option S4i := L.find? fun s => decide (s.1 = h)
theorem find_take_none {L : List S4i} {h : ByteArray} {i : Nat} {s : S4i} (hi : L[i]? = some s) (h0 : siteOf (L.take i) h = none) : siteOf (L.take (i + 1)) h = (if s.1 = h then some s else none) ∧ (s.1 = h → siteOf L h = some s) := by
  have e : L.take (i + 1) = L.take i ++ [s] := by rw [List.take_add_one, hi]; rfl
  unfold siteOf at *
  constructor
  · rw [e, List.find?_append, h0]
    by_cases hs : s.1 = h <;> simp [hs]
  · intro hs
    conv => lhs; rw [← List.take_append_drop (i + 1) L, e]
    rw [List.find?_append, List.find?_append, h0]
    simp [hs]
def SiteIs (L : List S4i) (h : ByteArray) (z : Int) : Prop := (∃ (i : Nat) (s : S4i), L[i]? = some s ∧ siteOf L h = some s ∧ z = i) ∨ (siteOf L h = none ∧ z = -1)
set_option maxHeartbeats 1000000 in
set_option maxRecDepth 100000 in
theorem r4site_at {w : World} {ok : Nat → TypeId → Prop} {v : Value} {L : List S4i} {h : ByteArray} (hs : SlK w ok 3 v L.length (L.flatMap s4C)) (hn : L.length ≤ 100000) :
    Calls Try.prog 30 #[v, .string h] w fun e w' => w' = w ∧ ∃ z : Int, e = .returned (.int .i64 z) ∧ SiteIs L h z := by
  obtain ⟨A, c, rfl, -, -⟩ := hs.shape
  have hlen := hs.run_len s4sT
  have H := Lib.hid hs
  clear hs
  go_enter Try.func30, Try.ntmps30
  go_wp2_with fail
  go_loopg [5] L.length (fun j vi wr => ∃ i : Nat, i + j = L.length ∧ vi = .int .i64 i ∧ siteOf (L.take i) h = none ∧ wr = w)
  case atStart => exact ⟨0, by omega, rfl, rfl, rfl⟩
  case round =>
    obtain ⟨i, hij, rfl, hh, rfl⟩ := hrel
    have HH := Lib.hid hh
    clear hh
    by_cases hlt : i < L.length
    · obtain ⟨x, hx⟩ : ∃ x, L[i]? = some x := ⟨_, List.getElem?_eq_getElem hlt⟩
      obtain ⟨g, off, hidx, hgl, hc0, hc1, hc2⟩ := s4_at H.out hx
      have hft := find_take_none hx HH.out
      have HFT := Lib.hid hft
      have HX := Lib.hid hx
      obtain ⟨x1, x2⟩ := x
      simp only at hc0
      clear hx hft
      by_cases hxs : x1 = h
      · subst hxs
        have hbe := strEq_self x1
        go_wp2
        go_ret
        exact ⟨rfl, _, rfl, .inl ⟨i, _, HX.out, HFT.out.2 (by first | rfl | trivial), rfl⟩⟩
      · have hbe := strEq_ne hxs
        have HXS := Lib.hid hxs
        clear hxs
        go_wp2
        go_roundg (L.length - (i + 1))
        case measure => omega
        case rel => exact ⟨i + 1, by omega, by go_num, by rw [HFT.out.1, if_neg HXS.out], rfl⟩
    · obtain rfl : i = L.length := by omega
      have hres : siteOf L h = none := by have := HH.out; rw [List.take_length] at this; exact this
      have HRES := Lib.hid hres
      clear hres
      go_wp2
      go_ret
      exact ⟨rfl, _, rfl, .inr ⟨HRES.out, rfl⟩⟩
end Go.Proofs.Ytjdjfikeiphgpaa

/- The law's same, at what is the same. -/
import Derived.Test.YtjdjfikeiphgpaaR3Walk
namespace Go.Proofs.Ytjdjfikeiphgpaa
set_option linter.unusedVariables false
open Go.RowKit

/-- The law's same, at what is the same. -/
theorem same_at {w : World} {u v : Value} {l : List ByteArray} (h : Sl w 9 1 u l.length (l.map Value.string)) (h2 : Sl w 9 1 v l.length (l.map Value.string)) (hn : l.length ≤ 100000) :
    Calls Try.prog 12 #[u, v] w fun e w' => e = .returned (.bool true) ∧ ∃ n, w' = w.drewN n := by
  obtain ⟨A, c, rfl, -, -⟩ := h.shape
  obtain ⟨A2, c2, rfl, -, -⟩ := h2.shape
  have hlen := h.run_len strsT
  have hlen2 := h2.run_len strsT
  have H := Lib.hid h
  have H2 := Lib.hid h2
  have hne : ((l.length : Int) != (l.length : Int)) = false := by simp
  clear h h2
  go_enter Try.func12, Try.ntmps12
  go_wp2_with fail
  clear hne
  go_loopg [5] l.length (fun j vi wr => ∃ i n : Nat, i + j = l.length ∧ vi = .int .i64 i ∧ wr = w.drewN n)
  case atStart => exact ⟨0, 0, by omega, rfl, rfl⟩
  case round =>
    obtain ⟨i, n, hij, rfl, rfl⟩ := hrel
    have HIJ := Lib.hid hij
    clear hij
    by_cases hlt : i < l.length
    · obtain ⟨x, hx⟩ : ∃ x, l[i]? = some x := ⟨_, List.getElem?_eq_getElem hlt⟩
      obtain ⟨ga, oa, hia, -, hca⟩ := str_at (SlK.drewN H.out n) hx
      obtain ⟨gb, ob, hib, -, hcb⟩ := str_at (SlK.drewN H2.out n) hx
      have hbe := strEq_self x
      have hca4 : w.cell? ⟨ga, oa, none⟩ = some (.string x) := hca
      have hcb4 : w.cell? ⟨gb, ob, none⟩ = some (.string x) := hcb
      clear hx
      go_wp2
      go_quiet (fail)
      go_wp2
      go_roundg (l.length - (i + 1))
      case measure => have := HIJ.out; omega
      case rel => exact ⟨i + 1, n + nq, by have := HIJ.out; omega, by go_num, rfl⟩
    · go_wp2
      go_ret
      exact ⟨rfl, n, rfl⟩
end Go.Proofs.Ytjdjfikeiphgpaa

/- A map with int keys that reads as a list of pairs, in the words that the library's contracts on maps.Keys want; its keys, sorted. No program is named. -/
import Derived.Test.YtelcielfhgijpaaDoorBase
import Derived.Maps.Own
import Derived.Shelf.SlIterI.Sorted
namespace Go.Proofs.YtelcielfhgijpaaDoor
set_option linter.unusedVariables false
open Go.RowKit Go.MapKept
open Go.WideElems (Fit rd rg)

theorem KMap.owns {H β : Type} {val : β → Value} {w : World} {m : Nat} {L : List (Int × β)} {P : Program} {k : TypeId} (h : KMap (.int .i64) (Value.int .i64) val w m L) (hk : P.underlying k = some (.int .i64))
    (hwf : ∀ p ∈ L, (Lit.int .i64 p.1).wf = true) (hsz : L.length ≤ maxLen) :
    ∃ D0 : DataW H, w.ownsMap P k (fun _ => some (.nil, [])) m L.length D0 ∧ (intKeys D0).Perm (L.map (·.1)) ∧ Maps.size D0 = L.length := by
  obtain ⟨es, ck, hh, hst, hL⟩ := h
  have hlen : es.toList.length = L.length := by simpa using congrArg List.length hL
  have hkey : ∀ x ∈ es.toList, ∃ p ∈ L, x.key = .int .i64 p.1 := by
    intro x hx
    have : (x.key, x.val) ∈ L.map (fun p => (Value.int .i64 p.1, val p.2)) := by rw [← hL]; exact List.mem_map.2 ⟨x, hx, rfl⟩
    obtain ⟨p, hp, e⟩ := List.mem_map.1 this
    injection e with e1 _
    exact ⟨p, hp, e1.symm⟩
  have hrd : ∀ x ∈ es.toList, ∃ n, x.key = .int .i64 n ∧ rd (H := H) P k (fun _ => some (.nil, [])) x = some (.int .i64 n, .nil) := by
    intro x hx
    obtain ⟨p, hp, e⟩ := hkey x hx
    refine ⟨p.1, e, ?_⟩
    unfold rd
    rw [e, Maps.keyOf_int_mk hk (hwf p hp)]
    rfl
  refine ⟨.map ((es.toList.map (rg P k (fun _ => some (.nil, [])))).foldr DataW.insert []), ⟨es, ck, hh, ⟨by rw [← Array.length_toList, hlen]; exact hsz, hst, fun x hx => ?_⟩, by rw [← Array.length_toList, hlen]; exact Nat.le_refl _, rfl⟩, ?_, ?_⟩
  · obtain ⟨n, _, e⟩ := hrd x hx; exact ⟨_, e⟩
  · have hp := (Go.WideShapes.sorted_perm (es.toList.map (rg (H := H) P k (fun _ => some (.nil, []))))).map (fun p => Go.intOf p.1)
    refine (show (intKeys (DataW.map _)).Perm _ from hp).trans (List.Perm.of_eq ?_)
    rw [List.map_map]
    have e1 : es.toList.map ((fun p => Go.intOf p.1) ∘ rg (H := H) P k (fun _ => some (.nil, []))) = es.toList.map (fun x => RowKit.intOf x.key) := by
      apply List.map_congr_left
      intro x hx
      obtain ⟨n, e2, e3⟩ := hrd x hx
      simp only [Function.comp, rg, e3, Option.getD_some, e2]
      rfl
    rw [e1]
    have := congrArg (List.map (fun q : Value × Value => RowKit.intOf q.1)) hL
    rw [List.map_map, List.map_map] at this
    exact this
  · rw [Maps.size_eq, Go.length_sorted, List.length_map, hlen]

/-- Ascending keys stay as they are. -/
theorem sorted_keys {l : List Int} (h : l.Pairwise (· < ·)) : l.mergeSort leI = l := by
  apply List.mergeSort_of_pairwise
  exact h.imp fun hab => by simp only [leI, decide_eq_true_eq]; omega
end Go.Proofs.YtelcielfhgijpaaDoor

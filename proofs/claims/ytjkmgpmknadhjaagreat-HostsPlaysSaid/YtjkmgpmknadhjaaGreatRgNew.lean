/- ring.New: a copy, sorted; refused where a host has no name, or a token is there twice. -/
import Derived.Test.YtjkmgpmknadhjaaGreatRgSort
import Derived.Test.YtjkmgpmknadhjaaGreatSched2
import Derived.Deep.LoopGhost
import Derived.Laws.OwnMore
import Derived.Lib.SliceRun
namespace Go.Proofs.YtjkmgpmknadhjaaGreat
set_option linter.unusedVariables false
open Go.RowKit

set_option maxHeartbeats 1000000 in
set_option maxRecDepth 100000 in
theorem PClone_at {w : World} {ok : Nat → TypeId → Prop} {v : Value} {n : Nat} {L : List Pl} (h : SlK w ok 2 v n (L.flatMap pC)) (hn : n ≤ 1000000) :
    Calls Tryz.prog 27 #[v] w fun e w' => ∃ v', e = .returned v' ∧ w'.ownsRow w.heap.size 54 2 v' n (L.flatMap pC) ∧ Kept noBlock w w' := by
  obtain ⟨A, c, rfl, -, -⟩ := h.shape
  cases A with
  | none =>
    have hz : n = 0 ∧ L.flatMap pC = [] := by
      obtain ⟨hl, A', c', e, -, -, hd⟩ := h
      cases e
      rcases hd with ⟨h0, -⟩ | ⟨g, off, cs, t, fz, e, -⟩
      · subst h0; exact ⟨rfl, List.eq_nil_of_length_eq_zero (by omega)⟩
      · cases e
    obtain ⟨rfl, hz⟩ := hz
    rw [hz]
    clear h hz
    have q1 : ∀ w, (binOp .eql 43 (.slice none 0 c) (.slice none 0 0)).run Tryz.prog w = .ok (.bool true) w := fun w => Lib.run_eql_slice_nil w _ _ none 0 c 0 0 Tryz.underlying43
    go_enter Tryz.func27, Tryz.ntmps27
    go_wp2
    go_ret
    exact ⟨_, rfl, World.ownsRow_nil _ _ _ _, Kept.refl _ _⟩
  | some A =>
    have H := Lib.hid h
    clear h
    have q1 : ∀ w, (binOp .eql 43 (.slice (some A) n c) (.slice none 0 0)).run Tryz.prog w = .ok (.bool false) w := fun w => Lib.run_eql_slice_nil w _ _ (some A) n c 0 0 Tryz.underlying43
    go_enter Tryz.func27, Tryz.ntmps27
    go_wp2_with (at_builtin; go_must (refine wpList_append_sl _ psT rfl (.tmp 5) (.tmp 6) rfl w.heap.size _ 0 [] rfl (World.ownsRow_made w #[] 0 (Nat.le_refl _) (Nat.zero_le _) rfl) _ n (L.flatMap pC) rfl (H.out.alloc _) (fun u hu => pC_one hu) ?c1 ?c2 ?_))
    case c1 => omega
    case c2 => simp
    intro v' w3 hap
    have hown := hap.own
    have hk := hap.below (World.ownsRow_made w #[] 0 (Nat.le_refl _) (Nat.zero_le _) rfl) ((Kept.refl noBlock w).alloc _) (Nat.le_refl _)
    clear hap
    go_wp2
    go_ret
    exact ⟨_, rfl, by simpa using hown, hk⟩

set_option maxHeartbeats 1000000 in
set_option maxRecDepth 100000 in
theorem PIdx_at {w : World} {v : Value} {L : List Pl} (h : Sl w 54 2 v L.length (L.flatMap pC)) (hn : L.length ≤ 1000000) :
    Calls Tryz.prog 65 #[v, .func (.func 42) #[] #[]] w fun e w' => ∃ i : Int, e = .returned (.int .i64 i) ∧ (0 ≤ i ↔ L.any (fun p => p.2.toList.isEmpty) = true) ∧ Kept noBlock w w' := by
  obtain ⟨A, c, rfl, -, -⟩ := h.shape
  have hlen := h.run_len psT
  have H := Lib.hid h
  have eg : ∀ args w, (callFunc 42 args).run Tryz.prog w = .ok (.enter 42 args) w := enters_of Tryz.func42 (by kernel_rfl) rfl
  clear h
  go_enter Tryz.func65, Tryz.ntmps65
  go_wp2_with fail
  go_loopg [8] L.length (fun j vi wr => ∃ k : Nat, k + j = L.length ∧ vi = .int .i64 k ∧ (L.take k).any (fun p => p.2.toList.isEmpty) = false ∧ Kept noBlock w wr)
  case atStart => exact ⟨0, by omega, rfl, by simp, Kept.refl _ _⟩
  case round =>
    obtain ⟨k, hkl, rfl, hany, hk⟩ := hrel
    have HKL := Lib.hid hkl
    have HANY := Lib.hid hany
    have HK := Lib.hid hk
    by_cases hlt : k < L.length
    · obtain ⟨p, hp⟩ : ∃ p, L[k]? = some p := ⟨_, List.getElem?_eq_getElem hlt⟩
      obtain ⟨g, off, hidx, hgl, hc0, hc1⟩ := p_at (SlK.keptNone H.out hk) psT hp
      have hcall := Rnew2_at p wr
      have hnext : (L.take (k + 1)).any (fun p => p.2.toList.isEmpty) = p.2.toList.isEmpty := by
        rw [List.take_add_one, hp, List.any_append, hany]; simp
      have hall : p.2.toList.isEmpty = true → L.any (fun p => p.2.toList.isEmpty) = true := fun e => List.any_eq_true.2 ⟨p, List.mem_of_getElem? hp, e⟩
      have HNEXT := Lib.hid hnext
      have HALL := Lib.hid hall
      clear hkl hany hk hp hnext hall
      obtain ⟨p1, p2⟩ := p
      have HCALL := Lib.hid hcall
      clear hcall
      simp only at hc0 hc1 HNEXT HALL
      go_wp2_with fail
      go_at_fn 42
      refine HCALL.out.mono ?_
      rintro e w4 ⟨rfl, hg4⟩
      have HK4 := Lib.hid (HK.out.trans hg4.kept (fun _ _ h => h))
      clear hg4
      cases hemp : p2.toList.isEmpty with
      | true =>
        go_wp2
        go_ret
        exact ⟨_, rfl, ⟨fun _ => HALL.out hemp, fun _ => by omega⟩, HK4.out⟩
      | false =>
        go_wp2
        go_roundg (L.length - (k + 1))
        case measure => have := HKL.out; omega
        case rel => exact ⟨k + 1, by have := HKL.out; omega, by go_num, by rw [HNEXT.out]; exact hemp, HK4.out⟩
    · obtain rfl : k = L.length := by omega
      rw [List.take_length] at hany
      have HANY2 := Lib.hid hany
      clear hkl hany HANY
      go_wp2
      go_ret
      exact ⟨_, rfl, ⟨fun e => by omega, fun e => by rw [HANY2.out] at e; cases e⟩, hk⟩
theorem PHas_at {w : World} {v : Value} {L : List Pl} (h : Sl w 54 2 v L.length (L.flatMap pC)) (hn : L.length ≤ 1000000) :
    Calls Tryz.prog 41 #[v, .func (.func 42) #[] #[]] w fun e w' => e = .returned (.bool (L.any fun p => p.2.toList.isEmpty)) ∧ Kept noBlock w w' := by
  have HI := Lib.hid (PIdx_at h hn)
  obtain ⟨A, c, rfl, -, -⟩ := h.shape
  clear h
  generalize L.any (fun p => p.2.toList.isEmpty) = b at *
  go_enter Tryz.func41, Tryz.ntmps41
  go_wp2_with fail
  go_at_call 65
  refine HI.out.mono ?_
  rintro e w1 ⟨i, rfl, hi, hk⟩
  go_wp2
  go_ret
  exact ⟨rfl, hk⟩
end Go.Proofs.YtjkmgpmknadhjaaGreat

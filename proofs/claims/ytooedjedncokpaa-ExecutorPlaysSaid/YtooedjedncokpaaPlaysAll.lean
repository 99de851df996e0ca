/- ExecutorPlays: at whatever hosts; how its arguments read. -/
import Derived.Test.YtooedjedncokpaaPlaysW
import Derived.Test.YtooedjedncokpaaOpen
namespace Go.Proofs.Ytooedjedncokpaa
set_option linter.unusedVariables false
open Go.RowKit Go.ChangeShapes Go.WideShapes Go.Deep

set_option maxHeartbeats 1000000 in
set_option maxRecDepth 100000 in
theorem Plays_many (c0 c1 c2 c3 : Int) (v : Value) (l : List ByteArray) (idem : Bool) (now till : Int) (sv : Value) (w : World) (hv : Lo w w.heap.size 1 v l.length (l.map Value.string)) (hl : ¬ l.length ≤ 20) :
    Calls Try.prog 6 #[.agg #[.int .i64 c0, .int .i64 c1, .int .u64 c2, .int .i64 c3], v, .bool idem, .int .u64 now, .int .u64 till, sv] w fun e w' => e = .returned (.bool true) ∧ Kept noBlock w w' := by
  obtain ⟨A, cap, rfl, -, -⟩ := hv.shape
  clear hv
  have hk0 := (Kept.refl noBlock w).alloc (.cells #[.int .i64 c0, .int .i64 c1, .int .u64 c2, .int .i64 c3] 24)
  have hl2 : 20 < l.length := by omega
  clear hl
  go_enter Try.func6, Try.ntmps6
  go_wp2_with (go_at_call 8; refine (awake_at _).mono ?_; rintro e w1 ⟨rfl, hkw⟩)
  go_ret
  exact ⟨rfl, hk0.trans hkw fun _ _ h => h⟩

theorem Plays_all (c0 c1 c2 c3 : Int) (v : Value) (l : List ByteArray) (idem : Bool) (now till : Int) (sv : Value) (evs : List XEv) (w : World) (hv : Lo w w.heap.size 1 v l.length (l.map Value.string)) (hs : Lo w w.heap.size 17 sv evs.length (evs.flatMap evCells))
    (h20 : 0 ≤ c2) (h21 : c2 ≤ 18446744073709551615) (hn0 : 0 ≤ now) (hn1 : now ≤ 18446744073709551615) (hsp : ∀ e ∈ evs, 0 ≤ e.span ∧ e.span ≤ 18446744073709551615) :
    Calls Try.prog 6 #[.agg #[.int .i64 c0, .int .i64 c1, .int .u64 c2, .int .i64 c3], v, .bool idem, .int .u64 now, .int .u64 till, sv] w fun e w' => e = .returned (.bool true) ∧ Kept noBlock w w' := by
  by_cases hl : l.length ≤ 20
  · exact Plays_walk c0 c1 c2 c3 v l idem now till sv evs w hv hl hs h20 (by omega) hn0 (by omega) (fun e he => ⟨(hsp e he).1, by have := (hsp e he).2; omega⟩)
  · exact Plays_many c0 c1 c2 c3 v l idem now till sv w hv hl

theorem flat_one (l : List ByteArray) : l.flatMap (fun s => [Value.string s]) = l.map Value.string := by
  induction l with
  | nil => rfl
  | cons a t ih => rw [List.flatMap_cons, ih]; rfl
section
variable {H : Type} {enc : TypeId × Value → H} {W : World} {base : Nat} {r : Reach} {v : Value} {d : DataW H} {p : List MemPlace}
theorem open_strs {t e : TypeId} {P : Program} (ht : P.underlying t = some (.slice e)) (he : P.underlying e = some .string) (hC : P.cellsOf e = 1) (hval : Value.okWide P W r base t v) (h : DataW.Trod enc P W 0 (fun _ => true) true t v d p) :
    ∃ l : List ByteArray, Lo W W.heap.size 1 v l.length (l.map Value.string) := by
  obtain ⟨l, hl⟩ := open_lo (k := 1) ht hC (by decide) hval h (fun s : ByteArray => [Value.string s]) (fun _ => rfl) (fun cs n y hl h => by
    match cs, hl with
    | [c], _ =>
      obtain ⟨s, hs, -, -⟩ := DataW.trod_string he h
      simp only [List.cons.injEq, and_true] at hs
      exact ⟨s, by rw [hs]⟩)
  rw [flat_one] at hl
  exact ⟨l, hl⟩
set_option maxRecDepth 100000 in
theorem open_evs {hval : Value.okWide Try.prog W r base 49 v} (h : DataW.Trod enc Try.prog W 0 (fun _ => true) true 49 v d p) :
    ∃ evs : List XEv, Lo W W.heap.size 17 v evs.length (evs.flatMap evCells) ∧ ∀ e ∈ evs, 0 ≤ e.span ∧ e.span ≤ 18446744073709551615 := by
  obtain ⟨l, hl⟩ := open_lo (k := 17) Try.underlying49 (by kernel_rfl) (by decide) hval h (fun e : { e : XEv // 0 ≤ e.span ∧ e.span ≤ 18446744073709551615 } => evCells e.1) (fun _ => rfl) (fun cs n y hl h => by
    obtain ⟨e, he, -, hb⟩ := ev_read cs n y hl h; exact ⟨⟨e, hb⟩, he⟩)
  refine ⟨l.map (·.1), by rw [List.length_map, List.flatMap_map]; exact hl, ?_⟩
  intro e he
  obtain ⟨x, _, rfl⟩ := List.mem_map.1 he
  exact x.2
end
end Go.Proofs.Ytooedjedncokpaa

/- Hosts that came in, read as a list; crowd. -/
import Derived.Test.YtjkmgpmknadhjaaGreatHoAwake
import Derived.Test.YtjkmgpmknadhjaaGreatRgOpen
namespace Go.Proofs.YtjkmgpmknadhjaaGreat
set_option linter.unusedVariables false
open Go.ChangeShapes Go.WideShapes Go.Deep Go.RowKit
section
variable {H : Type} {enc : TypeId × Value → H} {P : Program} {W : World}
/-- A slice among the cells of what came in. -/
theorem open_cell {t e : TypeId} {k : Nat} (ht : P.underlying t = some (.slice e)) (hC : P.cellsOf e = k) (hk : 0 < k) {fuel : Nat} {cs : List Value} {x : DataW H × List MemPlace}
    (hfu : DataW.trod enc P W 0 (fun _ => true) true fuel t cs = some x) {α : Type} (f : α → List Value) (hf : ∀ a, (f a).length = k)
    (hread : ∀ cs n y, cs.length = k → DataW.trod enc P W 0 (fun _ => true) true n e cs = some y → ∃ a, cs = f a) :
    ∃ A n c, cs = [.slice A n c] ∧ ∃ l : List α, l.length = n ∧ Lo W W.heap.size k (.slice A n c) n (l.flatMap f) := by
  rcases open_slice ht hfu with ⟨hcs, _⟩ | ⟨a, len, cap, m, n, D, Pl, hcs, _, hl, hm, hmm, _, hi⟩
  · exact ⟨none, 0, 0, hcs, [], rfl, SlK.nil _ _ _⟩
  · refine ⟨some a, len, cap, hcs, ?_⟩
    simp only [if_true] at hmm
    obtain rfl := hmm.symm
    by_cases hc0 : cap = 0
    · subst hc0
      obtain rfl : len = 0 := by omega
      exact ⟨[], rfl, by simp, _, _, rfl, Nat.le_refl _, Nat.zero_le _, .inl ⟨rfl, rfl⟩⟩
    · have hel : ∀ i, i < len → ∃ x, W.cells? 0 (a.add (i * k)) k = some (f x) := fun i hi' => by
        obtain ⟨cs', h1, h2⟩ := hi i (by omega)
        rw [hC] at h1
        obtain ⟨_, hlen, _⟩ := World.cells?_some h1
        obtain ⟨x, rfl⟩ := hread cs' _ _ hlen h2
        exact ⟨x, h1⟩
      obtain ⟨l, hll, hlr⟩ := list_of hel
      obtain ⟨cs0, h0, _⟩ := hi 0 (by omega)
      rw [hC, Nat.zero_mul] at h0
      obtain ⟨_, hlen0, hat0⟩ := World.cells?_some h0
      have hc := hat0 0 hk
      have hadd : (a.add 0).add 0 = a := by simp [Addr.add]
      rw [hadd, List.getElem?_eq_getElem (by omega)] at hc
      have hsp : a.spot = none := by
        unfold World.cell? at hc
        split at hc
        · split at hc
          · cases hc
          · rename_i hs; simpa using hs
        · cases hc
      have hblk : ∃ cs e' fz, W.heap[a.block]? = some (.cells cs e' fz) := by
        unfold World.cell? at hc
        split at hc
        · rename_i cs e' fz hh; exact ⟨cs, e', fz, hh⟩
        · cases hc
      obtain ⟨cs, e', fz, hh⟩ := hblk
      obtain ⟨g, off, sp⟩ := a
      simp only at hsp hh
      subst hsp
      refine ⟨l, hll, by rw [flat_len hf l, hll], _, _, rfl, hl, hm, .inr ⟨g, off, cs, e', fz, rfl, hh, lt_of_heap hh, ?_⟩⟩
      refine flat_of hf hk fun i x j u hx hu => ?_
      obtain ⟨_, _, hat⟩ := World.cells?_some (hlr i x hx)
      have hj : j < k := by have := (List.getElem?_eq_some_iff.1 hu).1; rw [hf] at this; exact this
      have := hat j hj
      rw [hu, Addr.add_lit, Addr.add_lit, cell_of_row W g _ cs e' fz hh, Nat.add_assoc] at this
      exact this
end
/-- A host among those that came in. -/
def HoIn (W : World) (x : HV) : Prop := x.toks.length = x.tn ∧ SlK W (fun k _ => k < W.heap.size) 1 (.slice x.ta x.tn x.tc) x.tn (x.toks.map (Value.int .i64))
section
variable {H : Type} {enc : TypeId × Value → H} {W : World} {base : Nat} {v : Value} {d : DataW H} {p : List MemPlace}
set_option maxRecDepth 100000 in
theorem open_hosts {hval : Value.okWide Tryz.prog W .any base 29 v} (h : DataW.Trod enc Tryz.prog W 0 (fun _ => true) true 29 v d p) :
    ∃ A n c, v = .slice A n c ∧ ∃ l : List HV, l.length = n ∧ Lo W W.heap.size 5 (.slice A n c) n (l.flatMap hvC) ∧ ∀ x ∈ l, HoIn W x := by
  obtain ⟨a0, len0, cap0, rfl⟩ := okWide_slice Tryz.underlying29 hval
  obtain ⟨fuel, hfu⟩ := h
  obtain ⟨A, n, c, hcs, l, hl, hlo⟩ := open_cell (k := 5) Tryz.underlying29 (by kernel_rfl) (by decide) hfu (fun x : { x : HV // HoIn W x } => hvC x.1) (fun _ => rfl) (fun cs n y hl h => by
    match cs, hl with
    | [c0, c1, c2, c3, c4], _ =>
      obtain ⟨n0, y0, g0⟩ := field_read Tryz.underlying59 h (i := 0) rfl (k := 1) (c := [c0]) (by kernel_rfl) rfl
      obtain ⟨n1, y1, g1⟩ := field_read Tryz.underlying59 h (i := 1) rfl (k := 1) (c := [c1]) (by kernel_rfl) rfl
      obtain ⟨n2, y2, g2⟩ := field_read Tryz.underlying59 h (i := 2) rfl (k := 1) (c := [c2]) (by kernel_rfl) rfl
      obtain ⟨n3, y3, g3⟩ := field_read Tryz.underlying59 h (i := 3) rfl (k := 1) (c := [c3]) (by kernel_rfl) rfl
      obtain ⟨n4, y4, g4⟩ := field_read Tryz.underlying59 h (i := 4) rfl (k := 1) (c := [c4]) (by kernel_rfl) rfl
      obtain ⟨s0, e0, -, -⟩ := DataW.trod_string Tryz.underlying9 g0
      obtain ⟨s1, e1, -, -⟩ := DataW.trod_string Tryz.underlying9 g1
      obtain ⟨s2, e2, -, -⟩ := DataW.trod_string Tryz.underlying9 g2
      obtain ⟨ta, tn, tc, e3, ts, hts, hlo3⟩ := open_cell (k := 1) Tryz.underlying57 (by kernel_rfl) (by decide) g3 (fun x : Int => [Value.int .i64 x]) (fun _ => rfl) (fun cs n y hl h => by
        obtain ⟨b, e, -, -⟩ := DataW.trod_int Tryz.underlying2 h
        exact ⟨b, e⟩)
      obtain ⟨b4, e4, -⟩ := DataW.trod_bool Tryz.underlying4 g4
      simp only [List.cons.injEq, and_true] at e0 e1 e2 e3 e4
      refine ⟨⟨⟨s0, s1, s2, ta, tn, tc, ts, b4⟩, hts, ?_⟩, by rw [e0, e1, e2, e3, e4]; rfl⟩
      rw [List.map_eq_flatMap]
      exact hlo3)
  have hv : Value.slice a0 len0 cap0 = .slice A n c := by simpa [Value.cells] using hcs
  refine ⟨A, n, c, hv, l.map (·.1), by rw [List.length_map]; exact hl, by rw [List.flatMap_map]; exact hlo, fun x hx => ?_⟩
  obtain ⟨y, -, rfl⟩ := List.mem_map.1 hx
  exact y.2
end
def crowdB (l : List HV) : Bool := decide (l.length ≤ 20) && l.all fun x => decide (x.toks.length ≤ 20)
theorem crowdB_true {l : List HV} (h : crowdB l = true) : l.length ≤ 20 ∧ ∀ x ∈ l, x.toks.length ≤ 20 := by
  unfold crowdB at h
  simp only [Bool.and_eq_true, decide_eq_true_eq, List.all_eq_true] at h
  exact h
set_option maxHeartbeats 2000000 in
set_option maxRecDepth 100000 in
theorem hcrowd_at {W : World} {ok : Nat → TypeId → Prop} {A : Option Addr} {n c : Nat} {l : List HV} (hs : SlK W ok 5 (.slice A n c) n (l.flatMap hvC)) (hl : l.length = n) (ht : ∀ x ∈ l, x.toks.length = x.tn ∧ x.tn ≤ 9223372036854775807) :
    Calls Tryz.prog 6 #[.slice A n c] W fun e W' => e = .returned (.bool (crowdB l)) ∧ W' = W := by
  by_cases h20 : 20 < n
  · have HC : Hid (crowdB l = false) := Lib.hid (by unfold crowdB; rw [hl, decide_eq_false (by omega)]; rfl)
    have hnm : n ≤ 9223372036854775807 := by obtain ⟨_, _, hv, h1, h2⟩ := hs.shape; cases hv; unfold maxLen at h2; omega
    clear hs hl ht
    go_enter Tryz.func6, Tryz.ntmps6
    go_wp2_with fail
    go_ret
    exact ⟨by rw [HC.out]; rfl, rfl⟩
  · have HS := Lib.hid hs
    have HL := Lib.hid hl
    have HT := Lib.hid ht
    clear hs hl ht
    go_enter Tryz.func6, Tryz.ntmps6
    go_wp2_with fail
    go_loopg [3] n (fun j vi wr => ∃ i : Nat, i + j = n ∧ vi = .int .i64 i ∧ (∀ x ∈ l.take i, x.toks.length ≤ 20) ∧ wr = W)
    case atStart => exact ⟨0, by omega, rfl, fun x hx => by simp at hx, rfl⟩
    case round =>
      obtain ⟨i, hij, rfl, hT, rfl⟩ := hrel
      have HIJ := Lib.hid hij
      have HTT := Lib.hid hT
      by_cases hi : i < n
      · obtain ⟨x, hx⟩ : ∃ x, l[i]? = some x := ⟨_, List.getElem?_eq_getElem (by have := HL.out; omega)⟩
        obtain ⟨gr, off, hidx, y3⟩ : ∃ gr off, (∀ kd w', (Instr.indexAt 29 (.slice A n c) (.int kd (i : Int))).run Tryz.prog w' = .ok (.pointer (some ⟨gr, off, none⟩)) w') ∧ wr.cell? ⟨gr, off + 3, none⟩ = some (.slice x.ta x.tn x.tc) := by
          obtain ⟨gr, off, h1, _, _, h3⟩ := HS.out.run_index hostsT (i := (i : Int)) (k := i) rfl hi
          exact ⟨gr, off, h1, h3 3 _ ((flat_get (k := 5) (fun _ => rfl) l i 3 x hx (by decide)).trans rfl)⟩
        obtain ⟨hx1, hx2⟩ := HT.out x (List.mem_of_getElem? hx)
        by_cases h2 : 20 < x.tn
        · have HC : Hid (crowdB l = false) := Lib.hid (by
            unfold crowdB
            rw [Bool.and_eq_false_iff]
            refine .inr ?_
            rw [List.all_eq_false]
            exact ⟨x, List.mem_of_getElem? hx, by simp; omega⟩)
          clear hij hT hx hx1
          go_wp2_with fail
          go_ret
          exact ⟨by rw [HC.out]; rfl, rfl⟩
        · have HN : Hid (∀ x ∈ l.take (i + 1), x.toks.length ≤ 20) := Lib.hid fun y hy => by
            rw [List.take_add_one, hx] at hy
            rcases List.mem_append.1 hy with hy | hy
            · exact hT y hy
            · simp at hy; subst hy; omega
          clear hij hT hx hx1
          go_wp2_with fail
          go_roundg (n - (i + 1))
          case measure => have := HIJ.out; omega
          case rel => exact ⟨i + 1, by have := HIJ.out; omega, by go_num, HN.out, rfl⟩
      · obtain rfl : i = n := by omega
        have HC : Hid (crowdB l = true) := Lib.hid (by
          unfold crowdB
          rw [Bool.and_eq_true]
          refine ⟨decide_eq_true (by have := HL.out; omega), List.all_eq_true.2 fun x hx => decide_eq_true (hT x ?_)⟩
          rw [List.take_of_length_le (by have := HL.out; omega)]
          exact hx)
        clear hij hT
        go_wp2_with fail
        go_ret
        exact ⟨by rw [HC.out]; rfl, rfl⟩
end Go.Proofs.YtjkmgpmknadhjaaGreat

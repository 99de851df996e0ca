/- Chapter 18's reference: less, Find, tidy. -/
import Derived.Test.YtjkmgpmknadhjaaGreatHoTab
namespace Go.Proofs.YtjkmgpmknadhjaaGreat
set_option linter.unusedVariables false
open Go.RowKit
open Go.ChangeMaps (setBlock)

theorem lt_common {p x y : List UInt8} : p ++ x < p ++ y ↔ x < y := by
  induction p with
  | nil => rfl
  | cons a p ih =>
    rw [List.cons_append, List.cons_append, List.cons_lt_cons_iff]
    constructor
    · rintro (h | ⟨_, h⟩)
      · exact absurd h (UInt8.lt_irrefl _)
      · exact ih.1 h
    · exact fun h => .inr ⟨rfl, ih.2 h⟩
theorem byte_drop (a : ByteArray) {i : Nat} (h : i < a.size) : a.data.toList.drop i = a[i] :: a.data.toList.drop (i + 1) := by
  rw [List.drop_eq_getElem_cons (by simpa using h)]; rfl
theorem less_at_ne {a b : ByteArray} {i : Nat} (he : a.data.toList.take i = b.data.toList.take i) (ha : i < a.size) (hb : i < b.size) (hne : a[i] ≠ b[i]) : decide (nlt a b) = decide (a[i] < b[i]) := by
  have h : nlt a b ↔ a[i] < b[i] := by
    rw [← nlt_iff]
    conv => lhs; rw [← List.take_append_drop i a.data.toList, ← List.take_append_drop i b.data.toList, he, lt_common, byte_drop a ha, byte_drop b hb, List.cons_lt_cons_iff]
    exact ⟨fun h => h.resolve_right fun e => hne e.1, .inl⟩
  by_cases h2 : nlt a b
  · rw [decide_eq_true h2, decide_eq_true (h.1 h2)]
  · rw [decide_eq_false h2, decide_eq_false fun e => h2 (h.2 e)]
theorem less_at_end {a b : ByteArray} {i : Nat} (he : a.data.toList.take i = b.data.toList.take i) (h : i = a.size ∨ i = b.size) (ha : i ≤ a.size) (hb : i ≤ b.size) : decide (nlt a b) = decide (a.size < b.size) := by
  have hal : a.data.toList.length = a.size := by simp
  have hbl : b.data.toList.length = b.size := by simp
  have h : nlt a b ↔ a.size < b.size := by
    rw [← nlt_iff]
    conv => lhs; rw [← List.take_append_drop i a.data.toList, ← List.take_append_drop i b.data.toList, he, lt_common]
    rcases h with h | h
    · rw [List.drop_eq_nil_of_le (show a.data.toList.length ≤ i by omega)]
      by_cases e : b.size = i
      · rw [List.drop_eq_nil_of_le (by omega)]
        exact ⟨fun h => absurd h (List.lt_irrefl _), fun h => by omega⟩
      · rw [byte_drop b (by omega)]
        exact ⟨fun _ => by omega, fun _ => List.nil_lt_cons _ _⟩
    · rw [List.drop_eq_nil_of_le (show b.data.toList.length ≤ i by omega)]
      exact ⟨fun h => absurd h (List.not_lt_nil _), fun h => by omega⟩
  by_cases h2 : nlt a b
  · rw [decide_eq_true h2, decide_eq_true (h.1 h2)]
  · rw [decide_eq_false h2, decide_eq_false fun e => h2 (h.2 e)]
theorem take_byte {a b : ByteArray} {i : Nat} (he : a.data.toList.take i = b.data.toList.take i) (ha : i < a.size) (hb : i < b.size) (h : a[i] = b[i]) : a.data.toList.take (i + 1) = b.data.toList.take (i + 1) := by
  rw [List.take_succ_eq_append_getElem (by simpa using ha), List.take_succ_eq_append_getElem (by simpa using hb), he]
  exact congrArg (fun c => b.data.toList.take i ++ [c]) h
set_option maxHeartbeats 4000000 in
set_option maxRecDepth 100000 in
theorem R18less_at (a b : ByteArray) (w : World) (ha : a.size ≤ 9223372036854775807) (hb : b.size ≤ 9223372036854775807) : Calls Tryz.prog 25 #[.string a, .string b] w fun e w' => e = .returned (.bool (decide (nlt a b))) ∧ ∃ n, w' = w.drewN n := by
  go_enter Tryz.func25, Tryz.ntmps25
  go_wp2_with fail
  go_loopg [5] a.size (fun j vi wr => ∃ i n : Nat, i + j = a.size ∧ vi = .int .i64 i ∧ i ≤ b.size ∧ Hid (a.data.toList.take i = b.data.toList.take i) ∧ wr = w.drewN n)
  case atStart => exact ⟨0, 0, by omega, rfl, by omega, Lib.hid rfl, rfl⟩
  case round =>
    obtain ⟨i, n, hij, rfl, hib, HE, rfl⟩ := hrel
    have HIJ := Lib.hid hij
    by_cases h1 : i < a.size
    · by_cases h2 : i < b.size
      · clear hij
        by_cases h3 : a[i] = b[i]
        · have HE2 := Lib.hid (take_byte HE.out h1 h2 h3)
          have hbn : ((a[i].toNat : Int) != (b[i].toNat : Int)) = false := by rw [h3]; simp
          clear h3
          go_wp2_with fail
          go_quiet (fail)
          go_wp2_with fail
          go_roundg (a.size - (i + 1))
          case measure => have := HIJ.out; omega
          case rel => exact ⟨i + 1, n + nq, by have := HIJ.out; omega, by go_num, by omega, HE2, rfl⟩
        · have HR := Lib.hid (less_at_ne HE.out h1 h2 h3)
          have hbn : ((a[i].toNat : Int) != (b[i].toNat : Int)) = true := by
            rw [bne_iff_ne]; intro e; exact h3 (UInt8.toNat_inj.1 (by omega))
          clear h3
          go_wp2_with fail
          go_quiet (fail)
          go_wp2_with fail
          go_quiet (fail)
          go_wp2_with fail
          go_ret
          exact ⟨by rw [HR.out]; rfl, _, by rw [World.drewN_drewN, World.drewN_drewN]⟩
      · obtain rfl : i = b.size := by omega
        have HR := Lib.hid (less_at_end HE.out (.inr rfl) (by omega) (by omega))
        clear hij
        go_wp2_with fail
        go_ret
        exact ⟨by rw [HR.out]; rfl, _, rfl⟩
    · obtain rfl : i = a.size := by omega
      have HR := Lib.hid (less_at_end HE.out (.inl rfl) (by omega) hib)
      clear hij
      go_wp2_with fail
      go_ret
      exact ⟨by rw [HR.out]; rfl, _, rfl⟩
/-! Hosts as the reference has them. -/
/-- A row of hosts, read: its block and those of its tokens are of 'ok'. -/
def RL (W : World) (ok : Nat → Prop) (A : Option Addr) (n c : Nat) (l : List HV) (S : List Ho) : Prop :=
  l.map HV.abs = S ∧ S.length = n ∧ SlK W (fun k _ => ok k) 5 (.slice A n c) n (l.flatMap hvC) ∧ ∀ x ∈ l, SlK W (fun k _ => ok k) 1 (.slice x.ta x.tn x.tc) x.tn (x.toks.map (Value.int .i64))
section
variable {W W' : World} {ok ok' : Nat → Prop} {A : Option Addr} {n c : Nat} {l : List HV} {S : List Ho} {R : Nat → Prop}
theorem RL.kept (h : RL W ok A n c l S) (hk : Kept R W W') (hR : ∀ k, ok k → ¬ R k) : RL W' ok A n c l S := ⟨h.1, h.2.1, h.2.2.1.keptAll hk fun k _ e => hR k e, fun x hx => (h.2.2.2 x hx).keptAll hk fun k _ e => hR k e⟩
theorem RL.keptN (h : RL W ok A n c l S) (hk : Kept noBlock W W') : RL W' ok A n c l S := h.kept hk fun _ _ e => e
theorem RL.wide (h : RL W ok A n c l S) (ho : ∀ k, k < W.heap.size → ok k → ok' k) : RL W ok' A n c l S := ⟨h.1, h.2.1, h.2.2.1.any fun k _ hk e => ho k hk e, fun x hx => (h.2.2.2 x hx).any fun k _ hk e => ho k hk e⟩
theorem h18sT : SlT Tryz.prog 26 67 (.agg #[.string noStr, .string noStr, .string noStr, .slice none 0 0, .bool false]) 5 80 := ⟨by kernel_rfl, by kernel_rfl, rfl, by decide, by decide⟩
/-- A host of the row. -/
theorem RL.at (h : RL W ok A n c l S) {i : Nat} {o : Ho} (hi : S[i]? = some o) :
    ∃ (x : HV) (g off : Nat), l[i]? = some x ∧ x.abs = o ∧ (∀ kd w', (Instr.indexAt 26 (.slice A n c) (.int kd (i : Int))).run Tryz.prog w' = .ok (.pointer (some ⟨g, off, none⟩)) w') ∧
      W.cell? ⟨g, off, none⟩ = some (.string o.name) ∧ W.cell? ⟨g, off + 1, none⟩ = some (.string o.dc) ∧ W.cell? ⟨g, off + 2, none⟩ = some (.string o.rack) ∧ W.cell? ⟨g, off + 3, none⟩ = some (.slice x.ta x.tn x.tc) ∧ W.cell? ⟨g, off + 4, none⟩ = some (.bool o.up) ∧
      x.tn = o.toks.length ∧ SlK W (fun k _ => ok k) 1 (.slice x.ta x.tn x.tc) x.tn (o.toks.map (Value.int .i64)) := by
  obtain ⟨h1, h2, h3, h4⟩ := h
  rw [← h1, List.getElem?_map] at hi
  obtain ⟨x, hx, rfl⟩ := Option.map_eq_some_iff.1 hi
  have hlt : i < n := by
    have := (List.getElem?_eq_some_iff.1 hx).1
    rw [← h2, ← h1, List.length_map]; exact this
  obtain ⟨g, off, q1, -, -, q3⟩ := h3.run_index h18sT (i := (i : Int)) (k := i) rfl hlt
  have q4 := h4 x (List.mem_of_getElem? hx)
  have q5 := q4.len
  rw [List.length_map, Nat.mul_one] at q5
  refine ⟨x, g, off, hx, rfl, q1, q3 0 _ ?_, q3 1 _ ?_, q3 2 _ ?_, q3 3 _ ?_, q3 4 _ ?_, q5.symm, q4⟩ <;> exact (flat_get (k := 5) (fun _ => rfl) l i _ x hx (by decide)).trans rfl
/-- Where a host stands. -/
def findI (S : List Ho) (x : ByteArray) : Nat := S.findIdx fun o => decide (o.name = x)
theorem findI_lt {S : List Ho} {x : ByteArray} {i : Nat} {o : Ho} (h : i < findI S x) (ho : S[i]? = some o) : o.name ≠ x := by
  have h1 := List.not_of_lt_findIdx h
  have h2 := (List.getElem?_eq_some_iff.1 ho).2
  rw [h2] at h1
  simpa using h1
theorem findI_le (S : List Ho) (x : ByteArray) : findI S x ≤ S.length := List.findIdx_le_length
theorem findI_at {S : List Ho} {x : ByteArray} {o : Ho} (h : S[findI S x]? = some o) : o.name = x := by
  obtain ⟨h1, h2⟩ := List.getElem?_eq_some_iff.1 h
  have h3 := List.findIdx_getElem (w := h1)
  have h4 : decide (S[findI S x].name = x) = true := h3
  rw [h2] at h4
  simpa using h4
theorem findI_get (S : List Ho) (x : ByteArray) : getS x S = S[findI S x]? := by
  unfold getS findI
  induction S with
  | nil => rfl
  | cons a S ih =>
    rw [List.find?_cons, List.findIdx_cons]
    by_cases e : a.name = x
    · rw [decide_eq_true e]; rfl
    · rw [decide_eq_false e]
      exact ih
/-- What Find tells. -/
def findV (S : List Ho) (x : ByteArray) : Int := if findI S x < S.length then (findI S x : Int) else -1
set_option maxHeartbeats 4000000 in
set_option maxRecDepth 100000 in
theorem R18find_at (h : RL W ok A n c l S) (x : ByteArray) : Calls Tryz.prog 21 #[.slice A n c, .string x] W fun e w' => e = .returned (.int .i64 (findV S x)) ∧ W = w' := by
  have H := Lib.hid h
  have HN := Lib.hid h.2.1
  have hn : n ≤ 9223372036854775807 := by obtain ⟨_, _, hv, h1, h2⟩ := h.2.2.1.shape; cases hv; unfold maxLen at h2; omega
  have hle := findI_le S x
  have HLE := Lib.hid hle
  clear h hle
  go_enter Tryz.func21, Tryz.ntmps21
  go_wp2_with fail
  go_loopg [5] n (fun j vi wr => ∃ i : Nat, i + j = n ∧ vi = .int .i64 i ∧ i ≤ findI S x ∧ wr = W)
  case atStart => exact ⟨0, by omega, rfl, by omega, rfl⟩
  case round =>
    obtain ⟨i, hij, rfl, hif, rfl⟩ := hrel
    have HIJ := Lib.hid hij
    by_cases hi : i < n
    · obtain ⟨o, ho⟩ : ∃ o, S[i]? = some o := ⟨_, List.getElem?_eq_getElem (by have := HN.out; omega)⟩
      obtain ⟨y, g, off, -, -, hidx, z0, -, -, -, -, -, -⟩ := H.out.at ho
      by_cases e : i = findI S x
      · have HE : Hid (findV S x = (i : Int)) := Lib.hid (by unfold findV; rw [← e, if_pos (by have := HN.out; omega)])
        have hon : o.name = x := findI_at (by rw [← e]; exact ho)
        have hb : (o.name.toList == x.toList) = true := by rw [hon]; exact strEq_self _
        clear hij hif ho e hon
        go_wp2_with fail
        go_ret
        exact ⟨by rw [HE.out]; rfl, rfl⟩
      · have hlt : i < findI S x := by omega
        have hb : (o.name.toList == x.toList) = false := strEq_ne (findI_lt hlt ho)
        have HLT := Lib.hid hlt
        clear hij hif ho e hlt
        go_wp2_with fail
        go_roundg (n - (i + 1))
        case measure => have := HIJ.out; omega
        case rel => exact ⟨i + 1, by have := HIJ.out; omega, by go_num, HLT.out, rfl⟩
    · have HE : Hid (findV S x = -1) := Lib.hid (by unfold findV; rw [if_neg (by have := HN.out; have := HLE.out; omega)])
      clear hij hif
      go_wp2_with fail
      go_ret
      exact ⟨by rw [HE.out]; rfl, rfl⟩
end
end Go.Proofs.YtjkmgpmknadhjaaGreat

/- hosts: Refresh, told of a table by rising names · Chapter 18's reference: less, Find, tidy · Chapter 18's reference: tidy (written by gen/r18.py) · hosts, the reference: plain laws of its rows · The law's hostsOf · control.Hosts: the hosts that rows tell of · control, plainly: what an event does · control: New, Ask, Due, Table · control.Note: an event · control.Refresh: what was told, the own row and those of others. -/
import Derived.Test.YtdcdefkloibfnaaGreatDoorMg06
import Derived.Test.YtdcdefkloibfnaaGreatDoorMg02
import Derived.Test.YtdcdefkloibfnaaGreatDoorMg05
import Derived.Test.YtdcdefkloibfnaaGreatDoorMg04
namespace Go.Proofs.YtdcdefkloibfnaaGreatDoor
set_option linter.unusedVariables false
open Go.RowKit
open Go.ChangeMaps (setBlock)

/-- The view of hosts by their names. -/
def viewS (S : List Ho) : View := fun x => getS x S
theorem tidy_len (l : List Int) : (tidyP l).length ≤ l.length := nodup_leH ((tidy_spec l).1.imp fun h e => by omega) fun x hx => ((tidy_spec l).2 x).1 hx
theorem refNow_mem {V : View} {l : List Ho} {o : Ho} (h : o ∈ refNow V l) : ∃ a ∈ l, o = updH V a ∧ a.name ≠ noStr := by
  have h1 := refNow_spec V l
  have h2 := getS_of_mem (rising_ne h1.1) h
  rw [h1.2] at h2
  have h3 := refr_name h2
  unfold refr at h2
  rw [if_neg h3.2] at h2
  obtain ⟨a, ha, rfl⟩ := Option.map_eq_some_iff.1 h2
  exact ⟨a, getS_mem ha, rfl, by rw [getS_name ha]; exact h3.2⟩
theorem refNow_len (V : View) (l : List Ho) : (refNow V l).length ≤ l.length := by
  have h1 := refNow_spec V l
  have := nodup_leH (A := (refNow V l).map (·.name)) (B := l.map (·.name)) (List.pairwise_map.2 (rising_ne h1.1)) fun x hx => by
    obtain ⟨o, ho, rfl⟩ := List.mem_map.1 hx
    obtain ⟨a, ha, rfl, _⟩ := refNow_mem ho
    exact List.mem_map.2 ⟨a, ha, rfl⟩
  rwa [List.length_map, List.length_map] at this
/-- Hosts as a table has them. -/
structure HoOk (S : List Ho) (a b : Nat) : Prop where
  ris : risingH S
  len : S.length ≤ a
  nm : ∀ o ∈ S, o.name ≠ noStr
  up : ∀ o ∈ S, o.toks.Pairwise (· < ·)
  tk : ∀ o ∈ S, o.toks.length ≤ b
theorem HoOk.pairs {S : List Ho} {a b : Nat} (h : HoOk S a b) : (pairsH S).length ≤ a * b := Nat.le_trans (pairs_le h.tk) (Nat.mul_le_mul_right b h.len)
theorem refNow_ok {V : View} {l : List Ho} {a b : Nat} (h1 : l.length ≤ a) (h2 : ∀ o ∈ l, o.toks.length ≤ b) : HoOk (refNow V l) a b where
  ris := (refNow_spec V l).1
  len := Nat.le_trans (refNow_len V l) h1
  nm := fun o ho => by obtain ⟨x, hx, rfl, hn⟩ := refNow_mem ho; exact hn
  up := fun o ho => by obtain ⟨x, hx, rfl, hn⟩ := refNow_mem ho; exact (tidy_spec _).1
  tk := fun o ho => by obtain ⟨x, hx, rfl, hn⟩ := refNow_mem ho; exact Nat.le_trans (tidy_len _) (h2 x hx)
theorem HoOk.mark {S : List Ho} {a b : Nat} (h : HoOk S a b) (x : ByteArray) (up : Bool) : HoOk (markP S x up).1 a b := by
  unfold markP
  cases getS x S with
  | none => exact h
  | some o =>
    simp only []
    by_cases e : o.up = up
    · rw [if_pos e]; exact h
    · rw [if_neg e]
      have key : ∀ (P : Ho → Prop), (∀ o up, P o → P { o with up := up }) → (∀ o ∈ S, P o) → ∀ o ∈ S.map (fun o => if o.name = x then { o with up := up } else o), P o := fun P h1 h2 o ho => by
        obtain ⟨o', ho', rfl⟩ := List.mem_map.1 ho
        split
        · exact h1 _ _ (h2 o' ho')
        · exact h2 o' ho'
      exact ⟨mark_rising h.ris x up, by rw [List.length_map]; exact h.len, key (fun o => o.name ≠ noStr) (fun _ _ h => h) h.nm, key (fun o => o.toks.Pairwise (· < ·)) (fun _ _ h => h) h.up, key (fun o => o.toks.length ≤ b) (fun _ _ h => h) h.tk⟩
/-- What Refresh hands back. -/
def RefTold (w : World) (own : Nat → Prop) (g : Nat) (dc : ByteArray) (rem : Int) (S : List Ho) (l : List Ho) (e : Ending) (w' : World) : Prop :=
  ∃ A1 n1 c1 A2 n2 c2, e = .returned (.tuple #[.slice A1 n1 c1, .slice A2 n2 c2]) ∧ n1 = (addedP (viewS S) (refNow (viewS S) l)).length ∧ n2 = (goneP S (refNow (viewS S) l)).length ∧
    SlK w' (fun k _ => w.heap.size ≤ k ∧ ¬ ownI w' w.heap.size own k) 1 (.slice A1 n1 c1) n1 ((addedP (viewS S) (refNow (viewS S) l)).map Value.string) ∧ SlK w' (fun k _ => w.heap.size ≤ k ∧ ¬ ownI w' w.heap.size own k) 1 (.slice A2 n2 c2) n2 ((goneP S (refNow (viewS S) l)).map Value.string) ∧
    TabS w' (ownI w' w.heap.size own) g dc rem (refNow (viewS S) l) ∧ Kept own w w'
theorem hRefresh_tab {w : World} {own : Nat → Prop} {g : Nat} {dc : ByteArray} {rem : Int} {S : List Ho} {l : List HV} {A : Option Addr} {n c : Nat} (hT : TabS w own g dc rem S) (hS : S.length ≤ 100000)
    (hl : Lo w w.heap.size 5 (.slice A n c) n (l.flatMap hvC)) (hn : l.length = n) (hn2 : n ≤ 100000) (hk : ∀ x ∈ l, x.toks.length ≤ 1000000 ∧ SlK w (fun k _ => k < w.heap.size) 1 x.tv x.tn (x.toks.map (Value.int .i64))) :
    Calls Tryz.prog 49 #[.pointer (some ⟨g, 0, none⟩), .slice A n c] w (RefTold w own g dc rem S (l.map HV.abs)) := by
  obtain ⟨m, L, h1, h2, h3⟩ := hT
  have hL : L.length ≤ 100000 := by
    have := (tab_perm h1.nd h1.nm h2 h3).length_eq
    rw [List.length_map] at this
    omega
  refine (hRefresh_at h1 h3 hl hn hn2 hL hk).mono ?_
  rintro e w' ⟨va, vg, AD, G, L', rfl, ha, hg, hA, hG1, hG2, ht, hv, hkk⟩
  have hS' := refNow_spec (viewS S) (l.map HV.abs)
  have eA : sortN AD = addedP (viewS S) (refNow (viewS S) (l.map HV.abs)) := sortN_eq (rising_names hS'.1 _) hA.1 fun x => (hA.2 x).trans added_mem.symm
  have eG : sortN G = goneP S (refNow (viewS S) (l.map HV.abs)) := sortN_eq (rising_names h2 _) hG1 fun x => (hG2 x).trans (gone_mem h2).symm
  rw [eA] at ha
  rw [eG] at hg
  obtain ⟨A1, c1, rfl, -, -⟩ := (Sl.of_own ha).shape
  obtain ⟨A2, c2, rfl, -, -⟩ := (Sl.of_own hg).shape
  have hno : ∀ (k : Nat) (cs : Array Value) (e : TypeId) (fz : Nat × Nat), w'.heap[k]? = some (.cells cs e fz) → w.heap.size ≤ k ∧ e = 9 → w.heap.size ≤ k ∧ ¬ ownI w' w.heap.size own k := fun k cs e fz hh ho => ⟨ho.1, fun h => by
    rcases h with h | ⟨_, cs', fz', h⟩
    · have := h1.lt k h
      have := ho.1
      omega
    · rw [hh] at h
      injection h with h
      injection h with _ h
      rw [ho.2] at h
      exact absurd h (by decide)⟩
  exact ⟨A1, _, c1, A2, _, c2, rfl, rfl, rfl, (SlK.of_ownB ha).anyH hno, (SlK.of_ownB hg).anyH hno, ⟨m, L', ht, hS'.1, fun x => (hv x).trans (hS'.2 x).symm⟩, hkk.mono fun k _ e => e ▸ h1.om⟩
theorem hNew_tab (dc : ByteArray) (rem : Int) (w : World) : Calls Tryz.prog 37 #[.string dc, .int .i64 rem] w fun e w' => ∃ g own, e = .returned (.pointer (some ⟨g, 0, none⟩)) ∧ TabS w' own g dc rem [] ∧ (∀ k, own k → w.heap.size ≤ k ∧ k < w'.heap.size) ∧ Kept noBlock w w' :=
  (hNew_at dc rem w).mono fun e w' ⟨h1, h2, h3⟩ => ⟨_, _, h1, h2, fun k hk => ⟨by rcases hk with e | e <;> omega, by obtain ⟨_, _, h, _⟩ := h2; exact h.lt k hk⟩, h3⟩
theorem ownI_ge {w w' : World} {own : Nat → Prop} {B : Nat} (h : ∀ k, own k → B ≤ k) (hB : B ≤ w.heap.size) : ∀ k, ownI w' w.heap.size own k → B ≤ k := by
  rintro k (h1 | ⟨h1, _⟩)
  · exact h k h1
  · omega
theorem Kept.grew {w0 w w' : World} {own : Nat → Prop} (h : Kept noBlock w0 w) (hk : Kept own w w') (ho : ∀ k, own k → w0.heap.size ≤ k) : Kept noBlock w0 w' := h.trans hk fun k hlt e => absurd (ho k e) (by omega)
theorem TabS.lt {w : World} {own : Nat → Prop} {g : Nat} {dc : ByteArray} {rem : Int} {S : List Ho} (h : TabS w own g dc rem S) : ∀ k, own k → k < w.heap.size := by
  obtain ⟨_, _, h, _⟩ := h
  exact h.lt
theorem lt_of_cell {w : World} {p : Addr} {v : Value} (h : w.cell? p = some v) : p.block < w.heap.size := by
  unfold World.cell? at h
  split at h
  · rename_i hh; exact lt_of_heap hh
  · cases h
theorem Kept.cellOf {w w' : World} {p : Addr} {v : Value} (h : Kept noBlock w w') (hc : w.cell? p = some v) : w'.cell? p = some v := (h.cell (lt_of_cell hc) fun e => e).trans hc
theorem tok_at {w : World} {ok : Nat → TypeId → Prop} {A : Option Addr} {n c : Nat} {L : List Int} (h : SlK w ok 1 (.slice A n c) n (L.map (Value.int .i64))) {j : Nat} {t : Int} (hj : L[j]? = some t) :
    ∃ g off, (∀ kd w', (Instr.indexAt 92 (.slice A n c) (.int kd (j : Int))).run Tryz.prog w' = .ok (.pointer (some ⟨g, off, none⟩)) w') ∧ w.cell? ⟨g, off, none⟩ = some (.int .i64 t) := by
  have h3 := h.len
  rw [List.length_map, Nat.mul_one] at h3
  obtain ⟨g, off, h1, -, -, h2⟩ := h.run_index i64sT (i := (j : Int)) (k := j) rfl (by have := (List.getElem?_eq_some_iff.1 hj).1; omega)
  exact ⟨g, off, h1, h2 0 _ (by rw [Nat.mul_one, Nat.add_zero, List.getElem?_map, hj]; rfl)⟩
/-- A told host's cells. -/
theorem Told.at {w w' : World} {A : Option Addr} {n c : Nat} {T : List HV} {S : List Ho} (h : Told w w' A n c T S) {i : Nat} {o : Ho} (hi : S[i]? = some o) :
    ∃ (x : HV) (g off : Nat), T[i]? = some x ∧ x.abs = o ∧ (∀ kd w', (Instr.indexAt 31 (.slice A n c) (.int kd (i : Int))).run Tryz.prog w' = .ok (.pointer (some ⟨g, off, none⟩)) w') ∧
      w'.cell? ⟨g, off, none⟩ = some (.string o.name) ∧ w'.cell? ⟨g, off + 1, none⟩ = some (.string o.dc) ∧ w'.cell? ⟨g, off + 2, none⟩ = some (.string o.rack) ∧ w'.cell? ⟨g, off + 3, none⟩ = some (.slice x.ta x.tn x.tc) ∧ w'.cell? ⟨g, off + 4, none⟩ = some (.bool o.up) := by
  rw [← h.abs, List.getElem?_map] at hi
  obtain ⟨x, hx, rfl⟩ := Option.map_eq_some_iff.1 hi
  obtain ⟨g, cap, off, hv, -, -, -, h1, y0, y1, y2, y3, y4⟩ := ownH_at h.row hx
  cases hv
  exact ⟨x, g, off, hx, rfl, h1, y0, y1, y2, y3, y4⟩
theorem Told.slen {w w' : World} {A : Option Addr} {n c : Nat} {T : List HV} {S : List Ho} (h : Told w w' A n c T S) : S.length = n := by rw [← h.abs, List.length_map, h.len]
theorem Told.keptN {w w' w2 : World} {A : Option Addr} {n c : Nat} {T : List HV} {S : List Ho} (h : Told w w' A n c T S) (hk : Kept noBlock w' w2) : Told w w2 A n c T S := h.kept hk fun _ _ e => e
end Go.Proofs.YtdcdefkloibfnaaGreatDoor
namespace Go.Proofs.YtdcdefkloibfnaaGreatDoor
set_option linter.unusedVariables false
open Go.RowKit
open Go.ChangeMaps (setBlock)

theorem lt_common {p x y : List UInt8} : p ++ x < p ++ y ↔ x < y := by
  induction p with
  | nil => rfl
  | cons a p ih =>
    rw [List.cons_append, List.cons_append, List.cons_lt_cons_iff]
    constructor
    · rintro (h | ⟨_, h⟩)
      · exact absurd h (UInt8.lt_irrefl _)
      · exact ih.1 h
    · exact fun h => .inr ⟨rfl, ih.2 h⟩
theorem byte_drop (a : ByteArray) {i : Nat} (h : i < a.size) : a.data.toList.drop i = a[i] :: a.data.toList.drop (i + 1) := by
  rw [List.drop_eq_getElem_cons (by simpa using h)]; rfl
theorem less_at_ne {a b : ByteArray} {i : Nat} (he : a.data.toList.take i = b.data.toList.take i) (ha : i < a.size) (hb : i < b.size) (hne : a[i] ≠ b[i]) : decide (nlt a b) = decide (a[i] < b[i]) := by
  have h : nlt a b ↔ a[i] < b[i] := by
    rw [← nlt_iff]
    conv => lhs; rw [← List.take_append_drop i a.data.toList, ← List.take_append_drop i b.data.toList, he, lt_common, byte_drop a ha, byte_drop b hb, List.cons_lt_cons_iff]
    exact ⟨fun h => h.resolve_right fun e => hne e.1, .inl⟩
  by_cases h2 : nlt a b
  · rw [decide_eq_true h2, decide_eq_true (h.1 h2)]
  · rw [decide_eq_false h2, decide_eq_false fun e => h2 (h.2 e)]
theorem less_at_end {a b : ByteArray} {i : Nat} (he : a.data.toList.take i = b.data.toList.take i) (h : i = a.size ∨ i = b.size) (ha : i ≤ a.size) (hb : i ≤ b.size) : decide (nlt a b) = decide (a.size < b.size) := by
  have hal : a.data.toList.length = a.size := by simp
  have hbl : b.data.toList.length = b.size := by simp
  have h : nlt a b ↔ a.size < b.size := by
    rw [← nlt_iff]
    conv => lhs; rw [← List.take_append_drop i a.data.toList, ← List.take_append_drop i b.data.toList, he, lt_common]
    rcases h with h | h
    · rw [List.drop_eq_nil_of_le (show a.data.toList.length ≤ i by omega)]
      by_cases e : b.size = i
      · rw [List.drop_eq_nil_of_le (by omega)]
        exact ⟨fun h => absurd h (List.lt_irrefl _), fun h => by omega⟩
      · rw [byte_drop b (by omega)]
        exact ⟨fun _ => by omega, fun _ => List.nil_lt_cons _ _⟩
    · rw [List.drop_eq_nil_of_le (show b.data.toList.length ≤ i by omega)]
      exact ⟨fun h => absurd h (List.not_lt_nil _), fun h => by omega⟩
  by_cases h2 : nlt a b
  · rw [decide_eq_true h2, decide_eq_true (h.1 h2)]
  · rw [decide_eq_false h2, decide_eq_false fun e => h2 (h.2 e)]
theorem take_byte {a b : ByteArray} {i : Nat} (he : a.data.toList.take i = b.data.toList.take i) (ha : i < a.size) (hb : i < b.size) (h : a[i] = b[i]) : a.data.toList.take (i + 1) = b.data.toList.take (i + 1) := by
  rw [List.take_succ_eq_append_getElem (by simpa using ha), List.take_succ_eq_append_getElem (by simpa using hb), he]
  exact congrArg (fun c => b.data.toList.take i ++ [c]) h
set_option maxHeartbeats 4000000 in
set_option maxRecDepth 100000 in
theorem R18less_at (a b : ByteArray) (w : World) (ha : a.size ≤ 9223372036854775807) (hb : b.size ≤ 9223372036854775807) : Calls Tryz.prog 87 #[.string a, .string b] w fun e w' => e = .returned (.bool (decide (nlt a b))) ∧ ∃ n, w' = w.drewN n := by
  go_enter Tryz.func87, Tryz.ntmps87
  go_wp2_with fail
  go_loopg [5] a.size (fun j vi wr => ∃ i n : Nat, i + j = a.size ∧ vi = .int .i64 i ∧ i ≤ b.size ∧ Hid (a.data.toList.take i = b.data.toList.take i) ∧ wr = w.drewN n)
  case atStart => exact ⟨0, 0, by omega, rfl, by omega, Lib.hid rfl, rfl⟩
  case round =>
    obtain ⟨i, n, hij, rfl, hib, HE, rfl⟩ := hrel
    have HIJ := Lib.hid hij
    by_cases h1 : i < a.size
    · by_cases h2 : i < b.size
      · clear hij
        by_cases h3 : a[i] = b[i]
        · have HE2 := Lib.hid (take_byte HE.out h1 h2 h3)
          have hbn : ((a[i].toNat : Int) != (b[i].toNat : Int)) = false := by rw [h3]; simp
          clear h3
          go_wp2_with fail
          go_quiet (fail)
          go_wp2_with fail
          go_roundg (a.size - (i + 1))
          case measure => have := HIJ.out; omega
          case rel => exact ⟨i + 1, n + nq, by have := HIJ.out; omega, by go_num, by omega, HE2, rfl⟩
        · have HR := Lib.hid (less_at_ne HE.out h1 h2 h3)
          have hbn : ((a[i].toNat : Int) != (b[i].toNat : Int)) = true := by
            rw [bne_iff_ne]; intro e; exact h3 (UInt8.toNat_inj.1 (by omega))
          clear h3
          go_wp2_with fail
          go_quiet (fail)
          go_wp2_with fail
          go_quiet (fail)
          go_wp2_with fail
          go_ret
          exact ⟨by rw [HR.out]; rfl, _, by rw [World.drewN_drewN, World.drewN_drewN]⟩
      · obtain rfl : i = b.size := by omega
        have HR := Lib.hid (less_at_end HE.out (.inr rfl) (by omega) (by omega))
        clear hij
        go_wp2_with fail
        go_ret
        exact ⟨by rw [HR.out]; rfl, _, rfl⟩
    · obtain rfl : i = a.size := by omega
      have HR := Lib.hid (less_at_end HE.out (.inl rfl) (by omega) hib)
      clear hij
      go_wp2_with fail
      go_ret
      exact ⟨by rw [HR.out]; rfl, _, rfl⟩
/-! Hosts as the reference has them. -/
/-- A row of hosts, read: its block and those of its tokens are of 'ok'. -/
def RL (W : World) (ok : Nat → Prop) (A : Option Addr) (n c : Nat) (l : List HV) (S : List Ho) : Prop :=
  l.map HV.abs = S ∧ S.length = n ∧ SlK W (fun k _ => ok k) 5 (.slice A n c) n (l.flatMap hvC) ∧ ∀ x ∈ l, SlK W (fun k _ => ok k) 1 (.slice x.ta x.tn x.tc) x.tn (x.toks.map (Value.int .i64))
section
variable {W W' : World} {ok ok' : Nat → Prop} {A : Option Addr} {n c : Nat} {l : List HV} {S : List Ho} {R : Nat → Prop}
theorem RL.kept (h : RL W ok A n c l S) (hk : Kept R W W') (hR : ∀ k, ok k → ¬ R k) : RL W' ok A n c l S := ⟨h.1, h.2.1, h.2.2.1.keptAll hk fun k _ e => hR k e, fun x hx => (h.2.2.2 x hx).keptAll hk fun k _ e => hR k e⟩
theorem RL.keptN (h : RL W ok A n c l S) (hk : Kept noBlock W W') : RL W' ok A n c l S := h.kept hk fun _ _ e => e
theorem RL.wide (h : RL W ok A n c l S) (ho : ∀ k, k < W.heap.size → ok k → ok' k) : RL W ok' A n c l S := ⟨h.1, h.2.1, h.2.2.1.any fun k _ hk e => ho k hk e, fun x hx => (h.2.2.2 x hx).any fun k _ hk e => ho k hk e⟩
theorem h18sT : SlT Tryz.prog 35 106 (.agg #[.string noStr, .string noStr, .string noStr, .slice none 0 0, .bool false]) 5 80 := ⟨by kernel_rfl, by kernel_rfl, rfl, by decide, by decide⟩
/-- A host of the row. -/
theorem RL.at (h : RL W ok A n c l S) {i : Nat} {o : Ho} (hi : S[i]? = some o) :
    ∃ (x : HV) (g off : Nat), l[i]? = some x ∧ x.abs = o ∧ (∀ kd w', (Instr.indexAt 35 (.slice A n c) (.int kd (i : Int))).run Tryz.prog w' = .ok (.pointer (some ⟨g, off, none⟩)) w') ∧
      W.cell? ⟨g, off, none⟩ = some (.string o.name) ∧ W.cell? ⟨g, off + 1, none⟩ = some (.string o.dc) ∧ W.cell? ⟨g, off + 2, none⟩ = some (.string o.rack) ∧ W.cell? ⟨g, off + 3, none⟩ = some (.slice x.ta x.tn x.tc) ∧ W.cell? ⟨g, off + 4, none⟩ = some (.bool o.up) ∧
      x.tn = o.toks.length ∧ SlK W (fun k _ => ok k) 1 (.slice x.ta x.tn x.tc) x.tn (o.toks.map (Value.int .i64)) := by
  obtain ⟨h1, h2, h3, h4⟩ := h
  rw [← h1, List.getElem?_map] at hi
  obtain ⟨x, hx, rfl⟩ := Option.map_eq_some_iff.1 hi
  have hlt : i < n := by
    have := (List.getElem?_eq_some_iff.1 hx).1
    rw [← h2, ← h1, List.length_map]; exact this
  obtain ⟨g, off, q1, -, -, q3⟩ := h3.run_index h18sT (i := (i : Int)) (k := i) rfl hlt
  have q4 := h4 x (List.mem_of_getElem? hx)
  have q5 := q4.len
  rw [List.length_map, Nat.mul_one] at q5
  refine ⟨x, g, off, hx, rfl, q1, q3 0 _ ?_, q3 1 _ ?_, q3 2 _ ?_, q3 3 _ ?_, q3 4 _ ?_, q5.symm, q4⟩ <;> exact (flat_get (k := 5) (fun _ => rfl) l i _ x hx (by decide)).trans rfl
/-- Where a host stands. -/
def findI (S : List Ho) (x : ByteArray) : Nat := S.findIdx fun o => decide (o.name = x)
theorem findI_lt {S : List Ho} {x : ByteArray} {i : Nat} {o : Ho} (h : i < findI S x) (ho : S[i]? = some o) : o.name ≠ x := by
  have h1 := List.not_of_lt_findIdx h
  have h2 := (List.getElem?_eq_some_iff.1 ho).2
  rw [h2] at h1
  simpa using h1
theorem findI_le (S : List Ho) (x : ByteArray) : findI S x ≤ S.length := List.findIdx_le_length
theorem findI_at {S : List Ho} {x : ByteArray} {o : Ho} (h : S[findI S x]? = some o) : o.name = x := by
  obtain ⟨h1, h2⟩ := List.getElem?_eq_some_iff.1 h
  have h3 := List.findIdx_getElem (w := h1)
  have h4 : decide (S[findI S x].name = x) = true := h3
  rw [h2] at h4
  simpa using h4
theorem findI_get (S : List Ho) (x : ByteArray) : getS x S = S[findI S x]? := by
  unfold getS findI
  induction S with
  | nil => rfl
  | cons a S ih =>
    rw [List.find?_cons, List.findIdx_cons]
    by_cases e : a.name = x
    · rw [decide_eq_true e]; rfl
    · rw [decide_eq_false e]
      exact ih
/-- What Find tells. -/
def findV (S : List Ho) (x : ByteArray) : Int := if findI S x < S.length then (findI S x : Int) else -1
set_option maxHeartbeats 4000000 in
set_option maxRecDepth 100000 in
theorem R18find_at (h : RL W ok A n c l S) (x : ByteArray) : Calls Tryz.prog 85 #[.slice A n c, .string x] W fun e w' => e = .returned (.int .i64 (findV S x)) ∧ W = w' := by
  have H := Lib.hid h
  have HN := Lib.hid h.2.1
  have hn : n ≤ 9223372036854775807 := by obtain ⟨_, _, hv, h1, h2⟩ := h.2.2.1.shape; cases hv; unfold maxLen at h2; omega
  have hle := findI_le S x
  have HLE := Lib.hid hle
  clear h hle
  go_enter Tryz.func85, Tryz.ntmps85
  go_wp2_with fail
  go_loopg [5] n (fun j vi wr => ∃ i : Nat, i + j = n ∧ vi = .int .i64 i ∧ i ≤ findI S x ∧ wr = W)
  case atStart => exact ⟨0, by omega, rfl, by omega, rfl⟩
  case round =>
    obtain ⟨i, hij, rfl, hif, rfl⟩ := hrel
    have HIJ := Lib.hid hij
    by_cases hi : i < n
    · obtain ⟨o, ho⟩ : ∃ o, S[i]? = some o := ⟨_, List.getElem?_eq_getElem (by have := HN.out; omega)⟩
      obtain ⟨y, g, off, -, -, hidx, z0, -, -, -, -, -, -⟩ := H.out.at ho
      by_cases e : i = findI S x
      · have HE : Hid (findV S x = (i : Int)) := Lib.hid (by unfold findV; rw [← e, if_pos (by have := HN.out; omega)])
        have hon : o.name = x := findI_at (by rw [← e]; exact ho)
        have hb : (o.name.toList == x.toList) = true := by rw [hon]; exact strEq_self _
        clear hij hif ho e hon
        go_wp2_with fail
        go_ret
        exact ⟨by rw [HE.out]; rfl, rfl⟩
      · have hlt : i < findI S x := by omega
        have hb : (o.name.toList == x.toList) = false := strEq_ne (findI_lt hlt ho)
        have HLT := Lib.hid hlt
        clear hij hif ho e hlt
        go_wp2_with fail
        go_roundg (n - (i + 1))
        case measure => have := HIJ.out; omega
        case rel => exact ⟨i + 1, by have := HIJ.out; omega, by go_num, HLT.out, rfl⟩
    · have HE : Hid (findV S x = -1) := Lib.hid (by unfold findV; rw [if_neg (by have := HN.out; have := HLE.out; omega)])
      clear hij hif
      go_wp2_with fail
      go_ret
      exact ⟨by rw [HE.out]; rfl, rfl⟩
end
end Go.Proofs.YtdcdefkloibfnaaGreatDoor
namespace Go.Proofs.YtdcdefkloibfnaaGreatDoor
set_option linter.unusedVariables false
open Go.RowKit
open Go.ChangeMaps (setBlock)

set_option maxHeartbeats 8000000 in
set_option maxRecDepth 100000 in
theorem R18tidy_at {w : World} {ok : Nat → TypeId → Prop} {A : Option Addr} {n c : Nat} {l : List Int} (h : SlK w ok 1 (.slice A n c) n (l.map (Value.int .i64))) (hn : n ≤ 1000000) :
    Calls Tryz.prog 86 #[.slice A n c] w fun e w' => ∃ A' k c', e = .returned (.slice A' k c') ∧ SlK w' (fun b _ => w.heap.size ≤ b) 1 (.slice A' k c') k ((tidyP l).map (Value.int .i64)) ∧ Kept noBlock w w' := by
  have hl : l.length = n := by have := h.len; rw [List.length_map, Nat.mul_one] at this; exact this
  have HL := Lib.hid hl
  have H := Lib.hid h
  clear hl h
  go_enter Tryz.func86, Tryz.ntmps86
  go_wp2_with fail
  go_loopg [3, 4] n (fun j vo vi wr => ∃ (i : Nat) (A' : Option Addr) (k c' : Nat) (O : List Int), i + j = n ∧ vi = .int .i64 i ∧ vo = .slice A' k c' ∧ Hid (O = (l.take i).foldl insTok []) ∧ O.length = k ∧ O.length ≤ i ∧ SlK wr (fun b _ => w.heap.size ≤ b) 1 (.slice A' k c') k (O.map (Value.int .i64)) ∧ Kept noBlock w wr)
  case atStart => exact ⟨0, none, 0, 0, [], by omega, rfl, rfl, Lib.hid rfl, rfl, by simp, SlK.nil _ _ _, Kept.refl _ _⟩
  case round =>
    obtain ⟨i, A', k, c', O, hij, rfl, rfl, HO, hOk, hOi, hO, hk⟩ := hrel
    subst hOk
    have HIJ := Lib.hid hij
    have HKr := Lib.hid hk
    have HOS := Lib.hid hO
    have HOI := Lib.hid hOi
    by_cases hi : i < n
    · obtain ⟨x, hx⟩ : ∃ x, l[i]? = some x := ⟨_, List.getElem?_eq_getElem (by have := HL.out; omega)⟩
      obtain ⟨gx, ox, hidx, c0⟩ := tok_at (H.out.keptNone hk) hx
      have HC0 := Lib.hid c0
      have HTK : Hid (l.take (i + 1) = l.take i ++ [x]) := Lib.hid (by rw [List.take_add_one, hx]; rfl)
      have HOL : Hid (O.length ≤ 1000000) := Lib.hid (by omega)
      have hpl := tokAt_le O x
      have HLT : Hid (∀ a, a < tokAt O x → ∃ y, O[a]? = some y ∧ y < x) := Lib.hid fun a ha => ⟨_, List.getElem?_eq_getElem (by omega), tokAt_lt ha (List.getElem?_eq_getElem (by omega))⟩
      have HAT : Hid (tokAt O x < O.length → ∃ y, O[tokAt O x]? = some y ∧ ¬ y < x) := Lib.hid fun h => ⟨_, List.getElem?_eq_getElem h, tokAt_ge (List.getElem?_eq_getElem h)⟩
      have HIN : Hid (insTok O x = if O[tokAt O x]? = some x then O else O.take (tokAt O x) ++ x :: O.drop (tokAt O x)) := Lib.hid rfl
      have HPL := Lib.hid hpl
      clear hij hk hx hO hOi
      generalize tokAt O x = t at *
      go_wp2_with fail
      go_loopg [5] t (fun q va wx => ∃ a nn : Nat, a + q = t ∧ va = .int .i64 a ∧ wx = wr.drewN nn)
      case atStart => exact ⟨0, 0, by omega, rfl, rfl⟩
      case round =>
        obtain ⟨a, nn, haq, rfl, rfl⟩ := hrel
        have HAQ := Lib.hid haq
        clear haq
        by_cases hat : a < t
        · have HATA := Lib.hid hat
          obtain ⟨y, hy, hyx⟩ := HLT.out a hat
          obtain ⟨gy, oy, hidy, cy⟩ := tok_at HOS.out hy
          have hal2 : a < O.length := by have := HPL.out; omega
          have hal3 : a ≤ 1000000 := by have := HOL.out; omega
          clear hy
          go_wp2_with fail
          go_quiet (fail)
          go_wp2_with fail
          go_roundg (t - (a + 1))
          case measure => have := HAQ.out; omega
          case rel => exact ⟨a + 1, nn + nq, by have := HAQ.out; have := HATA.out; omega, by go_num, by first | rfl | (rw [World.drewN_drewN])⟩
        · obtain rfl : t = a := by have := HAQ.out; omega
          by_cases hend : t < O.length
          · obtain ⟨y, hy, hyx⟩ := HAT.out hend
            obtain ⟨gy, oy, hidy, cy⟩ := tok_at HOS.out hy
            by_cases heq : y = x
            · subst heq
              have hbe : (y == y) = true := by simp
              have HIN2 : Hid (insTok O y = O) := Lib.hid (by rw [HIN.out, if_pos hy])
              clear hy
              go_wp2_with fail
              go_quiet (fail)
              try rw [World.drewN_drewN]
              generalize nn + nq = n1
              go_wp2_with fail
              go_quiet (fail)
              try rw [World.drewN_drewN]
              go_wp2_with fail
              go_roundg (n - (i + 1))
              case measure => have := HIJ.out; omega
              case rel => exact ⟨i + 1, A', _, c', O, by have := HIJ.out; omega, by go_num, rfl, Lib.hid (by rw [HTK.out, List.foldl_append, ← HO.out]; exact HIN2.out.symm), rfl, by have := HOI.out; omega, SlK.drewN HOS.out _, HKr.out.drewN _⟩
            · have hbe : (y == x) = false := beq_eq_false_iff_ne.2 heq
              have HIN2 : Hid (insTok O x = O.take t ++ x :: O.drop t) := Lib.hid (by rw [HIN.out, if_neg (by rw [hy]; exact fun e => heq (Option.some.inj e))])
              clear hy heq
              go_wp2_with fail
              go_quiet (fail)
              try rw [World.drewN_drewN]
              generalize nn + nq = n1
              go_wp2_with fail
              go_quiet (fail)
              try rw [World.drewN_drewN]
              have hk0 : Kept noBlock wr (wr.drewN (n1 + nq)) := (Kept.refl noBlock wr).drewN _
              have hs0 := SlK.drewN HOS.out (n1 + nq)
              generalize wr.drewN (n1 + nq) = W at *
              have HK0 := Lib.hid hk0
              obtain ⟨A2, c2, hto, hst⟩ := hs0.run_to i64sT (i := (t : Int)) (k := t) rfl HPL.out
              obtain ⟨A3, c3, hfrom, hsf⟩ := hs0.run_from i64sT (i := (t : Int)) (k := t) rfl HPL.out
              rw [Nat.mul_one, ← List.map_take] at hst
              rw [Nat.mul_one, ← List.map_drop] at hsf
              have HS0 := Lib.hid (SlK.lo hst)
              have HSF0 := Lib.hid (SlK.lo hsf)
              have hlt2 : t ≤ O.length := HPL.out
              have hO2 : O.length ≤ 1000000 := HOL.out
              clear hst hsf hs0 hk0 hidy cy
              go_wp2_with (at_builtin; go_must (refine wpList_append_sl _ i64sT rfl (.tmp 45) (.tmp 48) rfl W.heap.size _ 0 [] rfl (World.ownsRow_nil _ _ _ _) _ t _ rfl HS0.out (fun u hu => eI_one hu) ?c1 ?c2 ?_))
              case c1 => omega
              case c2 => first | omega | (simp; omega)
              intro v1 w3 hap1
              have hk3 : Kept noBlock wr w3 := HK0.out.trans hap1.keptNil (fun _ _ h => h)
              have HF1 := Lib.hid (SlK.keptNone HSF0.out hap1.keptNil)
              have HO1 := Lib.hid hap1.own
              have hsz1 := hap1.keptNil.size
              have q9 := hk3.cellOf HC0.out
              have HK3 := Lib.hid hk3
              clear hap1 hk3
              go_wp2_with (at_builtin; go_must (refine wpList_append_sl _ i64sT rfl (.tmp 50) (.tmp 55) rfl W.heap.size _ t _ rfl (World.ownsRow.alloc HO1.out _) _ 1 [.int .i64 x] rfl (Sl.made_at (Blk.new_at _ _ _ rfl) _ rfl rfl one_max) (by simp [Value.oneCell']) ?d1 ?d2 ?_))
              case d1 => omega
              case d2 => first | omega | (simp; omega)
              intro v2 w4 hap2
              have hf2 := SlK.appended (SlK.alloc HF1.out _) hap2 (World.ownsRow.alloc HO1.out _) (Nat.le_refl _)
              have hk4 : Kept noBlock wr w4 := hap2.below (World.ownsRow.alloc HO1.out _) (HK3.out.alloc _) HK0.out.size
              have HO2 := Lib.hid hap2.own
              have hsz2 := (hap2.kept).size
              rw [sz_alloc] at hsz2
              have HK4 := Lib.hid hk4
              have HF2 := Lib.hid hf2
              clear hap2 hf2 hk4 HK3
              go_wp2_with (at_builtin; go_must (refine wpList_append_sl _ i64sT rfl (.tmp 57) (.tmp 60) rfl W.heap.size _ (t + 1) _ rfl HO2.out _ (O.length - t) _ rfl HF2.out (fun u hu => eI_one hu) ?e1 ?e2 ?_))
              case e1 => omega
              case e2 => omega
              intro v3 w5 hap3
              have hk5 : Kept noBlock wr w5 := hap3.below HO2.out HK4.out HK0.out.size
              have HO5 := Lib.hid hap3.own
              have HK5 := Lib.hid hk5
              clear hap3 hk5 HK4
              obtain ⟨A5, c5, rfl, -, -⟩ := (Sl.of_own HO5.out).shape
              have hol : t + 1 + (O.length - t) = (insTok O x).length := by rw [HIN2.out]; simp; omega
              have HREL : Hid (SlK w5 (fun b _ => w.heap.size ≤ b) 1 (.slice A5 (t + 1 + (O.length - t)) c5) (t + 1 + (O.length - t)) ((insTok O x).map (Value.int .i64))) := Lib.hid (by
                have h1 := SlK.of_ownB HO5.out
                rw [HIN2.out]
                have e1 : (O.take t).map (Value.int .i64) ++ [.int .i64 x] ++ (O.drop t).map (Value.int .i64) = (O.take t ++ x :: O.drop t).map (Value.int .i64) := by simp
                have e2 := h1.any (ok' := fun b _ => w.heap.size ≤ b) fun b _ _ e => Nat.le_trans (Nat.le_trans HKr.out.size HK0.out.size) e.1
                simpa using e2)
              clear hol
              go_wp2_with fail
              go_roundg (n - (i + 1))
              case measure => have := HIJ.out; omega
              case rel => exact ⟨i + 1, A5, _, c5, insTok O x, by have := HIJ.out; omega, by go_num, rfl, Lib.hid (by rw [HTK.out, List.foldl_append]; rw [← HO.out]; rfl), by rw [HIN2.out]; simp; omega, by rw [HIN2.out]; simp; have := HOI.out; omega, HREL.out, HKr.out.trans HK5.out fun _ _ e => e⟩
          · have HIN2 : Hid (insTok O x = O.take t ++ x :: O.drop t) := Lib.hid (by rw [HIN.out, if_neg (by rw [List.getElem?_eq_none (by omega)]; exact fun e => by cases e)])
            go_wp2_with fail
            go_quiet (fail)
            try rw [World.drewN_drewN]
            generalize nn + nq = n1
            go_wp2_with fail
            go_quiet (fail)
            try rw [World.drewN_drewN]
            have hk0 : Kept noBlock wr (wr.drewN (n1 + nq)) := (Kept.refl noBlock wr).drewN _
            have hs0 := SlK.drewN HOS.out (n1 + nq)
            generalize wr.drewN (n1 + nq) = W at *
            have HK0 := Lib.hid hk0
            obtain ⟨A2, c2, hto, hst⟩ := hs0.run_to i64sT (i := (t : Int)) (k := t) rfl HPL.out
            obtain ⟨A3, c3, hfrom, hsf⟩ := hs0.run_from i64sT (i := (t : Int)) (k := t) rfl HPL.out
            rw [Nat.mul_one, ← List.map_take] at hst
            rw [Nat.mul_one, ← List.map_drop] at hsf
            have HS0 := Lib.hid (SlK.lo hst)
            have HSF0 := Lib.hid (SlK.lo hsf)
            have hlt2 : t ≤ O.length := HPL.out
            have hO2 : O.length ≤ 1000000 := HOL.out
            clear hst hsf hs0 hk0
            go_wp2_with (at_builtin; go_must (refine wpList_append_sl _ i64sT rfl (.tmp 45) (.tmp 48) rfl W.heap.size _ 0 [] rfl (World.ownsRow_nil _ _ _ _) _ t _ rfl HS0.out (fun u hu => eI_one hu) ?c1 ?c2 ?_))
            case c1 => omega
            case c2 => first | omega | (simp; omega)
            intro v1 w3 hap1
            have hk3 : Kept noBlock wr w3 := HK0.out.trans hap1.keptNil (fun _ _ h => h)
            have HF1 := Lib.hid (SlK.keptNone HSF0.out hap1.keptNil)
            have HO1 := Lib.hid hap1.own
            have hsz1 := hap1.keptNil.size
            have q9 := hk3.cellOf HC0.out
            have HK3 := Lib.hid hk3
            clear hap1 hk3
            go_wp2_with (at_builtin; go_must (refine wpList_append_sl _ i64sT rfl (.tmp 50) (.tmp 55) rfl W.heap.size _ t _ rfl (World.ownsRow.alloc HO1.out _) _ 1 [.int .i64 x] rfl (Sl.made_at (Blk.new_at _ _ _ rfl) _ rfl rfl one_max) (by simp [Value.oneCell']) ?d1 ?d2 ?_))
            case d1 => omega
            case d2 => first | omega | (simp; omega)
            intro v2 w4 hap2
            have hf2 := SlK.appended (SlK.alloc HF1.out _) hap2 (World.ownsRow.alloc HO1.out _) (Nat.le_refl _)
            have hk4 : Kept noBlock wr w4 := hap2.below (World.ownsRow.alloc HO1.out _) (HK3.out.alloc _) HK0.out.size
            have HO2 := Lib.hid hap2.own
            have hsz2 := (hap2.kept).size
            rw [sz_alloc] at hsz2
            have HK4 := Lib.hid hk4
            have HF2 := Lib.hid hf2
            clear hap2 hf2 hk4 HK3
            go_wp2_with (at_builtin; go_must (refine wpList_append_sl _ i64sT rfl (.tmp 57) (.tmp 60) rfl W.heap.size _ (t + 1) _ rfl HO2.out _ (O.length - t) _ rfl HF2.out (fun u hu => eI_one hu) ?e1 ?e2 ?_))
            case e1 => omega
            case e2 => omega
            intro v3 w5 hap3
            have hk5 : Kept noBlock wr w5 := hap3.below HO2.out HK4.out HK0.out.size
            have HO5 := Lib.hid hap3.own
            have HK5 := Lib.hid hk5
            clear hap3 hk5 HK4
            obtain ⟨A5, c5, rfl, -, -⟩ := (Sl.of_own HO5.out).shape
            have hol : t + 1 + (O.length - t) = (insTok O x).length := by rw [HIN2.out]; simp; omega
            have HREL : Hid (SlK w5 (fun b _ => w.heap.size ≤ b) 1 (.slice A5 (t + 1 + (O.length - t)) c5) (t + 1 + (O.length - t)) ((insTok O x).map (Value.int .i64))) := Lib.hid (by
              have h1 := SlK.of_ownB HO5.out
              rw [HIN2.out]
              have e1 : (O.take t).map (Value.int .i64) ++ [.int .i64 x] ++ (O.drop t).map (Value.int .i64) = (O.take t ++ x :: O.drop t).map (Value.int .i64) := by simp
              have e2 := h1.any (ok' := fun b _ => w.heap.size ≤ b) fun b _ _ e => Nat.le_trans (Nat.le_trans HKr.out.size HK0.out.size) e.1
              simpa using e2)
            clear hol
            go_wp2_with fail
            go_roundg (n - (i + 1))
            case measure => have := HIJ.out; omega
            case rel => exact ⟨i + 1, A5, _, c5, insTok O x, by have := HIJ.out; omega, by go_num, rfl, Lib.hid (by rw [HTK.out, List.foldl_append]; rw [← HO.out]; rfl), by rw [HIN2.out]; simp; omega, by rw [HIN2.out]; simp; have := HOI.out; omega, HREL.out, HKr.out.trans HK5.out fun _ _ e => e⟩
    · obtain rfl : i = n := by omega
      have HT : Hid (O = tidyP l) := Lib.hid (by rw [HO.out, List.take_of_length_le (by have := HL.out; omega)]; rfl)
      clear hij hk hO hOi
      go_wp2_with fail
      go_ret
      exact ⟨A', _, c', rfl, by rw [← HT.out]; exact HOS.out, HKr.out⟩
end Go.Proofs.YtdcdefkloibfnaaGreatDoor
namespace Go.Proofs.YtdcdefkloibfnaaGreatDoor
set_option linter.unusedVariables false
open Go.RowKit
open Go.ChangeMaps (setBlock)

theorem t18_agg (w : World) (dc : ByteArray) (rem : Int) (v : Value) : True := trivial
def hostsEqB (S S' : List Ho) : Bool := decide (S.map (fun o => (o.name, o.dc, o.rack, o.toks, o.up)) = S'.map (fun o => (o.name, o.dc, o.rack, o.toks, o.up)))
section
variable {w : World} {ok ok' : Nat → Prop} {A A' : Option Addr} {n n' c c' : Nat} {l l' : List HV} {S S' : List Ho}
theorem findV_some {x : ByteArray} {o : Ho} (h : getS x S = some o) : findV S x = (findI S x : Int) ∧ findI S x < S.length ∧ S[findI S x]? = some o := by
  rw [findI_get] at h
  have h1 := (List.getElem?_eq_some_iff.1 h).1
  exact ⟨by unfold findV; rw [if_pos h1], h1, h⟩
theorem findV_none {x : ByteArray} (h : getS x S = none) : findV S x = -1 := by
  rw [findI_get] at h
  have h1 := List.getElem?_eq_none_iff.1 h
  unfold findV; rw [if_neg (by omega)]
theorem mark_set {x : ByteArray} {up : Bool} {o : Ho} (hS : risingH S) (h : getS x S = some o) : S.map (setUp x up) = S.set (findI S x) { o with up := up } := by
  obtain ⟨-, h1, h2⟩ := findV_some h
  refine List.ext_getElem? fun i => ?_
  rw [List.getElem?_map, List.getElem?_set]
  by_cases e : findI S x = i
  · subst e
    rw [if_pos rfl, if_pos h1, h2]
    simp only [Option.map_some, setUp]
    rw [if_pos (findI_at h2)]
  · rw [if_neg e]
    cases hi : S[i]? with
    | none => rfl
    | some q =>
      simp only [Option.map_some, setUp]
      rw [if_neg fun hq => ?_]
      obtain ⟨hi1, hi2⟩ := List.getElem?_eq_some_iff.1 hi
      obtain ⟨hj1, hj2⟩ := List.getElem?_eq_some_iff.1 h2
      have hne := rising_ne hS
      rcases Nat.lt_or_ge (findI S x) i with hlt | hge
      · have := List.pairwise_iff_getElem.1 hne _ _ hj1 hi1 hlt
        rw [hj2, hi2, hq] at this
        exact this (findI_at h2)
      · have := List.pairwise_iff_getElem.1 hne _ _ hi1 hj1 (by omega)
        rw [hj2, hi2, hq] at this
        exact this (findI_at h2).symm
theorem flat_setH {l : List HV} {i : Nat} {x : HV} (hi : l[i]? = some x) (u : Bool) : (l.flatMap hvC).set (i * 5 + 4) (.bool u) = (l.set i { x with up := u }).flatMap hvC := flat_setK (k := 5) (f := hvC) (a' := { x with up := u }) (fun _ => rfl) (by decide) l i x hi rfl
theorem hvC_one {l : List HV} {u : Value} (hu : u ∈ l.flatMap hvC) : u.oneCell' = true := by
  obtain ⟨x, -, hx⟩ := List.mem_flatMap.1 hu
  simp only [hvC, List.mem_cons, List.not_mem_nil, or_false] at hx
  rcases hx with rfl | rfl | rfl | rfl | rfl <;> simp [Value.oneCell']
theorem ownH18_at {w : World} {base : Nat} {v : Value} {L : List HV} {n i : Nat} {x : HV} (h : w.ownsRow base 106 5 v n (L.flatMap hvC)) (hi : L[i]? = some x) :
    ∃ g cap off, v = .slice (some ⟨g, 0, none⟩) n cap ∧ off = i * 5 ∧ base ≤ g ∧ (∃ cs, w.heap[g]? = some (.cells cs 106 (0, 0))) ∧ (∀ kd w', (Instr.indexAt 35 v (.int kd (i : Int))).run Tryz.prog w' = .ok (.pointer (some ⟨g, off, none⟩)) w') ∧
      w.cell? ⟨g, off, none⟩ = some (.string x.name) ∧ w.cell? ⟨g, off + 1, none⟩ = some (.string x.dc) ∧ w.cell? ⟨g, off + 2, none⟩ = some (.string x.rack) ∧ w.cell? ⟨g, off + 3, none⟩ = some (.slice x.ta x.tn x.tc) ∧ w.cell? ⟨g, off + 4, none⟩ = some (.bool x.up) := by
  have hlt : i < n := by
    have h1 := (List.getElem?_eq_some_iff.1 hi).1
    have h2 := h.1
    rw [hvC_len] at h2
    omega
  rcases h.2 with ⟨rfl, rfl⟩ | ⟨g, cap, cs, rfl, hb, hg, -⟩
  · omega
  refine ⟨g, cap, i * 5, rfl, rfl, hb, ⟨cs, hg⟩, fun kd w' => ?_, ?_, ?_, ?_, ?_, ?_⟩
  · have hi2 : (i : Int) < (n : Int) := by omega
    simp [Instr.indexAt, asIntOf, run_underlying h18sT.ht, h18sT.run_size, hlt, Addr.add_lit]
  · exact (h.cellAt (i * 5 + 0) (by omega)).trans ((flat_get (k := 5) (fun _ => rfl) L i 0 x hi (by decide)).trans rfl)
  · exact (h.cellAt (i * 5 + 1) (by omega)).trans ((flat_get (k := 5) (fun _ => rfl) L i 1 x hi (by decide)).trans rfl)
  · exact (h.cellAt (i * 5 + 2) (by omega)).trans ((flat_get (k := 5) (fun _ => rfl) L i 2 x hi (by decide)).trans rfl)
  · exact (h.cellAt (i * 5 + 3) (by omega)).trans ((flat_get (k := 5) (fun _ => rfl) L i 3 x hi (by decide)).trans rfl)
  · exact (h.cellAt (i * 5 + 4) (by omega)).trans ((flat_get (k := 5) (fun _ => rfl) L i 4 x hi (by decide)).trans rfl)
/-- A table's hosts, handed back in a struct. -/
def RT (w' : World) (ok : Nat → Prop) (dc : ByteArray) (rem : Int) (S : List Ho) (v : Value) : Prop := ∃ A n c l, v = .agg #[.string dc, .int .i64 rem, .slice A n c] ∧ RL w' ok A n c l S
end
end Go.Proofs.YtdcdefkloibfnaaGreatDoor
namespace Go.Proofs.YtdcdefkloibfnaaGreatDoor
set_option linter.unusedVariables false
open Go.RowKit
open Go.ChangeMaps (setBlock)

theorem SlK.appendedT {w w' : World} {ok : Nat → TypeId → Prop} {base : Nat} {e : TypeId} {sz k n : Nat} {v v' : Value} {xs ys : List Value} {sz' n' : Nat} {u : Value} {zs : List Value} (hs : SlK w ok sz' u n' zs) (h : Appended w w' base e sz v v' k xs) (ho : w.ownsRow base e sz v n ys) (hne : ∀ g e', ok g e' → e' ≠ e) : SlK w' ok sz' u n' zs :=
  hs.keep fun g cs e' fz he hg => (h.kept.block g (lt_of_heap hg) (fun hv => by
    obtain ⟨_, cs', hh⟩ := own_type ho hv
    rw [hh] at hg
    injection hg with hg
    injection hg with _ h2
    exact hne g e' he h2.symm)).trans hg
/-- Hosts told so far. -/
def HofR (w : World) (l : List HV) (i : Nat) (va : Value) (wr : World) : Prop :=
  ∃ T : List HV, T.map HV.abs = (l.take i).map HV.abs ∧ T.length = i ∧ wr.ownsRow w.heap.size 106 5 va i (T.flatMap hvC) ∧ (∀ x ∈ T, SlK wr (fun k e => w.heap.size ≤ k ∧ e = 2) 1 (.slice x.ta x.tn x.tc) x.tn (x.toks.map (Value.int .i64))) ∧ Kept noBlock w wr
set_option maxHeartbeats 8000000 in
set_option maxRecDepth 100000 in
theorem hof_at {w : World} {okH ok1 : Nat → TypeId → Prop} {A : Option Addr} {n c : Nat} {l : List HV} (h : SlK w okH 5 (.slice A n c) n (l.flatMap hvC)) (hl : l.length = n) (hn : n ≤ 100000) (ht : ∀ x ∈ l, x.toks.length ≤ 1000000 ∧ SlK w ok1 1 (.slice x.ta x.tn x.tc) x.tn (x.toks.map (Value.int .i64))) :
    Calls Tryz.prog 14 #[.slice A n c] w fun e w' => ∃ A' c' l', e = .returned (.slice A' n c') ∧ RL w' (fun k => w.heap.size ≤ k) A' n c' l' (l.map HV.abs) ∧ Kept noBlock w w' := by
  have H := Lib.hid h
  have HT := Lib.hid ht
  have HL := Lib.hid hl
  clear h ht hl
  go_enter Tryz.func14, Tryz.ntmps14
  go_wp2_with fail
  go_loopg [3, 4] n (fun j va vi wr => ∃ i : Nat, i + j = n ∧ vi = .int .i64 i ∧ HofR w l i va wr)
  case atStart => exact ⟨0, by omega, rfl, [], rfl, rfl, World.ownsRow_nil _ _ _ _, fun x hx => absurd hx List.not_mem_nil, Kept.refl _ _⟩
  case round =>
    obtain ⟨i, hij, rfl, T, hTa, hTl, hTo, hTt, hk⟩ := hrel
    have HIJ := Lib.hid hij
    have HK := Lib.hid hk
    have HTA := Lib.hid hTa
    have HTL := Lib.hid hTl
    have HTO := Lib.hid hTo
    have HTT := Lib.hid hTt
    by_cases hi : i < n
    · obtain ⟨x, hx⟩ : ∃ x, l[i]? = some x := ⟨_, List.getElem?_eq_getElem (by have := HL.out; omega)⟩
      obtain ⟨gr, off, hidx, y0, y1, y2, y3, y4⟩ : ∃ gr off, (∀ kd w', (Instr.indexAt 31 (.slice A n c) (.int kd (i : Int))).run Tryz.prog w' = .ok (.pointer (some ⟨gr, off, none⟩)) w') ∧
          w.cell? ⟨gr, off, none⟩ = some (.string x.name) ∧ w.cell? ⟨gr, off + 1, none⟩ = some (.string x.dc) ∧ w.cell? ⟨gr, off + 2, none⟩ = some (.string x.rack) ∧ w.cell? ⟨gr, off + 3, none⟩ = some (.slice x.ta x.tn x.tc) ∧ w.cell? ⟨gr, off + 4, none⟩ = some (.bool x.up) := by
        obtain ⟨gr, off, h1, _, _, h3⟩ := H.out.run_index hostsT (i := (i : Int)) (k := i) rfl hi
        refine ⟨gr, off, h1, h3 0 _ ?_, h3 1 _ ?_, h3 2 _ ?_, h3 3 _ ?_, h3 4 _ ?_⟩ <;> exact (flat_get (k := 5) (fun _ => rfl) l i _ x hx (by decide)).trans rfl
      obtain ⟨hx1, hx2⟩ := HT.out x (List.mem_of_getElem? hx)
      have hx2r := hx2.keptNone hk
      have hxl := hx2.len
      rw [List.length_map, Nat.mul_one] at hxl
      have hxn : x.tn ≤ 1000000 := by omega
      obtain ⟨x1, x2, x3, x4, x5, x6, x7, x8⟩ := x
      simp only [] at y0 y1 y2 y3 y4 hx2r hxl hxn
      have HXR := Lib.hid hx2r
      have HXL : Hid (x7.length = x5) := Lib.hid hxl
      have HTI : Hid ((l.take (i + 1)).map HV.abs = (l.take i).map HV.abs ++ [HV.abs ⟨x1, x2, x3, x4, x5, x6, x7, x8⟩]) := Lib.hid (by rw [List.take_add_one, hx, List.map_append]; rfl)
      have hzr := hk.size
      have y3r := hk.cellOf y3
      have HY0 := Lib.hid y0
      have HY1 := Lib.hid y1
      have HY2 := Lib.hid y2
      have HY4 := Lib.hid y4
      clear y0 y1 y2 y3 y4
      clear hij hk hTa hTl hTo hTt hx hx1 hx2 hx2r hxl
      go_wp2_with (at_builtin; go_must (refine wpList_append_sl _ i64sT rfl (.tmp 12) (.tmp 17) rfl w.heap.size _ 0 [] rfl (World.ownsRow_nil _ _ _ _) _ x5 (x7.map eI) rfl HXR.out (fun u hu => eI_one hu) ?c1 ?c2 ?_))
      case c1 => omega
      case c2 => exact hzr
      intro v' w3 hap
      have hk3 := hap.keptNil
      have hT3 := own_keptB HTO.out hk3 (fun _ _ e => e)
      have hown := hap.own
      obtain ⟨A', c', rfl, -, -⟩ := (Sl.of_own hown).shape
      have HX3 : Hid (SlK w3 (fun k e => w.heap.size ≤ k ∧ e = 2) 1 (.slice A' x5 c') x5 (x7.map (Value.int .i64))) := Lib.hid (SlK.of_ownB hown)
      have HT3 := Lib.hid hT3
      have HKW3 := Lib.hid (HK.out.trans hk3 fun _ _ e => e)
      have HTT3 := Lib.hid (fun x hx => (HTT.out x hx).keptNone hk3)
      have hz3 : w.heap.size ≤ w3.heap.size := HKW3.out.size
      clear hap hk3 hT3 y3r hown
      go_wp2_with fail
      refine wp_region_sch (fun w' => Kept noBlock w w') (.take 0 (.take 1 (.take 2 (.take 3 (.take 4 (.take 5 (.take 6 (.take 7 (.take 8 (.take 9 (.take 10 (.take 11 (.take 12 (.take 13 (.take 14 (.take 15 (.take 16 (.take 17 (.take 18 (.take 19 (.take 20 (.take 21 (.take 22 (.one 23 (.one 24 (.take 25 .nil)))))))))))))))))))))))))) (by kernel_rfl) (by kernel_rfl) (by kernel_rfl) HKW3.out.drew ?_
      repeat (first
        | (refine sch_takeE rfl rfl ?_
           apply Exists.intro
           refine ⟨fun w' hS => ?_, fun K hK => ?_⟩
           · (have q0 := hS.cellOf HY0.out
              have q1 := hS.cellOf HY1.out
              have q2 := hS.cellOf HY2.out
              have q4 := hS.cellOf HY4.out
              clear hS
              unfold takesAt; go_simp; rfl)
           go_simp
           refine hK _ ?_
           clear hK K))
      refine sch_doK rfl rfl (fun K hK => ?_)
      go_simp
      refine hK _ _ ((HKW3.out.alloc _).drew) ?_
      clear hK K
      refine sch_doK rfl rfl (fun K hK => ?_)
      refine wp_append_sl _ h18sT (.tmp 19) (.tmp 42) rfl w.heap.size _ i (T.flatMap hvC) rfl ((World.ownsRow.alloc HT3.out (.cells #[.string x1, .string x2, .string x3, .slice A' x5 c', .bool x8] 106)).drew) _ 1 [.string x1, .string x2, .string x3, .slice A' x5 c', .bool x8] rfl (Sl.made_at (Blk.drew (Blk.new w3 106 #[.string x1, .string x2, .string x3, .slice A' x5 c', .bool x8])) _ rfl rfl one_max) (by simp [Value.oneCell']) ?d1 ?d2 ?_
      case d1 => omega
      case d2 => simp; omega
      intro v5 w5 hap5
      have hrow0 := (World.ownsRow.alloc HT3.out (.cells #[.string x1, .string x2, .string x3, .slice A' x5 c', .bool x8] 106)).drew
      have hk5 := hap5.below hrow0 ((HKW3.out.alloc (.cells #[.string x1, .string x2, .string x3, .slice A' x5 c', .bool x8] 106)).drew) (Nat.le_refl _)
      have HR5 : Hid (HofR w l (i + 1) v5 w5) := Lib.hid (by
        refine ⟨T ++ [⟨x1, x2, x3, A', x5, c', x7, x8⟩], ?_, by rw [List.length_append, HTL.out]; rfl, ?_, fun y hy => ?_, hk5⟩
        · rw [HTI.out, List.map_append, HTA.out]; rfl
        · rw [List.flatMap_append]; simpa [hvC] using hap5.own
        · rcases List.mem_append.1 hy with hy | hy
          · exact (((HTT3.out y hy).alloc _).drew).appendedT hap5 hrow0 fun g e' ho => by rw [ho.2]; decide
          · simp only [List.mem_singleton] at hy
            subst hy
            exact ((HX3.out.alloc _).drew).appendedT hap5 hrow0 fun g e' ho => by rw [ho.2]; decide)
      refine hK _ _ hk5 ?_
      clear hK K hk5 hap5 hrow0
      repeat (first
        | (refine sch_takeE rfl rfl ?_
           apply Exists.intro
           refine ⟨fun w' hS => ?_, fun K hK => ?_⟩
           · (unfold takesAt; go_simp; rfl)
           go_simp
           refine hK _ ?_
           clear hK K))
      refine sch_nil (NoPanic.normal ?_)
      go_wp2_with fail
      go_roundg (n - (i + 1))
      case measure => have := HIJ.out; omega
      case rel => exact ⟨i + 1, by have := HIJ.out; omega, by go_num, HR5.out⟩
    · obtain rfl : i = n := by omega
      obtain ⟨A', c', rfl, -, -⟩ := (Sl.of_own hTo).shape
      have HF : Hid (RL wr (fun k => w.heap.size ≤ k) A' i c' T (l.map HV.abs)) := Lib.hid ⟨by rw [hTa, List.take_of_length_le (by have := HL.out; omega)], by rw [List.length_map]; exact HL.out, (SlK.of_ownB hTo).any fun k e _ h => h.1, fun x hx => (hTt x hx).any fun k e _ h => h.1⟩
      clear hij hk hTa hTl hTo hTt
      go_wp2_with fail
      go_ret
      exact ⟨A', c', T, rfl, HF.out, HK.out⟩
end Go.Proofs.YtdcdefkloibfnaaGreatDoor
namespace Go.Proofs.YtdcdefkloibfnaaGreatDoor
set_option linter.unusedVariables false
open Go.RowKit

theorem str_bytes (w : World) (s : ByteArray) : ∃ c w1, (convert 9 23 (.string s)).run Tryz.prog w = .ok (.slice (some ⟨w.heap.size, 0, none⟩) s.size c) w1 ∧ (s.size ≤ 1000000 → SlK w1 (fun g _ => g = w.heap.size) 1 (.slice (some ⟨w.heap.size, 0, none⟩) s.size c) s.size (bsC s.data.toList)) ∧ Kept noBlock w w1 := by
  refine ⟨_, _, Lib.run_convert_string_bytes w 9 23 5 s Tryz.underlying9 Tryz.underlying23 Tryz.underlying5, fun hs => ⟨?_, _, _, rfl, grownCap_ge _ _ _ _, grownCap_le_maxLen _ _ _ _ (Nat.le_trans hs (by decide)), .inr ⟨w.heap.size, 0, _, _, _, rfl, Lib.bytesWorld_at_new w 5 s, rfl, fun j u hu => ?_⟩⟩, bytesWorld_kept w 5 s⟩
  · rw [bsC_len]; show s.data.toList.length = _; rw [Nat.mul_one]; rfl
  · have hj : j < s.size := by
      have := (List.getElem?_eq_some_iff.1 hu).1
      rw [bsC_len] at this
      exact this
    have := Lib.bytesWorld_cell w 5 s j hj
    rw [cell_of_row _ _ _ _ _ _ (Lib.bytesWorld_at_new w 5 s)] at this
    rw [Nat.zero_add, this]
    have h2 : s.data.toList[j]? = some (s.data.toList.getD j 0) := by
      have hj2 : j < s.data.toList.length := hj
      rw [List.getElem?_eq_getElem hj2, List.getD, List.getElem?_eq_getElem hj2]; rfl
    rw [bsC_get h2] at hu
    exact hu

theorem emp_nil : (bS []).toList.isEmpty = true := by decide +kernel
theorem emp_ne {l : List UInt8} (h : l ≠ []) : (bS l).toList.isEmpty = false := by
  have h1 : ((bS l).toList == (⟨#[]⟩ : ByteArray).toList) = false := strEq_ne fun e => h (congrArg (fun b : ByteArray => b.data.toList) e)
  have h2 : (⟨#[]⟩ : ByteArray).toList = [] := by decide +kernel
  rw [h2] at h1
  cases hl : (bS l).toList with
  | nil => rw [hl] at h1; cases h1
  | cons a b => rfl
/-- Hosts of a row of the call's own. -/
def OwnHosts (w : World) (base : Nat) (v : Value) (T : List HV) (hs : List Ho) : Prop :=
  T.map HV.abs = hs ∧ w.ownsRow base 94 5 v T.length (T.flatMap hvC) ∧ ∀ x ∈ T, x.toks.length = x.tn ∧ SlK w (fun k e => base ≤ k ∧ e = 2) 1 x.tv x.tn (x.toks.map (Value.int .i64))
/-- What Hosts gives. -/
def HostsPost (w : World) (R : Option (List Ho)) (e : Ending) (w' : World) : Prop :=
  Kept noBlock w w' ∧ match R with
  | none => e = .returned (.tuple #[.slice none 0 0, .int .i64 11])
  | some hs => ∃ v' T, e = .returned (.tuple #[v', .int .i64 0]) ∧ OwnHosts w' w.heap.size v' T hs
theorem OwnHosts.keptN {w w' : World} {base : Nat} {v : Value} {T : List HV} {hs : List Ho} (h : OwnHosts w base v T hs) (hk : Kept noBlock w w') : OwnHosts w' base v T hs :=
  ⟨h.1, own_keptB h.2.1 hk (fun _ _ e => e), fun x hx => ⟨(h.2.2 x hx).1, SlK.keptNone (h.2.2 x hx).2 hk⟩⟩
theorem own_low {w : World} {b b' : Nat} {e : TypeId} {sz n : Nat} {v : Value} {xs : List Value} (h : w.ownsRow b e sz v n xs) (hb : b' ≤ b) : w.ownsRow b' e sz v n xs := by
  refine ⟨h.1, h.2.imp id ?_⟩
  rintro ⟨g, cap, cur, h1, h2, h3⟩
  exact ⟨g, cap, cur, h1, Nat.le_trans hb h2, h3⟩
theorem OwnHosts.low {w : World} {b b' : Nat} {v : Value} {T : List HV} {hs : List Ho} (h : OwnHosts w b v T hs) (hb : b' ≤ b) : OwnHosts w b' v T hs :=
  ⟨h.1, own_low h.2.1 hb, fun x hx => ⟨(h.2.2 x hx).1, (h.2.2 x hx).2.any fun g e _ hh => ⟨Nat.le_trans hb hh.1, hh.2⟩⟩⟩
/-- Bounds on a table. -/
structure TblOk (t : TV2) : Prop where
  cn : t.cn ≤ 1000000
  rn : t.rn ≤ 100000
  row : ∀ r ∈ t.rows, r.n ≤ 1000000
  val : ∀ r ∈ t.rows, ∀ x ∈ r.vs, x.n ≤ 1000
def HInv (w W1 : World) (t : TV2) (j : Nat) (vo vi : Value) (wr : World) : Prop :=
  ∃ (i : Nat) (T : List HV) (hs : List Ho), i + j = t.rn ∧ vi = .int .i64 i ∧ hostsP t.names (t.vals.take i) = some hs ∧ T.length ≤ i ∧ OwnHosts wr W1.heap.size vo T hs ∧ Kept noBlock W1 wr
set_option maxHeartbeats 4000000 in
set_option maxRecDepth 100000 in
theorem cHosts_at {w : World} {B : Nat} {t : TV2} (h : TblAt w B t) (hb : TblOk t) (hd : Doors w) :
    Calls Tryz.prog 10 #[t.v] w fun e w' => HostsPost w (hostsP t.names t.vals) e w' := by
  have hW1 : Kept noBlock w (w.alloc (.cells #[.int .i64 t.cnt, .slice t.ca t.cn t.cc, .bool t.more, .int .i64 t.sk, .slice t.sa t.sn t.sc, .slice t.ra t.rn t.rc] 28)) := (Kept.refl noBlock w).alloc _
  have hB1 := Blk.new w 28 #[.int .i64 t.cnt, .slice t.ca t.cn t.cc, .bool t.more, .int .i64 t.sk, .slice t.sa t.sn t.sc, .slice t.ra t.rn t.rc]
  have HTX := Lib.hid (fun (W : World) (hk : Kept noBlock w W) (k : Nat) (r : RV) (hr : t.rows[k]? = some r) (name : ByteArray) => cText_at (h.keptN hk) hb.cn (Nat.le_trans hb.rn (by decide)) hr (hb.row r (List.mem_of_getElem? hr)) name)
  have HCL := Lib.hid (fun (W : World) (hk : Kept noBlock w W) (k : Nat) (r : RV) (hr : t.rows[k]? = some r) (name : ByteArray) => rwCell_at (h.keptN hk) hb.cn (Nat.le_trans hb.rn (by decide)) hr (hb.row r (List.mem_of_getElem? hr)) name)
  have HVL : Hid (∀ (k : Nat) (r : RV), t.rows[k]? = some r → ∀ v ∈ r.abs, v.2.length ≤ 1000) := Lib.hid fun k r hr v hv => by
    obtain ⟨x, hx, rfl⟩ := List.mem_map.1 hv
    have h1 := (h.rr r (List.mem_of_getElem? hr)).2.2 x hx
    have h2 := hb.val r (List.mem_of_getElem? hr) x hx
    show x.l.length ≤ _
    rw [h1.1]; exact h2
  have HD := Lib.hid (fun (W : World) (hk : Kept noBlock w W) => hd.keptN hk)
  have hrl := h.rl
  have HRN : Hid (t.rn ≤ 100000) := Lib.hid hb.rn
  have HVALS : Hid (∀ (k : Nat) (r : RV), t.rows[k]? = some r → t.vals[k]? = some r.abs) := Lib.hid fun k (r : RV) hr => by show (t.rows.map _)[k]? = _; rw [List.getElem?_map, hr]; rfl
  have HVLEN : Hid (t.vals.length = t.rn) := Lib.hid (by show (t.rows.map _).length = _; rw [List.length_map]; exact hrl)
  have hlr := h.rs.run_len rowsT
  have HRL := Lib.hid hrl
  clear h hb hd hrl
  generalize hw1 : (w.alloc (.cells #[.int .i64 t.cnt, .slice t.ca t.cn t.cc, .bool t.more, .int .i64 t.sk, .slice t.sa t.sn t.sc, .slice t.ra t.rn t.rc] 28)) = W1 at *
  have HW1 := Lib.hid hw1
  have HK1 := Lib.hid hW1
  have HB1 := Lib.hid hB1
  clear hw1 hW1 hB1
  unfold TV2.v
  go_enter Tryz.func10, Tryz.ntmps10
  go_wp2_with fail
  rw [HW1.out]
  go_loopg [4, 14] t.rn (fun j vo vi wr => HInv w W1 t j vo vi wr)
  case atStart => exact ⟨0, [], [], by omega, rfl, by rw [List.take_zero]; rfl, Nat.le_refl _, ⟨rfl, World.ownsRow_nil _ _ _ _, fun x hx => by cases hx⟩, Kept.refl _ _⟩
  case round =>
    obtain ⟨i, T, hs, hij, rfl, hp, hTl, hO, hk⟩ := hrel
    have HIJ := Lib.hid hij
    have HP := Lib.hid hp
    have HTL := Lib.hid hTl
    have HO := Lib.hid hO
    have HK := Lib.hid hk
    have q0 := (HB1.out.kept hk fun e => e).cell 0
    have q1 := (HB1.out.kept hk fun e => e).cell 1
    have q2 := (HB1.out.kept hk fun e => e).cell 2
    have q3 := (HB1.out.kept hk fun e => e).cell 3
    have q4 := (HB1.out.kept hk fun e => e).cell 4
    have q5 := (HB1.out.kept hk fun e => e).cell 5
    simp only [List.getElem?_toArray, List.getElem?_cons_succ, List.getElem?_cons_zero] at q0 q1 q2 q3 q4 q5
    clear hij hp hTl hO hk
    have hrn6 := HRN.out
    by_cases hlt : i < t.rn
    · obtain ⟨r, hr⟩ : ∃ r, t.rows[i]? = some r := ⟨_, List.getElem?_eq_getElem (by rw [HRL.out]; exact hlt)⟩
      have HR := Lib.hid hr
      have HSK := Lib.hid (hosts_skip (HVALS.out i r hr) HP.out)
      have HFA := Lib.hid (hosts_fail (HVALS.out i r hr) HP.out)
      have HMO : Hid (nameP (textP (cellP t.names r.abs cRpc)) ≠ [] → ∀ ts, tokensP (cellP t.names r.abs cTok).1 (cellP t.names r.abs cTok).2 = some ts → hostsP t.names (t.vals.take (i + 1)) = some (hs ++ [⟨bS (nameP (textP (cellP t.names r.abs cRpc))), bS (textP (cellP t.names r.abs cDc)), bS (textP (cellP t.names r.abs cRack)), ts, true⟩])) := Lib.hid fun h ts ht => hosts_more (HVALS.out i r hr) HP.out h ht
      have hl1 : (textP (cellP t.names r.abs cRpc)).length ≤ 1000 := by
        have := cell_le (HVL.out i r hr) (cols := t.names) cRpc
        unfold textP; split <;> simp <;> omega
      have hl4 := cell_le (HVL.out i r hr) (cols := t.names) cTok
      have HT1 := Lib.hid (fun W hW => HTX.out W hW i r hr cRpc)
      have HT2 := Lib.hid (fun W hW => HTX.out W hW i r hr cDc)
      have HT3 := Lib.hid (fun W hW => HTX.out W hW i r hr cRack)
      have HC4 := Lib.hid (fun W hW => HCL.out W hW i r hr cTok)
      clear hr HTX HCL HVL HVALS
      generalize textP (cellP t.names r.abs cRpc) = l1 at *
      generalize textP (cellP t.names r.abs cDc) = l2 at *
      generalize textP (cellP t.names r.abs cRack) = l3 at *
      generalize cellP t.names r.abs cTok = v4 at *
      obtain ⟨A0, c0, hv0, -, -⟩ := (Sl.of_own HO.out.2.1).shape
      subst hv0
      go_wp2_with fail
      go_at_call 28
      refine (HT1.out wr (HK1.out.trans HK.out fun _ _ h => h)).mono ?_
      rintro e w2 ⟨rfl, hk2⟩
      obtain ⟨c3, w3, hcv, hsl3, hk3⟩ := str_bytes w2 (bS l1)
      have HK3 := Lib.hid ((HK.out.trans hk2 fun _ _ h => h).trans hk3 fun _ _ h => h)
      have HNM := Lib.hid (cName_at (hsl3 (show l1.length ≤ _ by omega)) (HD.out w3 (HK1.out.trans HK3.out fun _ _ h => h)))
      have HO3 := Lib.hid ((HO.out.keptN hk2).keptN hk3)
      have htl : (bS l1).data.toList = l1 := rfl
      rw [htl] at HNM
      clear hk2 hsl3 hk3 HO HK
      go_wp2_with fail
      go_at_call 15
      refine HNM.out.mono ?_
      rintro e w4 ⟨rfl, hk4⟩
      have HK4 := Lib.hid (HK3.out.trans hk4 fun _ _ h => h)
      have HO4 := Lib.hid (HO3.out.keptN hk4)
      have z0 := (HB1.out.kept HK4.out fun e => e).cell 0
      have z1 := (HB1.out.kept HK4.out fun e => e).cell 1
      have z2 := (HB1.out.kept HK4.out fun e => e).cell 2
      have z3 := (HB1.out.kept HK4.out fun e => e).cell 3
      have z4 := (HB1.out.kept HK4.out fun e => e).cell 4
      have z5 := (HB1.out.kept HK4.out fun e => e).cell 5
      simp only [List.getElem?_toArray, List.getElem?_cons_succ, List.getElem?_cons_zero] at z0 z1 z2 z3 z4 z5
      clear hk4 HO3 HNM HK3 hcv
      by_cases hem : nameP l1 = []
      · have HSK1 := Lib.hid (HSK.out hem)
        rw [hem]
        have hbe := emp_nil
        have FIN : Hid (HInv w W1 t (t.rn - (i + 1)) (.slice A0 T.length c0) (.int .i64 ((i + 1 : Nat) : Int)) w4) := Lib.hid ⟨i + 1, T, hs, by have := HIJ.out; omega, rfl, HSK1.out, Nat.le_trans HTL.out (by omega), HO4.out, HK4.out⟩
        clear hem
        go_wp2_with fail
        go_roundg (t.rn - (i + 1))
        case measure => have := HIJ.out; omega
        case rel => exact FIN.out
      · have hbe := emp_ne hem
        have HEM := Lib.hid hem
        clear hem
        go_wp2_with fail
        go_at_call 29
        refine (HC4.out w4 (HK1.out.trans HK4.out fun _ _ h => h)).mono ?_
        rintro e w5 ⟨x, b, rfl, hx, rfl, hk5⟩
        have hk56 := hk5.alloc (.cells #[.int .i64 x.kind, .slice x.a x.n x.c] 25)
        have HK6 := Lib.hid (HK4.out.trans hk56 fun _ _ h => h)
        have HO6 := Lib.hid (HO4.out.keptN hk56)
        have hx6 := hx.kept hk56 (fun _ _ e => e)
        have HTK := Lib.hid (cTokens_at hx6 (show x.n ≤ 1000 by have := hx.1; have : x.l.length ≤ 1000 := hl4; omega) (HD.out _ (HK1.out.trans HK6.out fun _ _ h => h)).errs)
        obtain ⟨xk, xa, xn, xc, xl⟩ := x
        simp only [VV.abs] at HTK HFA HMO hl4 ⊢
        have HW5 := HK6.out.size
        clear hk5 hk56 hx hx6 HO4 HK4
        go_wp2_with fail
        go_at_call 30
        refine HTK.out.mono ?_
        intro e w7 hp7
        obtain ⟨hk7, hr7⟩ := hp7
        have HK7 := Lib.hid (HK6.out.trans hk7 fun _ _ h => h)
        have HO7 := Lib.hid (HO6.out.keptN hk7)
        cases htk : tokensP xk xl with
        | none =>
          rw [htk] at hr7
          have HFA1 := Lib.hid (HFA.out HEM.out htk)
          obtain rfl := hr7
          clear htk hk7
          go_wp2
          go_ret2
          rw [HFA1.out]
          exact ⟨HK1.out.trans HK7.out fun _ _ h => h, rfl⟩
        | some ts =>
          rw [htk] at hr7
          have HMO1 := Lib.hid (HMO.out HEM.out ts htk)
          obtain ⟨v7, rfl, ho7⟩ := hr7
          obtain ⟨A7, c7, rfl, -, -⟩ := (Sl.of_own ho7).shape
          have HV7 : Hid (SlK w7 (fun k e => W1.heap.size ≤ k ∧ e = 2) 1 (.slice A7 ts.length c7) ts.length (ts.map (Value.int .i64))) := Lib.hid ((SlK.of_ownB ho7).any fun g e _ h => ⟨Nat.le_trans HK6.out.size h.1, h.2⟩)
          clear htk hk7 ho7 HTK HFA HMO HSK
          have hty : 2 ≠ 94 := by decide
          clear q0 q1 q2 q3 q4 q5 z0 z1 z2 z3 z4 z5
          go_wp2_with fail
          refine wp_region_sch (fun w' => Kept noBlock W1 w') (.take 0 (.take 1 (.take 2 (.take 3 (.take 5 (.take 6 (.take 8 (.one 4 (.one 7 (.take 9 (.one 10 (.one 11 (.take 12 .nil))))))))))))) (by kernel_rfl) (by kernel_rfl) (by kernel_rfl) HK7.out.drew ?_
          repeat (first
            | (refine sch_takeE rfl rfl ?_
               apply Exists.intro
               refine ⟨fun w' hS => ?_, fun K hK => ?_⟩
               · (have y0 := (HB1.out.kept hS fun e => e).cell 0
                  have y1 := (HB1.out.kept hS fun e => e).cell 1
                  have y2 := (HB1.out.kept hS fun e => e).cell 2
                  have y3 := (HB1.out.kept hS fun e => e).cell 3
                  have y4 := (HB1.out.kept hS fun e => e).cell 4
                  have y5 := (HB1.out.kept hS fun e => e).cell 5
                  simp only [List.getElem?_toArray, List.getElem?_cons_succ, List.getElem?_cons_zero] at y0 y1 y2 y3 y4 y5
                  clear hS
                  unfold takesAt; go_simp; rfl)
               go_simp
               refine hK _ ?_
               clear hK K))
          refine sch_doK rfl rfl (fun K hK => ?_)
          go_simp
          go_at_call 28
          refine (HT2.out _ (HK1.out.trans HK7.out.drew fun _ _ h => h)).mono ?_
          rintro e w8 ⟨rfl, hk8⟩
          have HK8 := Lib.hid (HK7.out.drew.trans hk8 fun _ _ h => h)
          have HO8 := Lib.hid ((HO7.out.keptN ((Kept.refl noBlock w7).drew)).keptN hk8)
          have HV8 := Lib.hid ((SlK.drew HV7.out).keptNone hk8)
          refine hK _ _ HK8.out ?_
          clear hK K hk8
          repeat (first
            | (refine sch_takeE rfl rfl ?_
               apply Exists.intro
               refine ⟨fun w' hS => ?_, fun K hK => ?_⟩
               · (have y0 := (HB1.out.kept hS fun e => e).cell 0
                  have y1 := (HB1.out.kept hS fun e => e).cell 1
                  have y2 := (HB1.out.kept hS fun e => e).cell 2
                  have y3 := (HB1.out.kept hS fun e => e).cell 3
                  have y4 := (HB1.out.kept hS fun e => e).cell 4
                  have y5 := (HB1.out.kept hS fun e => e).cell 5
                  simp only [List.getElem?_toArray, List.getElem?_cons_succ, List.getElem?_cons_zero] at y0 y1 y2 y3 y4 y5
                  clear hS
                  unfold takesAt; go_simp; rfl)
               go_simp
               refine hK _ ?_
               clear hK K))
          refine sch_doK rfl rfl (fun K hK => ?_)
          go_simp
          go_at_call 28
          refine (HT3.out _ (HK1.out.trans HK8.out fun _ _ h => h)).mono ?_
          rintro e w9 ⟨rfl, hk9⟩
          have HK9 := Lib.hid (HK8.out.trans hk9 fun _ _ h => h)
          have HO9 := Lib.hid (HO8.out.keptN hk9)
          have HV9 := Lib.hid (SlK.keptNone HV8.out hk9)
          refine hK _ _ HK9.out ?_
          clear hK K hk9
          repeat (first
            | (refine sch_takeE rfl rfl ?_
               apply Exists.intro
               refine ⟨fun w' hS => ?_, fun K hK => ?_⟩
               · (have y0 := (HB1.out.kept hS fun e => e).cell 0
                  have y1 := (HB1.out.kept hS fun e => e).cell 1
                  have y2 := (HB1.out.kept hS fun e => e).cell 2
                  have y3 := (HB1.out.kept hS fun e => e).cell 3
                  have y4 := (HB1.out.kept hS fun e => e).cell 4
                  have y5 := (HB1.out.kept hS fun e => e).cell 5
                  simp only [List.getElem?_toArray, List.getElem?_cons_succ, List.getElem?_cons_zero] at y0 y1 y2 y3 y4 y5
                  clear hS
                  unfold takesAt; go_simp; rfl)
               go_simp
               refine hK _ ?_
               clear hK K))
          refine sch_doK rfl rfl (fun K hK => ?_)
          go_simp
          refine hK _ _ (HK9.out.alloc _) ?_
          clear hK K
          refine sch_doK rfl rfl (fun K hK => ?_)
          refine wp_append_sl _ hostsT (.tmp 38) (.tmp 48) rfl W1.heap.size _ T.length (T.flatMap hvC) rfl (World.ownsRow.alloc HO9.out.2.1 _) _ 1 (hvC ⟨bS (nameP l1), bS l2, bS l3, A7, ts.length, c7, ts, true⟩) rfl (Sl.made_at (Blk.new w9 94 (hvC ⟨bS (nameP l1), bS l2, bS l3, A7, ts.length, c7, ts, true⟩).toArray) _ rfl rfl one_max) (by simp [hvC, Value.oneCell']) ?c1 ?c2 ?_
          case c1 => have := HTL.out; omega
          case c2 => have h2 := HK9.out.size; simp only [sz_alloc]; omega
          intro v' w10 hap
          have hk10 := hap.below (World.ownsRow.alloc HO9.out.2.1 _) (HK9.out.alloc _) (Nat.le_refl _)
          have FIN : Hid (HInv w W1 t (t.rn - (i + 1)) v' (.int .i64 ((i + 1 : Nat) : Int)) w10) := Lib.hid (by
            refine ⟨i + 1, T ++ [⟨bS (nameP l1), bS l2, bS l3, A7, ts.length, c7, ts, true⟩], _, by have := HIJ.out; omega, rfl, HMO1.out, by rw [List.length_append]; have := HTL.out; simp; omega, ⟨?_, ?_, fun x hx => ?_⟩, hk10⟩
            · rw [List.map_append, HO9.out.1]; rfl
            · have := hap.own
              rw [List.length_append, List.flatMap_append]
              simpa using this
            · rcases List.mem_append.1 hx with h | h
              · exact ⟨(HO9.out.2.2 x h).1, SlK.appendedT ((HO9.out.2.2 x h).2.alloc _) hap (World.ownsRow.alloc HO9.out.2.1 _) fun g e' hh => by rw [hh.2]; exact hty⟩
              · obtain rfl : x = _ := by simpa using h
                exact ⟨rfl, SlK.appendedT (HV9.out.alloc _) hap (World.ownsRow.alloc HO9.out.2.1 _) fun g e' hh => by rw [hh.2]; exact hty⟩)
          refine hK _ _ hk10 ?_
          clear hK K hk10 hap
          repeat (first
            | (refine sch_takeE rfl rfl ?_
               apply Exists.intro
               refine ⟨fun w' hS => ?_, fun K hK => ?_⟩
               · (have y0 := (HB1.out.kept hS fun e => e).cell 0
                  have y1 := (HB1.out.kept hS fun e => e).cell 1
                  have y2 := (HB1.out.kept hS fun e => e).cell 2
                  have y3 := (HB1.out.kept hS fun e => e).cell 3
                  have y4 := (HB1.out.kept hS fun e => e).cell 4
                  have y5 := (HB1.out.kept hS fun e => e).cell 5
                  simp only [List.getElem?_toArray, List.getElem?_cons_succ, List.getElem?_cons_zero] at y0 y1 y2 y3 y4 y5
                  clear hS
                  unfold takesAt; go_simp; rfl)
               go_simp
               refine hK _ ?_
               clear hK K))
          refine sch_nil (NoPanic.normal ?_)
          go_wp2_with fail
          go_roundg (t.rn - (i + 1))
          case measure => have := HIJ.out; omega
          case rel => exact FIN.out
    · obtain rfl : i = t.rn := by have := HIJ.out; omega
      have hfin : hostsP t.names t.vals = some hs := by rw [← HP.out, List.take_of_length_le (Nat.le_of_eq HVLEN.out)]
      have HFIN := Lib.hid hfin
      clear hfin
      go_wp2
      go_ret2
      rw [HFIN.out]
      exact ⟨HK1.out.trans HK.out fun _ _ h => h, _, T, rfl, HO.out.low HK1.out.size⟩
end Go.Proofs.YtdcdefkloibfnaaGreatDoor
namespace Go.Proofs.YtdcdefkloibfnaaGreatDoor
set_option linter.unusedVariables false
open Go.RowKit

abbrev cStatus : ByteArray := ⟨#[83, 84, 65, 84, 85, 83, 95, 67, 72, 65, 78, 71, 69]⟩
abbrev cUp : ByteArray := ⟨#[85, 80]⟩
abbrev cDown : ByteArray := ⟨#[68, 79, 87, 78]⟩
abbrev cTopo : ByteArray := ⟨#[84, 79, 80, 79, 76, 79, 71, 89, 95, 67, 72, 65, 78, 71, 69]⟩
abbrev cSchema : ByteArray := ⟨#[83, 67, 72, 69, 77, 65, 95, 67, 72, 65, 78, 71, 69]⟩
abbrev cKey : ByteArray := ⟨#[75, 69, 89, 83, 80, 65, 67, 69]⟩
/-- An event's value. -/
structure NV where
  kind : ByteArray
  what : ByteArray
  a : Option Addr
  n : Nat
  c : Nat
  addr : List UInt8
  port : Int
  sw : ByteArray
  target : ByteArray
  ss : ByteArray
  sn : ByteArray
  ga : Option Addr
  gn : Nat
  gc : Nat
def NV.v (x : NV) : Value := .agg #[.string x.kind, .string x.what, .slice x.a x.n x.c, .int .u32 x.port, .string x.sw, .string x.target, .string x.ss, .string x.sn, .slice x.ga x.gn x.gc]
def laterP (now wait : Int) : Int := if now ≤ 18446744073709551615 - wait then now + wait else 18446744073709551615
/-- What an event does: the hosts, whether it must be asked, when, and what is told. -/
structure NoteR where
  S : List Ho
  asks : Bool
  at_ : Int
  name : ByteArray
  up : Bool
  told : Bool
def noteP (S : List Ho) (wait : Int) (asks : Bool) (at_ : Int) (x : NV) (now : Int) : NoteR :=
  if x.kind = cStatus then
    if x.what = cUp ∨ x.what = cDown then
      if (markP S (bS (nameP x.addr)) (decide (x.what = cUp))).2 = true then ⟨(markP S (bS (nameP x.addr)) (decide (x.what = cUp))).1, asks, at_, bS (nameP x.addr), decide (x.what = cUp), true⟩
      else ⟨(markP S (bS (nameP x.addr)) (decide (x.what = cUp))).1, asks, at_, noStr, false, false⟩
    else ⟨S, asks, at_, noStr, false, false⟩
  else if x.kind = cTopo ∨ (x.kind = cSchema ∧ x.target = cKey) then
    if asks = true then ⟨S, asks, at_, noStr, false, false⟩ else ⟨S, true, laterP now wait, noStr, false, false⟩
  else ⟨S, asks, at_, noStr, false, false⟩
theorem strDec (a b : ByteArray) : (a.toList == b.toList) = decide (a = b) := by
  by_cases e : a = b
  · rw [e, decide_eq_true rfl, strEq_self]
  · rw [decide_eq_false e, strEq_ne e]
/-- When it must be asked, once it is asked to be. -/
def askA (asks : Bool) (at_ m : Int) : Int := if asks = true ∧ at_ ≤ m then at_ else m
/-- Must it be asked now? -/
def dueB (asks : Bool) (at_ now : Int) : Bool := asks && decide (at_ ≤ now)
end Go.Proofs.YtdcdefkloibfnaaGreatDoor
namespace Go.Proofs.YtdcdefkloibfnaaGreatDoor
set_option linter.unusedVariables false
open Go.RowKit

/-- What is known of a cluster: c its block, g its table's. -/
structure CtAt (w : World) (own : Nat → Prop) (c g : Nat) (dc : ByteArray) (rem : Int) (S : List Ho) (wait : Int) (asks : Bool) (at_ : Int) : Prop where
  blk : Blk w c 113 #[.pointer (some ⟨g, 0, none⟩), .int .u64 wait, .bool asks, .int .u64 at_]
  tab : TabS w own g dc rem S
  oc : ¬ own c
theorem one_cell (w : World) (c i : Nat) (u : Value) : Kept (fun k => k = c) w (w.setCell ⟨c, i, none⟩ u) := (Kept.refl (fun k => k = c) w).setCell (p := ⟨c, i, none⟩) (fun _ => rfl) u
section
variable {w w' : World} {own : Nat → Prop} {c g : Nat} {dc : ByteArray} {rem : Int} {S : List Ho} {wait at_ : Int} {asks : Bool}
theorem CtAt.keptN (h : CtAt w own c g dc rem S wait asks at_) (hk : Kept noBlock w w') : CtAt w' own c g dc rem S wait asks at_ := ⟨h.blk.kept hk fun e => e, h.tab.kept hk fun _ _ e => e, h.oc⟩
theorem CtAt.cells (h : CtAt w own c g dc rem S wait asks at_) : w.cell? ⟨c, 0, none⟩ = some (.pointer (some ⟨g, 0, none⟩)) ∧ w.cell? ⟨c, 1, none⟩ = some (.int .u64 wait) ∧ w.cell? ⟨c, 2, none⟩ = some (.bool asks) ∧ w.cell? ⟨c, 3, none⟩ = some (.int .u64 at_) ∧ w.frozen? ⟨c, 2, none⟩ = false ∧ w.frozen? ⟨c, 3, none⟩ = false :=
  ⟨h.blk.cell 0, h.blk.cell 1, h.blk.cell 2, h.blk.cell 3, h.blk.frozen 2, h.blk.frozen 3⟩
theorem CtAt.setAsks (h : CtAt w own c g dc rem S wait asks at_) (b : Bool) : CtAt (w.setCell ⟨c, 2, none⟩ (.bool b)) own c g dc rem S wait b at_ :=
  ⟨h.blk.set_ 2 (.bool b), h.tab.kept (one_cell w c _ _) fun k e (e2 : k = c) => h.oc (e2 ▸ e), h.oc⟩
theorem CtAt.setAt (h : CtAt w own c g dc rem S wait asks at_) (m : Int) : CtAt (w.setCell ⟨c, 3, none⟩ (.int .u64 m)) own c g dc rem S wait asks m :=
  ⟨h.blk.set_ 3 (.int .u64 m), h.tab.kept (one_cell w c _ _) fun k e (e2 : k = c) => h.oc (e2 ▸ e), h.oc⟩
set_option maxHeartbeats 1000000 in
set_option maxRecDepth 100000 in
theorem cNew_at (dc : ByteArray) (rem wait : Int) (w : World) : Calls Tryz.prog 18 #[.string dc, .int .i64 rem, .int .u64 wait] w fun e w' => ∃ c g own, e = .returned (.pointer (some ⟨c, 0, none⟩)) ∧ CtAt w' own c g dc rem [] wait false 0 ∧ w.heap.size ≤ c ∧ (∀ k, own k → w.heap.size ≤ k) ∧ Kept noBlock w w' := by
  have HN := Lib.hid (hNew_tab dc rem w)
  go_enter Tryz.func18, Tryz.ntmps18
  go_wp2_with fail
  go_at_call 37
  refine HN.out.mono ?_
  rintro e w1 ⟨g, own, rfl, hT, ho, hk⟩
  have hT2 := hT.kept ((Kept.refl noBlock w1).alloc (.cells #[.pointer (some ⟨g, 0, none⟩), .int .u64 wait, .bool false, .int .u64 0] 113)) (fun _ _ e => e)
  go_wp2
  go_ret
  exact ⟨_, _, own, rfl, ⟨Blk.new _ _ _, hT2, fun e => absurd (ho _ e).2 (Nat.lt_irrefl _)⟩, hk.size, fun k e => (ho k e).1, hk.alloc _⟩
set_option maxHeartbeats 1000000 in
set_option maxRecDepth 100000 in
theorem cTable_at (h : CtAt w own c g dc rem S wait asks at_) : Calls Tryz.prog 20 #[.pointer (some ⟨c, 0, none⟩)] w fun e w' => e = .returned (.pointer (some ⟨g, 0, none⟩)) ∧ w' = w := by
  obtain ⟨c0, c1, c2, c3, f2, f3⟩ := h.cells
  clear h
  go_enter Tryz.func20, Tryz.ntmps20
  go_wp2
  go_ret
  exact ⟨rfl, rfl⟩
set_option maxHeartbeats 1000000 in
set_option maxRecDepth 100000 in
theorem cTableN_at (w : World) : Calls Tryz.prog 20 #[.pointer none] w fun e w' => e = .returned (.pointer none) ∧ w' = w := by
  go_enter Tryz.func20, Tryz.ntmps20
  go_wp2
  go_ret
  exact ⟨rfl, rfl⟩
set_option maxHeartbeats 1000000 in
set_option maxRecDepth 100000 in
theorem cAsk_at (h : CtAt w own c g dc rem S wait asks at_) (m : Int) : Calls Tryz.prog 24 #[.pointer (some ⟨c, 0, none⟩), .int .u64 m] w fun e w' => (∃ v, e = .returned v) ∧ CtAt w' own c g dc rem S wait true (askA asks at_ m) ∧ Kept (fun k => k = c) w w' := by
  obtain ⟨c0, c1, c2, c3, f2, f3⟩ := h.cells
  have H1 := Lib.hid (h.setAsks true)
  have H2 := Lib.hid ((h.setAt m).setAsks true)
  have K1 : Hid (Kept (fun k => k = c) w (w.setCell ⟨c, 2, none⟩ (.bool true))) := Lib.hid (one_cell w c _ _)
  have K2 : Hid (Kept (fun k => k = c) w ((w.setCell ⟨c, 3, none⟩ (.int .u64 m)).setCell ⟨c, 2, none⟩ (.bool true))) := Lib.hid ((one_cell w c _ _).trans (one_cell _ c _ _) fun _ _ e => e)
  clear h
  cases asks with
  | false =>
    have HA : Hid (askA false at_ m = m) := Lib.hid (by unfold askA; simp)
    go_enter Tryz.func24, Tryz.ntmps24
    go_wp2
    go_end0
    rw [HA.out]
    exact ⟨⟨_, rfl⟩, H2.out, K2.out⟩
  | true =>
    by_cases hm : m < at_
    · have HA : Hid (askA true at_ m = m) := Lib.hid (by unfold askA; rw [if_neg (by omega)])
      go_enter Tryz.func24, Tryz.ntmps24
      go_wp2
      go_end0
      rw [HA.out]
      exact ⟨⟨_, rfl⟩, H2.out, K2.out⟩
    · have HA : Hid (askA true at_ m = at_) := Lib.hid (by unfold askA; rw [if_pos ⟨rfl, by omega⟩])
      go_enter Tryz.func24, Tryz.ntmps24
      go_wp2
      go_end0
      rw [HA.out]
      exact ⟨⟨_, rfl⟩, H1.out, K1.out⟩
set_option maxHeartbeats 1000000 in
set_option maxRecDepth 100000 in
theorem cAskN_at (m : Int) (w : World) : Calls Tryz.prog 24 #[.pointer none, .int .u64 m] w fun e w' => (∃ v, e = .returned v) ∧ w' = w := by
  go_enter Tryz.func24, Tryz.ntmps24
  go_wp2
  refine bodyPost_ret (results_none rfl _ _ _) rfl ?_
  exact ⟨⟨_, rfl⟩, rfl⟩
set_option maxHeartbeats 1000000 in
set_option maxRecDepth 100000 in
theorem cDue_at (h : CtAt w own c g dc rem S wait asks at_) (now : Int) : Calls Tryz.prog 25 #[.pointer (some ⟨c, 0, none⟩), .int .u64 now] w fun e w' => e = .returned (.bool (dueB asks at_ now)) ∧ CtAt w' own c g dc rem S wait (asks && !dueB asks at_ now) at_ ∧ Kept (fun k => k = c) w w' := by
  obtain ⟨c0, c1, c2, c3, f2, f3⟩ := h.cells
  have H0 := Lib.hid h
  have H1 := Lib.hid (h.setAsks false)
  have K1 : Hid (Kept (fun k => k = c) w (w.setCell ⟨c, 2, none⟩ (.bool false))) := Lib.hid (one_cell w c _ _)
  clear h
  cases asks with
  | false =>
    go_enter Tryz.func25, Tryz.ntmps25
    go_wp2
    go_ret
    exact ⟨rfl, H0.out, Kept.refl _ _⟩
  | true =>
    by_cases hm : now < at_
    · have HA : Hid (dueB true at_ now = false) := Lib.hid (by unfold dueB; simp; omega)
      go_enter Tryz.func25, Tryz.ntmps25
      go_wp2
      go_ret
      rw [HA.out]
      exact ⟨rfl, H0.out, Kept.refl _ _⟩
    · have HA : Hid (dueB true at_ now = true) := Lib.hid (by unfold dueB; simp; omega)
      go_enter Tryz.func25, Tryz.ntmps25
      go_wp2
      go_ret
      rw [HA.out]
      exact ⟨rfl, H1.out, K1.out⟩
set_option maxHeartbeats 1000000 in
set_option maxRecDepth 100000 in
theorem cDueN_at (now : Int) (w : World) : Calls Tryz.prog 25 #[.pointer none, .int .u64 now] w fun e w' => e = .returned (.bool false) ∧ w' = w := by
  go_enter Tryz.func25, Tryz.ntmps25
  go_wp2
  go_ret
  exact ⟨rfl, rfl⟩
end
end Go.Proofs.YtdcdefkloibfnaaGreatDoor
namespace Go.Proofs.YtdcdefkloibfnaaGreatDoor
set_option linter.unusedVariables false
open Go.RowKit

section
variable {w w' : World} {own : Nat → Prop} {c g : Nat} {dc : ByteArray} {rem : Int} {S : List Ho} {wait at_ : Int} {asks : Bool}
def NotePost (w : World) (own : Nat → Prop) (c g : Nat) (dc : ByteArray) (rem wait : Int) (r : NoteR) (e : Ending) (w' : World) : Prop :=
  e = .returned (.tuple #[.string r.name, .bool r.up, .bool r.told]) ∧ CtAt w' own c g dc rem r.S wait r.asks r.at_ ∧ Kept (fun k => own k ∨ k = c) w w'
set_option maxHeartbeats 4000000 in
set_option maxRecDepth 100000 in
theorem cNote_at (h : CtAt w own c g dc rem S wait asks at_) (hw : 0 ≤ wait ∧ wait ≤ 18446744073709551615) (x : NV) {ok : Nat → TypeId → Prop} (hx : SlK w ok 1 (.slice x.a x.n x.c) x.n (bsC x.addr)) (hd : Doors w) (now : Int) (hnow : 0 ≤ now ∧ now ≤ 18446744073709551615) :
    Calls Tryz.prog 23 #[.pointer (some ⟨c, 0, none⟩), x.v, .int .u64 now] w fun e w' => NotePost w own c g dc rem wait (noteP S wait asks at_ x now) e w' := by
  obtain ⟨kind, what, xa, xn, xc, addr, port, sw, target, ss, sn, ga, gn, gc⟩ := x
  have hk1 : Kept noBlock w (w.alloc (.cells #[.string kind, .string what, .slice xa xn xc, .int .u32 port, .string sw, .string target, .string ss, .string sn, .slice ga gn gc] 67)) := (Kept.refl noBlock w).alloc _
  have HC := Lib.hid (h.keptN hk1)
  have hx1 := SlK.keptNone hx hk1
  have hd1 := hd.keptN hk1
  have HNM := Lib.hid (cName_at hx1 hd1)
  have HK1 := Lib.hid hk1
  have q1 := strDec kind cStatus
  rw [show cStatus.toList = [83, 84, 65, 84, 85, 83, 95, 67, 72, 65, 78, 71, 69] by decide +kernel] at q1
  have q2 := strDec what cUp
  have q3 := strDec what cDown
  rw [show cUp.toList = [85, 80] by decide +kernel] at q2
  rw [show cDown.toList = [68, 79, 87, 78] by decide +kernel] at q3
  have q4 := strDec kind cTopo
  rw [show cTopo.toList = [84, 79, 80, 79, 76, 79, 71, 89, 95, 67, 72, 65, 78, 71, 69] by decide +kernel] at q4
  have q5 := strDec kind cSchema
  rw [show cSchema.toList = [83, 67, 72, 69, 77, 65, 95, 67, 72, 65, 78, 71, 69] by decide +kernel] at q5
  have q6 := strDec target cKey
  rw [show cKey.toList = [75, 69, 89, 83, 80, 65, 67, 69] by decide +kernel] at q6
  have hb1 := Blk.new w 67 #[.string kind, .string what, .slice xa xn xc, .int .u32 port, .string sw, .string target, .string ss, .string sn, .slice ga gn gc]
  have HB1 := Lib.hid hb1
  unfold NV.v noteP
  simp only [] at *
  clear h hx hx1 hd hd1 hk1 hb1
  by_cases e1 : kind = cStatus
  · rw [if_pos e1]
    rw [decide_eq_true e1] at q1
    clear e1 q4 q5 q6
    generalize nameP addr = nm at *
    by_cases e2 : what = cUp
    · rw [if_pos (.inl e2)]
      rw [decide_eq_true e2] at q2 ⊢
      clear e2 q3
      have HM := Lib.hid (fun (W : World) (hW : TabS W own g dc rem S) => hMark_at hW (bS nm) true)
      cases hm : (markP S (bS nm) true).2 with
      | true =>
        rw [hm] at HM
        rw [if_pos rfl]
        clear hm
        go_enter Tryz.func23, Tryz.ntmps23
        go_wp2_with fail
        go_at_call 15
        refine HNM.out.mono ?_
        rintro e w2 ⟨rfl, hk2⟩
        have h2 := HC.out.keptN hk2
        obtain ⟨c0, c1, c2, c3, f2, f3⟩ := h2.cells
        have b0 := (HB1.out.kept hk2 fun e => e).cell 0
        have b1 := (HB1.out.kept hk2 fun e => e).cell 1
        have b5 := (HB1.out.kept hk2 fun e => e).cell 5
        simp only [List.getElem?_toArray, List.getElem?_cons_succ, List.getElem?_cons_zero] at b0 b1 b5
        have H2 := Lib.hid h2
        have HK2 := Lib.hid (HK1.out.trans hk2 fun _ _ h => h)
        clear h2 hk2
        go_wp2_with fail
        go_at_call 50
        refine (HM.out _ H2.out.tab).mono ?_
        rintro e w3 ⟨rfl, hT3, hk3⟩
        have HC3 := Lib.hid (show CtAt w3 own c g dc rem _ wait asks at_ from ⟨H2.out.blk.kept hk3 H2.out.oc, hT3, H2.out.oc⟩)
        have HK3 := Lib.hid (show Kept (fun k => own k ∨ k = c) w w3 from (HK2.out.mono fun k _ e => e.elim).trans (hk3.mono fun k _ e => .inl e) fun _ _ e => e)
        clear hT3 hk3
        go_wp2
        go_ret3
        exact ⟨rfl, HC3.out, HK3.out⟩
      | false =>
        rw [hm] at HM
        rw [if_neg (by decide)]
        clear hm
        go_enter Tryz.func23, Tryz.ntmps23
        go_wp2_with fail
        go_at_call 15
        refine HNM.out.mono ?_
        rintro e w2 ⟨rfl, hk2⟩
        have h2 := HC.out.keptN hk2
        obtain ⟨c0, c1, c2, c3, f2, f3⟩ := h2.cells
        have b0 := (HB1.out.kept hk2 fun e => e).cell 0
        have b1 := (HB1.out.kept hk2 fun e => e).cell 1
        have b5 := (HB1.out.kept hk2 fun e => e).cell 5
        simp only [List.getElem?_toArray, List.getElem?_cons_succ, List.getElem?_cons_zero] at b0 b1 b5
        have H2 := Lib.hid h2
        have HK2 := Lib.hid (HK1.out.trans hk2 fun _ _ h => h)
        clear h2 hk2
        go_wp2_with fail
        go_at_call 50
        refine (HM.out _ H2.out.tab).mono ?_
        rintro e w3 ⟨rfl, hT3, hk3⟩
        have HC3 := Lib.hid (show CtAt w3 own c g dc rem _ wait asks at_ from ⟨H2.out.blk.kept hk3 H2.out.oc, hT3, H2.out.oc⟩)
        have HK3 := Lib.hid (show Kept (fun k => own k ∨ k = c) w w3 from (HK2.out.mono fun k _ e => e.elim).trans (hk3.mono fun k _ e => .inl e) fun _ _ e => e)
        clear hT3 hk3
        go_wp2
        go_ret3
        exact ⟨rfl, HC3.out, HK3.out⟩
    · by_cases e3 : what = cDown
      · rw [if_pos (.inr e3)]
        rw [decide_eq_false e2] at q2 ⊢
        rw [decide_eq_true e3] at q3
        clear e2 e3
        have HM := Lib.hid (fun (W : World) (hW : TabS W own g dc rem S) => hMark_at hW (bS nm) false)
        cases hm : (markP S (bS nm) false).2 with
        | true =>
          rw [hm] at HM
          rw [if_pos rfl]
          clear hm
          go_enter Tryz.func23, Tryz.ntmps23
          go_wp2_with fail
          go_at_call 15
          refine HNM.out.mono ?_
          rintro e w2 ⟨rfl, hk2⟩
          have h2 := HC.out.keptN hk2
          obtain ⟨c0, c1, c2, c3, f2, f3⟩ := h2.cells
          have b0 := (HB1.out.kept hk2 fun e => e).cell 0
          have b1 := (HB1.out.kept hk2 fun e => e).cell 1
          have b5 := (HB1.out.kept hk2 fun e => e).cell 5
          simp only [List.getElem?_toArray, List.getElem?_cons_succ, List.getElem?_cons_zero] at b0 b1 b5
          have H2 := Lib.hid h2
          have HK2 := Lib.hid (HK1.out.trans hk2 fun _ _ h => h)
          clear h2 hk2
          go_wp2_with fail
          go_at_call 50
          refine (HM.out _ H2.out.tab).mono ?_
          rintro e w3 ⟨rfl, hT3, hk3⟩
          have HC3 := Lib.hid (show CtAt w3 own c g dc rem _ wait asks at_ from ⟨H2.out.blk.kept hk3 H2.out.oc, hT3, H2.out.oc⟩)
          have HK3 := Lib.hid (show Kept (fun k => own k ∨ k = c) w w3 from (HK2.out.mono fun k _ e => e.elim).trans (hk3.mono fun k _ e => .inl e) fun _ _ e => e)
          clear hT3 hk3
          go_wp2
          go_ret3
          exact ⟨rfl, HC3.out, HK3.out⟩
        | false =>
          rw [hm] at HM
          rw [if_neg (by decide)]
          clear hm
          go_enter Tryz.func23, Tryz.ntmps23
          go_wp2_with fail
          go_at_call 15
          refine HNM.out.mono ?_
          rintro e w2 ⟨rfl, hk2⟩
          have h2 := HC.out.keptN hk2
          obtain ⟨c0, c1, c2, c3, f2, f3⟩ := h2.cells
          have b0 := (HB1.out.kept hk2 fun e => e).cell 0
          have b1 := (HB1.out.kept hk2 fun e => e).cell 1
          have b5 := (HB1.out.kept hk2 fun e => e).cell 5
          simp only [List.getElem?_toArray, List.getElem?_cons_succ, List.getElem?_cons_zero] at b0 b1 b5
          have H2 := Lib.hid h2
          have HK2 := Lib.hid (HK1.out.trans hk2 fun _ _ h => h)
          clear h2 hk2
          go_wp2_with fail
          go_at_call 50
          refine (HM.out _ H2.out.tab).mono ?_
          rintro e w3 ⟨rfl, hT3, hk3⟩
          have HC3 := Lib.hid (show CtAt w3 own c g dc rem _ wait asks at_ from ⟨H2.out.blk.kept hk3 H2.out.oc, hT3, H2.out.oc⟩)
          have HK3 := Lib.hid (show Kept (fun k => own k ∨ k = c) w w3 from (HK2.out.mono fun k _ e => e.elim).trans (hk3.mono fun k _ e => .inl e) fun _ _ e => e)
          clear hT3 hk3
          go_wp2
          go_ret3
          exact ⟨rfl, HC3.out, HK3.out⟩
      · rw [if_neg fun e => e.elim e2 e3]
        rw [decide_eq_false e2] at q2
        rw [decide_eq_false e3] at q3
        clear e2 e3
        go_enter Tryz.func23, Tryz.ntmps23
        go_wp2_with fail
        go_at_call 15
        refine HNM.out.mono ?_
        rintro e w2 ⟨rfl, hk2⟩
        have h2 := HC.out.keptN hk2
        have b1 := (HB1.out.kept hk2 fun e => e).cell 1
        simp only [List.getElem?_toArray, List.getElem?_cons_succ, List.getElem?_cons_zero] at b1
        have H2 := Lib.hid h2
        have HK2 := Lib.hid ((HK1.out.trans hk2 fun _ _ h => h).mono (T := fun k => own k ∨ k = c) fun k _ e => e.elim)
        clear h2 hk2
        go_wp2
        go_ret3
        exact ⟨rfl, H2.out, HK2.out⟩
  · rw [if_neg e1]
    rw [decide_eq_false e1] at q1
    clear e1 q2 q3 HNM
    have HK2 := Lib.hid (HK1.out.mono (T := fun k => own k ∨ k = c) fun k _ e => e.elim)
    obtain ⟨c0, c1, c2, c3, f2, f3⟩ := HC.out.cells
    have b0 := HB1.out.cell 0
    have b5 := HB1.out.cell 5
    simp only [List.getElem?_toArray, List.getElem?_cons_succ, List.getElem?_cons_zero] at b0 b5
    by_cases e4 : kind = cTopo
    · rw [if_pos (.inl e4)]
      rw [decide_eq_true e4] at q4
      clear e4 q5 q6
      cases asks with
      | true =>
        rw [if_pos rfl]
        go_enter Tryz.func23, Tryz.ntmps23
        go_wp2
        go_ret3
        exact ⟨rfl, HC.out, HK2.out⟩
      | false =>
        rw [if_neg (by decide)]
        by_cases hl : now ≤ 18446744073709551615 - wait
        · have HLT : Hid (laterP now wait = now + wait) := Lib.hid (by unfold laterP; rw [if_pos hl])
          have HA := Lib.hid (cAsk_at HC.out (laterP now wait))
          rw [HLT.out] at HA ⊢
          go_enter Tryz.func23, Tryz.ntmps23
          go_wp2_with fail
          go_at_call 24
          refine HA.out.mono ?_
          rintro e w3 ⟨⟨v3, rfl⟩, hc3, hk3⟩
          have HK3 := Lib.hid (HK2.out.trans (hk3.mono (T := fun k => own k ∨ k = c) fun k _ e => .inr e) fun _ _ e => e)
          have HC3 := Lib.hid hc3
          clear hk3 hc3
          go_wp2
          go_ret3
          exact ⟨rfl, HC3.out, HK3.out⟩
        · have HLT : Hid (laterP now wait = 18446744073709551615) := Lib.hid (by unfold laterP; rw [if_neg hl])
          have HA := Lib.hid (cAsk_at HC.out (laterP now wait))
          rw [HLT.out] at HA ⊢
          go_enter Tryz.func23, Tryz.ntmps23
          go_wp2_with fail
          go_at_call 24
          refine HA.out.mono ?_
          rintro e w3 ⟨⟨v3, rfl⟩, hc3, hk3⟩
          have HK3 := Lib.hid (HK2.out.trans (hk3.mono (T := fun k => own k ∨ k = c) fun k _ e => .inr e) fun _ _ e => e)
          have HC3 := Lib.hid hc3
          clear hk3 hc3
          go_wp2
          go_ret3
          exact ⟨rfl, HC3.out, HK3.out⟩
    · rw [decide_eq_false e4] at q4
      by_cases e5 : kind = cSchema
      · rw [decide_eq_true e5] at q5
        by_cases e6 : target = cKey
        · rw [if_pos (.inr ⟨e5, e6⟩)]
          rw [decide_eq_true e6] at q6
          clear e4 e5 e6
          cases asks with
          | true =>
            rw [if_pos rfl]
            go_enter Tryz.func23, Tryz.ntmps23
            go_wp2
            go_ret3
            exact ⟨rfl, HC.out, HK2.out⟩
          | false =>
            rw [if_neg (by decide)]
            by_cases hl : now ≤ 18446744073709551615 - wait
            · have HLT : Hid (laterP now wait = now + wait) := Lib.hid (by unfold laterP; rw [if_pos hl])
              have HA := Lib.hid (cAsk_at HC.out (laterP now wait))
              rw [HLT.out] at HA ⊢
              go_enter Tryz.func23, Tryz.ntmps23
              go_wp2_with fail
              go_at_call 24
              refine HA.out.mono ?_
              rintro e w3 ⟨⟨v3, rfl⟩, hc3, hk3⟩
              have HK3 := Lib.hid (HK2.out.trans (hk3.mono (T := fun k => own k ∨ k = c) fun k _ e => .inr e) fun _ _ e => e)
              have HC3 := Lib.hid hc3
              clear hk3 hc3
              go_wp2
              go_ret3
              exact ⟨rfl, HC3.out, HK3.out⟩
            · have HLT : Hid (laterP now wait = 18446744073709551615) := Lib.hid (by unfold laterP; rw [if_neg hl])
              have HA := Lib.hid (cAsk_at HC.out (laterP now wait))
              rw [HLT.out] at HA ⊢
              go_enter Tryz.func23, Tryz.ntmps23
              go_wp2_with fail
              go_at_call 24
              refine HA.out.mono ?_
              rintro e w3 ⟨⟨v3, rfl⟩, hc3, hk3⟩
              have HK3 := Lib.hid (HK2.out.trans (hk3.mono (T := fun k => own k ∨ k = c) fun k _ e => .inr e) fun _ _ e => e)
              have HC3 := Lib.hid hc3
              clear hk3 hc3
              go_wp2
              go_ret3
              exact ⟨rfl, HC3.out, HK3.out⟩
        · rw [if_neg fun e => e.elim e4 fun e => e6 e.2]
          rw [decide_eq_false e6] at q6
          clear e4 e5 e6
          go_enter Tryz.func23, Tryz.ntmps23
          go_wp2
          go_ret3
          exact ⟨rfl, HC.out, HK2.out⟩
      · rw [if_neg fun e => e.elim e4 fun e => e5 e.1]
        rw [decide_eq_false e5] at q5
        clear e4 e5 q6
        go_enter Tryz.func23, Tryz.ntmps23
        go_wp2
        go_ret3
        exact ⟨rfl, HC.out, HK2.out⟩

set_option maxHeartbeats 1000000 in
set_option maxRecDepth 100000 in
theorem cNoteN_at (x : NV) (now : Int) (w : World) : Calls Tryz.prog 23 #[.pointer none, x.v, .int .u64 now] w fun e w' => e = .returned (.tuple #[.string noStr, .bool false, .bool false]) ∧ Kept noBlock w w' := by
  obtain ⟨kind, what, xa, xn, xc, addr, port, sw, target, ss, sn, ga, gn, gc⟩ := x
  unfold NV.v
  simp only []
  go_enter Tryz.func23, Tryz.ntmps23
  go_wp2
  go_ret3
  exact ⟨rfl, (Kept.refl noBlock w).alloc _⟩
end
end Go.Proofs.YtdcdefkloibfnaaGreatDoor
namespace Go.Proofs.YtdcdefkloibfnaaGreatDoor
set_option linter.unusedVariables false
open Go.RowKit

/-- The hosts of two tables. -/
def bothP (t1 t2 : TV2) : Option (List Ho) :=
  match hostsP t1.names t1.vals, hostsP t2.names t2.vals with
  | some a, some b => some (a ++ b)
  | _, _ => none
theorem both_1 {t1 t2 : TV2} (h : hostsP t1.names t1.vals = none) : bothP t1 t2 = none := by unfold bothP; rw [h]
theorem both_2 {t1 t2 : TV2} {a : List Ho} (h : hostsP t1.names t1.vals = some a) (h2 : hostsP t2.names t2.vals = none) : bothP t1 t2 = none := by unfold bothP; rw [h, h2]
theorem both_3 {t1 t2 : TV2} {a b : List Ho} (h : hostsP t1.names t1.vals = some a) (h2 : hostsP t2.names t2.vals = some b) : bothP t1 t2 = some (a ++ b) := by unfold bothP; rw [h, h2]
/-- What Refresh gives. -/
def CRefPost (w : World) (own : Nat → Prop) (c g : Nat) (dc : ByteArray) (rem : Int) (S : List Ho) (wait : Int) (asks : Bool) (at_ : Int) (R : Option (List Ho)) (e : Ending) (w' : World) : Prop :=
  match R with
  | none => e = .returned (.tuple #[.slice none 0 0, .slice none 0 0, .int .i64 11]) ∧ CtAt w' own c g dc rem S wait asks at_ ∧ Kept noBlock w w'
  | some l => ∃ own' A1 c1 A2 c2, e = .returned (.tuple #[.slice A1 (addedP (viewS S) (refNow (viewS S) l)).length c1, .slice A2 (goneP S (refNow (viewS S) l)).length c2, .int .i64 0]) ∧
      SlK w' (fun k _ => w.heap.size ≤ k) 1 (.slice A1 (addedP (viewS S) (refNow (viewS S) l)).length c1) (addedP (viewS S) (refNow (viewS S) l)).length ((addedP (viewS S) (refNow (viewS S) l)).map Value.string) ∧
      SlK w' (fun k _ => w.heap.size ≤ k) 1 (.slice A2 (goneP S (refNow (viewS S) l)).length c2) (goneP S (refNow (viewS S) l)).length ((goneP S (refNow (viewS S) l)).map Value.string) ∧
      CtAt w' own' c g dc rem (refNow (viewS S) l) wait asks at_ ∧ (∀ k, own' k → own k ∨ w.heap.size ≤ k) ∧ Kept own w w'
theorem hv_one {L : List HV} {u : Value} (h : u ∈ L.flatMap hvC) : u.oneCell' = true := by
  obtain ⟨a, _, h⟩ := List.mem_flatMap.1 h
  simp only [hvC, List.mem_cons, List.not_mem_nil, or_false] at h
  rcases h with rfl | rfl | rfl | rfl | rfl <;> rfl
theorem own_toks {w : World} {B : Nat} {t : TV2} {hs : List Ho} (h : TblAt w B t) (hb : TblOk t) (hh : hostsP t.names t.vals = some hs) : ∀ o ∈ hs, o.toks.length ≤ 250 :=
  hosts_toks t.vals [] hs (fun r hr v hv => by
    obtain ⟨x, hx, rfl⟩ := List.mem_map.1 hr
    obtain ⟨y, hy, rfl⟩ := List.mem_map.1 hv
    have h1 := (h.rr x hx).2.2 y hy
    have h2 := hb.val x hx y hy
    show y.l.length ≤ _
    rw [h1.1]; exact h2) (fun o ho => by cases ho) hh
theorem own_len {w : World} {B : Nat} {t : TV2} {hs : List Ho} (h : TblAt w B t) (hh : hostsP t.names t.vals = some hs) : hs.length ≤ t.rn := by
  have h1 := hosts_len t.names t.vals [] hs hh
  have h2 : t.vals.length = t.rn := by show (t.rows.map _).length = _; rw [List.length_map]; exact h.rl
  simp at h1; omega
set_option maxHeartbeats 4000000 in
set_option maxRecDepth 100000 in
theorem cRefresh_at {w : World} {own : Nat → Prop} {c g : Nat} {dc : ByteArray} {rem : Int} {S : List Ho} {wait at_ : Int} {asks : Bool} {B1 B2 : Nat} {t1 t2 : TV2} (h : CtAt w own c g dc rem S wait asks at_) (hS : S.length ≤ 100000) (h1 : TblAt w B1 t1) (hb1 : TblOk t1) (h2 : TblAt w B2 t2) (hb2 : TblOk t2)
    (hr1 : t1.rn ≤ 50000) (hr2 : t2.rn ≤ 50000) (hd : Doors w) :
    Calls Tryz.prog 22 #[.pointer (some ⟨c, 0, none⟩), t1.v, t2.v] w fun e w' => CRefPost w own c g dc rem S wait asks at_ (bothP t1 t2) e w' := by
  have hk2 : Kept noBlock w ((w.alloc (.cells #[.int .i64 t1.cnt, .slice t1.ca t1.cn t1.cc, .bool t1.more, .int .i64 t1.sk, .slice t1.sa t1.sn t1.sc, .slice t1.ra t1.rn t1.rc] 28)).alloc (.cells #[.int .i64 t2.cnt, .slice t2.ca t2.cn t2.cc, .bool t2.more, .int .i64 t2.sk, .slice t2.sa t2.sn t2.sc, .slice t2.ra t2.rn t2.rc] 28)) := ((Kept.refl noBlock w).alloc _).alloc _
  have hB2 : Blk ((w.alloc (.cells #[.int .i64 t1.cnt, .slice t1.ca t1.cn t1.cc, .bool t1.more, .int .i64 t1.sk, .slice t1.sa t1.sn t1.sc, .slice t1.ra t1.rn t1.rc] 28)).alloc (.cells #[.int .i64 t2.cnt, .slice t2.ca t2.cn t2.cc, .bool t2.more, .int .i64 t2.sk, .slice t2.sa t2.sn t2.sc, .slice t2.ra t2.rn t2.rc] 28)) (w.heap.size + 1) 28 #[.int .i64 t2.cnt, .slice t2.ca t2.cn t2.cc, .bool t2.more, .int .i64 t2.sk, .slice t2.sa t2.sn t2.sc, .slice t2.ra t2.rn t2.rc] := Blk.new_at _ _ _ (by rw [sz_alloc])
  have HH1 := Lib.hid (cHosts_at (h1.keptN hk2) hb1 (hd.keptN hk2))
  have HH2 := Lib.hid (fun (W : World) (hk : Kept noBlock w W) => cHosts_at (h2.keptN hk) hb2 (hd.keptN hk))
  have HT1 := Lib.hid (fun hs (hh : hostsP t1.names t1.vals = some hs) => own_toks h1 hb1 hh)
  have HT2 := Lib.hid (fun hs (hh : hostsP t2.names t2.vals = some hs) => own_toks h2 hb2 hh)
  have HL1 := Lib.hid (fun hs (hh : hostsP t1.names t1.vals = some hs) => own_len h1 hh)
  have HL2 := Lib.hid (fun hs (hh : hostsP t2.names t2.vals = some hs) => own_len h2 hh)
  have HC := Lib.hid h
  have HB2 := Lib.hid hB2
  have HK2 := Lib.hid hk2
  have HR1 := Lib.hid hr1
  have HR2 := Lib.hid hr2
  clear h h1 h2 hb1 hb2 hd hk2 hB2 hr1 hr2
  unfold TV2.v at HH1 HH2 ⊢
  go_enter Tryz.func22, Tryz.ntmps22
  go_wp2_with fail
  go_at_call 10
  refine HH1.out.mono ?_
  intro e w3 hp3
  obtain ⟨hk3, hm3⟩ := hp3
  have HK3 := Lib.hid (HK2.out.trans hk3 fun _ _ h => h)
  have HW2 := Lib.hid hk3.size
  have hb3 := HB2.out.kept hk3 fun e => e
  clear hk3 HH1
  cases ha : hostsP t1.names t1.vals with
  | none =>
    rw [ha] at hm3
    have HBO := Lib.hid (both_1 (t2 := t2) ha)
    obtain rfl := hm3
    clear ha hb3
    go_wp2
    go_ret3
    rw [HBO.out]
    exact ⟨rfl, HC.out.keptN HK3.out, HK3.out⟩
  | some a =>
    rw [ha] at hm3
    obtain ⟨va, T1, rfl, ho3⟩ := hm3
    have HA := Lib.hid ha
    have HO3 := Lib.hid ho3
    obtain ⟨Aa, ca, rfl, -, -⟩ := (Sl.of_own ho3.2.1).shape
    have z0 := hb3.cell 0
    have z1 := hb3.cell 1
    have z2 := hb3.cell 2
    have z3 := hb3.cell 3
    have z4 := hb3.cell 4
    have z5 := hb3.cell 5
    simp only [List.getElem?_toArray, List.getElem?_cons_succ, List.getElem?_cons_zero] at z0 z1 z2 z3 z4 z5
    have HH3 := Lib.hid (HH2.out w3 HK3.out)
    clear ha ho3 hb3 HH2
    go_wp2_with fail
    go_at_call 10
    refine HH3.out.mono ?_
    intro e w4 hp4
    obtain ⟨hk4, hm4⟩ := hp4
    have HK4 := Lib.hid (HK3.out.trans hk4 fun _ _ h => h)
    have HO4 := Lib.hid (HO3.out.keptN hk4)
    have HK34 := Lib.hid hk4
    clear hk4 HH3 z0 z1 z2 z3 z4 z5
    cases hb : hostsP t2.names t2.vals with
    | none =>
      rw [hb] at hm4
      have HBO := Lib.hid (both_2 HA.out hb)
      obtain rfl := hm4
      clear hb
      go_wp2
      go_ret3
      rw [HBO.out]
      exact ⟨rfl, HC.out.keptN HK4.out, HK4.out⟩
    | some b =>
      rw [hb] at hm4
      have HBO := Lib.hid (both_3 HA.out hb)
      obtain ⟨vb, T2, rfl, ho4⟩ := hm4
      have HOB := Lib.hid ho4
      obtain ⟨Ab, cb, rfl, -, -⟩ := (Sl.of_own ho4.2.1).shape
      have HOA := Lib.hid (HO4.out.low HK2.out.size)
      have HOC := Lib.hid (HOB.out.low (show w.heap.size ≤ _ from HK3.out.size))
      have HTA := Lib.hid (HT1.out a HA.out)
      have HTB := Lib.hid (HT2.out b hb)
      have hla : T1.length ≤ 50000 := by have h1 := HL1.out a HA.out; have h2 := congrArg List.length HO4.out.1; rw [List.length_map] at h2; have := HR1.out; omega
      have hlb : T2.length ≤ 50000 := by have h1 := HL2.out b hb; have h2 := congrArg List.length HOB.out.1; rw [List.length_map] at h2; have := HR2.out; omega
      have HC4 := Lib.hid (HC.out.keptN HK4.out)
      clear hb ho4
      go_wp2_with fail
      refine wp_region_sch (fun w' => Kept own w w') (.take 0 (.take 1 (.take 2 (.take 3 (.take 4 (.take 5 (.one 6 (.one 7 (.take 8 (.take 9 (.take 10 (.take 11 (.take 12 .nil))))))))))))) (by kernel_rfl) (by kernel_rfl) (by kernel_rfl) (HK4.out.mono (T := own) fun k _ e => e.elim).drew ?_
      repeat (first
        | (refine sch_takeE rfl rfl ?_
           apply Exists.intro
           refine ⟨fun w' hS => ?_, fun K hK => ?_⟩
           · (have y0 := (HC.out.blk.kept hS HC.out.oc).cell 0
              simp only [List.getElem?_toArray, List.getElem?_cons_zero] at y0
              clear hS
              unfold takesAt; go_simp; rfl)
           go_simp
           refine hK _ ?_
           clear hK K))
      have hty : 2 ≠ 94 := by decide
      refine sch_doK rfl rfl (fun K hK => ?_)
      refine wp_append_sl _ hostsT (.tmp 37) (.tmp 38) rfl w.heap.size (.slice Aa T1.length ca) T1.length (T1.flatMap hvC) rfl (own_keptB HOA.out.2.1 ((Kept.refl noBlock w4).drew) (fun _ _ e => e)) (.slice Ab T2.length cb) T2.length (T2.flatMap hvC) rfl (SlK.drew (SlK.of_ownB HOC.out.2.1)) (fun u hu => hv_one hu) ?c1 ?c2 ?_
      case c1 => omega
      case c2 => exact HK4.out.size
      intro v' w5 hap
      have hoA := own_keptB HOA.out.2.1 ((Kept.refl noBlock w4).drew) (fun _ _ e => e)
      have hk5 := hap.below hoA HK4.out.drew (Nat.le_refl _)
      have hrow : w5.ownsRow w.heap.size 94 5 v' (T1.length + T2.length) ((T1 ++ T2).flatMap hvC) := by rw [List.flatMap_append]; exact hap.own
      obtain ⟨A5, c5, rfl, -, -⟩ := (Sl.of_own hrow).shape
      have hlo := (Sl.of_own hrow).lo
      have htk5 : ∀ x ∈ T1 ++ T2, x.toks.length ≤ 1000000 ∧ SlK w5 (fun k _ => k < w5.heap.size) 1 x.tv x.tn (x.toks.map (Value.int .i64)) := fun x hx => by
        rcases List.mem_append.1 hx with hx | hx
        · have h1 := HTA.out x.abs (by rw [← HOA.out.1]; exact List.mem_map.2 ⟨x, hx, rfl⟩)
          refine ⟨Nat.le_trans (show x.toks.length ≤ 250 from h1) (by decide), (SlK.appendedT (SlK.drew (HOA.out.2.2 x hx).2) hap hoA fun g e' hh => by rw [hh.2]; exact hty).lo⟩
        · have h1 := HTB.out x.abs (by rw [← HOC.out.1]; exact List.mem_map.2 ⟨x, hx, rfl⟩)
          refine ⟨Nat.le_trans (show x.toks.length ≤ 250 from h1) (by decide), (SlK.appendedT (SlK.drew (HOC.out.2.2 x hx).2) hap hoA fun g e' hh => by rw [hh.2]; exact hty).lo⟩
      have HAB : Hid ((T1 ++ T2).map HV.abs = a ++ b) := Lib.hid (by rw [List.map_append, HOA.out.1, HOC.out.1])
      have HR := Lib.hid (hRefresh_tab (HC.out.keptN hk5).tab hS hlo (by rw [List.length_append]) (by omega) htk5)
      have HK5 := Lib.hid (hk5.mono (T := own) fun k _ e => e.elim)
      have HK5N := Lib.hid hk5
      rw [HAB.out] at HR
      refine hK _ _ HK5.out ?_
      clear hK K hap hoA hk5 hrow hlo htk5
      refine sch_doK rfl rfl (fun K hK => ?_)
      go_simp
      go_at_call 49
      refine HR.out.mono ?_
      rintro e w6 ⟨A1, n1, c1, A2, n2, c2, rfl, rfl, rfl, hs1, hs2, hT6, hk6⟩
      have HK6 := Lib.hid (HK5.out.trans hk6 fun _ _ e => e)
      have hbl := HC.out.blk.kept HK6.out HC.out.oc
      have hlow : w.heap.size ≤ w5.heap.size := HK5N.out.size
      have HC6 : Hid (CtAt w6 (ownI w6 w5.heap.size own) c g dc rem (refNow (viewS S) (a ++ b)) wait asks at_) := Lib.hid ⟨hbl, hT6, fun e => by
        rcases e with e | ⟨e, -⟩
        · exact HC.out.oc e
        · have := HC.out.blk.lt; omega⟩
      have HS1 := Lib.hid (hs1.any (ok' := fun k _ => w.heap.size ≤ k) fun k _ _ e => Nat.le_trans hlow e.1)
      have HS2 := Lib.hid (hs2.any (ok' := fun k _ => w.heap.size ≤ k) fun k _ _ e => Nat.le_trans hlow e.1)
      refine hK _ _ HK6.out ?_
      clear hK K hs1 hs2 hT6 hk6 hbl
      generalize hn1 : (addedP (viewS S) (refNow (viewS S) (a ++ b))).length = n1 at *
      generalize hn2 : (goneP S (refNow (viewS S) (a ++ b))).length = n2 at *
      have HN1 := Lib.hid hn1
      have HN2 := Lib.hid hn2
      clear hn1 hn2
      repeat (first
        | (refine sch_takeE rfl rfl ?_
           apply Exists.intro
           refine ⟨fun w' hS => ?_, fun K hK => ?_⟩
           · (clear hS
              unfold takesAt; go_simp; rfl)
           go_simp
           refine hK _ ?_
           clear hK K))
      refine sch_nil (NoPanic.normal ?_)
      go_wp2
      go_ret3
      rw [HBO.out]
      obtain rfl := HN1.out
      obtain rfl := HN2.out
      exact ⟨_, A1, c1, A2, c2, rfl, HS1.out, HS2.out, HC6.out, fun k e => e.imp id fun e => Nat.le_trans hlow e.1, HK6.out⟩
set_option maxHeartbeats 1000000 in
set_option maxRecDepth 100000 in
theorem cRefreshN_at (t1 t2 : TV2) (w : World) : Calls Tryz.prog 22 #[.pointer none, t1.v, t2.v] w fun e w' => e = .returned (.tuple #[.slice none 0 0, .slice none 0 0, .int .i64 0]) ∧ Kept noBlock w w' := by
  unfold TV2.v
  go_enter Tryz.func22, Tryz.ntmps22
  go_wp2
  go_ret3
  exact ⟨rfl, ((Kept.refl noBlock w).alloc _).alloc _⟩
end Go.Proofs.YtdcdefkloibfnaaGreatDoor

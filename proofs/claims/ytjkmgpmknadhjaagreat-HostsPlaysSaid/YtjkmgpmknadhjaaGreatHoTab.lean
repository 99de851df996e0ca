/- hosts: Refresh, told of a table by rising names. -/
import Derived.Test.YtjkmgpmknadhjaaGreatHoRef
import Derived.Test.YtjkmgpmknadhjaaGreatHoRing
import Derived.Test.YtjkmgpmknadhjaaGreatHoLawP
namespace Go.Proofs.YtjkmgpmknadhjaaGreat
set_option linter.unusedVariables false
open Go.RowKit
open Go.ChangeMaps (setBlock)

/-- The view of hosts by their names. -/
def viewS (S : List Ho) : View := fun x => getS x S
theorem tidy_len (l : List Int) : (tidyP l).length ≤ l.length := nodup_len ((tidy_spec l).1.imp fun h e => by omega) fun x hx => ((tidy_spec l).2 x).1 hx
theorem refNow_mem {V : View} {l : List Ho} {o : Ho} (h : o ∈ refNow V l) : ∃ a ∈ l, o = updH V a ∧ a.name ≠ noStr := by
  have h1 := refNow_spec V l
  have h2 := getS_of_mem (rising_ne h1.1) h
  rw [h1.2] at h2
  have h3 := refr_name h2
  unfold refr at h2
  rw [if_neg h3.2] at h2
  obtain ⟨a, ha, rfl⟩ := Option.map_eq_some_iff.1 h2
  exact ⟨a, getS_mem ha, rfl, by rw [getS_name ha]; exact h3.2⟩
theorem refNow_len (V : View) (l : List Ho) : (refNow V l).length ≤ l.length := by
  have h1 := refNow_spec V l
  have := nodup_len (A := (refNow V l).map (·.name)) (B := l.map (·.name)) (List.pairwise_map.2 (rising_ne h1.1)) fun x hx => by
    obtain ⟨o, ho, rfl⟩ := List.mem_map.1 hx
    obtain ⟨a, ha, rfl, _⟩ := refNow_mem ho
    exact List.mem_map.2 ⟨a, ha, rfl⟩
  rwa [List.length_map, List.length_map] at this
/-- Hosts as a table has them. -/
structure HoOk (S : List Ho) (a b : Nat) : Prop where
  ris : risingH S
  len : S.length ≤ a
  nm : ∀ o ∈ S, o.name ≠ noStr
  up : ∀ o ∈ S, o.toks.Pairwise (· < ·)
  tk : ∀ o ∈ S, o.toks.length ≤ b
theorem HoOk.pairs {S : List Ho} {a b : Nat} (h : HoOk S a b) : (pairsH S).length ≤ a * b := Nat.le_trans (pairs_le h.tk) (Nat.mul_le_mul_right b h.len)
theorem refNow_ok {V : View} {l : List Ho} {a b : Nat} (h1 : l.length ≤ a) (h2 : ∀ o ∈ l, o.toks.length ≤ b) : HoOk (refNow V l) a b where
  ris := (refNow_spec V l).1
  len := Nat.le_trans (refNow_len V l) h1
  nm := fun o ho => by obtain ⟨x, hx, rfl, hn⟩ := refNow_mem ho; exact hn
  up := fun o ho => by obtain ⟨x, hx, rfl, hn⟩ := refNow_mem ho; exact (tidy_spec _).1
  tk := fun o ho => by obtain ⟨x, hx, rfl, hn⟩ := refNow_mem ho; exact Nat.le_trans (tidy_len _) (h2 x hx)
theorem HoOk.mark {S : List Ho} {a b : Nat} (h : HoOk S a b) (x : ByteArray) (up : Bool) : HoOk (markP S x up).1 a b := by
  unfold markP
  cases getS x S with
  | none => exact h
  | some o =>
    simp only []
    by_cases e : o.up = up
    · rw [if_pos e]; exact h
    · rw [if_neg e]
      have key : ∀ (P : Ho → Prop), (∀ o up, P o → P { o with up := up }) → (∀ o ∈ S, P o) → ∀ o ∈ S.map (fun o => if o.name = x then { o with up := up } else o), P o := fun P h1 h2 o ho => by
        obtain ⟨o', ho', rfl⟩ := List.mem_map.1 ho
        split
        · exact h1 _ _ (h2 o' ho')
        · exact h2 o' ho'
      exact ⟨mark_rising h.ris x up, by rw [List.length_map]; exact h.len, key (fun o => o.name ≠ noStr) (fun _ _ h => h) h.nm, key (fun o => o.toks.Pairwise (· < ·)) (fun _ _ h => h) h.up, key (fun o => o.toks.length ≤ b) (fun _ _ h => h) h.tk⟩
/-- What Refresh hands back. -/
def RefTold (w : World) (own : Nat → Prop) (g : Nat) (dc : ByteArray) (rem : Int) (S : List Ho) (l : List Ho) (e : Ending) (w' : World) : Prop :=
  ∃ A1 n1 c1 A2 n2 c2, e = .returned (.tuple #[.slice A1 n1 c1, .slice A2 n2 c2]) ∧ n1 = (addedP (viewS S) (refNow (viewS S) l)).length ∧ n2 = (goneP S (refNow (viewS S) l)).length ∧
    SlK w' (fun k _ => w.heap.size ≤ k ∧ ¬ ownI w' w.heap.size own k) 1 (.slice A1 n1 c1) n1 ((addedP (viewS S) (refNow (viewS S) l)).map Value.string) ∧ SlK w' (fun k _ => w.heap.size ≤ k ∧ ¬ ownI w' w.heap.size own k) 1 (.slice A2 n2 c2) n2 ((goneP S (refNow (viewS S) l)).map Value.string) ∧
    TabS w' (ownI w' w.heap.size own) g dc rem (refNow (viewS S) l) ∧ Kept own w w'
theorem hRefresh_tab {w : World} {own : Nat → Prop} {g : Nat} {dc : ByteArray} {rem : Int} {S : List Ho} {l : List HV} {A : Option Addr} {n c : Nat} (hT : TabS w own g dc rem S) (hS : S.length ≤ 100000)
    (hl : Lo w w.heap.size 5 (.slice A n c) n (l.flatMap hvC)) (hn : l.length = n) (hn2 : n ≤ 100000) (hk : ∀ x ∈ l, x.toks.length ≤ 1000000 ∧ SlK w (fun k _ => k < w.heap.size) 1 x.tv x.tn (x.toks.map (Value.int .i64))) :
    Calls Tryz.prog 9 #[.pointer (some ⟨g, 0, none⟩), .slice A n c] w (RefTold w own g dc rem S (l.map HV.abs)) := by
  obtain ⟨m, L, h1, h2, h3⟩ := hT
  have hL : L.length ≤ 100000 := by
    have := (tab_perm h1.nd h1.nm h2 h3).length_eq
    rw [List.length_map] at this
    omega
  refine (hRefresh_at h1 h3 hl hn hn2 hL hk).mono ?_
  rintro e w' ⟨va, vg, AD, G, L', rfl, ha, hg, hA, hG1, hG2, ht, hv, hkk⟩
  have hS' := refNow_spec (viewS S) (l.map HV.abs)
  have eA : sortN AD = addedP (viewS S) (refNow (viewS S) (l.map HV.abs)) := sortN_eq (rising_names hS'.1 _) hA.1 fun x => (hA.2 x).trans added_mem.symm
  have eG : sortN G = goneP S (refNow (viewS S) (l.map HV.abs)) := sortN_eq (rising_names h2 _) hG1 fun x => (hG2 x).trans (gone_mem h2).symm
  rw [eA] at ha
  rw [eG] at hg
  obtain ⟨A1, c1, rfl, -, -⟩ := (Sl.of_own ha).shape
  obtain ⟨A2, c2, rfl, -, -⟩ := (Sl.of_own hg).shape
  have hno : ∀ (k : Nat) (cs : Array Value) (e : TypeId) (fz : Nat × Nat), w'.heap[k]? = some (.cells cs e fz) → w.heap.size ≤ k ∧ e = 9 → w.heap.size ≤ k ∧ ¬ ownI w' w.heap.size own k := fun k cs e fz hh ho => ⟨ho.1, fun h => by
    rcases h with h | ⟨_, cs', fz', h⟩
    · have := h1.lt k h
      have := ho.1
      omega
    · rw [hh] at h
      injection h with h
      injection h with _ h
      rw [ho.2] at h
      exact absurd h (by decide)⟩
  exact ⟨A1, _, c1, A2, _, c2, rfl, rfl, rfl, (SlK.of_ownB ha).anyH hno, (SlK.of_ownB hg).anyH hno, ⟨m, L', ht, hS'.1, fun x => (hv x).trans (hS'.2 x).symm⟩, hkk.mono fun k _ e => e ▸ h1.om⟩
theorem hNew_tab (dc : ByteArray) (rem : Int) (w : World) : Calls Tryz.prog 5 #[.string dc, .int .i64 rem] w fun e w' => ∃ g own, e = .returned (.pointer (some ⟨g, 0, none⟩)) ∧ TabS w' own g dc rem [] ∧ (∀ k, own k → w.heap.size ≤ k ∧ k < w'.heap.size) ∧ Kept noBlock w w' :=
  (hNew_at dc rem w).mono fun e w' ⟨h1, h2, h3⟩ => ⟨_, _, h1, h2, fun k hk => ⟨by rcases hk with e | e <;> omega, by obtain ⟨_, _, h, _⟩ := h2; exact h.lt k hk⟩, h3⟩
theorem ownI_ge {w w' : World} {own : Nat → Prop} {B : Nat} (h : ∀ k, own k → B ≤ k) (hB : B ≤ w.heap.size) : ∀ k, ownI w' w.heap.size own k → B ≤ k := by
  rintro k (h1 | ⟨h1, _⟩)
  · exact h k h1
  · omega
theorem Kept.grew {w0 w w' : World} {own : Nat → Prop} (h : Kept noBlock w0 w) (hk : Kept own w w') (ho : ∀ k, own k → w0.heap.size ≤ k) : Kept noBlock w0 w' := h.trans hk fun k hlt e => absurd (ho k e) (by omega)
theorem TabS.lt {w : World} {own : Nat → Prop} {g : Nat} {dc : ByteArray} {rem : Int} {S : List Ho} (h : TabS w own g dc rem S) : ∀ k, own k → k < w.heap.size := by
  obtain ⟨_, _, h, _⟩ := h
  exact h.lt
theorem lt_of_cell {w : World} {p : Addr} {v : Value} (h : w.cell? p = some v) : p.block < w.heap.size := by
  unfold World.cell? at h
  split at h
  · rename_i hh; exact lt_of_heap hh
  · cases h
theorem Kept.cellOf {w w' : World} {p : Addr} {v : Value} (h : Kept noBlock w w') (hc : w.cell? p = some v) : w'.cell? p = some v := (h.cell (lt_of_cell hc) fun e => e).trans hc
theorem tok_at {w : World} {ok : Nat → TypeId → Prop} {A : Option Addr} {n c : Nat} {L : List Int} (h : SlK w ok 1 (.slice A n c) n (L.map (Value.int .i64))) {j : Nat} {t : Int} (hj : L[j]? = some t) :
    ∃ g off, (∀ kd w', (Instr.indexAt 57 (.slice A n c) (.int kd (j : Int))).run Tryz.prog w' = .ok (.pointer (some ⟨g, off, none⟩)) w') ∧ w.cell? ⟨g, off, none⟩ = some (.int .i64 t) := by
  have h3 := h.len
  rw [List.length_map, Nat.mul_one] at h3
  obtain ⟨g, off, h1, -, -, h2⟩ := h.run_index i64sT (i := (j : Int)) (k := j) rfl (by have := (List.getElem?_eq_some_iff.1 hj).1; omega)
  exact ⟨g, off, h1, h2 0 _ (by rw [Nat.mul_one, Nat.add_zero, List.getElem?_map, hj]; rfl)⟩
/-- A told host's cells. -/
theorem Told.at {w w' : World} {A : Option Addr} {n c : Nat} {T : List HV} {S : List Ho} (h : Told w w' A n c T S) {i : Nat} {o : Ho} (hi : S[i]? = some o) :
    ∃ (x : HV) (g off : Nat), T[i]? = some x ∧ x.abs = o ∧ (∀ kd w', (Instr.indexAt 29 (.slice A n c) (.int kd (i : Int))).run Tryz.prog w' = .ok (.pointer (some ⟨g, off, none⟩)) w') ∧
      w'.cell? ⟨g, off, none⟩ = some (.string o.name) ∧ w'.cell? ⟨g, off + 1, none⟩ = some (.string o.dc) ∧ w'.cell? ⟨g, off + 2, none⟩ = some (.string o.rack) ∧ w'.cell? ⟨g, off + 3, none⟩ = some (.slice x.ta x.tn x.tc) ∧ w'.cell? ⟨g, off + 4, none⟩ = some (.bool o.up) := by
  rw [← h.abs, List.getElem?_map] at hi
  obtain ⟨x, hx, rfl⟩ := Option.map_eq_some_iff.1 hi
  obtain ⟨g, cap, off, hv, -, -, -, h1, y0, y1, y2, y3, y4⟩ := ownH_at h.row hx
  cases hv
  exact ⟨x, g, off, hx, rfl, h1, y0, y1, y2, y3, y4⟩
theorem Told.slen {w w' : World} {A : Option Addr} {n c : Nat} {T : List HV} {S : List Ho} (h : Told w w' A n c T S) : S.length = n := by rw [← h.abs, List.length_map, h.len]
theorem Told.keptN {w w' w2 : World} {A : Option Addr} {n c : Nat} {T : List HV} {S : List Ho} (h : Told w w' A n c T S) (hk : Kept noBlock w' w2) : Told w w2 A n c T S := h.kept hk fun _ _ e => e
end Go.Proofs.YtjkmgpmknadhjaaGreat

/- Append onto a row of the call's own, whatever the source is (nil, empty, cut); the words of Base go with it. No program is named · A slice of structs of one number of cells: its i-th element. No program is named. -/
import Derived.Test.YtfnjoceolcdeoaaGreatDoorMr02
import Derived.Maps.AppendAt
import Derived.Deep.AppendLies
import Derived.RegionTactic
import Derived.OwnWalk
import Derived.StillTailTactics
import Derived.Deep.RegionWith
import Derived.Deep.QuietTactic
import Derived.BigQuiet
import Derived.BigRegion
namespace Go.Proofs.YtfnjoceolcdeoaaGreatDoor
set_option linter.unusedVariables false
open Go.RowKit

theorem quiet_same {P : Program} {f : FuncId} {args : Array Value} {w : World} {n : Nat} {v : Value}
    (h : Calls P f args (w.drewN n) fun e w' => e = .returned v ∧ w.drewN n = w') : Calls P f args (w.drewN n) fun e w'' => e = .returned v ∧ ∃ m, w'' = w.drewN m :=
  h.mono fun _ _ ⟨he, hm⟩ => ⟨he, n, hm.symm⟩

theorem quiet_same2 {P : Program} {f : FuncId} {args : Array Value} {w : World} {k n : Nat} {v : Value}
    (h : Calls P f args (w.drewN (k + n)) fun e w' => e = .returned v ∧ w.drewN (k + n) = w') : Calls P f args (w.drewN (k + n)) fun e w'' => e = .returned v ∧ ∃ m, w'' = w.drewN (k + m) :=
  h.mono fun _ _ ⟨he, hm⟩ => ⟨he, n, hm.symm⟩
theorem quiet_any {P : Program} {f : FuncId} {args : Array Value} {w : World} {n : Nat} {v : Value}
    (h : Calls P f args (w.drewN n) fun e w' => e = .returned v ∧ ∃ m, w' = (w.drewN n).drewN m) : Calls P f args (w.drewN n) fun e w'' => e = .returned v ∧ ∃ m, w'' = w.drewN m :=
  h.mono fun _ _ ⟨he, m, hm⟩ => ⟨he, n + m, by rw [hm, World.drewN_drewN]⟩
theorem quiet_any2 {P : Program} {f : FuncId} {args : Array Value} {w : World} {k n : Nat} {v : Value}
    (h : Calls P f args (w.drewN (k + n)) fun e w' => e = .returned v ∧ ∃ m, w' = (w.drewN (k + n)).drewN m) : Calls P f args (w.drewN (k + n)) fun e w'' => e = .returned v ∧ ∃ m, w'' = w.drewN (k + m) :=
  h.mono fun _ _ ⟨he, m, hm⟩ => ⟨he, n + m, by rw [hm, World.drewN_drewN, Nat.add_assoc]⟩

/-- A region that draws its order, whose first n operations only read and whose others follow in one order: met in the world w.drew. -/
theorem still_tail {P : Program} {id : Nat} {Q : Exit → Act → World → Prop} {a : Act} {w : World} {l : List Oper} (n : Nat) (hm : P.follows .mixedOrders = true) (hB : Region.lexTailB .any l.toArray n = true)
    (h : wpStill P l.toArray w.drew (fun a' => wpList P l.toArray Q (l.drop n) a' w.drew) (l.take n) a) : (Code.region id l.toArray true).wp P Q a w :=
  wp_region_still_tail n hm hB h

/-- What a slice's type and its element's type are in a program. -/
structure SlT (P : Program) (t e : TypeId) (z : Value) (sz bytes : Nat) : Prop where
  ht : P.underlying t = some (.slice e)
  info : (P.info? e).map (fun i => (i.zero, i.size, i.bytes)) = some (some z, sz, bytes)
  hzs : z.cells.size = sz
  hsz : 0 < sz
  hby : 0 < bytes

section
variable {w w' : World} {base : Nat} {e : TypeId} {sz n : Nat} {v : Value} {xs : List Value} {S : Nat → Prop}
theorem Sl.of_own (h : w.ownsRow base e sz v n xs) : Sl w e sz v n xs := by
  obtain ⟨hl, h⟩ := h
  rcases h with ⟨rfl, rfl⟩ | ⟨g, cap, cur, rfl, _, hh, hnc, hm, _, hx⟩
  · exact ⟨hl, none, 0, rfl, Nat.le_refl _, Nat.zero_le _, .inl ⟨rfl, rfl⟩⟩
  · refine ⟨hl, _, _, rfl, hnc, hm, .inr ⟨g, 0, cur, e, (0, 0), rfl, hh, rfl, fun j u hu => ?_⟩⟩
    rw [← hx] at hu
    have hj : j < n * sz := by
      have := (List.getElem?_eq_some_iff.1 hu).1
      simp at this; omega
    rw [List.getElem?_take_of_lt hj] at hu
    simpa using hu
theorem own_kept (h : w.ownsRow base e sz v n xs) (hk : Kept S w w') (hS : ∀ g cs, S g → base ≤ g → w.heap[g]? ≠ some (Obj.cells cs e (0, 0))) : w'.ownsRow base e sz v n xs := by
  obtain ⟨hl, h⟩ := h
  refine ⟨hl, ?_⟩
  rcases h with h | ⟨g, cap, cur, hv, hb, hh, r⟩
  · exact .inl h
  · exact .inr ⟨g, cap, cur, hv, hb, (hk.block g (lt_of_heap hh) fun hs => hS g cur hs hb hh).trans hh, r⟩
theorem own_setBlock (h : w.ownsRow base e sz v n xs) {m : Nat} {es : Array MapEntry} {ck : Nat} (hm : w.heap[m]? = some (.map es ck)) (o : Obj) : (Go.ChangeMaps.setBlock w m o).ownsRow base e sz v n xs := by
  obtain ⟨hl, h⟩ := h
  refine ⟨hl, ?_⟩
  rcases h with h | ⟨g, cap, cur, hv, hb, hh, r⟩
  · exact .inl h
  · exact .inr ⟨g, cap, cur, hv, hb, (heap_setBlock w m o g (by rintro rfl; rw [hm] at hh; cases hh)).trans hh, r⟩
theorem own_far {t : TypeId} {g : Nat} {cs : Array Value} (h : w.ownsRow base e sz v n xs) (hb : Blk w g t cs) (ht : t ≠ e) (i : Nat) (u : Value) : (w.setCell ⟨g, i, none⟩ u).ownsRow base e sz v n xs := by
  obtain ⟨hl, h⟩ := h
  refine ⟨hl, ?_⟩
  rcases h with h | ⟨k, cap, cur, hv, hb', hh, r⟩
  · exact .inl h
  · exact .inr ⟨k, cap, cur, hv, hb', (Below.heap_setCell w ⟨g, i, none⟩ u k (Blk.ne_ (t := e) hh hb (Ne.symm ht))).trans hh, r⟩
theorem Kept.of_grown {row : Option Nat} (hg : w.grownBy w' row) (hr : ∀ k, row = some k → k < w.heap.size → S k) : Kept S w w' := (Kept.refl S w).grown hg hr
end

section
variable {P : Program}

theorem run_append_of_nil (w : World) (base : Nat) (t ty e : TypeId) (i : TypeInfo) (size : Nat) (ht : P.underlying t = some (.slice e)) (hi : P.info? e = some i)
    (v : Value) (n : Nat) (xs : List Value) (hown : w.ownsRow base e size v n xs) (A : Option Addr) (c : Nat) : (Builtin.append_ #[t, t] ty #[v, .slice A 0 c]).run P w = .ok v w := by
  have hl : ∀ a : Addr, (loadCells a 0).run P w = .ok #[] w := fun a => by simp [loadCells, loadCellsFrom]
  rcases hown.2 with ⟨rfl, rfl⟩ | ⟨g, cap, cur, rfl, _, _, hnc, _⟩
  · cases A <;> simp [Builtin.append_, run_underlying ht, sizeOf, typeInfo, hi, Builtin.lenOf, Builtin.firstCells, hl]
  · cases A <;> simp [Builtin.append_, run_underlying ht, sizeOf, typeInfo, hi, Builtin.lenOf, Builtin.firstCells, hnc, storeCells, hl]

/-- What an append onto an own row leaves. -/
structure Appended (w w' : World) (base : Nat) (e : TypeId) (sz : Nat) (v v' : Value) (k : Nat) (xs : List Value) : Prop where
  own : w'.ownsRow base e sz v' k xs
  grown : w.grownBy w' v.ownBlock
  at_ : v'.ownBlock = v.ownBlock ∨ v'.ownBlock = some w.heap.size

theorem own_type {w : World} {base : Nat} {e : TypeId} {sz n : Nat} {v : Value} {xs : List Value} (h : w.ownsRow base e sz v n xs) {g : Nat} (hg : v.ownBlock = some g) : base ≤ g ∧ ∃ cs, w.heap[g]? = some (Obj.cells cs e (0, 0)) := by
  rcases h.2 with ⟨rfl, _⟩ | ⟨k, cap, cur, rfl, hb, hh, _⟩
  · simp [Value.ownBlock] at hg
  · simp only [Value.ownBlock, Option.some.injEq] at hg
    subst hg
    exact ⟨hb, cur, hh⟩
theorem Appended.kept {w w' : World} {base : Nat} {e : TypeId} {sz k : Nat} {v v' : Value} {xs : List Value} (h : Appended w w' base e sz v v' k xs) : Kept (fun i => v.ownBlock = some i) w w' := Kept.of_grown h.grown fun _ h _ => h
/-- A slice of another element type is as it was behind an append. -/
theorem Sl.appended {w w' : World} {base : Nat} {e : TypeId} {sz k n : Nat} {v v' : Value} {xs ys : List Value} {e' : TypeId} {sz' n' : Nat} {u : Value} {zs : List Value} (hs : Sl w e' sz' u n' zs) (h : Appended w w' base e sz v v' k xs) (ho : w.ownsRow base e sz v n ys) (hne : e ≠ e') : Sl w' e' sz' u n' zs :=
  SlK.kept hs h.kept fun g cs fz hg hc => by
    obtain ⟨_, cs', hh⟩ := own_type ho hg
    rw [hh] at hc
    injection hc with hc
    injection hc with _ h2
    exact hne h2

theorem run_append_sl (w : World) {t e : TypeId} {z : Value} {sz bytes : Nat} (T : SlT P t e z sz bytes) (ty : TypeId) (base : Nat) (v : Value) (n : Nat) (xs : List Value) (hown : w.ownsRow base e sz v n xs)
    (u : Value) (m : Nat) (news : List Value) {ok : Nat → TypeId → Prop} (hr : SlK w ok sz u m news) (h1 : ∀ u ∈ news, u.oneCell' = true) (hbytes : (n + m) * bytes ≤ 140737488355328) (hbase : base ≤ w.heap.size) :
    ∃ v' w', (Builtin.append_ #[t, t] ty #[v, u]).run P w = .ok v' w' ∧ Appended w w' base e sz v v' (n + m) (xs ++ news) := by
  obtain ⟨i, hi, hz, hsize, hby⟩ := info_parts T.info
  have h63 : n + m ≤ maxLen := by
    have h2 : (n + m) * 1 ≤ (n + m) * bytes := Nat.mul_le_mul_left _ T.hby
    unfold maxLen; omega
  obtain ⟨hlen, A, cap, rfl, hc1, hc2, hA⟩ := hr
  rcases hA with ⟨rfl, rfl⟩ | ⟨g, off, cs, e1, fz, rfl, hh, _, hc⟩
  · have hn : news = [] := List.eq_nil_of_length_eq_zero (by simpa using hlen)
    subst hn
    exact ⟨v, w, run_append_of_nil w base t ty e i sz T.ht hi v n xs hown A 0, by simpa using hown, World.grownBy.refl w _, .inl rfl⟩
  · obtain ⟨v', w', hrun, h2, h3, _, h5⟩ := run_append_own_at (P := P) w base t ty e i z sz bytes T.ht hi hz hsize hby T.hzs T.hsz v n xs hown ⟨g, off, none⟩ m cap news hlen
      (fun j u hu => by
        rw [Addr.add_lit, cell_of_row w g (off + j) cs e1 fz hh]
        exact hc j u hu) h1 h63 hbytes hbase
    exact ⟨v', w', hrun, h2, h3, h5⟩

theorem wp_append_sl (w : World) {t e : TypeId} {z : Value} {sz bytes : Nat} (T : SlT P t e z sz bytes) {o : Oper} {a : Act} {K : Act → World → Prop} {Q : Exit → Act → World → Prop} (s x : Operand)
    (ho : o.op = .call { callee := .builtin .append, args := #[s, x], argTypes := #[t, t] }) (base : Nat)
    (v : Value) (n : Nat) (xs : List Value) (hs : a.eval s = v) (hown : w.ownsRow base e sz v n xs)
    (u : Value) (m : Nat) (news : List Value) (hx : a.eval x = u) {ok : Nat → TypeId → Prop} (hr : SlK w ok sz u m news) (h1 : ∀ u ∈ news, u.oneCell' = true)
    (hbytes : (n + m) * bytes ≤ 140737488355328) (hbase : base ≤ w.heap.size)
    (h : ∀ v' w', Appended w w' base e sz v v' (n + m) (xs ++ news) → K (a.put o.dst v') w') : o.wp P a w K Q := by
  obtain ⟨v', w', hrun, h2⟩ := run_append_sl (P := P) w T o.type base v n xs hown u m news hr h1 hbytes hbase
  unfold Oper.wp execOp
  simp only [ho, resolve, invoke, builtin, Sem.run_bind, Sem.run_pure, Result.andThen_ok, List.map_toArray, List.map_cons, List.map_nil, hs, hx, hrun]
  exact h v' w' h2

theorem wpList_append_sl (w : World) {t e : TypeId} {z : Value} {sz bytes : Nat} (T : SlT P t e z sz bytes) {ops : Array Oper} {rest : List Oper} {o : Oper} {a : Act} {Q : Exit → Act → World → Prop} (hgd : o.guard = none) (s x : Operand)
    (ho : o.op = .call { callee := .builtin .append, args := #[s, x], argTypes := #[t, t] }) (base : Nat)
    (v : Value) (n : Nat) (xs : List Value) (hs : a.eval s = v) (hown : w.ownsRow base e sz v n xs)
    (u : Value) (m : Nat) (news : List Value) (hx : a.eval x = u) {ok : Nat → TypeId → Prop} (hr : SlK w ok sz u m news) (h1 : ∀ u ∈ news, u.oneCell' = true)
    (hbytes : (n + m) * bytes ≤ 140737488355328) (hbase : base ≤ w.heap.size)
    (h : ∀ v' w', Appended w w' base e sz v v' (n + m) (xs ++ news) → wpList P ops Q rest (a.put o.dst v') w') : wpList P ops Q (o :: rest) a w :=
  wpList_plain hgd fun _ hK => wp_append_sl w T s x ho base v n xs hs hown u m news hx hr h1 hbytes hbase fun v' w' h2 => hK _ _ (h v' w' h2)

theorem step_append_sl (w : World) {t e : TypeId} {z : Value} {sz bytes : Nat} (T : SlT P t e z sz bytes) {ops : Array Oper} {o : Oper} {a : Act} {K : Act → World → Prop} {Q : Exit → Act → World → Prop} {E : Prop} (hgd : o.guard = none) (s x : Operand)
    (ho : o.op = .call { callee := .builtin .append, args := #[s, x], argTypes := #[t, t] }) (base : Nat)
    (v : Value) (n : Nat) (xs : List Value) (hs : a.eval s = v) (hown : w.ownsRow base e sz v n xs)
    (u : Value) (m : Nat) (news : List Value) (hx : a.eval x = u) {ok : Nat → TypeId → Prop} (hr : SlK w ok sz u m news) (h1 : ∀ u ∈ news, u.oneCell' = true)
    (hbytes : (n + m) * bytes ≤ 140737488355328) (hbase : base ≤ w.heap.size)
    (h : ∀ v' w', Appended w w' base e sz v v' (n + m) (xs ++ news) → K (a.put o.dst v') w') :
    if Region.wanted o (yielded ops a.tmps) = true then Oper.wp P o a w K Q else E := by
  have hw : Region.wanted o (yielded ops a.tmps) = true := by simp [Region.wanted, hgd]
  rw [if_pos hw]
  exact wp_append_sl w T s x ho base v n xs hs hown u m news hx hr h1 hbytes hbase h
end
/-! ## Operations on a slice whose value is a letter: laid ahead of a walk, they are its rules -/
section
variable {P : Program} {t e : TypeId} {z : Value} {sz bytes : Nat} {w : World} {ok : Nat → TypeId → Prop} {v : Value} {n : Nat} {xs : List Value}

theorem SlK.run_len (T : SlT P t e z sz bytes) (h : SlK w ok sz v n xs) : ∀ ty w', (Builtin.len_ #[t] ty #[v]).run P w' = .ok (.int .i64 n) w' := by
  obtain ⟨_, A, cap, rfl, _⟩ := h
  intro ty w'
  simp [Builtin.len_, run_underlying T.ht, goInt]

theorem SlT.run_size (T : SlT P t e z sz bytes) (w' : World) : (sizeOf e).run P w' = .ok sz w' := by
  obtain ⟨i, hi, hz, hsize, hby⟩ := info_parts T.info
  simp [sizeOf, typeInfo, hi, hsize]

theorem SlK.run_index (T : SlT P t e z sz bytes) (h : SlK w ok sz v n xs) {i : Int} {k : Nat} (hi : i = k) (hk : k < n) :
    ∃ g off, (∀ kd w', (Instr.indexAt t v (.int kd i)).run P w' = .ok (.pointer (some ⟨g, off, none⟩)) w') ∧ g < w.heap.size ∧ (∃ cs e' fz, w.heap[g]? = some (.cells cs e' fz) ∧ ok g e') ∧ ∀ j u, xs[k * sz + j]? = some u → w.cell? ⟨g, off + j, none⟩ = some u := by
  obtain ⟨hlen, A, cap, rfl, h1, h2, h3⟩ := h
  rcases h3 with ⟨h0, _⟩ | ⟨g, off, cs, e1, fz, rfl, hh, ho, hc⟩
  · omega
  · subst hi
    refine ⟨g, off + k * sz, fun kd w' => ?_, lt_of_heap hh, ⟨cs, e1, fz, hh, ho⟩, fun j u hu => ?_⟩
    · have hi2 : (k : Int) < (n : Int) := by omega
      simp [Instr.indexAt, asIntOf, run_underlying T.ht, T.run_size, hk, Addr.add_lit]
    · rw [cell_of_row w g _ cs e1 fz hh, Nat.add_assoc]
      exact hc _ _ hu

theorem SlK.run_from (T : SlT P t e z sz bytes) (h : SlK w ok sz v n xs) {i : Int} {k : Nat} (hi : i = k) (hk : k ≤ n) :
    ∃ A c, (∀ kd w', (Instr.sliceAt t v (some (.int kd i)) none none).run P w' = .ok (.slice A (n - k) c) w') ∧ SlK w ok sz (.slice A (n - k) c) (n - k) (xs.drop (k * sz)) := by
  obtain ⟨hlen, A, cap, rfl, h1, h2, h3⟩ := h
  subst hi
  refine ⟨(if cap = k then A else A.map (·.add (k * sz))), (cap - k), fun kd w' => ?_, by rw [List.length_drop, hlen, Nat.sub_mul], _, _, rfl, by omega, by omega, ?_⟩
  · have h0 : (0 : Int) ≤ k := by omega
    have hi2 : (k : Int) ≤ (n : Int) := by omega
    simp [Instr.sliceAt, run_underlying T.ht, Instr.slice, Instr.sliceBounds, Instr.sliceBound, asIntOf, T.run_size, hk]
  · rcases h3 with ⟨rfl, rfl⟩ | ⟨g, off, cs, e1, fz, rfl, hh, ho, hc⟩
    · have : k = 0 := by omega
      subst this
      exact .inl ⟨by simp, rfl⟩
    · by_cases hck : cap = k
      · rw [if_pos hck]
        refine .inr ⟨g, off, cs, e1, fz, rfl, hh, ho, fun j u hu => ?_⟩
        have : xs.drop (k * sz) = [] := by
          apply List.drop_eq_nil_of_le
          have hnk : n = k := by omega
          rw [hlen, hnk]; exact Nat.le_refl _
        rw [this] at hu; simp at hu
      · rw [if_neg hck]
        refine .inr ⟨g, off + k * sz, cs, e1, fz, by simp [Addr.add_lit], hh, ho, fun j u hu => ?_⟩
        rw [List.getElem?_drop] at hu
        rw [Nat.add_assoc]
        exact hc _ _ hu

theorem SlK.run_to (T : SlT P t e z sz bytes) (h : SlK w ok sz v n xs) {i : Int} {k : Nat} (hi : i = k) (hk : k ≤ n) :
    ∃ A c, (∀ kd w', (Instr.sliceAt t v none (some (.int kd i)) none).run P w' = .ok (.slice A k c) w') ∧ SlK w ok sz (.slice A k c) k (xs.take (k * sz)) := by
  obtain ⟨hlen, A, cap, rfl, h1, h2, h3⟩ := h
  subst hi
  have hmul : k * sz ≤ n * sz := Nat.mul_le_mul_right _ hk
  refine ⟨(if cap = 0 then A else A.map (·.add (0 * sz))), cap, fun kd w' => ?_, by rw [List.length_take, hlen]; omega, _, cap, rfl, by omega, by omega, ?_⟩
  · have h0 : (0 : Int) ≤ k := by omega
    have hi2 : (k : Int) ≤ (cap : Int) := by omega
    have hi3 : k ≤ cap := by omega
    simp [Instr.sliceAt, run_underlying T.ht, Instr.slice, Instr.sliceBounds, Instr.sliceBound, asIntOf, T.run_size, hi3]
  · rcases h3 with ⟨rfl, rfl⟩ | ⟨g, off, cs, e1, fz, rfl, hh, ho, hc⟩
    · exact .inl ⟨by omega, rfl⟩
    · refine .inr ⟨g, off, cs, e1, fz, ?_, hh, ho, fun j u hu => ?_⟩
      · split <;> simp [Addr.add]
      · have := List.getElem?_eq_some_iff.1 hu
        obtain ⟨hl, _⟩ := this
        rw [List.getElem?_take_of_lt (by simp at hl; omega)] at hu
        exact hc _ _ hu

theorem SlK.run_mid (T : SlT P t e z sz bytes) (h : SlK w ok sz v n xs) {i i' : Int} {k k' : Nat} (hi : i = k) (hi' : i' = k') (hk : k ≤ k') (hk' : k' ≤ n) :
    ∃ A c, (∀ kd kd' w', (Instr.sliceAt t v (some (.int kd i)) (some (.int kd' i')) none).run P w' = .ok (.slice A (k' - k) c) w') ∧ SlK w ok sz (.slice A (k' - k) c) (k' - k) ((xs.take (k' * sz)).drop (k * sz)) := by
  obtain ⟨hlen, A, cap, rfl, h1, h2, h3⟩ := h
  subst hi
  subst hi'
  have hmul : k' * sz ≤ n * sz := Nat.mul_le_mul_right _ hk'
  have hmul2 : k * sz ≤ k' * sz := Nat.mul_le_mul_right _ hk
  refine ⟨(if cap = k then A else A.map (·.add (k * sz))), (cap - k), fun kd kd' w' => ?_, by rw [List.length_drop, List.length_take, hlen, Nat.sub_mul]; omega, _, _, rfl, by omega, by omega, ?_⟩
  · have hi3 : k' ≤ cap := by omega
    simp [Instr.sliceAt, run_underlying T.ht, Instr.slice, Instr.sliceBounds, Instr.sliceBound, asIntOf, T.run_size, hk, hi3]
  · rcases h3 with ⟨rfl, rfl⟩ | ⟨g, off, cs, e1, fz, rfl, hh, ho, hc⟩
    · have : k = 0 := by omega
      subst this
      exact .inl ⟨by omega, rfl⟩
    · by_cases hck : cap = k
      · rw [if_pos hck]
        refine .inr ⟨g, off, cs, e1, fz, rfl, hh, ho, fun j u hu => ?_⟩
        have := (List.getElem?_eq_some_iff.1 hu).1
        have hnk : k' = k := by omega
        subst hnk
        simp at this
      · rw [if_neg hck]
        refine .inr ⟨g, off + k * sz, cs, e1, fz, by simp [Addr.add_lit], hh, ho, fun j u hu => ?_⟩
        have := (List.getElem?_eq_some_iff.1 hu).1
        simp at this
        rw [List.getElem?_drop, List.getElem?_take_of_lt (by omega)] at hu
        rw [Nat.add_assoc]
        exact hc _ _ hu
end
end Go.Proofs.YtfnjoceolcdeoaaGreatDoor
namespace Go.Proofs.YtfnjoceolcdeoaaGreatDoor
set_option linter.unusedVariables false
theorem flat_len {α : Type} {f : α → List Value} {k : Nat} (hf : ∀ a, (f a).length = k) (l : List α) : (l.flatMap f).length = l.length * k := by
  induction l with
  | nil => simp
  | cons a t ih => simp [List.flatMap_cons, ih, hf, Nat.add_mul]; omega
theorem flat_get {α : Type} {f : α → List Value} {k : Nat} (hf : ∀ a, (f a).length = k) : ∀ (l : List α) (i j : Nat) (a : α), l[i]? = some a → j < k → (l.flatMap f)[i * k + j]? = (f a)[j]? := by
  intro l
  induction l with
  | nil => intro i j a h; simp at h
  | cons b t ih =>
    intro i j a h hj
    rw [List.flatMap_cons]
    cases i with
    | zero =>
      simp only [List.getElem?_cons_zero, Option.some.injEq] at h
      subst h
      rw [Nat.zero_mul, Nat.zero_add, List.getElem?_append_left (by rw [hf]; exact hj)]
    | succ i =>
      have e : (i + 1) * k + j = k + (i * k + j) := by rw [Nat.add_mul]; omega
      rw [e, List.getElem?_append_right (by rw [hf]; omega), hf, Nat.add_sub_cancel_left]
      exact ih i j a (by simpa using h) hj
end Go.Proofs.YtfnjoceolcdeoaaGreatDoor

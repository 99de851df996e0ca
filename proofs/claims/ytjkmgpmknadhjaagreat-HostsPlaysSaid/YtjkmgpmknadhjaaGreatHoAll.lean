/- hosts: slices.Collect, slices.SortedFunc, Table.All. -/
import Derived.Test.YtjkmgpmknadhjaaGreatHoSeq
import Derived.Test.YtjkmgpmknadhjaaGreatHoTidy
import Derived.Test.YtjkmgpmknadhjaaGreatFam2
namespace Go.Proofs.YtjkmgpmknadhjaaGreat
set_option linter.unusedVariables false
open Go.RowKit Go.Shelf

theorem hCollect_at {w : World} {Bm m : Nat} {L : List (ByteArray × HV)} (hm : w.cell? ⟨Bm, 0, none⟩ = some (.map (some m))) (hBm : Bm < w.heap.size) (hmap : HoMap w m L) (hL : L.length ≤ 100000) :
    Calls Tryz.prog 45 #[.func (.func 47) #[] #[.pointer (some ⟨Bm, 0, none⟩)]] w fun e w' =>
      ∃ (v : Value) (xs : List HV), e = .returned v ∧ xs.Perm (L.map (·.2)) ∧ w'.ownsRow w.heap.size 59 5 v xs.length (xs.flatMap hvC) ∧ Kept noBlock w w' := by
  have key := callsIn_wide.1 (hAppSeq_in hm hBm hmap hL)
  go_enter Tryz.func45, Tryz.ntmps45
  go_wp2_with (go_at_call 66; refine key.mono ?_; rintro e w' ⟨v, xs, rfl, hp, ho, hk⟩)
  go_ret
  exact ⟨v, xs, rfl, hp, ho, hk⟩

theorem hSortedF_at {w : World} {Bm m : Nat} {L : List (ByteArray × HV)} (hm : w.cell? ⟨Bm, 0, none⟩ = some (.map (some m))) (hBm : Bm < w.heap.size) (hmap : HoMap w m L) (hL : L.length ≤ 100000) :
    Calls Tryz.prog 28 #[.func (.func 47) #[] #[.pointer (some ⟨Bm, 0, none⟩)], .func (.func 30) #[] #[]] w fun e w' =>
      ∃ (v : Value) (S : List HV), e = .returned v ∧ S.Perm (L.map (·.2)) ∧ S.Pairwise (fun a b => ¬ nlt b.name a.name) ∧ w'.ownsRow w.heap.size 59 5 v S.length (S.flatMap hvC) ∧ Kept noBlock w w' := by
  have key := hCollect_at hm hBm hmap hL
  go_enter Tryz.func28, Tryz.ntmps28
  go_wp2_with (go_at_call 45; refine key.mono ?_; rintro e w1 ⟨v, xs, rfl, hp, ho, hk⟩)
  have hlen : xs.length ≤ 1000000 := by
    have := hp.length_eq
    rw [List.length_map] at this
    omega
  have hs := HSort_at ho hlen
  have HO := Lib.hid ho
  have HP := Lib.hid hp
  have HK := Lib.hid hk
  clear ho hp hk hlen key hm hmap hL
  go_wp2_with (go_at_call 46; refine hs.mono ?_; rintro e w2 ⟨rfl, S, hp2, hs2, ho2, hk2⟩)
  go_ret
  have e1 : S.length = xs.length := hp2.length_eq
  refine ⟨v, S, rfl, hp2.trans HP.out, hs2, by rw [e1]; exact ho2, HK.out.trans hk2 fun i hi e => ?_⟩
  exact absurd hi (Nat.not_lt.2 (own_type HO.out e).1)

theorem hostsT : SlT Tryz.prog 29 59 (.agg #[.string noStr, .string noStr, .string noStr, .slice none 0 0, .bool false]) 5 80 := ⟨hHsM, hostInfo, rfl, by decide, by decide⟩
theorem flat_setK {α : Type} {f : α → List Value} {k : Nat} (hf : ∀ a, (f a).length = k) {a' : α} {j : Nat} {u : Value} (hj : j < k) : ∀ (l : List α) (i : Nat) (a : α), l[i]? = some a → f a' = (f a).set j u → (l.flatMap f).set (i * k + j) u = (l.set i a').flatMap f
  | [], _, _, h, _ => by simp at h
  | b :: l, 0, a, h, e => by
    simp only [List.getElem?_cons_zero, Option.some.injEq] at h
    subst h
    rw [List.set_cons_zero, List.flatMap_cons, List.flatMap_cons, e, Nat.zero_mul, Nat.zero_add, List.set_append_left _ _ (by rw [hf]; exact hj)]
  | b :: l, i + 1, a, h, e => by
    simp only [List.getElem?_cons_succ] at h
    have ih := flat_setK hf hj l i a h e
    rw [List.set_cons_succ, List.flatMap_cons, List.flatMap_cons, ← ih, List.set_append_right _ _ (by rw [hf, Nat.succ_mul]; omega), hf]
    congr 2
    rw [Nat.succ_mul]
    omega
theorem ownH_at {w : World} {base : Nat} {v : Value} {L : List HV} {n i : Nat} {x : HV} (h : w.ownsRow base 59 5 v n (L.flatMap hvC)) (hi : L[i]? = some x) :
    ∃ g cap off, v = .slice (some ⟨g, 0, none⟩) n cap ∧ off = i * 5 ∧ base ≤ g ∧ (∃ cs, w.heap[g]? = some (.cells cs 59 (0, 0))) ∧ (∀ kd w', (Instr.indexAt 29 v (.int kd (i : Int))).run Tryz.prog w' = .ok (.pointer (some ⟨g, off, none⟩)) w') ∧
      w.cell? ⟨g, off, none⟩ = some (.string x.name) ∧ w.cell? ⟨g, off + 1, none⟩ = some (.string x.dc) ∧ w.cell? ⟨g, off + 2, none⟩ = some (.string x.rack) ∧ w.cell? ⟨g, off + 3, none⟩ = some (.slice x.ta x.tn x.tc) ∧ w.cell? ⟨g, off + 4, none⟩ = some (.bool x.up) := by
  have hs := Sl.of_own h
  have hlt : i < n := by
    have h1 := (List.getElem?_eq_some_iff.1 hi).1
    have h2 := h.1
    rw [hvC_len] at h2
    omega
  rcases h.2 with ⟨rfl, rfl⟩ | ⟨g, cap, cs, rfl, hb, hg, -⟩
  · omega
  refine ⟨g, cap, i * 5, rfl, rfl, hb, ⟨cs, hg⟩, fun kd w' => ?_, ?_, ?_, ?_, ?_, ?_⟩
  · have hi2 : (i : Int) < (n : Int) := by omega
    simp [Instr.indexAt, asIntOf, run_underlying hostsT.ht, hostsT.run_size, hlt, Addr.add_lit]
  · exact (h.cellAt (i * 5 + 0) (by omega)).trans ((flat_get (k := 5) (fun _ => rfl) L i 0 x hi (by decide)).trans rfl)
  · exact (h.cellAt (i * 5 + 1) (by omega)).trans ((flat_get (k := 5) (fun _ => rfl) L i 1 x hi (by decide)).trans rfl)
  · exact (h.cellAt (i * 5 + 2) (by omega)).trans ((flat_get (k := 5) (fun _ => rfl) L i 2 x hi (by decide)).trans rfl)
  · exact (h.cellAt (i * 5 + 3) (by omega)).trans ((flat_get (k := 5) (fun _ => rfl) L i 3 x hi (by decide)).trans rfl)
  · exact (h.cellAt (i * 5 + 4) (by omega)).trans ((flat_get (k := 5) (fun _ => rfl) L i 4 x hi (by decide)).trans rfl)

theorem SlK.of_ownB {w : World} {base : Nat} {e : TypeId} {sz n : Nat} {v : Value} {xs : List Value} (h : w.ownsRow base e sz v n xs) : SlK w (fun k e' => base ≤ k ∧ e' = e) sz v n xs := by
  obtain ⟨hl, h⟩ := h
  rcases h with ⟨rfl, rfl⟩ | ⟨g, cap, cur, rfl, hb, hh, hnc, hm, _, hx⟩
  · exact ⟨hl, none, 0, rfl, Nat.le_refl _, Nat.zero_le _, .inl ⟨rfl, rfl⟩⟩
  · refine ⟨hl, _, _, rfl, hnc, hm, .inr ⟨g, 0, cur, e, (0, 0), rfl, hh, ⟨hb, rfl⟩, fun j u hu => ?_⟩⟩
    rw [← hx] at hu
    have hj : j < n * sz := by
      have := (List.getElem?_eq_some_iff.1 hu).1
      simp at this; omega
    rw [List.getElem?_take_of_lt hj] at hu
    simpa using hu
/-- What stands behind i rounds of All: T, whose first i hosts have tokens of their own. -/
def AllR (w : World) (S : List HV) (v : Value) (i : Nat) (wr : World) : Prop :=
  ∃ T : List HV, T.map HV.abs = S.map HV.abs ∧ T.drop i = S.drop i ∧ wr.ownsRow w.heap.size 59 5 v T.length (T.flatMap hvC) ∧ (∀ x ∈ T.take i, wr.ownsRow w.heap.size 2 1 x.tv x.tn (x.toks.map (Value.int .i64))) ∧ Kept noBlock w wr

set_option maxRecDepth 100000 in
set_option maxHeartbeats 4000000 in
theorem hAll_at {w : World} {own : Nat → Prop} {g m : Nat} {dc : ByteArray} {rem : Int} {L : List (ByteArray × HV)} (hT : TabAt w own g m dc rem L) (hL : L.length ≤ 100000) (hk : ∀ p ∈ L, p.2.tn ≤ 1000000) :
    Calls Tryz.prog 17 #[.pointer (some ⟨g, 0, none⟩)] w fun e w' =>
      ∃ (v : Value) (T : List HV), e = .returned v ∧ (T.map HV.abs).Perm (L.map fun p => p.2.abs) ∧ T.Pairwise (fun a b => ¬ nlt b.name a.name) ∧ w'.ownsRow w.heap.size 59 5 v T.length (T.flatMap hvC) ∧
        (∀ x ∈ T, w'.ownsRow w.heap.size 2 1 x.tv x.tn (x.toks.map (Value.int .i64))) ∧ Kept noBlock w w' := by
  have c2 := hT.blk.cell 2
  simp only [List.getElem?_toArray, List.getElem?_cons_succ, List.getElem?_cons_zero] at c2
  have key := hSortedF_at (w := w.alloc (.cells #[.map (some m)] 62)) (Bm := w.heap.size) ((Boxed.new w 62 (.map (some m))).cell) (by simp) (hT.map.alloc _) hL
  have key2 : Calls Tryz.prog 28 #[.func (.func 47) #[] #[.pointer (some ⟨w.heap.size, 0, none⟩)], .func (.func 30) #[] #[]] (w.alloc (.cells #[.map (some m)] 62)) fun e w1 =>
      ∃ (A : Option Addr) (n c : Nat) (S : List HV), e = .returned (.slice A n c) ∧ (∀ ty w', (Builtin.len_ #[29] ty #[.slice A n c]).run Tryz.prog w' = .ok (.int .i64 n) w') ∧ Hid (n = S.length ∧ n ≤ 100000 ∧ S.Perm (L.map (·.2)) ∧ S.Pairwise (fun a b => ¬ nlt b.name a.name) ∧ w1.ownsRow w.heap.size 59 5 (.slice A n c) n (S.flatMap hvC) ∧ Kept noBlock w w1) := by
    refine key.mono ?_
    rintro e w1 ⟨v, S, rfl, hp, hs, ho, hk1⟩
    have ho1 : w1.ownsRow w.heap.size 59 5 v S.length (S.flatMap hvC) := own_base ho (by simp)
    obtain ⟨A, c, rfl, -, -⟩ := (Sl.of_own ho1).shape
    exact ⟨A, S.length, c, S, rfl, (Sl.of_own ho1).run_len hostsT, Lib.hid ⟨rfl, by have := hp.length_eq; rw [List.length_map] at this; omega, hp, hs, ho1, ((Kept.refl noBlock w).alloc _).trans hk1 fun _ _ e => e⟩⟩
  clear key
  have HT := Lib.hid hT
  have HKN := Lib.hid hk
  clear hT hk
  go_enter Tryz.func17, Tryz.ntmps17
  go_wp2_with (first | (go_at_call 29; refine (hVals_at _ _).mono ?_; rintro e w' ⟨rfl, rfl⟩) | (go_at_call 28; refine key2.mono ?_; rintro e w1 ⟨A, n, c, S, rfl, hlen, H⟩))
  clear key2
  obtain ⟨hn, hSl, hp, hs, ho1, hk0⟩ := H.out
  have HP := Lib.hid hp
  have HS := Lib.hid hs
  have H0 := Lib.hid hk0
  have HO := Lib.hid ho1
  have HN := Lib.hid hn
  have H1 : Hid (∀ x ∈ S, x.tn ≤ 1000000 ∧ SlK w (fun k e => (own k ∧ k ≠ g ∧ k ≠ m)) 1 x.tv x.tn (x.toks.map (Value.int .i64))) := Lib.hid (by
    intro x hx
    obtain ⟨p, hp1, rfl⟩ := List.mem_map.1 (hp.mem_iff.1 hx)
    exact ⟨HKN.out p hp1, HT.out.ot p hp1⟩)
  clear hp hs hk0 ho1 H hn
  go_loopg [16] n (fun j vi wr => ∃ i : Nat, i + j = n ∧ vi = .int .i64 i ∧ AllR w S (.slice A n c) i wr)
  case atStart => exact ⟨0, by omega, rfl, S, rfl, rfl, by rw [← HN.out]; exact HO.out, fun x hx => by simp at hx, H0.out⟩
  case round =>
    obtain ⟨i, hij, rfl, T, hTa, hTd, hTo, hTk, hTw⟩ := hrel
    by_cases hi : i < n
    · have hTn : T.length = n := by
        have := congrArg List.length hTa
        rw [List.length_map, List.length_map] at this
        rw [HN.out, this]
      obtain ⟨x, hx⟩ : ∃ x, T[i]? = some x := ⟨_, List.getElem?_eq_getElem (by omega)⟩
      have hTo' : wr.ownsRow w.heap.size 59 5 (.slice A n c) n (T.flatMap hvC) := by rw [hTn] at hTo; exact hTo
      obtain ⟨gr, cap, off, hv, hoff, hgr, ⟨cs, hcs⟩, hidx, y0, y1, y2, y3, y4⟩ := ownH_at hTo' hx
      cases hv
      have hxS : x ∈ S := by
        have h1 : (T.drop i)[0]? = some x := by rw [List.getElem?_drop]; exact hx
        rw [hTd] at h1
        exact List.mem_of_mem_drop (List.mem_of_getElem? h1)
      obtain ⟨x1, x2, x3, x4, x5, x6, x7, x8⟩ := x
      have hcl := KClone_at (w := wr.alloc (.cells #[.string x1, .string x2, .string x3, .slice x4 x5 x6, .bool x8] 59)) (((H1.out _ hxS).2.keptNone hTw).alloc _) (H1.out _ hxS).1
      simp only [HV.tv] at hcl
      have HX := Lib.hid hx
      have HTA := Lib.hid hTa
      have HTD := Lib.hid hTd
      have HTO := Lib.hid hTo'
      have HTK := Lib.hid hTk
      have HTW := Lib.hid hTw
      have HOF := Lib.hid hoff
      have HTN := Lib.hid hTn
      have HIJ := Lib.hid hij
      have HCS := Lib.hid hcs
      have HGR := Lib.hid hgr
      have hb : Blk (wr.alloc (.cells #[.string x1, .string x2, .string x3, .slice x4 x5 x6, .bool x8] 59)) wr.heap.size 59 #[.string x1, .string x2, .string x3, .slice x4 x5 x6, .bool x8] := Blk.new _ _ _
      have z3 := hb.cell 3
      simp only [List.getElem?_toArray, List.getElem?_cons_succ, List.getElem?_cons_zero] at z3 y0 y1 y2 y3 y4
      have key3 : Calls Tryz.prog 32 #[.slice x4 x5 x6] (wr.alloc (.cells #[.string x1, .string x2, .string x3, .slice x4 x5 x6, .bool x8] 59)) fun e w3 =>
          ∃ (A' : Option Addr) (n' c' : Nat), e = .returned (.slice A' n' c') ∧ w3.frozen? ⟨gr, off + 3, none⟩ = false ∧ w3.cell? ⟨gr, off + 3, none⟩ = some (.slice x4 x5 x6) ∧ Hid (w3.ownsRow w.heap.size 2 1 (.slice A' n' c') n' (x7.map eI) ∧ w3.ownsRow w.heap.size 59 5 (.slice (some ⟨gr, 0, none⟩) n c) n (T.flatMap hvC) ∧ Kept noBlock wr w3 ∧ n' = x5) := by
        refine hcl.mono ?_
        rintro e w3 ⟨v', rfl, ho3, hk3⟩
        obtain ⟨A', c', rfl, -, -⟩ := (Sl.of_own ho3).shape
        have hk4 : Kept noBlock wr w3 := ((Kept.refl noBlock wr).alloc _).trans hk3 fun _ _ e => e
        have hoT := own_keptB HTO.out hk4 (fun _ _ e => e)
        have hlt : i * 5 + 3 < n * 5 := by omega
        refine ⟨A', x5, c', rfl, hoT.frozenAt _, ?_, Lib.hid ⟨own_base ho3 (by have := hTw.size; simp; omega), hoT, hk4, rfl⟩⟩
        rw [HOF.out, hoT.cellAt _ hlt]
        exact (flat_get (k := 5) (fun _ => rfl) T i 3 _ hx (by decide)).trans rfl
      clear hcl hx hTa hTd hTo hTo' hTk hTw hoff hTn hij hcs hgr hb
      go_wp2_with fail
      refine key3.mono ?_
      rintro e w3 ⟨A', n', c', rfl, hf3, hc3, H3⟩
      clear key3
      go_wp2
      go_roundg (n - (i + 1))
      case measure => have := HIJ.out; omega
      case rel =>
        obtain ⟨h31, h32, h33, rfl⟩ := H3.out
        obtain ⟨s1, s2⟩ := h32.stored (off + 3) (.slice A' n' c')
        rw [HOF.out, flat_setK (k := 5) (f := hvC) (a' := ⟨x1, x2, x3, A', n', c', x7, x8⟩) (fun _ => rfl) (by decide) T i _ HX.out rfl] at s1
        rw [HOF.out] at s2 ⊢
        have hTl := HTN.out
        have hkw : Kept noBlock w (w3.setCell ⟨gr, i * 5 + 3, none⟩ (.slice A' n' c')) := (HTW.out.trans h33 fun _ _ e => e).grown s2 fun k e hlt => by
          cases e
          exact absurd HGR.out (Nat.not_le.2 hlt)
        have hkeep : ∀ {v' : Value} {m' : Nat} {ys : List Value}, w3.ownsRow w.heap.size 2 1 v' m' ys → (w3.setCell ⟨gr, i * 5 + 3, none⟩ (.slice A' n' c')).ownsRow w.heap.size 2 1 v' m' ys := fun h => by
          have hcs := HCS.out
          have hcs3 := (h33.block gr (lt_of_heap hcs) (fun e => e)).trans hcs
          refine own_kept h (Kept.of_grown (S := fun k => k = gr) s2 fun k e _ => by cases e; rfl) fun k cs' e _ hk => ?_
          subst e
          rw [hcs3] at hk
          injection hk with hk
          injection hk with _ h2
          exact absurd h2 (by decide)
        refine ⟨i + 1, by have := HIJ.out; omega, by go_num, T.set i ⟨x1, x2, x3, A', n', c', x7, x8⟩, ?_, ?_, ?_, ?_, hkw⟩
        · rw [← HTA.out, List.map_set]
          refine List.ext_getElem? fun j => ?_
          rw [List.getElem?_set]
          by_cases hj : i = j
          · subst hj
            rw [if_pos rfl, List.getElem?_map, HX.out]
            simp [HV.abs]
            omega
          · rw [if_neg hj]
        · rw [List.drop_set_of_lt (by omega)]
          have h1 := congrArg (List.drop 1) HTD.out
          rwa [List.drop_drop, List.drop_drop] at h1
        · rw [List.length_set, hTl]
          exact s1
        · intro y hy
          have e1 : (T.take i).length = i := by rw [List.length_take]; omega
          rw [List.take_set, List.take_add_one, HX.out, List.set_append_right _ _ (by omega), e1, Nat.sub_self] at hy
          rcases List.mem_append.1 hy with h1 | h1
          · exact hkeep (own_keptB (HTK.out y h1) h33 (fun _ _ e => e))
          · simp only [Option.toList, List.set_cons_zero, List.mem_singleton] at h1
            subst h1
            exact hkeep h31
    · obtain rfl : i = n := by omega
      have FIN := Lib.hid (⟨hTa, hTo, hTk, hTw⟩ : _ ∧ _ ∧ _ ∧ _)
      clear hTa hTd hTo hTk hTw
      go_wp2
      go_ret
      obtain ⟨hTa, hTo, hTk, hTw⟩ := FIN.out
      have hTl : T.length = i := by
        have := congrArg List.length hTa
        rw [List.length_map, List.length_map] at this
        rw [HN.out, this]
      refine ⟨_, T, rfl, ?_, ?_, hTo, ?_, hTw⟩
      · rw [hTa]
        have h1 := HP.out.map HV.abs
        rwa [List.map_map] at h1
      · have h1 : (S.map HV.abs).Pairwise (fun a b => ¬ nlt b.name a.name) := List.pairwise_map.2 HS.out
        rw [← hTa] at h1
        exact List.pairwise_map.1 h1
      · rwa [List.take_of_length_le (by omega)] at hTk
end Go.Proofs.YtjkmgpmknadhjaaGreat

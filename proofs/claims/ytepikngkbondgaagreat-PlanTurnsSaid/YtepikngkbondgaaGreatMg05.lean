/- hosts: Refresh: the walk · Where a token stands in a ring; the walk from there. No program is named · slices.BinarySearchFunc at a ring's places; the ring's own at · hosts: All by rising names; Ring · hosts, plainly: what the laws say of hosts by rising names. No program is named · hosts: Refresh, told of a table by rising names · slices.Grow at no place, slices.Concat of two rows of places. -/
import Derived.Test.YtepikngkbondgaaGreatMg04
import Derived.Test.YtepikngkbondgaaGreatMg02
import Derived.Shelf.SlSortCmp.Kit1
import Derived.Lib.AppendZerosOnto
import Derived.Shelf.Spec.SlicesGrow
namespace Go.Proofs.YtepikngkbondgaaGreat
set_option linter.unusedVariables false
open Go.RowKit Go.MapKept
open Go.ChangeMaps (setBlock)

theorem onceH {G : Prop} (h : ∃ T : Prop, (T → G) ∧ T) : G := by
  obtain ⟨T, h1, h2⟩ := h
  exact h1 h2
theorem nodup_leH {α : Type} [DecidableEq α] : ∀ {A B : List α}, A.Nodup → (∀ x ∈ A, x ∈ B) → A.length ≤ B.length
  | [], _, _, _ => Nat.zero_le _
  | a :: A, B, hn, hs => by
    obtain ⟨h1, h2⟩ := List.nodup_cons.1 hn
    have ha : a ∈ B := hs a (List.mem_cons_self ..)
    have := nodup_leH (A := A) (B := B.erase a) h2 fun x hx => (List.mem_erase_of_ne (fun e => h1 (by rw [← e]; exact hx))).2 (hs x (List.mem_cons_of_mem _ hx))
    rw [List.length_erase_of_mem ha] at this
    have h3 : 0 < B.length := List.length_pos_of_mem ha
    rw [List.length_cons]; omega
theorem adds_len {V : View} {l : List Ho} {A : List ByteArray} (h : addsR V l A) : A.length ≤ l.length := by
  have := nodup_leH (B := l.map (·.name)) h.1 fun x hx => by
    have h1 := ((h.2 x).1 hx).1
    have hx0 : x ≠ noStr := fun e => by subst e; rw [refr_empty] at h1; cases h1
    obtain ⟨o, ho, e⟩ := (refr_has hx0).1 h1
    exact List.mem_map.2 ⟨o, ho, e⟩
  rwa [List.length_map] at this
theorem view_len {V : View} {l : List Ho} {L0 L : List (ByteArray × HV)} (h0 : ∀ x, (aget x L0).map HV.abs = V x) (h : ∀ x, (aget x L).map HV.abs = viewR V l x) (hn : (L.map (·.1)).Nodup) : L.length ≤ L0.length + l.length := by
  have := nodup_leH (B := L0.map (·.1) ++ l.map (·.name)) hn fun x hx => by
    obtain ⟨p, hp, rfl⟩ := List.mem_map.1 hx
    have h1 := h p.1
    rw [aget_of_mem hn hp] at h1
    by_cases e : ∃ o ∈ l, o.name = p.1
    · obtain ⟨o, ho, e⟩ := e
      exact List.mem_append.2 (.inr (List.mem_map.2 ⟨o, ho, e⟩))
    · rw [viewR_old e, ← h0] at h1
      cases hg : aget p.1 L0 with
      | none => rw [hg] at h1; cases h1
      | some v => exact List.mem_append.2 (.inl (List.mem_map.2 ⟨(p.1, v), aget_mem hg, rfl⟩))
  rwa [List.length_map, List.length_append, List.length_map, List.length_map] at this
theorem gone_len {V : View} {L : List (ByteArray × HV)} {G : List ByteArray} (h : ∀ x, (aget x L).map HV.abs = V x) (hn : G.Nodup) (hG : ∀ x ∈ G, (V x).isSome = true) : G.length ≤ L.length := by
  have := nodup_leH (B := L.map (·.1)) hn fun x hx => by
    have h1 := hG x hx
    rw [← h] at h1
    cases hg : aget x L with
    | none => rw [hg] at h1; cases h1
    | some v => exact List.mem_map.2 ⟨(x, v), aget_mem hg, rfl⟩
  rwa [List.length_map] at this
theorem ownI_not_row {w wr : World} {own : Nat → Prop} {va : Value} {n : Nat} {xs : List Value} (hown : ∀ k, own k → k < w.heap.size) (hrow : wr.ownsRow w.heap.size 9 1 va n xs) {k : Nat} (h : ownI wr w.heap.size own k) : va.ownBlock ≠ some k := by
  intro e
  obtain ⟨e1, cs', e2⟩ := own_type hrow e
  rcases h with h | ⟨_, cs, fz, h⟩
  · have := hown _ h; omega
  · rw [e2] at h; injection h with h; injection h with _ h; exact absurd h (by decide)
theorem row_not_map {W : World} {B m : Nat} {va : Value} {n : Nat} {xs : List Value} {es : Array MapEntry} {ck : Nat} (hrow : W.ownsRow B 9 1 va n xs) (h : W.heap[m]? = some (.map es ck)) : va.ownBlock ≠ some m := by
  intro e
  obtain ⟨_, cs, e2⟩ := own_type hrow e
  rw [e2] at h; cases h
def entsOf (w : World) (m : Nat) : Array MapEntry := match w.heap[m]? with
  | some (.map es _) => es
  | _ => #[]
theorem entsOf_is {w : World} {m ck : Nat} {es : Array MapEntry} (h : w.heap[m]? = some (.map es ck)) : entsOf w m = es := by unfold entsOf; rw [h]
theorem htidy_n {w : World} {ok : Nat → TypeId → Prop} {v : Value} {n : Nat} {l : List Int} (h : SlK w ok 1 v n (l.map (Value.int .i64))) (hn : l.length ≤ 1000000) :
    Calls Tryz.prog 41 #[v] w fun e w' => ∃ A k c, e = .returned (.slice A k c) ∧ SlK w' (fun b e' => w.heap.size ≤ b ∧ e' = 2) 1 (.slice A k c) k ((tidyP l).map eI) ∧ Kept noBlock w w' := by
  have h1 := h.len
  rw [List.length_map, Nat.mul_one] at h1
  subst h1
  exact htidy_at h hn
/-- What Refresh leaves. -/
def RefPost (w : World) (own : Nat → Prop) (g : Nat) (dc : ByteArray) (rem : Int) (V : View) (l : List Ho) (m : Nat) (e : Ending) (w' : World) : Prop :=
  ∃ (va vg : Value) (AD G : List ByteArray) (L : List (ByteArray × HV)), e = .returned (.tuple #[va, vg]) ∧ w'.ownsRow w.heap.size 9 1 va (sortN AD).length ((sortN AD).map Value.string) ∧ w'.ownsRow w.heap.size 9 1 vg (sortN G).length ((sortN G).map Value.string) ∧
    addsR V l AD ∧ G.Nodup ∧ (∀ x, x ∈ G ↔ (V x).isSome = true ∧ refr V l x = none) ∧ TabAt w' (ownI w' w.heap.size own) g m dc rem L ∧ (∀ x, (aget x L).map HV.abs = refr V l x) ∧ Kept (fun k => k = m) w w'

set_option maxRecDepth 100000 in
set_option maxHeartbeats 8000000 in
theorem hRefresh_at {w : World} {own : Nat → Prop} {g m : Nat} {dc : ByteArray} {rem : Int} {L0 : List (ByteArray × HV)} {V : View} {l : List HV} {A : Option Addr} {n c : Nat} (hT : TabAt w own g m dc rem L0) (hV : ∀ x, (aget x L0).map HV.abs = V x)
    (hl : Lo w w.heap.size 5 (.slice A n c) n (l.flatMap hvC)) (hn : l.length = n) (hn2 : n ≤ 100000) (hL0 : L0.length ≤ 100000) (hk : ∀ x ∈ l, x.toks.length ≤ 1000000 ∧ SlK w (fun k _ => k < w.heap.size) 1 x.tv x.tn (x.toks.map (Value.int .i64))) :
    Calls Tryz.prog 22 #[.pointer (some ⟨g, 0, none⟩), .slice A n c] w (RefPost w own g dc rem V (l.map HV.abs) m) := by
  have c2 := hT.blk.cell 2
  simp only [List.getElem?_toArray, List.getElem?_cons_succ, List.getElem?_cons_zero] at c2
  have hmk := @run_makeMap Tryz.prog
  have hlen := hl.run_len hostsT
  have k0 : KMap .string (fun s : ByteArray => Value.string s) Value.bool (w.alloc (.map #[] 0)) w.heap.size ([] : List (ByteArray × Bool)) := KMap.new w
  obtain ⟨es0, ck0, hup0, hm0⟩ := k0.run_update (P := Tryz.prog) string_emb msbM strU noStr true
  have hup1 : (Instr.mapUpdate 81 (.map (some w.heap.size)) (.string ⟨#[]⟩) (.bool true)).run Tryz.prog (w.alloc (.map #[] 0)) = .ok () (setBlock (w.alloc (.map #[] 0)) w.heap.size (.map es0 ck0)) := hup0
  clear hup0
  have hcm : m < w.heap.size := hT.map.lt
  have START : Hid (RefAt w (setBlock (w.alloc (.map #[] 0)) w.heap.size (.map es0 ck0)) own g m w.heap.size dc rem V [] (.slice none 0 0)) := Lib.hid (by
    have hk1 : Kept noBlock w (setBlock (w.alloc (.map #[] 0)) w.heap.size (.map es0 ck0)) := ((Kept.refl noBlock w).alloc _).trans ((Kept.refl (fun k => k = w.heap.size) _).setBlock (m := w.heap.size) (fun _ => rfl) _) fun i hi e => by omega
    refine ⟨⟨L0, (hT.keptN hk1).wide (fun k e => .inl e) (fun k e => ?_), fun x => by rw [viewR_nil]; exact hV x⟩, ⟨_, hm0, fun x => ?_⟩, ⟨[], addsR_nil V, World.ownsRow_nil _ _ _ _⟩, Nat.le_refl _, hk1.mono fun _ _ e => e.elim⟩
    · rcases e with h | ⟨_, cs, fz, h'⟩
      · exact Nat.lt_of_lt_of_le (hT.lt k h) hk1.size
      · exact lt_of_heap h'
    · rw [aget_aput]
      by_cases e : noStr = x
      · simp [e]
      · simp [e, aget, Ne.symm e])
  have hnoM : ∀ k cs e fz, w.heap[k]? = some (.cells cs e fz) → k ≠ m := fun k cs e fz hh e2 => by
    obtain ⟨es, ck, h⟩ := hT.map.heap
    subst e2
    rw [h] at hh; cases hh
  have HL : Hid (SlK w (fun k _ => k < w.heap.size ∧ k ≠ m) 5 (.slice A n c) n (l.flatMap hvC)) := Lib.hid (hl.anyH fun k cs e fz hh hlt => ⟨hlt, hnoM k cs e fz hh⟩)
  have HKT : Hid (∀ x ∈ l, x.toks.length ≤ 1000000 ∧ SlK w (fun k _ => k < w.heap.size ∧ k ≠ m) 1 x.tv x.tn (x.toks.map (Value.int .i64))) := Lib.hid fun x hx => ⟨(hk x hx).1, (hk x hx).2.anyH fun k cs e fz hh hlt => ⟨hlt, hnoM k cs e fz hh⟩⟩
  have HG := Lib.hid hT.og
  have HOWN := Lib.hid hT.lt
  have HNL := Lib.hid hn
  have HV0 := Lib.hid hV
  have HVN : Hid (V noStr = none) := Lib.hid (by
    rw [← hV]
    cases hg : aget noStr L0 with
    | none => rfl
    | some v => exact absurd rfl (hT.nm _ (aget_mem hg)).2)
  clear hT hV hl hk k0 hm0 hn
  go_enter Tryz.func22, Tryz.ntmps22
  go_wp2_with fail
  go_loopg [6, 20] n (fun j va vi wr => ∃ i : Nat, i + j = n ∧ vi = .int .i64 i ∧ RefAt w wr own g m w.heap.size dc rem V ((l.take i).map HV.abs) va)
  case atStart => exact ⟨0, by omega, rfl, START.out⟩
  case round =>
    obtain ⟨i, hij, rfl, hR⟩ := hrel
    by_cases hi : i < n
    · obtain ⟨x, hx⟩ : ∃ x, l[i]? = some x := ⟨_, List.getElem?_eq_getElem (by have := HNL.out; omega)⟩
      have HR := Lib.hid hR
      have HX := Lib.hid hx
      have HIJ := Lib.hid hij
      have hsl : SlK wr (fun k _ => k < w.heap.size ∧ k ≠ m) 5 (.slice A n c) n (l.flatMap hvC) := HL.out.keptAll hR.kept fun k e h e2 => h.2 e2
      obtain ⟨gr, off, hidx, y0, y1, y2, y3, y4⟩ : ∃ gr off, (∀ kd w', (Instr.indexAt 22 (.slice A n c) (.int kd (i : Int))).run Tryz.prog w' = .ok (.pointer (some ⟨gr, off, none⟩)) w') ∧
          wr.cell? ⟨gr, off, none⟩ = some (.string x.name) ∧ wr.cell? ⟨gr, off + 1, none⟩ = some (.string x.dc) ∧ wr.cell? ⟨gr, off + 2, none⟩ = some (.string x.rack) ∧ wr.cell? ⟨gr, off + 3, none⟩ = some (.slice x.ta x.tn x.tc) ∧ wr.cell? ⟨gr, off + 4, none⟩ = some (.bool x.up) := by
        obtain ⟨gr, off, h1, _, _, h3⟩ := hsl.run_index hostsT (i := (i : Int)) (k := i) rfl hi
        refine ⟨gr, off, h1, h3 0 _ ?_, h3 1 _ ?_, h3 2 _ ?_, h3 3 _ ?_, h3 4 _ ?_⟩ <;> exact (flat_get (k := 5) (fun _ => rfl) l i _ x hx (by decide)).trans rfl
      have hxk := HKT.out x (List.mem_of_getElem? hx)
      obtain ⟨x1, x2, x3, x4, x5, x6, x7, x8⟩ := x
      simp only [] at y0 y1 y2 y3 y4
      have HXK : Hid (x7.length ≤ 1000000 ∧ SlK w (fun k _ => k < w.heap.size ∧ k ≠ m) 1 (.slice x4 x5 x6) x5 (x7.map (Value.int .i64))) := Lib.hid hxk
      obtain ⟨K, k3, k4⟩ := hR.seen
      obtain ⟨AD, hAD1, hAD2⟩ := hR.adds
      have hADn : AD.length ≤ 100000 := by
        have := adds_len hAD1
        rw [List.length_map, List.length_take] at this
        omega
      have kk := k4 x1
      have k5 := (k3.alloc (.cells #[.string x1, .string x2, .string x3, .slice x4 x5 x6, .bool x8] 48)).run_lookup (P := Tryz.prog) string_emb msbM strU (zero_bool _) x1 false
      have hb : Blk (wr.alloc (.cells #[.string x1, .string x2, .string x3, .slice x4 x5 x6, .bool x8] 48)) wr.heap.size 48 #[.string x1, .string x2, .string x3, .slice x4 x5 x6, .bool x8] := Blk.new _ _ _
      have z0 := hb.cell 0
      have z3 := hb.cell 3
      have z4 := hb.cell 4
      simp only [List.getElem?_toArray, List.getElem?_cons_succ, List.getElem?_cons_zero] at z0 z3 z4
      have k6 : ((aget x1 K).map Value.bool).getD (.bool false) = .bool ((aget x1 K).getD false) := by cases aget x1 K <;> rfl
      rw [if_neg (by decide), k6] at k5
      have hti : (l.take (i + 1)).map HV.abs = (l.take i).map HV.abs ++ [HV.abs ⟨x1, x2, x3, x4, x5, x6, x7, x8⟩] := by rw [List.take_add_one, hx, List.map_append]; rfl
      have HTI := Lib.hid hti
      have hka : Kept noBlock wr (wr.alloc (.cells #[.string x1, .string x2, .string x3, .slice x4 x5 x6, .bool x8] 48)) := (Kept.refl noBlock wr).alloc _
      cases hse : (aget x1 K).getD false with
      | true =>
        rw [hse] at k5 kk
        have FIN := Lib.hid ((hR.keptN hka).skip (o := HV.abs ⟨x1, x2, x3, x4, x5, x6, x7, x8⟩) (kk.1 rfl))
        clear hR hx hij k3 k4 kk k6 hb hti hse hsl hka z3 z4 hxk hAD1 hAD2 hADn
        go_wp2_with fail
        go_roundg (n - (i + 1))
        case measure => have := HIJ.out; omega
        case rel => exact ⟨i + 1, by have := HIJ.out; omega, by go_num, by rw [HTI.out]; exact FIN.out⟩
      | false =>
        rw [hse] at k5 kk
        obtain ⟨hne, hns⟩ : x1 ≠ noStr ∧ ¬ ∃ o ∈ (l.take i).map HV.abs, o.name = x1 := ⟨fun e => absurd (kk.2 (.inl e)) (by decide), fun e => absurd (kk.2 (.inr e)) (by decide)⟩
        obtain ⟨es1, ck1, hup2, k7⟩ := (k3.alloc (.cells #[.string x1, .string x2, .string x3, .slice x4 x5 x6, .bool x8] 48)).run_update (P := Tryz.prog) string_emb msbM strU x1 true
        obtain ⟨L, hTL, hTV⟩ := hR.tab
        have HTL := Lib.hid hTL
        have HTV := Lib.hid hTV
        have HNS := Lib.hid hns
        have HNE := Lib.hid hne
        have HK7 := Lib.hid k7
        have HK3 := Lib.hid k3
        have HKK := Lib.hid k4
        have HKA := Lib.hid hka
        have HB := Lib.hid hb
        have HAD1 := Lib.hid hAD1
        have HAD2 := Lib.hid hAD2
        clear hR hx hij k3 k4 kk k6 hb hti hse hsl hka hTL hTV hns hne k7 hxk hAD1 hAD2
        have hk2 : Kept (fun k => k = w.heap.size) wr (setBlock (wr.alloc (.cells #[.string x1, .string x2, .string x3, .slice x4 x5 x6, .bool x8] 48)) w.heap.size (.map es1 ck1)) := (HKA.out.mono fun _ _ e => e.elim).trans ((Kept.refl (fun k => k = w.heap.size) _).setBlock (m := w.heap.size) (fun _ => rfl) _) fun _ _ e => e
        have HK2 := Lib.hid hk2
        have hos : ∀ k, ownI wr w.heap.size own k → k ≠ w.heap.size := by
          rintro k (h | ⟨_, cs, fz, h⟩) e
          · exact absurd (HOWN.out k h) (by omega)
          · obtain ⟨es', ck', hh⟩ := HK3.out.heap
            subst e
            rw [hh] at h; cases h
        have hT2 := HTL.out.kept hk2 hos
        have hb2 : Blk (setBlock (wr.alloc (.cells #[.string x1, .string x2, .string x3, .slice x4 x5 x6, .bool x8] 48)) w.heap.size (.map es1 ck1)) wr.heap.size 48 #[.string x1, .string x2, .string x3, .slice x4 x5 x6, .bool x8] := by
          have h9 := HR.out.kept.size
          have h8 := HK3.out.lt
          exact HB.out.kept ((Kept.refl (fun k => k = w.heap.size) _).setBlock (m := w.heap.size) (fun _ => rfl) _) (fun e => by omega)
        have hz2 : wr.heap.size < (setBlock (wr.alloc (.cells #[.string x1, .string x2, .string x3, .slice x4 x5 x6, .bool x8] 48)) w.heap.size (.map es1 ck1)).heap.size := hb2.lt
        have hrow2 := own_keptB HAD2.out hk2 (fun k e1 e2 => by
          obtain ⟨es', ck', hh⟩ := HK3.out.heap
          exact row_not_map HAD2.out hh (e2 ▸ e1))
        have HROW2 := Lib.hid hrow2
        have HT2 := Lib.hid hT2
        have HB2 := Lib.hid hb2
        have HZ2 := Lib.hid hz2
        have c22 := hT2.blk.cell 2
        have z02 := hb2.cell 0
        simp only [List.getElem?_toArray, List.getElem?_cons_succ, List.getElem?_cons_zero] at c22 z02
        have l1 := (hT2.map.alloc (.cells #[.string ⟨#[]⟩, .string ⟨#[]⟩, .string ⟨#[]⟩, .slice none 0 0, .bool false] 48)).drew.run_lookup (P := Tryz.prog) string_emb mshM strU (zero_host _) x1 true
        have l2 := hT2.map.drew.run_lookup (P := Tryz.prog) string_emb mshM strU (zero_host _) x1 true
        have z03 := (hb2.alloc (.cells #[.string ⟨#[]⟩, .string ⟨#[]⟩, .string ⟨#[]⟩, .slice none 0 0, .bool false] 48)).drew.cell 0
        have c23 := (hT2.blk.alloc (.cells #[.string ⟨#[]⟩, .string ⟨#[]⟩, .string ⟨#[]⟩, .slice none 0 0, .bool false] 48)).drew.cell 2
        simp only [List.getElem?_toArray, List.getElem?_cons_succ, List.getElem?_cons_zero] at z03 c23
        clear hz2 hrow2
        generalize setBlock (wr.alloc (.cells #[.string x1, .string x2, .string x3, .slice x4 x5 x6, .bool x8] 48)) w.heap.size (.map es1 ck1) = W2 at *
        clear hT2 hb2 hk2
        have HO5 : Hid (∀ k, ownI wr w.heap.size own k → ¬ k = wr.heap.size) := Lib.hid fun k h e => by
          have := ownI_lt HOWN.out HR.out.kept.size h
          omega
        cases hag : aget x1 L with
        | none =>
          rw [hag] at l1 l2
          simp only [Option.map_none, Option.getD_none, Option.isSome_none, if_true] at l1 l2
          have hVx : V x1 = none := by
            have h1 := HTV.out x1
            rw [hag, viewR_old HNS.out] at h1
            exact h1.symm
          have HVX := Lib.hid hVx
          have HVE : Hid (∀ TA TN TC, HV.abs ⟨x1, x2, x3, TA, TN, TC, tidyP x7, x8⟩ = updH V (HV.abs ⟨x1, x2, x3, x4, x5, x6, x7, x8⟩)) := Lib.hid fun _ _ _ => by simp [HV.abs, updH, hVx]
          have HW3 : Hid (Kept noBlock W2 (W2.alloc (.cells #[.string noStr, .string noStr, .string noStr, .slice none 0 0, .bool false] 48)).drew) := Lib.hid ((Kept.refl noBlock W2).alloc _).drew
          clear hVx hag
          go_wp2_with fail
          apply onceH
          apply Exists.intro
          apply And.intro
          · intro key
            go_region
            all_goals exact key
          generalize (W2.alloc (.cells #[.string noStr, .string noStr, .string noStr, .slice none 0 0, .bool false] 48)).drew = W3 at *
          have hz3 : wr.heap.size < W3.heap.size := Nat.lt_of_lt_of_le HZ2.out HW3.out.size
          have z33 := (HB2.out.kept HW3.out (fun e => e)).cell 0
          simp only [List.getElem?_toArray, List.getElem?_cons_zero] at z33
          clear l1 z03 c23
          go_wp2_with (at_builtin; go_must (refine wpList_append_sl _ strsT rfl (.tmp 45) (.tmp 48) rfl w.heap.size _ AD.length (AD.map Value.string) rfl (World.ownsRow.alloc (own_keptB HROW2.out HW3.out (fun _ _ e => e)) _) _ 1 [.string x1] rfl (Sl.made_at (Blk.new_at _ 9 #[.string x1] rfl) _ rfl rfl one_max) (by simp [Value.oneCell']) ?c1 ?c2 ?_))
          case c1 => omega
          case c2 => have := HR.out.kept.size; have := HK2.out.size; have := HW3.out.size; simp only [sz_alloc]; omega
          intro v' W5 hap
          have hk35 : Kept (fun k => u6.ownBlock = some k) W3 W5 := ((Kept.refl (fun k => u6.ownBlock = some k) W3).alloc _).trans hap.kept (fun _ _ e => e)
          have HB5 := Lib.hid (((HB2.out.kept HW3.out (fun e => e))).kept hk35 (fun e => Nat.lt_irrefl _ (own_lt HAD2.out e)))
          have HK5 : Hid (Kept (fun k => k = w.heap.size ∨ u6.ownBlock = some k) wr W5) := Lib.hid (((HK2.out.mono (T := fun k => k = w.heap.size ∨ u6.ownBlock = some k) (fun _ _ e => .inl e)).trans HW3.out (fun _ _ e => e.elim)).trans hk35 (fun _ _ e => .inr e))
          have HT5 := Lib.hid ((HT2.out.kept HW3.out (fun _ _ e => e)).kept hk35 (fun k e => ownI_not_row HOWN.out HAD2.out e))
          have HKM5 := Lib.hid ((HK7.out.kept HW3.out (fun e => e)).kept hk35 (fun e => by obtain ⟨es', ck', hh⟩ := HK3.out.heap; exact row_not_map HAD2.out hh e))
          have HRW5 : Hid (∃ AD', addsR V ((l.take i).map HV.abs ++ [HV.abs ⟨x1, x2, x3, x4, x5, x6, x7, x8⟩]) AD' ∧ W5.ownsRow w.heap.size 9 1 v' AD'.length (AD'.map Value.string)) := Lib.hid ⟨AD ++ [x1], addsR_new (h := HV.abs ⟨x1, x2, x3, x4, x5, x6, x7, x8⟩) HNE.out HNS.out HVX.out HAD1.out, by simpa using hap.own⟩
          have hz5 : wr.heap.size < W5.heap.size := Nat.lt_of_lt_of_le hz3 hk35.size
          have HZ5 := Lib.hid hz5
          have HSZ5 := Lib.hid (Nat.le_of_lt hz5)
          have HVB : Hid (∀ k, v'.ownBlock = some k → k ≠ wr.heap.size) := Lib.hid fun k e e2 => by
            rcases hap.at_ with h1 | h1
            · rw [h1] at e
              have := own_lt HAD2.out e
              omega
            · rw [h1] at e
              injection e with e
              simp only [sz_alloc] at e
              omega
          have HTY := htidy_n (w := W5) ((HXK.out.2.keptAll HR.out.kept fun k e h e2 => h.2 e2).keptAll HK5.out fun k e h e2 => by
            rcases e2 with e2 | e2
            · have := h.1; omega
            · have := (own_type HAD2.out e2).1; have := h.1; omega) HXK.out.1
          have z35 := HB5.out.cell 3
          simp only [List.getElem?_toArray, List.getElem?_cons_succ, List.getElem?_cons_zero] at z35
          clear hap hk35 hz3 hz5 l2 c22 z02 z33 z0 z3 z4 y0 y1 y2 y3 y4 hidx
          go_wp2_with fail
          skip
          refine HTY.mono ?_
          rintro e w6 ⟨TA, TN, TC, rfl, hts, htk⟩
          have hb6 := HB5.out.kept htk (fun e => e)
          have z63 := hb6.cell 3
          have f63 := hb6.frozen 3
          simp only [List.getElem?_toArray, List.getElem?_cons_succ, List.getElem?_cons_zero] at z63
          have hb7 := hb6.set_ 3 (.slice TA TN TC)
          have hk7 : Kept (fun k => k = w.heap.size ∨ u6.ownBlock = some k) wr (w6.setCell ⟨wr.heap.size, 3, none⟩ (.slice TA TN TC)) := (HK5.out.trans htk fun _ _ e => e.elim).setCell (p := ⟨wr.heap.size, 3, none⟩) (fun h => absurd h (Nat.lt_irrefl _)) _
          have hk57 : Kept (fun k => k = wr.heap.size) W5 (w6.setCell ⟨wr.heap.size, 3, none⟩ (.slice TA TN TC)) := (htk.of_none (S := fun k => k = wr.heap.size)).setCell (p := ⟨wr.heap.size, 3, none⟩) (fun _ => rfl) _
          have hT7 := HT5.out.kept hk57 HO5.out
          have c7 := hT7.blk.cell 2
          have y0 := hb7.cell 0
          have y1 := hb7.cell 1
          have y2 := hb7.cell 2
          have y3 := hb7.cell 3
          have y4 := hb7.cell 4
          simp only [List.getElem?_toArray, List.getElem?_cons_succ, List.getElem?_cons_zero, List.setIfInBounds_toArray, List.set_cons_succ, List.set_cons_zero] at c7 y0 y1 y2 y3 y4
          obtain ⟨es2, ck2, hup3, hm3⟩ := (hT7.map.drew).run_update (P := Tryz.prog) string_emb mshM strU x1 (⟨x1, x2, x3, TA, TN, TC, tidyP x7, x8⟩ : HV)
          simp only [hvV] at hup3
          have hts7 := hts.keptAll ((Kept.refl (fun k => k = wr.heap.size) w6).setCell (p := ⟨wr.heap.size, 3, none⟩) (fun _ => rfl) (.slice TA TN TC)) (fun k e h e2 => by have := HZ5.out; have := h.1; omega)
          have HTS7 := Lib.hid hts7
          have HK7' := Lib.hid hk7
          have HT7 := Lib.hid hT7
          have HM3 := Lib.hid hm3
          have HKM7 := Lib.hid (HKM5.out.kept hk57 (fun e => by have h1 := HR.out.kept.size; have h2 := HK3.out.lt; have e2 : w.heap.size = wr.heap.size := e; omega))
          have HRW7 := Lib.hid (HRW5.out.imp fun AD' h => And.intro h.1 (own_keptB h.2 hk57 (fun k e1 e2 => HVB.out k e1 e2)))
          clear hts htk hb6 hb7 hk7 hk57 hT7 hm3 hts7
          skip
          go_wp2_with fail
          generalize w6.setCell ⟨wr.heap.size, 3, none⟩ (.slice TA TN TC) = W7 at *
          go_region
          go_wp2_with fail
          go_roundg (n - (i + 1))
          case measure => have := HIJ.out; omega
          case rel =>
            refine ⟨i + 1, by have := HIJ.out; omega, by go_num, ?_⟩
            rw [HTI.out]
            obtain ⟨AD', hAD1, hAD2⟩ := HRW7.out
            obtain ⟨AD, hAD3, hAD4⟩ := HR.out.adds
            have hts := HTS7.out
            exact ref_enter HOWN.out HTL.out HTV.out HK3.out HKK.out hAD4 HR.out.new HR.out.kept HK7'.out.drew HKM7.out.drew hAD1 (World.ownsRow.drew hAD2) HNE.out HNS.out (HVE.out _ _ _) (hts.drew.any fun b e _ h => ⟨Nat.le_trans (Nat.le_trans HR.out.kept.size HSZ5.out) h.1, h.2⟩) HM3.out
        | some v =>
          have hVx : V x1 = some v.abs := by
            have h1 := HTV.out x1
            rw [hag, viewR_old HNS.out] at h1
            exact h1.symm
          obtain ⟨n1, n2, n3, ta, tn, tc, tk, vu⟩ := v
          rw [hag] at l1 l2
          simp only [Option.map_some, Option.getD_some, Option.isSome_some, if_true, hvV] at l1 l2
          have HVX : Hid (V x1 ≠ none) := Lib.hid (by rw [hVx]; exact fun e => by cases e)
          have HVE : Hid (∀ TA TN TC, HV.abs ⟨x1, x2, x3, TA, TN, TC, tidyP x7, vu⟩ = updH V (HV.abs ⟨x1, x2, x3, x4, x5, x6, x7, x8⟩)) := Lib.hid fun _ _ _ => by simp [HV.abs, updH, hVx]
          have HW3 : Hid (Kept noBlock W2 (W2.alloc (.cells #[.string n1, .string n2, .string n3, .slice ta tn tc, .bool vu] 48)).drew) := Lib.hid ((Kept.refl noBlock W2).alloc _).drew
          have hb3 : Blk (W2.alloc (.cells #[.string n1, .string n2, .string n3, .slice ta tn tc, .bool vu] 48)).drew W2.heap.size 48 #[.string n1, .string n2, .string n3, .slice ta tn tc, .bool vu] := (Blk.new _ _ _).drew
          have w44 := hb3.cell 4
          simp only [List.getElem?_toArray, List.getElem?_cons_succ, List.getElem?_cons_zero] at w44
          clear hVx hag hb3
          go_wp2_with fail
          apply onceH
          apply Exists.intro
          apply And.intro
          · intro key
            go_region
            all_goals exact key
          generalize (W2.alloc (.cells #[.string n1, .string n2, .string n3, .slice ta tn tc, .bool vu] 48)).drew = W3 at *
          have hz3 : wr.heap.size < W3.heap.size := Nat.lt_of_lt_of_le HZ2.out HW3.out.size
          have hb33 := HB2.out.kept HW3.out (fun e => e)
          have f34 := hb33.frozen 4
          have z34 := hb33.cell 4
          have z35 := hb33.cell 3
          simp only [List.getElem?_toArray, List.getElem?_cons_succ, List.getElem?_cons_zero] at z34 z35
          have hb5 : Blk (W3.setCell ⟨wr.heap.size, 4, none⟩ (.bool vu)) wr.heap.size 48 #[.string x1, .string x2, .string x3, .slice x4 x5 x6, .bool vu] := hb33.set_ 4 (.bool vu)
          have hk35 : Kept (fun k => k = wr.heap.size) W3 (W3.setCell ⟨wr.heap.size, 4, none⟩ (.bool vu)) := (Kept.refl (fun k => k = wr.heap.size) W3).setCell (p := ⟨wr.heap.size, 4, none⟩) (fun _ => rfl) _
          have hk5 : Kept (fun k => k = w.heap.size ∨ u6.ownBlock = some k) wr (W3.setCell ⟨wr.heap.size, 4, none⟩ (.bool vu)) := ((HK2.out.mono (T := fun k => k = w.heap.size ∨ u6.ownBlock = some k) (fun _ _ e => .inl e)).trans HW3.out (fun _ _ e => e.elim)).setCell (p := ⟨wr.heap.size, 4, none⟩) (fun h => absurd h (Nat.lt_irrefl _)) _
          have HB5 := Lib.hid hb5
          have HK5 := Lib.hid hk5
          have HT5 := Lib.hid ((HT2.out.kept HW3.out (fun _ _ e => e)).kept hk35 HO5.out)
          have HKM5 := Lib.hid ((HK7.out.kept HW3.out (fun e => e)).kept hk35 (fun e => by have h1 := HR.out.kept.size; have h2 := HK3.out.lt; have e2 : w.heap.size = wr.heap.size := e; omega))
          have HRW5 : Hid (∃ AD', addsR V ((l.take i).map HV.abs ++ [HV.abs ⟨x1, x2, x3, x4, x5, x6, x7, x8⟩]) AD' ∧ (W3.setCell ⟨wr.heap.size, 4, none⟩ (.bool vu)).ownsRow w.heap.size 9 1 u6 AD'.length (AD'.map Value.string)) := Lib.hid ⟨AD, addsR_old (h := HV.abs ⟨x1, x2, x3, x4, x5, x6, x7, x8⟩) HNE.out HNS.out HVX.out HAD1.out, own_keptB (own_keptB HROW2.out HW3.out (fun _ _ e => e)) hk35 (fun k e1 e2 => by have := own_lt HAD2.out e1; omega)⟩
          have HZ5 : Hid (wr.heap.size < (W3.setCell ⟨wr.heap.size, 4, none⟩ (.bool vu)).heap.size) := Lib.hid hb5.lt
          have HSZ5 := Lib.hid (Nat.le_of_lt HZ5.out)
          have HVB : Hid (∀ k, u6.ownBlock = some k → k ≠ wr.heap.size) := Lib.hid fun k e e2 => by
            have := own_lt HAD2.out e
            omega
          have HTY := htidy_n (w := W3.setCell ⟨wr.heap.size, 4, none⟩ (.bool vu)) ((HXK.out.2.keptAll HR.out.kept fun k e h e2 => h.2 e2).keptAll HK5.out fun k e h e2 => by
            rcases e2 with e2 | e2
            · have := h.1; omega
            · have := (own_type HAD2.out e2).1; have := h.1; omega) HXK.out.1
          clear hb5 hk35 hk5 hb33 hz3 l1 l2 c22 c23 z02 z03 z0 z3 z4 y0 y1 y2 y3 y4 hidx
          go_wp2_with fail
          generalize W3.setCell ⟨wr.heap.size, 4, none⟩ (.bool vu) = W5 at *
          skip
          refine HTY.mono ?_
          rintro e w6 ⟨TA, TN, TC, rfl, hts, htk⟩
          have hb6 := HB5.out.kept htk (fun e => e)
          have z63 := hb6.cell 3
          have f63 := hb6.frozen 3
          simp only [List.getElem?_toArray, List.getElem?_cons_succ, List.getElem?_cons_zero] at z63
          have hb7 := hb6.set_ 3 (.slice TA TN TC)
          have hk7 : Kept (fun k => k = w.heap.size ∨ u6.ownBlock = some k) wr (w6.setCell ⟨wr.heap.size, 3, none⟩ (.slice TA TN TC)) := (HK5.out.trans htk fun _ _ e => e.elim).setCell (p := ⟨wr.heap.size, 3, none⟩) (fun h => absurd h (Nat.lt_irrefl _)) _
          have hk57 : Kept (fun k => k = wr.heap.size) W5 (w6.setCell ⟨wr.heap.size, 3, none⟩ (.slice TA TN TC)) := (htk.of_none (S := fun k => k = wr.heap.size)).setCell (p := ⟨wr.heap.size, 3, none⟩) (fun _ => rfl) _
          have hT7 := HT5.out.kept hk57 HO5.out
          have c7 := hT7.blk.cell 2
          have y0 := hb7.cell 0
          have y1 := hb7.cell 1
          have y2 := hb7.cell 2
          have y3 := hb7.cell 3
          have y4 := hb7.cell 4
          simp only [List.getElem?_toArray, List.getElem?_cons_succ, List.getElem?_cons_zero, List.setIfInBounds_toArray, List.set_cons_succ, List.set_cons_zero] at c7 y0 y1 y2 y3 y4
          obtain ⟨es2, ck2, hup3, hm3⟩ := (hT7.map.drew).run_update (P := Tryz.prog) string_emb mshM strU x1 (⟨x1, x2, x3, TA, TN, TC, tidyP x7, vu⟩ : HV)
          simp only [hvV] at hup3
          have hts7 := hts.keptAll ((Kept.refl (fun k => k = wr.heap.size) w6).setCell (p := ⟨wr.heap.size, 3, none⟩) (fun _ => rfl) (.slice TA TN TC)) (fun k e h e2 => by have := HZ5.out; have := h.1; omega)
          have HTS7 := Lib.hid hts7
          have HK7' := Lib.hid hk7
          have HT7 := Lib.hid hT7
          have HM3 := Lib.hid hm3
          have HKM7 := Lib.hid (HKM5.out.kept hk57 (fun e => by have h1 := HR.out.kept.size; have h2 := HK3.out.lt; have e2 : w.heap.size = wr.heap.size := e; omega))
          have HRW7 := Lib.hid (HRW5.out.imp fun AD' h => And.intro h.1 (own_keptB h.2 hk57 (fun k e1 e2 => HVB.out k e1 e2)))
          clear hts htk hb6 hb7 hk7 hk57 hT7 hm3 hts7
          skip
          go_wp2_with fail
          generalize w6.setCell ⟨wr.heap.size, 3, none⟩ (.slice TA TN TC) = W7 at *
          go_region
          go_wp2_with fail
          go_roundg (n - (i + 1))
          case measure => have := HIJ.out; omega
          case rel =>
            refine ⟨i + 1, by have := HIJ.out; omega, by go_num, ?_⟩
            rw [HTI.out]
            obtain ⟨AD', hAD1, hAD2⟩ := HRW7.out
            obtain ⟨AD, hAD3, hAD4⟩ := HR.out.adds
            have hts := HTS7.out
            exact ref_enter HOWN.out HTL.out HTV.out HK3.out HKK.out hAD4 HR.out.new HR.out.kept HK7'.out.drew HKM7.out.drew hAD1 (World.ownsRow.drew hAD2) HNE.out HNS.out (HVE.out _ _ _) (hts.drew.any fun b e _ h => ⟨Nat.le_trans (Nat.le_trans HR.out.kept.size HSZ5.out) h.1, h.2⟩) HM3.out
    · obtain rfl : i = n := by omega
      obtain ⟨wl, rfl⟩ : ∃ wl : World, wl = wr := ⟨_, rfl⟩
      have HTK : Hid ((l.take i).map HV.abs = l.map HV.abs) := Lib.hid (by rw [List.take_of_length_le (by have := HNL.out; omega)])
      rw [HTK.out] at hR
      obtain ⟨L, hTL, hTV⟩ := hR.tab
      obtain ⟨K, k3, k4⟩ := hR.seen
      obtain ⟨AD, hAD1, hAD2⟩ := hR.adds
      have hLn : L.length ≤ 200000 := by
        have := view_len HV0.out hTV hTL.nd
        rw [List.length_map, HNL.out] at this
        omega
      have hADn : AD.length ≤ 1000000 := by
        have := adds_len hAD1
        rw [List.length_map, HNL.out] at this
        omega
      obtain ⟨es, ck, hh, hst, hLs⟩ := hTL.map
      have hrg := run_range_map (P := Tryz.prog) wl 91 9 48 m es ck mshM hh
      have c2r := hTL.blk.cell 2
      simp only [List.getElem?_toArray, List.getElem?_cons_succ, List.getElem?_cons_zero] at c2r
      have ST2 : Hid (DelAt w (wl.alloc (.mapIter (some m) ck #[] ck)) own g m w.heap.size wl.heap.size ck dc rem (viewR V (l.map HV.abs)) K AD u6 (.slice none 0 0) es L #[] ck []) := Lib.hid (DelAt.start HOWN.out hR k3 hAD2 hTL hTV hh hst hLs ((Kept.refl noBlock wl).alloc _) (heap_alloc_new wl _))
      have HAD1 := Lib.hid hAD1
      have HK4 := Lib.hid k4
      have HLV := Lib.hid hTV
      have HSP : Hid (w.heap.size < wl.heap.size) := Lib.hid k3.lt
      clear hR hTL hTV k3 k4 hAD1 hAD2 hst hLs hij START HL HKT
      go_wp2_with fail
      generalize wl.heap.size = Rr at *
      go_loopw [7] (fun vg wr => ∃ es L seen c0 G, DelAt w wr own g m w.heap.size Rr ck dc rem (viewR V (l.map HV.abs)) K AD u6 vg es L seen c0 G) (fun _ wr => (leftOf (entsOf wr m) (wr.iterSeen Rr)).size)
      case atStart => exact ⟨_, _, _, _, _, ST2.out⟩
      case round =>
        obtain ⟨es, L, seen, c0, G, hD⟩ := hrel
        have HD := Lib.hid hD
        have law := run_next_at (P := Tryz.prog) wr 0 Rr m ck c0 seen es ck hD.it hD.hh hD.st.1 hD.le
        have hGn : G.length ≤ 200000 := by
          have := gone_len HLV.out hD.nd fun x hx => (hD.gone x hx).2
          omega
        rcases law with ⟨h0, hrun⟩ | ⟨e, he, w2, hw2, hrun⟩
        · have hnx : ∀ ty, (Instr.next (.pointer (some ⟨Rr, 0, none⟩)) false ty).run Tryz.prog wr = _ := fun _ => hrun
          have HDN := Lib.hid (hD.done h0 (fun _ => rfl) HVN.out HK4.out)
          have HS1 := SSort_at (hD.fam.get 0 rfl) hADn
          clear hD h0
          go_wp2_with fail
          refine HS1.mono ?_
          rintro e w3 ⟨rfl, ho3, hk3⟩
          have ho3g : w3.ownsRow w.heap.size 9 1 u7 G.length (G.map Value.string) := own_keptB (HD.out.fam.get 1 rfl) hk3 (fun k e1 e2 => HD.out.fam.2 0 1 _ _ (by decide) rfl rfl k e2 e1)
          have HS2 := SSort_at ho3g (by omega)
          have HO3 := Lib.hid ho3
          have HK3' := Lib.hid hk3
          clear ho3 hk3 ho3g HS1
          go_wp2_with fail
          refine HS2.mono ?_
          rintro e w4 ⟨rfl, ho4, hk4⟩
          have ho3a := own_keptB HO3.out hk4 (fun k e1 e2 => HD.out.fam.2 0 1 _ _ (by decide) rfl rfl k e1 e2)
          have HO4 := Lib.hid ho4
          have HO3A := Lib.hid ho3a
          have HK4' := Lib.hid hk4
          clear ho4 ho3a hk4 HS2
          go_wp2
          go_ret2
          have hown3 : ∀ (u : Value) (q : Nat) (ys : List Value) (W : World), W.ownsRow w.heap.size 9 1 u q ys → ∀ k, ownI W w.heap.size own k → ¬ u.ownBlock = some k := fun u q ys W hu k hk => ownI_not_row HOWN.out hu hk
          have e1 : (sortN AD).length = AD.length := (sortN_perm AD).length_eq
          have e2 : (sortN G).length = G.length := (sortN_perm G).length_eq
          have hd := HD.out
          have t3 := hd.tab.kept HK3'.out (fun k hk => hown3 _ _ _ _ (hd.fam.get 0 rfl) k hk)
          have hrow3 : w3.ownsRow w.heap.size 9 1 u7 G.length (G.map Value.string) := own_keptB (hd.fam.get 1 rfl) HK3'.out (fun k e1 e2 => hd.fam.2 0 1 _ _ (by decide) rfl rfl k e2 e1)
          have t4 := t3.kept HK4'.out (fun k hk => hown3 _ _ _ _ (hd.fam.get 1 rfl) k hk)
          have ki : ∀ k, ownI wr w.heap.size own k → ownI w4 w.heap.size own k := by
            rintro k (h | ⟨h1, cs, fz, h2⟩)
            · exact .inl h
            · have hI : ownI wr w.heap.size own k := .inr ⟨h1, cs, fz, h2⟩
              have h3 := (HK3'.out.block k (lt_of_heap h2) (hown3 _ _ _ _ (hd.fam.get 0 rfl) k hI)).trans h2
              exact .inr ⟨h1, cs, fz, (HK4'.out.block k (lt_of_heap h3) (hown3 _ _ _ _ (hd.fam.get 1 rfl) k hI)).trans h3⟩
          have hs4 : w.heap.size ≤ w4.heap.size := Nat.le_trans hd.kept.size (Nat.le_trans HK3'.out.size HK4'.out.size)
          refine ⟨u6, u7, AD, G, L, rfl, by rw [e1]; exact HO3A.out, by rw [e2]; exact HO4.out, HAD1.out, hd.nd, HDN.out.2, t4.wide ki (fun k e => ownI_lt HOWN.out hs4 e), HDN.out.1, (hd.kept.trans HK3'.out fun k hlt e => ?_).trans HK4'.out fun k hlt e => ?_⟩
          · have := (own_type (hd.fam.get 0 rfl) e).1; omega
          · have := (own_type (hd.fam.get 1 rfl) e).1; omega
        · have hem := mem_left he
          obtain ⟨x, hv, hek, hev⟩ : ∃ (x : ByteArray) (v : HV), e.key = .string x ∧ e.val = hvV v := by
            obtain ⟨j, hj⟩ := List.getElem?_of_mem hem.1
            have h1 := congrArg (fun l => l[j]?) hD.hL
            simp only [List.getElem?_map, hj, Option.map_some] at h1
            cases hp : L[j]? with
            | none => rw [hp] at h1; simp at h1
            | some p =>
              rw [hp] at h1
              simp only [Option.map_some, Option.some.injEq, Prod.mk.injEq] at h1
              exact ⟨p.1, p.2, h1.1, h1.2⟩
          obtain ⟨v1, v2, v3, v4, v5, v6, v7, v8⟩ := hv
          rw [hek, hev] at hrun
          have hnx : ∀ ty, (Instr.next (.pointer (some ⟨Rr, 0, none⟩)) false ty).run Tryz.prog wr = _ := fun _ => hrun
          have hk2 : Kept (fun k => k = Rr) wr (setBlock w2 Rr (.mapIter (some m) ck (seen.push e.born) ck)) := by
            have : Kept (fun k => k = Rr) wr w2 := by
              rcases hw2 with rfl | rfl
              · exact Kept.refl _ _
              · exact (Kept.refl _ _).drew
            exact this.setBlock (m := Rr) (fun _ => rfl) _
          have hr2 : (setBlock w2 Rr (.mapIter (some m) ck (seen.push e.born) ck)).heap[Rr]? = some (.mapIter (some m) ck (seen.push e.born) ck) := heap_setBlock_me (by rcases hw2 with rfl | rfl <;> exact lt_of_heap hD.it) _
          have hRm : m ≠ Rr := fun e => by have := hD.hh; rw [e, hD.it] at this; cases this
          have hRs : w.heap.size ≠ Rr := fun e => by obtain ⟨es', ck', hh'⟩ := hD.names.heap; rw [e, hD.it] at hh'; cases hh'
          have hRg : g ≠ Rr := fun e => by have := hD.tab.blk; unfold Blk at this; rw [e, hD.it] at this; cases this
          have hb2 : (setBlock w2 Rr (.mapIter (some m) ck (seen.push e.born) ck)).heap[m]? = some (.map es ck) := (hk2.block m (lt_of_heap hD.hh) hRm).trans hD.hh
          have hen := run_entry_at (P := Tryz.prog) (setBlock w2 Rr (.mapIter (some m) ck (seen.push e.born) ck)) Rr m ck seen es ck e hr2 hb2 hem.1 hD.st.2.1
          rw [hek, hev] at hen
          have k6 : ((aget x K).map Value.bool).getD (.bool false) = .bool ((aget x K).getD false) := by cases aget x K <;> rfl
          have k5 := (hD.names.kept hk2 hRs).run_lookup (P := Tryz.prog) string_emb msbM strU (zero_bool _) x false
          rw [if_neg (by decide), k6] at k5
          have c23 := (hD.tab.blk.kept hk2 hRg).cell 2
          simp only [List.getElem?_toArray, List.getElem?_cons_succ, List.getElem?_cons_zero] at c23
          simp only [hvV] at hrun hnx hen
          have HEM := Lib.hid hem.1
          have HEK := Lib.hid hek
          have HR2 := Lib.hid hr2
          have HB2 := Lib.hid hb2
          have HK2 := Lib.hid hk2
          have HMS := Lib.hid (left_shrinks es seen e he)
          cases hse : (aget x K).getD false with
          | true =>
            rw [hse] at k5
            have HFIN := Lib.hid (hD.pass hem.1 hek hse hk2 hr2 HOWN.out)
            have HM1 := Lib.hid (entsOf_is hD.hh)
            have HM2 := Lib.hid (iterSeen_is hD.it)
            clear hD he hem hek hev hk2 hr2 hb2 hse k6 hw2 hRm hRs hRg
            go_wp2_with fail
            go_roundw
            case rel => exact ⟨_, _, _, _, _, HFIN.out⟩
            case measure =>
              rw [entsOf_is HFIN.out.hh, iterSeen_is HFIN.out.it, HM1.out, HM2.out]
              exact HMS.out
          | false =>
            rw [hse] at k5
            have HSE := Lib.hid hse
            have HM1 := Lib.hid (entsOf_is hD.hh)
            have HM2 := Lib.hid (iterSeen_is hD.it)
            have HFAM : Hid (Fam (setBlock w2 Rr (.mapIter (some m) ck (seen.push e.born) ck)) w.heap.size [⟨9, 1, u6, AD.length, AD.map Value.string⟩, ⟨9, 1, u7, G.length, G.map Value.string⟩]) := Lib.hid ⟨fun i r hr => own_keptB (hD.fam.1 i r hr) hk2 (fun k e1 e2 => by
              obtain ⟨_, cs, hc⟩ := own_type (hD.fam.1 i r hr) e1
              rw [e2, hD.it] at hc; cases hc), hD.fam.2⟩
            have HC2 : Hid (Blk (setBlock w2 Rr (.mapIter (some m) ck (seen.push e.born) ck)) g 93 #[.string dc, .int .i64 rem, .map (some m)]) := Lib.hid (hD.tab.blk.kept hk2 hRg)
            clear hD he hem hek hev hk2 hr2 hb2 hse k6 hw2 hRm hRs hRg c23
            generalize setBlock w2 Rr (.mapIter (some m) ck (seen.push e.born) ck) = w3 at *
            go_wp2_with (at_builtin; go_must (refine wpList_append_sl _ strsT rfl (.tmp 75) (.tmp 77) rfl w.heap.size _ G.length (G.map Value.string) rfl ((HFAM.out.keptN ((Kept.refl noBlock _).alloc _)).get 1 rfl) _ 1 [.string x] rfl (Sl.made_at (Blk.new_at _ 9 #[.string x] rfl) _ rfl rfl one_max) (by simp [Value.oneCell']) ?c1 ?c2 ?_))
            case c1 => omega
            case c2 => have := HD.out.kept.size; have := HK2.out.size; simp only [sz_alloc]; omega
            intro v' W hap
            have hkw : Kept (fun k => u7.ownBlock = some k) w3 W := ((Kept.refl (fun k => u7.ownBlock = some k) w3).alloc _).trans hap.kept (fun _ _ e => e)
            have hfam := HFAM.out.app 1 rfl ((Kept.refl noBlock w3).alloc (.cells #[.string x] 9)) hap
            have hmW : W.heap[m]? = some (.map es ck) := (hkw.block m (lt_of_heap HB2.out) (fun e => row_not_map (HFAM.out.get 1 rfl) HB2.out e)).trans HB2.out
            have hrw7 : w3.ownsRow w.heap.size 9 1 u7 G.length (G.map Value.string) := HFAM.out.get 1 rfl
            have hgW : Blk W g 93 #[.string dc, .int .i64 rem, .map (some m)] := HC2.out.kept hkw (fun e => by
              obtain ⟨_, cs, hc⟩ := own_type hrw7 e
              have := HC2.out
              unfold Blk at this
              rw [this] at hc; injection hc with hc; injection hc with _ hc; exact absurd hc (by decide))
            have hiW : W.heap[Rr]? = some (.mapIter (some m) ck (seen.push e.born) ck) := (hkw.block Rr (lt_of_heap HR2.out) (fun e => by
              obtain ⟨_, cs, hc⟩ := own_type (HFAM.out.get 1 rfl) e
              rw [HR2.out] at hc; cases hc)).trans HR2.out
            obtain ⟨es', hdel, hst', hL', hsub⟩ := run_delete_at (P := Tryz.prog) hmW HD.out.st HD.out.hL string_emb mshM strU x
            have cW := hgW.cell 2
            simp only [List.getElem?_toArray, List.getElem?_cons_succ, List.getElem?_cons_zero] at cW
            have HFIN := Lib.hid (HD.out.drop (v := ⟨v1, v2, v3, v4, v5, v6, v7, v8⟩) HEM.out HEK.out HSE.out ((HK2.out.mono (T := fun k => k = Rr ∨ u7.ownBlock = some k) (fun _ _ e => .inl e)).trans hkw (fun _ _ e => .inr e)) hiW (by simpa using hfam) hst' hL' hsub HOWN.out)
            have HMS2 := Lib.hid (Nat.lt_of_le_of_lt (left_sub hsub (seen.push e.born)) HMS.out)
            clear hap hkw hfam hmW hgW hrw7 hiW hst' hL' hsub hrun hnx hen k5
            go_wp2_with fail
            go_roundw
            case rel => exact ⟨_, _, _, _, _, HFIN.out⟩
            case measure =>
              rw [entsOf_is HFIN.out.hh, iterSeen_is HFIN.out.it, HM1.out, HM2.out]
              exact HMS2.out
end Go.Proofs.YtepikngkbondgaaGreat
namespace Go.Proofs.YtepikngkbondgaaGreat
set_option linter.unusedVariables false
open Go.RowKit

def below (S : List Pl) (t : Int) : Nat := S.countP fun p => decide (p.1 < t)
def rat (S : List Pl) (t : Int) : Nat := if below S t < S.length then below S t else 0
def has (l : List ByteArray) (h : ByteArray) : Bool := l.any fun x => decide (x = h)
theorem has_iff {l : List ByteArray} {h : ByteArray} : has l h = true ↔ h ∈ l := by
  unfold has
  rw [List.any_eq_true]
  constructor
  · rintro ⟨x, hx, e⟩
    rw [decide_eq_true_eq] at e
    subst e; exact hx
  · intro hx
    exact ⟨h, hx, by simp⟩
theorem has_append (a b : List ByteArray) (h : ByteArray) : has (a ++ b) h = (has a h || has b h) := by unfold has; rw [List.any_append]
/-- A row's hosts, each one once, as they come. -/
def uniq (out : List ByteArray) : List ByteArray → List ByteArray
  | [] => out
  | h :: t => if has out h then uniq out t else uniq (out ++ [h]) t
def turned (S : List Pl) (t : Int) : List Pl := S.drop (rat S t) ++ S.take (rat S t)
def rwalk (S : List Pl) (t : Int) : List ByteArray := uniq [] ((turned S t).map (·.2))
theorem uniq_append : ∀ (a b out : List ByteArray), uniq out (a ++ b) = uniq (uniq out a) b
  | [], b, out => rfl
  | h :: t, b, out => by
    rw [List.cons_append, uniq, uniq]
    split <;> exact uniq_append t b _
theorem below_le (S : List Pl) (t : Int) : below S t ≤ S.length := List.countP_le_length
theorem below_spec {S : List Pl} (h : rising S) (t : Int) : ∀ (i : Nat) p, S[i]? = some p → (p.1 < t ↔ i < below S t) := by
  induction S with
  | nil => intro i p hp; simp at hp
  | cons a l ih =>
    intro i p hp
    have hr : rising l := h.of_cons
    have ha : ∀ x ∈ l, a.1 < x.1 := fun x hx => List.rel_of_pairwise_cons h hx
    unfold below at *
    rw [List.countP_cons]
    cases i with
    | zero =>
      simp only [List.getElem?_cons_zero, Option.some.injEq] at hp
      subst hp
      by_cases e : a.1 < t
      · simp [e]
      · have hz : l.countP (fun p => decide (p.1 < t)) = 0 := by
          rw [List.countP_eq_zero]
          intro x hx
          have := ha x hx
          simp only [decide_eq_true_eq]; omega
        simp [e, hz]
    | succ i =>
      rw [List.getElem?_cons_succ] at hp
      have h1 := ih hr i p hp
      have h2 := ha p (List.mem_of_getElem? hp)
      by_cases e : a.1 < t
      · simp only [e, decide_true, if_true]
        omega
      · have hz : l.countP (fun p => decide (p.1 < t)) = 0 := by
          rw [List.countP_eq_zero]
          intro x hx
          have := ha x hx
          simp only [decide_eq_true_eq]; omega
        simp only [hz, e, decide_false]
        constructor
        · intro; omega
        · intro hx; simp at hx
theorem turned_length (S : List Pl) (t : Int) : (turned S t).length = S.length := by
  have : rat S t ≤ S.length := by unfold rat; have := below_le S t; split <;> omega
  simp [turned]; omega
theorem turned_get {S : List Pl} {t : Int} {i : Nat} (hi : i < S.length) : (turned S t)[i]? = S[(rat S t + i) % S.length]? := by
  have hr : rat S t ≤ S.length := by unfold rat; have := below_le S t; split <;> omega
  unfold turned
  generalize rat S t = k at *
  by_cases h : i < S.length - k
  · rw [List.getElem?_append_left (by rw [List.length_drop]; exact h), List.getElem?_drop, Nat.mod_eq_of_lt (by omega)]
  · rw [List.getElem?_append_right (by rw [List.length_drop]; omega), List.length_drop, List.getElem?_take_of_lt (by omega)]
    congr 1
    rw [show k + i = (k + i - S.length) + S.length by omega, Nat.add_mod_right, Nat.mod_eq_of_lt (by omega)]
    omega
end Go.Proofs.YtepikngkbondgaaGreat
namespace Go.Proofs.YtepikngkbondgaaGreat
set_option linter.unusedVariables false
open Go.RowKit

set_option maxHeartbeats 2000000 in
set_option maxRecDepth 100000 in
theorem PSearch_at {w : World} {v : Value} {S : List Pl} {t : Int} (h : Sl w 104 2 v S.length (S.flatMap pC)) (hr : rising S) (hn : S.length ≤ 1000000) :
    Calls Tryz.prog 90 #[v, .int .i64 t, .func (.func 91) #[] #[]] w fun e w' => ∃ b, e = .returned (.tuple #[.int .i64 (below S t), .bool b]) ∧ Kept noBlock w w' := by
  obtain ⟨A, c, rfl, -, -⟩ := h.shape
  have hlen := h.run_len psT
  have H := Lib.hid h
  have HB := Lib.hid (below_spec hr t)
  have HBL := Lib.hid (below_le S t)
  have eg : ∀ args w, (callFunc 91 args).run Tryz.prog w = .ok (.enter 91 args) w := enters_of Tryz.func91 (by kernel_rfl) rfl
  clear h hr
  generalize below S t = cnt at *
  go_enter Tryz.func90, Tryz.ntmps90
  go_wp2_with fail
  go_loopg [9, 10] S.length (fun j v9 v10 wr => ∃ lo hi : Nat, v9 = .int .i64 lo ∧ v10 = .int .i64 hi ∧ lo ≤ cnt ∧ cnt ≤ hi ∧ hi ≤ S.length ∧ hi - lo ≤ j ∧ Kept noBlock w wr)
  case atStart => exact ⟨0, S.length, rfl, rfl, Nat.zero_le _, HBL.out, Nat.le_refl _, by omega, Kept.refl _ _⟩
  case round =>
    obtain ⟨lo, hi, rfl, rfl, h1, h2, h3, h4, hk⟩ := hrel
    have HK := Lib.hid hk
    have H4 := Lib.hid h4
    by_cases hlt : lo < hi
    · obtain ⟨p, hp⟩ : ∃ p, S[(lo + hi) / 2]? = some p := ⟨_, List.getElem?_eq_getElem (by omega)⟩
      obtain ⟨g, off, hidx, hgl, hc0, hc1⟩ := p_at (SlK.keptNone H.out hk) psT hp
      rw [show (((lo + hi) / 2 : Nat) : Int) = ((lo : Int) + (hi : Int)) / 2 by omega] at hidx
      have hb := HB.out _ p hp
      have hcall := Rat1_at p t wr
      obtain ⟨p1, p2⟩ := p
      simp only at hc0 hc1 hb
      have HB2 := Lib.hid hb
      have HCALL := Lib.hid hcall
      clear hk hp hb hcall h4
      by_cases hpt : p1 < t
      · have hz : cmpZ p1 t = -1 := by unfold cmpZ; rw [if_pos hpt]
        have hcl : Calls Tryz.prog 91 #[.agg #[.int .i64 p1, .string p2], .int .i64 t] wr fun e w' => e = .returned (.int .i64 (-1)) ∧ Grew wr w' := HCALL.out.mono fun e w' h => ⟨by rw [h.1, hz], h.2⟩
        have HCL := Lib.hid hcl
        have hm := HB2.out.1 hpt
        clear hcl hz HCALL
        go_wp2_with fail
        go_at_fn 91
        refine HCL.out.mono ?_
        rintro e w4 ⟨rfl, hg4⟩
        have HK4 := Lib.hid (HK.out.trans hg4.kept (fun _ _ h => h))
        clear hg4 hc0 hc1
        go_wp2
        go_roundg (hi - ((lo + hi) / 2 + 1))
        case measure => have := H4.out; omega
        case rel => exact ⟨(lo + hi) / 2 + 1, hi, by rw [show ((lo : Int) + (hi : Int)) / 2 + 1 = (((lo + hi) / 2 + 1 : Nat) : Int) by omega], rfl, by omega, by omega, by omega, Nat.le_refl _, HK4.out⟩
      · obtain ⟨z, hz, hz0⟩ : ∃ z, cmpZ p1 t = z ∧ ¬ z < 0 := ⟨_, rfl, by unfold cmpZ; rw [if_neg hpt]; split <;> omega⟩
        have hcl : Calls Tryz.prog 91 #[.agg #[.int .i64 p1, .string p2], .int .i64 t] wr fun e w' => e = .returned (.int .i64 z) ∧ Grew wr w' := HCALL.out.mono fun e w' h => ⟨by rw [h.1, hz], h.2⟩
        have HCL := Lib.hid hcl
        have hm : ¬ (lo + hi) / 2 < cnt := fun e => hpt (HB2.out.2 e)
        clear hcl hz HCALL
        go_wp2_with fail
        go_at_fn 91
        refine HCL.out.mono ?_
        rintro e w4 ⟨rfl, hg4⟩
        have HK4 := Lib.hid (HK.out.trans hg4.kept (fun _ _ h => h))
        clear hg4 hc0 hc1
        go_wp2
        go_roundg ((lo + hi) / 2 - lo)
        case measure => have := H4.out; omega
        case rel => exact ⟨lo, (lo + hi) / 2, rfl, by rw [show ((lo : Int) + (hi : Int)) / 2 = (((lo + hi) / 2 : Nat) : Int) by omega], by omega, by omega, by omega, Nat.le_refl _, HK4.out⟩
    · obtain rfl : lo = cnt := by omega
      obtain rfl : hi = lo := by omega
      clear h4 H4
      by_cases hend : hi < S.length
      · obtain ⟨p, hp⟩ : ∃ p, S[hi]? = some p := ⟨_, List.getElem?_eq_getElem hend⟩
        obtain ⟨g, off, hidx, hgl, hc0, hc1⟩ := p_at (SlK.keptNone H.out hk) psT hp
        have hcall := Rat1_at p t wr
        obtain ⟨p1, p2⟩ := p
        simp only at hc0 hc1
        have HCALL := Lib.hid hcall
        clear hk hp hcall
        go_wp2_with fail
        go_at_fn 91
        refine HCALL.out.mono ?_
        rintro e w4 ⟨rfl, hg4⟩
        have HK4 := Lib.hid (HK.out.trans hg4.kept (fun _ _ h => h))
        clear hg4 hc0 hc1
        go_wp2
        go_ret2
        exact ⟨_, rfl, HK4.out⟩
      · clear hk
        go_wp2
        go_ret2
        exact ⟨_, rfl, HK.out⟩
set_option maxHeartbeats 2000000 in
set_option maxRecDepth 100000 in
theorem Rat_at {w : World} {g : Nat} {S : List Pl} {t : Int} (h : RingAt w g S) (hr : rising S) (hn : S.length ≤ 1000000) :
    Calls Tryz.prog 61 #[.pointer (some ⟨g, 0, none⟩), .int .i64 t] w fun e w' => e = .returned (.int .i64 (rat S t)) ∧ Kept noBlock w w' := by
  obtain ⟨A, c, hb, hs⟩ := h
  have hlen := hs.run_len psT
  have HC := Lib.hid (PSearch_at (t := t) hs hr hn)
  have HB := Lib.hid hb
  have c0 := hb.cell 0
  simp only [List.getElem?_toArray, List.getElem?_cons_zero] at c0
  have hle := below_le S t
  have HR := Lib.hid (show rat S t = if below S t < S.length then below S t else 0 from rfl)
  generalize rat S t = r at *
  generalize below S t = k at *
  clear hb hs hr
  go_enter Tryz.func61, Tryz.ntmps61
  go_wp2_with fail
  go_at_call 90
  refine HC.out.mono ?_
  rintro e w1 ⟨b, rfl, hk⟩
  have c1 := (HB.out.kept hk (fun h => h)).cell 0
  simp only [List.getElem?_toArray, List.getElem?_cons_zero] at c1
  have HK := Lib.hid hk
  clear hk c0
  have hmod : (k : Int) % max (S.length : Int) 1 = (r : Int) := by
    have hr := HR.out
    by_cases e : k < S.length
    · rw [if_pos e] at hr
      rw [Int.max_eq_left (by omega), Int.emod_eq_of_lt (by omega) (by omega)]; omega
    · rw [if_neg e] at hr
      by_cases e0 : S.length = 0
      · have : k = 0 := by omega
        subst this; subst hr; simp
      · rw [Int.max_eq_left (by omega), show (k : Int) = (S.length : Int) by omega, Int.emod_self]; omega
  go_wp2
  go_ret
  exact ⟨congrArg (fun x => Ending.returned (.int .i64 x)) hmod, HK.out⟩
end Go.Proofs.YtepikngkbondgaaGreat
namespace Go.Proofs.YtepikngkbondgaaGreat
set_option linter.unusedVariables false
open Go.RowKit
open Go.ChangeMaps (setBlock)

theorem hAllN_at (w : World) : Calls Tryz.prog 17 #[.pointer none] w fun e w' => e = .returned (.slice none 0 0) ∧ w' = w := by
  go_enter Tryz.func17, Tryz.ntmps17
  go_wp2
  go_ret
  exact ⟨rfl, rfl⟩
theorem hRefreshN_at (v : Value) (w : World) : Calls Tryz.prog 22 #[.pointer none, v] w fun e w' => e = .returned (.tuple #[.slice none 0 0, .slice none 0 0]) ∧ w' = w := by
  go_enter Tryz.func22, Tryz.ntmps22
  go_wp2
  go_ret2
  exact ⟨rfl, rfl⟩
theorem hRingN_at (w : World) : Calls Tryz.prog 26 #[.pointer none] w fun e w' => e = .returned (.pointer none) ∧ w' = w := by
  go_enter Tryz.func26, Tryz.ntmps26
  go_wp2
  go_ret
  exact ⟨rfl, rfl⟩
/-- Hosts that are handed back, in new memory. -/
structure Told (w w' : World) (A : Option Addr) (n c : Nat) (T : List HV) (S : List Ho) : Prop where
  abs : T.map HV.abs = S
  len : T.length = n
  row : w'.ownsRow w.heap.size 48 5 (.slice A n c) n (T.flatMap hvC)
  toksO : ∀ x ∈ T, w'.ownsRow w.heap.size 2 1 (.slice x.ta x.tn x.tc) x.tn (x.toks.map (Value.int .i64))
theorem Told.kept {w w' w2 : World} {A : Option Addr} {n c : Nat} {T : List HV} {S : List Ho} {R : Nat → Prop} (h : Told w w' A n c T S) (hk : Kept R w' w2) (hR : ∀ k, w.heap.size ≤ k → ¬ R k) : Told w w2 A n c T S :=
  ⟨h.abs, h.len, own_keptB h.row hk fun k e e2 => hR k (own_type h.row e).1 e2, fun x hx => own_keptB (h.toksO x hx) hk fun k e e2 => hR k (own_type (h.toksO x hx) e).1 e2⟩
theorem Told.toks {w w' : World} {A : Option Addr} {n c : Nat} {T : List HV} {S : List Ho} (h : Told w w' A n c T S) : ∀ x ∈ T, SlK w' (fun k e => w.heap.size ≤ k ∧ e = 2) 1 (.slice x.ta x.tn x.tc) x.tn (x.toks.map (Value.int .i64)) := fun x hx => SlK.of_ownB (h.toksO x hx)
theorem hAll_told {w : World} {own : Nat → Prop} {g : Nat} {dc : ByteArray} {rem : Int} {S : List Ho} (hT : TabS w own g dc rem S) (hS : S.length ≤ 100000) (hk : ∀ o ∈ S, o.toks.length ≤ 1000000) :
    Calls Tryz.prog 17 #[.pointer (some ⟨g, 0, none⟩)] w fun e w' => ∃ A n c T, e = .returned (.slice A n c) ∧ Told w w' A n c T S ∧ Kept noBlock w w' := by
  obtain ⟨m, L, h1, h2, h3⟩ := hT
  have hp := tab_perm h1.nd h1.nm h2 h3
  have hL : L.length ≤ 100000 := by
    have := hp.length_eq
    rw [List.length_map] at this
    omega
  refine (hAll_at h1 hL fun p hpL => ?_).mono ?_
  · have h4 := (h1.ot p hpL).len
    rw [List.length_map, Nat.mul_one] at h4
    rw [← h4]
    exact hk p.2.abs (hp.mem_iff.1 (List.mem_map.2 ⟨p, hpL, rfl⟩))
  · rintro e w' ⟨v, T, rfl, q1, q2, q3, q4, q5⟩
    obtain ⟨A, c, rfl, -, -⟩ := (Sl.of_own q3).shape
    refine ⟨A, T.length, c, T, rfl, ⟨?_, rfl, q3, q4⟩, q5⟩
    have q6 : (T.map HV.abs).Perm S := q1.trans hp
    have q7 : (T.map HV.abs).Pairwise (fun a b => ¬ nlt b.name a.name) := List.pairwise_map.2 q2
    have q8 : (T.map HV.abs).Pairwise (fun a b => a.name ≠ b.name) := (q6.pairwise_iff (fun {a b} h e => h e.symm)).2 (rising_ne h2)
    have q9 : risingH (T.map HV.abs) := by
      refine List.Pairwise.imp (fun {a b} h => ?_) (q7.and q8)
      exact Classical.byContradiction fun hn => h.2 (nlt_tri hn h.1)
    exact List.Perm.eq_of_pairwise (fun a b _ _ h1 h2 => absurd h2 (nlt_asymm h1)) q9 h2 q6
theorem m64bM : Tryz.prog.underlying 102 = some (.map 2 4) := by kernel_rfl
theorem i64U : Tryz.prog.underlying 2 = some (.int .i64) := by kernel_rfl
/-- The places behind so many pairs, and the tokens that were taken. -/
def RingR (w1 : World) (Mt : Nat) (P : List Pl) (va : Value) (wr : World) : Prop :=
  ∃ K : List (Int × Bool), KMap (.int .i64) (fun k : Int => Value.int .i64 k) Value.bool wr Mt K ∧ (∀ k, (aget k K).getD false = (getP k (P.foldl takeP [])).isSome) ∧ wr.ownsRow w1.heap.size 104 2 va (P.foldl takeP []).length ((P.foldl takeP []).flatMap pC) ∧ Kept (fun k => k = Mt) w1 wr
theorem RingR.keptN {w1 wr w' : World} {Mt : Nat} {P : List Pl} {va : Value} (h : RingR w1 Mt P va wr) (hk : Kept noBlock wr w') : RingR w1 Mt P va w' := by
  obtain ⟨K, h1, h2, h3, h4⟩ := h
  exact ⟨K, h1.kept hk (fun e => e), h2, own_keptB h3 hk (fun _ _ e => e), h4.trans hk (fun _ _ e => e.elim)⟩
theorem fold_snoc (P : List Pl) (p : Pl) : (P ++ [p]).foldl takeP [] = takeP (P.foldl takeP []) p := by rw [List.foldl_append]; rfl
theorem take_len (P : List Pl) : (P.foldl takeP []).length ≤ P.length := by
  have : ∀ (l out : List Pl), (l.foldl takeP out).length ≤ out.length + l.length := by
    intro l
    induction l with
    | nil => intro out; simp
    | cons a l ih =>
      intro out
      rw [List.foldl_cons]
      have h1 := ih (takeP out a)
      have h2 : (takeP out a).length ≤ out.length + 1 := by unfold takeP; split <;> simp
      simp only [List.length_cons]; omega
  simpa using this P []
theorem pairs_snoc (l : List Ho) (h : Ho) : pairsH (l ++ [h]) = pairsH l ++ h.toks.map fun k => (k, h.name) := by unfold pairsH; rw [List.flatMap_append]; simp
theorem pairs_le {l : List Ho} {b : Nat} (h : ∀ o ∈ l, o.toks.length ≤ b) : (pairsH l).length ≤ l.length * b := by
  unfold pairsH
  induction l with
  | nil => simp
  | cons a l ih =>
    rw [List.flatMap_cons, List.length_append, List.length_map, List.length_cons, Nat.add_mul]
    have h1 := ih fun o ho => h o (List.mem_cons_of_mem _ ho)
    have h2 := h a (List.mem_cons_self ..)
    omega

set_option maxRecDepth 100000 in
set_option maxHeartbeats 8000000 in
theorem hRing_at {w : World} {own : Nat → Prop} {g : Nat} {dc : ByteArray} {rem : Int} {S : List Ho} (hT : TabS w own g dc rem S) (hS : S.length ≤ 100000) (hk : ∀ o ∈ S, o.toks.length ≤ 1000000) (hP : (pairsH S).length ≤ 1000) (hnm : ∀ o ∈ S, o.name ≠ noStr) :
    Calls Tryz.prog 26 #[.pointer (some ⟨g, 0, none⟩)] w fun e w' => ∃ gr, e = .returned (.pointer (some ⟨gr, 0, none⟩)) ∧ RingAt w' gr (refRing S) ∧ Kept noBlock w w' ∧ w.heap.size ≤ gr := by
  have hmk := @run_makeMap Tryz.prog
  obtain ⟨m, L, h1, h2, h3⟩ := hT
  have hT1 : TabS (w.alloc (.map #[] 0)) own g dc rem S := ⟨m, L, h1.keptN ((Kept.refl noBlock w).alloc _), h2, h3⟩
  have HA := hAll_told hT1 hS hk
  have HNM := Lib.hid (places_named hnm)
  have HRS := Lib.hid h2
  have k0 : KMap (.int .i64) (fun k : Int => Value.int .i64 k) Value.bool (w.alloc (.map #[] 0)) w.heap.size ([] : List (Int × Bool)) := KMap.new w
  have HK0 := Lib.hid k0
  have HKT := Lib.hid hk
  have HPP := Lib.hid hP
  clear h1 h2 h3 hT1 hnm k0 hk hP
  go_enter Tryz.func26, Tryz.ntmps26
  go_wp2_with fail
  refine HA.mono ?_
  rintro e w1 ⟨A, n, c, T, rfl, hTo, hk1⟩
  have hlen := (Sl.of_own hTo.row).run_len hostsT
  have hTl := hTo.len
  have hSl : S.length = n := by rw [← hTo.abs, List.length_map, hTl]
  have hn : n ≤ 100000 := by omega
  have HTo := Lib.hid hTo
  have HSL := Lib.hid hSl
  have HTL := Lib.hid hTl
  have hkw : Kept noBlock w w1 := ((Kept.refl noBlock w).alloc _).trans hk1 fun _ _ e => e
  have START : Hid (RingR w1 w.heap.size (pairsH (S.take 0)) (.slice none 0 0) w1) := Lib.hid ⟨[], HK0.out.kept hk1 (fun e => e), fun k => rfl, World.ownsRow_nil _ _ _ _, Kept.refl _ _⟩
  have HKW := Lib.hid hkw
  have HMT : Hid (w.heap.size < w1.heap.size) := Lib.hid (by have := hk1.size; rw [sz_alloc] at this; omega)
  clear hTo hSl hTl hk1 hkw HA HK0 hS
  go_wp2_with fail
  go_loopg [3, 17] n (fun j va vi wr => ∃ i : Nat, i + j = n ∧ vi = .int .i64 i ∧ RingR w1 w.heap.size (pairsH (S.take i)) va wr)
  case atStart => exact ⟨0, by omega, rfl, START.out⟩
  case round =>
    obtain ⟨i, hij, rfl, hR⟩ := hrel
    have HIJ := Lib.hid hij
    have HR := Lib.hid hR
    by_cases hi : i < n
    · obtain ⟨wo, rfl⟩ : ∃ wo : World, wo = wr := ⟨_, rfl⟩
      obtain ⟨x, hx⟩ : ∃ x, T[i]? = some x := ⟨_, List.getElem?_eq_getElem (by have := HTL.out; omega)⟩
      have hkr : Kept (fun k => k = w.heap.size) w1 wo := by obtain ⟨_, _, _, _, h⟩ := hR; exact h
      have hTr := HTo.out.kept hkr (fun k h e => by rw [sz_alloc] at h; omega)
      obtain ⟨gh, caph, off, hv, -, -, -, hidx, y0, y1, y2, y3, y4⟩ := ownH_at hTr.row hx
      have hxS : S[i]? = some x.abs := by rw [← HTo.out.abs, List.getElem?_map, hx]; rfl
      have hxt := HTo.out.toks x (List.mem_of_getElem? hx)
      have hxn : x.toks.length ≤ 1000000 := HKT.out x.abs (List.mem_of_getElem? hxS)
      have hpl : (pairsH (S.take i) ++ x.toks.map fun k => (k, x.name)).length ≤ 1000 := by
        have h9 := HPP.out
        rw [← List.take_append_drop (i + 1) S, List.take_add_one, hxS] at h9
        have : pairsH (S.take i ++ (some x.abs).toList ++ S.drop (i + 1)) = (pairsH (S.take i) ++ x.toks.map fun k => (k, x.name)) ++ pairsH (S.drop (i + 1)) := by
          unfold pairsH
          rw [List.flatMap_append, List.flatMap_append]; simp [HV.abs]
        rw [this, List.length_append] at h9
        omega
      obtain ⟨x1, x2, x3, x4, x5, x6, x7, x8⟩ := x
      simp only [] at y0 y1 y2 y3 y4 hxt hpl
      have hb : Blk (wo.alloc (.cells #[.string x1, .string x2, .string x3, .slice x4 x5 x6, .bool x8] 48)) wo.heap.size 48 #[.string x1, .string x2, .string x3, .slice x4 x5 x6, .bool x8] := Blk.new _ _ _
      have z3 := hb.cell 3
      simp only [List.getElem?_toArray, List.getElem?_cons_succ, List.getElem?_cons_zero] at z3
      have hx5 : x7.length = x5 := by have := hxt.len; rw [List.length_map, Nat.mul_one] at this; exact this
      have hx5n : x5 ≤ 1000000 := by have : x7.length ≤ 1000000 := hxn; omega
      have HX5 := Lib.hid hx5
      have HPL := Lib.hid hpl
      have HNX : Hid (pairsH (S.take (i + 1)) = pairsH (S.take i) ++ x7.map fun k => (k, x1)) := Lib.hid (by rw [List.take_add_one, hxS]; exact pairs_snoc _ _)
      have HXT := Lib.hid hxt
      have ST2 : Hid (RingR w1 w.heap.size (pairsH (S.take i) ++ (x7.take 0).map fun k => (k, x1)) u3 (wo.alloc (.cells #[.string x1, .string x2, .string x3, .slice x4 x5 x6, .bool x8] 48)) ∧ Blk (wo.alloc (.cells #[.string x1, .string x2, .string x3, .slice x4 x5 x6, .bool x8] 48)) wo.heap.size 48 #[.string x1, .string x2, .string x3, .slice x4 x5 x6, .bool x8]) := Lib.hid ⟨by rw [List.take_zero, List.map_nil, List.append_nil]; exact hR.keptN ((Kept.refl noBlock wo).alloc _), hb⟩
      cases hv
      clear hij hR hx hkr hTr hxS hxt hxn hpl hb hx5
      go_wp2_with fail
      generalize pairsH (S.take i) = P0 at *
      go_loopg [3, 24] x5 (fun jj va vi wr => ∃ j : Nat, j + jj = x5 ∧ vi = .int .i64 j ∧ RingR w1 w.heap.size (P0 ++ (x7.take j).map fun k => (k, x1)) va wr ∧ Blk wr wo.heap.size 48 #[.string x1, .string x2, .string x3, .slice x4 x5 x6, .bool x8])
      case atStart => exact ⟨0, by omega, rfl, ST2.out.1, ST2.out.2⟩
      case round =>
        obtain ⟨j, hjj, rfl, hR2, hb2⟩ := hrel
        have HJJ := Lib.hid hjj
        by_cases hj : j < x5
        · obtain ⟨k, hkx⟩ : ∃ k, x7[j]? = some k := ⟨_, List.getElem?_eq_getElem (by have := HX5.out; omega)⟩
          have hk2 : Kept (fun k => k = w.heap.size) w1 wr := by obtain ⟨_, _, _, _, h⟩ := hR2; exact h
          have hsl := HXT.out.keptAll hk2 fun b e h e2 => by have := h.1; rw [sz_alloc] at this; omega
          obtain ⟨gt, ot, hidx2, -, -, hct⟩ := hsl.run_index i64sT (i := (j : Int)) (k := j) rfl hj
          have ct : wr.cell? ⟨gt, ot, none⟩ = some (.int .i64 k) := hct 0 _ (by rw [Nat.mul_one, Nat.add_zero, List.getElem?_map, hkx]; rfl)
          have n0 := hb2.cell 0
          simp only [List.getElem?_toArray, List.getElem?_cons_zero] at n0
          have hpj : P0 ++ (x7.take (j + 1)).map (fun k => (k, x1)) = (P0 ++ (x7.take j).map fun k => (k, x1)) ++ [(k, x1)] := by rw [List.take_add_one, hkx, List.map_append, ← List.append_assoc]; rfl
          have hfo := fold_snoc (P0 ++ (x7.take j).map fun k => (k, x1)) (k, x1)
          rw [← hpj] at hfo
          obtain ⟨K, m1, m2, m3, m4⟩ := hR2
          have hOl : ((P0 ++ (x7.take j).map fun k => (k, x1)).foldl takeP []).length ≤ 1000 := by
            refine Nat.le_trans (take_len _) (Nat.le_trans ?_ HPL.out)
            rw [List.length_append, List.length_append, List.length_map, List.length_map, List.length_take]
            omega
          have HFO := Lib.hid hfo
          have HPJ := Lib.hid hpj
          have HB2 := Lib.hid hb2
          have HM4 := Lib.hid m4
          have HM1 := Lib.hid m1
          have k6 : ((aget k K).map Value.bool).getD (.bool false) = .bool ((aget k K).getD false) := by cases aget k K <;> rfl
          have lk := m1.run_lookup (P := Tryz.prog) (int_emb .i64) m64bM i64U (zero_bool _) k false
          rw [if_neg (by decide), k6, m2 k] at lk
          clear hpj hfo hjj hkx hsl hct k6
          generalize (P0 ++ (x7.take j).map fun k => (k, x1)).foldl takeP [] = O at *
          have HM2 := Lib.hid m2
          have HM3 := Lib.hid m3
          cases hs : (getP k O).isSome with
          | true =>
            rw [hs] at lk
            have FIN : Hid (RingR w1 w.heap.size (P0 ++ (x7.take (j + 1)).map fun k => (k, x1)) u3 wr) := Lib.hid (by
              refine ⟨K, m1, fun k' => ?_, ?_, m4⟩
              · rw [HFO.out]; unfold takeP; rw [if_pos hs]; exact m2 k'
              · rw [HFO.out]; unfold takeP; rw [if_pos hs]; exact m3)
            clear m1 m2 m3 m4 hs hk2 hb2
            go_wp2_with fail
            go_roundg (x5 - (j + 1))
            case measure => have := HJJ.out; omega
            case rel => exact ⟨j + 1, by have := HJJ.out; omega, by go_num, FIN.out, HB2.out⟩
          | false =>
            rw [hs] at lk
            obtain ⟨es, ck, hup, mB⟩ := m1.run_update (P := Tryz.prog) (int_emb .i64) m64bM i64U k true
            obtain ⟨hx1, hx2, hx3⟩ := m1.rules es ck
            obtain ⟨es0, ck0, hm0⟩ := m1.heap
            have HOB := Lib.hid (own_setBlock m3 hm0 (.map es ck))
            have hkB : Kept (fun k => k = w.heap.size) wr (setBlock wr w.heap.size (.map es ck)) := (Kept.refl (fun k => k = w.heap.size) wr).setBlock (m := w.heap.size) (fun _ => rfl) _
            have HKB := Lib.hid hkB
            have HMB := Lib.hid mB
            have HKey := Lib.hid hx3
            have HS := Lib.hid hs
            have hMw := m1.lt
            have hNo := hb2.lt
            have hne : ¬ wo.heap.size = w.heap.size := by have := HMT.out; obtain ⟨_, _, _, _, h⟩ := HR.out; have := h.size; omega
            have HBB := Lib.hid (hb2.kept hkB hne)
            clear m1 m2 m3 m4 hs hk2 hb2 mB hm0 hkB
            go_wp2_with (at_builtin; go_must (refine wpList_append_sl _ psT rfl (.tmp 34) (.tmp 39) rfl w1.heap.size _ O.length (O.flatMap pC) rfl (HOB.out.alloc _) _ 1 [.int .i64 k, .string x1] rfl (Sl.made_at (Blk.new_at _ _ _ HKey.out.symm) _ rfl rfl one_max) (by simp [Value.oneCell']) ?d1 ?d2 ?_))
            case d1 => omega
            case d2 => have := HM4.out.size; have := HKB.out.size; simp only [sz_alloc]; omega
            intro v' w5 hap
            have hk5 : Kept (fun b => u3.ownBlock = some b) (setBlock wr w.heap.size (.map es ck)) w5 := ((Kept.refl (fun b => u3.ownBlock = some b) _).alloc _).trans hap.kept (fun _ _ e => e)
            have hnm : u3.ownBlock ≠ some w.heap.size := fun e => by
              have h1 := (own_type HM3.out e).1
              have := HMT.out
              omega
            have hnb : u3.ownBlock ≠ some wo.heap.size := fun e => by
              obtain ⟨_, cs, h1⟩ := own_type HM3.out e
              have := HB2.out
              unfold Blk at this
              rw [this] at h1; injection h1 with h1; injection h1 with _ h1; exact absurd h1 (by decide)
            have FIN : Hid (RingR w1 w.heap.size (P0 ++ (x7.take (j + 1)).map fun k => (k, x1)) v' w5) := Lib.hid (by
              refine ⟨aput k true K, HMB.out.kept hk5 (fun e => hnm e), fun k' => ?_, ?_, (HM4.out.trans HKB.out fun _ _ e => e).trans hk5 fun b hb e => ?_⟩
              · rw [HFO.out, aget_aput]
                rw [show takeP O (k, x1) = O ++ [(k, x1)] from if_neg (by show ¬ (getP k O).isSome = true; rw [HS.out]; decide), getP_snoc]
                by_cases e : k = k'
                · subst e
                  rw [if_pos rfl]
                  cases hg : getP k O with
                  | none => simp
                  | some q => have := HS.out; rw [hg] at this; cases this
                · rw [if_neg e, HM2.out]
                  cases hg : getP k' O with
                  | none => simp [e]
                  | some q => rfl
              · rw [HFO.out]
                rw [show takeP O (k, x1) = O ++ [(k, x1)] from if_neg (by show ¬ (getP k O).isSome = true; rw [HS.out]; decide)]
                simpa [pC] using hap.own
              · have := (own_type HM3.out e).1; omega)
            have FIN2 := Lib.hid (HBB.out.kept hk5 (fun e => hnb e))
            clear hap hk5 hnm hnb hup lk hx1 hx2 hx3
            go_wp2
            go_roundg (x5 - (j + 1))
            case measure => have := HJJ.out; omega
            case rel => exact ⟨j + 1, by have := HJJ.out; omega, by go_num, FIN.out, FIN2.out⟩
        · obtain rfl : j = x5 := by omega
          have HF : Hid (RingR w1 w.heap.size (pairsH (S.take (i + 1))) u3 wr) := Lib.hid (by
            rw [HNX.out]
            rw [List.take_of_length_le (by have := HX5.out; omega)] at hR2
            exact hR2)
          clear hR2 hb2 hjj
          go_wp2_with fail
          go_roundg (n - (i + 1))
          case measure => have := HIJ.out; omega
          case rel => exact ⟨i + 1, by have := HIJ.out; omega, by go_num, HF.out⟩
    · obtain rfl : i = n := by omega
      have HST : Hid (S.take i = S) := Lib.hid (by rw [List.take_of_length_le (by have := HSL.out; omega)])
      rw [HST.out] at hR
      obtain ⟨K, m1, m2, m3, m4⟩ := hR
      have hPl : (placesP S).length ≤ 1000 := Nat.le_trans (take_len _) HPP.out
      have key : Calls Tryz.prog 46 #[u3] wr fun e w' => ∃ gr, e = .returned (.tuple #[.pointer (some ⟨gr, 0, none⟩), .int .i64 0]) ∧ RingAt w' gr (refRing S) ∧ Kept noBlock wr w' ∧ wr.heap.size ≤ gr := by
        refine (Rnew_at (l := placesP S) (Sl.of_own m3) hPl).mono ?_
        rintro e w' ⟨hk9, h9 | h9 | h9⟩
        · have h8 : unnamed (placesP S) = true := h9.1
          unfold unnamed at h8
          obtain ⟨p, hp, he⟩ := List.any_eq_true.1 h8
          exact absurd (toList_inj (b := noStr) (by rw [List.isEmpty_iff.1 he, ByteArray.toList_eq]; rfl)) (HNM.out p hp)
        · exact absurd (places_spec S).1 h9.2.1
        · obtain ⟨gr, S', h8, rfl, h7, h6⟩ := h9
          refine ⟨gr, rfl, ?_, hk9, h6⟩
          have e1 : S' = refRing S := List.Perm.eq_of_pairwise (fun a b _ _ h1 h2 => by omega) h8.2.1 (refRing_spec S).1 (h8.1.trans (ring_perm S).symm)
          rw [← e1]; exact h7
      have HK4 := Lib.hid m4
      clear m1 m2 m3 m4 hij HR
      go_wp2_with fail
      refine key.mono ?_
      rintro e w9 ⟨gr, rfl, hra, hk9, hgr⟩
      have hww : Kept noBlock w wr := HKW.out.trans HK4.out fun b hb e => by omega
      have FIN := Lib.hid (⟨hra, hww.trans hk9 fun _ _ e => e, Nat.le_trans hww.size hgr⟩ : RingAt w9 gr (refRing S) ∧ Kept noBlock w w9 ∧ w.heap.size ≤ gr)
      clear hra hww hk9 hgr
      go_wp2
      go_ret
      exact ⟨gr, rfl, FIN.out.1, FIN.out.2.1, FIN.out.2.2⟩
end Go.Proofs.YtepikngkbondgaaGreat
namespace Go.Proofs.YtepikngkbondgaaGreat
set_option linter.unusedVariables false
open Go.RowKit

/-- How many of the first k are of the center d. -/
def sameN (S : List Ho) (d : ByteArray) (k : Nat) : Nat := ((S.take k).filter fun o => decide (o.dc = d)).length
theorem sameN_zero (S : List Ho) (d : ByteArray) : sameN S d 0 = 0 := rfl
theorem sameN_succ {S : List Ho} {k : Nat} {h : Ho} (hk : S[k]? = some h) (d : ByteArray) : sameN S d (k + 1) = sameN S d k + if h.dc = d then 1 else 0 := by
  unfold sameN
  rw [List.take_add_one, hk, List.filter_append, List.length_append]
  by_cases e : h.dc = d <;> simp [e]
theorem sameN_le (S : List Ho) (d : ByteArray) (k : Nat) : sameN S d k ≤ k := by
  unfold sameN
  exact Nat.le_trans (List.length_filter_le _ _) (by rw [List.length_take]; omega)
theorem getS_at {S : List Ho} (hS : risingH S) {k : Nat} {h : Ho} (hk : S[k]? = some h) : getS h.name S = some h := getS_of_mem (rising_ne hS) (List.mem_of_getElem? hk)
theorem dist_at {S : List Ho} (hS : risingH S) {k : Nat} {h : Ho} (hk : S[k]? = some h) (dc : ByteArray) (rem : Int) : distP dc rem S h.name = if h.dc = dc then 1 else if (sameN S h.dc k : Int) < rem then 2 else 0 := by
  unfold distP
  rw [getS_at hS hk]
  simp only []
  rw [ahead_take hS hk]; rfl
/-- How many hosts of the center d among the first k count as remote. -/
def farN (rem : Int) (n : Nat) : Nat := min n rem.toNat
theorem farN_succ {rem : Int} {n : Nat} : farN rem (n + 1) = farN rem n + if (n : Int) < rem then 1 else 0 := by
  unfold farN
  split <;> omega
/-! The pairs of a token and its host. -/
theorem toks_mem {S : List Ho} {p : Pl} : p ∈ pairsH S ↔ ∃ h ∈ S, p.1 ∈ h.toks ∧ p.2 = h.name := by
  unfold pairsH
  rw [List.mem_flatMap]
  constructor
  · rintro ⟨h, hh, hp⟩
    obtain ⟨k, hk, rfl⟩ := List.mem_map.1 hp
    exact ⟨h, hh, hk, rfl⟩
  · rintro ⟨h, hh, h1, h2⟩
    exact ⟨h, hh, List.mem_map.2 ⟨p.1, h1, by rw [← h2]⟩⟩
theorem places_mem {S : List Ho} {p : Pl} (h : p ∈ placesP S) : p ∈ pairsH S ∧ getP p.1 (pairsH S) = some p := by
  have h2 := places_spec S
  have := getP_of_mem h2.1 h
  rw [h2.2] at this
  exact ⟨(getP_mem this).1, this⟩
theorem places_has {S : List Ho} {p : Pl} (h : p ∈ pairsH S) : ∃ q ∈ placesP S, q.1 = p.1 := by
  have h2 := places_spec S
  cases hg : getP p.1 (placesP S) with
  | none =>
    rw [h2.2] at hg
    exact absurd rfl (getP_none.1 hg p h)
  | some q => exact ⟨q, (getP_mem hg).1, (getP_mem hg).2⟩
theorem pairs_nodup {S : List Ho} (hS : risingH S) (ht : ∀ h ∈ S, h.toks.Pairwise (· < ·)) : (pairsH S).Nodup := by
  unfold pairsH
  induction S with
  | nil => exact List.nodup_nil
  | cons a S ih =>
    obtain ⟨h1, h2⟩ := List.pairwise_cons.1 hS
    rw [List.flatMap_cons, List.nodup_append]
    refine ⟨?_, ih h2 fun h hh => ht h (List.mem_cons_of_mem _ hh), fun p hp q hq e => ?_⟩
    · exact List.pairwise_map.2 ((ht a (List.mem_cons_self ..)).imp fun {x y} hlt e => by
        have : x = y := congrArg Prod.fst e
        omega)
    · subst e
      obtain ⟨k, _, rfl⟩ := List.mem_map.1 hp
      obtain ⟨o, ho, hq2⟩ := List.mem_flatMap.1 hq
      obtain ⟨k2, _, e2⟩ := List.mem_map.1 hq2
      have : o.name = a.name := congrArg Prod.snd e2
      have h3 := h1 o ho
      rw [this] at h3
      exact nlt_irrefl _ h3
/-- The first host that has a token, as a search from the last one down finds it: among those from k on. -/
def firstT (S : List Ho) (t : Int) : ByteArray := match getP t (pairsH S) with
  | some p => p.2
  | none => noStr
theorem firstT_nil (t : Int) : firstT [] t = noStr := rfl
theorem firstT_cons (a : Ho) (S : List Ho) (t : Int) : firstT (a :: S) t = if t ∈ a.toks then a.name else firstT S t := by
  unfold firstT getP pairsH
  rw [List.flatMap_cons, List.find?_append]
  by_cases h : t ∈ a.toks
  · rw [if_pos h]
    have : (a.toks.map fun k => (k, a.name)).find? (fun p : Pl => decide (p.1 = t)) = some (t, a.name) := by
      revert h
      generalize a.toks = ts
      intro h
      induction ts with
      | nil => cases h
      | cons y l ih =>
        rw [List.map_cons, List.find?_cons]
        by_cases e : y = t
        · subst e; simp
        · rw [decide_eq_false (show ¬ (y, a.name).1 = t from e)]
          exact ih ((List.mem_cons.1 h).resolve_left fun e2 => e e2.symm)
    rw [this]; rfl
  · rw [if_neg h]
    have : (a.toks.map fun k => (k, a.name)).find? (fun p : Pl => decide (p.1 = t)) = none := by
      refine List.find?_eq_none.2 fun p hp => ?_
      obtain ⟨k, hk, rfl⟩ := List.mem_map.1 hp
      have : ¬ k = t := fun e => h (e ▸ hk)
      simpa using this
    rw [this]; rfl
theorem place_first {S : List Ho} {p : Pl} (h : p ∈ placesP S) : firstT S p.1 = p.2 := by
  unfold firstT
  rw [(places_mem h).2]
/-- Who owns a token has no greater name than who has it. -/
theorem first_le {S : List Ho} (hS : risingH S) {h : Ho} (hh : h ∈ S) {t : Int} (ht : t ∈ h.toks) : ¬ nlt h.name (firstT S t) := by
  induction S with
  | nil => cases hh
  | cons a S ih =>
    obtain ⟨h1, h2⟩ := List.pairwise_cons.1 hS
    rw [firstT_cons]
    by_cases e : t ∈ a.toks
    · rw [if_pos e]
      rcases List.mem_cons.1 hh with rfl | hh
      · exact nlt_irrefl _
      · exact nlt_asymm (h1 h hh)
    · rw [if_neg e]
      rcases List.mem_cons.1 hh with rfl | hh
      · exact absurd ht e
      · exact ih h2 hh
/-- How many of some pairs stand among others. -/
def hitsN (P l : List Pl) : Nat := (l.map fun q => (P.filter fun p => decide (p = q)).length).sum
def inP (P : List Pl) (q : Pl) : Bool := P.any fun p => decide (p = q)
theorem inP_iff {P : List Pl} {q : Pl} : inP P q = true ↔ q ∈ P := by
  unfold inP
  rw [List.any_eq_true]
  exact ⟨fun ⟨x, h1, h2⟩ => by have := of_decide_eq_true h2; exact this ▸ h1, fun h => ⟨q, h, decide_eq_true rfl⟩⟩
theorem count_one {P : List Pl} (hP : P.Nodup) (q : Pl) : (P.filter fun p => decide (p = q)).length = if inP P q = true then 1 else 0 := by
  induction P with
  | nil => rfl
  | cons a P ih =>
    obtain ⟨h1, h2⟩ := List.nodup_cons.1 hP
    rw [List.filter_cons]
    have hc : inP (a :: P) q = (decide (a = q) || inP P q) := by unfold inP; rw [List.any_cons]
    rw [hc]
    by_cases e : a = q
    · subst e
      have h3 : ¬ inP P a = true := fun h => h1 (inP_iff.1 h)
      rw [decide_eq_true rfl]
      simp only [if_true, List.length_cons, ih h2, if_neg h3, Bool.true_or]
    · rw [decide_eq_false e]
      simp only [Bool.false_eq_true, if_false, ih h2, Bool.false_or]
theorem hits_all {P l : List Pl} (hP : P.Nodup) (hl : l.Nodup) (hs : ∀ p ∈ P, p ∈ l) : hitsN P l = P.length := by
  have h1 : hitsN P l = (l.filter fun q => inP P q).length := by
    unfold hitsN
    clear hl hs
    induction l with
    | nil => rfl
    | cons a l ih =>
      rw [List.map_cons, List.sum_cons, ih, count_one hP, List.filter_cons]
      by_cases e : inP P a = true
      · rw [if_pos e, if_pos e, List.length_cons]; omega
      · rw [if_neg e, if_neg e]; omega
  rw [h1]
  have h2 : (l.filter fun q => inP P q).Perm P := (List.perm_ext_iff_of_nodup (hl.filter _) hP).2 fun a => by
    rw [List.mem_filter, inP_iff]
    exact ⟨fun h => h.2, fun h => ⟨hs a h, h⟩⟩
  exact h2.length_eq
theorem hits_snoc (P l : List Pl) (q : Pl) : hitsN P (l ++ [q]) = hitsN P l + (P.filter fun p => decide (p = q)).length := by
  unfold hitsN
  rw [List.map_append, List.sum_append]; simp
end Go.Proofs.YtepikngkbondgaaGreat
namespace Go.Proofs.YtepikngkbondgaaGreat
set_option linter.unusedVariables false
open Go.RowKit
open Go.ChangeMaps (setBlock)

/-- The view of hosts by their names. -/
def viewS (S : List Ho) : View := fun x => getS x S
theorem tidy_len (l : List Int) : (tidyP l).length ≤ l.length := nodup_leH ((tidy_spec l).1.imp fun h e => by omega) fun x hx => ((tidy_spec l).2 x).1 hx
theorem refNow_mem {V : View} {l : List Ho} {o : Ho} (h : o ∈ refNow V l) : ∃ a ∈ l, o = updH V a ∧ a.name ≠ noStr := by
  have h1 := refNow_spec V l
  have h2 := getS_of_mem (rising_ne h1.1) h
  rw [h1.2] at h2
  have h3 := refr_name h2
  unfold refr at h2
  rw [if_neg h3.2] at h2
  obtain ⟨a, ha, rfl⟩ := Option.map_eq_some_iff.1 h2
  exact ⟨a, getS_mem ha, rfl, by rw [getS_name ha]; exact h3.2⟩
theorem refNow_len (V : View) (l : List Ho) : (refNow V l).length ≤ l.length := by
  have h1 := refNow_spec V l
  have := nodup_leH (A := (refNow V l).map (·.name)) (B := l.map (·.name)) (List.pairwise_map.2 (rising_ne h1.1)) fun x hx => by
    obtain ⟨o, ho, rfl⟩ := List.mem_map.1 hx
    obtain ⟨a, ha, rfl, _⟩ := refNow_mem ho
    exact List.mem_map.2 ⟨a, ha, rfl⟩
  rwa [List.length_map, List.length_map] at this
/-- Hosts as a table has them. -/
structure HoOk (S : List Ho) (a b : Nat) : Prop where
  ris : risingH S
  len : S.length ≤ a
  nm : ∀ o ∈ S, o.name ≠ noStr
  up : ∀ o ∈ S, o.toks.Pairwise (· < ·)
  tk : ∀ o ∈ S, o.toks.length ≤ b
theorem HoOk.pairs {S : List Ho} {a b : Nat} (h : HoOk S a b) : (pairsH S).length ≤ a * b := Nat.le_trans (pairs_le h.tk) (Nat.mul_le_mul_right b h.len)
theorem refNow_ok {V : View} {l : List Ho} {a b : Nat} (h1 : l.length ≤ a) (h2 : ∀ o ∈ l, o.toks.length ≤ b) : HoOk (refNow V l) a b where
  ris := (refNow_spec V l).1
  len := Nat.le_trans (refNow_len V l) h1
  nm := fun o ho => by obtain ⟨x, hx, rfl, hn⟩ := refNow_mem ho; exact hn
  up := fun o ho => by obtain ⟨x, hx, rfl, hn⟩ := refNow_mem ho; exact (tidy_spec _).1
  tk := fun o ho => by obtain ⟨x, hx, rfl, hn⟩ := refNow_mem ho; exact Nat.le_trans (tidy_len _) (h2 x hx)
theorem HoOk.mark {S : List Ho} {a b : Nat} (h : HoOk S a b) (x : ByteArray) (up : Bool) : HoOk (markP S x up).1 a b := by
  unfold markP
  cases getS x S with
  | none => exact h
  | some o =>
    simp only []
    by_cases e : o.up = up
    · rw [if_pos e]; exact h
    · rw [if_neg e]
      have key : ∀ (P : Ho → Prop), (∀ o up, P o → P { o with up := up }) → (∀ o ∈ S, P o) → ∀ o ∈ S.map (fun o => if o.name = x then { o with up := up } else o), P o := fun P h1 h2 o ho => by
        obtain ⟨o', ho', rfl⟩ := List.mem_map.1 ho
        split
        · exact h1 _ _ (h2 o' ho')
        · exact h2 o' ho'
      exact ⟨mark_rising h.ris x up, by rw [List.length_map]; exact h.len, key (fun o => o.name ≠ noStr) (fun _ _ h => h) h.nm, key (fun o => o.toks.Pairwise (· < ·)) (fun _ _ h => h) h.up, key (fun o => o.toks.length ≤ b) (fun _ _ h => h) h.tk⟩
/-- What Refresh hands back. -/
def RefTold (w : World) (own : Nat → Prop) (g : Nat) (dc : ByteArray) (rem : Int) (S : List Ho) (l : List Ho) (e : Ending) (w' : World) : Prop :=
  ∃ A1 n1 c1 A2 n2 c2, e = .returned (.tuple #[.slice A1 n1 c1, .slice A2 n2 c2]) ∧ n1 = (addedP (viewS S) (refNow (viewS S) l)).length ∧ n2 = (goneP S (refNow (viewS S) l)).length ∧
    SlK w' (fun k _ => w.heap.size ≤ k ∧ ¬ ownI w' w.heap.size own k) 1 (.slice A1 n1 c1) n1 ((addedP (viewS S) (refNow (viewS S) l)).map Value.string) ∧ SlK w' (fun k _ => w.heap.size ≤ k ∧ ¬ ownI w' w.heap.size own k) 1 (.slice A2 n2 c2) n2 ((goneP S (refNow (viewS S) l)).map Value.string) ∧
    TabS w' (ownI w' w.heap.size own) g dc rem (refNow (viewS S) l) ∧ Kept own w w'
theorem hRefresh_tab {w : World} {own : Nat → Prop} {g : Nat} {dc : ByteArray} {rem : Int} {S : List Ho} {l : List HV} {A : Option Addr} {n c : Nat} (hT : TabS w own g dc rem S) (hS : S.length ≤ 100000)
    (hl : Lo w w.heap.size 5 (.slice A n c) n (l.flatMap hvC)) (hn : l.length = n) (hn2 : n ≤ 100000) (hk : ∀ x ∈ l, x.toks.length ≤ 1000000 ∧ SlK w (fun k _ => k < w.heap.size) 1 x.tv x.tn (x.toks.map (Value.int .i64))) :
    Calls Tryz.prog 22 #[.pointer (some ⟨g, 0, none⟩), .slice A n c] w (RefTold w own g dc rem S (l.map HV.abs)) := by
  obtain ⟨m, L, h1, h2, h3⟩ := hT
  have hL : L.length ≤ 100000 := by
    have := (tab_perm h1.nd h1.nm h2 h3).length_eq
    rw [List.length_map] at this
    omega
  refine (hRefresh_at h1 h3 hl hn hn2 hL hk).mono ?_
  rintro e w' ⟨va, vg, AD, G, L', rfl, ha, hg, hA, hG1, hG2, ht, hv, hkk⟩
  have hS' := refNow_spec (viewS S) (l.map HV.abs)
  have eA : sortN AD = addedP (viewS S) (refNow (viewS S) (l.map HV.abs)) := sortN_eq (rising_names hS'.1 _) hA.1 fun x => (hA.2 x).trans added_mem.symm
  have eG : sortN G = goneP S (refNow (viewS S) (l.map HV.abs)) := sortN_eq (rising_names h2 _) hG1 fun x => (hG2 x).trans (gone_mem h2).symm
  rw [eA] at ha
  rw [eG] at hg
  obtain ⟨A1, c1, rfl, -, -⟩ := (Sl.of_own ha).shape
  obtain ⟨A2, c2, rfl, -, -⟩ := (Sl.of_own hg).shape
  have hno : ∀ (k : Nat) (cs : Array Value) (e : TypeId) (fz : Nat × Nat), w'.heap[k]? = some (.cells cs e fz) → w.heap.size ≤ k ∧ e = 9 → w.heap.size ≤ k ∧ ¬ ownI w' w.heap.size own k := fun k cs e fz hh ho => ⟨ho.1, fun h => by
    rcases h with h | ⟨_, cs', fz', h⟩
    · have := h1.lt k h
      have := ho.1
      omega
    · rw [hh] at h
      injection h with h
      injection h with _ h
      rw [ho.2] at h
      exact absurd h (by decide)⟩
  exact ⟨A1, _, c1, A2, _, c2, rfl, rfl, rfl, (SlK.of_ownB ha).anyH hno, (SlK.of_ownB hg).anyH hno, ⟨m, L', ht, hS'.1, fun x => (hv x).trans (hS'.2 x).symm⟩, hkk.mono fun k _ e => e ▸ h1.om⟩
theorem hNew_tab (dc : ByteArray) (rem : Int) (w : World) : Calls Tryz.prog 21 #[.string dc, .int .i64 rem] w fun e w' => ∃ g own, e = .returned (.pointer (some ⟨g, 0, none⟩)) ∧ TabS w' own g dc rem [] ∧ (∀ k, own k → w.heap.size ≤ k ∧ k < w'.heap.size) ∧ Kept noBlock w w' :=
  (hNew_at dc rem w).mono fun e w' ⟨h1, h2, h3⟩ => ⟨_, _, h1, h2, fun k hk => ⟨by rcases hk with e | e <;> omega, by obtain ⟨_, _, h, _⟩ := h2; exact h.lt k hk⟩, h3⟩
theorem ownI_ge {w w' : World} {own : Nat → Prop} {B : Nat} (h : ∀ k, own k → B ≤ k) (hB : B ≤ w.heap.size) : ∀ k, ownI w' w.heap.size own k → B ≤ k := by
  rintro k (h1 | ⟨h1, _⟩)
  · exact h k h1
  · omega
theorem Kept.grew {w0 w w' : World} {own : Nat → Prop} (h : Kept noBlock w0 w) (hk : Kept own w w') (ho : ∀ k, own k → w0.heap.size ≤ k) : Kept noBlock w0 w' := h.trans hk fun k hlt e => absurd (ho k e) (by omega)
theorem TabS.lt {w : World} {own : Nat → Prop} {g : Nat} {dc : ByteArray} {rem : Int} {S : List Ho} (h : TabS w own g dc rem S) : ∀ k, own k → k < w.heap.size := by
  obtain ⟨_, _, h, _⟩ := h
  exact h.lt
theorem lt_of_cell {w : World} {p : Addr} {v : Value} (h : w.cell? p = some v) : p.block < w.heap.size := by
  unfold World.cell? at h
  split at h
  · rename_i hh; exact lt_of_heap hh
  · cases h
theorem Kept.cellOf {w w' : World} {p : Addr} {v : Value} (h : Kept noBlock w w') (hc : w.cell? p = some v) : w'.cell? p = some v := (h.cell (lt_of_cell hc) fun e => e).trans hc
theorem tok_at {w : World} {ok : Nat → TypeId → Prop} {A : Option Addr} {n c : Nat} {L : List Int} (h : SlK w ok 1 (.slice A n c) n (L.map (Value.int .i64))) {j : Nat} {t : Int} (hj : L[j]? = some t) :
    ∃ g off, (∀ kd w', (Instr.indexAt 46 (.slice A n c) (.int kd (j : Int))).run Tryz.prog w' = .ok (.pointer (some ⟨g, off, none⟩)) w') ∧ w.cell? ⟨g, off, none⟩ = some (.int .i64 t) := by
  have h3 := h.len
  rw [List.length_map, Nat.mul_one] at h3
  obtain ⟨g, off, h1, -, -, h2⟩ := h.run_index i64sT (i := (j : Int)) (k := j) rfl (by have := (List.getElem?_eq_some_iff.1 hj).1; omega)
  exact ⟨g, off, h1, h2 0 _ (by rw [Nat.mul_one, Nat.add_zero, List.getElem?_map, hj]; rfl)⟩
/-- A told host's cells. -/
theorem Told.at {w w' : World} {A : Option Addr} {n c : Nat} {T : List HV} {S : List Ho} (h : Told w w' A n c T S) {i : Nat} {o : Ho} (hi : S[i]? = some o) :
    ∃ (x : HV) (g off : Nat), T[i]? = some x ∧ x.abs = o ∧ (∀ kd w', (Instr.indexAt 22 (.slice A n c) (.int kd (i : Int))).run Tryz.prog w' = .ok (.pointer (some ⟨g, off, none⟩)) w') ∧
      w'.cell? ⟨g, off, none⟩ = some (.string o.name) ∧ w'.cell? ⟨g, off + 1, none⟩ = some (.string o.dc) ∧ w'.cell? ⟨g, off + 2, none⟩ = some (.string o.rack) ∧ w'.cell? ⟨g, off + 3, none⟩ = some (.slice x.ta x.tn x.tc) ∧ w'.cell? ⟨g, off + 4, none⟩ = some (.bool o.up) := by
  rw [← h.abs, List.getElem?_map] at hi
  obtain ⟨x, hx, rfl⟩ := Option.map_eq_some_iff.1 hi
  obtain ⟨g, cap, off, hv, -, -, -, h1, y0, y1, y2, y3, y4⟩ := ownH_at h.row hx
  cases hv
  exact ⟨x, g, off, hx, rfl, h1, y0, y1, y2, y3, y4⟩
theorem Told.slen {w w' : World} {A : Option Addr} {n c : Nat} {T : List HV} {S : List Ho} (h : Told w w' A n c T S) : S.length = n := by rw [← h.abs, List.length_map, h.len]
theorem Told.keptN {w w' w2 : World} {A : Option Addr} {n c : Nat} {T : List HV} {S : List Ho} (h : Told w w' A n c T S) (hk : Kept noBlock w' w2) : Told w w2 A n c T S := h.kept hk fun _ _ e => e
end Go.Proofs.YtepikngkbondgaaGreat
namespace Go.Proofs.YtepikngkbondgaaGreat
set_option linter.unusedVariables false
open Go.RowKit

set_option maxHeartbeats 1000000 in
set_option maxRecDepth 100000 in
theorem PGrow_at (n : Nat) (w : World) (hn : n ≤ 100000) :
    Calls Tryz.prog 92 #[.slice none 0 0, .int .i64 n] w fun e w' => ∃ v, e = .returned v ∧ w'.ownsRow w.heap.size 104 2 v 0 [] ∧ Kept noBlock w w' := by
  by_cases h0 : n = 0
  · subst h0
    go_enter Tryz.func92, Tryz.ntmps92
    go_wp2
    go_ret
    exact ⟨_, rfl, World.ownsRow_nil _ _ _ _, Kept.refl _ _⟩
  · obtain ⟨i0, hi0, hz0, hs0, hb0⟩ := info_parts psT.info
    have hold : (Builtin.firstCells i0.size 0 (.slice none 0 0)).run Tryz.prog w.drew = .ok #[] w.drew := run_firstCells_none w.drew i0.size 0 0 0
    have hfit : Builtin.nextslicecap (0 + n) 0 * i0.bytes ≤ 281474976710656 := growslice_fits (by omega) (by rw [hb0]; omega)
    have hrz := fun ty => Lib.run_append_grow_zeros (P := Tryz.prog) w 101 3 ty 104 i0 _ .i64 .i64 Tryz.underlying101 Tryz.underlying3 hi0 hz0 none 0 0 [] hold n (by omega) (by rw [hs0]; decide) (by omega) (by omega) (by rw [hb0]; omega) hfit
    have hGn : n ≤ grownCap w (0 + n) 0 104 := by have := grownCap_ge w (0 + n) 0 104; omega
    have hGm : grownCap w (0 + n) 0 104 ≤ maxLen := grownCap_le_maxLen w (0 + n) 0 104 (by unfold maxLen; omega)
    generalize grownCap w (0 + n) 0 104 = G at *
    have hG63 : G ≤ 9223372036854775807 := by unfold maxLen at hGm; omega
    simp only [Nat.zero_add] at hrz
    obtain ⟨cs, hcs⟩ : ∃ cs : Array Value, cs = (#[] : Array Value) ++ Builtin.zeroCells (Value.agg #[.int .i64 0, .string noStr]).cells n ++ Builtin.zeroCells (Value.agg #[.int .i64 0, .string noStr]).cells (G - n) := ⟨_, rfl⟩
    have hrz2 : ∀ ty, (Builtin.append_ #[101, 3] ty #[.slice none 0 0, .int .i64 n]).run Tryz.prog w = .ok (.slice (some ⟨w.heap.size, 0, none⟩) n G) (w.drew.alloc (.cells cs 104)) := fun ty => by rw [hcs]; exact hrz ty
    have hsz : cs.size = G * 2 := by rw [hcs]; simp [Builtin.zeroCells, Value.cells]; omega
    have hown : ((w.alloc (.cells cs 104)).drew).ownsRow w.heap.size 104 2 (.slice (some ⟨w.heap.size, 0, none⟩) 0 G) 0 [] :=
      ⟨rfl, .inr ⟨w.heap.size, G, cs, rfl, Nat.le_refl _, heap_alloc_new w _, Nat.zero_le _, hGm, hsz, by simp⟩⟩
    have HO := Lib.hid hown
    have HK := Lib.hid (((Kept.refl noBlock w).alloc (.cells cs 104)).drew)
    clear hcs hrz hsz
    clear hown hold hfit hi0 hz0 hs0 hb0
    go_enter Tryz.func92, Tryz.ntmps92
    go_wp2_with (at_builtin; refine Lib.wpList_append_run _ rfl _ _ _ _ rfl _ _ rfl rfl _ _ (hrz2 _) ?_)
    all_goals (go_ret; exact ⟨_, rfl, HO.out, HK.out⟩)

set_option maxHeartbeats 2000000 in
set_option maxRecDepth 100000 in
theorem PConcat_at {w : World} {gb : Nat} {v1 v2 : Value} {L1 L2 : List Pl} (hb : Blk w gb 101 #[v1, v2]) (h1 : Sl w 104 2 v1 L1.length (L1.flatMap pC)) (h2 : Sl w 104 2 v2 L2.length (L2.flatMap pC)) (hn : L1.length + L2.length ≤ 100000) :
    Calls Tryz.prog 62 #[.slice (some ⟨gb, 0, none⟩) 2 2] w fun e w' => ∃ v, e = .returned v ∧ Sl w' 104 2 v (L1 ++ L2).length ((L1 ++ L2).flatMap pC) ∧ Kept noBlock w w' := by
  obtain ⟨A1, c1, rfl, -, -⟩ := h1.shape
  obtain ⟨A2, c2, rfl, -, -⟩ := h2.shape
  have l1 := h1.run_len psT
  have l2 := h2.run_len psT
  have H1 := Lib.hid h1
  have H2 := Lib.hid h2
  have HB := Lib.hid hb
  have z0 := hb.cell 0
  have z1 := hb.cell 1
  simp only [List.getElem?_toArray, List.getElem?_cons_zero, List.getElem?_cons_succ] at z0 z1
  clear h1 h2 hb
  have HL := Lib.hid (show (L1 ++ L2).length = L1.length + L2.length by simp)
  generalize hn1 : L1.length = n1 at *
  generalize hn2 : L2.length = n2 at *
  have HN1 := Lib.hid hn1
  have HN2 := Lib.hid hn2
  clear hn1 hn2
  go_enter Tryz.func62, Tryz.ntmps62
  go_wp2_with fail
  go_loopg [3, 11] 2 (fun j vs vi wr => ∃ i : Nat, i + j = 2 ∧ vi = .int .i64 i ∧ vs = .int .i64 (if i = 0 then 0 else if i = 1 then n1 else n1 + n2 : Nat) ∧ wr = w)
  case atStart => exact ⟨0, rfl, rfl, rfl, rfl⟩
  case round =>
    obtain ⟨i, hij, rfl, rfl, rfl⟩ := hrel
    have hi : i = 0 ∨ i = 1 ∨ i = 2 := by omega
    rcases hi with rfl | rfl | rfl
    · simp only [if_true]
      go_wp2
      go_roundg 1
      case measure => omega
      case rel => exact ⟨1, rfl, by go_num, by go_num, rfl⟩
    · simp only [if_true, Nat.one_ne_zero, if_false]
      go_wp2
      go_roundg 0
      case measure => omega
      case rel => exact ⟨2, rfl, by go_num, by go_num, rfl⟩
    · have e2 : (if (2 : Nat) = 0 then 0 else if (2 : Nat) = 1 then n1 else n1 + n2) = n1 + n2 := rfl
      rw [e2]
      have HG := Lib.hid (PGrow_at (n1 + n2) wr hn)
      generalize n1 + n2 = N at HG ⊢
      go_wp2_with fail
      go_at_call 92
      refine HG.out.mono ?_
      rintro e w1 ⟨v3, rfl, hown3, hk3⟩
      have START := Lib.hid (⟨hown3, hk3⟩ : w1.ownsRow wr.heap.size 104 2 v3 0 [] ∧ Kept noBlock wr w1)
      obtain ⟨wz, hwz⟩ : ∃ wz, wz = wr := ⟨wr, rfl⟩
      subst hwz
      clear hown3 hk3 HG z0 z1
      go_wp2_with fail
      go_loopg [6, 27] 2 (fun j v6 vi wx => ∃ i : Nat, i + j = 2 ∧ vi = .int .i64 i ∧ Kept noBlock wz wx ∧ ((i = 0 ∧ wx.ownsRow wz.heap.size 104 2 v6 0 []) ∨ (i = 1 ∧ wx.ownsRow wz.heap.size 104 2 v6 n1 (L1.flatMap pC)) ∨ (i = 2 ∧ wx.ownsRow wz.heap.size 104 2 v6 (n1 + n2) (L1.flatMap pC ++ L2.flatMap pC))))
      case atStart => exact ⟨0, rfl, rfl, START.out.2, .inl ⟨rfl, START.out.1⟩⟩
      case round =>
        obtain ⟨i, hij, rfl, hk, hd⟩ := hrel
        have hb5 := HB.out.kept hk (fun h => h)
        have z0 := hb5.cell 0
        have z1 := hb5.cell 1
        simp only [List.getElem?_toArray, List.getElem?_cons_zero, List.getElem?_cons_succ] at z0 z1
        have hz := hk.size
        have HK := Lib.hid hk
        clear hb5 START
        rcases hd with ⟨rfl, hown⟩ | ⟨rfl, hown⟩ | ⟨rfl, hown⟩
        · have HS := Lib.hid (SlK.keptNone H1.out hk)
          have HO := Lib.hid hown
          clear hk hown
          go_wp2_with (at_builtin; go_must (refine wpList_append_sl _ psT rfl (.tmp 31) (.tmp 32) rfl wz.heap.size _ 0 [] rfl HO.out _ n1 (L1.flatMap pC) rfl HS.out (fun u hu => pC_one hu) ?c1 ?c2 ?_))
          case c1 => omega
          case c2 => first | omega | (simp; omega)
          intro v' w3 hap
          have HK3 := Lib.hid (hap.below HO.out HK.out (Nat.le_refl _))
          have HO3 := Lib.hid hap.own
          clear hap
          go_wp2
          go_roundg 1
          case measure => omega
          case rel => exact ⟨1, rfl, by go_num, HK3.out, .inr (.inl ⟨rfl, by simpa using HO3.out⟩)⟩
        · have HS := Lib.hid (SlK.keptNone H2.out hk)
          have HO := Lib.hid hown
          clear hk hown
          go_wp2_with (at_builtin; go_must (refine wpList_append_sl _ psT rfl (.tmp 31) (.tmp 32) rfl wz.heap.size _ n1 (L1.flatMap pC) rfl HO.out _ n2 (L2.flatMap pC) rfl HS.out (fun u hu => pC_one hu) ?d1 ?d2 ?_))
          case d1 => omega
          case d2 => first | omega | (simp; omega)
          intro v' w3 hap
          have HK3 := Lib.hid (hap.below HO.out HK.out (Nat.le_refl _))
          have HO3 := Lib.hid hap.own
          clear hap
          go_wp2
          go_roundg 0
          case measure => omega
          case rel => exact ⟨2, rfl, by go_num, HK3.out, .inr (.inr ⟨rfl, HO3.out⟩)⟩
        · have hs := Sl.of_own hown
          have HS := Lib.hid hs
          clear hk hown hs z0 z1
          go_wp2
          go_ret
          refine ⟨_, rfl, ?_, HK.out⟩
          rw [HL.out, List.flatMap_append]
          exact HS.out
end Go.Proofs.YtepikngkbondgaaGreat

/- hosts: Refresh: the walk. -/
import Derived.Test.YtjkmgpmknadhjaaGreatHoDelP
import Derived.Test.YtjkmgpmknadhjaaGreatHoDist
import Derived.Test.YtjkmgpmknadhjaaGreatMsb
namespace Go.Proofs.YtjkmgpmknadhjaaGreat
set_option linter.unusedVariables false
open Go.RowKit Go.MapKept
open Go.ChangeMaps (setBlock)

theorem once {G : Prop} (h : ∃ T : Prop, (T → G) ∧ T) : G := by
  obtain ⟨T, h1, h2⟩ := h
  exact h1 h2
theorem nodup_len {α : Type} [DecidableEq α] : ∀ {A B : List α}, A.Nodup → (∀ x ∈ A, x ∈ B) → A.length ≤ B.length
  | [], _, _, _ => Nat.zero_le _
  | a :: A, B, hn, hs => by
    obtain ⟨h1, h2⟩ := List.nodup_cons.1 hn
    have ha : a ∈ B := hs a (List.mem_cons_self ..)
    have := nodup_len (A := A) (B := B.erase a) h2 fun x hx => (List.mem_erase_of_ne (fun e => h1 (by rw [← e]; exact hx))).2 (hs x (List.mem_cons_of_mem _ hx))
    rw [List.length_erase_of_mem ha] at this
    have h3 : 0 < B.length := List.length_pos_of_mem ha
    rw [List.length_cons]; omega
theorem adds_len {V : View} {l : List Ho} {A : List ByteArray} (h : addsR V l A) : A.length ≤ l.length := by
  have := nodup_len (B := l.map (·.name)) h.1 fun x hx => by
    have h1 := ((h.2 x).1 hx).1
    have hx0 : x ≠ noStr := fun e => by subst e; rw [refr_empty] at h1; cases h1
    obtain ⟨o, ho, e⟩ := (refr_has hx0).1 h1
    exact List.mem_map.2 ⟨o, ho, e⟩
  rwa [List.length_map] at this
theorem view_len {V : View} {l : List Ho} {L0 L : List (ByteArray × HV)} (h0 : ∀ x, (aget x L0).map HV.abs = V x) (h : ∀ x, (aget x L).map HV.abs = viewR V l x) (hn : (L.map (·.1)).Nodup) : L.length ≤ L0.length + l.length := by
  have := nodup_len (B := L0.map (·.1) ++ l.map (·.name)) hn fun x hx => by
    obtain ⟨p, hp, rfl⟩ := List.mem_map.1 hx
    have h1 := h p.1
    rw [aget_of_mem hn hp] at h1
    by_cases e : ∃ o ∈ l, o.name = p.1
    · obtain ⟨o, ho, e⟩ := e
      exact List.mem_append.2 (.inr (List.mem_map.2 ⟨o, ho, e⟩))
    · rw [viewR_old e, ← h0] at h1
      cases hg : aget p.1 L0 with
      | none => rw [hg] at h1; cases h1
      | some v => exact List.mem_append.2 (.inl (List.mem_map.2 ⟨(p.1, v), aget_mem hg, rfl⟩))
  rwa [List.length_map, List.length_append, List.length_map, List.length_map] at this
theorem gone_len {V : View} {L : List (ByteArray × HV)} {G : List ByteArray} (h : ∀ x, (aget x L).map HV.abs = V x) (hn : G.Nodup) (hG : ∀ x ∈ G, (V x).isSome = true) : G.length ≤ L.length := by
  have := nodup_len (B := L.map (·.1)) hn fun x hx => by
    have h1 := hG x hx
    rw [← h] at h1
    cases hg : aget x L with
    | none => rw [hg] at h1; cases h1
    | some v => exact List.mem_map.2 ⟨(x, v), aget_mem hg, rfl⟩
  rwa [List.length_map] at this
theorem ownI_not_row {w wr : World} {own : Nat → Prop} {va : Value} {n : Nat} {xs : List Value} (hown : ∀ k, own k → k < w.heap.size) (hrow : wr.ownsRow w.heap.size 9 1 va n xs) {k : Nat} (h : ownI wr w.heap.size own k) : va.ownBlock ≠ some k := by
  intro e
  obtain ⟨e1, cs', e2⟩ := own_type hrow e
  rcases h with h | ⟨_, cs, fz, h⟩
  · have := hown _ h; omega
  · rw [e2] at h; injection h with h; injection h with _ h; exact absurd h (by decide)
theorem row_not_map {W : World} {B m : Nat} {va : Value} {n : Nat} {xs : List Value} {es : Array MapEntry} {ck : Nat} (hrow : W.ownsRow B 9 1 va n xs) (h : W.heap[m]? = some (.map es ck)) : va.ownBlock ≠ some m := by
  intro e
  obtain ⟨_, cs, e2⟩ := own_type hrow e
  rw [e2] at h; cases h
def entsOf (w : World) (m : Nat) : Array MapEntry := match w.heap[m]? with
  | some (.map es _) => es
  | _ => #[]
theorem entsOf_is {w : World} {m ck : Nat} {es : Array MapEntry} (h : w.heap[m]? = some (.map es ck)) : entsOf w m = es := by unfold entsOf; rw [h]
theorem htidy_n {w : World} {ok : Nat → TypeId → Prop} {v : Value} {n : Nat} {l : List Int} (h : SlK w ok 1 v n (l.map (Value.int .i64))) (hn : l.length ≤ 1000000) :
    Calls Tryz.prog 22 #[v] w fun e w' => ∃ A k c, e = .returned (.slice A k c) ∧ SlK w' (fun b e' => w.heap.size ≤ b ∧ e' = 2) 1 (.slice A k c) k ((tidyP l).map eI) ∧ Kept noBlock w w' := by
  have h1 := h.len
  rw [List.length_map, Nat.mul_one] at h1
  subst h1
  exact htidy_at h hn
/-- What Refresh leaves. -/
def RefPost (w : World) (own : Nat → Prop) (g : Nat) (dc : ByteArray) (rem : Int) (V : View) (l : List Ho) (m : Nat) (e : Ending) (w' : World) : Prop :=
  ∃ (va vg : Value) (AD G : List ByteArray) (L : List (ByteArray × HV)), e = .returned (.tuple #[va, vg]) ∧ w'.ownsRow w.heap.size 9 1 va (sortN AD).length ((sortN AD).map Value.string) ∧ w'.ownsRow w.heap.size 9 1 vg (sortN G).length ((sortN G).map Value.string) ∧
    addsR V l AD ∧ G.Nodup ∧ (∀ x, x ∈ G ↔ (V x).isSome = true ∧ refr V l x = none) ∧ TabAt w' (ownI w' w.heap.size own) g m dc rem L ∧ (∀ x, (aget x L).map HV.abs = refr V l x) ∧ Kept (fun k => k = m) w w'

set_option maxRecDepth 100000 in
set_option maxHeartbeats 8000000 in
theorem hRefresh_at {w : World} {own : Nat → Prop} {g m : Nat} {dc : ByteArray} {rem : Int} {L0 : List (ByteArray × HV)} {V : View} {l : List HV} {A : Option Addr} {n c : Nat} (hT : TabAt w own g m dc rem L0) (hV : ∀ x, (aget x L0).map HV.abs = V x)
    (hl : Lo w w.heap.size 5 (.slice A n c) n (l.flatMap hvC)) (hn : l.length = n) (hn2 : n ≤ 100000) (hL0 : L0.length ≤ 100000) (hk : ∀ x ∈ l, x.toks.length ≤ 1000000 ∧ SlK w (fun k _ => k < w.heap.size) 1 x.tv x.tn (x.toks.map (Value.int .i64))) :
    Calls Tryz.prog 9 #[.pointer (some ⟨g, 0, none⟩), .slice A n c] w (RefPost w own g dc rem V (l.map HV.abs) m) := by
  have c2 := hT.blk.cell 2
  simp only [List.getElem?_toArray, List.getElem?_cons_succ, List.getElem?_cons_zero] at c2
  have hmk := @run_makeMap Tryz.prog
  have hlen := hl.run_len hostsT
  have k0 : KMap .string (fun s : ByteArray => Value.string s) Value.bool (w.alloc (.map #[] 0)) w.heap.size ([] : List (ByteArray × Bool)) := KMap.new w
  obtain ⟨es0, ck0, hup0, hm0⟩ := k0.run_update (P := Tryz.prog) string_emb msbM strU noStr true
  have hup1 : (Instr.mapUpdate 68 (.map (some w.heap.size)) (.string ⟨#[]⟩) (.bool true)).run Tryz.prog (w.alloc (.map #[] 0)) = .ok () (setBlock (w.alloc (.map #[] 0)) w.heap.size (.map es0 ck0)) := hup0
  clear hup0
  have hcm : m < w.heap.size := hT.map.lt
  have START : Hid (RefAt w (setBlock (w.alloc (.map #[] 0)) w.heap.size (.map es0 ck0)) own g m w.heap.size dc rem V [] (.slice none 0 0)) := Lib.hid (by
    have hk1 : Kept noBlock w (setBlock (w.alloc (.map #[] 0)) w.heap.size (.map es0 ck0)) := ((Kept.refl noBlock w).alloc _).trans ((Kept.refl (fun k => k = w.heap.size) _).setBlock (m := w.heap.size) (fun _ => rfl) _) fun i hi e => by omega
    refine ⟨⟨L0, (hT.keptN hk1).wide (fun k e => .inl e) (fun k e => ?_), fun x => by rw [viewR_nil]; exact hV x⟩, ⟨_, hm0, fun x => ?_⟩, ⟨[], addsR_nil V, World.ownsRow_nil _ _ _ _⟩, Nat.le_refl _, hk1.mono fun _ _ e => e.elim⟩
    · rcases e with h | ⟨_, cs, fz, h'⟩
      · exact Nat.lt_of_lt_of_le (hT.lt k h) hk1.size
      · exact lt_of_heap h'
    · rw [aget_aput]
      by_cases e : noStr = x
      · simp [e]
      · simp [e, aget, Ne.symm e])
  have hnoM : ∀ k cs e fz, w.heap[k]? = some (.cells cs e fz) → k ≠ m := fun k cs e fz hh e2 => by
    obtain ⟨es, ck, h⟩ := hT.map.heap
    subst e2
    rw [h] at hh; cases hh
  have HL : Hid (SlK w (fun k _ => k < w.heap.size ∧ k ≠ m) 5 (.slice A n c) n (l.flatMap hvC)) := Lib.hid (hl.anyH fun k cs e fz hh hlt => ⟨hlt, hnoM k cs e fz hh⟩)
  have HKT : Hid (∀ x ∈ l, x.toks.length ≤ 1000000 ∧ SlK w (fun k _ => k < w.heap.size ∧ k ≠ m) 1 x.tv x.tn (x.toks.map (Value.int .i64))) := Lib.hid fun x hx => ⟨(hk x hx).1, (hk x hx).2.anyH fun k cs e fz hh hlt => ⟨hlt, hnoM k cs e fz hh⟩⟩
  have HG := Lib.hid hT.og
  have HOWN := Lib.hid hT.lt
  have HNL := Lib.hid hn
  have HV0 := Lib.hid hV
  have HVN : Hid (V noStr = none) := Lib.hid (by
    rw [← hV]
    cases hg : aget noStr L0 with
    | none => rfl
    | some v => exact absurd rfl (hT.nm _ (aget_mem hg)).2)
  clear hT hV hl hk k0 hm0 hn
  go_enter Tryz.func9, Tryz.ntmps9
  go_wp2_with fail
  go_loopg [6, 20] n (fun j va vi wr => ∃ i : Nat, i + j = n ∧ vi = .int .i64 i ∧ RefAt w wr own g m w.heap.size dc rem V ((l.take i).map HV.abs) va)
  case atStart => exact ⟨0, by omega, rfl, START.out⟩
  case round =>
    obtain ⟨i, hij, rfl, hR⟩ := hrel
    by_cases hi : i < n
    · obtain ⟨x, hx⟩ : ∃ x, l[i]? = some x := ⟨_, List.getElem?_eq_getElem (by have := HNL.out; omega)⟩
      have HR := Lib.hid hR
      have HX := Lib.hid hx
      have HIJ := Lib.hid hij
      have hsl : SlK wr (fun k _ => k < w.heap.size ∧ k ≠ m) 5 (.slice A n c) n (l.flatMap hvC) := HL.out.keptAll hR.kept fun k e h e2 => h.2 e2
      obtain ⟨gr, off, hidx, y0, y1, y2, y3, y4⟩ : ∃ gr off, (∀ kd w', (Instr.indexAt 29 (.slice A n c) (.int kd (i : Int))).run Tryz.prog w' = .ok (.pointer (some ⟨gr, off, none⟩)) w') ∧
          wr.cell? ⟨gr, off, none⟩ = some (.string x.name) ∧ wr.cell? ⟨gr, off + 1, none⟩ = some (.string x.dc) ∧ wr.cell? ⟨gr, off + 2, none⟩ = some (.string x.rack) ∧ wr.cell? ⟨gr, off + 3, none⟩ = some (.slice x.ta x.tn x.tc) ∧ wr.cell? ⟨gr, off + 4, none⟩ = some (.bool x.up) := by
        obtain ⟨gr, off, h1, _, _, h3⟩ := hsl.run_index hostsT (i := (i : Int)) (k := i) rfl hi
        refine ⟨gr, off, h1, h3 0 _ ?_, h3 1 _ ?_, h3 2 _ ?_, h3 3 _ ?_, h3 4 _ ?_⟩ <;> exact (flat_get (k := 5) (fun _ => rfl) l i _ x hx (by decide)).trans rfl
      have hxk := HKT.out x (List.mem_of_getElem? hx)
      obtain ⟨x1, x2, x3, x4, x5, x6, x7, x8⟩ := x
      simp only [] at y0 y1 y2 y3 y4
      have HXK : Hid (x7.length ≤ 1000000 ∧ SlK w (fun k _ => k < w.heap.size ∧ k ≠ m) 1 (.slice x4 x5 x6) x5 (x7.map (Value.int .i64))) := Lib.hid hxk
      obtain ⟨K, k3, k4⟩ := hR.seen
      obtain ⟨AD, hAD1, hAD2⟩ := hR.adds
      have hADn : AD.length ≤ 100000 := by
        have := adds_len hAD1
        rw [List.length_map, List.length_take] at this
        omega
      have kk := k4 x1
      have k5 := (k3.alloc (.cells #[.string x1, .string x2, .string x3, .slice x4 x5 x6, .bool x8] 59)).run_lookup (P := Tryz.prog) string_emb msbM strU (zero_bool _) x1 false
      have hb : Blk (wr.alloc (.cells #[.string x1, .string x2, .string x3, .slice x4 x5 x6, .bool x8] 59)) wr.heap.size 59 #[.string x1, .string x2, .string x3, .slice x4 x5 x6, .bool x8] := Blk.new _ _ _
      have z0 := hb.cell 0
      have z3 := hb.cell 3
      have z4 := hb.cell 4
      simp only [List.getElem?_toArray, List.getElem?_cons_succ, List.getElem?_cons_zero] at z0 z3 z4
      have k6 : ((aget x1 K).map Value.bool).getD (.bool false) = .bool ((aget x1 K).getD false) := by cases aget x1 K <;> rfl
      rw [if_neg (by decide), k6] at k5
      have hti : (l.take (i + 1)).map HV.abs = (l.take i).map HV.abs ++ [HV.abs ⟨x1, x2, x3, x4, x5, x6, x7, x8⟩] := by rw [List.take_add_one, hx, List.map_append]; rfl
      have HTI := Lib.hid hti
      have hka : Kept noBlock wr (wr.alloc (.cells #[.string x1, .string x2, .string x3, .slice x4 x5 x6, .bool x8] 59)) := (Kept.refl noBlock wr).alloc _
      cases hse : (aget x1 K).getD false with
      | true =>
        rw [hse] at k5 kk
        have FIN := Lib.hid ((hR.keptN hka).skip (o := HV.abs ⟨x1, x2, x3, x4, x5, x6, x7, x8⟩) (kk.1 rfl))
        clear hR hx hij k3 k4 kk k6 hb hti hse hsl hka z3 z4 hxk hAD1 hAD2 hADn
        go_wp2_with fail
        go_roundg (n - (i + 1))
        case measure => have := HIJ.out; omega
        case rel => exact ⟨i + 1, by have := HIJ.out; omega, by go_num, by rw [HTI.out]; exact FIN.out⟩
      | false =>
        rw [hse] at k5 kk
        obtain ⟨hne, hns⟩ : x1 ≠ noStr ∧ ¬ ∃ o ∈ (l.take i).map HV.abs, o.name = x1 := ⟨fun e => absurd (kk.2 (.inl e)) (by decide), fun e => absurd (kk.2 (.inr e)) (by decide)⟩
        obtain ⟨es1, ck1, hup2, k7⟩ := (k3.alloc (.cells #[.string x1, .string x2, .string x3, .slice x4 x5 x6, .bool x8] 59)).run_update (P := Tryz.prog) string_emb msbM strU x1 true
        obtain ⟨L, hTL, hTV⟩ := hR.tab
        have HTL := Lib.hid hTL
        have HTV := Lib.hid hTV
        have HNS := Lib.hid hns
        have HNE := Lib.hid hne
        have HK7 := Lib.hid k7
        have HK3 := Lib.hid k3
        have HKK := Lib.hid k4
        have HKA := Lib.hid hka
        have HB := Lib.hid hb
        have HAD1 := Lib.hid hAD1
        have HAD2 := Lib.hid hAD2
        clear hR hx hij k3 k4 kk k6 hb hti hse hsl hka hTL hTV hns hne k7 hxk hAD1 hAD2
        have hk2 : Kept (fun k => k = w.heap.size) wr (setBlock (wr.alloc (.cells #[.string x1, .string x2, .string x3, .slice x4 x5 x6, .bool x8] 59)) w.heap.size (.map es1 ck1)) := (HKA.out.mono fun _ _ e => e.elim).trans ((Kept.refl (fun k => k = w.heap.size) _).setBlock (m := w.heap.size) (fun _ => rfl) _) fun _ _ e => e
        have HK2 := Lib.hid hk2
        have hos : ∀ k, ownI wr w.heap.size own k → k ≠ w.heap.size := by
          rintro k (h | ⟨_, cs, fz, h⟩) e
          · exact absurd (HOWN.out k h) (by omega)
          · obtain ⟨es', ck', hh⟩ := HK3.out.heap
            subst e
            rw [hh] at h; cases h
        have hT2 := HTL.out.kept hk2 hos
        have hb2 : Blk (setBlock (wr.alloc (.cells #[.string x1, .string x2, .string x3, .slice x4 x5 x6, .bool x8] 59)) w.heap.size (.map es1 ck1)) wr.heap.size 59 #[.string x1, .string x2, .string x3, .slice x4 x5 x6, .bool x8] := by
          have h9 := HR.out.kept.size
          have h8 := HK3.out.lt
          exact HB.out.kept ((Kept.refl (fun k => k = w.heap.size) _).setBlock (m := w.heap.size) (fun _ => rfl) _) (fun e => by omega)
        have hz2 : wr.heap.size < (setBlock (wr.alloc (.cells #[.string x1, .string x2, .string x3, .slice x4 x5 x6, .bool x8] 59)) w.heap.size (.map es1 ck1)).heap.size := hb2.lt
        have hrow2 := own_keptB HAD2.out hk2 (fun k e1 e2 => by
          obtain ⟨es', ck', hh⟩ := HK3.out.heap
          exact row_not_map HAD2.out hh (e2 ▸ e1))
        have HROW2 := Lib.hid hrow2
        have HT2 := Lib.hid hT2
        have HB2 := Lib.hid hb2
        have HZ2 := Lib.hid hz2
        have c22 := hT2.blk.cell 2
        have z02 := hb2.cell 0
        simp only [List.getElem?_toArray, List.getElem?_cons_succ, List.getElem?_cons_zero] at c22 z02
        have l1 := (hT2.map.alloc (.cells #[.string ⟨#[]⟩, .string ⟨#[]⟩, .string ⟨#[]⟩, .slice none 0 0, .bool false] 59)).drew.run_lookup (P := Tryz.prog) string_emb mshM strU (zero_host _) x1 true
        have l2 := hT2.map.drew.run_lookup (P := Tryz.prog) string_emb mshM strU (zero_host _) x1 true
        have z03 := (hb2.alloc (.cells #[.string ⟨#[]⟩, .string ⟨#[]⟩, .string ⟨#[]⟩, .slice none 0 0, .bool false] 59)).drew.cell 0
        have c23 := (hT2.blk.alloc (.cells #[.string ⟨#[]⟩, .string ⟨#[]⟩, .string ⟨#[]⟩, .slice none 0 0, .bool false] 59)).drew.cell 2
        simp only [List.getElem?_toArray, List.getElem?_cons_succ, List.getElem?_cons_zero] at z03 c23
        clear hz2 hrow2
        generalize setBlock (wr.alloc (.cells #[.string x1, .string x2, .string x3, .slice x4 x5 x6, .bool x8] 59)) w.heap.size (.map es1 ck1) = W2 at *
        clear hT2 hb2 hk2
        have HO5 : Hid (∀ k, ownI wr w.heap.size own k → ¬ k = wr.heap.size) := Lib.hid fun k h e => by
          have := ownI_lt HOWN.out HR.out.kept.size h
          omega
        cases hag : aget x1 L with
        | none =>
          rw [hag] at l1 l2
          simp only [Option.map_none, Option.getD_none, Option.isSome_none, if_true] at l1 l2
          have hVx : V x1 = none := by
            have h1 := HTV.out x1
            rw [hag, viewR_old HNS.out] at h1
            exact h1.symm
          have HVX := Lib.hid hVx
          have HVE : Hid (∀ TA TN TC, HV.abs ⟨x1, x2, x3, TA, TN, TC, tidyP x7, x8⟩ = updH V (HV.abs ⟨x1, x2, x3, x4, x5, x6, x7, x8⟩)) := Lib.hid fun _ _ _ => by simp [HV.abs, updH, hVx]
          have HW3 : Hid (Kept noBlock W2 (W2.alloc (.cells #[.string noStr, .string noStr, .string noStr, .slice none 0 0, .bool false] 59)).drew) := Lib.hid ((Kept.refl noBlock W2).alloc _).drew
          clear hVx hag
          go_wp2_with fail
          apply once
          apply Exists.intro
          apply And.intro
          · intro key
            go_region
            all_goals exact key
          generalize (W2.alloc (.cells #[.string noStr, .string noStr, .string noStr, .slice none 0 0, .bool false] 59)).drew = W3 at *
          have hz3 : wr.heap.size < W3.heap.size := Nat.lt_of_lt_of_le HZ2.out HW3.out.size
          have z33 := (HB2.out.kept HW3.out (fun e => e)).cell 0
          simp only [List.getElem?_toArray, List.getElem?_cons_zero] at z33
          clear l1 z03 c23
          go_wp2_with (at_builtin; go_must (refine wpList_append_sl _ strsT rfl (.tmp 45) (.tmp 48) rfl w.heap.size _ AD.length (AD.map Value.string) rfl (World.ownsRow.alloc (own_keptB HROW2.out HW3.out (fun _ _ e => e)) _) _ 1 [.string x1] rfl (Sl.made_at (Blk.new_at _ 9 #[.string x1] rfl) _ rfl rfl one_max) (by simp [Value.oneCell']) ?c1 ?c2 ?_))
          case c1 => omega
          case c2 => have := HR.out.kept.size; have := HK2.out.size; have := HW3.out.size; simp only [sz_alloc]; omega
          intro v' W5 hap
          have hk35 : Kept (fun k => u6.ownBlock = some k) W3 W5 := ((Kept.refl (fun k => u6.ownBlock = some k) W3).alloc _).trans hap.kept (fun _ _ e => e)
          have HB5 := Lib.hid (((HB2.out.kept HW3.out (fun e => e))).kept hk35 (fun e => Nat.lt_irrefl _ (own_lt HAD2.out e)))
          have HK5 : Hid (Kept (fun k => k = w.heap.size ∨ u6.ownBlock = some k) wr W5) := Lib.hid (((HK2.out.mono (T := fun k => k = w.heap.size ∨ u6.ownBlock = some k) (fun _ _ e => .inl e)).trans HW3.out (fun _ _ e => e.elim)).trans hk35 (fun _ _ e => .inr e))
          have HT5 := Lib.hid ((HT2.out.kept HW3.out (fun _ _ e => e)).kept hk35 (fun k e => ownI_not_row HOWN.out HAD2.out e))
          have HKM5 := Lib.hid ((HK7.out.kept HW3.out (fun e => e)).kept hk35 (fun e => by obtain ⟨es', ck', hh⟩ := HK3.out.heap; exact row_not_map HAD2.out hh e))
          have HRW5 : Hid (∃ AD', addsR V ((l.take i).map HV.abs ++ [HV.abs ⟨x1, x2, x3, x4, x5, x6, x7, x8⟩]) AD' ∧ W5.ownsRow w.heap.size 9 1 v' AD'.length (AD'.map Value.string)) := Lib.hid ⟨AD ++ [x1], addsR_new (h := HV.abs ⟨x1, x2, x3, x4, x5, x6, x7, x8⟩) HNE.out HNS.out HVX.out HAD1.out, by simpa using hap.own⟩
          have hz5 : wr.heap.size < W5.heap.size := Nat.lt_of_lt_of_le hz3 hk35.size
          have HZ5 := Lib.hid hz5
          have HSZ5 := Lib.hid (Nat.le_of_lt hz5)
          have HVB : Hid (∀ k, v'.ownBlock = some k → k ≠ wr.heap.size) := Lib.hid fun k e e2 => by
            rcases hap.at_ with h1 | h1
            · rw [h1] at e
              have := own_lt HAD2.out e
              omega
            · rw [h1] at e
              injection e with e
              simp only [sz_alloc] at e
              omega
          have HTY := htidy_n (w := W5) ((HXK.out.2.keptAll HR.out.kept fun k e h e2 => h.2 e2).keptAll HK5.out fun k e h e2 => by
            rcases e2 with e2 | e2
            · have := h.1; omega
            · have := (own_type HAD2.out e2).1; have := h.1; omega) HXK.out.1
          have z35 := HB5.out.cell 3
          simp only [List.getElem?_toArray, List.getElem?_cons_succ, List.getElem?_cons_zero] at z35
          clear hap hk35 hz3 hz5 l2 c22 z02 z33 z0 z3 z4 y0 y1 y2 y3 y4 hidx
          go_wp2_with fail
          skip
          refine HTY.mono ?_
          rintro e w6 ⟨TA, TN, TC, rfl, hts, htk⟩
          have hb6 := HB5.out.kept htk (fun e => e)
          have z63 := hb6.cell 3
          have f63 := hb6.frozen 3
          simp only [List.getElem?_toArray, List.getElem?_cons_succ, List.getElem?_cons_zero] at z63
          have hb7 := hb6.set_ 3 (.slice TA TN TC)
          have hk7 : Kept (fun k => k = w.heap.size ∨ u6.ownBlock = some k) wr (w6.setCell ⟨wr.heap.size, 3, none⟩ (.slice TA TN TC)) := (HK5.out.trans htk fun _ _ e => e.elim).setCell (p := ⟨wr.heap.size, 3, none⟩) (fun h => absurd h (Nat.lt_irrefl _)) _
          have hk57 : Kept (fun k => k = wr.heap.size) W5 (w6.setCell ⟨wr.heap.size, 3, none⟩ (.slice TA TN TC)) := (htk.of_none (S := fun k => k = wr.heap.size)).setCell (p := ⟨wr.heap.size, 3, none⟩) (fun _ => rfl) _
          have hT7 := HT5.out.kept hk57 HO5.out
          have c7 := hT7.blk.cell 2
          have y0 := hb7.cell 0
          have y1 := hb7.cell 1
          have y2 := hb7.cell 2
          have y3 := hb7.cell 3
          have y4 := hb7.cell 4
          simp only [List.getElem?_toArray, List.getElem?_cons_succ, List.getElem?_cons_zero, List.setIfInBounds_toArray, List.set_cons_succ, List.set_cons_zero] at c7 y0 y1 y2 y3 y4
          obtain ⟨es2, ck2, hup3, hm3⟩ := (hT7.map.drew).run_update (P := Tryz.prog) string_emb mshM strU x1 (⟨x1, x2, x3, TA, TN, TC, tidyP x7, x8⟩ : HV)
          simp only [hvV] at hup3
          have hts7 := hts.keptAll ((Kept.refl (fun k => k = wr.heap.size) w6).setCell (p := ⟨wr.heap.size, 3, none⟩) (fun _ => rfl) (.slice TA TN TC)) (fun k e h e2 => by have := HZ5.out; have := h.1; omega)
          have HTS7 := Lib.hid hts7
          have HK7' := Lib.hid hk7
          have HT7 := Lib.hid hT7
          have HM3 := Lib.hid hm3
          have HKM7 := Lib.hid (HKM5.out.kept hk57 (fun e => by have h1 := HR.out.kept.size; have h2 := HK3.out.lt; have e2 : w.heap.size = wr.heap.size := e; omega))
          have HRW7 := Lib.hid (HRW5.out.imp fun AD' h => And.intro h.1 (own_keptB h.2 hk57 (fun k e1 e2 => HVB.out k e1 e2)))
          clear hts htk hb6 hb7 hk7 hk57 hT7 hm3 hts7
          skip
          go_wp2_with fail
          generalize w6.setCell ⟨wr.heap.size, 3, none⟩ (.slice TA TN TC) = W7 at *
          go_region
          go_wp2_with fail
          go_roundg (n - (i + 1))
          case measure => have := HIJ.out; omega
          case rel =>
            refine ⟨i + 1, by have := HIJ.out; omega, by go_num, ?_⟩
            rw [HTI.out]
            obtain ⟨AD', hAD1, hAD2⟩ := HRW7.out
            obtain ⟨AD, hAD3, hAD4⟩ := HR.out.adds
            have hts := HTS7.out
            exact ref_enter HOWN.out HTL.out HTV.out HK3.out HKK.out hAD4 HR.out.new HR.out.kept HK7'.out.drew HKM7.out.drew hAD1 (World.ownsRow.drew hAD2) HNE.out HNS.out (HVE.out _ _ _) (hts.drew.any fun b e _ h => ⟨Nat.le_trans (Nat.le_trans HR.out.kept.size HSZ5.out) h.1, h.2⟩) HM3.out
        | some v =>
          have hVx : V x1 = some v.abs := by
            have h1 := HTV.out x1
            rw [hag, viewR_old HNS.out] at h1
            exact h1.symm
          obtain ⟨n1, n2, n3, ta, tn, tc, tk, vu⟩ := v
          rw [hag] at l1 l2
          simp only [Option.map_some, Option.getD_some, Option.isSome_some, if_true, hvV] at l1 l2
          have HVX : Hid (V x1 ≠ none) := Lib.hid (by rw [hVx]; exact fun e => by cases e)
          have HVE : Hid (∀ TA TN TC, HV.abs ⟨x1, x2, x3, TA, TN, TC, tidyP x7, vu⟩ = updH V (HV.abs ⟨x1, x2, x3, x4, x5, x6, x7, x8⟩)) := Lib.hid fun _ _ _ => by simp [HV.abs, updH, hVx]
          have HW3 : Hid (Kept noBlock W2 (W2.alloc (.cells #[.string n1, .string n2, .string n3, .slice ta tn tc, .bool vu] 59)).drew) := Lib.hid ((Kept.refl noBlock W2).alloc _).drew
          have hb3 : Blk (W2.alloc (.cells #[.string n1, .string n2, .string n3, .slice ta tn tc, .bool vu] 59)).drew W2.heap.size 59 #[.string n1, .string n2, .string n3, .slice ta tn tc, .bool vu] := (Blk.new _ _ _).drew
          have w44 := hb3.cell 4
          simp only [List.getElem?_toArray, List.getElem?_cons_succ, List.getElem?_cons_zero] at w44
          clear hVx hag hb3
          go_wp2_with fail
          apply once
          apply Exists.intro
          apply And.intro
          · intro key
            go_region
            all_goals exact key
          generalize (W2.alloc (.cells #[.string n1, .string n2, .string n3, .slice ta tn tc, .bool vu] 59)).drew = W3 at *
          have hz3 : wr.heap.size < W3.heap.size := Nat.lt_of_lt_of_le HZ2.out HW3.out.size
          have hb33 := HB2.out.kept HW3.out (fun e => e)
          have f34 := hb33.frozen 4
          have z34 := hb33.cell 4
          have z35 := hb33.cell 3
          simp only [List.getElem?_toArray, List.getElem?_cons_succ, List.getElem?_cons_zero] at z34 z35
          have hb5 : Blk (W3.setCell ⟨wr.heap.size, 4, none⟩ (.bool vu)) wr.heap.size 59 #[.string x1, .string x2, .string x3, .slice x4 x5 x6, .bool vu] := hb33.set_ 4 (.bool vu)
          have hk35 : Kept (fun k => k = wr.heap.size) W3 (W3.setCell ⟨wr.heap.size, 4, none⟩ (.bool vu)) := (Kept.refl (fun k => k = wr.heap.size) W3).setCell (p := ⟨wr.heap.size, 4, none⟩) (fun _ => rfl) _
          have hk5 : Kept (fun k => k = w.heap.size ∨ u6.ownBlock = some k) wr (W3.setCell ⟨wr.heap.size, 4, none⟩ (.bool vu)) := ((HK2.out.mono (T := fun k => k = w.heap.size ∨ u6.ownBlock = some k) (fun _ _ e => .inl e)).trans HW3.out (fun _ _ e => e.elim)).setCell (p := ⟨wr.heap.size, 4, none⟩) (fun h => absurd h (Nat.lt_irrefl _)) _
          have HB5 := Lib.hid hb5
          have HK5 := Lib.hid hk5
          have HT5 := Lib.hid ((HT2.out.kept HW3.out (fun _ _ e => e)).kept hk35 HO5.out)
          have HKM5 := Lib.hid ((HK7.out.kept HW3.out (fun e => e)).kept hk35 (fun e => by have h1 := HR.out.kept.size; have h2 := HK3.out.lt; have e2 : w.heap.size = wr.heap.size := e; omega))
          have HRW5 : Hid (∃ AD', addsR V ((l.take i).map HV.abs ++ [HV.abs ⟨x1, x2, x3, x4, x5, x6, x7, x8⟩]) AD' ∧ (W3.setCell ⟨wr.heap.size, 4, none⟩ (.bool vu)).ownsRow w.heap.size 9 1 u6 AD'.length (AD'.map Value.string)) := Lib.hid ⟨AD, addsR_old (h := HV.abs ⟨x1, x2, x3, x4, x5, x6, x7, x8⟩) HNE.out HNS.out HVX.out HAD1.out, own_keptB (own_keptB HROW2.out HW3.out (fun _ _ e => e)) hk35 (fun k e1 e2 => by have := own_lt HAD2.out e1; omega)⟩
          have HZ5 : Hid (wr.heap.size < (W3.setCell ⟨wr.heap.size, 4, none⟩ (.bool vu)).heap.size) := Lib.hid hb5.lt
          have HSZ5 := Lib.hid (Nat.le_of_lt HZ5.out)
          have HVB : Hid (∀ k, u6.ownBlock = some k → k ≠ wr.heap.size) := Lib.hid fun k e e2 => by
            have := own_lt HAD2.out e
            omega
          have HTY := htidy_n (w := W3.setCell ⟨wr.heap.size, 4, none⟩ (.bool vu)) ((HXK.out.2.keptAll HR.out.kept fun k e h e2 => h.2 e2).keptAll HK5.out fun k e h e2 => by
            rcases e2 with e2 | e2
            · have := h.1; omega
            · have := (own_type HAD2.out e2).1; have := h.1; omega) HXK.out.1
          clear hb5 hk35 hk5 hb33 hz3 l1 l2 c22 c23 z02 z03 z0 z3 z4 y0 y1 y2 y3 y4 hidx
          go_wp2_with fail
          generalize W3.setCell ⟨wr.heap.size, 4, none⟩ (.bool vu) = W5 at *
          skip
          refine HTY.mono ?_
          rintro e w6 ⟨TA, TN, TC, rfl, hts, htk⟩
          have hb6 := HB5.out.kept htk (fun e => e)
          have z63 := hb6.cell 3
          have f63 := hb6.frozen 3
          simp only [List.getElem?_toArray, List.getElem?_cons_succ, List.getElem?_cons_zero] at z63
          have hb7 := hb6.set_ 3 (.slice TA TN TC)
          have hk7 : Kept (fun k => k = w.heap.size ∨ u6.ownBlock = some k) wr (w6.setCell ⟨wr.heap.size, 3, none⟩ (.slice TA TN TC)) := (HK5.out.trans htk fun _ _ e => e.elim).setCell (p := ⟨wr.heap.size, 3, none⟩) (fun h => absurd h (Nat.lt_irrefl _)) _
          have hk57 : Kept (fun k => k = wr.heap.size) W5 (w6.setCell ⟨wr.heap.size, 3, none⟩ (.slice TA TN TC)) := (htk.of_none (S := fun k => k = wr.heap.size)).setCell (p := ⟨wr.heap.size, 3, none⟩) (fun _ => rfl) _
          have hT7 := HT5.out.kept hk57 HO5.out
          have c7 := hT7.blk.cell 2
          have y0 := hb7.cell 0
          have y1 := hb7.cell 1
          have y2 := hb7.cell 2
          have y3 := hb7.cell 3
          have y4 := hb7.cell 4
          simp only [List.getElem?_toArray, List.getElem?_cons_succ, List.getElem?_cons_zero, List.setIfInBounds_toArray, List.set_cons_succ, List.set_cons_zero] at c7 y0 y1 y2 y3 y4
          obtain ⟨es2, ck2, hup3, hm3⟩ := (hT7.map.drew).run_update (P := Tryz.prog) string_emb mshM strU x1 (⟨x1, x2, x3, TA, TN, TC, tidyP x7, vu⟩ : HV)
          simp only [hvV] at hup3
          have hts7 := hts.keptAll ((Kept.refl (fun k => k = wr.heap.size) w6).setCell (p := ⟨wr.heap.size, 3, none⟩) (fun _ => rfl) (.slice TA TN TC)) (fun k e h e2 => by have := HZ5.out; have := h.1; omega)
          have HTS7 := Lib.hid hts7
          have HK7' := Lib.hid hk7
          have HT7 := Lib.hid hT7
          have HM3 := Lib.hid hm3
          have HKM7 := Lib.hid (HKM5.out.kept hk57 (fun e => by have h1 := HR.out.kept.size; have h2 := HK3.out.lt; have e2 : w.heap.size = wr.heap.size := e; omega))
          have HRW7 := Lib.hid (HRW5.out.imp fun AD' h => And.intro h.1 (own_keptB h.2 hk57 (fun k e1 e2 => HVB.out k e1 e2)))
          clear hts htk hb6 hb7 hk7 hk57 hT7 hm3 hts7
          skip
          go_wp2_with fail
          generalize w6.setCell ⟨wr.heap.size, 3, none⟩ (.slice TA TN TC) = W7 at *
          go_region
          go_wp2_with fail
          go_roundg (n - (i + 1))
          case measure => have := HIJ.out; omega
          case rel =>
            refine ⟨i + 1, by have := HIJ.out; omega, by go_num, ?_⟩
            rw [HTI.out]
            obtain ⟨AD', hAD1, hAD2⟩ := HRW7.out
            obtain ⟨AD, hAD3, hAD4⟩ := HR.out.adds
            have hts := HTS7.out
            exact ref_enter HOWN.out HTL.out HTV.out HK3.out HKK.out hAD4 HR.out.new HR.out.kept HK7'.out.drew HKM7.out.drew hAD1 (World.ownsRow.drew hAD2) HNE.out HNS.out (HVE.out _ _ _) (hts.drew.any fun b e _ h => ⟨Nat.le_trans (Nat.le_trans HR.out.kept.size HSZ5.out) h.1, h.2⟩) HM3.out
    · obtain rfl : i = n := by omega
      obtain ⟨wl, rfl⟩ : ∃ wl : World, wl = wr := ⟨_, rfl⟩
      have HTK : Hid ((l.take i).map HV.abs = l.map HV.abs) := Lib.hid (by rw [List.take_of_length_le (by have := HNL.out; omega)])
      rw [HTK.out] at hR
      obtain ⟨L, hTL, hTV⟩ := hR.tab
      obtain ⟨K, k3, k4⟩ := hR.seen
      obtain ⟨AD, hAD1, hAD2⟩ := hR.adds
      have hLn : L.length ≤ 200000 := by
        have := view_len HV0.out hTV hTL.nd
        rw [List.length_map, HNL.out] at this
        omega
      have hADn : AD.length ≤ 1000000 := by
        have := adds_len hAD1
        rw [List.length_map, HNL.out] at this
        omega
      obtain ⟨es, ck, hh, hst, hLs⟩ := hTL.map
      have hrg := run_range_map (P := Tryz.prog) wl 62 9 59 m es ck mshM hh
      have c2r := hTL.blk.cell 2
      simp only [List.getElem?_toArray, List.getElem?_cons_succ, List.getElem?_cons_zero] at c2r
      have ST2 : Hid (DelAt w (wl.alloc (.mapIter (some m) ck #[] ck)) own g m w.heap.size wl.heap.size ck dc rem (viewR V (l.map HV.abs)) K AD u6 (.slice none 0 0) es L #[] ck []) := Lib.hid (DelAt.start HOWN.out hR k3 hAD2 hTL hTV hh hst hLs ((Kept.refl noBlock wl).alloc _) (heap_alloc_new wl _))
      have HAD1 := Lib.hid hAD1
      have HK4 := Lib.hid k4
      have HLV := Lib.hid hTV
      have HSP : Hid (w.heap.size < wl.heap.size) := Lib.hid k3.lt
      clear hR hTL hTV k3 k4 hAD1 hAD2 hst hLs hij START HL HKT
      go_wp2_with fail
      generalize wl.heap.size = Rr at *
      go_loopw [7] (fun vg wr => ∃ es L seen c0 G, DelAt w wr own g m w.heap.size Rr ck dc rem (viewR V (l.map HV.abs)) K AD u6 vg es L seen c0 G) (fun _ wr => (leftOf (entsOf wr m) (wr.iterSeen Rr)).size)
      case atStart => exact ⟨_, _, _, _, _, ST2.out⟩
      case round =>
        obtain ⟨es, L, seen, c0, G, hD⟩ := hrel
        have HD := Lib.hid hD
        have law := run_next_at (P := Tryz.prog) wr 0 Rr m ck c0 seen es ck hD.it hD.hh hD.st.1 hD.le
        have hGn : G.length ≤ 200000 := by
          have := gone_len HLV.out hD.nd fun x hx => (hD.gone x hx).2
          omega
        rcases law with ⟨h0, hrun⟩ | ⟨e, he, w2, hw2, hrun⟩
        · have hnx : ∀ ty, (Instr.next (.pointer (some ⟨Rr, 0, none⟩)) false ty).run Tryz.prog wr = _ := fun _ => hrun
          have HDN := Lib.hid (hD.done h0 (fun _ => rfl) HVN.out HK4.out)
          have HS1 := SSort_at (hD.fam.get 0 rfl) hADn
          clear hD h0
          go_wp2_with fail
          refine HS1.mono ?_
          rintro e w3 ⟨rfl, ho3, hk3⟩
          have ho3g : w3.ownsRow w.heap.size 9 1 u7 G.length (G.map Value.string) := own_keptB (HD.out.fam.get 1 rfl) hk3 (fun k e1 e2 => HD.out.fam.2 0 1 _ _ (by decide) rfl rfl k e2 e1)
          have HS2 := SSort_at ho3g (by omega)
          have HO3 := Lib.hid ho3
          have HK3' := Lib.hid hk3
          clear ho3 hk3 ho3g HS1
          go_wp2_with fail
          refine HS2.mono ?_
          rintro e w4 ⟨rfl, ho4, hk4⟩
          have ho3a := own_keptB HO3.out hk4 (fun k e1 e2 => HD.out.fam.2 0 1 _ _ (by decide) rfl rfl k e1 e2)
          have HO4 := Lib.hid ho4
          have HO3A := Lib.hid ho3a
          have HK4' := Lib.hid hk4
          clear ho4 ho3a hk4 HS2
          go_wp2
          go_ret2
          have hown3 : ∀ (u : Value) (q : Nat) (ys : List Value) (W : World), W.ownsRow w.heap.size 9 1 u q ys → ∀ k, ownI W w.heap.size own k → ¬ u.ownBlock = some k := fun u q ys W hu k hk => ownI_not_row HOWN.out hu hk
          have e1 : (sortN AD).length = AD.length := (sortN_perm AD).length_eq
          have e2 : (sortN G).length = G.length := (sortN_perm G).length_eq
          have hd := HD.out
          have t3 := hd.tab.kept HK3'.out (fun k hk => hown3 _ _ _ _ (hd.fam.get 0 rfl) k hk)
          have hrow3 : w3.ownsRow w.heap.size 9 1 u7 G.length (G.map Value.string) := own_keptB (hd.fam.get 1 rfl) HK3'.out (fun k e1 e2 => hd.fam.2 0 1 _ _ (by decide) rfl rfl k e2 e1)
          have t4 := t3.kept HK4'.out (fun k hk => hown3 _ _ _ _ (hd.fam.get 1 rfl) k hk)
          have ki : ∀ k, ownI wr w.heap.size own k → ownI w4 w.heap.size own k := by
            rintro k (h | ⟨h1, cs, fz, h2⟩)
            · exact .inl h
            · have hI : ownI wr w.heap.size own k := .inr ⟨h1, cs, fz, h2⟩
              have h3 := (HK3'.out.block k (lt_of_heap h2) (hown3 _ _ _ _ (hd.fam.get 0 rfl) k hI)).trans h2
              exact .inr ⟨h1, cs, fz, (HK4'.out.block k (lt_of_heap h3) (hown3 _ _ _ _ (hd.fam.get 1 rfl) k hI)).trans h3⟩
          have hs4 : w.heap.size ≤ w4.heap.size := Nat.le_trans hd.kept.size (Nat.le_trans HK3'.out.size HK4'.out.size)
          refine ⟨u6, u7, AD, G, L, rfl, by rw [e1]; exact HO3A.out, by rw [e2]; exact HO4.out, HAD1.out, hd.nd, HDN.out.2, t4.wide ki (fun k e => ownI_lt HOWN.out hs4 e), HDN.out.1, (hd.kept.trans HK3'.out fun k hlt e => ?_).trans HK4'.out fun k hlt e => ?_⟩
          · have := (own_type (hd.fam.get 0 rfl) e).1; omega
          · have := (own_type (hd.fam.get 1 rfl) e).1; omega
        · have hem := mem_left he
          obtain ⟨x, hv, hek, hev⟩ : ∃ (x : ByteArray) (v : HV), e.key = .string x ∧ e.val = hvV v := by
            obtain ⟨j, hj⟩ := List.getElem?_of_mem hem.1
            have h1 := congrArg (fun l => l[j]?) hD.hL
            simp only [List.getElem?_map, hj, Option.map_some] at h1
            cases hp : L[j]? with
            | none => rw [hp] at h1; simp at h1
            | some p =>
              rw [hp] at h1
              simp only [Option.map_some, Option.some.injEq, Prod.mk.injEq] at h1
              exact ⟨p.1, p.2, h1.1, h1.2⟩
          obtain ⟨v1, v2, v3, v4, v5, v6, v7, v8⟩ := hv
          rw [hek, hev] at hrun
          have hnx : ∀ ty, (Instr.next (.pointer (some ⟨Rr, 0, none⟩)) false ty).run Tryz.prog wr = _ := fun _ => hrun
          have hk2 : Kept (fun k => k = Rr) wr (setBlock w2 Rr (.mapIter (some m) ck (seen.push e.born) ck)) := by
            have : Kept (fun k => k = Rr) wr w2 := by
              rcases hw2 with rfl | rfl
              · exact Kept.refl _ _
              · exact (Kept.refl _ _).drew
            exact this.setBlock (m := Rr) (fun _ => rfl) _
          have hr2 : (setBlock w2 Rr (.mapIter (some m) ck (seen.push e.born) ck)).heap[Rr]? = some (.mapIter (some m) ck (seen.push e.born) ck) := heap_setBlock_me (by rcases hw2 with rfl | rfl <;> exact lt_of_heap hD.it) _
          have hRm : m ≠ Rr := fun e => by have := hD.hh; rw [e, hD.it] at this; cases this
          have hRs : w.heap.size ≠ Rr := fun e => by obtain ⟨es', ck', hh'⟩ := hD.names.heap; rw [e, hD.it] at hh'; cases hh'
          have hRg : g ≠ Rr := fun e => by have := hD.tab.blk; unfold Blk at this; rw [e, hD.it] at this; cases this
          have hb2 : (setBlock w2 Rr (.mapIter (some m) ck (seen.push e.born) ck)).heap[m]? = some (.map es ck) := (hk2.block m (lt_of_heap hD.hh) hRm).trans hD.hh
          have hen := run_entry_at (P := Tryz.prog) (setBlock w2 Rr (.mapIter (some m) ck (seen.push e.born) ck)) Rr m ck seen es ck e hr2 hb2 hem.1 hD.st.2.1
          rw [hek, hev] at hen
          have k6 : ((aget x K).map Value.bool).getD (.bool false) = .bool ((aget x K).getD false) := by cases aget x K <;> rfl
          have k5 := (hD.names.kept hk2 hRs).run_lookup (P := Tryz.prog) string_emb msbM strU (zero_bool _) x false
          rw [if_neg (by decide), k6] at k5
          have c23 := (hD.tab.blk.kept hk2 hRg).cell 2
          simp only [List.getElem?_toArray, List.getElem?_cons_succ, List.getElem?_cons_zero] at c23
          simp only [hvV] at hrun hnx hen
          have HEM := Lib.hid hem.1
          have HEK := Lib.hid hek
          have HR2 := Lib.hid hr2
          have HB2 := Lib.hid hb2
          have HK2 := Lib.hid hk2
          have HMS := Lib.hid (left_shrinks es seen e he)
          cases hse : (aget x K).getD false with
          | true =>
            rw [hse] at k5
            have HFIN := Lib.hid (hD.pass hem.1 hek hse hk2 hr2 HOWN.out)
            have HM1 := Lib.hid (entsOf_is hD.hh)
            have HM2 := Lib.hid (iterSeen_is hD.it)
            clear hD he hem hek hev hk2 hr2 hb2 hse k6 hw2 hRm hRs hRg
            go_wp2_with fail
            go_roundw
            case rel => exact ⟨_, _, _, _, _, HFIN.out⟩
            case measure =>
              rw [entsOf_is HFIN.out.hh, iterSeen_is HFIN.out.it, HM1.out, HM2.out]
              exact HMS.out
          | false =>
            rw [hse] at k5
            have HSE := Lib.hid hse
            have HM1 := Lib.hid (entsOf_is hD.hh)
            have HM2 := Lib.hid (iterSeen_is hD.it)
            have HFAM : Hid (Fam (setBlock w2 Rr (.mapIter (some m) ck (seen.push e.born) ck)) w.heap.size [⟨9, 1, u6, AD.length, AD.map Value.string⟩, ⟨9, 1, u7, G.length, G.map Value.string⟩]) := Lib.hid ⟨fun i r hr => own_keptB (hD.fam.1 i r hr) hk2 (fun k e1 e2 => by
              obtain ⟨_, cs, hc⟩ := own_type (hD.fam.1 i r hr) e1
              rw [e2, hD.it] at hc; cases hc), hD.fam.2⟩
            have HC2 : Hid (Blk (setBlock w2 Rr (.mapIter (some m) ck (seen.push e.born) ck)) g 64 #[.string dc, .int .i64 rem, .map (some m)]) := Lib.hid (hD.tab.blk.kept hk2 hRg)
            clear hD he hem hek hev hk2 hr2 hb2 hse k6 hw2 hRm hRs hRg c23
            generalize setBlock w2 Rr (.mapIter (some m) ck (seen.push e.born) ck) = w3 at *
            go_wp2_with (at_builtin; go_must (refine wpList_append_sl _ strsT rfl (.tmp 75) (.tmp 77) rfl w.heap.size _ G.length (G.map Value.string) rfl ((HFAM.out.keptN ((Kept.refl noBlock _).alloc _)).get 1 rfl) _ 1 [.string x] rfl (Sl.made_at (Blk.new_at _ 9 #[.string x] rfl) _ rfl rfl one_max) (by simp [Value.oneCell']) ?c1 ?c2 ?_))
            case c1 => omega
            case c2 => have := HD.out.kept.size; have := HK2.out.size; simp only [sz_alloc]; omega
            intro v' W hap
            have hkw : Kept (fun k => u7.ownBlock = some k) w3 W := ((Kept.refl (fun k => u7.ownBlock = some k) w3).alloc _).trans hap.kept (fun _ _ e => e)
            have hfam := HFAM.out.app 1 rfl ((Kept.refl noBlock w3).alloc (.cells #[.string x] 9)) hap
            have hmW : W.heap[m]? = some (.map es ck) := (hkw.block m (lt_of_heap HB2.out) (fun e => row_not_map (HFAM.out.get 1 rfl) HB2.out e)).trans HB2.out
            have hrw7 : w3.ownsRow w.heap.size 9 1 u7 G.length (G.map Value.string) := HFAM.out.get 1 rfl
            have hgW : Blk W g 64 #[.string dc, .int .i64 rem, .map (some m)] := HC2.out.kept hkw (fun e => by
              obtain ⟨_, cs, hc⟩ := own_type hrw7 e
              have := HC2.out
              unfold Blk at this
              rw [this] at hc; injection hc with hc; injection hc with _ hc; exact absurd hc (by decide))
            have hiW : W.heap[Rr]? = some (.mapIter (some m) ck (seen.push e.born) ck) := (hkw.block Rr (lt_of_heap HR2.out) (fun e => by
              obtain ⟨_, cs, hc⟩ := own_type (HFAM.out.get 1 rfl) e
              rw [HR2.out] at hc; cases hc)).trans HR2.out
            obtain ⟨es', hdel, hst', hL', hsub⟩ := run_delete_at (P := Tryz.prog) hmW HD.out.st HD.out.hL string_emb mshM strU x
            have cW := hgW.cell 2
            simp only [List.getElem?_toArray, List.getElem?_cons_succ, List.getElem?_cons_zero] at cW
            have HFIN := Lib.hid (HD.out.drop (v := ⟨v1, v2, v3, v4, v5, v6, v7, v8⟩) HEM.out HEK.out HSE.out ((HK2.out.mono (T := fun k => k = Rr ∨ u7.ownBlock = some k) (fun _ _ e => .inl e)).trans hkw (fun _ _ e => .inr e)) hiW (by simpa using hfam) hst' hL' hsub HOWN.out)
            have HMS2 := Lib.hid (Nat.lt_of_le_of_lt (left_sub hsub (seen.push e.born)) HMS.out)
            clear hap hkw hfam hmW hgW hrw7 hiW hst' hL' hsub hrun hnx hen k5
            go_wp2_with fail
            go_roundw
            case rel => exact ⟨_, _, _, _, _, HFIN.out⟩
            case measure =>
              rw [entsOf_is HFIN.out.hh, iterSeen_is HFIN.out.it, HM1.out, HM2.out]
              exact HMS2.out
end Go.Proofs.YtjkmgpmknadhjaaGreat

/- The reference of chapter 13: New. -/
import Derived.Test.YtjdjfikeiphgpaaR3Model
namespace Go.Proofs.Ytjdjfikeiphgpaa
set_option linter.unusedVariables false
open Go.RowKit

def rpos (O : List Pl) (x : Pl) : Nat := O.findIdx fun o => !decide (o.1 < x.1)
def rIns (O : List Pl) (x : Pl) : List Pl := O.take (rpos O x) ++ x :: O.drop (rpos O x)
theorem rpos_le (O : List Pl) (x : Pl) : rpos O x ≤ O.length := List.findIdx_le_length
theorem rpos_before {O : List Pl} {x : Pl} {a : Nat} (ha : a < rpos O x) : ∃ o, O[a]? = some o ∧ o.1 < x.1 := by
  have h0 := rpos_le O x
  have h1 : a < O.length := by omega
  refine ⟨O[a], List.getElem?_eq_getElem h1, ?_⟩
  have := List.not_of_lt_findIdx (p := fun o : Pl => !decide (o.1 < x.1)) (xs := O) ha
  simpa using this
theorem rpos_at {O : List Pl} {x : Pl} (ha : rpos O x < O.length) : ∃ o, O[rpos O x]? = some o ∧ ¬ o.1 < x.1 := by
  refine ⟨_, List.getElem?_eq_getElem ha, ?_⟩
  have := List.findIdx_getElem (p := fun o : Pl => !decide (o.1 < x.1)) (w := ha)
  simp only [Bool.not_eq_true', decide_eq_false_iff_not] at this
  exact this
theorem rIns_perm (O : List Pl) (x : Pl) : (rIns O x).Perm (x :: O) := by
  unfold rIns
  refine List.perm_middle.trans ?_
  rw [List.take_append_drop]
theorem rIns_length (O : List Pl) (x : Pl) : (rIns O x).length = O.length + 1 := (rIns_perm O x).length_eq
theorem drop_high {O : List Pl} {x : Pl} (h : O.Pairwise fun a b => a.1 ≤ b.1) : ∀ b ∈ O.drop (rpos O x), x.1 ≤ b.1 := by
  intro a ha
  obtain ⟨i, hi, e⟩ := List.getElem_of_mem ha
  rw [List.length_drop] at hi
  rw [List.getElem_drop] at e
  have hlt : rpos O x < O.length := by omega
  obtain ⟨o, ho, h0⟩ := rpos_at hlt
  rw [List.getElem?_eq_getElem hlt, Option.some.injEq] at ho
  cases i with
  | zero => simp only [Nat.add_zero] at e; rw [← e, ho]; omega
  | succ i =>
    have h1 := List.pairwise_iff_getElem.1 h _ _ hlt (by omega) (by omega : rpos O x < rpos O x + (i + 1))
    rw [e, ho] at h1
    omega
theorem take_low {O : List Pl} {x : Pl} : ∀ a ∈ O.take (rpos O x), a.1 < x.1 := by
  intro a ha
  obtain ⟨i, hi, e⟩ := List.getElem_of_mem ha
  rw [List.length_take] at hi
  rw [List.getElem_take] at e
  obtain ⟨o, ho, h0⟩ := rpos_before (O := O) (x := x) (a := i) (by omega)
  rw [List.getElem?_eq_getElem (by omega), Option.some.injEq] at ho
  rw [← e, ho]; exact h0
theorem rIns_sorted {O : List Pl} {x : Pl} (h : O.Pairwise fun a b => a.1 ≤ b.1) : (rIns O x).Pairwise fun a b => a.1 ≤ b.1 := by
  have h1 := drop_high (x := x) h
  have h0 := take_low (O := O) (x := x)
  unfold rIns
  have h2 := h
  rw [← List.take_append_drop (rpos O x) O] at h2
  have h3 := List.pairwise_append.1 h2
  refine List.pairwise_append.2 ⟨h3.1, List.pairwise_cons.2 ⟨h1, h3.2.1⟩, fun a ha b hb => ?_⟩
  rcases List.mem_cons.1 hb with rfl | hb
  · have := h0 a ha; omega
  · exact h3.2.2 a ha b hb
theorem rpos_dup {O : List Pl} {x : Pl} (h : O.Pairwise fun a b => a.1 ≤ b.1) : x.1 ∈ O.map (·.1) ↔ ∃ o, O[rpos O x]? = some o ∧ o.1 = x.1 := by
  constructor
  · intro hx
    obtain ⟨o, ho, e⟩ := List.mem_map.1 hx
    have hlt : rpos O x < O.length := by
      rcases Nat.lt_or_ge (rpos O x) O.length with hlt | hge
      · exact hlt
      · have h0 := take_low (O := O) (x := x) o (by rw [List.take_of_length_le hge]; exact ho)
        omega
    obtain ⟨q, hq, h1⟩ := rpos_at hlt
    refine ⟨q, hq, ?_⟩
    have hmem : o ∈ O.take (rpos O x) ++ O.drop (rpos O x) := by rw [List.take_append_drop]; exact ho
    rcases List.mem_append.1 hmem with hm | hm
    · have := take_low o hm; omega
    · have h2 : q.1 ≤ o.1 := by
        rw [List.drop_eq_getElem_cons hlt] at hm
        rw [List.getElem?_eq_getElem hlt, Option.some.injEq] at hq
        rcases List.mem_cons.1 hm with rfl | hm
        · rw [hq]; exact Int.le_refl _
        · have h3 := h.sublist (List.drop_sublist (rpos O x) O)
          rw [List.drop_eq_getElem_cons hlt] at h3
          have := List.rel_of_pairwise_cons h3 hm
          rw [hq] at this
          exact this
      omega
  · rintro ⟨o, ho, e⟩
    exact List.mem_map.2 ⟨o, List.mem_of_getElem? ho, e⟩

def BadIs (b : Int) (ts : List Int) : Prop := (b = 0 ∧ ts.Nodup) ∨ (b = 11 ∧ ¬ ts.Nodup)
/-- What is known after the first i places. -/
structure R3Rel (w wr : World) (l : List Pl) (i : Nat) (b : Int) (O : List Pl) (vo : Value) : Prop where
  perm : O.Perm (l.take i)
  sorted : O.Pairwise fun a b => a.1 ≤ b.1
  bad : BadIs b ((l.take i).map (·.1))
  named : unnamed (l.take i) = false
  row : Sl wr 68 2 vo O.length (O.flatMap pC)
  kept : Kept noBlock w wr
theorem BadIs.next {b : Int} {l : List Pl} {i : Nat} {x : Pl} {O : List Pl} (h : BadIs b ((l.take i).map (·.1))) (hx : l[i]? = some x) (hp : O.Perm (l.take i)) (b' : Int) (hb : (x.1 ∈ O.map (·.1) ∧ b' = 11) ∨ (x.1 ∉ O.map (·.1) ∧ b' = b)) : BadIs b' ((l.take (i + 1)).map (·.1)) := by
  have e : (l.take (i + 1)).map (·.1) = (l.take i).map (·.1) ++ [x.1] := by rw [List.take_add_one, hx, List.map_append]; rfl
  have hm : x.1 ∈ O.map (·.1) ↔ x.1 ∈ (l.take i).map (·.1) := (hp.map (·.1)).mem_iff
  have hnd : ((l.take i).map (·.1) ++ [x.1]).Nodup ↔ ((l.take i).map (·.1)).Nodup ∧ x.1 ∉ (l.take i).map (·.1) := by
    rw [List.nodup_append]
    constructor
    · rintro ⟨h1, -, h3⟩
      exact ⟨h1, fun hc => h3 _ hc _ (by simp) rfl⟩
    · rintro ⟨h1, h2⟩
      exact ⟨h1, by simp, fun a ha c hc e => by simp only [List.mem_singleton] at hc; subst hc; subst e; exact h2 ha⟩
  unfold BadIs
  rw [e, hnd, ← hm]
  rcases hb with ⟨h1, rfl⟩ | ⟨h1, rfl⟩
  · exact .inr ⟨rfl, fun hc => hc.2 h1⟩
  · rcases h with ⟨h2, h3⟩ | ⟨h2, h3⟩
    · exact .inl ⟨h2, h3, h1⟩
    · exact .inr ⟨h2, fun hc => h3 hc.1⟩

/-- What the reference makes of places. -/
def R3Post (w : World) (l : List Pl) (e : Ending) (w' : World) : Prop :=
  Kept noBlock w w' ∧ ((unnamed l = true ∧ e = .returned (.tuple #[.slice none 0 0, .int .i64 1])) ∨
    (unnamed l = false ∧ ¬ (l.map (·.1)).Nodup ∧ e = .returned (.tuple #[.slice none 0 0, .int .i64 11])) ∨
    (∃ v S, RingOf l S ∧ e = .returned (.tuple #[v, .int .i64 0]) ∧ Sl w' 68 2 v S.length (S.flatMap pC)))

set_option maxHeartbeats 4000000 in
set_option maxRecDepth 100000 in
theorem R3New_at {w : World} {ok : Nat → TypeId → Prop} {v : Value} {l : List Pl} (h : SlK w ok 2 v l.length (l.flatMap pC)) (hl : l.length ≤ 1000) :
    Calls Try.prog 10 #[v] w (R3Post w l) := by
  obtain ⟨A, c, rfl, -, -⟩ := h.shape
  have hlen := h.run_len p3sT
  have H := Lib.hid h
  clear h
  go_enter Try.func10, Try.ntmps10
  go_wp2_with fail
  go_loopg [4, 5, 6] l.length (fun j vo vb vi wr => ∃ (i : Nat) (b : Int) (O : List Pl) (A1 : Option Addr) (c1 : Nat), i + j = l.length ∧ vi = .int .i64 i ∧ vb = .int .i64 b ∧ vo = .slice A1 O.length c1 ∧ R3Rel w wr l i b O (.slice A1 O.length c1))
  case atStart => exact ⟨0, 0, [], none, 0, by omega, rfl, rfl, rfl, .nil, .nil, .inl ⟨rfl, .nil⟩, rfl, Sl.nil _ _ _, Kept.refl _ _⟩
  case round =>
    obtain ⟨i, b, O, A1, c1, hij, rfl, rfl, rfl, hrr⟩ := hrel
    have HIJ := Lib.hid hij
    have HR := Lib.hid hrr
    have hz := hrr.kept.size
    have hol : O.length ≤ 1000 := by
      have := hrr.perm.length_eq
      rw [List.length_take] at this
      omega
    by_cases hlt : i < l.length
    · obtain ⟨x, hx⟩ : ∃ x, l[i]? = some x := ⟨_, List.getElem?_eq_getElem hlt⟩
      obtain ⟨g, off, hidx, hgl, hc0, hc1⟩ := p_at H.out p3sT hx
      have hun : unnamed (l.take (i + 1)) = x.2.toList.isEmpty := by
        have := hrr.named
        unfold unnamed at this ⊢
        rw [List.take_add_one, hx, List.any_append, this]; simp
      have hal : x.2.toList.isEmpty = true → unnamed l = true := fun e => List.any_eq_true.2 ⟨x, List.mem_of_getElem? hx, e⟩
      have hd := rpos_dup (x := x) hrr.sorted
      have hble := fun a ha => rpos_before (O := O) (x := x) (a := a) ha
      have hat := rpos_at (O := O) (x := x)
      have hpl := rpos_le O x
      have HX := Lib.hid hx
      have HUN := Lib.hid hun
      have HAL := Lib.hid hal
      have HD := Lib.hid hd
      have HBLE := Lib.hid hble
      have HAT := Lib.hid hat
      have HINS := Lib.hid (show rIns O x = O.take (rpos O x) ++ x :: O.drop (rpos O x) from rfl)
      have HIL := Lib.hid (rIns_length O x)
      have HIP := Lib.hid (rIns_perm O x)
      have HIS := Lib.hid (rIns_sorted (x := x) hrr.sorted)
      clear hx hun hal hd hble hat hij
      generalize rIns O x = O' at *
      generalize rpos O x = t at *
      have q0 := (hrr.kept.cell (p := ⟨g, off, none⟩) hgl (fun h => h)).trans hc0
      have q1 := (hrr.kept.cell (p := ⟨g, off + 1, none⟩) hgl (fun h => h)).trans hc1
      have HC0 := Lib.hid (fun (w1 : World) (hk1 : Kept noBlock w w1) => ((hk1.cell (p := ⟨g, off, none⟩) hgl (fun h => h)).trans hc0))
      have HC1 := Lib.hid (fun (w1 : World) (hk1 : Kept noBlock w w1) => ((hk1.cell (p := ⟨g, off + 1, none⟩) hgl (fun h => h)).trans hc1))
      clear hrr hc0 hc1
      obtain ⟨x1, x2⟩ := x
      simp only at q0 q1 HUN HAL HC0 HC1 HD HBLE HAT
      cases hem : x2.toList.isEmpty with
      | true =>
        have hul := HAL.out hem
        have HUL := Lib.hid hul
        clear hul
        go_wp2
        go_ret2
        exact ⟨HR.out.kept, .inl ⟨HUL.out, rfl⟩⟩
      | false =>
        have hlo := fun nn => SlK.run_len p3sT (SlK.drewN HR.out.row nn)
        obtain ⟨A2, c2, hto, hst⟩ := HR.out.row.run_to p3sT (i := (t : Int)) (k := t) rfl hpl
        obtain ⟨A3, c3, hfrom, hsf⟩ := HR.out.row.run_from p3sT (i := (t : Int)) (k := t) rfl hpl
        have e1 : (O.flatMap pC).take (t * 2) = (O.take t).flatMap pC := by
          conv => lhs; rw [← List.take_append_drop t O]
          rw [List.flatMap_append, List.take_left' (by rw [pC_len, List.length_take]; congr 1; omega)]
        have e2 : (O.flatMap pC).drop (t * 2) = (O.drop t).flatMap pC := by
          conv => lhs; rw [← List.take_append_drop t O]
          rw [List.flatMap_append, List.drop_left' (by rw [pC_len, List.length_take]; congr 1; omega)]
        rw [e1] at hst
        rw [e2] at hsf
        have HTO := Lib.hid hto
        have HFROM := Lib.hid hfrom
        have HST := Lib.hid hst
        have HSF := Lib.hid hsf
        have HUN2 := Lib.hid (HUN.out.trans hem)
        clear hto hfrom hst hsf e1 e2
        go_wp2_with fail
        go_loopg [7] t (fun q va wx => ∃ a nn : Nat, a + q = t ∧ va = .int .i64 a ∧ wx = wr.drewN nn)
        case atStart => exact ⟨0, 0, by omega, rfl, rfl⟩
        case round =>
          obtain ⟨a, nn, haq, rfl, rfl⟩ := hrel
          have HAQ := Lib.hid haq
          clear haq
          by_cases hat : a < t
          · obtain ⟨o, ho, hou⟩ := HBLE.out a hat
            obtain ⟨go_, oo, hio, -, ho0, -⟩ := p_at HR.out.row p3sT ho
            clear ho
            have hlo2 := hlo nn
            have hal2 : a < O.length := by omega
            go_wp2
            go_quiet (fail)
            go_wp2
            go_roundg (t - (a + 1))
            case measure => have := HAQ.out; omega
            case rel => exact ⟨a + 1, nn + nq, by omega, by go_num, rfl⟩
          · obtain rfl : a = t := by have := HAQ.out; omega
            have hlo2 := hlo nn
            by_cases hend : a < O.length
            · obtain ⟨o, ho, hou⟩ := HAT.out hend
              obtain ⟨go_, oo, hio, -, ho0, -⟩ := p_at HR.out.row p3sT ho
              by_cases heq : o.1 = x1
              · have hmem : x1 ∈ O.map (·.1) := HD.out.2 ⟨o, ho, heq⟩
                have hbe : (o.1 == x1) = true := by simp [heq]
                have HBD := Lib.hid (HR.out.bad.next HX.out HR.out.perm 11 (.inl ⟨hmem, rfl⟩))
                clear ho hmem heq
                go_wp2
                go_quiet (fail)
                try rw [World.drewN_drewN]
                generalize nn + nq = n1
                go_wp2
                have hlo3 := hlo n1
                go_quiet (fail)
                try rw [World.drewN_drewN]
                have hto := HTO.out
                have hfrom := HFROM.out
                have hk0 := HR.out.kept.drewN (n1 + nq)
                have hs0 := SlK.drewN HST.out (n1 + nq)
                have hsf0 := SlK.drewN HSF.out (n1 + nq)
                generalize wr.drewN (n1 + nq) = W at *
                have HK0 := Lib.hid hk0
                have HS0 := Lib.hid (SlK.lo hs0)
                have HSF0 := Lib.hid (SlK.lo hsf0)
                have hsz := hk0.size
                clear hk0 hs0 hsf0 HST HSF q0 q1
                go_wp2_with (at_builtin; go_must (refine wpList_append_sl _ p3sT rfl (.tmp 57) (.tmp 60) rfl W.heap.size _ 0 [] rfl (World.ownsRow_nil _ _ _ _) _ a _ rfl HS0.out (fun u hu => pC_one hu) ?c1 ?c2 ?_))
                case c1 => omega
                case c2 => first | omega | (simp; omega)
                intro v1 w3 hap1
                have hk1 := HK0.out.trans hap1.keptNil (fun _ _ h => h)
                have HF1 := Lib.hid (SlK.keptNone HSF0.out hap1.keptNil)
                have hown1 := hap1.own
                have hsz1 := hap1.keptNil.size
                have q0 := HC0.out _ hk1
                have q1 := HC1.out _ hk1
                have HK1 := Lib.hid hk1
                have HO1 := Lib.hid hown1
                clear hk1 hown1 hap1 hto
                go_wp2_with (at_builtin; go_must (refine wpList_append_sl _ p3sT rfl (.tmp 62) (.tmp 67) rfl W.heap.size _ a _ rfl (HO1.out.alloc _) _ 1 [.int .i64 x1, .string x2] rfl (Sl.made_at (Blk.new_at _ _ _ rfl) _ rfl rfl one_max) (by simp [Value.oneCell']) ?d1 ?d2 ?_))
                case d1 => omega
                case d2 => first | omega | (simp; omega)
                intro v2 w4 hap2
                have hf2 := SlK.appended (SlK.alloc HF1.out _) hap2 (HO1.out.alloc _) (Nat.le_refl _)
                have hk1 := hap2.below (HO1.out.alloc _) (HK1.out.alloc _) hsz
                have hown2 := hap2.own
                have hsz2 := (hap2.kept).size
                rw [sz_alloc] at hsz2
                clear q0 q1
                have HK2 := Lib.hid hk1
                have HO2 := Lib.hid hown2
                have HF2 := Lib.hid hf2
                clear hk1 hown2 hap2 hf2 HK1 HO1
                go_wp2_with (at_builtin; go_must (refine wpList_append_sl _ p3sT rfl (.tmp 69) (.tmp 72) rfl W.heap.size _ (a + 1) _ rfl HO2.out _ (O.length - a) _ rfl HF2.out (fun u hu => pC_one hu) ?e1 ?e2 ?_))
                case e1 => omega
                case e2 => omega
                intro v3 w5 hap3
                have hk1 := hap3.below HO2.out HK2.out hsz
                have hl5 := Sl.of_own hap3.own
                obtain ⟨A5, c5, rfl, -, -⟩ := hl5.shape
                have hol5 : a + 1 + (O.length - a) = O'.length := by rw [HIL.out]; omega
                rw [hol5] at hl5 ⊢
                have hrow5 : Sl w5 68 2 (.slice A5 O'.length c5) O'.length (O'.flatMap pC) := by
                  have e := HINS.out
                  rw [e] at hl5 ⊢
                  simpa [List.flatMap_append, pC] using hl5
                have HREL : Hid (R3Rel w w5 l (i + 1) 11 O' (.slice A5 O'.length c5)) := Lib.hid ⟨HIP.out.trans (by
                  have e : l.take (i + 1) = l.take i ++ [(x1, x2)] := by rw [List.take_add_one, HX.out]; rfl
                  rw [e]
                  exact (List.Perm.cons _ HR.out.perm).trans (List.perm_append_singleton _ _).symm), HIS.out, HBD.out, HUN2.out, hrow5, hk1⟩
                clear hk1 hl5 hap3 HK2 HO2 hol5 hrow5
                go_wp2
                go_roundg (l.length - (i + 1))
                case measure => have := HIJ.out; omega
                case rel =>
                  have hij := HIJ.out
                  exact ⟨i + 1, 11, O', A5, c5, by omega, by go_num, rfl, rfl, HREL.out⟩
              · have hmem : x1 ∉ O.map (·.1) := fun e => by
                  obtain ⟨o2, h1, h2⟩ := HD.out.1 e
                  rw [ho] at h1
                  injection h1 with h1
                  subst h1
                  exact heq h2
                have hbe : (o.1 == x1) = false := by rw [beq_eq_false_iff_ne]; exact heq
                have HBD := Lib.hid (HR.out.bad.next HX.out HR.out.perm b (.inr ⟨hmem, rfl⟩))
                clear ho hmem heq
                go_wp2
                go_quiet (fail)
                try rw [World.drewN_drewN]
                generalize nn + nq = n1
                go_wp2
                have hlo3 := hlo n1
                go_quiet (fail)
                try rw [World.drewN_drewN]
                have hto := HTO.out
                have hfrom := HFROM.out
                have hk0 := HR.out.kept.drewN (n1 + nq)
                have hs0 := SlK.drewN HST.out (n1 + nq)
                have hsf0 := SlK.drewN HSF.out (n1 + nq)
                generalize wr.drewN (n1 + nq) = W at *
                have HK0 := Lib.hid hk0
                have HS0 := Lib.hid (SlK.lo hs0)
                have HSF0 := Lib.hid (SlK.lo hsf0)
                have hsz := hk0.size
                clear hk0 hs0 hsf0 HST HSF q0 q1
                go_wp2_with (at_builtin; go_must (refine wpList_append_sl _ p3sT rfl (.tmp 57) (.tmp 60) rfl W.heap.size _ 0 [] rfl (World.ownsRow_nil _ _ _ _) _ a _ rfl HS0.out (fun u hu => pC_one hu) ?c1 ?c2 ?_))
                case c1 => omega
                case c2 => first | omega | (simp; omega)
                intro v1 w3 hap1
                have hk1 := HK0.out.trans hap1.keptNil (fun _ _ h => h)
                have HF1 := Lib.hid (SlK.keptNone HSF0.out hap1.keptNil)
                have hown1 := hap1.own
                have hsz1 := hap1.keptNil.size
                have q0 := HC0.out _ hk1
                have q1 := HC1.out _ hk1
                have HK1 := Lib.hid hk1
                have HO1 := Lib.hid hown1
                clear hk1 hown1 hap1 hto
                go_wp2_with (at_builtin; go_must (refine wpList_append_sl _ p3sT rfl (.tmp 62) (.tmp 67) rfl W.heap.size _ a _ rfl (HO1.out.alloc _) _ 1 [.int .i64 x1, .string x2] rfl (Sl.made_at (Blk.new_at _ _ _ rfl) _ rfl rfl one_max) (by simp [Value.oneCell']) ?d1 ?d2 ?_))
                case d1 => omega
                case d2 => first | omega | (simp; omega)
                intro v2 w4 hap2
                have hf2 := SlK.appended (SlK.alloc HF1.out _) hap2 (HO1.out.alloc _) (Nat.le_refl _)
                have hk1 := hap2.below (HO1.out.alloc _) (HK1.out.alloc _) hsz
                have hown2 := hap2.own
                have hsz2 := (hap2.kept).size
                rw [sz_alloc] at hsz2
                clear q0 q1
                have HK2 := Lib.hid hk1
                have HO2 := Lib.hid hown2
                have HF2 := Lib.hid hf2
                clear hk1 hown2 hap2 hf2 HK1 HO1
                go_wp2_with (at_builtin; go_must (refine wpList_append_sl _ p3sT rfl (.tmp 69) (.tmp 72) rfl W.heap.size _ (a + 1) _ rfl HO2.out _ (O.length - a) _ rfl HF2.out (fun u hu => pC_one hu) ?e1 ?e2 ?_))
                case e1 => omega
                case e2 => omega
                intro v3 w5 hap3
                have hk1 := hap3.below HO2.out HK2.out hsz
                have hl5 := Sl.of_own hap3.own
                obtain ⟨A5, c5, rfl, -, -⟩ := hl5.shape
                have hol5 : a + 1 + (O.length - a) = O'.length := by rw [HIL.out]; omega
                rw [hol5] at hl5 ⊢
                have hrow5 : Sl w5 68 2 (.slice A5 O'.length c5) O'.length (O'.flatMap pC) := by
                  have e := HINS.out
                  rw [e] at hl5 ⊢
                  simpa [List.flatMap_append, pC] using hl5
                have HREL : Hid (R3Rel w w5 l (i + 1) b O' (.slice A5 O'.length c5)) := Lib.hid ⟨HIP.out.trans (by
                  have e : l.take (i + 1) = l.take i ++ [(x1, x2)] := by rw [List.take_add_one, HX.out]; rfl
                  rw [e]
                  exact (List.Perm.cons _ HR.out.perm).trans (List.perm_append_singleton _ _).symm), HIS.out, HBD.out, HUN2.out, hrow5, hk1⟩
                clear hk1 hl5 hap3 HK2 HO2 hol5 hrow5
                go_wp2
                go_roundg (l.length - (i + 1))
                case measure => have := HIJ.out; omega
                case rel =>
                  have hij := HIJ.out
                  exact ⟨i + 1, b, O', A5, c5, by omega, by go_num, rfl, rfl, HREL.out⟩
            · have hmem : x1 ∉ O.map (·.1) := fun e => by
                obtain ⟨o2, h1, h2⟩ := HD.out.1 e
                rw [List.getElem?_eq_none (by omega)] at h1
                cases h1
              have HBD := Lib.hid (HR.out.bad.next HX.out HR.out.perm b (.inr ⟨hmem, rfl⟩))
              clear hmem
              go_wp2
              go_quiet (fail)
              try rw [World.drewN_drewN]
              generalize nn + nq = n1
              go_wp2
              have hlo3 := hlo n1
              go_quiet (fail)
              try rw [World.drewN_drewN]
              have hto := HTO.out
              have hfrom := HFROM.out
              have hk0 := HR.out.kept.drewN (n1 + nq)
              have hs0 := SlK.drewN HST.out (n1 + nq)
              have hsf0 := SlK.drewN HSF.out (n1 + nq)
              generalize wr.drewN (n1 + nq) = W at *
              have HK0 := Lib.hid hk0
              have HS0 := Lib.hid (SlK.lo hs0)
              have HSF0 := Lib.hid (SlK.lo hsf0)
              have hsz := hk0.size
              clear hk0 hs0 hsf0 HST HSF q0 q1
              go_wp2_with (at_builtin; go_must (refine wpList_append_sl _ p3sT rfl (.tmp 57) (.tmp 60) rfl W.heap.size _ 0 [] rfl (World.ownsRow_nil _ _ _ _) _ a _ rfl HS0.out (fun u hu => pC_one hu) ?c1 ?c2 ?_))
              case c1 => omega
              case c2 => first | omega | (simp; omega)
              intro v1 w3 hap1
              have hk1 := HK0.out.trans hap1.keptNil (fun _ _ h => h)
              have HF1 := Lib.hid (SlK.keptNone HSF0.out hap1.keptNil)
              have hown1 := hap1.own
              have hsz1 := hap1.keptNil.size
              have q0 := HC0.out _ hk1
              have q1 := HC1.out _ hk1
              have HK1 := Lib.hid hk1
              have HO1 := Lib.hid hown1
              clear hk1 hown1 hap1 hto
              go_wp2_with (at_builtin; go_must (refine wpList_append_sl _ p3sT rfl (.tmp 62) (.tmp 67) rfl W.heap.size _ a _ rfl (HO1.out.alloc _) _ 1 [.int .i64 x1, .string x2] rfl (Sl.made_at (Blk.new_at _ _ _ rfl) _ rfl rfl one_max) (by simp [Value.oneCell']) ?d1 ?d2 ?_))
              case d1 => omega
              case d2 => first | omega | (simp; omega)
              intro v2 w4 hap2
              have hf2 := SlK.appended (SlK.alloc HF1.out _) hap2 (HO1.out.alloc _) (Nat.le_refl _)
              have hk1 := hap2.below (HO1.out.alloc _) (HK1.out.alloc _) hsz
              have hown2 := hap2.own
              have hsz2 := (hap2.kept).size
              rw [sz_alloc] at hsz2
              clear q0 q1
              have HK2 := Lib.hid hk1
              have HO2 := Lib.hid hown2
              have HF2 := Lib.hid hf2
              clear hk1 hown2 hap2 hf2 HK1 HO1
              go_wp2_with (at_builtin; go_must (refine wpList_append_sl _ p3sT rfl (.tmp 69) (.tmp 72) rfl W.heap.size _ (a + 1) _ rfl HO2.out _ (O.length - a) _ rfl HF2.out (fun u hu => pC_one hu) ?e1 ?e2 ?_))
              case e1 => omega
              case e2 => omega
              intro v3 w5 hap3
              have hk1 := hap3.below HO2.out HK2.out hsz
              have hl5 := Sl.of_own hap3.own
              obtain ⟨A5, c5, rfl, -, -⟩ := hl5.shape
              have hol5 : a + 1 + (O.length - a) = O'.length := by rw [HIL.out]; omega
              rw [hol5] at hl5 ⊢
              have hrow5 : Sl w5 68 2 (.slice A5 O'.length c5) O'.length (O'.flatMap pC) := by
                have e := HINS.out
                rw [e] at hl5 ⊢
                simpa [List.flatMap_append, pC] using hl5
              have HREL : Hid (R3Rel w w5 l (i + 1) b O' (.slice A5 O'.length c5)) := Lib.hid ⟨HIP.out.trans (by
                have e : l.take (i + 1) = l.take i ++ [(x1, x2)] := by rw [List.take_add_one, HX.out]; rfl
                rw [e]
                exact (List.Perm.cons _ HR.out.perm).trans (List.perm_append_singleton _ _).symm), HIS.out, HBD.out, HUN2.out, hrow5, hk1⟩
              clear hk1 hl5 hap3 HK2 HO2 hol5 hrow5
              go_wp2
              go_roundg (l.length - (i + 1))
              case measure => have := HIJ.out; omega
              case rel =>
                have hij := HIJ.out
                exact ⟨i + 1, b, O', A5, c5, by omega, by go_num, rfl, rfl, HREL.out⟩
    · obtain rfl : i = l.length := by omega
      have hp := hrr.perm
      have hb := hrr.bad
      have hnm := hrr.named
      rw [List.take_length] at hp hb hnm
      have hrow := hrr.row
      have hk := hrr.kept
      have HP := Lib.hid hp
      have HNM := Lib.hid hnm
      have HROW := Lib.hid hrow
      have HK := Lib.hid hk
      have HSO := Lib.hid hrr.sorted
      clear hp hnm hrow hk hrr HR hij HIJ
      rcases hb with ⟨rfl, hnd⟩ | ⟨rfl, hnd⟩
      · have hris : rising O := rising_of HSO.out (apart_of_nodup ((HP.out.map (·.1)).nodup_iff.2 hnd))
        have HRO := Lib.hid (⟨HP.out, hris, HNM.out⟩ : RingOf l O)
        clear hnd hris
        go_wp2
        go_ret2
        exact ⟨HK.out, .inr (.inr ⟨_, O, HRO.out, rfl, HROW.out⟩)⟩
      · have HND := Lib.hid hnd
        clear hnd
        go_wp2
        go_ret2
        exact ⟨HK.out, .inr (.inl ⟨HNM.out, HND.out, rfl⟩)⟩
end Go.Proofs.Ytjdjfikeiphgpaa

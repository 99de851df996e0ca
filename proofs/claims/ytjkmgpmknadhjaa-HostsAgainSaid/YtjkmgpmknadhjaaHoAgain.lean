/- HostsAgain: the walk. -/
import Derived.Test.YtjkmgpmknadhjaaHoMarks
import Derived.Test.YtjkmgpmknadhjaaHoRings
namespace Go.Proofs.Ytjkmgpmknadhjaa
set_option linter.unusedVariables false
open Go.RowKit
open Go.ChangeMaps (setBlock)

/-- Who is there behind a refresh, by name. -/
theorem ref_named (V : View) (l : List Ho) (x : ByteArray) : (getS x (refNow V l)).isSome = true ↔ x ≠ noStr ∧ ∃ h ∈ l, h.name = x := by
  rw [(refNow_spec V l).2]
  constructor
  · intro h
    have hx : x ≠ noStr := fun e => by subst e; rw [refr_empty] at h; cases h
    exact ⟨hx, (refr_has hx).1 h⟩
  · rintro ⟨hx, h⟩
    exact (refr_has hx).2 h
theorem has_named {S : List Ho} {h : Ho} (hh : h ∈ S) : (getS h.name S).isSome = true := by
  unfold getS
  rw [List.find?_isSome]
  exact ⟨h, hh, by simp⟩
theorem added_nil {S l : List Ho} (h : ∀ x, x ≠ noStr → (∃ a ∈ l, a.name = x) → (getS x S).isSome = true) : addedP (viewS S) (refNow (viewS S) l) = [] := by
  unfold addedP
  rw [List.map_eq_nil_iff, List.filter_eq_nil_iff]
  intro a ha
  have h1 := (ref_named (viewS S) l a.name).1 (has_named ha)
  have h2 := h a.name h1.1 h1.2
  show ¬ (getS a.name S).isNone = true
  cases hg : getS a.name S with
  | none => rw [hg] at h2; cases h2
  | some o => simp
theorem gone_nil {S l : List Ho} {V : View} (hn : ∀ o ∈ S, o.name ≠ noStr) (h : ∀ o ∈ S, ∃ a ∈ l, a.name = o.name) : goneP S (refNow V l) = [] := by
  unfold goneP
  rw [List.map_eq_nil_iff, List.filter_eq_nil_iff]
  intro a ha
  have h1 := (ref_named V l a.name).2 ⟨hn a ha, h a ha⟩
  cases hg : getS a.name (refNow V l) with
  | none => rw [hg] at h1; cases h1
  | some o => simp
theorem named_mem {S : List Ho} {x : ByteArray} (h : (getS x S).isSome = true) : ∃ o ∈ S, o.name = x := by
  unfold getS at h
  rw [List.find?_isSome] at h
  obtain ⟨o, ho, e⟩ := h
  exact ⟨o, ho, by simpa using e⟩
theorem ref_nil (V : View) : refNow V [] = [] := rfl
theorem gone_all (S : List Ho) : (goneP S []).length = S.length := by
  unfold goneP
  rw [List.length_map, show (S.filter fun h => (getS h.name []).isNone) = S from List.filter_eq_self.2 fun o _ => rfl]
/-- The shape of a block of numbers stays. -/
def NumShape (w wr : World) : Prop := ∀ (b : Nat) (cs : Array Value), w.heap[b]? = some (.cells cs 2 (0, 0)) → ∃ cs' : Array Value, wr.heap[b]? = some (.cells cs' 2 (0, 0)) ∧ cs'.size = cs.size
def NumB (w : World) (lo hi : Nat) (k : Nat) : Prop := lo ≤ k ∧ k < hi ∧ ∃ cs fz, w.heap[k]? = some (.cells cs 2 fz)
theorem NumShape.set_ {w wr : World} (h : NumShape w wr) (b i : Nat) (u : Value) : NumShape w (wr.setCell ⟨b, i, none⟩ u) := by
  intro k cs hk
  obtain ⟨cs', h1, h2⟩ := h k cs hk
  by_cases e : k = b
  · subst e
    exact ⟨_, Blk.set_ h1 i u, by rw [Array.size_setIfInBounds]; exact h2⟩
  · exact ⟨cs', (Below.heap_setCell wr ⟨b, i, none⟩ u k e).trans h1, h2⟩
theorem Told.keptHi {w w' w2 : World} {A : Option Addr} {n c : Nat} {T : List HV} {S : List Ho} {R : Nat → Prop} (h : Told w w' A n c T S) (hk : Kept R w' w2) (hR : ∀ k, w.heap.size ≤ k → k < w'.heap.size → ¬ R k) : Told w w2 A n c T S :=
  ⟨h.abs, h.len, own_keptB h.row hk fun k e e2 => hR k (own_type h.row e).1 (own_lt h.row e) e2, fun x hx => own_keptB (h.toksO x hx) hk fun k e e2 => hR k (own_type (h.toksO x hx) e).1 (own_lt (h.toksO x hx) e) e2⟩
theorem hofE_at (A : Option Addr) (c : Nat) (w : World) : Calls Try.prog 17 #[.slice A 0 c] w fun e w' => e = .returned (.slice none 0 0) ∧ w' = w := by
  go_enter Try.func17, Try.ntmps17
  go_wp2_with fail
  refine wp_loop_rounds 1 ?_
  rw [rounds_succ]
  go_wp2
  go_ret
  exact ⟨rfl, rfl⟩
theorem sameE_at (w : World) : Calls Try.prog 16 #[.slice none 0 0, .slice none 0 0] w fun e w' => e = .returned (.bool true) ∧ w' = w := by
  go_enter Try.func16, Try.ntmps16
  go_wp2_with fail
  refine wp_loop_rounds 1 ?_
  rw [rounds_succ]
  go_wp2
  go_ret
  exact ⟨rfl, rfl⟩

set_option maxHeartbeats 16000000 in
set_option maxRecDepth 100000 in
theorem Again_walk (A : Option Addr) (n c : Nat) (nm : ByteArray) (l : List HV) (w : World) (hl : l.length = n) (hs : Lo w w.heap.size 5 (.slice A n c) n (l.flatMap hvC)) (ht : ∀ x ∈ l, HoIn w x) :
    Calls Try.prog 5 #[.slice A n c, .string nm] w fun e w' => e = .returned (.bool true) ∧ Kept noBlock w w' := by
  have HS := Lib.hid hs
  have HT := Lib.hid ht
  have HL := Lib.hid hl
  have htn : ∀ x ∈ l, x.toks.length = x.tn ∧ x.tn ≤ 9223372036854775807 := fun x hx => ⟨(ht x hx).1, by
    obtain ⟨_, _, hv, h1, h2⟩ := (ht x hx).2.shape
    cases hv; unfold maxLen at h2; omega⟩
  have HTN := Lib.hid htn
  clear hs ht hl htn
  go_enter Try.func5, Try.ntmps5
  go_wp2_with fail
  go_at_call 7
  refine (hoaw_at _).mono ?_
  rintro e w1 ⟨rfl, hk1⟩
  have HK1 := Lib.hid hk1
  have HS1 := Lib.hid (SlK.keptNone HS.out hk1)
  clear hk1
  go_wp2_with fail
  go_at_call 8
  refine (hcrowd_at HS1.out HL.out HTN.out).mono ?_
  rintro e w2 ⟨rfl, rfl⟩
  cases hcr : crowdB l with
  | false =>
    clear hcr
    go_wp2
    go_ret
    exact ⟨rfl, HK1.out⟩
  | true =>
    obtain ⟨hc1, hc2⟩ := crowdB_true hcr
    have HC1 : Hid (n ≤ 20) := Lib.hid (by have := HL.out; omega)
    have HC2 := Lib.hid hc2
    clear hcr hc1 hc2
    go_wp2_with fail
    go_at_call 10
    refine (hRefreshN_at _ _).mono ?_
    rintro e w2a ⟨rfl, rfl⟩
    go_wp2_with fail
    go_at_call 13
    refine (hMarkN_at _ _ _).mono ?_
    rintro e w2b ⟨rfl, rfl⟩
    go_wp2_with fail
    go_at_call 11
    refine (hAllN_at _).mono ?_
    rintro e w2c ⟨rfl, rfl⟩
    go_wp2_with fail
    go_at_call 12
    refine (hDistN_at _ _).mono ?_
    rintro e w2d ⟨rfl, rfl⟩
    go_wp2_with fail
    go_at_call 14
    refine (hRingN_at _).mono ?_
    rintro e w2e ⟨rfl, rfl⟩
    go_wp2_with fail
    go_at_call 15
    refine (RplacesN_at _).mono ?_
    rintro e w2 ⟨rfl, rfl⟩
    go_wp2_with fail
    go_at_call 9
    refine (hNew_tab _ _ w2).mono ?_
    rintro e w3 ⟨g, own, rfl, hT3, ho3, hk3⟩
    have HT3 := Lib.hid hT3
    have HK3 := Lib.hid (HK1.out.trans hk3 fun _ _ e => e)
    have HO3 := Lib.hid (fun k h => Nat.le_trans HK1.out.size (ho3 k h).1)
    clear hT3 ho3 hk3 HS1 HK1
    have HIN : Hid (∀ W, Kept noBlock w W → Lo W W.heap.size 5 (.slice A n c) n (l.flatMap hvC) ∧ ∀ x ∈ l, x.toks.length ≤ 1000000 ∧ SlK W (fun k _ => k < W.heap.size) 1 x.tv x.tn (x.toks.map (Value.int .i64))) := Lib.hid fun W hW => ⟨(SlK.keptNone HS.out hW).lo, fun x hx => ⟨by have := HC2.out x hx; omega, (SlK.keptNone (HT.out x hx).2 hW).lo⟩⟩
    have HOK1 : Hid (∀ V, HoOk (refNow V (l.map HV.abs)) 20 20) := Lib.hid fun V => refNow_ok (by rw [List.length_map, HL.out]; exact HC1.out) fun o ho => by
      obtain ⟨x, hx, rfl⟩ := List.mem_map.1 ho
      exact HC2.out x hx
    clear HC2 HT HTN HS
    go_wp2_with fail
    go_at_call 10
    refine (hRefresh_tab (l := l) HT3.out (by decide) (HIN.out _ HK3.out).1 HL.out (by have := HC1.out; omega) (HIN.out _ HK3.out).2).mono ?_
    rintro e w4 ⟨A1, n1, c1, A2, n2, c2, rfl, -, -, -, -, hT4, hk4⟩
    have HK4 := Lib.hid (HK3.out.grew hk4 HO3.out)
    have HO4 := Lib.hid (ownI_ge (w' := w4) HO3.out HK3.out.size)
    generalize ownI w4 w3.heap.size own = own4 at *
    have HT4 := Lib.hid hT4
    clear hT4 hk4 HK3 HT3 HO3
    go_wp2_with fail
    go_at_call 13
    refine (hMark_at HT4.out nm true).mono ?_
    rintro e w5 ⟨rfl, hT5, hk5⟩
    have HT5 := Lib.hid hT5
    have HK5 := Lib.hid (HK4.out.grew hk5 HO4.out)
    have HOK2 : Hid (HoOk (markP (refNow (viewS []) (l.map HV.abs)) nm true).1 20 20) := Lib.hid ((HOK1.out _).mark nm true)
    have HN2 : Hid (∀ x, (getS x (markP (refNow (viewS []) (l.map HV.abs)) nm true).1).isSome = true ↔ x ≠ noStr ∧ ∃ h ∈ l.map HV.abs, h.name = x) := Lib.hid fun x => by
      by_cases hx : x = nm
      · subst hx; rw [mark_has]; exact ref_named _ _ _
      · rw [← ref_named (viewS []) (l.map HV.abs) x]
        cases hg : getS nm (refNow (viewS []) (l.map HV.abs)) with
        | none => rw [mark_none hg]
        | some o =>
          by_cases hu : o.up = true
          · rw [← hu, mark_same hg]
          · rw [mark_new hg hu]
            simp only []
            rw [mark_get, Option.isSome_map]
    generalize (markP (refNow (viewS []) (l.map HV.abs)) nm true).1 = S2 at *
    generalize (markP (refNow (viewS []) (l.map HV.abs)) nm true).2 = bm at *
    clear hT5 hk5 HK4 HT4
    go_wp2_with fail
    go_at_call 11
    refine (hAll_told HT5.out (Nat.le_trans HOK2.out.len (by decide)) fun o ho => Nat.le_trans (HOK2.out.tk o ho) (by decide)).mono ?_
    rintro e w6 ⟨A5, n5, c5, T, rfl, hto, hk6⟩
    have hSn := hto.slen
    have hn5 : n5 ≤ 20 := by have := HOK2.out.len; omega
    have HTO6 := Lib.hid hto
    have HSN := Lib.hid hSn
    have HK6 := Lib.hid (HK5.out.trans hk6 fun _ _ e => e)
    have HT6 := Lib.hid (HT5.out.kept hk6 fun _ _ e => e)
    have HLT := Lib.hid HT5.out.lt
    have HLW := Lib.hid HK5.out.size
    have hlen5 := (Sl.of_own hto.row).run_len hostsT
    clear hto hSn hk6 HK5 HT5
    go_wp2_with fail
    go_at_call 10
    refine (hRefresh_tab (l := l) HT6.out (Nat.le_trans HOK2.out.len (by decide)) (HIN.out _ HK6.out).1 HL.out (by have := HC1.out; omega) (HIN.out _ HK6.out).2).mono ?_
    rintro e w7 ⟨A7, n7, c7, A8, n8, c8, rfl, hn7, hn8, -, -, hT7, hk7⟩
    rw [added_nil fun x h1 h2 => (HN2.out x).2 ⟨h1, h2⟩] at hn7
    rw [gone_nil HOK2.out.nm fun o ho => by obtain ⟨a, ha, e⟩ := ((HN2.out o.name).1 (has_named ho)).2; exact ⟨a, ha, e⟩] at hn8
    have hn7' : n7 = 0 := hn7
    have hn8' : n8 = 0 := hn8
    clear hn7 hn8
    subst hn7' hn8'
    have HK7 := Lib.hid (HK6.out.grew hk7 HO4.out)
    have HO7 := Lib.hid (ownI_ge (w' := w7) HO4.out HK6.out.size)
    have HX7 : Hid (∀ k, ownI w7 w6.heap.size own4 k → k < w5.heap.size ∨ w6.heap.size ≤ k) := Lib.hid fun k h => by
      rcases h with h | ⟨h, _⟩
      · exact .inl (HLT.out k h)
      · exact .inr h
    have HTO7 := Lib.hid (HTO6.out.kept hk7 fun k h e => by have := HLT.out k e; omega)
    have HOK7 := HOK1.out (viewS S2)
    have HN7 : Hid (∀ x, (getS x (refNow (viewS S2) (l.map HV.abs))).isSome = true ↔ (getS x S2).isSome = true) := Lib.hid fun x => (ref_named _ _ _).trans (HN2.out x).symm
    generalize refNow (viewS S2) (l.map HV.abs) = S3 at *
    generalize ownI w7 w6.heap.size own4 = own7 at *
    have HOK3 := Lib.hid HOK7
    have HT7 := Lib.hid hT7
    have HKR7 := Lib.hid (hk7.mono (T := fun k => k < w5.heap.size ∨ w6.heap.size ≤ k) fun k _ e => .inl (HLT.out k e))
    have HZ67 := Lib.hid hk7.size
    clear hT7 HOK7 HT6 HK6 HO4 hk7 HLT
    go_wp2_with fail
    go_at_call 10
    refine (hRefresh_tab (l := T) HT7.out (Nat.le_trans HOK3.out.len (by decide)) (SlK.of_ownB HTO7.out.row).lo HTO7.out.len (by omega) fun x hx => ⟨Nat.le_trans (HOK2.out.tk x.abs (by rw [← HTO7.out.abs]; exact List.mem_map.2 ⟨x, hx, rfl⟩)) (by decide), (HTO7.out.toks x hx).lo⟩).mono ?_
    rw [HTO7.out.abs]
    rintro e w8 ⟨A9, n9, c9, A10, n10, c10, rfl, hn9, hn10, -, -, hT8, hk8⟩
    rw [added_nil fun x h1 ⟨a, ha, e⟩ => (HN7.out x).2 (by rw [← e]; exact has_named ha)] at hn9
    rw [gone_nil HOK3.out.nm fun o ho => named_mem ((HN7.out o.name).1 (has_named ho))] at hn10
    have hn9' : n9 = 0 := hn9
    have hn10' : n10 = 0 := hn10
    clear hn9 hn10
    subst hn9' hn10'
    have HK8 := Lib.hid (HK7.out.grew hk8 HO7.out)
    have HO8 := Lib.hid (ownI_ge (w' := w8) HO7.out HK7.out.size)
    have HX8 : Hid (∀ k, ownI w8 w7.heap.size own7 k → k < w5.heap.size ∨ w6.heap.size ≤ k) := Lib.hid fun k h => by
      rcases h with h | ⟨h, _⟩
      · exact HX7.out k h
      · exact .inr (Nat.le_trans HZ67.out h)
    have HKR8 := Lib.hid (HKR7.out.trans (hk8.mono (T := fun k => k < w5.heap.size ∨ w6.heap.size ≤ k) fun k _ e => HX7.out k e) fun k _ e => e)
    have HOK4 : Hid (HoOk (refNow (viewS S3) S2) 20 20) := Lib.hid (refNow_ok HOK2.out.len HOK2.out.tk)
    generalize refNow (viewS S3) S2 = S4 at *
    generalize ownI w8 w7.heap.size own7 = own8 at *
    have HT8 := Lib.hid hT8
    clear hT8 hk8 HT7 HK7 HO7 HX7 HKR7 HTO7
    go_wp2_with fail
    go_at_call 11
    refine (hAll_told HT8.out (Nat.le_trans HOK4.out.len (by decide)) fun o ho => Nat.le_trans (HOK4.out.tk o ho) (by decide)).mono ?_
    rintro e w9 ⟨A11, n11, c11, T11, rfl, hto, hk9⟩
    have hSn := hto.slen
    have hlen11 := (Sl.of_own hto.row).run_len hostsT
    have HSN11 := Lib.hid hSn
    have HK9 := Lib.hid (HK8.out.trans hk9 fun _ _ e => e)
    have HT9 := Lib.hid (HT8.out.kept hk9 fun _ _ e => e)
    have HTOw := Lib.hid (HTO6.out.keptHi (HKR8.out.trans hk9 fun _ _ e => e.elim) fun k h1 h2 e => by omega)
    have hn11 : n11 ≤ 20 := by have := HOK4.out.len; omega
    have HLO : Hid (w.heap.size ≤ w5.heap.size) := Lib.hid HLW.out
    clear hto hSn hk9 HT8 HK8 HKR8
    go_wp2_with fail
    go_loopg [17] n5 (fun jj vi wr => ∃ i : Nat, i + jj = n5 ∧ vi = .int .i64 i ∧ Kept (NumB w9 w5.heap.size w6.heap.size) w9 wr ∧ NumShape w9 wr)
    case atStart => exact ⟨0, by omega, rfl, Kept.refl _ _, fun b cs h => ⟨cs, h, rfl⟩⟩
    case round =>
      obtain ⟨i, hij, rfl, hk, hsh⟩ := hrel
      have HIJ := Lib.hid hij
      have HKi := Lib.hid hk
      have HSH := Lib.hid hsh
      by_cases hi : i < n5
      · obtain ⟨x, hx⟩ : ∃ x, T[i]? = some x := ⟨_, List.getElem?_eq_getElem (by have := HTOw.out.len; omega)⟩
        have hxn : x.tn ≤ 20 := by
          have h1 := (HTOw.out.toksO x (List.mem_of_getElem? hx)).1
          rw [List.length_map, Nat.mul_one] at h1
          rw [← h1]
          exact HOK2.out.tk x.abs (by rw [← HTOw.out.abs]; exact List.mem_map.2 ⟨x, List.mem_of_getElem? hx, rfl⟩)
        have HX := Lib.hid hx
        obtain ⟨wo, rfl⟩ : ∃ wo : World, wo = wr := ⟨_, rfl⟩
        clear hij hk hsh hx
        go_wp2_with fail
        go_loopg [18] x.tn (fun jj vk wr => ∃ k : Nat, k + jj = x.tn ∧ vk = .int .i64 k ∧ Kept (NumB w9 w5.heap.size w6.heap.size) w9 wr ∧ NumShape w9 wr)
        case atStart => exact ⟨0, by omega, rfl, HKi.out, HSH.out⟩
        case round =>
          obtain ⟨k, hkj, rfl, hk, hsh⟩ := hrel
          have HKJ := Lib.hid hkj
          have HKk := Lib.hid hk
          have HSHk := Lib.hid hsh
          have hrow : wr.ownsRow w5.heap.size 34 5 (.slice A5 n5 c5) n5 (T.flatMap hvC) := own_kept HTOw.out.row hk fun g' cs e _ h => by
            obtain ⟨_, _, cs', fz, h'⟩ := e
            rw [h] at h'
            injection h' with h'
            injection h' with _ h'
            exact absurd h' (by decide)
          obtain ⟨gh, caph, off, hv, -, -, -, hidx, -, -, -, y3, -⟩ := ownH_at hrow HX.out
          cases hv
          obtain ⟨hxl, hxo⟩ := HTOw.out.toksO x (List.mem_of_getElem? HX.out)
          obtain ⟨x1, x2, x3, x4, x5, x6, x7, x8⟩ := x
          simp only [] at y3 hxo hxn hkj
          by_cases hkn : k < x5
          · rcases hxo with ⟨-, h0⟩ | ⟨gt, capt, cur, hv, hb, hh, hnc, hm, hcs, -⟩
            · have h0' : x5 = 0 := h0
              omega
            cases hv
            have hidt : ∀ kd w', (Instr.indexAt 32 (.slice (some ⟨gt, 0, none⟩) x5 x6) (.int kd (k : Int))).run Try.prog w' = .ok (.pointer (some ⟨gt, k, none⟩)) w' := fun kd w' => by
              have hi2 : (k : Int) < (x5 : Int) := by omega
              simp [Instr.indexAt, asIntOf, run_underlying i64sT.ht, i64sT.run_size, hkn, Addr.add_lit]
            obtain ⟨cs', hh', hsz⟩ := hsh gt cur hh
            have hbw : Blk wr gt 2 cs' := hh'
            have hc := hbw.cell k
            have hf := hbw.frozen k
            have hks : k < cs'.size := by rw [hsz, hcs]; omega
            obtain ⟨u0, hu0⟩ : ∃ u0, cs'[k]? = some u0 := ⟨_, Array.getElem?_eq_getElem hks⟩
            rw [hu0] at hc
            have HF1 := Lib.hid (hsh.set_ gt k (.int .i64 99))
            have hgt : gt < w6.heap.size := own_lt (HTO6.out.toksO _ (List.mem_of_getElem? HX.out)) rfl
            have HF2 := Lib.hid (hk.setCell (p := ⟨gt, k, none⟩) (fun _ => ⟨hb, hgt, cur, (0, 0), hh⟩) (.int .i64 99))
            clear hkj hk hsh hrow hxl hb hh hnc hm hcs hh' hsz hbw hgt hks hu0
            go_wp2_with fail
            go_roundg (x5 - (k + 1))
            case measure => have := HKJ.out; omega
            case rel => exact ⟨k + 1, by have := HKJ.out; omega, by go_num, HF2.out, HF1.out⟩
          · clear hkj hk hsh hrow hxl hxo
            go_wp2_with fail
            go_roundg (n5 - (i + 1))
            case measure => have := HIJ.out; omega
            case rel => exact ⟨i + 1, by have := HIJ.out; omega, by go_num, HKk.out, HSHk.out⟩
      · have hTr := HT9.out.kept hk fun k h1 h2 => by
          have := HX8.out k h1
          have := h2.1
          have := h2.2.1
          omega
        have HKr := Lib.hid (HK9.out.trans hk fun k hlt e => by have := e.1; have := HLO.out; omega)
        have HTr := Lib.hid hTr
        clear hij hk hsh hTr
        go_wp2_with fail
        go_at_call 10
        refine (hRefresh_tab (l := []) HTr.out (Nat.le_trans HOK4.out.len (by decide)) (SlK.nil _ _ _) rfl (by decide) (fun x hx => absurd hx List.not_mem_nil)).mono ?_
        rintro e w12 ⟨A13, n13, c13, A14, n14, c14, rfl, hn13, hn14, -, -, hT12, hk12⟩
        rw [show ([] : List HV).map HV.abs = [] from rfl, ref_nil] at hn13 hn14 hT12
        rw [gone_all] at hn14
        have hn13' : n13 = 0 := hn13
        clear hn13
        subst hn13'
        have hn14' : n14 = n11 := hn14.trans HSN11.out
        clear hn14
        subst hn14'
        have HT12 := Lib.hid hT12
        have HK12 := Lib.hid (HKr.out.grew hk12 HO8.out)
        clear hT12 hk12
        go_wp2_with fail
        go_at_call 11
        refine (hAll_told HT12.out (by decide) (by decide)).mono ?_
        rintro e w15 ⟨A15, n15, c15, T15, rfl, hto, hk15⟩
        have hn15 : n15 = 0 := hto.slen.symm
        subst hn15
        have HK15 := Lib.hid (HK12.out.trans hk15 fun _ _ e => e)
        clear hto hk15
        go_wp2_with fail
        go_at_call 17
        refine (hofE_at _ _ _).mono ?_
        rintro e w16 ⟨rfl, rfl⟩
        go_wp2_with fail
        go_at_call 16
        refine (sameE_at _).mono ?_
        rintro e w17 ⟨rfl, rfl⟩
        go_wp2
        go_ret
        exact ⟨by simp, HK15.out⟩
end Go.Proofs.Ytjkmgpmknadhjaa

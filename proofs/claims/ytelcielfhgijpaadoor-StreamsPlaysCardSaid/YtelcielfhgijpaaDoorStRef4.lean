/- The reference of chapter 15, walked: Due. -/
import Derived.Test.YtelcielfhgijpaaDoorStRef3
import Derived.Test.YtelcielfhgijpaaDoorStIntAt
namespace Go.Proofs.YtelcielfhgijpaaDoor
set_option linter.unusedVariables false
open Go.RowKit

/-- Put into a row behind all that are no later. -/
def ins (out : List XO) (x : XO) : List XO := out.take (out.findIdx fun o => !decide (o.until_ ≤ x.until_)) ++ x :: out.drop (out.findIdx fun o => !decide (o.until_ ≤ x.until_))
def dueL (now : Int) (L : List XO) : List XO := (L.filter fun o => !o.orph && decide (o.until_ ≤ now)).foldl ins []
theorem dueL_snoc (now : Int) (L : List XO) (p : XO) : dueL now (L ++ [p]) = if p.orph = false ∧ p.until_ ≤ now then ins (dueL now L) p else dueL now L := by
  unfold dueL
  rw [List.filter_append, List.foldl_append]
  by_cases h : p.orph = false ∧ p.until_ ≤ now
  · rw [if_pos h]; simp [h.1, h.2]
  · rw [if_neg h]
    have : (!p.orph && decide (p.until_ ≤ now)) = false := by
      cases hp : p.orph
      · have : ¬ p.until_ ≤ now := fun e => h ⟨hp, e⟩
        simp [this]
      · simp
    simp [this]
theorem ins_length (out : List XO) (x : XO) : (ins out x).length = out.length + 1 := by
  have := List.findIdx_le_length (p := fun o : XO => !decide (o.until_ ≤ x.until_)) (xs := out)
  simp [ins]
  omega
theorem dueL_length (now : Int) (L : List XO) : (dueL now L).length ≤ L.length := by
  have h : ∀ (l out : List XO), (l.foldl ins out).length = out.length + l.length := by
    intro l
    induction l with
    | nil => intro out; rfl
    | cons a t ih => intro out; rw [List.foldl_cons, ih, ins_length]; simp; omega
  unfold dueL
  rw [h]
  have := List.length_filter_le (fun o : XO => !o.orph && decide (o.until_ ≤ now)) L
  simp only [List.length_nil]
  omega

set_option maxHeartbeats 4000000 in
set_option maxRecDepth 100000 in
theorem sDue_at {n now : Int} {v : Value} {L : List XO} {w : World} (h : OsAt w v L) (hl : L.length ≤ 100000) :
    Calls Tryd.prog 29 #[sVal n v, .int .u64 now] w fun e w' => ∃ A c, e = .returned (.slice A (dueL now L).length c) ∧ Sl w' 3 1 (.slice A (dueL now L).length c) (dueL now L).length ((dueL now L).map fun o => .int .i64 o.id) ∧ Kept noBlock w w' := by
  obtain ⟨A, c, rfl, -, -⟩ := SlK.shape h
  have hlen := SlK.run_len osT h
  have H := Lib.hid h
  have hk := (Kept.refl noBlock w).alloc (.cells #[.int .i64 n, .slice A L.length c] 43)
  have hb := Blk.new w 43 #[.int .i64 n, .slice A L.length c]
  have START := Lib.hid (show ∃ k : Nat, k + L.length = L.length ∧ (Value.int .i64 0) = .int .i64 k ∧ ∃ A1 c1, (Value.slice none 0 0) = .slice A1 (dueL now (L.take k)).length c1 ∧ Sl (w.alloc (.cells #[.int .i64 n, .slice A L.length c] 43)) 77 3 (.slice A1 (dueL now (L.take k)).length c1) (dueL now (L.take k)).length ((dueL now (L.take k)).flatMap oC) ∧ Blk (w.alloc (.cells #[.int .i64 n, .slice A L.length c] 43)) w.heap.size 43 #[.int .i64 n, .slice A L.length c] ∧ Kept noBlock w (w.alloc (.cells #[.int .i64 n, .slice A L.length c] 43)) from
    ⟨0, by omega, rfl, none, 0, rfl, Sl.nil _ _ _, hb, hk⟩)
  clear h hk hb
  go_enter Tryd.func29, Tryd.ntmps29
  go_wp2_with fail
  go_loopg [5, 6] L.length (fun j vo vi wr => ∃ k : Nat, k + j = L.length ∧ vi = .int .i64 k ∧ ∃ A1 c1, vo = .slice A1 (dueL now (L.take k)).length c1 ∧ Sl wr 77 3 (.slice A1 (dueL now (L.take k)).length c1) (dueL now (L.take k)).length ((dueL now (L.take k)).flatMap oC) ∧ Blk wr w.heap.size 43 #[.int .i64 n, .slice A L.length c] ∧ Kept noBlock w wr)
  case atStart => exact START.out
  case round =>
    obtain ⟨k, hkl, rfl, A1, c1, rfl, hout, hbx, hk⟩ := hrel
    clear START
    have HKL := Lib.hid hkl
    have HX := Lib.hid hbx
    have HK := Lib.hid hk
    have HOUT := Lib.hid hout
    have hol := dueL_length now (L.take k)
    rw [List.length_take] at hol
    obtain ⟨a0, a1, fx⟩ := sBlk_cells hbx
    have hszw := hk.size
    by_cases hlt : k < L.length
    · obtain ⟨p, hp⟩ : ∃ p, L[k]? = some p := ⟨_, List.getElem?_eq_getElem hlt⟩
      obtain ⟨g, off, hidx, hgl, hc0, hc1, hc2⟩ := o_at H.out hp
      have HC0 := Lib.hid (fun (w1 : World) (hk1 : Kept noBlock w w1) => ((hk1.cell (p := ⟨g, off, none⟩) hgl (fun h => h)).trans hc0))
      have HC1 := Lib.hid (fun (w1 : World) (hk1 : Kept noBlock w w1) => ((hk1.cell (p := ⟨g, off + 1, none⟩) hgl (fun h => h)).trans hc1))
      have HC2 := Lib.hid (fun (w1 : World) (hk1 : Kept noBlock w w1) => ((hk1.cell (p := ⟨g, off + 2, none⟩) hgl (fun h => h)).trans hc2))
      have q1 := HC1.out _ hk
      have q2 := HC2.out _ hk
      have hnew := dueL_snoc now (L.take k) p
      have htk : L.take (k + 1) = L.take k ++ [p] := by rw [List.take_add_one, hp]; rfl
      rw [← htk] at hnew
      clear hp hc0 hc1 hc2 hkl hbx hk htk hout
      generalize dueL now (L.take k) = out at *
      cases hpo : p.orph with
      | true =>
        rw [hpo] at q2
        rw [if_neg (by simp [hpo])] at hnew
        have HNEW := Lib.hid hnew
        clear hnew
        go_wp2
        go_roundg (L.length - (k + 1))
        case measure => have := HKL.out; omega
        case rel =>
          have hkl := HKL.out
          rw [← HNEW.out]
          exact ⟨k + 1, by omega, by go_num, _, _, rfl, by rw [HNEW.out]; exact HOUT.out, HX.out, HK.out⟩
      | false =>
        rw [hpo] at q2
        by_cases hun : p.until_ ≤ now
        · rw [if_pos ⟨hpo, hun⟩] at hnew
          have HNEW := Lib.hid hnew
          have hgt : ¬ now < p.until_ := by omega
          have htl := List.findIdx_le_length (p := fun o : XO => !decide (o.until_ ≤ p.until_)) (xs := out)
          have hbef : ∀ a, a < out.findIdx (fun o : XO => !decide (o.until_ ≤ p.until_)) → ∃ o, out[a]? = some o ∧ o.until_ ≤ p.until_ := fun a ha => by
            have h1 : a < out.length := by omega
            refine ⟨out[a], List.getElem?_eq_getElem h1, ?_⟩
            have := List.not_of_lt_findIdx ha
            simpa using this
          have hat : out.findIdx (fun o : XO => !decide (o.until_ ≤ p.until_)) < out.length → ∃ o, out[out.findIdx (fun o : XO => !decide (o.until_ ≤ p.until_))]? = some o ∧ ¬ o.until_ ≤ p.until_ := fun ha => by
            refine ⟨_, List.getElem?_eq_getElem ha, ?_⟩
            have := List.findIdx_getElem (w := ha)
            simpa using this
          generalize htd : out.findIdx (fun o : XO => !decide (o.until_ ≤ p.until_)) = t at *
          have HTD := Lib.hid htd
          have HBEF := Lib.hid hbef
          have HAT := Lib.hid hat
          have hlo := fun nn => SlK.run_len osT (SlK.drewN HOUT.out nn)
          obtain ⟨A2, c2, hto, hst⟩ := HOUT.out.run_to osT (i := (t : Int)) (k := t) rfl htl
          obtain ⟨A3, c3, hfrom, hsf⟩ := HOUT.out.run_from osT (i := (t : Int)) (k := t) rfl htl
          have e1 : (out.flatMap oC).take (t * 3) = (out.take t).flatMap oC := by
            conv => lhs; rw [← List.take_append_drop t out]
            rw [List.flatMap_append, List.take_left' (by rw [oC_len, List.length_take]; congr 1; omega)]
          have e2 : (out.flatMap oC).drop (t * 3) = (out.drop t).flatMap oC := by
            conv => lhs; rw [← List.take_append_drop t out]
            rw [List.flatMap_append, List.drop_left' (by rw [oC_len, List.length_take]; congr 1; omega)]
          rw [e1] at hst
          rw [e2] at hsf
          have HTO := Lib.hid hto
          have HFROM := Lib.hid hfrom
          have HST := Lib.hid hst
          have HSF := Lib.hid hsf
          clear hnew htd hbef hat hto hfrom hst hsf e1 e2
          go_wp2_with fail
          go_loopg [7] t (fun q va wx => ∃ a nn : Nat, a + q = t ∧ va = .int .i64 a ∧ wx = wr.drewN nn)
          case atStart => exact ⟨0, 0, by omega, rfl, rfl⟩
          case round =>
            obtain ⟨a, nn, haq, rfl, rfl⟩ := hrel
            have HAQ := Lib.hid haq
            clear haq
            by_cases hat : a < t
            · obtain ⟨o, ho, hou⟩ := HBEF.out a hat
              obtain ⟨go_, oo, hio, -, -, ho1, -⟩ := o_at HOUT.out ho
              clear ho
              have hlo2 := hlo nn
              have hal : a < out.length := by omega
              go_wp2
              go_quiet (fail)
              go_wp2
              go_roundg (t - (a + 1))
              case measure => have := HAQ.out; omega
              case rel => exact ⟨a + 1, nn + nq, by omega, by go_num, rfl⟩
            · obtain rfl : a = t := by have := HAQ.out; omega
              by_cases hend : a < out.length
              · obtain ⟨o, ho, hou⟩ := HAT.out hend
                obtain ⟨go_, oo, hio, -, -, ho1, -⟩ := o_at HOUT.out ho
                clear ho
                go_wp2
                go_quiet (fail)
                rw [World.drewN_drewN]
                have hto := HTO.out
                have hfrom := HFROM.out
                have hbx := HX.out.drewN (nn + nq)
                have hk0 := HK.out.drewN (nn + nq)
                have hs0 := SlK.drewN HST.out (nn + nq)
                have hsf0 := SlK.drewN HSF.out (nn + nq)
                generalize wr.drewN (nn + nq) = W at *
                obtain ⟨a0, a1, fx⟩ := sBlk_cells hbx
                have HX0 := Lib.hid hbx
                have HK0 := Lib.hid hk0
                have HS0 := Lib.hid (SlK.lo hs0)
                have HSF0 := Lib.hid (SlK.lo hsf0)
                have hsz := hk0.size
                clear hbx hk0 hs0 hsf0 HX HK HST HSF HOUT
                go_wp2_with (at_builtin; go_must (refine wpList_append_sl _ osT rfl (.tmp 54) (.tmp 57) rfl W.heap.size _ 0 [] rfl (World.ownsRow_nil _ _ _ _) _ a _ rfl HS0.out (fun u hu => oC_one hu) ?c1 ?c2 ?_))
                case c1 => omega
                case c2 => first | omega | (simp; omega)
                intro v1 w3 hap1
                have hbx := HX0.out.appended hap1 (World.ownsRow_nil _ _ _ _) (by decide)
                have hk1 := HK0.out.trans hap1.keptNil (fun _ _ h => h)
                have HF1 := Lib.hid (SlK.keptNone HSF0.out hap1.keptNil)
                have hown1 := hap1.own
                have hsz1 := hap1.keptNil.size
                clear a0 a1 fx
                obtain ⟨a0, a1, fx⟩ := sBlk_cells hbx
                have q0 := HC0.out _ hk1
                have q1 := HC1.out _ hk1
                have q2 := HC2.out _ hk1
                have HBX := Lib.hid hbx
                have HK1 := Lib.hid hk1
                have HO1 := Lib.hid hown1
                clear hbx hk1 hown1 hap1 hto
                go_wp2_with (at_builtin; go_must (refine wpList_append_sl _ osT rfl (.tmp 59) (.tmp 65) rfl W.heap.size _ a _ rfl (HO1.out.alloc _) _ 1 [.int .i64 p.id, .int .u64 p.until_, .bool false] rfl (Sl.made_at (Blk.new_at _ _ _ rfl) _ rfl rfl one_max) (by simp [Value.oneCell']) ?d1 ?d2 ?_))
                case d1 => omega
                case d2 => first | omega | (simp; omega)
                intro v2 w4 hap2
                have hbx := (HBX.out.alloc _).appended hap2 (HO1.out.alloc _) (by decide)
                have hf2 := SlK.appended (SlK.alloc HF1.out _) hap2 (HO1.out.alloc _) (Nat.le_refl _)
                have hk1 := hap2.below (HO1.out.alloc _) (HK1.out.alloc _) hsz
                have hown2 := hap2.own
                have hsz2 := (hap2.kept).size
                rw [sz_alloc] at hsz2
                clear a0 a1 fx q0 q1 q2
                obtain ⟨a0, a1, fx⟩ := sBlk_cells hbx
                have HBX2 := Lib.hid hbx
                have HK2 := Lib.hid hk1
                have HO2 := Lib.hid hown2
                have HF2 := Lib.hid hf2
                clear hbx hk1 hown2 hap2 hf2 HBX HK1 HO1
                go_wp2_with (at_builtin; go_must (refine wpList_append_sl _ osT rfl (.tmp 67) (.tmp 70) rfl W.heap.size _ (a + 1) _ rfl HO2.out _ (out.length - a) _ rfl HF2.out (fun u hu => oC_one hu) ?e1 ?e2 ?_))
                case e1 => omega
                case e2 => omega
                intro v3 w5 hap3
                have hbx := HBX2.out.appended hap3 HO2.out (by decide)
                have hk1 := hap3.below HO2.out HK2.out hsz
                have hl5 := Sl.of_own hap3.own
                obtain ⟨A5, c5, rfl, -, -⟩ := hl5.shape
                clear a0 a1 fx
                have HBX3 := Lib.hid hbx
                have HK3 := Lib.hid hk1
                have HL5 := Lib.hid hl5
                clear hbx hk1 hl5 hap3 HBX2 HK2 HO2
                go_wp2
                go_roundg (L.length - (k + 1))
                case measure => have := HKL.out; omega
                case rel =>
                  have hkl := HKL.out
                  have hnew := HNEW.out
                  have hl5 := HL5.out
                  have hlen5 : a + 1 + (out.length - a) = (dueL now (L.take (k + 1))).length := by rw [hnew, ins_length]; omega
                  rw [hlen5] at hl5 ⊢
                  refine ⟨k + 1, by omega, by go_num, _, _, rfl, ?_, HBX3.out, HK3.out⟩
                  rw [hnew] at hl5 ⊢
                  simpa [ins, HTD.out, List.flatMap_append, oC, hpo] using hl5
              · have hlo2 := hlo nn
                go_wp2
                go_quiet (fail)
                rw [World.drewN_drewN]
                have hto := HTO.out
                have hfrom := HFROM.out
                have hbx := HX.out.drewN (nn + nq)
                have hk0 := HK.out.drewN (nn + nq)
                have hs0 := SlK.drewN HST.out (nn + nq)
                have hsf0 := SlK.drewN HSF.out (nn + nq)
                generalize wr.drewN (nn + nq) = W at *
                obtain ⟨a0, a1, fx⟩ := sBlk_cells hbx
                have HX0 := Lib.hid hbx
                have HK0 := Lib.hid hk0
                have HS0 := Lib.hid (SlK.lo hs0)
                have HSF0 := Lib.hid (SlK.lo hsf0)
                have hsz := hk0.size
                clear hbx hk0 hs0 hsf0 HX HK HST HSF HOUT
                go_wp2_with (at_builtin; go_must (refine wpList_append_sl _ osT rfl (.tmp 54) (.tmp 57) rfl W.heap.size _ 0 [] rfl (World.ownsRow_nil _ _ _ _) _ a _ rfl HS0.out (fun u hu => oC_one hu) ?c1 ?c2 ?_))
                case c1 => omega
                case c2 => first | omega | (simp; omega)
                intro v1 w3 hap1
                have hbx := HX0.out.appended hap1 (World.ownsRow_nil _ _ _ _) (by decide)
                have hk1 := HK0.out.trans hap1.keptNil (fun _ _ h => h)
                have HF1 := Lib.hid (SlK.keptNone HSF0.out hap1.keptNil)
                have hown1 := hap1.own
                have hsz1 := hap1.keptNil.size
                clear a0 a1 fx
                obtain ⟨a0, a1, fx⟩ := sBlk_cells hbx
                have q0 := HC0.out _ hk1
                have q1 := HC1.out _ hk1
                have q2 := HC2.out _ hk1
                have HBX := Lib.hid hbx
                have HK1 := Lib.hid hk1
                have HO1 := Lib.hid hown1
                clear hbx hk1 hown1 hap1 hto
                go_wp2_with (at_builtin; go_must (refine wpList_append_sl _ osT rfl (.tmp 59) (.tmp 65) rfl W.heap.size _ a _ rfl (HO1.out.alloc _) _ 1 [.int .i64 p.id, .int .u64 p.until_, .bool false] rfl (Sl.made_at (Blk.new_at _ _ _ rfl) _ rfl rfl one_max) (by simp [Value.oneCell']) ?d1 ?d2 ?_))
                case d1 => omega
                case d2 => first | omega | (simp; omega)
                intro v2 w4 hap2
                have hbx := (HBX.out.alloc _).appended hap2 (HO1.out.alloc _) (by decide)
                have hf2 := SlK.appended (SlK.alloc HF1.out _) hap2 (HO1.out.alloc _) (Nat.le_refl _)
                have hk1 := hap2.below (HO1.out.alloc _) (HK1.out.alloc _) hsz
                have hown2 := hap2.own
                have hsz2 := (hap2.kept).size
                rw [sz_alloc] at hsz2
                clear a0 a1 fx q0 q1 q2
                obtain ⟨a0, a1, fx⟩ := sBlk_cells hbx
                have HBX2 := Lib.hid hbx
                have HK2 := Lib.hid hk1
                have HO2 := Lib.hid hown2
                have HF2 := Lib.hid hf2
                clear hbx hk1 hown2 hap2 hf2 HBX HK1 HO1
                go_wp2_with (at_builtin; go_must (refine wpList_append_sl _ osT rfl (.tmp 67) (.tmp 70) rfl W.heap.size _ (a + 1) _ rfl HO2.out _ (out.length - a) _ rfl HF2.out (fun u hu => oC_one hu) ?e1 ?e2 ?_))
                case e1 => omega
                case e2 => omega
                intro v3 w5 hap3
                have hbx := HBX2.out.appended hap3 HO2.out (by decide)
                have hk1 := hap3.below HO2.out HK2.out hsz
                have hl5 := Sl.of_own hap3.own
                obtain ⟨A5, c5, rfl, -, -⟩ := hl5.shape
                clear a0 a1 fx
                have HBX3 := Lib.hid hbx
                have HK3 := Lib.hid hk1
                have HL5 := Lib.hid hl5
                clear hbx hk1 hl5 hap3 HBX2 HK2 HO2
                go_wp2
                go_roundg (L.length - (k + 1))
                case measure => have := HKL.out; omega
                case rel =>
                  have hkl := HKL.out
                  have hnew := HNEW.out
                  have hl5 := HL5.out
                  have hlen5 : a + 1 + (out.length - a) = (dueL now (L.take (k + 1))).length := by rw [hnew, ins_length]; omega
                  rw [hlen5] at hl5 ⊢
                  refine ⟨k + 1, by omega, by go_num, _, _, rfl, ?_, HBX3.out, HK3.out⟩
                  rw [hnew] at hl5 ⊢
                  simpa [ins, HTD.out, List.flatMap_append, oC, hpo] using hl5
        · rw [if_neg (fun e => hun e.2)] at hnew
          have HNEW := Lib.hid hnew
          clear hnew
          go_wp2
          go_roundg (L.length - (k + 1))
          case measure => have := HKL.out; omega
          case rel =>
            have hkl := HKL.out
            rw [← HNEW.out]
            exact ⟨k + 1, by omega, by go_num, _, _, rfl, by rw [HNEW.out]; exact HOUT.out, HX.out, HK.out⟩
    · obtain rfl : k = L.length := by omega
      rw [List.take_length] at hout hol ⊢
      have HOUT := Lib.hid hout
      have hol2 : (dueL now L).length ≤ 100000 := by omega
      clear hkl hbx hk hout HX hol
      generalize hD : dueL now L = D at *
      have HD := Lib.hid hD
      clear hD
      have hlo := HOUT.out.run_len osT
      go_wp2_with fail
      obtain ⟨wz, hwz⟩ : ∃ wz, wz = wr := ⟨wr, rfl⟩
      subst hwz
      go_loopg [9, 10] D.length (fun j vo vi wx => ∃ k : Nat, k + j = D.length ∧ vi = .int .i64 k ∧ wx.ownsRow wz.heap.size 3 1 vo k ((D.take k).map fun o => .int .i64 o.id) ∧ Kept noBlock wz wx)
      case atStart => exact ⟨0, by omega, rfl, World.ownsRow_nil _ _ _ _, Kept.refl _ _⟩
      case round =>
        obtain ⟨k, hkd, rfl, hown, hkx⟩ := hrel
        have HKD := Lib.hid hkd
        have HO := Lib.hid hown
        have HKX := Lib.hid hkx
        have hszx := hkx.size
        clear hkd
        by_cases hk2 : k < D.length
        · obtain ⟨o, ho⟩ : ∃ o, D[k]? = some o := ⟨_, List.getElem?_eq_getElem hk2⟩
          obtain ⟨go_, oo, hio, -, ho0, -, -⟩ := o_at (SlK.keptNone HOUT.out hkx) ho
          have htk : (D.take (k + 1)).map (fun o => Value.int .i64 o.id) = (D.take k).map (fun o => Value.int .i64 o.id) ++ [.int .i64 o.id] := by rw [List.take_add_one, ho, List.map_append]; rfl
          have HTK := Lib.hid htk
          clear ho htk hown hkx
          go_wp2_with (at_builtin; go_must (refine wpList_append_sl _ intsT2 rfl (.tmp 78) (.tmp 84) rfl wz.heap.size _ k _ rfl (HO.out.alloc _) _ 1 [.int .i64 o.id] rfl (Sl.made_at (Blk.new_at _ _ _ rfl) _ rfl rfl one_max) (by simp [Value.oneCell']) ?f1 ?f2 ?_))
          case f1 => omega
          case f2 => first | omega | (simp; omega)
          intro v' w3 hap
          have hk3 := hap.below (HO.out.alloc _) (HKX.out.alloc _) (Nat.le_refl _)
          have HK3 := Lib.hid hk3
          have HO3 := Lib.hid hap.own
          clear hk3 hap
          go_wp2
          go_roundg (D.length - (k + 1))
          case measure => have := HKD.out; omega
          case rel =>
            have hkd := HKD.out
            refine ⟨k + 1, by omega, by go_num, ?_, HK3.out⟩
            rw [HTK.out]
            simpa [List.map_take] using HO3.out
        · obtain rfl : k = D.length := by have := HKD.out; omega
          rw [List.take_length] at hown
          have hs := Sl.of_own hown
          have hk4 := HK.out.trans hkx (fun _ _ h => h)
          obtain ⟨A7, c7, rfl, -, -⟩ := hs.shape
          have HS7 := Lib.hid hs
          have HK7 := Lib.hid hk4
          clear hown hkx hs hk4 HO
          go_wp2
          go_ret
          rw [HD.out]
          exact ⟨A7, c7, rfl, HS7.out, HK7.out⟩
end Go.Proofs.YtelcielfhgijpaaDoor

/- ControlUps: a host goes up and down by what is told of its address alone. -/
import Derived.Test.YtdcdefkloibfnaaGreatDoorCtUpsP
namespace Go.Proofs.YtdcdefkloibfnaaGreatDoor
set_option linter.unusedVariables false
open Go.RowKit

/-- What the loop has. -/
def UpInv (w : World) (own : Nat → Prop) (c g N j : Nat) (va vi : Value) (wr : World) : Prop :=
  ∃ (i : Nat) (up : Bool), i + j = N ∧ vi = .int .i64 i ∧ va = .bool up ∧ i ≤ 30 ∧ CtAt wr own c g ⟨#[100]⟩ 0 (upS2 up) 5 false 0 ∧ Kept noBlock w wr
set_option maxHeartbeats 16000000 in
set_option maxRecDepth 100000 in
theorem Ups_walk {w : World} {ok ok2 : Nat → TypeId → Prop} {A A2 : Option Addr} {N c0 M c2 : Nat} {l : List Bool} {o : List UInt8} (ha : SlK w ok 1 (.slice A N c0) N (l.map Value.bool)) (hb : SlK w ok2 1 (.slice A2 M c2) M (bsC o)) (hd : Doors w) :
    Calls Tryz.prog 7 #[.slice A N c0, .slice A2 M c2] w fun e w' => e = .returned (.bool true) ∧ Kept noBlock w w' := by
  have hll : l.length = N := by have := ha.len; rw [List.length_map] at this; omega
  have hlo : o.length = M := by have := hb.len; rw [bsC_len] at this; omega
  have hlen1 := ha.run_len boolsT
  have hlen2 := hb.run_len bytesT
  have HA := Lib.hid ha
  have HB := Lib.hid hb
  have HD := Lib.hid hd
  have HAW := Lib.hid (aw23_at w hd)
  clear ha hb hd
  go_enter Tryz.func7, Tryz.ntmps7
  go_wp2_with fail
  go_at_call 8
  refine HAW.out.mono ?_
  rintro e w1 ⟨rfl, hk1⟩
  have HK1 := Lib.hid hk1
  clear hk1 HAW
  go_wp2_with fail
  go_at_call 18
  refine (cNew_at _ _ _ _).mono ?_
  rintro e w2 ⟨c, g, own, rfl, hc, hcl, hol, hk⟩
  have HC2 := Lib.hid hc
  have HK2 := Lib.hid (HK1.out.trans hk fun _ _ e => e)
  have HLOW : Hid (∀ k, own k ∨ k = c → w.heap.size ≤ k) := Lib.hid fun k e => Nat.le_trans HK1.out.size (e.elim (hol k) fun e => e ▸ hcl)
  clear hc hcl hol hk HK1
  go_wp2_with fail
  go_at_call 22
  have hT0 := upT_at w2
  have hk0 : Kept noBlock w2 (upW w2) := ((((((Kept.refl noBlock w2).alloc _).alloc _).alloc _).alloc _).alloc _).alloc _
  have hk3 := hk0.alloc (.cells #[.int .i64 1, .slice (adr w2.heap.size) 1 1, .bool false, .int .i64 0, .slice none 0 0, .slice (adr (w2.heap.size + 1 + 1 + 1 + 1 + 1)) 2 2] 28)
  have hT3 := hT0.keptN ((Kept.refl noBlock (upW w2)).alloc (.cells #[.int .i64 1, .slice (adr w2.heap.size) 1 1, .bool false, .int .i64 0, .slice none 0 0, .slice (adr (w2.heap.size + 1 + 1 + 1 + 1 + 1)) 2 2] 28))
  refine (cRefresh_at (HC2.out.keptN hk3) (by decide) (noT_at _ 0) noT_ok hT3 (upT_ok w2.heap.size) (show 0 ≤ 50000 by decide) (show 2 ≤ 50000 by decide) ((HD.out.keptN HK2.out).keptN hk3)).mono ?_
  rw [up_both]
  intro e w4 hp4
  obtain ⟨own2, A4, c4, A5, c5, rfl, hc4, ho4, hk4⟩ := up_refpost hp4
  have HC4 := Lib.hid hc4
  have HK4 := Lib.hid ((HK2.out.trans hk3 fun _ _ e => e).grew hk4 fun k e => HLOW.out k (.inl e))
  have HLOW4 : Hid (∀ k, own2 k ∨ k = c → w.heap.size ≤ k) := Lib.hid fun k e => e.elim (fun e => (ho4 k e).elim (fun e => HLOW.out k (.inl e)) fun e => Nat.le_trans (HK2.out.trans hk3 fun _ _ e => e).size e) fun e => HLOW.out k (.inr e)
  clear hp4 hc4 ho4 hk4 hT0 hk0 hk3 hT3 HC2 HK2 HLOW
  go_wp2_with fail
  go_loopg [11, 12] N (fun j va vi wr => UpInv w own2 c g N j va vi wr)
  case atStart => exact ⟨0, true, by omega, rfl, rfl, by omega, HC4.out, HK4.out⟩
  case round =>
    obtain ⟨i, up, hij, rfl, rfl, hi30, hc, hk⟩ := hrel
    have HIJ := Lib.hid hij
    have HC := Lib.hid hc
    have HK := Lib.hid hk
    clear hij hc hk HC4 HK4
    by_cases hlt : i < N
    · by_cases h30 : i < 30
      · obtain ⟨u, hu⟩ : ∃ u, l[i]? = some u := ⟨_, List.getElem?_eq_getElem (by omega)⟩
        have HU := Lib.hid hu
        obtain ⟨gx, ox, hidx, hgl, hc0⟩ := bool_at (SlK.keptNone HA.out HK.out) hu
        clear hu
        cases up with
        | true =>
          cases u with
          | true =>
            go_wp2_with fail
            go_at_call 23
            have hk5 : Kept noBlock wr (wr.alloc (.cells #[.int .u8 10, .int .u8 0, .int .u8 0, .int .u8 1] 5)) := (Kept.refl noBlock wr).alloc _
            have hs5 : Sl (wr.alloc (.cells #[.int .u8 10, .int .u8 0, .int .u8 0, .int .u8 1] 5)) 5 1 (.slice (adr wr.heap.size) 4 4) 4 (bsC [10, 0, 0, 1]) := Sl.made_at (n := 4) (Blk.new wr 5 _) _ rfl rfl (by decide)
            refine (cNote_at (HC.out.keptN hk5) (by decide) (nUD wr.heap.size cUp) hs5 ((HD.out.keptN HK.out).keptN hk5) 0 (by decide)).mono ?_
            rw [up_note_tt]
            rintro e w5 ⟨rfl, hc5, hk6⟩
            have HC5 := Lib.hid hc5
            have HK5 := Lib.hid ((HK.out.trans hk5 fun _ _ e => e).grew hk6 HLOW4.out)
            clear hidx hgl hc0
            obtain ⟨gx, ox, hidx, hgl, hc0⟩ := bool_at (SlK.keptNone HA.out HK5.out) HU.out
            clear hk5 hs5 hc5 hk6 HC HK
            by_cases hm : i < M
            · obtain ⟨x, hx⟩ : ∃ x, o[i]? = some x := ⟨_, List.getElem?_eq_getElem (by omega)⟩
              obtain ⟨gy, oy, hidy, hgy, hy0⟩ := byte_at (SlK.keptNone HB.out HK5.out) hx
              clear hx
              by_cases hx1 : x = 1
              · subst hx1
                have hy0' : w5.cell? ⟨gy, oy, none⟩ = some (.int .u8 1) := hy0
                clear hy0
                go_wp2_with fail
                go_at_call 20
                refine (cTable_at HC5.out).mono ?_
                rintro e w8 ⟨rfl, hw8⟩
                subst hw8
                go_wp2_with fail
                go_at_call 21
                refine (hAll_told HC5.out.tab (by decide) (up_toks _)).mono ?_
                rintro e w9 ⟨A9, n9, c9, T, rfl, hto, hk9⟩
                have HK9 := Lib.hid (HK5.out.trans hk9 fun _ _ e => e)
                have HC9 := Lib.hid (HC5.out.keptN hk9)
                obtain ⟨rfl, g0, o0, g1, o1, hx0, hx1, hu0, hu1⟩ := up_told hto
                have hl9 := (Sl.of_own hto.row).run_len hostsT
                have FIN : Hid (UpInv w own2 c g N (N - (i + 1)) (.bool true) (.int .i64 ((i + 1 : Nat) : Int)) w9) := Lib.hid ⟨i + 1, true, by have := HIJ.out; omega, rfl, rfl, by omega, HC9.out, HK9.out⟩
                clear hto hk9 HC9 HK9
                go_wp2_with fail
                go_roundg (N - (i + 1))
                case measure => have := HIJ.out; omega
                case rel => exact FIN.out
              · by_cases hx2 : x = 2
                · subst hx2
                  have hy0' : w5.cell? ⟨gy, oy, none⟩ = some (.int .u8 2) := hy0
                  clear hy0
                  go_wp2_with fail
                  go_at_call 20
                  refine (cTable_at HC5.out).mono ?_
                  rintro e w8 ⟨rfl, hw8⟩
                  subst hw8
                  go_wp2_with fail
                  go_at_call 21
                  refine (hAll_told HC5.out.tab (by decide) (up_toks _)).mono ?_
                  rintro e w9 ⟨A9, n9, c9, T, rfl, hto, hk9⟩
                  have HK9 := Lib.hid (HK5.out.trans hk9 fun _ _ e => e)
                  have HC9 := Lib.hid (HC5.out.keptN hk9)
                  obtain ⟨rfl, g0, o0, g1, o1, hx0, hx1, hu0, hu1⟩ := up_told hto
                  have hl9 := (Sl.of_own hto.row).run_len hostsT
                  have FIN : Hid (UpInv w own2 c g N (N - (i + 1)) (.bool true) (.int .i64 ((i + 1 : Nat) : Int)) w9) := Lib.hid ⟨i + 1, true, by have := HIJ.out; omega, rfl, rfl, by omega, HC9.out, HK9.out⟩
                  clear hto hk9 HC9 HK9
                  go_wp2_with fail
                  go_roundg (N - (i + 1))
                  case measure => have := HIJ.out; omega
                  case rel => exact FIN.out
                · have hn1 : ((x.toNat : Int) == 1) = false := by rw [beq_eq_false_iff_ne]; intro e; exact hx1 (UInt8.toNat_inj.1 (show x.toNat = 1 by omega))
                  have hn2 : ((x.toNat : Int) == 2) = false := by rw [beq_eq_false_iff_ne]; intro e; exact hx2 (UInt8.toNat_inj.1 (show x.toNat = 2 by omega))
                  have HOD := Lib.hid (fun g => up_note_odd g x true hx1 hx2)
                  have HBT := Lib.hid (up_row w5 x)
                  have hn3 : ((x.toNat : Int) != 1) = true := by rw [bne, hn1]; rfl
                  have hn4 : ((x.toNat : Int) != 2) = true := by rw [bne, hn2]; rfl
                  have hn5 : ¬ ((x.toNat : Int) = 1) := by intro e; rw [e] at hn1; cases hn1
                  have hn6 : ¬ ((x.toNat : Int) = 2) := by intro e; rw [e] at hn2; cases hn2
                  clear hx1 hx2
                  generalize hxi : (x.toNat : Int) = xi at *
                  go_wp2_with fail
                  go_at_call 23
                  have hk7 : Kept noBlock w5 (w5.alloc (.cells #[.int .u8 10, .int .u8 0, .int .u8 0, .int .u8 xi] 5)) := (Kept.refl noBlock w5).alloc _
                  refine (cNote_at (HC5.out.keptN hk7) (by decide) (nOdd w5.heap.size x) (HBT.out xi rfl) ((HD.out.keptN HK5.out).keptN hk7) 0 (by decide)).mono ?_
                  rw [HOD.out]
                  rintro e w7 ⟨rfl, hc7, hk8⟩
                  have HC7 := Lib.hid hc7
                  have HK7 := Lib.hid ((HK5.out.trans hk7 fun _ _ e => e).grew hk8 HLOW4.out)
                  clear hk7 hc7 hk8 HC5 HK5
                  go_wp2_with fail
                  go_at_call 20
                  refine (cTable_at HC7.out).mono ?_
                  rintro e w8 ⟨rfl, hw8⟩
                  subst hw8
                  go_wp2_with fail
                  go_at_call 21
                  refine (hAll_told HC7.out.tab (by decide) (up_toks _)).mono ?_
                  rintro e w9 ⟨A9, n9, c9, T, rfl, hto, hk9⟩
                  have HK9 := Lib.hid (HK7.out.trans hk9 fun _ _ e => e)
                  have HC9 := Lib.hid (HC7.out.keptN hk9)
                  obtain ⟨rfl, g0, o0, g1, o1, hx0, hx1, hu0, hu1⟩ := up_told hto
                  have hl9 := (Sl.of_own hto.row).run_len hostsT
                  have FIN : Hid (UpInv w own2 c g N (N - (i + 1)) (.bool true) (.int .i64 ((i + 1 : Nat) : Int)) w9) := Lib.hid ⟨i + 1, true, by have := HIJ.out; omega, rfl, rfl, by omega, HC9.out, HK9.out⟩
                  clear hto hk9 HC9 HK9
                  go_wp2_with fail
                  go_roundg (N - (i + 1))
                  case measure => have := HIJ.out; omega
                  case rel => exact FIN.out
            · skip
              go_wp2_with fail
              go_at_call 20
              refine (cTable_at HC5.out).mono ?_
              rintro e w8 ⟨rfl, hw8⟩
              subst hw8
              go_wp2_with fail
              go_at_call 21
              refine (hAll_told HC5.out.tab (by decide) (up_toks _)).mono ?_
              rintro e w9 ⟨A9, n9, c9, T, rfl, hto, hk9⟩
              have HK9 := Lib.hid (HK5.out.trans hk9 fun _ _ e => e)
              have HC9 := Lib.hid (HC5.out.keptN hk9)
              obtain ⟨rfl, g0, o0, g1, o1, hx0, hx1, hu0, hu1⟩ := up_told hto
              have hl9 := (Sl.of_own hto.row).run_len hostsT
              have FIN : Hid (UpInv w own2 c g N (N - (i + 1)) (.bool true) (.int .i64 ((i + 1 : Nat) : Int)) w9) := Lib.hid ⟨i + 1, true, by have := HIJ.out; omega, rfl, rfl, by omega, HC9.out, HK9.out⟩
              clear hto hk9 HC9 HK9
              go_wp2_with fail
              go_roundg (N - (i + 1))
              case measure => have := HIJ.out; omega
              case rel => exact FIN.out
          | false =>
            go_wp2_with fail
            go_at_call 23
            have hk5 : Kept noBlock wr (wr.alloc (.cells #[.int .u8 10, .int .u8 0, .int .u8 0, .int .u8 1] 5)) := (Kept.refl noBlock wr).alloc _
            have hs5 : Sl (wr.alloc (.cells #[.int .u8 10, .int .u8 0, .int .u8 0, .int .u8 1] 5)) 5 1 (.slice (adr wr.heap.size) 4 4) 4 (bsC [10, 0, 0, 1]) := Sl.made_at (n := 4) (Blk.new wr 5 _) _ rfl rfl (by decide)
            refine (cNote_at (HC.out.keptN hk5) (by decide) (nUD wr.heap.size cDown) hs5 ((HD.out.keptN HK.out).keptN hk5) 0 (by decide)).mono ?_
            rw [up_note_tf]
            rintro e w5 ⟨rfl, hc5, hk6⟩
            have HC5 := Lib.hid hc5
            have HK5 := Lib.hid ((HK.out.trans hk5 fun _ _ e => e).grew hk6 HLOW4.out)
            clear hidx hgl hc0
            obtain ⟨gx, ox, hidx, hgl, hc0⟩ := bool_at (SlK.keptNone HA.out HK5.out) HU.out
            clear hk5 hs5 hc5 hk6 HC HK
            by_cases hm : i < M
            · obtain ⟨x, hx⟩ : ∃ x, o[i]? = some x := ⟨_, List.getElem?_eq_getElem (by omega)⟩
              obtain ⟨gy, oy, hidy, hgy, hy0⟩ := byte_at (SlK.keptNone HB.out HK5.out) hx
              clear hx
              by_cases hx1 : x = 1
              · subst hx1
                have hy0' : w5.cell? ⟨gy, oy, none⟩ = some (.int .u8 1) := hy0
                clear hy0
                go_wp2_with fail
                go_at_call 20
                refine (cTable_at HC5.out).mono ?_
                rintro e w8 ⟨rfl, hw8⟩
                subst hw8
                go_wp2_with fail
                go_at_call 21
                refine (hAll_told HC5.out.tab (by decide) (up_toks _)).mono ?_
                rintro e w9 ⟨A9, n9, c9, T, rfl, hto, hk9⟩
                have HK9 := Lib.hid (HK5.out.trans hk9 fun _ _ e => e)
                have HC9 := Lib.hid (HC5.out.keptN hk9)
                obtain ⟨rfl, g0, o0, g1, o1, hx0, hx1, hu0, hu1⟩ := up_told hto
                have hl9 := (Sl.of_own hto.row).run_len hostsT
                have FIN : Hid (UpInv w own2 c g N (N - (i + 1)) (.bool false) (.int .i64 ((i + 1 : Nat) : Int)) w9) := Lib.hid ⟨i + 1, false, by have := HIJ.out; omega, rfl, rfl, by omega, HC9.out, HK9.out⟩
                clear hto hk9 HC9 HK9
                go_wp2_with fail
                go_roundg (N - (i + 1))
                case measure => have := HIJ.out; omega
                case rel => exact FIN.out
              · by_cases hx2 : x = 2
                · subst hx2
                  have hy0' : w5.cell? ⟨gy, oy, none⟩ = some (.int .u8 2) := hy0
                  clear hy0
                  go_wp2_with fail
                  go_at_call 20
                  refine (cTable_at HC5.out).mono ?_
                  rintro e w8 ⟨rfl, hw8⟩
                  subst hw8
                  go_wp2_with fail
                  go_at_call 21
                  refine (hAll_told HC5.out.tab (by decide) (up_toks _)).mono ?_
                  rintro e w9 ⟨A9, n9, c9, T, rfl, hto, hk9⟩
                  have HK9 := Lib.hid (HK5.out.trans hk9 fun _ _ e => e)
                  have HC9 := Lib.hid (HC5.out.keptN hk9)
                  obtain ⟨rfl, g0, o0, g1, o1, hx0, hx1, hu0, hu1⟩ := up_told hto
                  have hl9 := (Sl.of_own hto.row).run_len hostsT
                  have FIN : Hid (UpInv w own2 c g N (N - (i + 1)) (.bool false) (.int .i64 ((i + 1 : Nat) : Int)) w9) := Lib.hid ⟨i + 1, false, by have := HIJ.out; omega, rfl, rfl, by omega, HC9.out, HK9.out⟩
                  clear hto hk9 HC9 HK9
                  go_wp2_with fail
                  go_roundg (N - (i + 1))
                  case measure => have := HIJ.out; omega
                  case rel => exact FIN.out
                · have hn1 : ((x.toNat : Int) == 1) = false := by rw [beq_eq_false_iff_ne]; intro e; exact hx1 (UInt8.toNat_inj.1 (show x.toNat = 1 by omega))
                  have hn2 : ((x.toNat : Int) == 2) = false := by rw [beq_eq_false_iff_ne]; intro e; exact hx2 (UInt8.toNat_inj.1 (show x.toNat = 2 by omega))
                  have HOD := Lib.hid (fun g => up_note_odd g x false hx1 hx2)
                  have HBT := Lib.hid (up_row w5 x)
                  have hn3 : ((x.toNat : Int) != 1) = true := by rw [bne, hn1]; rfl
                  have hn4 : ((x.toNat : Int) != 2) = true := by rw [bne, hn2]; rfl
                  have hn5 : ¬ ((x.toNat : Int) = 1) := by intro e; rw [e] at hn1; cases hn1
                  have hn6 : ¬ ((x.toNat : Int) = 2) := by intro e; rw [e] at hn2; cases hn2
                  clear hx1 hx2
                  generalize hxi : (x.toNat : Int) = xi at *
                  go_wp2_with fail
                  go_at_call 23
                  have hk7 : Kept noBlock w5 (w5.alloc (.cells #[.int .u8 10, .int .u8 0, .int .u8 0, .int .u8 xi] 5)) := (Kept.refl noBlock w5).alloc _
                  refine (cNote_at (HC5.out.keptN hk7) (by decide) (nOdd w5.heap.size x) (HBT.out xi rfl) ((HD.out.keptN HK5.out).keptN hk7) 0 (by decide)).mono ?_
                  rw [HOD.out]
                  rintro e w7 ⟨rfl, hc7, hk8⟩
                  have HC7 := Lib.hid hc7
                  have HK7 := Lib.hid ((HK5.out.trans hk7 fun _ _ e => e).grew hk8 HLOW4.out)
                  clear hk7 hc7 hk8 HC5 HK5
                  go_wp2_with fail
                  go_at_call 20
                  refine (cTable_at HC7.out).mono ?_
                  rintro e w8 ⟨rfl, hw8⟩
                  subst hw8
                  go_wp2_with fail
                  go_at_call 21
                  refine (hAll_told HC7.out.tab (by decide) (up_toks _)).mono ?_
                  rintro e w9 ⟨A9, n9, c9, T, rfl, hto, hk9⟩
                  have HK9 := Lib.hid (HK7.out.trans hk9 fun _ _ e => e)
                  have HC9 := Lib.hid (HC7.out.keptN hk9)
                  obtain ⟨rfl, g0, o0, g1, o1, hx0, hx1, hu0, hu1⟩ := up_told hto
                  have hl9 := (Sl.of_own hto.row).run_len hostsT
                  have FIN : Hid (UpInv w own2 c g N (N - (i + 1)) (.bool false) (.int .i64 ((i + 1 : Nat) : Int)) w9) := Lib.hid ⟨i + 1, false, by have := HIJ.out; omega, rfl, rfl, by omega, HC9.out, HK9.out⟩
                  clear hto hk9 HC9 HK9
                  go_wp2_with fail
                  go_roundg (N - (i + 1))
                  case measure => have := HIJ.out; omega
                  case rel => exact FIN.out
            · skip
              go_wp2_with fail
              go_at_call 20
              refine (cTable_at HC5.out).mono ?_
              rintro e w8 ⟨rfl, hw8⟩
              subst hw8
              go_wp2_with fail
              go_at_call 21
              refine (hAll_told HC5.out.tab (by decide) (up_toks _)).mono ?_
              rintro e w9 ⟨A9, n9, c9, T, rfl, hto, hk9⟩
              have HK9 := Lib.hid (HK5.out.trans hk9 fun _ _ e => e)
              have HC9 := Lib.hid (HC5.out.keptN hk9)
              obtain ⟨rfl, g0, o0, g1, o1, hx0, hx1, hu0, hu1⟩ := up_told hto
              have hl9 := (Sl.of_own hto.row).run_len hostsT
              have FIN : Hid (UpInv w own2 c g N (N - (i + 1)) (.bool false) (.int .i64 ((i + 1 : Nat) : Int)) w9) := Lib.hid ⟨i + 1, false, by have := HIJ.out; omega, rfl, rfl, by omega, HC9.out, HK9.out⟩
              clear hto hk9 HC9 HK9
              go_wp2_with fail
              go_roundg (N - (i + 1))
              case measure => have := HIJ.out; omega
              case rel => exact FIN.out
        | false =>
          cases u with
          | true =>
            go_wp2_with fail
            go_at_call 23
            have hk5 : Kept noBlock wr (wr.alloc (.cells #[.int .u8 10, .int .u8 0, .int .u8 0, .int .u8 1] 5)) := (Kept.refl noBlock wr).alloc _
            have hs5 : Sl (wr.alloc (.cells #[.int .u8 10, .int .u8 0, .int .u8 0, .int .u8 1] 5)) 5 1 (.slice (adr wr.heap.size) 4 4) 4 (bsC [10, 0, 0, 1]) := Sl.made_at (n := 4) (Blk.new wr 5 _) _ rfl rfl (by decide)
            refine (cNote_at (HC.out.keptN hk5) (by decide) (nUD wr.heap.size cUp) hs5 ((HD.out.keptN HK.out).keptN hk5) 0 (by decide)).mono ?_
            rw [up_note_ft]
            rintro e w5 ⟨rfl, hc5, hk6⟩
            have HC5 := Lib.hid hc5
            have HK5 := Lib.hid ((HK.out.trans hk5 fun _ _ e => e).grew hk6 HLOW4.out)
            clear hidx hgl hc0
            obtain ⟨gx, ox, hidx, hgl, hc0⟩ := bool_at (SlK.keptNone HA.out HK5.out) HU.out
            clear hk5 hs5 hc5 hk6 HC HK
            by_cases hm : i < M
            · obtain ⟨x, hx⟩ : ∃ x, o[i]? = some x := ⟨_, List.getElem?_eq_getElem (by omega)⟩
              obtain ⟨gy, oy, hidy, hgy, hy0⟩ := byte_at (SlK.keptNone HB.out HK5.out) hx
              clear hx
              by_cases hx1 : x = 1
              · subst hx1
                have hy0' : w5.cell? ⟨gy, oy, none⟩ = some (.int .u8 1) := hy0
                clear hy0
                go_wp2_with fail
                go_at_call 20
                refine (cTable_at HC5.out).mono ?_
                rintro e w8 ⟨rfl, hw8⟩
                subst hw8
                go_wp2_with fail
                go_at_call 21
                refine (hAll_told HC5.out.tab (by decide) (up_toks _)).mono ?_
                rintro e w9 ⟨A9, n9, c9, T, rfl, hto, hk9⟩
                have HK9 := Lib.hid (HK5.out.trans hk9 fun _ _ e => e)
                have HC9 := Lib.hid (HC5.out.keptN hk9)
                obtain ⟨rfl, g0, o0, g1, o1, hx0, hx1, hu0, hu1⟩ := up_told hto
                have hl9 := (Sl.of_own hto.row).run_len hostsT
                have FIN : Hid (UpInv w own2 c g N (N - (i + 1)) (.bool true) (.int .i64 ((i + 1 : Nat) : Int)) w9) := Lib.hid ⟨i + 1, true, by have := HIJ.out; omega, rfl, rfl, by omega, HC9.out, HK9.out⟩
                clear hto hk9 HC9 HK9
                go_wp2_with fail
                go_roundg (N - (i + 1))
                case measure => have := HIJ.out; omega
                case rel => exact FIN.out
              · by_cases hx2 : x = 2
                · subst hx2
                  have hy0' : w5.cell? ⟨gy, oy, none⟩ = some (.int .u8 2) := hy0
                  clear hy0
                  go_wp2_with fail
                  go_at_call 20
                  refine (cTable_at HC5.out).mono ?_
                  rintro e w8 ⟨rfl, hw8⟩
                  subst hw8
                  go_wp2_with fail
                  go_at_call 21
                  refine (hAll_told HC5.out.tab (by decide) (up_toks _)).mono ?_
                  rintro e w9 ⟨A9, n9, c9, T, rfl, hto, hk9⟩
                  have HK9 := Lib.hid (HK5.out.trans hk9 fun _ _ e => e)
                  have HC9 := Lib.hid (HC5.out.keptN hk9)
                  obtain ⟨rfl, g0, o0, g1, o1, hx0, hx1, hu0, hu1⟩ := up_told hto
                  have hl9 := (Sl.of_own hto.row).run_len hostsT
                  have FIN : Hid (UpInv w own2 c g N (N - (i + 1)) (.bool true) (.int .i64 ((i + 1 : Nat) : Int)) w9) := Lib.hid ⟨i + 1, true, by have := HIJ.out; omega, rfl, rfl, by omega, HC9.out, HK9.out⟩
                  clear hto hk9 HC9 HK9
                  go_wp2_with fail
                  go_roundg (N - (i + 1))
                  case measure => have := HIJ.out; omega
                  case rel => exact FIN.out
                · have hn1 : ((x.toNat : Int) == 1) = false := by rw [beq_eq_false_iff_ne]; intro e; exact hx1 (UInt8.toNat_inj.1 (show x.toNat = 1 by omega))
                  have hn2 : ((x.toNat : Int) == 2) = false := by rw [beq_eq_false_iff_ne]; intro e; exact hx2 (UInt8.toNat_inj.1 (show x.toNat = 2 by omega))
                  have HOD := Lib.hid (fun g => up_note_odd g x true hx1 hx2)
                  have HBT := Lib.hid (up_row w5 x)
                  have hn3 : ((x.toNat : Int) != 1) = true := by rw [bne, hn1]; rfl
                  have hn4 : ((x.toNat : Int) != 2) = true := by rw [bne, hn2]; rfl
                  have hn5 : ¬ ((x.toNat : Int) = 1) := by intro e; rw [e] at hn1; cases hn1
                  have hn6 : ¬ ((x.toNat : Int) = 2) := by intro e; rw [e] at hn2; cases hn2
                  clear hx1 hx2
                  generalize hxi : (x.toNat : Int) = xi at *
                  go_wp2_with fail
                  go_at_call 23
                  have hk7 : Kept noBlock w5 (w5.alloc (.cells #[.int .u8 10, .int .u8 0, .int .u8 0, .int .u8 xi] 5)) := (Kept.refl noBlock w5).alloc _
                  refine (cNote_at (HC5.out.keptN hk7) (by decide) (nOdd w5.heap.size x) (HBT.out xi rfl) ((HD.out.keptN HK5.out).keptN hk7) 0 (by decide)).mono ?_
                  rw [HOD.out]
                  rintro e w7 ⟨rfl, hc7, hk8⟩
                  have HC7 := Lib.hid hc7
                  have HK7 := Lib.hid ((HK5.out.trans hk7 fun _ _ e => e).grew hk8 HLOW4.out)
                  clear hk7 hc7 hk8 HC5 HK5
                  go_wp2_with fail
                  go_at_call 20
                  refine (cTable_at HC7.out).mono ?_
                  rintro e w8 ⟨rfl, hw8⟩
                  subst hw8
                  go_wp2_with fail
                  go_at_call 21
                  refine (hAll_told HC7.out.tab (by decide) (up_toks _)).mono ?_
                  rintro e w9 ⟨A9, n9, c9, T, rfl, hto, hk9⟩
                  have HK9 := Lib.hid (HK7.out.trans hk9 fun _ _ e => e)
                  have HC9 := Lib.hid (HC7.out.keptN hk9)
                  obtain ⟨rfl, g0, o0, g1, o1, hx0, hx1, hu0, hu1⟩ := up_told hto
                  have hl9 := (Sl.of_own hto.row).run_len hostsT
                  have FIN : Hid (UpInv w own2 c g N (N - (i + 1)) (.bool true) (.int .i64 ((i + 1 : Nat) : Int)) w9) := Lib.hid ⟨i + 1, true, by have := HIJ.out; omega, rfl, rfl, by omega, HC9.out, HK9.out⟩
                  clear hto hk9 HC9 HK9
                  go_wp2_with fail
                  go_roundg (N - (i + 1))
                  case measure => have := HIJ.out; omega
                  case rel => exact FIN.out
            · skip
              go_wp2_with fail
              go_at_call 20
              refine (cTable_at HC5.out).mono ?_
              rintro e w8 ⟨rfl, hw8⟩
              subst hw8
              go_wp2_with fail
              go_at_call 21
              refine (hAll_told HC5.out.tab (by decide) (up_toks _)).mono ?_
              rintro e w9 ⟨A9, n9, c9, T, rfl, hto, hk9⟩
              have HK9 := Lib.hid (HK5.out.trans hk9 fun _ _ e => e)
              have HC9 := Lib.hid (HC5.out.keptN hk9)
              obtain ⟨rfl, g0, o0, g1, o1, hx0, hx1, hu0, hu1⟩ := up_told hto
              have hl9 := (Sl.of_own hto.row).run_len hostsT
              have FIN : Hid (UpInv w own2 c g N (N - (i + 1)) (.bool true) (.int .i64 ((i + 1 : Nat) : Int)) w9) := Lib.hid ⟨i + 1, true, by have := HIJ.out; omega, rfl, rfl, by omega, HC9.out, HK9.out⟩
              clear hto hk9 HC9 HK9
              go_wp2_with fail
              go_roundg (N - (i + 1))
              case measure => have := HIJ.out; omega
              case rel => exact FIN.out
          | false =>
            go_wp2_with fail
            go_at_call 23
            have hk5 : Kept noBlock wr (wr.alloc (.cells #[.int .u8 10, .int .u8 0, .int .u8 0, .int .u8 1] 5)) := (Kept.refl noBlock wr).alloc _
            have hs5 : Sl (wr.alloc (.cells #[.int .u8 10, .int .u8 0, .int .u8 0, .int .u8 1] 5)) 5 1 (.slice (adr wr.heap.size) 4 4) 4 (bsC [10, 0, 0, 1]) := Sl.made_at (n := 4) (Blk.new wr 5 _) _ rfl rfl (by decide)
            refine (cNote_at (HC.out.keptN hk5) (by decide) (nUD wr.heap.size cDown) hs5 ((HD.out.keptN HK.out).keptN hk5) 0 (by decide)).mono ?_
            rw [up_note_ff]
            rintro e w5 ⟨rfl, hc5, hk6⟩
            have HC5 := Lib.hid hc5
            have HK5 := Lib.hid ((HK.out.trans hk5 fun _ _ e => e).grew hk6 HLOW4.out)
            clear hidx hgl hc0
            obtain ⟨gx, ox, hidx, hgl, hc0⟩ := bool_at (SlK.keptNone HA.out HK5.out) HU.out
            clear hk5 hs5 hc5 hk6 HC HK
            by_cases hm : i < M
            · obtain ⟨x, hx⟩ : ∃ x, o[i]? = some x := ⟨_, List.getElem?_eq_getElem (by omega)⟩
              obtain ⟨gy, oy, hidy, hgy, hy0⟩ := byte_at (SlK.keptNone HB.out HK5.out) hx
              clear hx
              by_cases hx1 : x = 1
              · subst hx1
                have hy0' : w5.cell? ⟨gy, oy, none⟩ = some (.int .u8 1) := hy0
                clear hy0
                go_wp2_with fail
                go_at_call 20
                refine (cTable_at HC5.out).mono ?_
                rintro e w8 ⟨rfl, hw8⟩
                subst hw8
                go_wp2_with fail
                go_at_call 21
                refine (hAll_told HC5.out.tab (by decide) (up_toks _)).mono ?_
                rintro e w9 ⟨A9, n9, c9, T, rfl, hto, hk9⟩
                have HK9 := Lib.hid (HK5.out.trans hk9 fun _ _ e => e)
                have HC9 := Lib.hid (HC5.out.keptN hk9)
                obtain ⟨rfl, g0, o0, g1, o1, hx0, hx1, hu0, hu1⟩ := up_told hto
                have hl9 := (Sl.of_own hto.row).run_len hostsT
                have FIN : Hid (UpInv w own2 c g N (N - (i + 1)) (.bool false) (.int .i64 ((i + 1 : Nat) : Int)) w9) := Lib.hid ⟨i + 1, false, by have := HIJ.out; omega, rfl, rfl, by omega, HC9.out, HK9.out⟩
                clear hto hk9 HC9 HK9
                go_wp2_with fail
                go_roundg (N - (i + 1))
                case measure => have := HIJ.out; omega
                case rel => exact FIN.out
              · by_cases hx2 : x = 2
                · subst hx2
                  have hy0' : w5.cell? ⟨gy, oy, none⟩ = some (.int .u8 2) := hy0
                  clear hy0
                  go_wp2_with fail
                  go_at_call 20
                  refine (cTable_at HC5.out).mono ?_
                  rintro e w8 ⟨rfl, hw8⟩
                  subst hw8
                  go_wp2_with fail
                  go_at_call 21
                  refine (hAll_told HC5.out.tab (by decide) (up_toks _)).mono ?_
                  rintro e w9 ⟨A9, n9, c9, T, rfl, hto, hk9⟩
                  have HK9 := Lib.hid (HK5.out.trans hk9 fun _ _ e => e)
                  have HC9 := Lib.hid (HC5.out.keptN hk9)
                  obtain ⟨rfl, g0, o0, g1, o1, hx0, hx1, hu0, hu1⟩ := up_told hto
                  have hl9 := (Sl.of_own hto.row).run_len hostsT
                  have FIN : Hid (UpInv w own2 c g N (N - (i + 1)) (.bool false) (.int .i64 ((i + 1 : Nat) : Int)) w9) := Lib.hid ⟨i + 1, false, by have := HIJ.out; omega, rfl, rfl, by omega, HC9.out, HK9.out⟩
                  clear hto hk9 HC9 HK9
                  go_wp2_with fail
                  go_roundg (N - (i + 1))
                  case measure => have := HIJ.out; omega
                  case rel => exact FIN.out
                · have hn1 : ((x.toNat : Int) == 1) = false := by rw [beq_eq_false_iff_ne]; intro e; exact hx1 (UInt8.toNat_inj.1 (show x.toNat = 1 by omega))
                  have hn2 : ((x.toNat : Int) == 2) = false := by rw [beq_eq_false_iff_ne]; intro e; exact hx2 (UInt8.toNat_inj.1 (show x.toNat = 2 by omega))
                  have HOD := Lib.hid (fun g => up_note_odd g x false hx1 hx2)
                  have HBT := Lib.hid (up_row w5 x)
                  have hn3 : ((x.toNat : Int) != 1) = true := by rw [bne, hn1]; rfl
                  have hn4 : ((x.toNat : Int) != 2) = true := by rw [bne, hn2]; rfl
                  have hn5 : ¬ ((x.toNat : Int) = 1) := by intro e; rw [e] at hn1; cases hn1
                  have hn6 : ¬ ((x.toNat : Int) = 2) := by intro e; rw [e] at hn2; cases hn2
                  clear hx1 hx2
                  generalize hxi : (x.toNat : Int) = xi at *
                  go_wp2_with fail
                  go_at_call 23
                  have hk7 : Kept noBlock w5 (w5.alloc (.cells #[.int .u8 10, .int .u8 0, .int .u8 0, .int .u8 xi] 5)) := (Kept.refl noBlock w5).alloc _
                  refine (cNote_at (HC5.out.keptN hk7) (by decide) (nOdd w5.heap.size x) (HBT.out xi rfl) ((HD.out.keptN HK5.out).keptN hk7) 0 (by decide)).mono ?_
                  rw [HOD.out]
                  rintro e w7 ⟨rfl, hc7, hk8⟩
                  have HC7 := Lib.hid hc7
                  have HK7 := Lib.hid ((HK5.out.trans hk7 fun _ _ e => e).grew hk8 HLOW4.out)
                  clear hk7 hc7 hk8 HC5 HK5
                  go_wp2_with fail
                  go_at_call 20
                  refine (cTable_at HC7.out).mono ?_
                  rintro e w8 ⟨rfl, hw8⟩
                  subst hw8
                  go_wp2_with fail
                  go_at_call 21
                  refine (hAll_told HC7.out.tab (by decide) (up_toks _)).mono ?_
                  rintro e w9 ⟨A9, n9, c9, T, rfl, hto, hk9⟩
                  have HK9 := Lib.hid (HK7.out.trans hk9 fun _ _ e => e)
                  have HC9 := Lib.hid (HC7.out.keptN hk9)
                  obtain ⟨rfl, g0, o0, g1, o1, hx0, hx1, hu0, hu1⟩ := up_told hto
                  have hl9 := (Sl.of_own hto.row).run_len hostsT
                  have FIN : Hid (UpInv w own2 c g N (N - (i + 1)) (.bool false) (.int .i64 ((i + 1 : Nat) : Int)) w9) := Lib.hid ⟨i + 1, false, by have := HIJ.out; omega, rfl, rfl, by omega, HC9.out, HK9.out⟩
                  clear hto hk9 HC9 HK9
                  go_wp2_with fail
                  go_roundg (N - (i + 1))
                  case measure => have := HIJ.out; omega
                  case rel => exact FIN.out
            · skip
              go_wp2_with fail
              go_at_call 20
              refine (cTable_at HC5.out).mono ?_
              rintro e w8 ⟨rfl, hw8⟩
              subst hw8
              go_wp2_with fail
              go_at_call 21
              refine (hAll_told HC5.out.tab (by decide) (up_toks _)).mono ?_
              rintro e w9 ⟨A9, n9, c9, T, rfl, hto, hk9⟩
              have HK9 := Lib.hid (HK5.out.trans hk9 fun _ _ e => e)
              have HC9 := Lib.hid (HC5.out.keptN hk9)
              obtain ⟨rfl, g0, o0, g1, o1, hx0, hx1, hu0, hu1⟩ := up_told hto
              have hl9 := (Sl.of_own hto.row).run_len hostsT
              have FIN : Hid (UpInv w own2 c g N (N - (i + 1)) (.bool false) (.int .i64 ((i + 1 : Nat) : Int)) w9) := Lib.hid ⟨i + 1, false, by have := HIJ.out; omega, rfl, rfl, by omega, HC9.out, HK9.out⟩
              clear hto hk9 HC9 HK9
              go_wp2_with fail
              go_roundg (N - (i + 1))
              case measure => have := HIJ.out; omega
              case rel => exact FIN.out
      · obtain rfl : i = 30 := by omega
        go_wp2_with fail
        go_at_call 25
        refine (cDue_at HC.out _).mono ?_
        rintro e w10 ⟨rfl, -, hk10⟩
        have HK10 := Lib.hid (HK.out.grew hk10 fun k e => HLOW4.out k (.inr e))
        clear hk10
        rw [show ∀ t, dueB false 0 t = false from fun _ => rfl]
        go_wp2
        go_ret
        exact ⟨rfl, HK10.out⟩
    · obtain rfl : i = N := by have := HIJ.out; omega
      go_wp2_with fail
      go_at_call 25
      refine (cDue_at HC.out _).mono ?_
      rintro e w10 ⟨rfl, -, hk10⟩
      have HK10 := Lib.hid (HK.out.grew hk10 fun k e => HLOW4.out k (.inr e))
      clear hk10
      rw [show ∀ t, dueB false 0 t = false from fun _ => rfl]
      go_wp2
      go_ret
      exact ⟨rfl, HK10.out⟩
end Go.Proofs.YtdcdefkloibfnaaGreatDoor

/- conn.Data of the first two answers of a handshake: Supported, Ready · pool.Data: bytes of a connection that answers with bytes, and of one that is ready. -/
import Derived.Test.YtfnjoceolcdeoaaGreatDoorMr40
import Derived.Test.YtfnjoceolcdeoaaGreatDoorMr42
import Derived.Test.YtfnjoceolcdeoaaGreatDoorMr16
import Derived.Test.YtfnjoceolcdeoaaGreatDoorMr25
namespace Go.Proofs.YtfnjoceolcdeoaaGreatDoor
set_option linter.unusedVariables false
open Go.RowKit

/-- The body that begins a connection. -/
def st2B : List UInt8 := (bodyFin (wrFin (pairB ⟨#[67, 81, 76, 95, 86, 69, 82, 83, 73, 79, 78]⟩ ⟨#[51, 46, 48, 46, 48]⟩, 0))).1
theorem st2_fine : bodyFin (wrFin (pairB ⟨#[67, 81, 76, 95, 86, 69, 82, 83, 73, 79, 78]⟩ ⟨#[51, 46, 48, 46, 48]⟩, 0)) = (st2B, 0) := by
  have h : (bodyFin (wrFin (pairB ⟨#[67, 81, 76, 95, 86, 69, 82, 83, 73, 79, 78]⟩ ⟨#[51, 46, 48, 46, 48]⟩, 0))).2 = 0 := bodyFin_fine rfl (by rw [wrFin_ok rfl]; show (pairB _ _).length ≤ _; rw [pairB_len]; decide)
  exact Prod.ext rfl h
theorem st2_len : st2B.length ≤ 1000 := by
  unfold st2B
  rw [bodyFin_ok (by rw [wrFin_ok rfl]; show ¬ (_ ∧ 1048576 < (pairB _ _).length); rw [pairB_len]; decide), wrFin_ok rfl]
  show (pairB _ _).length ≤ 1000
  rw [pairB_len]; decide
theorem fresh_ans (n t : Int) : ((XS.fresh n).take 0 t).answer 0 = XS.fresh n := rfl
theorem fresh_ask (n t : Int) : (aget (0 : Int) ((XS.fresh n).take 0 t).asked).isSome = true := rfl
/-- A stream is taken where none is owed. -/
theorem wr_first {x : XC} {X : List UInt8} {op : UInt8} {l : List UInt8} {u id : Int} {ok : Bool} {x' : XC} {X' : List UInt8} {n : Int} (hss : x.ss = XS.fresh n) (h1 : 1 ≤ n) (h : WrCase x X op l u id ok x' X') : id = 0 ∧ x' = { x with ss := (XS.fresh n).take 0 u } ∧ X' = X ++ (hdrB 0 op l.length ++ l) := by
  rcases h with ⟨-, i, rfl, -, -, hlow, rfl, rfl⟩ | ⟨-, -, -, -, hall⟩
  · have hi : i = 0 := by
      rcases Nat.eq_zero_or_pos i with h | h
      · exact h
      · have := hlow 0 h
        rw [hss] at this
        exact absurd ((show false = (XS.fresh n).owed ((0 : Nat) : Int) from rfl).trans this) (by decide)
    subst hi
    exact ⟨rfl, by rw [hss]; rfl, rfl⟩
  · have := hall 0 (by rw [hss]; show (0 : Int) < n; omega)
    rw [hss] at this
    exact absurd ((show false = (XS.fresh n).owed ((0 : Nat) : Int) from rfl).trans this) (by decide)
def bySup : List UInt8 := [132, 0, 0, 0, 6, 0, 0, 0, 2, 0, 0]
def byRdy : List UInt8 := [132, 0, 0, 0, 2, 0, 0, 0, 0]
theorem add_sup : addP reqOps bySup.length bySup = ([⟨0, 0, 6, [0, 0]⟩], [], 0) := by kernel_rfl
theorem add_rdy : addP reqOps byRdy.length byRdy = ([⟨0, 0, 2, []⟩], [], 0) := by kernel_rfl
theorem stays0 (op : Int) : Stays fun _ cs _ => cs.getD 0 undef = .int .u8 op := fun _ _ _ _ _ h _ _ => h
theorem can_sup : CanRead 6 [0, 0] fun _ cs _ => cs.getD 0 undef = .int .u8 6 := fun _ _ _ hst hb => sParts_6 (a := []) (by kernel_rfl) hst hb
theorem can_rdy : CanRead 2 [] fun _ cs _ => cs.getD 0 undef = .int .u8 2 := fun _ _ _ hst hb => (sParts_2 hst hb).mono fun e W' hp => by
  obtain ⟨he, hk, cs, h1, h2, h3, h4, h5⟩ := hp
  exact ⟨he, hk, cs, h1, h2, h3, h4, by rw [h5]; rfl⟩
/-- Behind Supported. -/
def SupF (x : XC) (now : Int) (y : XC) (Y : XO) (_ : World) : Prop := (∃ A' c', c' ≤ maxLen ∧ y = { x with state := 2, last := now, sv := .slice A' 0 c', se := 0 }) ∧ Y = ⟨hdrB 0 1 st2B.length ++ st2B, rwN0, rwN0, false, 0, rwN0⟩
theorem cnData_sup {w : World} {lo hi c : Nat} {x : XC} (h : ConnAt w lo hi c x) (hst : x.state = 1) (hsh : x.shake = 0) {n : Int} (hss : x.ss = (XS.fresh n).take 0 x.til) (hn1 : 1 ≤ n) (hcalm : Calm x) (hT : Tab w) (hG : 2 < lo) (htil : 0 ≤ x.til ∧ x.til < 18446744073709551616) (now : Int)
    {A : Option Addr} {cA : Nat} (hs : Sl w 5 1 (.slice A 11 cA) 11 (bsC bySup)) :
    Calls Tryz.prog 27 #[.pointer (some ⟨c, 0, none⟩), .slice A 11 cA, .int .u64 now] w (DataPost w lo hi c (SupF x now)) := by
  refine cnData_run h (by rw [hst]; decide) hcalm hs (by decide) (by decide) now add_sup (fun i y Y W => (i = 0 ∧ (∃ A' c', c' ≤ maxLen ∧ y = { x with last := now, sv := .slice A' 0 c', se := 0 }) ∧ Y = xo0 ∧ Tab W) ∨ (i = 1 ∧ SupF x now y Y W)) (SupF x now) ?_ ?_ ?_ ?_ ?_ ?_
  · intro W A' c' hc' hk
    exact .inl ⟨rfl, ⟨A', c', hc', rfl⟩, rfl, hT.kept hk (fun e => by omega)⟩
  · rintro i y Y W W' (⟨hi0, h1, h2, h3⟩ | hj) hk
    · exact .inl ⟨hi0, h1, h2, h3.kept hk fun e => e⟩
    · exact .inr hj
  · rintro i y Y W (⟨-, ⟨A', c', -, rfl⟩, -, -⟩ | ⟨-, ⟨A', c', -, rfl⟩, -⟩)
    · show x.state ≠ 7; rw [hst]; decide
    · show (2 : Int) ≠ 7; decide
  · rintro i f v W y Y o B hf hj hc ho hoB hB hBs hbo
    rcases hj with ⟨rfl, ⟨A', c', hc', rfl⟩, rfl, hTW⟩ | ⟨rfl, -⟩
    · injection hf with hf
      subst hf
      obtain ⟨Ab, cb, hv, hb⟩ := hbo
      have hv : v = .slice Ab 2 cb := hv
      subst hv
      refine cnFrame_shake (x := { x with last := now, sv := .slice A' 0 c', se := 0 }) hc 0 ⟨by decide, by decide⟩ (by show (aget (0 : Int) x.ss.asked).isSome = true; rw [hss]; rfl) hsh 6 2 Ab 2 cb (o := some ⟨o, 0, none⟩) (Post := fun e W' => e = .returned (.tuple #[]) ∧ ∃ y' Y', ConnAt W' lo hi c y' ∧ OutY W' o B Y' ∧ Kept (outS lo hi o B) W W' ∧ ((y'.state = 7 ∧ SupF x now y' Y' W') ∨ _)) (fun e w' hp => hp.1) fun W1 hc1 hk1 => ?_
      have hb1 : Sl W1 5 1 (.slice Ab 2 cb) 2 (bsC [0, 0]) := slk_mono (SlK.keptAll hb hk1 fun g e hg e2 => by have := hg.1; omega) fun g e hg => hg.2
      have h81 : W1.cell? ⟨c, 8, none⟩ = some (.int .i64 1) := by
        obtain ⟨gs, g, m1, m2, mo, hci⟩ := hc1
        have := hci.blk.cell 8
        rw [this]
        show some (Value.int .i64 x.state) = _
        rw [hst]
      refine cnHand_1_6 (len := 2) 0 hb1 (by decide) _ (stays0 6) can_sup (fun B cs W h => h) h81 (fun e w' hp => hp.1) fun W2 hk2 => ?_
      have hT2 : Tab W2 := (hTW.kept hk1 (fun e => by omega)).kept hk2 fun e => e
      have ho2 : OutB W2 o B [] rwN0 rwN0 false 0 rwN0 := (OutB.kept (show OutB W o B [] rwN0 rwN0 false 0 rwN0 from ho) hk1 (fun e => hoB e) fun k hk e => by omega).keptN hk2
      refine (cnStep2_at (hc1.keptN hk2) hT2 hG ho2 hoB hB (by have := hk1.size; have := hk2.size; omega) 2 (by decide) 1 (by decide) (l := st2B) (fun W3 hk3 => ?_) (by have := st2_len; omega) (by decide) htil).mono ?_
      · have := cnBody_2 x.st x.ks x.hs x.idle x.beatD x.orph x.tok x.ev W3
        rw [st2_fine] at this
        exact this
      · rintro e W4 ⟨id, ok, x', X', rfl, hc4, ho4, hk4, hwr⟩
        obtain ⟨rfl, rfl, rfl⟩ := wr_first (n := n) (by show x.ss.answer 0 = _; rw [hss]; rfl) hn1 hwr
        refine ⟨rfl, _, _, hc4, (show OutY W4 o B ⟨_, rwN0, rwN0, false, 0, rwN0⟩ from ho4), (hk1.mono (T := outS lo hi o B) fun k _ e => .inl e).trans ((hk2.of_none (S := outS lo hi o B)).trans hk4 fun _ _ e => e) fun _ _ e => e, .inr (.inr ⟨rfl, ⟨A', c', hc', ?_⟩, by simp⟩)⟩
        show (⟨x.st, x.ks, x.tok, x.ev, x.hs, x.idle, x.beatD, x.orph, 2, 0, x.til, x.asked, x.beat, x.beatAt, now, x.drain, x.drained, (XS.fresh n).take 0 x.til, x.oth, .slice A' 0 c', 0⟩ : XC) = ⟨x.st, x.ks, x.tok, x.ev, x.hs, x.idle, x.beatD, x.orph, 2, x.shake, x.til, x.asked, x.beat, x.beatAt, now, x.drain, x.drained, x.ss, x.oth, .slice A' 0 c', 0⟩
        rw [hsh, ← hss]
    · cases hf
  · rintro y Y W (⟨h, -⟩ | ⟨-, h⟩)
    · cases h
    · exact h
  · intro y Y W W' h hk
    exact h
/-- Behind Ready, where no keyspace is wanted, and no events. -/
def RdyF (x : XC) (n now : Int) (y : XC) (Y : XO) (_ : World) : Prop := (∃ A' c', c' ≤ maxLen ∧ y = { x with state := 6, shake := -1, last := now, sv := .slice A' 0 c', se := 0, ss := XS.fresh n }) ∧ Y = ⟨[], rwN0, rwN0, true, 0, rwN0⟩
theorem cnData_rdy {w : World} {lo hi c : Nat} {x : XC} (h : ConnAt w lo hi c x) (hst : x.state = 2) (hsh : x.shake = 0) {n : Int} (hss : x.ss = (XS.fresh n).take 0 x.til) (hcalm : Calm x) (hks : x.ks = ⟨#[]⟩) {Ae : Option Addr} {ce : Nat} (hev : x.ev = .slice Ae 0 ce) (now : Int)
    {A : Option Addr} {cA : Nat} (hs : Sl w 5 1 (.slice A 9 cA) 9 (bsC byRdy)) :
    Calls Tryz.prog 27 #[.pointer (some ⟨c, 0, none⟩), .slice A 9 cA, .int .u64 now] w (DataPost w lo hi c (RdyF x n now)) := by
  refine cnData_run h (by rw [hst]; decide) hcalm hs (by decide) (by decide) now add_rdy (fun i y Y W => (i = 0 ∧ (∃ A' c', c' ≤ maxLen ∧ y = { x with last := now, sv := .slice A' 0 c', se := 0 }) ∧ Y = xo0) ∨ (i = 1 ∧ RdyF x n now y Y W)) (RdyF x n now) ?_ ?_ ?_ ?_ ?_ ?_
  · intro W A' c' hc' hk
    exact .inl ⟨rfl, ⟨A', c', hc', rfl⟩, rfl⟩
  · rintro i y Y W W' (⟨hi0, h1, h2⟩ | hj) hk
    · exact .inl ⟨hi0, h1, h2⟩
    · exact .inr hj
  · rintro i y Y W (⟨-, ⟨A', c', -, rfl⟩, -⟩ | ⟨-, ⟨A', c', -, rfl⟩, -⟩)
    · show x.state ≠ 7; rw [hst]; decide
    · show (6 : Int) ≠ 7; decide
  · rintro i f v W y Y o B hf hj hc ho hoB hB hBs hbo
    rcases hj with ⟨rfl, ⟨A', c', hc', rfl⟩, rfl⟩ | ⟨rfl, -⟩
    · injection hf with hf
      subst hf
      obtain ⟨Ab, cb, hv, hb⟩ := hbo
      have hv : v = .slice Ab 0 cb := hv
      subst hv
      refine cnFrame_shake (x := { x with last := now, sv := .slice A' 0 c', se := 0 }) hc 0 ⟨by decide, by decide⟩ (by show (aget (0 : Int) x.ss.asked).isSome = true; rw [hss]; rfl) hsh 2 0 Ab 0 cb (o := some ⟨o, 0, none⟩) (Post := fun e W' => e = .returned (.tuple #[]) ∧ ∃ y' Y', ConnAt W' lo hi c y' ∧ OutY W' o B Y' ∧ Kept (outS lo hi o B) W W' ∧ ((y'.state = 7 ∧ RdyF x n now y' Y' W') ∨ _)) (fun e w' hp => hp.1) fun W1 hc1 hk1 => ?_
      have hb1 : Sl W1 5 1 (.slice Ab 0 cb) 0 (bsC []) := slk_mono (SlK.keptAll hb hk1 fun g e hg e2 => by have := hg.1; omega) fun g e hg => hg.2
      have h81 : W1.cell? ⟨c, 8, none⟩ = some (.int .i64 2) := by
        obtain ⟨gs, g, m1, m2, mo, hci⟩ := hc1
        have := hci.blk.cell 8
        rw [this]
        show some (Value.int .i64 x.state) = _
        rw [hst]
      refine cnHand_2_2 (len := 0) 0 hb1 (by decide) _ (stays0 2) can_rdy (fun B cs W h => h) h81 (fun e w' hp => hp.1) fun W2 hk2 => ?_
      have ho2 : OutB W2 o B [] rwN0 rwN0 false 0 rwN0 := (OutB.kept (show OutB W o B [] rwN0 rwN0 false 0 rwN0 from ho) hk1 (fun e => hoB e) fun k hk e => by omega).keptN hk2
      refine (cnOn_open (hc1.keptN hk2) ho2 hoB hB (.inr hks) (.inr hev)).mono ?_
      rintro e W4 ⟨rfl, hc4, ho4, hk4⟩
      refine ⟨rfl, _, _, hc4, (show OutY W4 o B ⟨[], rwN0, rwN0, true, 0, rwN0⟩ from ho4), (hk1.mono (T := outS lo hi o B) fun k _ e => .inl e).trans ((hk2.of_none (S := outS lo hi o B)).trans hk4 fun _ _ e => e) fun _ _ e => e, .inr (.inr ⟨rfl, ⟨A', c', hc', ?_⟩, rfl⟩)⟩
      show (⟨x.st, x.ks, x.tok, x.ev, x.hs, x.idle, x.beatD, x.orph, 6, -1, x.til, x.asked, x.beat, x.beatAt, now, x.drain, x.drained, x.ss.answer 0, x.oth, .slice A' 0 c', 0⟩ : XC) = ⟨x.st, x.ks, x.tok, x.ev, x.hs, x.idle, x.beatD, x.orph, 6, -1, x.til, x.asked, x.beat, x.beatAt, now, x.drain, x.drained, XS.fresh n, x.oth, .slice A' 0 c', 0⟩
      rw [hss]
      rfl
    · cases hf
  · rintro y Y W (⟨h, -⟩ | ⟨-, h⟩)
    · cases h
    · exact h
  · intro y Y W W' h hk
    exact h
end Go.Proofs.YtfnjoceolcdeoaaGreatDoor
namespace Go.Proofs.YtfnjoceolcdeoaaGreatDoor
set_option linter.unusedVariables false
open Go.RowKit

set_option maxHeartbeats 4000000 in
set_option maxRecDepth 100000 in
theorem poData_wrote {w : World} {p m : Nat} {x : XP} {L : List (Int × CN)} (h : PoolAt w p m x L) {id : Int} {q : CN} (hq : aget id L = some q) (now draw : Int) {B : Option Addr} {nB cB : Nat} {F : XC → XO → World → Prop}
    (hC : Calls Tryz.prog 27 #[.pointer (some ⟨q.c, 0, none⟩), .slice B nB cB, .int .u64 now] w (DataPost w q.lo q.hi q.c F)) (hF : ∀ y Y W, F y Y W → 0 < Y.X.length ∧ Y.an.1 = 0 ∧ Y.nt.1 = 0 ∧ Y.rd = false ∧ Y.dd = 0) :
    Calls Tryz.prog 14 #[.pointer (some ⟨p, 0, none⟩), .int .i64 id, .slice B nB cB, .int .u64 now, .int .u64 draw] w fun e w' => ∃ A' c' y Y W, e = .returned (.slice A' 1 c') ∧ F y Y W ∧ PoolAt w' p m x (L.map (updAt id y)) ∧ Kept (poolS p m L) w w' := by
  have hmem : (id, q) ∈ L := aget_mem hq
  have c13 : w.cell? ⟨p, 13, none⟩ = some (.map (some m)) := h.blk.cell 13
  have hl := h.map.run_lookup i64K imcM intU (zero_ptr w) id false
  rw [hq] at hl
  simp only [Bool.false_eq_true, if_false, Option.map_some, Option.getD_some] at hl
  unfold cnV at hl
  have HC := Lib.hid hC
  have HF := Lib.hid hF
  have H := Lib.hid h
  have HME := Lib.hid hmem
  clear h hmem hC hF
  go_enter Tryz.func14, Tryz.ntmps14
  go_wp2_with fail
  go_at_call 27
  refine HC.out.mono ?_
  rintro e w2 ⟨v, y, Y, rfl, hres, hc2, hF, hk2⟩
  obtain ⟨A, k, A1, k1, A2, k2, A3, k3, rfl, -, -, -, -⟩ := hres
  obtain ⟨f0, f1, f2, f3, f4⟩ := HF.out _ _ _ hF
  have HFY := Lib.hid hF
  rw [f1, f2, f3, f4]
  have HP2 := Lib.hid (H.out.upd HME.out hk2 hc2)
  have HE := Lib.hid (poEvents_wrote p id A A1 A2 A3 Y.X.length k k1 k2 Y.ls.1 k3 f0 now draw w2)
  have HK2 := Lib.hid hk2
  clear hc2 hk2 hF f0 f1 f2 f3 f4
  generalize hlx : Y.X.length = nx at *
  generalize hln : Y.ls.1 = nl at *
  clear hlx hln
  go_wp2_with fail
  go_at_call 22
  refine HE.out.mono ?_
  rintro e w3 ⟨A', c', rfl, hk3⟩
  have HFIN : Hid (PoolAt w3 p m x (L.map (updAt id y)) ∧ Kept (poolS p m L) w w3) := Lib.hid ⟨HP2.out.keptN hk3, (HK2.out.mono (T := poolS p m L) fun k _ e => .inr (.inr ⟨_, HME.out, e⟩)).trans hk3 fun k _ e => e.elim⟩
  clear hk3
  go_wp2
  go_ret
  exact ⟨A', c', y, Y, w2, rfl, HFY.out, HFIN.out⟩
set_option maxHeartbeats 4000000 in
set_option maxRecDepth 100000 in
theorem poData_ready {w : World} {p m : Nat} {x : XP} {L : List (Int × CN)} (h : PoolAt w p m x L) {id : Int} {q : CN} (hq : aget id L = some q) (now draw : Int) {B : Option Addr} {nB cB : Nat} {F : XC → XO → World → Prop}
    (hC : Calls Tryz.prog 27 #[.pointer (some ⟨q.c, 0, none⟩), .slice B nB cB, .int .u64 now] w (DataPost w q.lo q.hi q.c F)) (hF : ∀ y Y W, F y Y W → Y.X.length = 0 ∧ Y.an.1 = 0 ∧ Y.nt.1 = 0 ∧ Y.rd = true ∧ Y.dd = 0) :
    Calls Tryz.prog 14 #[.pointer (some ⟨p, 0, none⟩), .int .i64 id, .slice B nB cB, .int .u64 now, .int .u64 draw] w fun e w' => ∃ A' c' y Y W, e = .returned (.slice A' 1 c') ∧ F y Y W ∧ PoolAt w' p m { x with failed := 0 } (L.map (updAt id y)) ∧ Kept (poolS p m L) w w' := by
  have hmem : (id, q) ∈ L := aget_mem hq
  have c13 : w.cell? ⟨p, 13, none⟩ = some (.map (some m)) := h.blk.cell 13
  have hl := h.map.run_lookup i64K imcM intU (zero_ptr w) id false
  rw [hq] at hl
  simp only [Bool.false_eq_true, if_false, Option.map_some, Option.getD_some] at hl
  unfold cnV at hl
  have HC := Lib.hid hC
  have HF := Lib.hid hF
  have H := Lib.hid h
  have HME := Lib.hid hmem
  clear h hmem hC hF
  go_enter Tryz.func14, Tryz.ntmps14
  go_wp2_with fail
  go_at_call 27
  refine HC.out.mono ?_
  rintro e w2 ⟨v, y, Y, rfl, hres, hc2, hF, hk2⟩
  obtain ⟨A, k, A1, k1, A2, k2, A3, k3, rfl, -, -, -, -⟩ := hres
  obtain ⟨f0, f1, f2, f3, f4⟩ := HF.out _ _ _ hF
  have HFY := Lib.hid hF
  rw [f0, f1, f2, f3, f4]
  have HP2 := Lib.hid (H.out.upd HME.out hk2 hc2)
  have HE := Lib.hid (poEvents_ready HP2.out id A A1 A2 A3 k k1 k2 Y.ls.1 k3 now draw)
  have HK2 := Lib.hid hk2
  clear hc2 hk2 hF f0 f1 f2 f3 f4
  generalize hln : Y.ls.1 = nl at *
  clear hln
  go_wp2_with fail
  go_at_call 22
  refine HE.out.mono ?_
  rintro e w3 ⟨A', c', rfl, hp3, hk3⟩
  have HFIN : Hid (PoolAt w3 p m { x with failed := 0 } (L.map (updAt id y)) ∧ Kept (poolS p m L) w w3) := Lib.hid ⟨hp3, (HK2.out.mono (T := poolS p m L) fun k _ e => .inr (.inr ⟨_, HME.out, e⟩)).trans hk3 fun k _ e => .inl e⟩
  clear hp3 hk3
  go_wp2
  go_ret
  exact ⟨A', c', y, Y, w2, rfl, HFY.out, HFIN.out⟩
end Go.Proofs.YtfnjoceolcdeoaaGreatDoor

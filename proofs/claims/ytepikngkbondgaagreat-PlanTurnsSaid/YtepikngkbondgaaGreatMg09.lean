/- plan.Plan's put: hosts of a distance that are up, and weren't yet, are put into the plan · plan.Plan: hosts by how far they are, in a map of rows · slices.Grow at no place, slices.Concat of two rows of texts · plan.turned: a list from a place on, and round · plan.Replicas: the hosts that have a token's data · plan.Plan: the hosts, in order · Chapter 18's reference: less, Find, tidy · Chapter 18's reference: tidy (written by gen/r18.py). -/
import Derived.Test.YtepikngkbondgaaGreatMg08
import Derived.Test.YtepikngkbondgaaGreatMg05
import Derived.Lib.AppendZerosOnto
import Derived.Shelf.Spec.SlicesGrow
import Derived.Test.YtepikngkbondgaaGreatMg04
import Derived.Deep.DeepCutAuto
namespace Go.Proofs.YtepikngkbondgaaGreat
set_option linter.unusedVariables false
open Go.RowKit
open Go.ChangeMaps (setBlock)

abbrev LMap := KMap (β := Bool) .string (fun s : ByteArray => Value.string s) Value.bool
/-- What put works on: which hosts are left (a map in a variable), the plan so far (a row in a variable), the table. -/
structure PutAt (w0 wr : World) (Bl Bt Bo ml : Nat) (own : Nat → Prop) (p : Option Addr) (dc : ByteArray) (rem : Int) (S : List Ho) (out : List ByteArray) (A : Option Addr) (n c : Nat) : Prop where
  bl : Blk wr Bl 81 #[.map (some ml)]
  bt : Blk wr Bt 29 #[.pointer p]
  bo : Blk wr Bo 36 #[.slice A n c]
  row : wr.ownsRow w0.heap.size 9 1 (.slice A n c) n (out.map Value.string)
  lm : ∃ M, LMap wr ml M ∧ ∀ x, (aget x M).getD false = (upS S x && !has out x)
  tb : TV wr own p dc rem S
  low : ∀ k, own k → k < w0.heap.size
  gm : w0.heap.size ≤ ml
  go : w0.heap.size ≤ Bo
  kept : Kept noBlock w0 wr
section
variable {w0 wr w' w : World} {Bl Bt Bo ml : Nat} {own : Nat → Prop} {p : Option Addr} {dc : ByteArray} {rem : Int} {S : List Ho} {out : List ByteArray} {A : Option Addr} {n c : Nat} {d : Int}
theorem PutAt.keptN (h : PutAt w0 wr Bl Bt Bo ml own p dc rem S out A n c) (hk : Kept noBlock wr w') : PutAt w0 w' Bl Bt Bo ml own p dc rem S out A n c := by
  obtain ⟨M, h1, h2⟩ := h.lm
  exact ⟨h.bl.kept hk (fun e => e), h.bt.kept hk (fun e => e), h.bo.kept hk (fun e => e), own_keptB h.row hk (fun _ _ e => e), ⟨M, h1.kept hk (fun e => e), h2⟩, h.tb.keptN hk, h.low, h.gm, h.go, h.kept.trans hk fun _ _ e => e⟩
theorem PutAt.nlen (h : PutAt w0 wr Bl Bt Bo ml own p dc rem S out A n c) : n = out.length := by
  have := h.row.1
  rw [List.length_map, Nat.mul_one] at this
  exact this.symm
theorem has_snoc (l : List ByteArray) (x y : ByteArray) : has (l ++ [x]) y = (has l y || decide (x = y)) := by rw [has_append]; simp [has]
/-- A host is struck from those that are left, and put behind the plan. -/
theorem PutAt.more {M : List (ByteArray × Bool)} {es : Array MapEntry} {ck : Nat} {x : ByteArray} {w2 w4 : World} {A' : Option Addr} {c' : Nat} {cs : Array Value} {t : TypeId} (hw2 : w2 = setBlock wr ml (.map es ck)) (h : PutAt w0 wr Bl Bt Bo ml own p dc rem S out A n c) (hM : ∀ x, (aget x M).getD false = (upS S x && !has out x))
    (hm : LMap w2 ml (aput x false M)) (hap : Appended (w2.alloc (.cells cs t)) w4 w0.heap.size 9 1 (.slice A n c) (.slice A' (n + 1) c') (n + 1) (out.map Value.string ++ [.string x])) :
    PutAt w0 (w4.setCell ⟨Bo, 0, none⟩ (.slice A' (n + 1) c')) Bl Bt Bo ml own p dc rem S (out ++ [x]) A' (n + 1) c' ∧ Kept (fun k => k = ml ∨ k = Bo ∨ (Value.slice A n c).ownBlock = some k) wr (w4.setCell ⟨Bo, 0, none⟩ (.slice A' (n + 1) c')) ∧ Blk w4 Bo 36 #[.slice A n c] ∧ ∀ k, (Value.slice A' (n + 1) c').ownBlock = some k → (Value.slice A n c).ownBlock = some k ∨ wr.heap.size ≤ k := by
  subst hw2
  obtain ⟨M0, hM0, -⟩ := h.lm
  obtain ⟨es0, ck0, hmh⟩ := hM0.heap
  have hne : ∀ {g : Nat} {e : TypeId} {v : Array Value}, Blk wr g e v → g ≠ ml := fun hb e => hM0.ne_blk hb e
  have hrow2 : ((setBlock wr ml (.map es ck)).alloc (.cells cs t)).ownsRow w0.heap.size 9 1 (.slice A n c) n (out.map Value.string) := (own_setBlock h.row hmh _).alloc _
  have hk1 : Kept (fun k => k = ml) wr ((setBlock wr ml (.map es ck)).alloc (.cells cs t)) := ((Kept.refl (fun k => k = ml) wr).setBlock (m := ml) (fun _ => rfl) _).alloc _
  have hk2 : Kept (fun k => k = ml ∨ (Value.slice A n c).ownBlock = some k) wr w4 := (hk1.mono (T := fun k => k = ml ∨ (Value.slice A n c).ownBlock = some k) fun _ _ e => .inl e).trans hap.kept fun _ _ e => .inr e
  have hk3 : Kept (fun k => k = ml ∨ k = Bo ∨ (Value.slice A n c).ownBlock = some k) wr (w4.setCell ⟨Bo, 0, none⟩ (.slice A' (n + 1) c')) := (hk2.mono (T := fun k => k = ml ∨ k = Bo ∨ (Value.slice A n c).ownBlock = some k) fun _ _ e => e.elim .inl fun e => .inr (.inr e)).setCell (p := ⟨Bo, 0, none⟩) (fun _ => .inr (.inl rfl)) _
  have hnr : ∀ {g : Nat} {e : TypeId} {v : Array Value}, Blk wr g e v → e ≠ 9 → (Value.slice A n c).ownBlock ≠ some g := fun {g e v} hb he hg => by
    obtain ⟨_, cs', hh⟩ := own_type h.row hg
    exact Blk.ne_ (t := e) (t' := 9) hb hh he rfl
  have hbo4 : Blk w4 Bo 36 #[.slice A n c] := h.bo.kept hk2 (fun e => e.elim (hne h.bo) (hnr h.bo (by decide)))
  have hnb : Bo ≠ Bl := fun e => Blk.ne_ h.bo h.bl (by decide) e
  have hnt : Bo ≠ Bt := fun e => Blk.ne_ h.bo h.bt (by decide) e
  have hmlr : (Value.slice A n c).ownBlock ≠ some ml := fun hg => by
    obtain ⟨_, cs', hh⟩ := own_type h.row hg
    rw [hmh] at hh; cases hh
  have hm4 : LMap w4 ml (aput x false M) := (hm.alloc (.cells cs t)).kept hap.kept hmlr
  have hlen : out.length = n := h.nlen.symm
  refine ⟨⟨?_, ?_, ?_, ?_, ?_, ?_, h.low, h.gm, h.go, ?_⟩, hk3, hbo4, fun k e => ?_⟩
  · exact h.bl.kept hk3 fun e => e.elim (hne h.bl) fun e => e.elim (fun e => hnb e.symm) (hnr h.bl (by decide))
  · exact h.bt.kept hk3 fun e => e.elim (hne h.bt) fun e => e.elim (fun e => hnt e.symm) (hnr h.bt (by decide))
  · exact hbo4.set_ 0 _
  · have h1 := own_far hap.own hbo4 (by decide) 0 (.slice A' (n + 1) c')
    rw [List.map_append]
    exact h1
  · refine ⟨aput x false M, hm4.setCell (fun e => (hne h.bo) e.symm) _, fun y => ?_⟩
    rw [aget_aput, has_snoc]
    by_cases e : x = y
    · rw [if_pos e, decide_eq_true e]; simp
    · rw [if_neg e, decide_eq_false e, Bool.or_false]; exact hM y
  · refine h.tb.kept hk3 fun k hk e => ?_
    have hl := h.low k hk
    rcases e with e | e | e
    · have := h.gm; omega
    · have := h.go; omega
    · have := (own_type h.row e).1; omega
  · refine h.kept.trans hk3 fun k hk e => ?_
    rcases e with e | e | e
    · have := h.gm; omega
    · have := h.go; omega
    · have := (own_type h.row e).1; omega
  · rcases hap.at_ with h1 | h1
    · rw [h1] at e; exact .inl e
    · rw [h1, sz_alloc, size_setBlock] at e
      cases e
      exact .inr (Nat.le_succ _)
/-- Where put's loop stands. -/
def PutR (w0 w : World) (Bl Bt Bo ml : Nat) (own : Nat → Prop) (p : Option Addr) (dc : ByteArray) (rem : Int) (S : List Ho) (out : List ByteArray) (A : Option Addr) (n c : Nat) (wr : World) : Prop :=
  ∃ A' n' c', PutAt w0 wr Bl Bt Bo ml own p dc rem S out A' n' c' ∧ Kept (fun k => k = ml ∨ k = Bo ∨ (Value.slice A n c).ownBlock = some k) w wr ∧ ∀ k, (Value.slice A' n' c').ownBlock = some k → (Value.slice A n c).ownBlock = some k ∨ w.heap.size ≤ k
theorem put_snoc (l : List ByteArray) {i : Nat} {x : ByteArray} (h : l[i]? = some x) : putP dc rem S d out (l.take (i + 1)) = putN dc rem S d (putP dc rem S d out (l.take i)) x := by
  unfold putP
  rw [List.take_add_one, h, List.foldl_append]; rfl
theorem lhsT : (zeroValue 4).run Tryz.prog w = .ok (.bool false) w := zero_bool w
set_option maxHeartbeats 4000000 in
set_option maxRecDepth 100000 in
theorem plPut_at {l : List ByteArray} {A0 : Option Addr} {n0 c0 : Nat} (h : PutAt w0 w Bl Bt Bo ml own p dc rem S out A n c) (hl : SlK w (fun k e => e = 9 ∧ (Value.slice A n c).ownBlock ≠ some k) 1 (.slice A0 n0 c0) n0 (l.map Value.string)) (hS : S.length ≤ 1000000) (hn : n0 ≤ 100000) (ho : out.length ≤ 100000) :
    Calls Tryz.prog 31 #[.int .i64 d, .slice A0 n0 c0, .pointer (some ⟨Bl, 0, none⟩), .pointer (some ⟨Bt, 0, none⟩), .pointer (some ⟨Bo, 0, none⟩)] w fun e w' => e = .returned (.tuple #[]) ∧ PutR w0 w Bl Bt Bo ml own p dc rem S (putP dc rem S d out l) A n c w' := by
  have hl0 := hl.run_len strsT
  have hln : l.length = n0 := by have := hl.len; rw [List.length_map, Nat.mul_one] at this; exact this
  have HLN := Lib.hid hln
  have HL := Lib.hid hl
  have ST : Hid (PutR w0 w Bl Bt Bo ml own p dc rem S (putP dc rem S d out (l.take 0)) A n c w) := Lib.hid ⟨A, n, c, h, Kept.refl _ _, fun k e => .inl e⟩
  have HKP : Hid (∀ (W : World), Kept (fun k => k = ml ∨ k = Bo ∨ (Value.slice A n c).ownBlock = some k) w W → SlK W (fun _ _ => True) 1 (.slice A0 n0 c0) n0 (l.map Value.string)) := Lib.hid fun W hk => by
    obtain ⟨M, hM, -⟩ := h.lm
    obtain ⟨es, ck, hh⟩ := hM.heap
    refine (SlK.keep hl fun g cs e fz he hg => (hk.block g (lt_of_heap hg) fun hs => ?_).trans hg).any fun _ _ _ _ => trivial
    rcases hs with rfl | rfl | hs
    · rw [hh] at hg; cases hg
    · have hb := h.bo
      unfold Blk at hb
      rw [hb] at hg
      injection hg with hg
      injection hg with _ h2
      have := h2.trans he.1
      exact absurd this (by decide)
    · exact he.2 hs
  clear h hl hln
  go_enter Tryz.func31, Tryz.ntmps31
  go_wp2_with fail
  go_loopg [8, 11] n0 (fun j v8 vi wr => ∃ i : Nat, i + j = n0 ∧ vi = .int .i64 i ∧ PutR w0 w Bl Bt Bo ml own p dc rem S (putP dc rem S d out (l.take i)) A n c wr)
  case atStart => exact ⟨0, by omega, rfl, ST.out⟩
  case round =>
    obtain ⟨i, hij, rfl, hR⟩ := hrel
    have HIJ := Lib.hid hij
    have HR := Lib.hid hR
    by_cases hi : i < n0
    · obtain ⟨x, hx⟩ : ∃ x, l[i]? = some x := ⟨_, List.getElem?_eq_getElem (by have := HLN.out; omega)⟩
      have HPS : Hid (putP dc rem S d out (l.take (i + 1)) = putN dc rem S d (putP dc rem S d out (l.take i)) x) := Lib.hid (put_snoc l hx)
      have HPL : Hid ((putP dc rem S d out (l.take i)).length ≤ 200000) := Lib.hid (by
        have h1 := put_len (dc := dc) (rem := rem) (S := S) d (l.take i) out
        rw [List.length_take] at h1
        omega)
      obtain ⟨A1, n1, c1, hP, hkw, hnw⟩ := hR
      have hlr := HKP.out wr hkw
      obtain ⟨gx, ox, hidx, -, cx⟩ := str_at hlr hx
      generalize hOO : putP dc rem S d out (l.take i) = O at *
      clear hOO
      obtain ⟨M, hM, hMv⟩ := hP.lm
      have hlk := fun ok => hM.run_lookup (P := Tryz.prog) string_emb msbM strU (zero_bool wr) x ok
      have hb0 := hP.bl.cell 0
      have hb1 := hP.bt.cell 0
      simp only [List.getElem?_toArray, List.getElem?_cons_zero] at hb0 hb1
      have hleft : ((aget x M).map Value.bool).getD (.bool false) = .bool (upS S x && !has O x) := by
        rw [← hMv x]
        cases aget x M <;> rfl
      have hlk0 : (Instr.lookup 81 (.map (some ml)) (.string x) false).run Tryz.prog wr = .ok (.bool (upS S x && !has O x)) wr := by
        have := hlk false
        rw [hleft] at this
        exact this
      have HP := Lib.hid hP
      have HM := Lib.hid hM
      have HMV := Lib.hid hMv
      have HKW := Lib.hid hkw
      have HNW := Lib.hid hnw
      clear hij hx hP hkw hnw hlr hM hMv hlk hleft
      cases hlf : (upS S x && !has O x) with
      | false =>
        rw [hlf] at hlk0
        have HPN : Hid (putN dc rem S d O x = O) := Lib.hid (by
          unfold putN
          rw [if_neg fun e => by rw [e.1, e.2.1] at hlf; cases hlf])
        clear hlf
        go_wp2_with fail
        go_roundg (n0 - (i + 1))
        case measure => have := HIJ.out; omega
        case rel => exact ⟨i + 1, by have := HIJ.out; omega, by go_num, by rw [HPS.out, HPN.out]; exact HR.out⟩
      | true =>
        rw [hlf] at hlk0
        have hup : upS S x = true ∧ has O x = false := by
          cases h1 : upS S x <;> cases h2 : has O x <;> rw [h1, h2] at hlf <;> first | exact ⟨rfl, rfl⟩ | cases hlf
        have HUP := Lib.hid hup
        clear hlf hup
        go_wp2_with fail
        go_at_call 19
        refine (hDist_tv HP.out.tb x hS).mono ?_
        rintro e w1 ⟨rfl, hk1⟩
        have HK1 := Lib.hid hk1
        by_cases hd : distP dc rem S x = d
        · have HPN : Hid (putN dc rem S d O x = O ++ [x]) := Lib.hid (by
            unfold putN
            rw [if_pos ⟨HUP.out.1, HUP.out.2, hd⟩])
          rw [hd]
          have hP1 := HP.out.keptN hk1
          obtain ⟨es, ck, hupd, hm2⟩ := (HM.out.kept hk1 fun e => e).run_update (P := Tryz.prog) string_emb msbM strU x false
          have hrl := (HM.out.kept hk1 fun e => e).rules es ck
          have b0 := hP1.bl.cell 0
          have b2 := hP1.bo.cell 0
          simp only [List.getElem?_toArray, List.getElem?_cons_zero] at b0 b2
          have cb := (hrl.1 ⟨Bo, 0, none⟩).trans b2
          have hsz2 := hrl.2.2
          have hrow2 : (setBlock w1 ml (.map es ck)).ownsRow w0.heap.size 9 1 (.slice A1 n1 c1) n1 (O.map Value.string) := by
            obtain ⟨es0, ck0, hh0⟩ := (HM.out.kept hk1 fun e => e).heap
            exact own_setBlock hP1.row hh0 _
          obtain ⟨w2, hw2⟩ : ∃ w2, w2 = setBlock w1 ml (.map es ck) := ⟨_, rfl⟩
          rw [← hw2] at hupd hm2 cb hsz2 hrow2
          have HW2 := Lib.hid hw2
          have HM2 := Lib.hid hm2
          have HP1 := Lib.hid hP1
          have HR2 := Lib.hid hrow2
          have hn1 : n1 ≤ 200000 := by have := HP1.out.nlen; have := HPL.out; omega
          have hlow : w0.heap.size ≤ w1.heap.size := HP1.out.kept.size
          clear hd hk1 hP1 hrl b2 hw2 hm2 hrow2 hlk0 hb0 hb1 hidx cx
          go_wp2_with (at_builtin; go_must (refine wpList_append_sl _ strsT rfl (.tmp 27) (.tmp 29) rfl w0.heap.size _ n1 (O.map Value.string) rfl (HR2.out.alloc _) _ 1 [.string x] rfl (Sl.made_at (Blk.new_at w2 9 #[.string x] hsz2.symm) _ rfl rfl one_max) (by simp [Value.oneCell']) ?c1 ?c2 ?_))
          case c1 => omega
          case c2 => simp only [sz_alloc]; omega
          intro v' w4 hap
          obtain ⟨A5, c5, rfl, -, -⟩ := (Sl.of_own hap.own).shape
          obtain ⟨hP5, hk5, hbo4, hnw5⟩ := HP1.out.more HW2.out HMV.out HM2.out hap
          have r0 := hbo4.cell 0
          have f0 := hbo4.frozen 0
          simp only [List.getElem?_toArray, List.getElem?_cons_zero] at r0
          have FIN : Hid (PutR w0 w Bl Bt Bo ml own p dc rem S (O ++ [x]) A n c (w4.setCell ⟨Bo, 0, none⟩ (.slice A5 (n1 + 1) c5))) := Lib.hid (by
            have hsz : w.heap.size ≤ w1.heap.size := Nat.le_trans HKW.out.size HK1.out.size
            refine ⟨A5, n1 + 1, c5, hP5, (HKW.out.trans HK1.out fun _ _ e => e.elim).trans hk5 fun k hk e => ?_, fun k e => ?_⟩
            · rcases e with e | e | e
              · exact .inl e
              · exact .inr (.inl e)
              · rcases HNW.out k e with e | e
                · exact .inr (.inr e)
                · omega
            · rcases hnw5 k e with e | e
              · exact HNW.out k e
              · exact .inr (Nat.le_trans hsz e))
          clear hap hP5 hk5 hbo4 hnw5 cb b0 hsz2 hupd
          go_wp2_with fail
          go_roundg (n0 - (i + 1))
          case measure => have := HIJ.out; omega
          case rel => exact ⟨i + 1, by have := HIJ.out; omega, by go_num, by rw [HPS.out, HPN.out]; exact FIN.out⟩
        · have HPN : Hid (putN dc rem S d O x = O) := Lib.hid (by
            unfold putN
            rw [if_neg fun e => hd e.2.2])
          have hde : (distP dc rem S x == d) = false := by simp [hd]
          generalize distP dc rem S x = dx at *
          have FIN : Hid (PutR w0 w Bl Bt Bo ml own p dc rem S O A n c w1) := Lib.hid ⟨A1, n1, c1, HP.out.keptN hk1, HKW.out.trans hk1 fun _ _ e => e.elim, HNW.out⟩
          clear hd hk1 hlk0 hb0 hb1 hidx cx
          go_wp2_with fail
          go_roundg (n0 - (i + 1))
          case measure => have := HIJ.out; omega
          case rel => exact ⟨i + 1, by have := HIJ.out; omega, by go_num, by rw [HPS.out, HPN.out]; exact FIN.out⟩
    · obtain rfl : i = n0 := by omega
      rw [List.take_of_length_le (Nat.le_of_eq HLN.out)] at hR
      have FIN := Lib.hid hR
      clear hR HR hij
      go_wp2_with fail
      go_end0
      exact ⟨rfl, FIN.out⟩
end
end Go.Proofs.YtepikngkbondgaaGreat
namespace Go.Proofs.YtepikngkbondgaaGreat
set_option linter.unusedVariables false
open Go.RowKit
open Go.ChangeMaps (setBlock)

abbrev VMap := KMap (β := Value) (.int .i64) (fun k : Int => Value.int .i64 k) (fun v : Value => v)
theorem misM : Tryz.prog.underlying 80 = some (.map 3 36) := by kernel_rfl
theorem intU : Tryz.prog.underlying 3 = some (.int .i64) := by kernel_rfl
theorem zero_strs (w : World) : (zeroValue 36).run Tryz.prog w = .ok (.slice none 0 0) w := Tryz.zeroValue36 w
/-- A map of three rows. -/
def FarAt (wr : World) (base mf : Nat) (L : Nat → List ByteArray) : Prop :=
  ∃ (v : Nat → Value) (n : Nat → Nat) (LF : List (Int × Value)), Fam wr base [rS (v 0) (n 0) (L 0), rS (v 1) (n 1) (L 1), rS (v 2) (n 2) (L 2)] ∧ VMap wr mf LF ∧ ∀ d : Nat, d < 3 → (aget (d : Int) LF).getD (.slice none 0 0) = v d
section
variable {wr W w' : World} {base mf d : Nat} {L : Nat → List ByteArray}
theorem FarAt.keptN (h : FarAt wr base mf L) (hk : Kept noBlock wr w') : FarAt w' base mf L := by
  obtain ⟨v, n, LF, h1, h2, h3⟩ := h
  exact ⟨v, n, LF, h1.keptN hk, h2.kept hk (fun e => e), h3⟩
theorem far_row {v : Nat → Value} {n : Nat → Nat} (hd : d < 3) : [rS (v 0) (n 0) (L 0), rS (v 1) (n 1) (L 1), rS (v 2) (n 2) (L 2)][d]? = some (rS (v d) (n d) (L d)) := by
  rcases d with _ | _ | _ | d <;> first | rfl | omega
def updF (L : Nat → List ByteArray) (d : Nat) (x : ByteArray) : Nat → List ByteArray := fun e => if e = d then L d ++ [x] else L e
/-- One of the rows: looked up; what it is behind an append. -/
theorem FarAt.step (h : FarAt wr base mf L) (hd : d < 3) : ∃ A n c, n = (L d).length ∧ (Instr.lookup 80 (.map (some mf)) (.int .i64 (d : Int)) false).run Tryz.prog wr = .ok (.slice A n c) wr ∧ wr.ownsRow base 9 1 (.slice A n c) n ((L d).map Value.string) ∧
    ∀ (W w' : World) (A' : Option Addr) (c' : Nat) (x : ByteArray), Kept noBlock wr W → Appended W w' base 9 1 (.slice A n c) (.slice A' (n + 1) c') (n + 1) ((L d).map Value.string ++ [.string x]) →
      ∃ es ck, (Instr.mapUpdate 80 (.map (some mf)) (.int .i64 (d : Int)) (.slice A' (n + 1) c')).run Tryz.prog w' = .ok () (setBlock w' mf (.map es ck)) ∧ FarAt (setBlock w' mf (.map es ck)) base mf (updF L d x) ∧ (∀ a, (setBlock w' mf (.map es ck)).cell? a = w'.cell? a) ∧ (∀ a, (setBlock w' mf (.map es ck)).frozen? a = w'.frozen? a) ∧ (setBlock w' mf (.map es ck)).heap.size = w'.heap.size := by
  obtain ⟨v, n, LF, h1, h2, h3⟩ := h
  have hrow := h1.get d (far_row hd)
  have hrow' : wr.ownsRow base 9 1 (v d) (n d) ((L d).map Value.string) := hrow
  obtain ⟨A, c, hv, -, -⟩ := (Sl.of_own hrow').shape
  have hlk := h2.run_lookup (P := Tryz.prog) (int_emb .i64) misM intU (zero_strs wr) (d : Int) false
  have hvd := h3 d hd
  rw [hv] at hvd hrow'
  refine ⟨A, n d, c, ?_, ?_, hrow', fun W w' A' c' x hk hap => ?_⟩
  · have := hrow'.1
    rw [List.length_map, Nat.mul_one] at this
    exact this.symm
  · have e : ((aget (d : Int) LF).map fun v : Value => v).getD (.slice none 0 0) = .slice A (n d) c := by rw [← hvd]; cases aget (d : Int) LF <;> rfl
    rw [e] at hlk
    exact hlk
  · have hap' : Appended W w' base 9 1 (v d) (.slice A' (n d + 1) c') (n d + 1) ((L d).map Value.string ++ [.string x]) := by rw [hv]; exact hap
    have hfam := h1.addS d (far_row hd) hk hap'
    have hmw : VMap w' mf LF := by
      obtain ⟨es, ck, hh⟩ := (h2.kept hk fun e => e).heap
      refine (h2.kept hk fun e => e).kept hap'.kept fun e => ?_
      obtain ⟨_, cs, hh2⟩ := own_type (own_keptB hrow hk fun _ _ e => e) e
      rw [hh] at hh2; cases hh2
    obtain ⟨es, ck, hup, hm2⟩ := hmw.run_update (P := Tryz.prog) (int_emb .i64) misM intU (d : Int) (.slice A' (n d + 1) c')
    obtain ⟨r1, r2, r3⟩ := hmw.rules es ck
    refine ⟨es, ck, hup, ⟨fun e => if e = d then .slice A' (n d + 1) c' else v e, fun e => if e = d then n d + 1 else n e, _, ?_, hm2, fun e he => ?_⟩, r1, r2, r3⟩
    · obtain ⟨es0, ck0, hh⟩ := hmw.heap
      have hf2 : Fam (setBlock w' mf (.map es ck)) base ([rS (v 0) (n 0) (L 0), rS (v 1) (n 1) (L 1), rS (v 2) (n 2) (L 2)].set d (rS (.slice A' (n d + 1) c') (n d + 1) (L d ++ [x]))) :=
        ⟨fun i r hr => own_setBlock (hfam.1 i r hr) hh _, hfam.2⟩
      rcases d with _ | _ | _ | d
      · exact hf2
      · exact hf2
      · exact hf2
      · omega
    · show (aget (e : Int) (aput (d : Int) (.slice A' (n d + 1) c') LF)).getD (.slice none 0 0) = if e = d then .slice A' (n d + 1) c' else v e
      rw [aget_aput]
      by_cases hed : e = d
      · rw [if_pos hed, if_pos (by rw [hed])]; rfl
      · rw [if_neg hed, if_neg (by omega)]; exact h3 e he
theorem FarAt.new {w : World} (hm : VMap w mf []) : FarAt w base mf fun _ => [] :=
  ⟨fun _ => .slice none 0 0, fun _ => 0, [], ((Fam.nil.more 9 1).more 9 1).more 9 1, hm, fun _ _ => rfl⟩
end
end Go.Proofs.YtepikngkbondgaaGreat
namespace Go.Proofs.YtepikngkbondgaaGreat
set_option linter.unusedVariables false
open Go.RowKit

set_option maxHeartbeats 1000000 in
set_option maxRecDepth 100000 in
theorem SGrow_at (n : Nat) (w : World) (hn : n ≤ 100000) :
    Calls Tryz.prog 75 #[.slice none 0 0, .int .i64 n] w fun e w' => ∃ v, e = .returned v ∧ w'.ownsRow w.heap.size 9 1 v 0 [] ∧ Kept noBlock w w' := by
  by_cases h0 : n = 0
  · subst h0
    go_enter Tryz.func75, Tryz.ntmps75
    go_wp2
    go_ret
    exact ⟨_, rfl, World.ownsRow_nil _ _ _ _, Kept.refl _ _⟩
  · obtain ⟨i0, hi0, hz0, hs0, hb0⟩ := info_parts strsT.info
    have hold : (Builtin.firstCells i0.size 0 (.slice none 0 0)).run Tryz.prog w.drew = .ok #[] w.drew := run_firstCells_none w.drew i0.size 0 0 0
    have hfit : Builtin.nextslicecap (0 + n) 0 * i0.bytes ≤ 281474976710656 := growslice_fits (by omega) (by rw [hb0]; omega)
    have hrz := fun ty => Lib.run_append_grow_zeros (P := Tryz.prog) w 36 3 ty 9 i0 _ .i64 .i64 Tryz.underlying36 Tryz.underlying3 hi0 hz0 none 0 0 [] hold n (by omega) (by rw [hs0]; decide) (by omega) (by omega) (by rw [hb0]; omega) hfit
    have hGn : n ≤ grownCap w (0 + n) 0 9 := by have := grownCap_ge w (0 + n) 0 9; omega
    have hGm : grownCap w (0 + n) 0 9 ≤ maxLen := grownCap_le_maxLen w (0 + n) 0 9 (by unfold maxLen; omega)
    generalize grownCap w (0 + n) 0 9 = G at *
    have hG63 : G ≤ 9223372036854775807 := by unfold maxLen at hGm; omega
    simp only [Nat.zero_add] at hrz
    obtain ⟨cs, hcs⟩ : ∃ cs : Array Value, cs = (#[] : Array Value) ++ Builtin.zeroCells (Value.string noStr).cells n ++ Builtin.zeroCells (Value.string noStr).cells (G - n) := ⟨_, rfl⟩
    have hrz2 : ∀ ty, (Builtin.append_ #[36, 3] ty #[.slice none 0 0, .int .i64 n]).run Tryz.prog w = .ok (.slice (some ⟨w.heap.size, 0, none⟩) n G) (w.drew.alloc (.cells cs 9)) := fun ty => by rw [hcs]; exact hrz ty
    have hsz : cs.size = G * 1 := by rw [hcs]; simp [Builtin.zeroCells, Value.cells]; omega
    have hown : ((w.alloc (.cells cs 9)).drew).ownsRow w.heap.size 9 1 (.slice (some ⟨w.heap.size, 0, none⟩) 0 G) 0 [] :=
      ⟨rfl, .inr ⟨w.heap.size, G, cs, rfl, Nat.le_refl _, heap_alloc_new w _, Nat.zero_le _, hGm, hsz, by simp⟩⟩
    have HO := Lib.hid hown
    have HK := Lib.hid (((Kept.refl noBlock w).alloc (.cells cs 9)).drew)
    clear hcs hrz hsz
    clear hown hold hfit hi0 hz0 hs0 hb0
    go_enter Tryz.func75, Tryz.ntmps75
    go_wp2_with (at_builtin; refine Lib.wpList_append_run _ rfl _ _ _ _ rfl _ _ rfl rfl _ _ (hrz2 _) ?_)
    all_goals (go_ret; exact ⟨_, rfl, HO.out, HK.out⟩)

set_option maxHeartbeats 2000000 in
set_option maxRecDepth 100000 in
theorem SConcat_at {w : World} {gb : Nat} {v1 v2 : Value} {L1 L2 : List ByteArray} (hb : Blk w gb 36 #[v1, v2]) (h1 : Sl w 9 1 v1 L1.length (L1.map Value.string)) (h2 : Sl w 9 1 v2 L2.length (L2.map Value.string)) (hn : L1.length + L2.length ≤ 100000) :
    Calls Tryz.prog 52 #[.slice (some ⟨gb, 0, none⟩) 2 2] w fun e w' => ∃ v, e = .returned v ∧ w'.ownsRow w.heap.size 9 1 v (L1 ++ L2).length ((L1 ++ L2).map Value.string) ∧ Kept noBlock w w' := by
  obtain ⟨A1, c1, rfl, -, -⟩ := h1.shape
  obtain ⟨A2, c2, rfl, -, -⟩ := h2.shape
  have l1 := h1.run_len strsT
  have l2 := h2.run_len strsT
  have H1 := Lib.hid h1
  have H2 := Lib.hid h2
  have HB := Lib.hid hb
  have z0 := hb.cell 0
  have z1 := hb.cell 1
  simp only [List.getElem?_toArray, List.getElem?_cons_zero, List.getElem?_cons_succ] at z0 z1
  clear h1 h2 hb
  have HL := Lib.hid (show (L1 ++ L2).length = L1.length + L2.length by simp)
  generalize hn1 : L1.length = n1 at *
  generalize hn2 : L2.length = n2 at *
  have HN1 := Lib.hid hn1
  have HN2 := Lib.hid hn2
  clear hn1 hn2
  go_enter Tryz.func52, Tryz.ntmps52
  go_wp2_with fail
  go_loopg [3, 11] 2 (fun j vs vi wr => ∃ i : Nat, i + j = 2 ∧ vi = .int .i64 i ∧ vs = .int .i64 (if i = 0 then 0 else if i = 1 then n1 else n1 + n2 : Nat) ∧ wr = w)
  case atStart => exact ⟨0, rfl, rfl, rfl, rfl⟩
  case round =>
    obtain ⟨i, hij, rfl, rfl, rfl⟩ := hrel
    have hi : i = 0 ∨ i = 1 ∨ i = 2 := by omega
    rcases hi with rfl | rfl | rfl
    · simp only [if_true]
      go_wp2
      go_roundg 1
      case measure => omega
      case rel => exact ⟨1, rfl, by go_num, by go_num, rfl⟩
    · simp only [if_true, Nat.one_ne_zero, if_false]
      go_wp2
      go_roundg 0
      case measure => omega
      case rel => exact ⟨2, rfl, by go_num, by go_num, rfl⟩
    · have e2 : (if (2 : Nat) = 0 then 0 else if (2 : Nat) = 1 then n1 else n1 + n2) = n1 + n2 := rfl
      rw [e2]
      have HG := Lib.hid (SGrow_at (n1 + n2) wr hn)
      generalize n1 + n2 = N at HG ⊢
      go_wp2_with fail
      go_at_call 75
      refine HG.out.mono ?_
      rintro e w1 ⟨v3, rfl, hown3, hk3⟩
      have START := Lib.hid (⟨hown3, hk3⟩ : w1.ownsRow wr.heap.size 9 1 v3 0 [] ∧ Kept noBlock wr w1)
      obtain ⟨wz, hwz⟩ : ∃ wz, wz = wr := ⟨wr, rfl⟩
      subst hwz
      clear hown3 hk3 HG z0 z1
      go_wp2_with fail
      go_loopg [6, 27] 2 (fun j v6 vi wx => ∃ i : Nat, i + j = 2 ∧ vi = .int .i64 i ∧ Kept noBlock wz wx ∧ ((i = 0 ∧ wx.ownsRow wz.heap.size 9 1 v6 0 []) ∨ (i = 1 ∧ wx.ownsRow wz.heap.size 9 1 v6 n1 (L1.map Value.string)) ∨ (i = 2 ∧ wx.ownsRow wz.heap.size 9 1 v6 (n1 + n2) (L1.map Value.string ++ L2.map Value.string))))
      case atStart => exact ⟨0, rfl, rfl, START.out.2, .inl ⟨rfl, START.out.1⟩⟩
      case round =>
        obtain ⟨i, hij, rfl, hk, hd⟩ := hrel
        have hb5 := HB.out.kept hk (fun h => h)
        have z0 := hb5.cell 0
        have z1 := hb5.cell 1
        simp only [List.getElem?_toArray, List.getElem?_cons_zero, List.getElem?_cons_succ] at z0 z1
        have hz := hk.size
        have HK := Lib.hid hk
        clear hb5 START
        rcases hd with ⟨rfl, hown⟩ | ⟨rfl, hown⟩ | ⟨rfl, hown⟩
        · have HS := Lib.hid (SlK.keptNone H1.out hk)
          have HO := Lib.hid hown
          clear hk hown
          go_wp2_with (at_builtin; go_must (refine wpList_append_sl _ strsT rfl (.tmp 31) (.tmp 32) rfl wz.heap.size _ 0 [] rfl HO.out _ n1 (L1.map Value.string) rfl HS.out (fun u hu => by obtain ⟨x, -, rfl⟩ := List.mem_map.1 hu; rfl) ?c1 ?c2 ?_))
          case c1 => omega
          case c2 => first | omega | (simp; omega)
          intro v' w3 hap
          have HK3 := Lib.hid (hap.below HO.out HK.out (Nat.le_refl _))
          have HO3 := Lib.hid hap.own
          clear hap
          go_wp2
          go_roundg 1
          case measure => omega
          case rel => exact ⟨1, rfl, by go_num, HK3.out, .inr (.inl ⟨rfl, by simpa using HO3.out⟩)⟩
        · have HS := Lib.hid (SlK.keptNone H2.out hk)
          have HO := Lib.hid hown
          clear hk hown
          go_wp2_with (at_builtin; go_must (refine wpList_append_sl _ strsT rfl (.tmp 31) (.tmp 32) rfl wz.heap.size _ n1 (L1.map Value.string) rfl HO.out _ n2 (L2.map Value.string) rfl HS.out (fun u hu => by obtain ⟨x, -, rfl⟩ := List.mem_map.1 hu; rfl) ?d1 ?d2 ?_))
          case d1 => omega
          case d2 => first | omega | (simp; omega)
          intro v' w3 hap
          have HK3 := Lib.hid (hap.below HO.out HK.out (Nat.le_refl _))
          have HO3 := Lib.hid hap.own
          clear hap
          go_wp2
          go_roundg 0
          case measure => omega
          case rel => exact ⟨2, rfl, by go_num, HK3.out, .inr (.inr ⟨rfl, HO3.out⟩)⟩
        · have HS := Lib.hid hown
          clear hk hown z0 z1
          go_wp2
          go_ret
          refine ⟨_, rfl, ?_, HK.out⟩
          rw [HL.out, List.map_append]
          exact HS.out
end Go.Proofs.YtepikngkbondgaaGreat
namespace Go.Proofs.YtepikngkbondgaaGreat
set_option linter.unusedVariables false
open Go.RowKit

set_option maxHeartbeats 4000000 in
set_option maxRecDepth 100000 in
theorem plTurned_at {w : World} {A : Option Addr} {n c : Nat} {l : List ByteArray} {k : Nat} (h : Sl w 9 1 (.slice A n c) n (l.map Value.string)) (hn : n ≤ 1000) (hk : k < 18446744073709551616) :
    Calls Tryz.prog 32 #[.slice A n c, .int .u64 (k : Int)] w fun e w' => ∃ A' c', e = .returned (.slice A' n c') ∧ w'.ownsRow w.heap.size 9 1 (.slice A' n c') n ((turnL l k).map Value.string) ∧ Kept noBlock w w' := by
  have hl : l.length = n := by have := h.len; rw [List.length_map, Nat.mul_one] at this; exact this
  have hlen := h.run_len strsT
  by_cases h0 : n = 0
  · subst h0
    have h1 : l = [] := List.eq_nil_of_length_eq_zero hl
    subst h1
    clear h hl
    go_enter Tryz.func32, Tryz.ntmps32
    go_wp2
    go_ret
    exact ⟨none, 0, rfl, by rw [show turnL [] k = [] by unfold turnL; simp]; exact World.ownsRow_nil _ _ _ _, Kept.refl _ _⟩
  · have hr : k % n < n := Nat.mod_lt _ (by omega)
    have hkn : ((k : Int) % (n : Int)) = ((k % n : Nat) : Int) := by simp
    have hne : ((n : Int) == 0) = false := by simp [h0]
    obtain ⟨A1, c1, hfrom, hs1⟩ := h.run_from strsT (i := ((k % n : Nat) : Int)) (k := k % n) rfl (by omega)
    obtain ⟨A2, c2, hto, hs2⟩ := h.run_to strsT (i := ((k % n : Nat) : Int)) (k := k % n) rfl (by omega)
    rw [Nat.mul_one, ← List.map_drop] at hs1
    rw [Nat.mul_one, ← List.map_take] at hs2
    have HT : Hid (turnL l k = l.drop (k % n) ++ l.take (k % n)) := Lib.hid (by unfold turnL; rw [hl])
    have hl1 : (l.drop (k % n)).length = n - k % n := by rw [List.length_drop, hl]
    have hl2 : (l.take (k % n)).length = k % n := by rw [List.length_take, hl]; omega
    have HS1 := Lib.hid hs1
    have HS2 := Lib.hid hs2
    have HL1 := Lib.hid hl1
    have HL2 := Lib.hid hl2
    have HHL := Lib.hid hl
    have hwk : wrap64 ((k % n : Nat) : Int) = ((k % n : Nat) : Int) := by unfold wrap64; omega
    have hwn : IntKind.u64.wrap (n : Int) = (n : Int) := by rw [IntKind.wrap_u64]; omega
    have hmod : ∀ b : Int, b = n → ((k : Int) % b) = ((k % n : Nat) : Int) := fun b e => by rw [e, hkn]
    have hsz : ¬ (n : Int) = 0 := by omega
    clear h hs1 hs2 hl1 hl2 hl hkn
    generalize k % n = r at *
    go_enter Tryz.func32, Tryz.ntmps32
    go_wp2_with fail
    refine wp_region_sch (fun w' => Kept noBlock w w') (.take 0 (.take 1 (.take 2 (.take 3 (.take 4 (.take 5 (.one 6 (.one 7 (.take 8 .nil))))))))) (by kernel_rfl) (by kernel_rfl) (by kernel_rfl) (Kept.refl _ _).drew ?_
    repeat (first
      | (refine sch_takeE rfl rfl ?_
         apply Exists.intro
         refine ⟨fun w' hS => ?_, fun K hK => ?_⟩
         · (clear hS
            unfold takesAt; go_simp; rfl)
         go_simp
         refine hK _ ?_
         clear hK K))
    refine sch_doK rfl rfl (fun K hK => ?_)
    go_simp
    refine hK _ _ (((Kept.refl noBlock w).alloc _).drew) ?_
    clear hK K
    refine sch_doK rfl rfl (fun K hK => ?_)
    go_simp
    go_at_call 52
    have hk3 := ((Kept.refl noBlock w).alloc (.cells #[.slice A1 (n - r) c1, .slice A2 r c2] 36)).drew
    refine (SConcat_at (L1 := l.drop r) (L2 := l.take r) (gb := w.heap.size) (v1 := .slice A1 (n - r) c1) (v2 := .slice A2 r c2) ((Blk.new w 36 #[.slice A1 (n - r) c1, .slice A2 r c2]).drew) (by rw [HL1.out]; exact SlK.keptNone HS1.out hk3) (by rw [HL2.out]; exact SlK.keptNone HS2.out hk3) (by rw [HL1.out, HL2.out]; omega)).mono ?_
    rintro e w4 ⟨v4, rfl, hs4, hk4⟩
    have hk5 := hk3.trans hk4 (fun _ _ h => h)
    have hln : (l.drop r ++ l.take r).length = n := by rw [List.length_append, HL1.out, HL2.out]; omega
    rw [hln] at hs4
    obtain ⟨A4, c4, rfl, -, -⟩ := (Sl.of_own hs4).shape
    replace hs4 := own_base (B := w.heap.size) hs4 (by simp)
    refine hK _ _ hk5 ?_
    clear hK K
    have FIN := Lib.hid (And.intro hs4 hk5)
    clear hs4 hk5 hk3 hk4 hln hmod
    repeat (first
      | (refine sch_takeE rfl rfl ?_
         apply Exists.intro
         refine ⟨fun w' hS => ?_, fun K hK => ?_⟩
         · (clear hS
            unfold takesAt; go_simp; rfl)
         go_simp
         refine hK _ ?_
         clear hK K))
    refine sch_nil (NoPanic.normal ?_)
    go_wp2
    go_ret
    exact ⟨A4, c4, rfl, by rw [HT.out]; exact FIN.out.1, FIN.out.2⟩
end Go.Proofs.YtepikngkbondgaaGreat
namespace Go.Proofs.YtepikngkbondgaaGreat
set_option linter.unusedVariables false
open Go.RowKit
open Go.ChangeMaps (setBlock)

/-- What Replicas hands back. -/
def ReplTold (w : World) (S : List Ho) (k : Int) (fs : List Fa) (t : Int) (e : Ending) (w' : World) : Prop :=
  ∃ A n c, e = .returned (.slice A n c) ∧ n = (replP S k fs t).length ∧ n ≤ 40200 ∧ Sl w' 9 1 (.slice A n c) n ((replP S k fs t).map Value.string) ∧ Kept noBlock w w'
theorem repl_simple {S : List Ho} {k t : Int} {fs : List Fa} (h : fs.length = 0) : replP S k fs t = (ringW S t).take (max (min k ((ringW S t).length : Int)) 0).toNat := by unfold replP; rw [if_pos h]
theorem repl_net {S : List Ho} {k t : Int} {fs : List Fa} (h : fs.length ≠ 0) (h2 : (fs.map (·.1)).Nodup) : replP S k fs t = refOut (sitesOfL (sitesS S) (ringW S t)) fs := by unfold replP; rw [if_neg h, if_pos h2]
theorem repl_dup {S : List Ho} {k t : Int} {fs : List Fa} (h : fs.length ≠ 0) (h2 : ¬ (fs.map (·.1)).Nodup) : replP S k fs t = [] := by unfold replP; rw [if_neg h, if_neg h2]
theorem refRing_len {S : List Ho} (h : (pairsH S).length ≤ 1000) : (refRing S).length ≤ 1000 := by
  have h1 := (ring_perm S).length_eq
  have h2 := take_len (pairsH S)
  unfold placesP at h1
  omega
theorem sites_step {S : List Ho} {i : Nat} {o : Ho} (h : S[i]? = some o) : (sitesS (S.take (i + 1))).flatMap sC = (sitesS (S.take i)).flatMap sC ++ [.string o.name, .string o.dc, .string o.rack] := by
  unfold sitesS
  rw [List.take_add_one, h, List.map_append, List.flatMap_append]; rfl
set_option maxHeartbeats 4000000 in
set_option maxRecDepth 100000 in
theorem plRepl_at {w : World} {own : Nat → Prop} {p : Option Addr} {dc : ByteArray} {rem k t : Int} {S : List Ho} {fs : List Fa} {A : Option Addr} {nf c : Nat} {ok : Nat → TypeId → Prop} (hT : TV w own p dc rem S) (hok : HoOk S 20 20) (hf : SlK w ok 2 (.slice A nf c) nf (fs.flatMap fC)) (hfl : fs.length = nf) (hfs : nf ≤ 1000) (hfn : ∀ f ∈ fs, -9223372036854775808 ≤ f.2 ∧ f.2 < 9223372036854775808) :
    Calls Tryz.prog 12 #[.pointer p, .agg #[.int .i64 k, .slice A nf c], .int .i64 t] w (ReplTold w S k fs t) := by
  have hbz : Blk (w.alloc (.cells #[.int .i64 k, .slice A nf c] 25)) w.heap.size 25 #[.int .i64 k, .slice A nf c] := Blk.new _ _ _
  have hkz : Kept noBlock w (w.alloc (.cells #[.int .i64 k, .slice A nf c] 25)) := (Kept.refl _ _).alloc _
  have HB := Lib.hid hbz
  have HKZ := Lib.hid hkz
  have HT := Lib.hid (hT.keptN hkz)
  have HF := Lib.hid (hf.keptNone hkz)
  have HOK := Lib.hid hok
  have HFL := Lib.hid hfl
  have HFN := Lib.hid hfn
  have HPP : Hid ((pairsH S).length ≤ 1000) := Lib.hid (Nat.le_trans hok.pairs (by decide))
  have HWL : Hid ((ringW S t).length ≤ 20) := Lib.hid (Nat.le_trans (ringW_len t) hok.len)
  have z0 := hbz.cell 0
  have z1 := hbz.cell 1
  simp only [List.getElem?_toArray, List.getElem?_cons_succ, List.getElem?_cons_zero] at z0 z1
  have hlf := HF.out.run_len facsT
  clear hbz hkz hT hf hok hfl hfn
  by_cases h0 : nf = 0
  · have HRS := Lib.hid (repl_simple (S := S) (k := k) (t := t) (fs := fs) (HFL.out.trans h0))
    subst h0
    go_enter Tryz.func12, Tryz.ntmps12
    go_wp2_with fail
    generalize w.heap.size = bz at *
    generalize w.alloc (.cells #[.int .i64 k, .slice A 0 c] 25) = wz at *
    refine wp_region_sch (fun w' => Kept noBlock wz w') (.take 0 (.take 2 (.take 3 (.take 4 (.one 1 (.one 5 (.take 6 .nil))))))) (by kernel_rfl) (by kernel_rfl) (by kernel_rfl) (Kept.refl _ _).drew ?_
    repeat (first
      | (refine sch_takeE rfl rfl ?_
         apply Exists.intro
         refine ⟨fun w' hS => ?_, fun K hK => ?_⟩
         · (have q0 := hS.cellOf z0
            clear hS
            unfold takesAt; go_simp; rfl)
         go_simp
         refine hK _ ?_
         clear hK K))
    refine sch_doK rfl rfl (fun K hK => ?_)
    go_simp
    go_at_call 26
    refine (hRing_tv (HT.out.keptN ((Kept.refl _ _).drew)) (Nat.le_trans HOK.out.len (by decide)) (fun o ho => Nat.le_trans (HOK.out.tk o ho) (by decide)) HPP.out HOK.out.nm).mono ?_
    rintro e w1 ⟨q, rfl, hr1, hk1⟩
    have hk1' := ((Kept.refl noBlock wz).drew).trans hk1 fun _ _ e => e
    refine hK _ _ hk1' ?_
    clear hK K
    refine sch_doK rfl rfl (fun K hK => ?_)
    go_simp
    go_at_call 25
    refine (Simple_tv (t := t) (n := k) hr1 (refRing_spec S).1 (refRing_len HPP.out)).mono ?_
    rintro e w2 ⟨A2, c2, rfl, hs2, hk2⟩
    have hk2' := hk1'.trans hk2 fun _ _ e => e
    refine hK _ _ hk2' ?_
    clear hK K
    have FIN : Hid (ReplTold w S k fs t (.returned (.slice A2 (max (min k ((rwalk (refRing S) t).length : Int)) 0).toNat c2)) w2) := Lib.hid (by
      have h1 : (max (min k ((ringW S t).length : Int)) 0).toNat ≤ (ringW S t).length := by omega
      refine ⟨A2, _, c2, rfl, ?_, ?_, ?_, HKZ.out.trans hk2' fun _ _ e => e⟩
      · rw [HRS.out, List.length_take]; exact (Nat.min_eq_left h1).symm
      · have := HWL.out
        show (max (min k ((ringW S t).length : Int)) 0).toNat ≤ 40200
        omega
      · rw [HRS.out]; exact hs2)
    clear hk1 hk1' hk2 hk2' hr1 hs2
    generalize (max (min k ((rwalk (refRing S) t).length : Int)) 0).toNat = n2 at *
    repeat (first
      | (refine sch_takeE rfl rfl ?_
         apply Exists.intro
         refine ⟨fun w' hS => ?_, fun K hK => ?_⟩
         · (clear hS
            unfold takesAt; go_simp; rfl)
         go_simp
         refine hK _ ?_
         clear hK K))
    refine sch_nil (NoPanic.normal ?_)
    go_wp2
    go_ret
    exact FIN.out
  · go_enter Tryz.func12, Tryz.ntmps12
    go_wp2_with fail
    go_at_call 17
    generalize w.heap.size = bz at *
    generalize w.alloc (.cells #[.int .i64 k, .slice A nf c] 25) = wz at *
    refine (hAll_tv HT.out (Nat.le_trans HOK.out.len (by decide)) fun o ho => Nat.le_trans (HOK.out.tk o ho) (by decide)).mono ?_
    rintro e w1 ⟨A1, n1, c1, T, rfl, hto, hk1⟩
    have hl1 := (Sl.of_own hto.row).run_len hostsT
    have HSN : Hid (S.length = n1) := Lib.hid hto.slen
    have HN1 : Hid (n1 ≤ 20) := Lib.hid (by have := HOK.out.len; have := hto.slen; omega)
    have HTO := Lib.hid hto
    have HK1 := Lib.hid hk1
    clear hto hk1
    go_wp2_with fail
    go_loopg [7, 25] n1 (fun j vs vi wr => ∃ i : Nat, i + j = n1 ∧ vi = .int .i64 i ∧ wr.ownsRow w1.heap.size 66 3 vs i ((sitesS (S.take i)).flatMap sC) ∧ Kept noBlock w1 wr)
    case atStart => exact ⟨0, by omega, rfl, World.ownsRow_nil _ _ _ _, Kept.refl _ _⟩
    case round =>
      obtain ⟨i, hij, rfl, hown, hk⟩ := hrel
      have HIJ := Lib.hid hij
      have HO := Lib.hid hown
      have HK := Lib.hid hk
      have hzs := hk.size
      by_cases hi : i < n1
      · have hi20 : i < 100 := by have := HN1.out; omega
        obtain ⟨o, ho⟩ : ∃ o, S[i]? = some o := ⟨_, List.getElem?_eq_getElem (by have := HSN.out; omega)⟩
        obtain ⟨x, gx, ox, -, hxo, hidx, y0, y1, y2, y3, y4⟩ := (HTO.out.keptN hk).at ho
        have HNX := Lib.hid (sites_step ho)
        obtain ⟨x1, x2, x3, x4, x5, x6, x7, x8⟩ := x
        subst hxo
        simp only [HV.abs] at y0 y1 y2 y3 y4 HNX
        have hb : Blk (wr.alloc (.cells #[.string x1, .string x2, .string x3, .slice x4 x5 x6, .bool x8] 48)) wr.heap.size 48 #[.string x1, .string x2, .string x3, .slice x4 x5 x6, .bool x8] := Blk.new _ _ _
        have u0 := hb.cell 0
        have u1 := hb.cell 1
        have u2 := hb.cell 2
        simp only [List.getElem?_toArray, List.getElem?_cons_succ, List.getElem?_cons_zero] at u0 u1 u2
        have hka : Kept noBlock wr (wr.alloc (.cells #[.string x1, .string x2, .string x3, .slice x4 x5 x6, .bool x8] 48)) := (Kept.refl _ _).alloc _
        have HO1 := Lib.hid (HO.out.alloc (.cells #[.string x1, .string x2, .string x3, .slice x4 x5 x6, .bool x8] 48))
        have HK1a := Lib.hid (HK.out.trans hka fun _ _ e => e)
        have hsz : (wr.alloc (.cells #[.string x1, .string x2, .string x3, .slice x4 x5 x6, .bool x8] 48)).heap.size = wr.heap.size + 1 := sz_alloc _ _
        clear hij hown hk ho hb hka
        go_wp2_with (at_builtin; go_must (refine wpList_append_sl _ sitesT rfl (.tmp 29) (.tmp 37) rfl w1.heap.size _ i ((sitesS (S.take i)).flatMap sC) rfl (HO1.out.alloc _) _ 1 [.string x1, .string x2, .string x3] rfl (Sl.made_at (Blk.new_at _ 66 #[.string x1, .string x2, .string x3] hsz.symm) _ rfl rfl one_max) (by simp [Value.oneCell']) ?c1 ?c2 ?_))
        case c1 => have := HN1.out; omega
        case c2 => simp only [sz_alloc]; omega
        intro v' w3 hap
        have HK3 := Lib.hid (hap.below (HO1.out.alloc _) (HK1a.out.alloc _) (Nat.le_refl _))
        have HO3 := Lib.hid hap.own
        clear hap
        go_wp2
        go_roundg (n1 - (i + 1))
        case measure => have := HIJ.out; omega
        case rel => exact ⟨i + 1, by have := HIJ.out; omega, by go_num, by rw [HNX.out]; exact HO3.out, HK3.out⟩
      · obtain rfl : i = n1 := by omega
        have hs7 := Sl.of_own hown
        rw [List.take_of_length_le (Nat.le_of_eq HSN.out)] at hs7
        have hze : (sitesS S).length = i := by unfold sitesS; rw [List.length_map]; exact HSN.out
        rw [← hze] at hs7
        obtain ⟨A7, c7, rfl, -, -⟩ := hs7.shape
        have HS7 := Lib.hid hs7
        have HZE := Lib.hid hze
        have hkz1 := HK1.out.trans hk fun _ _ e => e
        have HKz1 := Lib.hid hkz1
        have HTr := Lib.hid (HT.out.keptN hkz1)
        have HFr := Lib.hid (HF.out.keptNone hkz1)
        have z1r := hkz1.cellOf z1
        clear hij hown hk hs7 hze hkz1 z0 z1 HO HK HTO
        go_wp2_with fail
        refine wp_region_sch (fun w' => Kept noBlock wr w') (.take 0 (.take 2 (.take 3 (.take 4 (.take 5 (.one 1 (.one 6 (.take 7 (.take 8 (.take 9 (.take 10 (.take 11 .nil)))))))))))) (by kernel_rfl) (by kernel_rfl) (by kernel_rfl) (Kept.refl _ _).drew ?_
        repeat (first
          | (refine sch_takeE rfl rfl ?_
             apply Exists.intro
             refine ⟨fun w' hS => ?_, fun K hK => ?_⟩
             · (have q1 := hS.cellOf z1r
                clear hS
                unfold takesAt; go_simp; rfl)
             go_simp
             refine hK _ ?_
             clear hK K))
        refine sch_doK rfl rfl (fun K hK => ?_)
        go_simp
        go_at_call 26
        refine (hRing_tv (HTr.out.keptN ((Kept.refl _ _).drew)) (Nat.le_trans HOK.out.len (by decide)) (fun o ho => Nat.le_trans (HOK.out.tk o ho) (by decide)) HPP.out HOK.out.nm).mono ?_
        rintro e w2 ⟨q, rfl, hr2, hk2⟩
        have hk2' := ((Kept.refl noBlock wr).drew).trans hk2 fun _ _ e => e
        refine hK _ _ hk2' ?_
        clear hK K
        refine sch_doK rfl rfl (fun K hK => ?_)
        go_simp
        go_at_call 27
        refine (Network_tv (t := t) hr2 (refRing_spec S).1 (refRing_len HPP.out) (Nat.le_trans HWL.out (by decide)) (HS7.out.keptNone hk2') (fs := fs) (by rw [HFL.out]; exact HFr.out.keptNone hk2') (by have := HN1.out; have := HZE.out; omega) (by rw [HFL.out]; exact hfs) HFN.out).mono ?_
        rintro e w3 ⟨hk3, ⟨h1, rfl⟩ | ⟨h1, -, A9, n9, c9, out, rfl, hn9, hn9b, hs9, hout, -⟩⟩
        · have hk3' := hk2'.trans hk3 fun _ _ e => e
          refine hK _ _ hk3' ?_
          clear hK K
          have FIN : Hid (ReplTold w S k fs t (.returned (.slice none 0 0)) w3) := Lib.hid (by
            have h2 : replP S k fs t = [] := repl_dup (by rw [HFL.out]; exact h0) (h1.resolve_right fun ⟨x, hx, e⟩ => by
              obtain ⟨s, hs⟩ := ringW_site (S := S) (t := t) x hx
              rw [e] at hs; cases hs)
            refine ⟨none, 0, 0, rfl, by rw [h2]; rfl, by decide, by rw [h2]; exact Sl.nil _ _ _, HKZ.out.trans (HKz1.out.trans hk3' fun _ _ e => e) fun _ _ e => e⟩)
          clear hk2 hk2' hk3 hk3' hr2 h1
          repeat (first
            | (refine sch_takeE rfl rfl ?_
               apply Exists.intro
               refine ⟨fun w' hS => ?_, fun K hK => ?_⟩
               · (clear hS
                  unfold takesAt; go_simp; rfl)
               go_simp
               refine hK _ ?_
               clear hK K))
          refine sch_nil (NoPanic.normal ?_)
          go_wp2
          go_ret
          exact FIN.out
        · have hk3' := hk2'.trans hk3 fun _ _ e => e
          refine hK _ _ hk3' ?_
          clear hK K
          have FIN : Hid (ReplTold w S k fs t (.returned (.slice A9 n9 c9)) w3) := Lib.hid (by
            have h2 : replP S k fs t = out := (repl_net (by rw [HFL.out]; exact h0) h1).trans hout.symm
            refine ⟨A9, n9, c9, rfl, by rw [h2]; exact hn9, hn9b, by rw [h2]; exact hs9, HKZ.out.trans (HKz1.out.trans hk3' fun _ _ e => e) fun _ _ e => e⟩)
          clear hk2 hk2' hk3 hk3' hr2 h1 hn9 hn9b hs9 hout
          repeat (first
            | (refine sch_takeE rfl rfl ?_
               apply Exists.intro
               refine ⟨fun w' hS => ?_, fun K hK => ?_⟩
               · (clear hS
                  unfold takesAt; go_simp; rfl)
               go_simp
               refine hK _ ?_
               clear hK K))
          refine sch_nil (NoPanic.normal ?_)
          go_wp2
          go_ret
          exact FIN.out
end Go.Proofs.YtepikngkbondgaaGreat
namespace Go.Proofs.YtepikngkbondgaaGreat
set_option linter.unusedVariables false
open Go.RowKit
open Go.ChangeMaps (setBlock)

/-- What Plan hands back. -/
def TextsTold (w : World) (L : List ByteArray) (e : Ending) (w' : World) : Prop :=
  ∃ A n c, e = .returned (.slice A n c) ∧ n = L.length ∧ Sl w' 9 1 (.slice A n c) n (L.map Value.string) ∧ Kept noBlock w w'
/-- .. as a row of its own. -/
def TextsOwn (w : World) (L : List ByteArray) (e : Ending) (w' : World) : Prop :=
  ∃ A n c, e = .returned (.slice A n c) ∧ n = L.length ∧ w'.ownsRow w.heap.size 9 1 (.slice A n c) n (L.map Value.string) ∧ Kept noBlock w w'
def farK (dc : ByteArray) (rem : Int) (S : List Ho) (i d : Nat) : List ByteArray := ((S.take i).filter fun o => decide (distP dc rem S o.name = (d : Int))).map (·.name)
theorem farK_step {dc : ByteArray} {rem : Int} {S : List Ho} {i : Nat} {o : Ho} (h : S[i]? = some o) {e : Nat} (he : distP dc rem S o.name = (e : Int)) : farK dc rem S (i + 1) = updF (farK dc rem S i) e o.name := by
  funext d
  unfold farK updF
  rw [List.take_add_one, h, List.filter_append, List.map_append]
  by_cases hd : d = e
  · subst hd
    rw [if_pos rfl]; simp [he]
  · rw [if_neg hd]
    have : decide (distP dc rem S o.name = (d : Int)) = false := by simp [he]; omega
    simp [this]
theorem dist_cases (dc : ByteArray) (rem : Int) (S : List Ho) (x : ByteArray) : ∃ e : Nat, e < 3 ∧ distP dc rem S x = (e : Int) := by
  unfold distP
  split
  · exact ⟨0, by decide, rfl⟩
  · split
    · exact ⟨1, by decide, rfl⟩
    · split
      · exact ⟨2, by decide, rfl⟩
      · exact ⟨0, by decide, rfl⟩
theorem up_step {S : List Ho} (hS : risingH S) {i : Nat} {o : Ho} (h : S[i]? = some o) (x : ByteArray) : upS (S.take (i + 1)) x = if o.name = x then o.up else upS (S.take i) x := by
  have e1 : S.take (i + 1) = S.take i ++ [o] := by rw [List.take_add_one, h]; rfl
  have hne : getS o.name (S.take i) = none := getS_none.2 fun a ha e => by
    have h1 : (S.take i ++ [o]).Pairwise fun a b => a.name ≠ b.name := by
      rw [← e1]; exact (rising_ne hS).sublist (List.take_sublist _ _)
    exact (List.pairwise_append.1 h1).2.2 a ha o (by simp) e
  unfold upS
  rw [e1]
  unfold getS at *
  rw [List.find?_append]
  by_cases e : o.name = x
  · subst e
    rw [if_pos rfl, hne]; simp
  · rw [if_neg e]
    have : ([o].find? fun h => decide (h.name = x)) = none := by simp [e]
    rw [this, Option.or_none]
/-- Where Plan's first loop stands. -/
structure PlanR (w6 wr : World) (mf ml : Nat) (dc : ByteArray) (rem : Int) (S : List Ho) (i : Nat) : Prop where
  far : FarAt wr w6.heap.size mf (farK dc rem S i)
  left : ∃ M, LMap wr ml M ∧ ∀ x, (aget x M).getD false = upS (S.take i) x
  kept : Kept (fun k => k = mf ∨ k = ml) w6 wr
/-- What Plan lays ahead of its first loop. -/
structure PlanLay (w w5 : World) (Bt Bk mf ml Bl : Nat) (p : Option Addr) (k : Int) (A : Option Addr) (nf c : Nat) : Prop where
  kept : Kept noBlock w w5
  bt : Blk w5 Bt 29 #[.pointer p]
  bk : Blk w5 Bk 25 #[.int .i64 k, .slice A nf c]
  bl : Blk w5 Bl 81 #[.map (some ml)]
  fm : VMap w5 mf []
  lm : LMap w5 ml []
  ne : mf ≠ ml
  gf : w.heap.size ≤ mf
  gl : w.heap.size ≤ ml
theorem plan_lay (w : World) (p : Option Addr) (k : Int) (A : Option Addr) (nf c : Nat) :
    PlanLay w (((((w.alloc (.cells #[.pointer p] 29)).alloc (.cells #[.int .i64 k, .slice A nf c] 25)).alloc (.map #[] 0)).alloc (.map #[] 0)).alloc (.cells #[.map (some (w.heap.size + 1 + 1 + 1))] 81)) w.heap.size (w.heap.size + 1) (w.heap.size + 1 + 1) (w.heap.size + 1 + 1 + 1) (w.heap.size + 1 + 1 + 1 + 1) p k A nf c where
  kept := (((((Kept.refl _ _).alloc _).alloc _).alloc _).alloc _).alloc _
  bt := ((((Blk.new _ _ _).alloc _).alloc _).alloc _).alloc _
  bk := (((Blk.new_at _ _ _ (by simp only [sz_alloc])).alloc _).alloc _).alloc _
  bl := Blk.new_at _ _ _ (by simp only [sz_alloc])
  fm := by
    have h := KMap.new (d := .int .i64) (key := fun k : Int => Value.int .i64 k) (val := fun v : Value => v) ((w.alloc (.cells #[.pointer p] 29)).alloc (.cells #[.int .i64 k, .slice A nf c] 25))
    rw [sz_alloc, sz_alloc] at h
    exact (h.alloc _).alloc _
  lm := by
    have h := KMap.new (d := .string) (key := fun s : ByteArray => Value.string s) (val := Value.bool) (((w.alloc (.cells #[.pointer p] 29)).alloc (.cells #[.int .i64 k, .slice A nf c] 25)).alloc (.map #[] 0))
    rw [sz_alloc, sz_alloc, sz_alloc] at h
    exact h.alloc _
  ne := by omega
  gf := by omega
  gl := by omega
section
variable {w w5 w' : World} {Bt Bk mf ml Bl : Nat} {p : Option Addr} {k : Int} {A : Option Addr} {nf c : Nat}
theorem PlanLay.keptN (h : PlanLay w w5 Bt Bk mf ml Bl p k A nf c) (hk : Kept noBlock w5 w') : PlanLay w w' Bt Bk mf ml Bl p k A nf c :=
  ⟨h.kept.trans hk fun _ _ e => e, h.bt.kept hk (fun e => e), h.bk.kept hk (fun e => e), h.bl.kept hk (fun e => e), h.fm.kept hk (fun e => e), h.lm.kept hk (fun e => e), h.ne, h.gf, h.gl⟩
end
theorem PlanLay.off {w w5 : World} {Bt Bk mf ml Bl : Nat} {p : Option Addr} {k : Int} {A : Option Addr} {nf c : Nat} (h : PlanLay w w5 Bt Bk mf ml Bl p k A nf c) {g : Nat} {e : TypeId} {v : Array Value} (hb : Blk w5 g e v) : ¬ (g = mf ∨ g = ml) := fun e => e.elim (fun e => h.fm.ne_blk hb e) fun e => h.lm.ne_blk hb e
theorem FarAt.map_ {wr : World} {base mf m : Nat} {L : Nat → List ByteArray} (h : FarAt wr base mf L) {es : Array MapEntry} {ck : Nat} (hm : wr.heap[m]? = some (.map es ck)) (hne : mf ≠ m) (o : Obj) : FarAt (setBlock wr m o) base mf L := by
  obtain ⟨v, n, LF, h1, h2, h3⟩ := h
  exact ⟨v, n, LF, ⟨fun i r hr => own_setBlock (h1.1 i r hr) hm _, h1.2⟩, h2.setBlock hne _, h3⟩
theorem farK_len (dc : ByteArray) (rem : Int) (S : List Ho) (i d : Nat) : (farK dc rem S i d).length ≤ i := by
  unfold farK
  rw [List.length_map]
  exact Nat.le_trans (List.length_filter_le _ _) (by rw [List.length_take]; omega)
/-- The rows behind the first loop. -/
structure FarS (W : World) (B mf ml : Nat) (L1 L2 : List ByteArray) (A1 : Option Addr) (n1 c1 : Nat) (A2 : Option Addr) (n2 c2 : Nat) : Prop where
  l1 : (Instr.lookup 80 (.map (some mf)) (.int .i64 1) false).run Tryz.prog W = .ok (.slice A1 n1 c1) W
  l2 : (Instr.lookup 80 (.map (some mf)) (.int .i64 2) false).run Tryz.prog W = .ok (.slice A2 n2 c2) W
  mp : ∃ LF, VMap W mf LF ∧ (aget 1 LF).getD (.slice none 0 0) = .slice A1 n1 c1 ∧ (aget 2 LF).getD (.slice none 0 0) = .slice A2 n2 c2
  s1 : SlK W (fun k e => e = 9 ∧ k < B ∧ k ≠ ml) 1 (.slice A1 n1 c1) n1 (L1.map Value.string)
  s2 : SlK W (fun k e => e = 9 ∧ k < B ∧ k ≠ ml) 1 (.slice A2 n2 c2) n2 (L2.map Value.string)
  b : mf < B
  ne : mf ≠ ml
theorem vmap_look {W : World} {mf : Nat} {LF : List (Int × Value)} (h : VMap W mf LF) {d : Int} {v : Value} (hv : (aget d LF).getD (.slice none 0 0) = v) : (Instr.lookup 80 (.map (some mf)) (.int .i64 d) false).run Tryz.prog W = .ok v W := by
  have hlk := h.run_lookup (P := Tryz.prog) (int_emb .i64) misM intU (zero_strs W) d false
  have e : ((aget d LF).map fun v : Value => v).getD (.slice none 0 0) = v := by rw [← hv]; cases aget d LF <;> rfl
  rw [e] at hlk
  exact hlk
theorem FarS.kept {W W' : World} {B mf ml : Nat} {L1 L2 : List ByteArray} {A1 : Option Addr} {n1 c1 : Nat} {A2 : Option Addr} {n2 c2 : Nat} (h : FarS W B mf ml L1 L2 A1 n1 c1 A2 n2 c2) (hk : Kept (fun k => k = ml ∨ B ≤ k) W W') : FarS W' B mf ml L1 L2 A1 n1 c1 A2 n2 c2 := by
  obtain ⟨LF, h1, h2, h3⟩ := h.mp
  have hm := h1.kept hk fun e => e.elim h.ne fun e => by have := h.b; omega
  exact ⟨vmap_look hm h2, vmap_look hm h3, ⟨LF, hm, h2, h3⟩, h.s1.keptAll hk fun k e ho hs => hs.elim ho.2.2 fun e => by omega, h.s2.keptAll hk fun k e ho hs => hs.elim ho.2.2 fun e => by omega, h.b, h.ne⟩
theorem FarAt.frozen {W : World} {base mf ml : Nat} {L : Nat → List ByteArray} (h : FarAt W base mf L) (hm : ∃ es ck, W.heap[ml]? = some (.map es ck)) (hne : mf ≠ ml) : ∃ A1 n1 c1 A2 n2 c2, n1 = (L 1).length ∧ n2 = (L 2).length ∧ FarS W W.heap.size mf ml (L 1) (L 2) A1 n1 c1 A2 n2 c2 := by
  obtain ⟨v, n, LF, h1, h2, h3⟩ := h
  obtain ⟨es, ck, hh⟩ := hm
  have r1 : W.ownsRow base 9 1 (v 1) (n 1) ((L 1).map Value.string) := h1.get 1 rfl
  have r2 : W.ownsRow base 9 1 (v 2) (n 2) ((L 2).map Value.string) := h1.get 2 rfl
  obtain ⟨A1, c1, hv1, -, -⟩ := (Sl.of_own r1).shape
  obtain ⟨A2, c2, hv2, -, -⟩ := (Sl.of_own r2).shape
  have e1 := h3 1 (by decide)
  have e2 := h3 2 (by decide)
  rw [hv1] at e1 r1
  rw [hv2] at e2 r2
  have key : ∀ (g : Nat) (cs : Array Value) (e : TypeId) (fz : Nat × Nat), W.heap[g]? = some (.cells cs e fz) → e = 9 → e = 9 ∧ g < W.heap.size ∧ g ≠ ml := fun g cs e fz hg he => ⟨he, lt_of_heap hg, fun e2 => by rw [e2, hh] at hg; cases hg⟩
  refine ⟨A1, n 1, c1, A2, n 2, c2, ?_, ?_, vmap_look h2 e1, vmap_look h2 e2, ⟨LF, h2, e1, e2⟩, (Sl.of_own r1).anyH key, (Sl.of_own r2).anyH key, h2.lt, hne⟩
  · have := r1.1
    rw [List.length_map, Nat.mul_one] at this
    exact this.symm
  · have := r2.1
    rw [List.length_map, Nat.mul_one] at this
    exact this.symm
theorem farK_all (dc : ByteArray) (rem : Int) (S : List Ho) {i : Nat} (h : S.length = i) (d : Nat) : farK dc rem S i d = farL dc rem S (d : Int) := by
  unfold farK farL
  rw [List.take_of_length_le (Nat.le_of_eq h)]
/-- Behind a put: what it has left, and that nothing else was written. -/
theorem PutR.go {w0 w wB w' : World} {Bl Bt Bo ml B : Nat} {own : Nat → Prop} {p : Option Addr} {dc : ByteArray} {rem : Int} {S : List Ho} {out : List ByteArray} {A : Option Addr} {n c : Nat} (h : PutR w0 w Bl Bt Bo ml own p dc rem S out A n c w') (hk : Kept (fun k => k = ml ∨ B ≤ k) wB w) (hB : B ≤ wB.heap.size) (ho : B ≤ Bo) (hA : ∀ k, (Value.slice A n c).ownBlock = some k → B ≤ k) :
    ∃ A' n' c', PutAt w0 w' Bl Bt Bo ml own p dc rem S out A' n' c' ∧ Kept (fun k => k = ml ∨ B ≤ k) wB w' ∧ ∀ k, (Value.slice A' n' c').ownBlock = some k → B ≤ k := by
  obtain ⟨A', n', c', h1, h2, h3⟩ := h
  refine ⟨A', n', c', h1, hk.trans h2 fun k hlt e => ?_, fun k e => ?_⟩
  · rcases e with e | e | e
    · exact .inl e
    · exact .inr (e ▸ ho)
    · exact .inr (hA k e)
  · rcases h3 k e with e | e
    · exact hA k e
    · have := hk.size; omega
/-- A row that a call has just made is none of put's. -/
theorem fresh_names {w w' : World} {A : Option Addr} {n c : Nat} {A' : Option Addr} {n' c' : Nat} {base : Nat} {xs ys : List Value} (h : w'.ownsRow w.heap.size 9 1 (.slice A' n' c') n' xs) (ho : w.ownsRow base 9 1 (.slice A n c) n ys) : SlK w' (fun k e => e = 9 ∧ (Value.slice A n c).ownBlock ≠ some k) 1 (.slice A' n' c') n' xs :=
  (SlK.of_ownB h).any fun k e _ hk => ⟨hk.2, fun e2 => by have := own_lt ho e2; have := hk.1; omega⟩
set_option maxHeartbeats 8000000 in
set_option maxRecDepth 100000 in
theorem plPlan_at {w : World} {own : Nat → Prop} {p : Option Addr} {dc : ByteArray} {rem k t : Int} {S : List Ho} {fs : List Fa} {A : Option Addr} {nf c tn : Nat} {routed : Bool} {ok : Nat → TypeId → Prop} (hT : TV w own p dc rem S) (hol : ∀ k, own k → k < w.heap.size) (hok : HoOk S 20 20) (hf : SlK w ok 2 (.slice A nf c) nf (fs.flatMap fC)) (hfl : fs.length = nf) (hfs : nf ≤ 1000) (hfn : ∀ f ∈ fs, -9223372036854775808 ≤ f.2 ∧ f.2 < 9223372036854775808) (htn : tn < 18446744073709551616) :
    Calls Tryz.prog 15 #[.pointer p, .agg #[.int .i64 k, .slice A nf c], .bool routed, .int .i64 t, .int .u64 (tn : Int)] w (TextsOwn w (planP dc rem S k fs routed t tn)) := by
  have hmk := @run_makeMap Tryz.prog
  have hmf : ∀ (fn : Fn) (first cap : Array Value) (w : World), (Instr.makeFunc fn first cap).run Tryz.prog w = .ok (.func fn first cap) w := fun _ _ _ _ => rfl
  have HT := Lib.hid hT
  have HF := Lib.hid hf
  have HOK := Lib.hid hok
  have HFL := Lib.hid hfl
  have HFN := Lib.hid hfn
  have HOL := Lib.hid hol
  have LAY := Lib.hid (plan_lay w p k A nf c)
  clear hT hf hok hfl hfn hol
  go_enter Tryz.func15, Tryz.ntmps15
  go_wp2_with fail
  go_at_call 17
  generalize ((((w.alloc (.cells #[.pointer p] 29)).alloc (.cells #[.int .i64 k, .slice A nf c] 25)).alloc (.map #[] 0)).alloc (.map #[] 0)).alloc (.cells #[.map (some (w.heap.size + 1 + 1 + 1))] 81) = w5 at *
  generalize w.heap.size + 1 + 1 + 1 + 1 = Bl at *
  generalize w.heap.size + 1 + 1 + 1 = ml at *
  generalize w.heap.size + 1 + 1 = mf at *
  generalize w.heap.size + 1 = Bk at *
  obtain ⟨Bt, hBt⟩ : ∃ Bt, Bt = w.heap.size := ⟨_, rfl⟩
  rw [← hBt] at LAY ⊢
  clear hBt
  refine (hAll_tv (HT.out.keptN LAY.out.kept) (Nat.le_trans HOK.out.len (by decide)) fun o ho => Nat.le_trans (HOK.out.tk o ho) (by decide)).mono ?_
  rintro e w6 ⟨A1, n1, c1, T, rfl, hto, hk6⟩
  have hl1 := (Sl.of_own hto.row).run_len hostsT
  have HSN : Hid (S.length = n1) := Lib.hid hto.slen
  have HN1 : Hid (n1 ≤ 20) := Lib.hid (by have := HOK.out.len; have := hto.slen; omega)
  have LAY6 := Lib.hid (LAY.out.keptN hk6)
  have HBL5 : Hid (mf < w5.heap.size ∧ ml < w5.heap.size) := Lib.hid ⟨LAY.out.fm.lt, LAY.out.lm.lt⟩
  have HT6 := Lib.hid (HT.out.keptN LAY6.out.kept)
  have HF6 := Lib.hid (HF.out.keptNone LAY6.out.kept)
  have HTO := Lib.hid hto
  have hgm : w.heap.size ≤ mf ∧ w.heap.size ≤ ml := ⟨LAY.out.gf, LAY.out.gl⟩
  have HGM := Lib.hid hgm
  clear hto hk6 LAY HT HF hgm
  go_wp2_with fail
  go_loopg [23] n1 (fun j vi wr => ∃ i : Nat, i + j = n1 ∧ vi = .int .i64 i ∧ PlanR w6 wr mf ml dc rem S i)
  case atStart => exact ⟨0, by omega, rfl, FarAt.new LAY6.out.fm, ⟨[], LAY6.out.lm, fun x => rfl⟩, Kept.refl _ _⟩
  case round =>
    obtain ⟨i, hij, rfl, hR⟩ := hrel
    have HIJ := Lib.hid hij
    have HR := Lib.hid hR
    by_cases hi : i < n1
    · have hi20 : i < 100 := by have := HN1.out; omega
      obtain ⟨o, ho⟩ : ∃ o, S[i]? = some o := ⟨_, List.getElem?_eq_getElem (by have := HSN.out; omega)⟩
      have HO := Lib.hid ho
      have hTr := HTO.out.kept hR.kept (fun k hk e => by have := HBL5.out; omega)
      obtain ⟨x, gx, ox, -, hxo, hidx, y0, y1, y2, y3, y4⟩ := hTr.at ho
      obtain ⟨x1, x2, x3, x4, x5, x6, x7, x8⟩ := x
      subst hxo
      simp only [HV.abs] at y0 y1 y2 y3 y4
      have hb : Blk (wr.alloc (.cells #[.string x1, .string x2, .string x3, .slice x4 x5 x6, .bool x8] 48)) wr.heap.size 48 #[.string x1, .string x2, .string x3, .slice x4 x5 x6, .bool x8] := Blk.new _ _ _
      have hka : Kept noBlock wr (wr.alloc (.cells #[.string x1, .string x2, .string x3, .slice x4 x5 x6, .bool x8] 48)) := (Kept.refl _ _).alloc _
      have u0 := hb.cell 0
      have b1 := ((LAY6.out.bt.kept hR.kept (LAY6.out.off LAY6.out.bt)).alloc (.cells #[.string x1, .string x2, .string x3, .slice x4 x5 x6, .bool x8] 48)).cell 0
      simp only [List.getElem?_toArray, List.getElem?_cons_zero] at u0 b1
      have HB := Lib.hid hb
      have HKA := Lib.hid hka
      clear hij ho hTr hb hka hR
      go_wp2_with fail
      go_at_call 19
      refine (hDist_tv ((HT6.out.kept HR.out.kept fun k hk e => by have := HOL.out k hk; have := HGM.out; omega).keptN HKA.out) x1 (Nat.le_trans HOK.out.len (by decide))).mono ?_
      rintro e w7 ⟨rfl, hk7⟩
      obtain ⟨d, hd3, hde⟩ := dist_cases dc rem S x1
      rw [hde]
      have HFK : Hid (farK dc rem S (i + 1) = updF (farK dc rem S i) d x1) := Lib.hid (farK_step HO.out hde)
      have HUP : Hid (∀ x, upS (S.take (i + 1)) x = if x1 = x then x8 else upS (S.take i) x) := Lib.hid fun x => up_step HOK.out.ris HO.out x
      have hka7 : Kept noBlock wr w7 := HKA.out.trans hk7 fun _ _ e => e
      obtain ⟨A7, n7, c7, hn7, hlk7, hrow7, hst7⟩ := (HR.out.far.keptN hka7).step hd3
      have hb7 := HB.out.kept hk7 fun e => e
      have hbl7 := (LAY6.out.bl.kept HR.out.kept (LAY6.out.off LAY6.out.bl)).kept hka7 fun e => e
      obtain ⟨M, hM, hMv⟩ := HR.out.left
      have hM7 := hM.kept hka7 fun e => e
      have hn7i : n7 ≤ i := by rw [hn7]; exact farK_len _ _ _ _ _
      have q0 := hb7.cell 0
      simp only [List.getElem?_toArray, List.getElem?_cons_zero] at q0
      have HROW := Lib.hid hrow7
      have HST := Lib.hid hst7
      have HB7 := Lib.hid hb7
      have HBL7 := Lib.hid hbl7
      have HM7 := Lib.hid hM7
      have HMV := Lib.hid hMv
      have HK7 := Lib.hid hka7
      have hsz7 : w6.heap.size ≤ w7.heap.size := Nat.le_trans HR.out.kept.size hka7.size
      clear hka7 hk7 hde hrow7 hst7 hb7 hbl7 hM hMv hM7 hn7 u0 b1 hidx y0 y1 y2 y3 y4 HB HKA
      go_wp2_with (at_builtin; go_must (refine wpList_append_sl _ strsT rfl (.tmp 35) (.tmp 38) rfl w6.heap.size _ n7 ((farK dc rem S i d).map Value.string) rfl (HROW.out.alloc _) _ 1 [.string x1] rfl (Sl.made_at (Blk.new_at w7 9 #[.string x1] rfl) _ rfl rfl one_max) (by simp [Value.oneCell']) ?c1 ?c2 ?_))
      case c1 => omega
      case c2 => simp only [sz_alloc]; omega
      intro v' w8 hap
      obtain ⟨A8, c8, rfl, -, -⟩ := (Sl.of_own hap.own).shape
      obtain ⟨es, ck, hup8, hfar, r1, r2, r3⟩ := HST.out _ _ A8 c8 x1 ((Kept.refl _ _).alloc _) hap
      have hk8 : Kept (fun g => (Value.slice A7 n7 c7).ownBlock = some g) w7 w8 := ((Kept.refl (fun g => (Value.slice A7 n7 c7).ownBlock = some g) w7).alloc (.cells #[.string x1] 9)).trans hap.kept fun _ _ e => e
      have hnr : ∀ {g : Nat} {e : TypeId} {v : Array Value}, Blk w7 g e v → e ≠ 9 → (Value.slice A7 n7 c7).ownBlock ≠ some g := fun {g e v} hb he hg => by
        obtain ⟨_, cs', hh⟩ := own_type HROW.out hg
        exact Blk.ne_ (t := e) (t' := 9) hb hh he rfl
      have hb8 := HB7.out.kept hk8 (hnr HB7.out (by decide))
      have hbl8 := HBL7.out.kept hk8 (hnr HBL7.out (by decide))
      have hM8 := HM7.out.kept hk8 fun e => by
        obtain ⟨_, cs', hh⟩ := own_type HROW.out e
        obtain ⟨es, ck, hm⟩ := HM7.out.heap
        rw [hm] at hh; cases hh
      have a0 := (r1 ⟨wr.heap.size, 0, none⟩).trans (hb8.cell 0)
      have a4 := (r1 ⟨wr.heap.size, 0 + 4, none⟩).trans (hb8.cell 4)
      have al := (r1 ⟨Bl, 0, none⟩).trans (hbl8.cell 0)
      simp only [List.getElem?_toArray, List.getElem?_cons_succ, List.getElem?_cons_zero, Nat.zero_add] at a0 a4 al
      have hMF := hM8.setBlock (LAY6.out.ne.symm) (.map es ck)
      have hkF : Kept (fun k => k = mf ∨ k = ml) w6 (setBlock w8 mf (.map es ck)) := ((HR.out.kept.trans HK7.out fun _ _ e => e.elim).trans hk8 fun k hlt e => by have := (own_type HROW.out e).1; omega).setBlock (m := mf) (fun _ => .inl rfl) _
      obtain ⟨wF, hwF⟩ : ∃ wF, wF = setBlock w8 mf (.map es ck) := ⟨_, rfl⟩
      rw [← hwF] at hup8 hfar a0 a4 al hMF hkF
      obtain ⟨es2, ck2, hup9, hM9⟩ := hMF.run_update (P := Tryz.prog) string_emb msbM strU x1 x8
      have FIN : Hid (PlanR w6 (setBlock wF ml (.map es2 ck2)) mf ml dc rem S (i + 1)) := Lib.hid (by
        obtain ⟨es0, ck0, hh0⟩ := hMF.heap
        refine ⟨by rw [HFK.out]; exact hfar.map_ hh0 LAY6.out.ne _, ⟨_, hM9, fun x => ?_⟩, hkF.setBlock (m := ml) (fun _ => .inr rfl) _⟩
        rw [aget_aput, HUP.out x]
        by_cases e : x1 = x
        · rw [if_pos e, if_pos e]; rfl
        · rw [if_neg e, if_neg e]; exact HMV.out x)
      clear hap hfar r1 r2 r3 hk8 hb8 hbl8 hM8 hMF hkF hM9 hwF hlk7 q0
      go_wp2_with fail
      go_roundg (n1 - (i + 1))
      case measure => have := HIJ.out; omega
      case rel => exact ⟨i + 1, by have := HIJ.out; omega, by go_num, FIN.out⟩
    · obtain rfl : i = n1 := by omega
      obtain ⟨M, hM, hMv⟩ := hR.left
      obtain ⟨Aa, na, ca, Ab, nb, cb, hna, hnb, hFS⟩ := hR.far.frozen hM.heap LAY6.out.ne
      have hna20 : na ≤ 20 := by have := farK_len dc rem S i 1; have := HN1.out; omega
      have hnb20 : nb ≤ 20 := by have := farK_len dc rem S i 2; have := HN1.out; omega
      have e1 : farK dc rem S i 1 = farL dc rem S 1 := farK_all dc rem S HSN.out 1
      have e2 : farK dc rem S i 2 = farL dc rem S 2 := farK_all dc rem S HSN.out 2
      rw [e1, e2] at hFS
      have hka : Kept noBlock wr (wr.alloc (.cells #[.slice none 0 0] 36)) := (Kept.refl _ _).alloc _
      have hkw6 : Kept noBlock w wr := LAY6.out.kept.trans hR.kept fun k hlt e => by have := HGM.out; omega
      have hbl := (LAY6.out.bl.kept hR.kept (LAY6.out.off LAY6.out.bl)).alloc (.cells #[.slice none 0 0] 36)
      have hbt := (LAY6.out.bt.kept hR.kept (LAY6.out.off LAY6.out.bt)).alloc (.cells #[.slice none 0 0] 36)
      have hbk := (LAY6.out.bk.kept hR.kept (LAY6.out.off LAY6.out.bk)).alloc (.cells #[.slice none 0 0] 36)
      have ST : Hid (PutAt w (wr.alloc (.cells #[.slice none 0 0] 36)) Bl Bt wr.heap.size ml own p dc rem S [] none 0 0) := Lib.hid
        ⟨hbl, hbt, Blk.new _ _ _, World.ownsRow_nil _ _ _ _, ⟨M, hM.alloc _, fun x => by rw [hMv, List.take_of_length_le (Nat.le_of_eq HSN.out)]; simp [has]⟩, (HT6.out.kept hR.kept fun k hk e => by have := HOL.out k hk; have := HGM.out; omega).keptN hka, HOL.out, HGM.out.2, hkw6.size, hkw6.trans hka fun _ _ e => e⟩
      have HFS : Hid (FarS (wr.alloc (.cells #[.slice none 0 0] 36)) wr.heap.size mf ml (farL dc rem S 1) (farL dc rem S 2) Aa na ca Ab nb cb) := Lib.hid (hFS.kept ((Kept.refl _ _).alloc _))
      have HBZ : Hid (wr.heap.size ≤ (wr.alloc (.cells #[.slice none 0 0] 36)).heap.size) := Lib.hid hka.size
      have HFW : Hid (SlK (wr.alloc (.cells #[.slice none 0 0] 36)) ok 2 (.slice A nf c) nf (fs.flatMap fC)) := Lib.hid (((HF6.out.keep fun g cs e fz ho hg => (hR.kept.block g (lt_of_heap hg) fun e2 => by
        rcases e2 with e2 | e2
        · obtain ⟨es, ck, hh⟩ := LAY6.out.fm.heap
          rw [e2, hh] at hg; cases hg
        · obtain ⟨es, ck, hh⟩ := LAY6.out.lm.heap
          rw [e2, hh] at hg; cases hg).trans hg)).keptNone hka)
      have c0 := hbt.cell 0
      have k0 := hbk.cell 0
      have k1 := hbk.cell 1
      simp only [List.getElem?_toArray, List.getElem?_cons_succ, List.getElem?_cons_zero] at c0 k0 k1
      clear hij hR HR hM hMv hFS hka hkw6 hbl hbt hbk hna hnb e1 e2
      clear HT6 HF6 HTO LAY6 HSN HN1 HBL5 HIJ
      go_upto_if 47 with (fail)
      generalize wr.alloc (.cells #[.slice none 0 0] 36) = wB at *
      generalize wr.heap.size = Bo at *
      go_cut [] (fun wx => ∃ A' n' c', PutAt w wx Bl Bt Bo ml own p dc rem S (putP dc rem S 1 [] (if routed = true then replP S k fs t else [])) A' n' c' ∧ Kept (fun k => k = ml ∨ Bo ≤ k) wB wx ∧ (∀ k, (Value.slice A' n' c').ownBlock = some k → Bo ≤ k) ∧ n' ≤ 40200)
      case first =>
        cases routed with
        | false =>
          go_wp2_with fail
          go_meet
          exact ⟨none, 0, 0, ST.out, Kept.refl _ _, fun k e => by simp [Value.ownBlock] at e, by decide⟩
        | true =>
          go_wp2_with fail
          go_at_call 12
          refine (plRepl_at ST.out.tb HOK.out HFW.out HFL.out hfs HFN.out).mono ?_
          rintro e w2 ⟨A2, n2, c2, rfl, hn2, hb2, hs2, hk2⟩
          have HP2 := Lib.hid (ST.out.keptN hk2)
          have HS2 := Lib.hid hs2
          have HK2 : Hid (Kept (fun k => k = ml ∨ Bo ≤ k) wB w2) := Lib.hid hk2.of_none
          have HN2 := Lib.hid hn2
          clear hk2 hs2 hn2 c0 k0 k1
          go_wp2_with fail
          go_at_call 31
          refine (plPut_at (d := 1) HP2.out (HS2.out.any fun k e _ he => ⟨he, fun e2 => by simp [Value.ownBlock] at e2⟩) (Nat.le_trans HOK.out.len (by decide)) (by omega) (by decide)).mono ?_
          rintro e w3 ⟨rfl, hR3⟩
          obtain ⟨A3, n3, c3, hP3, hk3, ho3⟩ := hR3.go HK2.out HBZ.out (Nat.le_refl _) fun k e => by simp [Value.ownBlock] at e
          have hn3 : n3 ≤ 40200 := by
            have h1 := put_len (dc := dc) (rem := rem) (S := S) 1 (replP S k fs t) []
            have h2 := hP3.nlen
            have h3 := HN2.out
            simp only [List.length_nil] at h1
            omega
          have FIN : Hid (∃ A' n' c', PutAt w w3 Bl Bt Bo ml own p dc rem S (putP dc rem S 1 [] (replP S k fs t)) A' n' c' ∧ Kept (fun k => k = ml ∨ Bo ≤ k) wB w3 ∧ (∀ k, (Value.slice A' n' c').ownBlock = some k → Bo ≤ k) ∧ n' ≤ 40200) := Lib.hid ⟨A3, n3, c3, hP3, hk3, ho3, hn3⟩
          clear hR3 hP3 hk3 ho3 hn3
          go_wp2_with fail
          go_meet
          exact FIN.out
      case rest =>
        obtain ⟨A', n', c', hP, hkP, hoP, hnP⟩ := hcut
        have hFc := HFS.out.kept hkP
        have hl1 := hFc.l1
        have HFC := Lib.hid hFc
        have HP := Lib.hid hP
        have HKP := Lib.hid hkP
        have HOP := Lib.hid hoP
        clear hFc hP hkP hoP c0 k0 k1
        go_wp2_with fail
        go_at_call 32
        refine (plTurned_at (k := tn) (HFC.out.s1.any fun k e _ h => h.1) (by omega) htn).mono ?_
        rintro e w4 ⟨A4, c4, rfl, hs4, hk4⟩
        have HP4 := Lib.hid (HP.out.keptN hk4)
        have HS4 := Lib.hid (fresh_names hs4 HP.out.row)
        have HK4 : Hid (Kept (fun k => k = ml ∨ Bo ≤ k) wB w4) := Lib.hid (HKP.out.trans hk4 fun _ _ e => e.elim)
        have HNL := Lib.hid HP.out.nlen
        clear hs4 hk4 hl1
        go_wp2_with fail
        go_at_call 31
        refine (plPut_at (d := 1) HP4.out HS4.out (Nat.le_trans HOK.out.len (by decide)) (by omega) (by have := HNL.out; omega)).mono ?_
        rintro e w5x ⟨rfl, hR5⟩
        obtain ⟨A5, n5, c5, hP5, hk5, ho5⟩ := hR5.go HK4.out HBZ.out (Nat.le_refl _) HOP.out
        have hn5 : n5 ≤ 50000 := by
          have h1 := put_len (dc := dc) (rem := rem) (S := S) 1 (turnL (farL dc rem S 1) tn) (putP dc rem S 1 [] (if routed = true then replP S k fs t else []))
          have h2 := hP5.nlen
          have h3 := HNL.out
          have h4 := HFC.out.s1.len
          rw [List.length_map] at h4
          rw [turnL_len] at h1
          omega
        have hFc5 := HFS.out.kept hk5
        have hl2 := hFc5.l2
        have HFC5 := Lib.hid hFc5
        have HP5 := Lib.hid hP5
        have HK5 := Lib.hid hk5
        have HO5 := Lib.hid ho5
        clear hR5 hP5 hk5 ho5 hFc5 HFC HP HKP HP4 HS4 HK4 HOP HNL
        go_wp2_with fail
        go_at_call 32
        refine (plTurned_at (k := tn) (HFC5.out.s2.any fun k e _ h => h.1) (by omega) htn).mono ?_
        rintro e w6x ⟨A6, c6, rfl, hs6, hk6⟩
        have HP6 := Lib.hid (HP5.out.keptN hk6)
        have HS6 := Lib.hid (fresh_names hs6 HP5.out.row)
        have HK6 : Hid (Kept (fun k => k = ml ∨ Bo ≤ k) wB w6x) := Lib.hid (HK5.out.trans hk6 fun _ _ e => e.elim)
        have HNL := Lib.hid HP5.out.nlen
        clear hs6 hk6 hl2
        go_wp2_with fail
        go_at_call 31
        refine (plPut_at (d := 2) HP6.out HS6.out (Nat.le_trans HOK.out.len (by decide)) (by omega) (by have := HNL.out; omega)).mono ?_
        rintro e w7x ⟨rfl, hR7⟩
        obtain ⟨A7, n7, c7, hP7, hk7, ho7⟩ := hR7.go HK6.out HBZ.out (Nat.le_refl _) HO5.out
        have b7 := hP7.bo.cell 0
        simp only [List.getElem?_toArray, List.getElem?_cons_zero] at b7
        have FIN : Hid (TextsOwn w (planP dc rem S k fs routed t tn) (.returned (.slice A7 n7 c7)) w7x) := Lib.hid ⟨A7, n7, c7, rfl, hP7.nlen, hP7.row, hP7.kept⟩
        clear hR7 hP7 hk7 ho7 HP5 HK5 HO5 HFC5 HP6 HS6 HK6
        go_wp2_with fail
        go_ret
        exact FIN.out
end Go.Proofs.YtepikngkbondgaaGreat
namespace Go.Proofs.YtepikngkbondgaaGreat
set_option linter.unusedVariables false
open Go.RowKit
open Go.ChangeMaps (setBlock)

theorem lt_common {p x y : List UInt8} : p ++ x < p ++ y ↔ x < y := by
  induction p with
  | nil => rfl
  | cons a p ih =>
    rw [List.cons_append, List.cons_append, List.cons_lt_cons_iff]
    constructor
    · rintro (h | ⟨_, h⟩)
      · exact absurd h (UInt8.lt_irrefl _)
      · exact ih.1 h
    · exact fun h => .inr ⟨rfl, ih.2 h⟩
theorem byte_drop (a : ByteArray) {i : Nat} (h : i < a.size) : a.data.toList.drop i = a[i] :: a.data.toList.drop (i + 1) := by
  rw [List.drop_eq_getElem_cons (by simpa using h)]; rfl
theorem less_at_ne {a b : ByteArray} {i : Nat} (he : a.data.toList.take i = b.data.toList.take i) (ha : i < a.size) (hb : i < b.size) (hne : a[i] ≠ b[i]) : decide (nlt a b) = decide (a[i] < b[i]) := by
  have h : nlt a b ↔ a[i] < b[i] := by
    rw [← nlt_iff]
    conv => lhs; rw [← List.take_append_drop i a.data.toList, ← List.take_append_drop i b.data.toList, he, lt_common, byte_drop a ha, byte_drop b hb, List.cons_lt_cons_iff]
    exact ⟨fun h => h.resolve_right fun e => hne e.1, .inl⟩
  by_cases h2 : nlt a b
  · rw [decide_eq_true h2, decide_eq_true (h.1 h2)]
  · rw [decide_eq_false h2, decide_eq_false fun e => h2 (h.2 e)]
theorem less_at_end {a b : ByteArray} {i : Nat} (he : a.data.toList.take i = b.data.toList.take i) (h : i = a.size ∨ i = b.size) (ha : i ≤ a.size) (hb : i ≤ b.size) : decide (nlt a b) = decide (a.size < b.size) := by
  have hal : a.data.toList.length = a.size := by simp
  have hbl : b.data.toList.length = b.size := by simp
  have h : nlt a b ↔ a.size < b.size := by
    rw [← nlt_iff]
    conv => lhs; rw [← List.take_append_drop i a.data.toList, ← List.take_append_drop i b.data.toList, he, lt_common]
    rcases h with h | h
    · rw [List.drop_eq_nil_of_le (show a.data.toList.length ≤ i by omega)]
      by_cases e : b.size = i
      · rw [List.drop_eq_nil_of_le (by omega)]
        exact ⟨fun h => absurd h (List.lt_irrefl _), fun h => by omega⟩
      · rw [byte_drop b (by omega)]
        exact ⟨fun _ => by omega, fun _ => List.nil_lt_cons _ _⟩
    · rw [List.drop_eq_nil_of_le (show b.data.toList.length ≤ i by omega)]
      exact ⟨fun h => absurd h (List.not_lt_nil _), fun h => by omega⟩
  by_cases h2 : nlt a b
  · rw [decide_eq_true h2, decide_eq_true (h.1 h2)]
  · rw [decide_eq_false h2, decide_eq_false fun e => h2 (h.2 e)]
theorem take_byte {a b : ByteArray} {i : Nat} (he : a.data.toList.take i = b.data.toList.take i) (ha : i < a.size) (hb : i < b.size) (h : a[i] = b[i]) : a.data.toList.take (i + 1) = b.data.toList.take (i + 1) := by
  rw [List.take_succ_eq_append_getElem (by simpa using ha), List.take_succ_eq_append_getElem (by simpa using hb), he]
  exact congrArg (fun c => b.data.toList.take i ++ [c]) h
set_option maxHeartbeats 4000000 in
set_option maxRecDepth 100000 in
theorem R18less_at (a b : ByteArray) (w : World) (ha : a.size ≤ 9223372036854775807) (hb : b.size ≤ 9223372036854775807) : Calls Tryz.prog 44 #[.string a, .string b] w fun e w' => e = .returned (.bool (decide (nlt a b))) ∧ ∃ n, w' = w.drewN n := by
  go_enter Tryz.func44, Tryz.ntmps44
  go_wp2_with fail
  go_loopg [5] a.size (fun j vi wr => ∃ i n : Nat, i + j = a.size ∧ vi = .int .i64 i ∧ i ≤ b.size ∧ Hid (a.data.toList.take i = b.data.toList.take i) ∧ wr = w.drewN n)
  case atStart => exact ⟨0, 0, by omega, rfl, by omega, Lib.hid rfl, rfl⟩
  case round =>
    obtain ⟨i, n, hij, rfl, hib, HE, rfl⟩ := hrel
    have HIJ := Lib.hid hij
    by_cases h1 : i < a.size
    · by_cases h2 : i < b.size
      · clear hij
        by_cases h3 : a[i] = b[i]
        · have HE2 := Lib.hid (take_byte HE.out h1 h2 h3)
          have hbn : ((a[i].toNat : Int) != (b[i].toNat : Int)) = false := by rw [h3]; simp
          clear h3
          go_wp2_with fail
          go_quiet (fail)
          go_wp2_with fail
          go_roundg (a.size - (i + 1))
          case measure => have := HIJ.out; omega
          case rel => exact ⟨i + 1, n + nq, by have := HIJ.out; omega, by go_num, by omega, HE2, rfl⟩
        · have HR := Lib.hid (less_at_ne HE.out h1 h2 h3)
          have hbn : ((a[i].toNat : Int) != (b[i].toNat : Int)) = true := by
            rw [bne_iff_ne]; intro e; exact h3 (UInt8.toNat_inj.1 (by omega))
          clear h3
          go_wp2_with fail
          go_quiet (fail)
          go_wp2_with fail
          go_quiet (fail)
          go_wp2_with fail
          go_ret
          exact ⟨by rw [HR.out]; rfl, _, by rw [World.drewN_drewN, World.drewN_drewN]⟩
      · obtain rfl : i = b.size := by omega
        have HR := Lib.hid (less_at_end HE.out (.inr rfl) (by omega) (by omega))
        clear hij
        go_wp2_with fail
        go_ret
        exact ⟨by rw [HR.out]; rfl, _, rfl⟩
    · obtain rfl : i = a.size := by omega
      have HR := Lib.hid (less_at_end HE.out (.inl rfl) (by omega) hib)
      clear hij
      go_wp2_with fail
      go_ret
      exact ⟨by rw [HR.out]; rfl, _, rfl⟩
/-! Hosts as the reference has them. -/
/-- A row of hosts, read: its block and those of its tokens are of 'ok'. -/
def RL (W : World) (ok : Nat → Prop) (A : Option Addr) (n c : Nat) (l : List HV) (S : List Ho) : Prop :=
  l.map HV.abs = S ∧ S.length = n ∧ SlK W (fun k _ => ok k) 5 (.slice A n c) n (l.flatMap hvC) ∧ ∀ x ∈ l, SlK W (fun k _ => ok k) 1 (.slice x.ta x.tn x.tc) x.tn (x.toks.map (Value.int .i64))
section
variable {W W' : World} {ok ok' : Nat → Prop} {A : Option Addr} {n c : Nat} {l : List HV} {S : List Ho} {R : Nat → Prop}
theorem RL.kept (h : RL W ok A n c l S) (hk : Kept R W W') (hR : ∀ k, ok k → ¬ R k) : RL W' ok A n c l S := ⟨h.1, h.2.1, h.2.2.1.keptAll hk fun k _ e => hR k e, fun x hx => (h.2.2.2 x hx).keptAll hk fun k _ e => hR k e⟩
theorem RL.keptN (h : RL W ok A n c l S) (hk : Kept noBlock W W') : RL W' ok A n c l S := h.kept hk fun _ _ e => e
theorem RL.wide (h : RL W ok A n c l S) (ho : ∀ k, k < W.heap.size → ok k → ok' k) : RL W ok' A n c l S := ⟨h.1, h.2.1, h.2.2.1.any fun k _ hk e => ho k hk e, fun x hx => (h.2.2.2 x hx).any fun k _ hk e => ho k hk e⟩
theorem h18sT : SlT Tryz.prog 30 74 (.agg #[.string noStr, .string noStr, .string noStr, .slice none 0 0, .bool false]) 5 80 := ⟨by kernel_rfl, by kernel_rfl, rfl, by decide, by decide⟩
/-- A host of the row. -/
theorem RL.at (h : RL W ok A n c l S) {i : Nat} {o : Ho} (hi : S[i]? = some o) :
    ∃ (x : HV) (g off : Nat), l[i]? = some x ∧ x.abs = o ∧ (∀ kd w', (Instr.indexAt 30 (.slice A n c) (.int kd (i : Int))).run Tryz.prog w' = .ok (.pointer (some ⟨g, off, none⟩)) w') ∧
      W.cell? ⟨g, off, none⟩ = some (.string o.name) ∧ W.cell? ⟨g, off + 1, none⟩ = some (.string o.dc) ∧ W.cell? ⟨g, off + 2, none⟩ = some (.string o.rack) ∧ W.cell? ⟨g, off + 3, none⟩ = some (.slice x.ta x.tn x.tc) ∧ W.cell? ⟨g, off + 4, none⟩ = some (.bool o.up) ∧
      x.tn = o.toks.length ∧ SlK W (fun k _ => ok k) 1 (.slice x.ta x.tn x.tc) x.tn (o.toks.map (Value.int .i64)) := by
  obtain ⟨h1, h2, h3, h4⟩ := h
  rw [← h1, List.getElem?_map] at hi
  obtain ⟨x, hx, rfl⟩ := Option.map_eq_some_iff.1 hi
  have hlt : i < n := by
    have := (List.getElem?_eq_some_iff.1 hx).1
    rw [← h2, ← h1, List.length_map]; exact this
  obtain ⟨g, off, q1, -, -, q3⟩ := h3.run_index h18sT (i := (i : Int)) (k := i) rfl hlt
  have q4 := h4 x (List.mem_of_getElem? hx)
  have q5 := q4.len
  rw [List.length_map, Nat.mul_one] at q5
  refine ⟨x, g, off, hx, rfl, q1, q3 0 _ ?_, q3 1 _ ?_, q3 2 _ ?_, q3 3 _ ?_, q3 4 _ ?_, q5.symm, q4⟩ <;> exact (flat_get (k := 5) (fun _ => rfl) l i _ x hx (by decide)).trans rfl
/-- Where a host stands. -/
def findI (S : List Ho) (x : ByteArray) : Nat := S.findIdx fun o => decide (o.name = x)
theorem findI_lt {S : List Ho} {x : ByteArray} {i : Nat} {o : Ho} (h : i < findI S x) (ho : S[i]? = some o) : o.name ≠ x := by
  have h1 := List.not_of_lt_findIdx h
  have h2 := (List.getElem?_eq_some_iff.1 ho).2
  rw [h2] at h1
  simpa using h1
theorem findI_le (S : List Ho) (x : ByteArray) : findI S x ≤ S.length := List.findIdx_le_length
theorem findI_at {S : List Ho} {x : ByteArray} {o : Ho} (h : S[findI S x]? = some o) : o.name = x := by
  obtain ⟨h1, h2⟩ := List.getElem?_eq_some_iff.1 h
  have h3 := List.findIdx_getElem (w := h1)
  have h4 : decide (S[findI S x].name = x) = true := h3
  rw [h2] at h4
  simpa using h4
theorem findI_get (S : List Ho) (x : ByteArray) : getS x S = S[findI S x]? := by
  unfold getS findI
  induction S with
  | nil => rfl
  | cons a S ih =>
    rw [List.find?_cons, List.findIdx_cons]
    by_cases e : a.name = x
    · rw [decide_eq_true e]; rfl
    · rw [decide_eq_false e]
      exact ih
/-- What Find tells. -/
def findV (S : List Ho) (x : ByteArray) : Int := if findI S x < S.length then (findI S x : Int) else -1
set_option maxHeartbeats 4000000 in
set_option maxRecDepth 100000 in
theorem R18find_at (h : RL W ok A n c l S) (x : ByteArray) : Calls Tryz.prog 35 #[.slice A n c, .string x] W fun e w' => e = .returned (.int .i64 (findV S x)) ∧ W = w' := by
  have H := Lib.hid h
  have HN := Lib.hid h.2.1
  have hn : n ≤ 9223372036854775807 := by obtain ⟨_, _, hv, h1, h2⟩ := h.2.2.1.shape; cases hv; unfold maxLen at h2; omega
  have hle := findI_le S x
  have HLE := Lib.hid hle
  clear h hle
  go_enter Tryz.func35, Tryz.ntmps35
  go_wp2_with fail
  go_loopg [5] n (fun j vi wr => ∃ i : Nat, i + j = n ∧ vi = .int .i64 i ∧ i ≤ findI S x ∧ wr = W)
  case atStart => exact ⟨0, by omega, rfl, by omega, rfl⟩
  case round =>
    obtain ⟨i, hij, rfl, hif, rfl⟩ := hrel
    have HIJ := Lib.hid hij
    by_cases hi : i < n
    · obtain ⟨o, ho⟩ : ∃ o, S[i]? = some o := ⟨_, List.getElem?_eq_getElem (by have := HN.out; omega)⟩
      obtain ⟨y, g, off, -, -, hidx, z0, -, -, -, -, -, -⟩ := H.out.at ho
      by_cases e : i = findI S x
      · have HE : Hid (findV S x = (i : Int)) := Lib.hid (by unfold findV; rw [← e, if_pos (by have := HN.out; omega)])
        have hon : o.name = x := findI_at (by rw [← e]; exact ho)
        have hb : (o.name.toList == x.toList) = true := by rw [hon]; exact strEq_self _
        clear hij hif ho e hon
        go_wp2_with fail
        go_ret
        exact ⟨by rw [HE.out]; rfl, rfl⟩
      · have hlt : i < findI S x := by omega
        have hb : (o.name.toList == x.toList) = false := strEq_ne (findI_lt hlt ho)
        have HLT := Lib.hid hlt
        clear hij hif ho e hlt
        go_wp2_with fail
        go_roundg (n - (i + 1))
        case measure => have := HIJ.out; omega
        case rel => exact ⟨i + 1, by have := HIJ.out; omega, by go_num, HLT.out, rfl⟩
    · have HE : Hid (findV S x = -1) := Lib.hid (by unfold findV; rw [if_neg (by have := HN.out; have := HLE.out; omega)])
      clear hij hif
      go_wp2_with fail
      go_ret
      exact ⟨by rw [HE.out]; rfl, rfl⟩
end
end Go.Proofs.YtepikngkbondgaaGreat
namespace Go.Proofs.YtepikngkbondgaaGreat
set_option linter.unusedVariables false
open Go.RowKit
open Go.ChangeMaps (setBlock)

set_option maxHeartbeats 8000000 in
set_option maxRecDepth 100000 in
theorem R18tidy_at {w : World} {ok : Nat → TypeId → Prop} {A : Option Addr} {n c : Nat} {l : List Int} (h : SlK w ok 1 (.slice A n c) n (l.map (Value.int .i64))) (hn : n ≤ 1000000) :
    Calls Tryz.prog 43 #[.slice A n c] w fun e w' => ∃ A' k c', e = .returned (.slice A' k c') ∧ SlK w' (fun b _ => w.heap.size ≤ b) 1 (.slice A' k c') k ((tidyP l).map (Value.int .i64)) ∧ Kept noBlock w w' := by
  have hl : l.length = n := by have := h.len; rw [List.length_map, Nat.mul_one] at this; exact this
  have HL := Lib.hid hl
  have H := Lib.hid h
  clear hl h
  go_enter Tryz.func43, Tryz.ntmps43
  go_wp2_with fail
  go_loopg [3, 4] n (fun j vo vi wr => ∃ (i : Nat) (A' : Option Addr) (k c' : Nat) (O : List Int), i + j = n ∧ vi = .int .i64 i ∧ vo = .slice A' k c' ∧ Hid (O = (l.take i).foldl insTok []) ∧ O.length = k ∧ O.length ≤ i ∧ SlK wr (fun b _ => w.heap.size ≤ b) 1 (.slice A' k c') k (O.map (Value.int .i64)) ∧ Kept noBlock w wr)
  case atStart => exact ⟨0, none, 0, 0, [], by omega, rfl, rfl, Lib.hid rfl, rfl, by simp, SlK.nil _ _ _, Kept.refl _ _⟩
  case round =>
    obtain ⟨i, A', k, c', O, hij, rfl, rfl, HO, hOk, hOi, hO, hk⟩ := hrel
    subst hOk
    have HIJ := Lib.hid hij
    have HKr := Lib.hid hk
    have HOS := Lib.hid hO
    have HOI := Lib.hid hOi
    by_cases hi : i < n
    · obtain ⟨x, hx⟩ : ∃ x, l[i]? = some x := ⟨_, List.getElem?_eq_getElem (by have := HL.out; omega)⟩
      obtain ⟨gx, ox, hidx, c0⟩ := tok_at (H.out.keptNone hk) hx
      have HC0 := Lib.hid c0
      have HTK : Hid (l.take (i + 1) = l.take i ++ [x]) := Lib.hid (by rw [List.take_add_one, hx]; rfl)
      have HOL : Hid (O.length ≤ 1000000) := Lib.hid (by omega)
      have hpl := tokAt_le O x
      have HLT : Hid (∀ a, a < tokAt O x → ∃ y, O[a]? = some y ∧ y < x) := Lib.hid fun a ha => ⟨_, List.getElem?_eq_getElem (by omega), tokAt_lt ha (List.getElem?_eq_getElem (by omega))⟩
      have HAT : Hid (tokAt O x < O.length → ∃ y, O[tokAt O x]? = some y ∧ ¬ y < x) := Lib.hid fun h => ⟨_, List.getElem?_eq_getElem h, tokAt_ge (List.getElem?_eq_getElem h)⟩
      have HIN : Hid (insTok O x = if O[tokAt O x]? = some x then O else O.take (tokAt O x) ++ x :: O.drop (tokAt O x)) := Lib.hid rfl
      have HPL := Lib.hid hpl
      clear hij hk hx hO hOi
      generalize tokAt O x = t at *
      go_wp2_with fail
      go_loopg [5] t (fun q va wx => ∃ a nn : Nat, a + q = t ∧ va = .int .i64 a ∧ wx = wr.drewN nn)
      case atStart => exact ⟨0, 0, by omega, rfl, rfl⟩
      case round =>
        obtain ⟨a, nn, haq, rfl, rfl⟩ := hrel
        have HAQ := Lib.hid haq
        clear haq
        by_cases hat : a < t
        · have HATA := Lib.hid hat
          obtain ⟨y, hy, hyx⟩ := HLT.out a hat
          obtain ⟨gy, oy, hidy, cy⟩ := tok_at HOS.out hy
          have hal2 : a < O.length := by have := HPL.out; omega
          have hal3 : a ≤ 1000000 := by have := HOL.out; omega
          clear hy
          go_wp2_with fail
          go_quiet (fail)
          go_wp2_with fail
          go_roundg (t - (a + 1))
          case measure => have := HAQ.out; omega
          case rel => exact ⟨a + 1, nn + nq, by have := HAQ.out; have := HATA.out; omega, by go_num, by first | rfl | (rw [World.drewN_drewN])⟩
        · obtain rfl : t = a := by have := HAQ.out; omega
          by_cases hend : t < O.length
          · obtain ⟨y, hy, hyx⟩ := HAT.out hend
            obtain ⟨gy, oy, hidy, cy⟩ := tok_at HOS.out hy
            by_cases heq : y = x
            · subst heq
              have hbe : (y == y) = true := by simp
              have HIN2 : Hid (insTok O y = O) := Lib.hid (by rw [HIN.out, if_pos hy])
              clear hy
              go_wp2_with fail
              go_quiet (fail)
              try rw [World.drewN_drewN]
              generalize nn + nq = n1
              go_wp2_with fail
              go_quiet (fail)
              try rw [World.drewN_drewN]
              go_wp2_with fail
              go_roundg (n - (i + 1))
              case measure => have := HIJ.out; omega
              case rel => exact ⟨i + 1, A', _, c', O, by have := HIJ.out; omega, by go_num, rfl, Lib.hid (by rw [HTK.out, List.foldl_append, ← HO.out]; exact HIN2.out.symm), rfl, by have := HOI.out; omega, SlK.drewN HOS.out _, HKr.out.drewN _⟩
            · have hbe : (y == x) = false := beq_eq_false_iff_ne.2 heq
              have HIN2 : Hid (insTok O x = O.take t ++ x :: O.drop t) := Lib.hid (by rw [HIN.out, if_neg (by rw [hy]; exact fun e => heq (Option.some.inj e))])
              clear hy heq
              go_wp2_with fail
              go_quiet (fail)
              try rw [World.drewN_drewN]
              generalize nn + nq = n1
              go_wp2_with fail
              go_quiet (fail)
              try rw [World.drewN_drewN]
              have hk0 : Kept noBlock wr (wr.drewN (n1 + nq)) := (Kept.refl noBlock wr).drewN _
              have hs0 := SlK.drewN HOS.out (n1 + nq)
              generalize wr.drewN (n1 + nq) = W at *
              have HK0 := Lib.hid hk0
              obtain ⟨A2, c2, hto, hst⟩ := hs0.run_to i64sT (i := (t : Int)) (k := t) rfl HPL.out
              obtain ⟨A3, c3, hfrom, hsf⟩ := hs0.run_from i64sT (i := (t : Int)) (k := t) rfl HPL.out
              rw [Nat.mul_one, ← List.map_take] at hst
              rw [Nat.mul_one, ← List.map_drop] at hsf
              have HS0 := Lib.hid (SlK.lo hst)
              have HSF0 := Lib.hid (SlK.lo hsf)
              have hlt2 : t ≤ O.length := HPL.out
              have hO2 : O.length ≤ 1000000 := HOL.out
              clear hst hsf hs0 hk0 hidy cy
              go_wp2_with (at_builtin; go_must (refine wpList_append_sl _ i64sT rfl (.tmp 45) (.tmp 48) rfl W.heap.size _ 0 [] rfl (World.ownsRow_nil _ _ _ _) _ t _ rfl HS0.out (fun u hu => eI_one hu) ?c1 ?c2 ?_))
              case c1 => omega
              case c2 => first | omega | (simp; omega)
              intro v1 w3 hap1
              have hk3 : Kept noBlock wr w3 := HK0.out.trans hap1.keptNil (fun _ _ h => h)
              have HF1 := Lib.hid (SlK.keptNone HSF0.out hap1.keptNil)
              have HO1 := Lib.hid hap1.own
              have hsz1 := hap1.keptNil.size
              have q9 := hk3.cellOf HC0.out
              have HK3 := Lib.hid hk3
              clear hap1 hk3
              go_wp2_with (at_builtin; go_must (refine wpList_append_sl _ i64sT rfl (.tmp 50) (.tmp 55) rfl W.heap.size _ t _ rfl (World.ownsRow.alloc HO1.out _) _ 1 [.int .i64 x] rfl (Sl.made_at (Blk.new_at _ _ _ rfl) _ rfl rfl one_max) (by simp [Value.oneCell']) ?d1 ?d2 ?_))
              case d1 => omega
              case d2 => first | omega | (simp; omega)
              intro v2 w4 hap2
              have hf2 := SlK.appended (SlK.alloc HF1.out _) hap2 (World.ownsRow.alloc HO1.out _) (Nat.le_refl _)
              have hk4 : Kept noBlock wr w4 := hap2.below (World.ownsRow.alloc HO1.out _) (HK3.out.alloc _) HK0.out.size
              have HO2 := Lib.hid hap2.own
              have hsz2 := (hap2.kept).size
              rw [sz_alloc] at hsz2
              have HK4 := Lib.hid hk4
              have HF2 := Lib.hid hf2
              clear hap2 hf2 hk4 HK3
              go_wp2_with (at_builtin; go_must (refine wpList_append_sl _ i64sT rfl (.tmp 57) (.tmp 60) rfl W.heap.size _ (t + 1) _ rfl HO2.out _ (O.length - t) _ rfl HF2.out (fun u hu => eI_one hu) ?e1 ?e2 ?_))
              case e1 => omega
              case e2 => omega
              intro v3 w5 hap3
              have hk5 : Kept noBlock wr w5 := hap3.below HO2.out HK4.out HK0.out.size
              have HO5 := Lib.hid hap3.own
              have HK5 := Lib.hid hk5
              clear hap3 hk5 HK4
              obtain ⟨A5, c5, rfl, -, -⟩ := (Sl.of_own HO5.out).shape
              have hol : t + 1 + (O.length - t) = (insTok O x).length := by rw [HIN2.out]; simp; omega
              have HREL : Hid (SlK w5 (fun b _ => w.heap.size ≤ b) 1 (.slice A5 (t + 1 + (O.length - t)) c5) (t + 1 + (O.length - t)) ((insTok O x).map (Value.int .i64))) := Lib.hid (by
                have h1 := SlK.of_ownB HO5.out
                rw [HIN2.out]
                have e1 : (O.take t).map (Value.int .i64) ++ [.int .i64 x] ++ (O.drop t).map (Value.int .i64) = (O.take t ++ x :: O.drop t).map (Value.int .i64) := by simp
                have e2 := h1.any (ok' := fun b _ => w.heap.size ≤ b) fun b _ _ e => Nat.le_trans (Nat.le_trans HKr.out.size HK0.out.size) e.1
                simpa using e2)
              clear hol
              go_wp2_with fail
              go_roundg (n - (i + 1))
              case measure => have := HIJ.out; omega
              case rel => exact ⟨i + 1, A5, _, c5, insTok O x, by have := HIJ.out; omega, by go_num, rfl, Lib.hid (by rw [HTK.out, List.foldl_append]; rw [← HO.out]; rfl), by rw [HIN2.out]; simp; omega, by rw [HIN2.out]; simp; have := HOI.out; omega, HREL.out, HKr.out.trans HK5.out fun _ _ e => e⟩
          · have HIN2 : Hid (insTok O x = O.take t ++ x :: O.drop t) := Lib.hid (by rw [HIN.out, if_neg (by rw [List.getElem?_eq_none (by omega)]; exact fun e => by cases e)])
            go_wp2_with fail
            go_quiet (fail)
            try rw [World.drewN_drewN]
            generalize nn + nq = n1
            go_wp2_with fail
            go_quiet (fail)
            try rw [World.drewN_drewN]
            have hk0 : Kept noBlock wr (wr.drewN (n1 + nq)) := (Kept.refl noBlock wr).drewN _
            have hs0 := SlK.drewN HOS.out (n1 + nq)
            generalize wr.drewN (n1 + nq) = W at *
            have HK0 := Lib.hid hk0
            obtain ⟨A2, c2, hto, hst⟩ := hs0.run_to i64sT (i := (t : Int)) (k := t) rfl HPL.out
            obtain ⟨A3, c3, hfrom, hsf⟩ := hs0.run_from i64sT (i := (t : Int)) (k := t) rfl HPL.out
            rw [Nat.mul_one, ← List.map_take] at hst
            rw [Nat.mul_one, ← List.map_drop] at hsf
            have HS0 := Lib.hid (SlK.lo hst)
            have HSF0 := Lib.hid (SlK.lo hsf)
            have hlt2 : t ≤ O.length := HPL.out
            have hO2 : O.length ≤ 1000000 := HOL.out
            clear hst hsf hs0 hk0
            go_wp2_with (at_builtin; go_must (refine wpList_append_sl _ i64sT rfl (.tmp 45) (.tmp 48) rfl W.heap.size _ 0 [] rfl (World.ownsRow_nil _ _ _ _) _ t _ rfl HS0.out (fun u hu => eI_one hu) ?c1 ?c2 ?_))
            case c1 => omega
            case c2 => first | omega | (simp; omega)
            intro v1 w3 hap1
            have hk3 : Kept noBlock wr w3 := HK0.out.trans hap1.keptNil (fun _ _ h => h)
            have HF1 := Lib.hid (SlK.keptNone HSF0.out hap1.keptNil)
            have HO1 := Lib.hid hap1.own
            have hsz1 := hap1.keptNil.size
            have q9 := hk3.cellOf HC0.out
            have HK3 := Lib.hid hk3
            clear hap1 hk3
            go_wp2_with (at_builtin; go_must (refine wpList_append_sl _ i64sT rfl (.tmp 50) (.tmp 55) rfl W.heap.size _ t _ rfl (World.ownsRow.alloc HO1.out _) _ 1 [.int .i64 x] rfl (Sl.made_at (Blk.new_at _ _ _ rfl) _ rfl rfl one_max) (by simp [Value.oneCell']) ?d1 ?d2 ?_))
            case d1 => omega
            case d2 => first | omega | (simp; omega)
            intro v2 w4 hap2
            have hf2 := SlK.appended (SlK.alloc HF1.out _) hap2 (World.ownsRow.alloc HO1.out _) (Nat.le_refl _)
            have hk4 : Kept noBlock wr w4 := hap2.below (World.ownsRow.alloc HO1.out _) (HK3.out.alloc _) HK0.out.size
            have HO2 := Lib.hid hap2.own
            have hsz2 := (hap2.kept).size
            rw [sz_alloc] at hsz2
            have HK4 := Lib.hid hk4
            have HF2 := Lib.hid hf2
            clear hap2 hf2 hk4 HK3
            go_wp2_with (at_builtin; go_must (refine wpList_append_sl _ i64sT rfl (.tmp 57) (.tmp 60) rfl W.heap.size _ (t + 1) _ rfl HO2.out _ (O.length - t) _ rfl HF2.out (fun u hu => eI_one hu) ?e1 ?e2 ?_))
            case e1 => omega
            case e2 => omega
            intro v3 w5 hap3
            have hk5 : Kept noBlock wr w5 := hap3.below HO2.out HK4.out HK0.out.size
            have HO5 := Lib.hid hap3.own
            have HK5 := Lib.hid hk5
            clear hap3 hk5 HK4
            obtain ⟨A5, c5, rfl, -, -⟩ := (Sl.of_own HO5.out).shape
            have hol : t + 1 + (O.length - t) = (insTok O x).length := by rw [HIN2.out]; simp; omega
            have HREL : Hid (SlK w5 (fun b _ => w.heap.size ≤ b) 1 (.slice A5 (t + 1 + (O.length - t)) c5) (t + 1 + (O.length - t)) ((insTok O x).map (Value.int .i64))) := Lib.hid (by
              have h1 := SlK.of_ownB HO5.out
              rw [HIN2.out]
              have e1 : (O.take t).map (Value.int .i64) ++ [.int .i64 x] ++ (O.drop t).map (Value.int .i64) = (O.take t ++ x :: O.drop t).map (Value.int .i64) := by simp
              have e2 := h1.any (ok' := fun b _ => w.heap.size ≤ b) fun b _ _ e => Nat.le_trans (Nat.le_trans HKr.out.size HK0.out.size) e.1
              simpa using e2)
            clear hol
            go_wp2_with fail
            go_roundg (n - (i + 1))
            case measure => have := HIJ.out; omega
            case rel => exact ⟨i + 1, A5, _, c5, insTok O x, by have := HIJ.out; omega, by go_num, rfl, Lib.hid (by rw [HTK.out, List.foldl_append]; rw [← HO.out]; rfl), by rw [HIN2.out]; simp; omega, by rw [HIN2.out]; simp; have := HOI.out; omega, HREL.out, HKr.out.trans HK5.out fun _ _ e => e⟩
    · obtain rfl : i = n := by omega
      have HT : Hid (O = tidyP l) := Lib.hid (by rw [HO.out, List.take_of_length_le (by have := HL.out; omega)]; rfl)
      clear hij hk hO hOi
      go_wp2_with fail
      go_ret
      exact ⟨A', _, c', rfl, by rw [← HT.out]; exact HOS.out, HKr.out⟩
end Go.Proofs.YtepikngkbondgaaGreat

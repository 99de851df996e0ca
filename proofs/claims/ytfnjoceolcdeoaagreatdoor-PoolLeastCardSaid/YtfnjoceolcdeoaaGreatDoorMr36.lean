/- splitter.Add: the frames that are whole behind more bytes. -/
import Derived.Test.YtfnjoceolcdeoaaGreatDoorMr35
import Derived.Test.YtfnjoceolcdeoaaGreatDoorMr26
import Derived.Test.YtfnjoceolcdeoaaGreatDoorMr20
import Derived.Test.YtfnjoceolcdeoaaGreatDoorMr06
import Derived.Test.YtfnjoceolcdeoaaGreatDoorMr08
import Derived.Deep.DeepCutAuto
import Derived.Deep.LoopGhost
import Derived.WalkMore
namespace Go.Proofs.YtfnjoceolcdeoaaGreatDoor
set_option linter.unusedVariables false
open Go.RowKit

abbrev FV := Fr × Value
/-- A frame's cells. -/
def frC (p : FV) : List Value := [.int .u8 132, .int .u8 (p.1.fl.toNat : Int), .int .i16 p.1.st, .int .u8 (p.1.op.toNat : Int), .int .u32 (p.1.body.length : Int), p.2]
theorem frC_len (p : FV) : (frC p).length = 6 := rfl
theorem frmT : SlT Tryz.prog 119 123 (.agg #[.int .u8 0, .int .u8 0, .int .i16 0, .int .u8 0, .int .u32 0, .slice none 0 0]) 6 40 := ⟨Tryz.underlying119, by kernel_rfl, rfl, by decide, by decide⟩
/-- A frame's body, from some block on. -/
def BodyOk (w : World) (B : Nat) (p : FV) : Prop := ∃ A c, p.2 = .slice A p.1.body.length c ∧ SlK w (fun g e => B ≤ g ∧ e = 5) 1 p.2 p.1.body.length (bsC p.1.body)
theorem BodyOk.kept {w w' : World} {B : Nat} {p : FV} {S : Nat → Prop} (h : BodyOk w B p) (hk : Kept S w w') (hS : ∀ g cs fz, B ≤ g → S g → w.heap[g]? ≠ some (Obj.cells cs 5 fz)) : BodyOk w' B p := by
  obtain ⟨A, c, hv, h⟩ := h
  exact ⟨A, c, hv, h.keep fun g cs e fz ho hg => (hk.block g (lt_of_heap hg) fun e2 => hS g cs fz ho.1 e2 (ho.2 ▸ hg)).trans hg⟩
theorem split3 {w : World} {g : Nat} {t : TypeId} {a0 a1 a2 : Value} (h : Blk w g t #[a0, a1, a2]) : w.cell? ⟨g, 0, none⟩ = some a0 ∧ w.cell? ⟨g, 1, none⟩ = some a1 ∧ w.cell? ⟨g, 2, none⟩ = some a2 := ⟨h.cell 0, h.cell 1, h.cell 2⟩
def SpPost (w : World) (gs : Nat) (l : List UInt8) (e : Ending) (w' : World) : Prop :=
  ∃ (fv : List FV) (A : Option Addr) (n c : Nat) (sv : Value), e = .returned (.tuple #[.slice A n c, .int .i64 (addP reqOps l.length l).2.2]) ∧ n = fv.length ∧ fv.map (·.1) = (addP reqOps l.length l).1 ∧
    SlK w' (fun g e => w.heap.size ≤ g ∧ e = 123) 6 (.slice A n c) n (fv.flatMap frC) ∧ (∀ p ∈ fv, BodyOk w' w.heap.size p) ∧
    Blk w' gs 151 #[.int .u8 132, sv, .int .i64 (addP reqOps l.length l).2.2] ∧ PendAt w' 5 sv (addP reqOps l.length l).2.1 ∧ Kept (fun k => k = gs) w w'
/-- Some frames have been taken. -/
def adGo (k : Nat) (l : List UInt8) (fs : List Fr) (j : Nat) (rest : List UInt8) : Prop := addP reqOps k l = (fs ++ (addP reqOps j rest).1, (addP reqOps j rest).2)
theorem adGo.start (k : Nat) (l : List UInt8) : adGo k l [] k l := rfl
theorem adGo.step {k j : Nat} {l rest : List UInt8} {fs : List Fr} (h : adGo k l fs (j + 1) rest) (h9 : 9 ≤ rest.length) (h0 : headE reqOps rest = 0) (hl : 9 + lenP rest ≤ rest.length) : adGo k l (fs ++ [frP rest]) j (rest.drop (9 + lenP rest)) := by
  unfold adGo at h ⊢
  rw [h]
  have : addP reqOps (j + 1) rest = (frP rest :: (addP reqOps j (rest.drop (9 + lenP rest))).1, (addP reqOps j (rest.drop (9 + lenP rest))).2) := by
    show (if rest.length < 9 then _ else _) = _
    rw [if_neg (by omega), if_neg (fun h => h h0), if_neg (by omega)]
  rw [this]
  simp
theorem adGo.short {k j : Nat} {l rest : List UInt8} {fs : List Fr} (h : adGo k l fs j rest) (h9 : rest.length < 9) : addP reqOps k l = (fs, rest, 0) := by
  unfold adGo at h
  have : addP reqOps j rest = ([], rest, 0) := by
    cases j with
    | zero => rfl
    | succ j =>
      show (if rest.length < 9 then _ else _) = _
      rw [if_pos h9]
  rw [h, this, List.append_nil]
theorem adGo.bad {k j : Nat} {l rest : List UInt8} {fs : List Fr} (h : adGo k l fs (j + 1) rest) (h9 : 9 ≤ rest.length) (h0 : headE reqOps rest ≠ 0) : addP reqOps k l = (fs, [], headE reqOps rest) := by
  unfold adGo at h
  have : addP reqOps (j + 1) rest = ([], [], headE reqOps rest) := by
    show (if rest.length < 9 then _ else _) = _
    rw [if_neg (by omega), if_pos h0]
  rw [h, this, List.append_nil]
theorem adGo.part {k j : Nat} {l rest : List UInt8} {fs : List Fr} (h : adGo k l fs (j + 1) rest) (h9 : 9 ≤ rest.length) (h0 : headE reqOps rest = 0) (hl : rest.length < 9 + lenP rest) : addP reqOps k l = (fs, rest, 0) := by
  unfold adGo at h
  have : addP reqOps (j + 1) rest = ([], rest, 0) := by
    show (if rest.length < 9 then _ else _) = _
    rw [if_neg (by omega), if_neg (fun h => h h0), if_pos hl]
  rw [h, this, List.append_nil]
theorem headE_get (l : List UInt8) : headE reqOps l = if getE reqOps l = 0 then (if atP l 0 = 132 then 0 else 20) else getE reqOps l := by
  unfold headE getE
  by_cases h1 : atP l 0 = 132
  · rw [if_pos h1, if_pos h1, if_pos h1]
    split <;> simp [*]
  · rw [if_neg h1, if_neg h1, if_neg h1]
    by_cases h4 : atP l 0 = 4
    · rw [if_pos h4, if_pos h4]
    · rw [if_neg h4, if_neg h4]; rfl
theorem Full.drew {w : World} {ok : Nat → TypeId → Prop} {sz n : Nat} {v : Value} {xs : List Value} (h : Full w ok sz v n xs) : Full w.drew ok sz v n xs := h
theorem full_pend {w : World} {A : Option Addr} {n : Nat} {l : List UInt8} (h : Full w (fun _ e => e = 5) 1 (.slice A n n) n (bsC l)) : PendAt w 5 (.slice A n n) l := by
  have hl : l.length = n := by have := h.1; rw [bsC_len] at this; omega
  subst hl
  obtain ⟨_, A', hv, hm, _⟩ := id h
  refine ⟨A, l.length, rfl, Nat.le_refl _, hm, fun hne => h.slk fun e => hne (List.eq_nil_of_length_eq_zero e)⟩
theorem frC_one {p : FV} {A : Option Addr} {n c : Nat} (h : p.2 = .slice A n c) : ∀ u ∈ frC p, u.oneCell' = true := by
  intro u hu
  unfold frC at hu
  rw [h] at hu
  simp only [List.mem_cons, List.not_mem_nil, or_false] at hu
  rcases hu with rfl | rfl | rfl | rfl | rfl | rfl <;> rfl
/-- Where the loop stands. -/
def SpInv (w : World) (gs : Nat) (l : List UInt8) (j : Nat) (v6 : Value) (wr : World) : Prop :=
  ∃ (fv : List FV) (rest : List UInt8) (A : Option Addr) (c fu : Nat), rest.length = j ∧ rest.length ≤ 1000000 ∧ rest.length ≤ fu ∧ adGo l.length l (fv.map (·.1)) fu rest ∧ Blk wr gs 151 #[.int .u8 132, .slice A rest.length c, .int .i64 0] ∧ PendAt wr 5 (.slice A rest.length c) rest ∧
    wr.ownsRow w.heap.size 123 6 v6 fv.length (fv.flatMap frC) ∧ (∀ p ∈ fv, BodyOk wr w.heap.size p) ∧ Kept (fun k => k = gs) w wr ∧ fv.length ≤ 1000000 ∧ fv.length + rest.length ≤ 1000000
/-- .. how it ends: nothing is wrong. -/
theorem SpInv.fine {w wr wf : World} {gs : Nat} {l rest : List UInt8} {fv : List FV} {A A6 : Option Addr} {c c6 : Nat} (ha : addP reqOps l.length l = (fv.map (·.1), rest, 0)) (hb : Blk wr gs 151 #[.int .u8 132, .slice A rest.length c, .int .i64 0]) (hp : PendAt wr 5 (.slice A rest.length c) rest)
    (ho : wr.ownsRow w.heap.size 123 6 (.slice A6 fv.length c6) fv.length (fv.flatMap frC)) (hbo : ∀ p ∈ fv, BodyOk wr w.heap.size p) (hk : Kept (fun k => k = gs) w wr) (hf : Kept noBlock wr wf) : SpPost w gs l (.returned (.tuple #[.slice A6 fv.length c6, .int .i64 0])) wf := by
  refine ⟨fv, A6, fv.length, c6, .slice A rest.length c, by rw [ha], rfl, by rw [ha], (own_slk2 ho).keptNone hf, fun p hp2 => (hbo p hp2).kept hf fun _ _ _ _ e => e.elim, ?_, ?_, hk.trans hf fun _ _ e => e.elim⟩
  · rw [ha]; exact hb.kept hf fun e => e
  · rw [ha]; exact hp.keptN hf
theorem SpInv.bad {w wf : World} {gs : Nat} {l : List UInt8} {fv : List FV} {A6 : Option Addr} {c6 : Nat} {e0 : Int} (ha : addP reqOps l.length l = (fv.map (·.1), [], e0)) (hb : Blk wf gs 151 #[.int .u8 132, .slice none 0 0, .int .i64 e0])
    (ho : wf.ownsRow w.heap.size 123 6 (.slice A6 fv.length c6) fv.length (fv.flatMap frC)) (hbo : ∀ p ∈ fv, BodyOk wf w.heap.size p) (hk : Kept (fun k => k = gs) w wf) : SpPost w gs l (.returned (.tuple #[.slice A6 fv.length c6, .int .i64 e0])) wf := by
  refine ⟨fv, A6, fv.length, c6, .slice none 0 0, by rw [ha], rfl, by rw [ha], own_slk2 ho, hbo, ?_, ?_, hk⟩
  · rw [ha]; exact hb
  · rw [ha]; exact PendAt.nil _ _ (Nat.zero_le _)
set_option maxHeartbeats 8000000 in
set_option maxRecDepth 100000 in
theorem spAdd_at {w : World} {gs : Nat} {sv : Value} {pl bl : List UInt8} {A : Option Addr} {n c : Nat} (hb : Blk w gs 151 #[.int .u8 132, sv, .int .i64 0]) (hp : PendAt w 5 sv pl) (hs : Sl w 5 1 (.slice A n c) n (bsC bl)) (hlen : pl.length + n ≤ 1000000) :
    Calls Tryz.prog 46 #[.pointer (some ⟨gs, 0, none⟩), .slice A n c] w (SpPost w gs (pl ++ bl)) := by
  have hbl : bl.length = n := by have := hs.len; rw [bsC_len] at this; omega
  obtain ⟨y0, y1, y2⟩ := split3 hb
  have hln := hp.run_len bytesT
  obtain ⟨A0, hcap, hfull⟩ := hp.run_cap bytesT
  have HB := Lib.hid hb
  have HF := Lib.hid hfull
  have HS := Lib.hid hs
  have HBL := Lib.hid hbl
  have HLL : Hid ((pl ++ bl).length ≤ 1000000) := Lib.hid (by rw [List.length_append, hbl]; exact hlen)
  have HEL : Hid (bsC (pl ++ bl) = bsC pl ++ bsC bl ∧ pl.length + n = (pl ++ bl).length ∧ (bl = [] → pl ++ bl = pl)) := Lib.hid ⟨byteCells_app pl bl, by rw [List.length_append, hbl], fun e => by rw [e, List.append_nil]⟩
  generalize pl ++ bl = l at *
  clear hb hp hs hfull hbl
  go_enter Tryz.func46, Tryz.ntmps46
  go_wp2_with fail
  go_step3
  go_upto_region 5 with (fail)
  refine wp_region_schZ (fun W => Kept noBlock w W) (.take 0 (.take 1 (.take 2 (.take 3 (.take 4 (.take 5 (.take 6 (.take 7 (.take 8 (.take 9 (.take 10 (.take 11 (.take 12 (.take 13 (.take 14 (.take 15 (.take 16 (.one 17 .nil)))))))))))))))))) [18, 19, 20] (by kernel_rfl) (by kernel_rfl) (by kernel_rfl) (Kept.refl _ _).drew ?_
  repeat (first
    | (refine schZ_takeE rfl rfl ?_
       apply Exists.intro
       refine ⟨fun w' hS => ?_, fun K hK => ?_⟩
       · (have r1 := hS.cellN y1
          clear hS
          unfold takesAt; go_simp; rfl)
       go_simp
       refine hK _ ?_
       clear hK K))
  refine schZ_doK rfl rfl (fun K hK => ?_)
  refine wp_append_full bytesT (.tmp 36) (.tmp 37) rfl rfl HF.out.drew rfl (SlK.drew HS.out) (fun u hu => bsC_one hu) (by omega) ?_
  intro v' w' hcase
  obtain ⟨A', c', rfl, hpend, hk⟩ : ∃ A' c', v' = .slice A' l.length c' ∧ PendAt w' 5 v' l ∧ Kept noBlock w w' := by
    rcases hcase with ⟨h0, rfl, rfl⟩ | ⟨hne, ho, hk⟩
    · have : bl = [] := List.eq_nil_of_length_eq_zero (by rw [HBL.out]; exact h0)
      rw [HEL.out.2.2 this]
      exact ⟨_, _, rfl, full_pend HF.out.drew, (Kept.refl noBlock w).drew⟩
    · have ho' : w'.ownsRow w.drew.heap.size 5 1 v' (pl.length + n) (bsC l) := by
        rw [HEL.out.1]; exact ho
      obtain ⟨A', c', rfl, -, -⟩ := (Sl.of_own ho').shape
      rw [HEL.out.2.1] at ho' ⊢
      exact ⟨A', c', rfl, PendAt.of (Sl.of_own ho'), (Kept.refl noBlock w).drew.trans hk fun _ _ e => e⟩
  generalize hLn : l.length = Ln at *
  have HLN := Lib.hid hLn
  clear hLn
  refine hK _ _ hk ?_
  clear hK K hcase
  refine schZ_nil ?_
  have hb1 := HB.out.kept hk fun e => e
  obtain ⟨x0, x1, x2⟩ := split3 hb1
  have f1 := hb1.frozen 1
  have HB1 := Lib.hid (hb1.set_ 1 (.slice A' Ln c'))
  have HP1 := Lib.hid (hpend.kept ((Kept.refl (fun k => k = gs) w').setCell (p := ⟨gs, 1, none⟩) (fun _ => rfl) (.slice A' Ln c')) (by
    rintro g cs fz rfl hh
    unfold Blk at hb1
    rw [hb1] at hh
    injection hh with hh
    injection hh with _ h3
    exact absurd h3 (by decide)))
  have HK1 := Lib.hid ((hk.of_none (S := fun k => k = gs)).setCell (p := ⟨gs, 1, none⟩) (fun _ => rfl) (.slice A' Ln c'))
  clear hb1 hpend hk y0 y1 y2 hln hcap
  refine tail_doK rfl rfl (fun K hK => ?_)
  go_simp
  refine hK _ _ ?_
  clear hK K
  refine tail_doK rfl rfl (fun K hK => ?_)
  go_simp
  refine hK _ _ ?_
  clear hK K
  refine tail_doK rfl rfl (fun K hK => ?_)
  go_simp
  refine hK _ _ ?_
  clear hK K x0 x1 x2 f1
  refine tail_nil (NoPanic.normal ?_)
  generalize w'.setCell ⟨gs, 1, none⟩ (.slice A' Ln c') = w1 at *
  go_wp2_with fail
  go_step3
  go_wp2_with fail
  go_loopg [6] Ln (fun j v6 wr => SpInv w gs l j v6 wr)
  case atStart =>
    have e := HLN.out
    subst e
    exact ⟨[], l, A', c', l.length, rfl, HLL.out, Nat.le_refl _, adGo.start _ _, HB1.out, HP1.out, World.ownsRow_nil _ _ _ _, fun p hp => absurd hp List.not_mem_nil, HK1.out, Nat.zero_le _, by have := HLL.out; show 0 + _ ≤ _; omega⟩
  case round =>
    obtain ⟨fv, rest, Ar, cr, fu, hj, hrl, hfu, had, hb, hp, hown, hbo, hk, hfl, hfl2⟩ := hrel
    have hsz := hk.size
    obtain ⟨A6, c6, rfl, -, -⟩ := (Sl.of_own hown).shape
    obtain ⟨x0, x1, x2⟩ := split3 hb
    have f1 := hb.frozen 1
    have f2 := hb.frozen 2
    have hlr := hp.run_len bytesT
    have HJ := Lib.hid hj
    have HFU := Lib.hid hfu
    have HAD := Lib.hid had
    have HB := Lib.hid hb
    have HP := Lib.hid hp
    have HO := Lib.hid hown
    have HBO := Lib.hid hbo
    have HK := Lib.hid hk
    have HFL := Lib.hid hfl2
    clear hj hfu had hb hp hown hbo hk hfl hfl2
    by_cases h9 : rest.length < 9
    · have HA := Lib.hid (adGo.short HAD.out h9)
      go_wp2_with fail
      go_quiet (fail)
      go_wp2
      try rw [Exit.noGoto_ret]
      go_ret2
      exact SpInv.fine HA.out HB.out HP.out HO.out HBO.out HK.out ((Kept.refl noBlock wr).drewN _)
    · have hne : rest ≠ [] := fun e => by rw [e] at h9; exact h9 (by decide)
      have hsl := HP.out.slk hne
      have HG := Lib.hid (hdGet_at hsl (by omega))
      have HSL := Lib.hid hsl
      obtain ⟨fu', hfu'⟩ : ∃ fu', fu = fu' + 1 := ⟨fu - 1, by have := HFU.out; omega⟩
      subst hfu'
      have hlp := lenP_lt rest
      clear hsl hne
      go_wp2_with fail
      go_at_call 67
      refine HG.out.mono ?_
      rintro e w2 ⟨rfl, hk2⟩
      have HK2 := Lib.hid hk2
      have HHE := Lib.hid (headE_get rest)
      clear hk2 x0 x1 x2 f1 f2
      by_cases h0 : getE reqOps rest = 0
      · rw [if_pos h0, h0]
        have HFR : Hid ((frP rest).fl = atP rest 1 ∧ (frP rest).st = stP rest ∧ (frP rest).op = atP rest 4) := Lib.hid ⟨rfl, rfl, rfl⟩
        have HHC := Lib.hid (show hdC rest = #[.int .u8 ((atP rest 0).toNat : Int), .int .u8 ((atP rest 1).toNat : Int), .int .i16 (stP rest), .int .u8 ((atP rest 4).toNat : Int), .int .u32 (lenP rest)] from rfl)
        rw [HHC.out]
        have HBH := Lib.hid (Blk.new w2 40 #[.int .u8 ((atP rest 0).toNat : Int), .int .u8 ((atP rest 1).toNat : Int), .int .i16 (stP rest), .int .u8 ((atP rest 4).toNat : Int), .int .u32 (lenP rest)])
        have HK3 := Lib.hid (HK2.out.alloc (.cells #[.int .u8 ((atP rest 0).toNat : Int), .int .u8 ((atP rest 1).toNat : Int), .int .i16 (stP rest), .int .u8 ((atP rest 4).toNat : Int), .int .u32 (lenP rest)] 40))
        go_upto_region 9 with (fail)
        generalize hw3 : w2.alloc (.cells #[.int .u8 ((atP rest 0).toNat : Int), .int .u8 ((atP rest 1).toNat : Int), .int .i16 (stP rest), .int .u8 ((atP rest 4).toNat : Int), .int .u32 (lenP rest)] 40) = w3 at *
        have hgsh : gs < w2.heap.size := Nat.lt_of_lt_of_le HB.out.lt HK2.out.size
        generalize hgh : w2.heap.size = gh at *
        clear hw3 hgh
        have hb3 := HB.out.kept HK3.out fun e => e
        obtain ⟨x0, x1, x2⟩ := split3 hb3
        have f1 := hb3.frozen 1
        have f2 := hb3.frozen 2
        have hbh := HBH.out
        have q0 := hbh.cell 0
        have q1 := hbh.cell 1
        have q2 := hbh.cell 2
        have q3 := hbh.cell 3
        have q4 := hbh.cell 4
        simp only [List.getElem?_toArray, List.getElem?_cons_zero, List.getElem?_cons_succ] at q0 q1 q2 q3 q4
        have HB3 := Lib.hid hb3
        have HO3 := Lib.hid (own_keptB HO.out HK3.out fun _ _ e => e)
        have HBO3 : Hid (∀ p ∈ fv, BodyOk w3 w.heap.size p) := Lib.hid fun p hp => (HBO.out p hp).kept HK3.out fun _ _ _ _ e => e.elim
        have HK03 := Lib.hid (HK.out.trans HK3.out fun _ _ e => e.elim)
        clear hb3 hbh
        by_cases h1 : atP rest 0 = 132
        · have HE : Hid (headE reqOps rest = 0) := Lib.hid (by rw [HHE.out, if_pos h0, if_pos h1])
          have h132 : ((atP rest 0).toNat : Int) = 132 := by rw [h1]; rfl
          rw [h132] at q0
          have HBH2 : Hid (Blk w3 gh 40 #[.int .u8 132, .int .u8 ((atP rest 1).toNat : Int), .int .i16 (stP rest), .int .u8 ((atP rest 4).toNat : Int), .int .u32 (lenP rest)]) := Lib.hid (by rw [← h132]; exact HBH.out)
          clear h0 h1 h132
          by_cases hl : rest.length < 9 + lenP rest
          · have HA := Lib.hid (adGo.part HAD.out (by omega) HE.out hl)
            go_quiet (fail)
            go_wp2_with fail
            go_quiet (fail)
            go_wp2
            try rw [Exit.noGoto_ret]
            go_ret2
            exact SpInv.fine HA.out HB3.out (HP.out.keptN HK3.out) HO3.out HBO3.out HK03.out (((Kept.refl noBlock w3).drewN _).drewN _)
          · have HST := Lib.hid (adGo.step HAD.out (by omega) HE.out (by omega))
            have hbl : (frP rest).body.length = lenP rest := by show ((rest.drop 9).take (lenP rest)).length = _; rw [List.length_take, List.length_drop]; omega
            have HBL := Lib.hid hbl
            clear hbl
            generalize hlp2 : lenP rest = lp at *
            have HLP2 := Lib.hid hlp2
            clear hlp2
            obtain ⟨Am, cm, hmid, hsm⟩ := HSL.out.run_mid bytesT (i := (9 : Int)) (i' := 9 + (lp : Int)) (k := 9) (k' := 9 + lp) rfl (by omega) (by omega) (by omega)
            obtain ⟨At, ct, hfrom, hsf⟩ := HSL.out.run_from bytesT (i := 9 + (lp : Int)) (k := 9 + lp) (by omega) (by omega)
            rw [Nat.add_sub_cancel_left] at hmid hsm
            have hsm' : Sl wr 5 1 (.slice Am lp cm) lp (bsC (frP rest).body) := by
              have e : bsC (frP rest).body = ((bsC rest).take ((9 + lp) * 1)).drop (9 * 1) := by
                rw [Nat.mul_one, Nat.mul_one, bsC_take, bsC_drop]
                congr 1
                show (rest.drop 9).take (lenP rest) = _
                rw [HLP2.out, List.drop_take, Nat.add_sub_cancel_left]
              rw [e]; exact hsm
            have hsf' : Sl wr 5 1 (.slice At (rest.length - (9 + lp)) ct) (rest.length - (9 + lp)) (bsC (rest.drop (9 + lp))) := by
              have e : bsC (rest.drop (9 + lp)) = (bsC rest).drop ((9 + lp) * 1) := by rw [Nat.mul_one, bsC_drop]
              rw [e]; exact hsf
            have hrl2 : (rest.drop (9 + lp)).length = rest.length - (9 + lp) := List.length_drop
            have HSM := Lib.hid hsm'
            have HSF := Lib.hid hsf'
            have HRL2 := Lib.hid hrl2
            have hngh : ¬ (Value.slice A6 fv.length c6).ownBlock = some gh := fun e => by
              obtain ⟨_, cs', hh⟩ := own_type HO3.out e
              have hb' := HBH.out
              unfold Blk at hb'
              rw [hh] at hb'
              injection hb' with hb'
              injection hb' with _ h3
              exact absurd h3 (by decide)
            have hngs : ¬ (Value.slice A6 fv.length c6).ownBlock = some gs := fun e => by
              obtain ⟨_, cs', hh⟩ := own_type HO3.out e
              have hb' := HB3.out
              unfold Blk at hb'
              rw [hh] at hb'
              injection hb' with hb'
              injection hb' with _ h3
              exact absurd h3 (by decide)
            have HNG := Lib.hid hngh
            have HNS := Lib.hid hngs
            clear hsm hsm' hsf hsf' hrl2 hngh hngs
            have HNC : Hid (∀ Ax cx, frC (frP rest, .slice Ax lp cx) = [.int .u8 132, .int .u8 ((atP rest 1).toNat : Int), .int .i16 (stP rest), .int .u8 ((atP rest 4).toNat : Int), .int .u32 (lp : Int), .slice Ax lp cx]) := Lib.hid fun Ax cx => by unfold frC; rw [HBL.out]; rfl
            go_quiet (fail)
            go_upto_region 15 with (fail)
            clear x0 x1 x2 f1 f2 q0 q1 q2 q3 q4
            refine wp_region_sch (fun W => Kept (fun k => (Value.slice A6 fv.length c6).ownBlock = some k) w3 W) (.take 0 (.take 1 (.take 2 (.take 3 (.take 4 (.take 5 (.take 6 (.take 7 (.one 8 (.take 9 (.one 10 (.one 11 (.take 12 .nil))))))))))))) (by kernel_rfl) (by kernel_rfl) (by kernel_rfl) (((Kept.refl _ w3).drewN nq).drew) ?_
            repeat (first
              | (refine sch_takeE rfl rfl ?_
                 apply Exists.intro
                 refine ⟨fun w' hS => ?_, fun K hK => ?_⟩
                 · (have r1 := (HB3.out.kept hS HNS.out).cell 1
                    have p0 := (HBH2.out.kept hS HNG.out).cell 0
                    have p1 := (HBH2.out.kept hS HNG.out).cell 1
                    have p2 := (HBH2.out.kept hS HNG.out).cell 2
                    have p3 := (HBH2.out.kept hS HNG.out).cell 3
                    have p4 := (HBH2.out.kept hS HNG.out).cell 4
                    simp only [List.getElem?_toArray, List.getElem?_cons_zero, List.getElem?_cons_succ] at r1 p0 p1 p2 p3 p4
                    clear hS
                    unfold takesAt; go_simp; rfl)
                 go_simp
                 refine hK _ ?_
                 clear hK K))
            refine sch_doK rfl rfl (fun K hK => ?_)
            go_simp
            go_at_call 35
            refine (BClone_at (SlK.drew ((SlK.keptNone HSM.out HK3.out).drewN nq)) (by omega)).mono ?_
            rintro e w5 ⟨v5, rfl, ho5, hk5⟩
            obtain ⟨Ax, cx, rfl, -, -⟩ := (Sl.of_own ho5).shape
            have HK5 := Lib.hid (((Kept.refl noBlock w3).drewN nq).drew.trans hk5 fun _ _ e => e)
            have HO5 := Lib.hid (own_keptB HO3.out HK5.out fun _ _ e => e)
            have hB5 : w.heap.size ≤ w3.heap.size := HK03.out.size
            have HNB : Hid (BodyOk w5 w.heap.size (frP rest, .slice Ax lp cx)) := Lib.hid ⟨Ax, cx, by rw [HBL.out], by
              show SlK w5 _ 1 (.slice Ax lp cx) (frP rest).body.length _
              rw [HBL.out]
              exact (own_slk2 ho5).any fun _ _ _ e => ⟨Nat.le_trans hB5 e.1, e.2⟩⟩
            refine hK _ _ HK5.out.of_none ?_
            clear hK K ho5 hk5
            repeat (first
              | (refine sch_takeE rfl rfl ?_
                 apply Exists.intro
                 refine ⟨fun w' hS => ?_, fun K hK => ?_⟩
                 · (clear hS
                    unfold takesAt; go_simp; rfl)
                 go_simp
                 refine hK _ ?_
                 clear hK K))
            refine sch_doK rfl rfl (fun K hK => ?_)
            go_simp
            refine hK _ _ (HK5.out.alloc _).of_none ?_
            clear hK K
            refine sch_doK rfl rfl (fun K hK => ?_)
            refine wp_append_sl _ frmT (.tmp 88) (.tmp 98) rfl w.heap.size _ fv.length (fv.flatMap frC) rfl (World.ownsRow.alloc HO5.out _) _ 1 [.int .u8 132, .int .u8 ((atP rest 1).toNat : Int), .int .i16 (stP rest), .int .u8 ((atP rest 4).toNat : Int), .int .u32 (lp : Int), .slice Ax lp cx] rfl (Sl.made_at (Blk.new w5 123 #[.int .u8 132, .int .u8 ((atP rest 1).toNat : Int), .int .i16 (stP rest), .int .u8 ((atP rest 4).toNat : Int), .int .u32 (lp : Int), .slice Ax lp cx]) _ rfl rfl one_max) (by simp [Value.oneCell']) ?c1 ?c2 ?_
            case c1 => have := HFL.out; omega
            case c2 => have h2 := HK5.out.size; simp only [sz_alloc]; omega
            intro v' w6 hap
            obtain ⟨A7, c7, rfl, -, -⟩ := (Sl.of_own hap.own).shape
            have HS6 := Lib.hid ((HK5.out.alloc (.cells #[.int .u8 132, .int .u8 ((atP rest 1).toNat : Int), .int .i16 (stP rest), .int .u8 ((atP rest 4).toNat : Int), .int .u32 (lp : Int), .slice Ax lp cx] 123)).of_none.trans hap.kept fun _ _ e => e)
            have HO6 := Lib.hid hap.own
            have HBO6 : Hid (∀ p ∈ fv ++ [(frP rest, .slice Ax lp cx)], BodyOk w6 w.heap.size p) := Lib.hid fun p hp => by
              have h5 : BodyOk w5 w.heap.size p := by
                rcases List.mem_append.1 hp with h | h
                · exact (HBO3.out p h).kept HK5.out fun _ _ _ _ e => e.elim
                · obtain rfl : p = _ := by simpa using h
                  exact HNB.out
              refine (h5.kept ((Kept.refl noBlock w5).alloc _) fun _ _ _ _ e => e.elim).kept hap.kept fun g cs fz _ hg hh => ?_
              obtain ⟨_, cs', h2⟩ := own_type (World.ownsRow.alloc HO5.out _) hg
              rw [hh] at h2
              injection h2 with h2
              injection h2 with _ h3
              exact absurd h3 (by decide)
            refine hK _ _ HS6.out ?_
            clear hK K hap
            repeat (first
              | (refine sch_takeE rfl rfl ?_
                 apply Exists.intro
                 refine ⟨fun w' hS => ?_, fun K hK => ?_⟩
                 · (clear hS
                    unfold takesAt; go_simp; rfl)
                 go_simp
                 refine hK _ ?_
                 clear hK K))
            refine sch_nil (NoPanic.normal ?_)
            have hb6 := HB3.out.kept HS6.out HNS.out
            obtain ⟨x0, x1, x2⟩ := split3 hb6
            have f1 := hb6.frozen 1
            have HB6 := Lib.hid hb6
            have HSF6 := Lib.hid (show PendAt w6 5 (.slice At (rest.length - (9 + lp)) ct) (rest.drop (9 + lp)) from PendAt.of (SlK.kept (SlK.keptNone HSF.out HK3.out) HS6.out (by
              rintro g cs fz hg hh
              obtain ⟨_, cs', h2⟩ := own_type HO3.out hg
              rw [hh] at h2
              injection h2 with h2
              injection h2 with _ h3
              exact absurd h3 (by decide))))
            clear hb6
            go_wp2_with fail
            go_roundg (rest.length - (9 + lp))
            case measure => have := HJ.out; omega
            case rel =>
              have hu8 : ∀ (g : Nat) (cs : Array Value) (fz : Nat × Nat), g = gs → w6.heap[g]? ≠ some (Obj.cells cs 5 fz) := by
                rintro g cs fz rfl hh
                have hb' := HB6.out
                unfold Blk at hb'
                rw [hb'] at hh
                injection hh with hh
                injection hh with _ h3
                exact absurd h3 (by decide)
              have hkf := (Kept.refl (fun k => k = gs) w6).setCell (p := ⟨gs, 1, none⟩) (fun _ => rfl) (.slice At (rest.length - (9 + lp)) ct)
              refine ⟨fv ++ [(frP rest, .slice Ax lp cx)], rest.drop (9 + lp), At, ct, fu', HRL2.out, by rw [HRL2.out]; omega, by rw [HRL2.out]; have := HFU.out; omega, by rw [List.map_append]; exact HST.out, ?_, ?_, ?_, fun p hp => (HBO6.out p hp).kept hkf fun g cs fz _ hg => hu8 g cs fz hg, ?_, by rw [List.length_append]; have := HFL.out; show _ + 1 ≤ _; omega, by rw [List.length_append, HRL2.out]; have := HFL.out; show _ + 1 + _ ≤ _; omega⟩
              · rw [HRL2.out]; exact HB6.out.set_ 1 _
              · rw [HRL2.out]; exact HSF6.out.kept hkf hu8
              · rw [List.length_append, List.flatMap_append, List.flatMap_singleton, HNC.out]
                exact own_far HO6.out HB6.out (by decide) 1 _
              · exact ((HK03.out.trans HS6.out fun i hi e => by have := (own_type HO3.out e).1; omega)).setCell (p := ⟨gs, 1, none⟩) (fun _ => rfl) _
        · have hq1 : (((atP rest 0).toNat : Int) == 132) = false := by
            rw [beq_eq_false_iff_ne]
            exact fun e => h1 (UInt8.toNat_inj.1 (by have : (132 : UInt8).toNat = 132 := rfl; omega))
          have HA : Hid (addP reqOps l.length l = (fv.map (·.1), [], 20)) := Lib.hid (by
            have he : headE reqOps rest = 20 := by rw [HHE.out, if_pos h0, if_neg h1]
            have := adGo.bad HAD.out (by omega) (by rw [he]; decide)
            rw [he] at this; exact this)
          clear h0 h1
          go_quiet (fail)
          have HKF := Lib.hid ((((Kept.refl (fun k => k = gs) w3).drewN nq).setCell (p := ⟨gs, 1, none⟩) (fun _ => rfl) (.slice none 0 0)).setCell (p := ⟨gs, 2, none⟩) (fun _ => rfl) (.int .i64 20))
          have HB4 := Lib.hid (((HB3.out.drewN nq).set_ 1 (.slice none 0 0)).set_ 2 (.int .i64 20))
          go_wp2_with fail
          go_quiet (fail)
          go_wp2
          try rw [Exit.noGoto_ret]
          go_ret2
          have hu8 : ∀ (g : Nat) (cs : Array Value) (fz : Nat × Nat), g = gs → w3.heap[g]? ≠ some (Obj.cells cs 5 fz) := by
            rintro g cs fz rfl hh
            have hb' := HB3.out
            unfold Blk at hb'
            rw [hb'] at hh
            injection hh with hh
            injection hh with _ h3
            exact absurd h3 (by decide)
          exact SpInv.bad HA.out (HB4.out.drewN _) (own_keptB HO3.out (HKF.out.drewN _) fun i hi e => by
            obtain ⟨_, cs', h2⟩ := own_type HO3.out hi
            obtain rfl : i = gs := e
            have hb' := HB3.out
            unfold Blk at hb'
            rw [hb'] at h2
            injection h2 with h2
            injection h2 with _ h3
            exact absurd h3 (by decide)) (fun p hp => (HBO3.out p hp).kept (HKF.out.drewN _) fun g cs fz _ hg => hu8 g cs fz hg) ((HK03.out.trans HKF.out fun _ _ e => e).drewN _)
      · rw [if_neg h0]
        have hq0 : (getE reqOps rest == 0) = false := by rw [beq_eq_false_iff_ne]; exact h0
        have HA : Hid (addP reqOps l.length l = (fv.map (·.1), [], getE reqOps rest)) := Lib.hid (by
          have he : headE reqOps rest = getE reqOps rest := by rw [HHE.out, if_neg h0]
          have := adGo.bad HAD.out (by omega) (by rw [he]; exact h0)
          rw [he] at this; exact this)
        generalize getE reqOps rest = e0 at *
        clear h0
        unfold hdC0
        have HK3 := Lib.hid (HK2.out.alloc (.cells #[.int .u8 0, .int .u8 0, .int .i16 0, .int .u8 0, .int .u32 0] 40))
        have HBH := Lib.hid (Blk.new w2 40 #[.int .u8 0, .int .u8 0, .int .i16 0, .int .u8 0, .int .u32 0])
        go_upto_region 9 with (fail)
        generalize hw3 : w2.alloc (.cells #[.int .u8 0, .int .u8 0, .int .i16 0, .int .u8 0, .int .u32 0] 40) = w3 at *
        have hgsh : gs < w2.heap.size := Nat.lt_of_lt_of_le HB.out.lt HK2.out.size
        generalize hgh : w2.heap.size = gh at *
        clear hw3 hgh
        have hb3 := HB.out.kept HK3.out fun e => e
        obtain ⟨x0, x1, x2⟩ := split3 hb3
        have f1 := hb3.frozen 1
        have f2 := hb3.frozen 2
        have q4 : w3.cell? ⟨gh, 4, none⟩ = some (.int .u32 0) := HBH.out.cell 4
        have HB3 := Lib.hid hb3
        have HO3 := Lib.hid (own_keptB HO.out HK3.out fun _ _ e => e)
        have HBO3 : Hid (∀ p ∈ fv, BodyOk w3 w.heap.size p) := Lib.hid fun p hp => (HBO.out p hp).kept HK3.out fun _ _ _ _ e => e.elim
        have HK03 := Lib.hid (HK.out.trans HK3.out fun _ _ e => e.elim)
        clear hb3
        go_quiet (fail)
        have HKF := Lib.hid ((((Kept.refl (fun k => k = gs) w3).drewN nq).setCell (p := ⟨gs, 1, none⟩) (fun _ => rfl) (.slice none 0 0)).setCell (p := ⟨gs, 2, none⟩) (fun _ => rfl) (.int .i64 e0))
        have HB4 := Lib.hid (((HB3.out.drewN nq).set_ 1 (.slice none 0 0)).set_ 2 (.int .i64 e0))
        go_wp2_with fail
        go_quiet (fail)
        go_wp2
        try rw [Exit.noGoto_ret]
        go_ret2
        have hu8 : ∀ (g : Nat) (cs : Array Value) (fz : Nat × Nat), g = gs → w3.heap[g]? ≠ some (Obj.cells cs 5 fz) := by
          rintro g cs fz rfl hh
          have hb' := HB3.out
          unfold Blk at hb'
          rw [hb'] at hh
          injection hh with hh
          injection hh with _ h3
          exact absurd h3 (by decide)
        exact SpInv.bad HA.out (HB4.out.drewN _) (own_keptB HO3.out (HKF.out.drewN _) fun i hi e => by
          obtain ⟨_, cs', h2⟩ := own_type HO3.out hi
          obtain rfl : i = gs := e
          have hb' := HB3.out
          unfold Blk at hb'
          rw [hb'] at h2
          injection h2 with h2
          injection h2 with _ h3
          exact absurd h3 (by decide)) (fun p hp => (HBO3.out p hp).kept (HKF.out.drewN _) fun g cs fz _ hg => hu8 g cs fz hg) ((HK03.out.trans HKF.out fun _ _ e => e).drewN _)
end Go.Proofs.YtfnjoceolcdeoaaGreatDoor

/- replica: (*chooser).host. -/
import Derived.Test.YtjdjfikeiphgpaaRpTake
namespace Go.Proofs.Ytjdjfikeiphgpaa
set_option linter.unusedVariables false
open Go.RowKit
open Go.ChangeMaps (setBlock)

theorem aput_aput {α β : Type} [DecidableEq α] (k : α) (u v : β) : ∀ (l : List (α × β)), aput k v (aput k u l) = aput k v l
  | [] => by simp [aput]
  | (a, b) :: l => by
    by_cases h1 : a = k
    · subst h1; simp [aput]
    · simp [aput, h1, aput_aput k u v l]
theorem zero_site (w : World) : (zeroValue 42).run Try.prog w = .ok (.agg #[.string noStr, .string noStr, .string noStr]) w := Try.zeroValue42 w
theorem zero_cen (w : World) : (zeroValue 78).run Try.prog w = .ok (.pointer none) w := Try.zeroValue78 w
theorem cen_none {cs : List (ByteArray × Cr)} {d : ByteArray} (hd : aget d cs = none) : aget d (cs.map fun p => (p.1, p.2.g)) = none := by
  rw [aget_eq_none] at hd ⊢
  intro p hp
  obtain ⟨q, hq, rfl⟩ := List.mem_map.1 hp
  exact hd q hq
theorem cen_some {cs : List (ByteArray × Cr)} {d : ByteArray} {c : Cr} (hn : (cs.map (·.1)).Nodup) (hd : aget d cs = some c) : aget d (cs.map fun p => (p.1, p.2.g)) = some c.g :=
  aget_of_mem (by rw [List.map_map]; exact hn) (List.mem_map.2 ⟨_, aget_mem hd, rfl⟩)

/-- The waiting ones go out, as many as may. -/
def Cr.room (c : Cr) : Nat := (c.need - c.tk).toNat
def Cr.flush (c : Cr) (j : Nat) : Cr := { c with tk := c.tk + min j c.room }
theorem flush_zero (c : Cr) : c.flush 0 = c := by unfold Cr.flush; rw [Nat.zero_min]; rfl
theorem flush_step (c : Cr) (d : ByteArray) (cs : List (ByteArray × Cr)) (i : Nat) : takeCs d (c.flush i) (aput d (c.flush i) cs) = aput d (c.flush (i + 1)) cs := by
  unfold takeCs
  by_cases h : ((c.flush i).tk : Int) < (c.flush i).need
  · rw [if_pos h, aput_aput]
    have h1 : ((c.tk + min i c.room : Nat) : Int) < c.need := h
    have h2 : c.room = (c.need - c.tk).toNat := rfl
    have h3 : (c.flush i).more = c.flush (i + 1) := by
      show ({ c with tk := c.tk + min i c.room + 1 } : Cr) = { c with tk := c.tk + min (i + 1) c.room }
      have : c.tk + min i c.room + 1 = c.tk + min (i + 1) c.room := by omega
      rw [this]
    rw [h3]
  · rw [if_neg h]
    have h1 : ¬ ((c.tk + min i c.room : Nat) : Int) < c.need := h
    have h2 : c.room = (c.need - c.tk).toNat := rfl
    have h3 : c.flush i = c.flush (i + 1) := by
      show ({ c with tk := c.tk + min i c.room } : Cr) = { c with tk := c.tk + min (i + 1) c.room }
      have : c.tk + min i c.room = c.tk + min (i + 1) c.room := by omega
      rw [this]
    rw [h3]
theorem flush_out (c : Cr) (o ws : List ByteArray) {i : Nat} {x : ByteArray} (hx : ws[i]? = some x) : takeOut (c.flush i) x (o ++ (ws.take i).take c.room) = o ++ (ws.take (i + 1)).take c.room := by
  have hil : i < ws.length := (List.getElem?_eq_some_iff.1 hx).1
  have e : ws.take (i + 1) = ws.take i ++ [x] := by rw [List.take_add_one, hx]; rfl
  have hl : (ws.take i).length = i := by rw [List.length_take]; omega
  unfold takeOut
  by_cases h : ((c.flush i).tk : Int) < (c.flush i).need
  · have h1 : ((c.tk + min i c.room : Nat) : Int) < c.need := h
    have h2 : c.room = (c.need - c.tk).toNat := rfl
    rw [if_pos h, e, List.take_of_length_le (l := ws.take i) (by omega), List.take_of_length_le (l := ws.take i ++ [x]) (by rw [List.length_append, hl]; simp; omega), List.append_assoc]
  · have h1 : ¬ ((c.tk + min i c.room : Nat) : Int) < c.need := h
    have h2 : c.room = (c.need - c.tk).toNat := rfl
    rw [if_neg h, e, List.take_append_of_le_length (by omega)]
def Cr.marked (c : Cr) (r : ByteArray) : Cr := { c.more with racks := aput r true c.racks }
def newCs (d r : ByteArray) (c : Cr) (cs : List (ByteArray × Cr)) : List (ByteArray × Cr) :=
  if (aput r true c.racks).all (·.2) then aput d ((c.marked r).flush c.ws.length) cs else aput d (c.marked r) cs
def newOut (r : ByteArray) (c : Cr) (h : ByteArray) (out : List ByteArray) : List ByteArray :=
  if (aput r true c.racks).all (·.2) then out ++ [h] ++ c.ws.take (c.marked r).room else out ++ [h]
section
variable {w : World} {base bX mS mC : Nat} {sm : List (ByteArray × Si)} {cs : List (ByteArray × Cr)} {out : List ByteArray}
set_option maxHeartbeats 2000000 in
set_option maxRecDepth 100000 in
theorem rhost_none {name : ByteArray} {s : Si} {own : Nat → Own} {vo : Value} (hO : ChO w base bX mS mC sm cs out own vo) (hs : aget name sm = some s) (hd : aget s.2.1 cs = none) :
    Calls Try.prog 29 #[.pointer (some ⟨bX, 0, none⟩), .string name] w fun e w' => e = .returned (.tuple #[]) ∧ ∃ own' vo', ChO w' base bX mS mC sm cs out own' vo' ∧ Step own own' w w' := by
  have hN : own w.heap.size = .m := hO.top _ (Nat.le_refl _)
  have z0 := hO.blk.cell 0
  simp only [List.getElem?_toArray, List.getElem?_cons_zero] at z0
  have l1 := hO.sites.run_lookup (P := Try.prog) string_emb msiM strU (zero_site w) name false
  rw [hs] at l1
  obtain ⟨sh, d, r⟩ := s
  simp only [Option.map_some, Option.getD_some, Bool.false_eq_true, if_false, sV] at l1
  have HO := Lib.hid hO
  have HD : Hid (aget d cs = none) := Lib.hid hd
  have HN := Lib.hid hN
  clear hs hd hO hN
  go_enter Try.func29, Try.ntmps29
  go_wp2_with fail
  have hk1 : Kept noBlock w (w.alloc (.cells #[.string sh, .string d, .string r] 42)) := (Kept.refl noBlock w).alloc _
  have hbs : Blk (w.alloc (.cells #[.string sh, .string d, .string r] 42)) w.heap.size 42 #[.string sh, .string d, .string r] := Blk.new _ _ _
  have hO1 := HO.out.kept hk1 (fun _ h => h.elim)
  generalize w.alloc (.cells #[.string sh, .string d, .string r] 42) = w1 at *
  generalize w.heap.size = N at *
  have zs1 := hbs.cell 1
  have zs2 := hbs.cell 2
  have z1 := hO1.blk.cell 1
  simp only [List.getElem?_toArray, List.getElem?_cons_succ, List.getElem?_cons_zero] at zs1 zs2 z1
  have l2 := hO1.cens.drew.run_lookup (P := Try.prog) string_emb mceM strU (zero_cen w1.drew) d false
  rw [cen_none HD.out] at l2
  simp only [Option.map_none, Option.getD_none, Bool.false_eq_true, if_false] at l2
  have HO1 := Lib.hid hO1
  have HK1 := Lib.hid hk1
  have HBS := Lib.hid hbs
  clear hO1 hk1 z0 l1 hbs HO
  go_region
  go_wp2_with fail
  go_region
  go_wp2_with fail
  go_end0
  exact ⟨rfl, _, _, HO1.out.kept (Kept.refl noBlock _).drew.drew (fun _ h => False.elim h), .of_none HK1.out.drew.drew⟩
set_option maxHeartbeats 2000000 in
set_option maxRecDepth 100000 in
theorem rhost_full {name : ByteArray} {s : Si} {c : Cr} {own : Nat → Own} {vo : Value} (hO : ChO w base bX mS mC sm cs out own vo) (hs : aget name sm = some s) (hd : aget s.2.1 cs = some c) (hge : c.need ≤ (c.tk : Int)) :
    Calls Try.prog 29 #[.pointer (some ⟨bX, 0, none⟩), .string name] w fun e w' => e = .returned (.tuple #[]) ∧ ∃ own' vo', ChO w' base bX mS mC sm cs out own' vo' ∧ Step own own' w w' := by
  have hN : own w.heap.size = .m := hO.top _ (Nat.le_refl _)
  have z0 := hO.blk.cell 0
  simp only [List.getElem?_toArray, List.getElem?_cons_zero] at z0
  have l1 := hO.sites.run_lookup (P := Try.prog) string_emb msiM strU (zero_site w) name false
  rw [hs] at l1
  obtain ⟨sh, d, r⟩ := s
  simp only [Option.map_some, Option.getD_some, Bool.false_eq_true, if_false, sV] at l1
  have HO := Lib.hid hO
  have HD : Hid (aget d cs = some c) := Lib.hid hd
  have HN := Lib.hid hN
  clear hs hd hO hN
  go_enter Try.func29, Try.ntmps29
  go_wp2_with fail
  have hk1 : Kept noBlock w (w.alloc (.cells #[.string sh, .string d, .string r] 42)) := (Kept.refl noBlock w).alloc _
  have hbs : Blk (w.alloc (.cells #[.string sh, .string d, .string r] 42)) w.heap.size 42 #[.string sh, .string d, .string r] := Blk.new _ _ _
  have hO1 := HO.out.kept hk1 (fun _ h => h.elim)
  generalize w.alloc (.cells #[.string sh, .string d, .string r] 42) = w1 at *
  generalize w.heap.size = N at *
  have zs1 := hbs.cell 1
  have zs2 := hbs.cell 2
  have z1 := hO1.blk.cell 1
  simp only [List.getElem?_toArray, List.getElem?_cons_succ, List.getElem?_cons_zero] at zs1 zs2 z1
  have l2 := hO1.cens.drew.run_lookup (P := Try.prog) string_emb mceM strU (zero_cen w1.drew) d false
  rw [cen_some HO.out.nd HD.out] at l2
  simp only [Option.map_some, Option.getD_some, Bool.false_eq_true, if_false] at l2
  have HO1 := Lib.hid hO1
  have HK1 := Lib.hid hk1
  have HBS := Lib.hid hbs
  obtain ⟨vw, hcr⟩ := hO1.cr (d, c) (aget_mem HD.out)
  have zc0 := hcr.blk.cell 0
  have zc1 := hcr.blk.cell 1
  simp only [List.getElem?_toArray, List.getElem?_cons_succ, List.getElem?_cons_zero] at zc0 zc1
  have HCR := Lib.hid hcr
  clear hcr
  clear hO1 hk1 z0 l1 hbs HO
  go_region
  go_wp2_with fail
  go_region
  go_wp2_with fail
  go_end0
  exact ⟨rfl, _, _, HO1.out.kept (Kept.refl noBlock _).drew.drew (fun _ h => False.elim h), .of_none HK1.out.drew.drew⟩
set_option maxHeartbeats 2000000 in
set_option maxRecDepth 100000 in
theorem rhost_all {name : ByteArray} {s : Si} {c : Cr} {own : Nat → Own} {vo : Value} (hO : ChO w base bX mS mC sm cs out own vo) (hs : aget name sm = some s) (hd : aget s.2.1 cs = some c) (hlt : (c.tk : Int) < c.need) (hall : c.racks.all (·.2) = true) (ho : out.length ≤ 100000) (ht : c.tk ≤ 100000) :
    Calls Try.prog 29 #[.pointer (some ⟨bX, 0, none⟩), .string name] w fun e w' => e = .returned (.tuple #[]) ∧ ∃ own' vo', ChO w' base bX mS mC sm (takeCs s.2.1 c cs) (takeOut c name out) own' vo' ∧ Step own own' w w' := by
  have hN : own w.heap.size = .m := hO.top _ (Nat.le_refl _)
  have z0 := hO.blk.cell 0
  simp only [List.getElem?_toArray, List.getElem?_cons_zero] at z0
  have l1 := hO.sites.run_lookup (P := Try.prog) string_emb msiM strU (zero_site w) name false
  rw [hs] at l1
  obtain ⟨sh, d, r⟩ := s
  simp only [Option.map_some, Option.getD_some, Bool.false_eq_true, if_false, sV] at l1
  have HO := Lib.hid hO
  have HD : Hid (aget d cs = some c) := Lib.hid hd
  have HN := Lib.hid hN
  clear hs hd hO hN
  go_enter Try.func29, Try.ntmps29
  go_wp2_with fail
  have hk1 : Kept noBlock w (w.alloc (.cells #[.string sh, .string d, .string r] 42)) := (Kept.refl noBlock w).alloc _
  have hbs : Blk (w.alloc (.cells #[.string sh, .string d, .string r] 42)) w.heap.size 42 #[.string sh, .string d, .string r] := Blk.new _ _ _
  have hO1 := HO.out.kept hk1 (fun _ h => h.elim)
  generalize w.alloc (.cells #[.string sh, .string d, .string r] 42) = w1 at *
  generalize w.heap.size = N at *
  have zs1 := hbs.cell 1
  have zs2 := hbs.cell 2
  have z1 := hO1.blk.cell 1
  simp only [List.getElem?_toArray, List.getElem?_cons_succ, List.getElem?_cons_zero] at zs1 zs2 z1
  have l2 := hO1.cens.drew.run_lookup (P := Try.prog) string_emb mceM strU (zero_cen w1.drew) d false
  rw [cen_some HO.out.nd HD.out] at l2
  simp only [Option.map_some, Option.getD_some, Bool.false_eq_true, if_false] at l2
  have HO1 := Lib.hid hO1
  have HK1 := Lib.hid hk1
  have HBS := Lib.hid hbs
  obtain ⟨vw, hcr⟩ := hO1.cr (d, c) (aget_mem HD.out)
  have zc0 := hcr.blk.cell 0
  have zc1 := hcr.blk.cell 1
  simp only [List.getElem?_toArray, List.getElem?_cons_succ, List.getElem?_cons_zero] at zc0 zc1
  have HCR := Lib.hid hcr
  clear hcr
  clear hO1 hk1 z0 l1 hbs HO
  go_region
  go_wp2_with fail
  have HALL := Lib.hid hall
  clear hall
  go_region
  go_wp2_with fail
  go_at_call 40
  refine (rall_at HCR.out.blk.drew.drew HCR.out.map.drew.drew).mono ?_
  rintro e w2 ⟨rfl, hk2⟩
  rw [HALL.out]
  have hk2' := ((Kept.refl noBlock w1).drew.drew).trans hk2 (fun _ _ h => h)
  have hO2 := HO1.out.kept hk2' (fun _ h => False.elim h)
  have hcr2 := HCR.out.kept (own' := own) hk2' (fun _ _ h => False.elim h) (fun _ _ => rfl)
  have hbs2 := HBS.out.kept hk2' (fun h => h)
  have HK2 := Lib.hid (HK1.out.trans hk2' (fun _ _ h => h))
  have HO2 := Lib.hid hO2
  have HCR2 := Lib.hid hcr2
  have HBS2 := Lib.hid hbs2
  clear zs1 zs2 z1 zc0 zc1 l2 hk2 hk2' HO1 HK1 HBS HCR
  clear hO2 hcr2 hbs2
  go_wp2_with fail
  go_at_call 41
  refine (rtake_at (h := name) HO2.out HD.out ho ht).mono ?_
  rintro e w3 ⟨rfl, own3, vo3, hc3, hk3⟩
  have HC3 := Lib.hid hc3
  have HK3 := Lib.hid ((Step.of_none HK2.out).trans hk3)
  clear hc3 hk3
  go_wp2
  go_end0
  exact ⟨rfl, _, _, HC3.out, HK3.out⟩
set_option maxHeartbeats 2000000 in
set_option maxRecDepth 100000 in
theorem rhost_wait {name : ByteArray} {s : Si} {c : Cr} {own : Nat → Own} {vo : Value} (hO : ChO w base bX mS mC sm cs out own vo) (hs : aget name sm = some s) (hd : aget s.2.1 cs = some c) (hlt : (c.tk : Int) < c.need) (hall : c.racks.all (·.2) = false) (hr : aget s.2.2 c.racks = some true) (hws : c.ws.length ≤ 100000) :
    Calls Try.prog 29 #[.pointer (some ⟨bX, 0, none⟩), .string name] w fun e w' => e = .returned (.tuple #[]) ∧ ∃ own' vo', ChO w' base bX mS mC sm (aput s.2.1 { c with ws := c.ws ++ [name] } cs) out own' vo' ∧ Step own own' w w' := by
  have hN : own w.heap.size = .m := hO.top _ (Nat.le_refl _)
  have z0 := hO.blk.cell 0
  simp only [List.getElem?_toArray, List.getElem?_cons_zero] at z0
  have l1 := hO.sites.run_lookup (P := Try.prog) string_emb msiM strU (zero_site w) name false
  rw [hs] at l1
  obtain ⟨sh, d, r⟩ := s
  simp only [Option.map_some, Option.getD_some, Bool.false_eq_true, if_false, sV] at l1
  have HO := Lib.hid hO
  have HD : Hid (aget d cs = some c) := Lib.hid hd
  have HN := Lib.hid hN
  clear hs hd hO hN
  go_enter Try.func29, Try.ntmps29
  go_wp2_with fail
  have hk1 : Kept noBlock w (w.alloc (.cells #[.string sh, .string d, .string r] 42)) := (Kept.refl noBlock w).alloc _
  have hbs : Blk (w.alloc (.cells #[.string sh, .string d, .string r] 42)) w.heap.size 42 #[.string sh, .string d, .string r] := Blk.new _ _ _
  have hO1 := HO.out.kept hk1 (fun _ h => h.elim)
  generalize w.alloc (.cells #[.string sh, .string d, .string r] 42) = w1 at *
  generalize w.heap.size = N at *
  have zs1 := hbs.cell 1
  have zs2 := hbs.cell 2
  have z1 := hO1.blk.cell 1
  simp only [List.getElem?_toArray, List.getElem?_cons_succ, List.getElem?_cons_zero] at zs1 zs2 z1
  have l2 := hO1.cens.drew.run_lookup (P := Try.prog) string_emb mceM strU (zero_cen w1.drew) d false
  rw [cen_some HO.out.nd HD.out] at l2
  simp only [Option.map_some, Option.getD_some, Bool.false_eq_true, if_false] at l2
  have HO1 := Lib.hid hO1
  have HK1 := Lib.hid hk1
  have HBS := Lib.hid hbs
  obtain ⟨vw, hcr⟩ := hO1.cr (d, c) (aget_mem HD.out)
  have zc0 := hcr.blk.cell 0
  have zc1 := hcr.blk.cell 1
  simp only [List.getElem?_toArray, List.getElem?_cons_succ, List.getElem?_cons_zero] at zc0 zc1
  have HCR := Lib.hid hcr
  clear hcr
  clear hO1 hk1 z0 l1 hbs HO
  go_region
  go_wp2_with fail
  have HR : Hid (aget r c.racks = some true) := Lib.hid hr
  clear hr
  have HALL := Lib.hid hall
  clear hall
  go_region
  go_wp2_with fail
  go_at_call 40
  refine (rall_at HCR.out.blk.drew.drew HCR.out.map.drew.drew).mono ?_
  rintro e w2 ⟨rfl, hk2⟩
  rw [HALL.out]
  have hk2' := ((Kept.refl noBlock w1).drew.drew).trans hk2 (fun _ _ h => h)
  have hO2 := HO1.out.kept hk2' (fun _ h => False.elim h)
  have hcr2 := HCR.out.kept (own' := own) hk2' (fun _ _ h => False.elim h) (fun _ _ => rfl)
  have hbs2 := HBS.out.kept hk2' (fun h => h)
  have HK2 := Lib.hid (HK1.out.trans hk2' (fun _ _ h => h))
  have HO2 := Lib.hid hO2
  have HCR2 := Lib.hid hcr2
  have HBS2 := Lib.hid hbs2
  clear zs1 zs2 z1 zc0 zc1 l2 hk2 hk2' HO1 HK1 HBS HCR
  have y2 := hcr2.blk.cell 2
  have y3 := hcr2.blk.cell 3
  have zs2 := hbs2.cell 2
  simp only [List.getElem?_toArray, List.getElem?_cons_succ, List.getElem?_cons_zero] at y2 y3 zs2
  have l3 := hcr2.map.drew.run_lookup (P := Try.prog) string_emb msbM strU (zero_bool w2.drew) r false
  rw [HR.out] at l3
  simp only [Option.map_some, Option.getD_some, Bool.false_eq_true, if_false] at l3
  clear hO2 hcr2 hbs2
  go_wp2_with fail
  go_region
  go_wp2_with (at_builtin; go_must (refine wpList_append_sl _ strsT rfl (.tmp 81) (.tmp 83) rfl base _ c.ws.length (c.ws.map Value.string) rfl ((World.ownsRow.alloc HCR2.out.row _).drew) _ 1 [.string name] rfl (Sl.made_at (Blk.drew (Blk.new w2 9 #[.string name])) _ rfl rfl one_max) (by simp [Value.oneCell']) ?c1 ?c2 ?_))
  case c1 => omega
  case c2 =>
    have h1 := HO2.out.low
    simp only [sz_drew, sz_alloc]
    omega
  intro v' w3 hap
  obtain ⟨hb3, hch, hk4⟩ := HO2.out.waits HD.out HCR2.out ((Kept.refl noBlock _).alloc _).drew hap
  obtain ⟨A, c', rfl, -, -⟩ := (Sl.of_own hap.own).shape
  have z3 := hb3.cell 3
  have f3 := hb3.frozen 3
  simp only [List.getElem?_toArray, List.getElem?_cons_succ, List.getElem?_cons_zero] at z3
  have HCH := Lib.hid hch
  have HK4 := Lib.hid ((Step.of_none HK2.out).trans hk4)
  clear hb3 hch hk4 hap zs2 y2 y3 l3
  go_wp2
  go_end0
  exact ⟨rfl, _, _, HCH.out, HK4.out⟩
set_option maxHeartbeats 2000000 in
set_option maxRecDepth 100000 in
theorem rhost_new {name : ByteArray} {s : Si} {c : Cr} {own : Nat → Own} {vo : Value} (hO : ChO w base bX mS mC sm cs out own vo) (hs : aget name sm = some s) (hd : aget s.2.1 cs = some c) (hlt : (c.tk : Int) < c.need) (hall : c.racks.all (·.2) = false) (hr : ¬ aget s.2.2 c.racks = some true) (ho : out.length + c.ws.length + 1 ≤ 100000) (ht : c.tk + c.ws.length + 1 ≤ 100000) :
    Calls Try.prog 29 #[.pointer (some ⟨bX, 0, none⟩), .string name] w fun e w' => e = .returned (.tuple #[]) ∧ ∃ own' vo', ChO w' base bX mS mC sm (newCs s.2.1 s.2.2 c cs) (newOut s.2.2 c name out) own' vo' ∧ Step own own' w w' := by
  have hN : own w.heap.size = .m := hO.top _ (Nat.le_refl _)
  have z0 := hO.blk.cell 0
  simp only [List.getElem?_toArray, List.getElem?_cons_zero] at z0
  have l1 := hO.sites.run_lookup (P := Try.prog) string_emb msiM strU (zero_site w) name false
  rw [hs] at l1
  obtain ⟨sh, d, r⟩ := s
  simp only [Option.map_some, Option.getD_some, Bool.false_eq_true, if_false, sV] at l1
  have HO := Lib.hid hO
  have HD : Hid (aget d cs = some c) := Lib.hid hd
  have HN := Lib.hid hN
  clear hs hd hO hN
  go_enter Try.func29, Try.ntmps29
  go_wp2_with fail
  have hk1 : Kept noBlock w (w.alloc (.cells #[.string sh, .string d, .string r] 42)) := (Kept.refl noBlock w).alloc _
  have hbs : Blk (w.alloc (.cells #[.string sh, .string d, .string r] 42)) w.heap.size 42 #[.string sh, .string d, .string r] := Blk.new _ _ _
  have hO1 := HO.out.kept hk1 (fun _ h => h.elim)
  generalize w.alloc (.cells #[.string sh, .string d, .string r] 42) = w1 at *
  generalize w.heap.size = N at *
  have zs1 := hbs.cell 1
  have zs2 := hbs.cell 2
  have z1 := hO1.blk.cell 1
  simp only [List.getElem?_toArray, List.getElem?_cons_succ, List.getElem?_cons_zero] at zs1 zs2 z1
  have l2 := hO1.cens.drew.run_lookup (P := Try.prog) string_emb mceM strU (zero_cen w1.drew) d false
  rw [cen_some HO.out.nd HD.out] at l2
  simp only [Option.map_some, Option.getD_some, Bool.false_eq_true, if_false] at l2
  have HO1 := Lib.hid hO1
  have HK1 := Lib.hid hk1
  have HBS := Lib.hid hbs
  obtain ⟨vw, hcr⟩ := hO1.cr (d, c) (aget_mem HD.out)
  have zc0 := hcr.blk.cell 0
  have zc1 := hcr.blk.cell 1
  simp only [List.getElem?_toArray, List.getElem?_cons_succ, List.getElem?_cons_zero] at zc0 zc1
  have HCR := Lib.hid hcr
  clear hcr
  clear hO1 hk1 z0 l1 hbs HO
  go_region
  go_wp2_with fail
  have HR : Hid (¬ aget r c.racks = some true) := Lib.hid hr
  clear hr
  have HALL := Lib.hid hall
  clear hall
  go_region
  go_wp2_with fail
  go_at_call 40
  refine (rall_at HCR.out.blk.drew.drew HCR.out.map.drew.drew).mono ?_
  rintro e w2 ⟨rfl, hk2⟩
  rw [HALL.out]
  have hk2' := ((Kept.refl noBlock w1).drew.drew).trans hk2 (fun _ _ h => h)
  have hO2 := HO1.out.kept hk2' (fun _ h => False.elim h)
  have hcr2 := HCR.out.kept (own' := own) hk2' (fun _ _ h => False.elim h) (fun _ _ => rfl)
  have hbs2 := HBS.out.kept hk2' (fun h => h)
  have HK2 := Lib.hid (HK1.out.trans hk2' (fun _ _ h => h))
  have HO2 := Lib.hid hO2
  have HCR2 := Lib.hid hcr2
  have HBS2 := Lib.hid hbs2
  clear zs1 zs2 z1 zc0 zc1 l2 hk2 hk2' HO1 HK1 HBS HCR
  have y2 := hcr2.blk.cell 2
  have zs2 := hbs2.cell 2
  simp only [List.getElem?_toArray, List.getElem?_cons_succ, List.getElem?_cons_zero] at y2 zs2
  have l3 := hcr2.map.drew.run_lookup (P := Try.prog) string_emb msbM strU (zero_bool w2.drew) r false
  have hrf : ((aget r c.racks).map Value.bool).getD (.bool false) = .bool false := by
    have h1 : ¬ aget r c.racks = some true := HR.out
    rcases h : aget r c.racks with _ | b
    · rfl
    · cases b
      · rfl
      · exact absurd h h1
  rw [hrf] at l3
  simp only [Bool.false_eq_true, if_false] at l3
  clear hO2 hcr2 hbs2 hrf
  go_wp2_with fail
  go_region
  go_wp2_with fail
  go_at_call 41
  refine (rtake_at (h := name) (HO2.out.kept (Kept.refl noBlock w2).drew (fun _ h => False.elim h)) HD.out (by omega) (by omega)).mono ?_
  rintro e w3 ⟨rfl, own3, vo3, hO3, hk3⟩
  have e1 : takeCs d c cs = aput d c.more cs := if_pos hlt
  have e2 : takeOut c name out = out ++ [name] := if_pos hlt
  rw [e1, e2] at hO3
  have hd3 : aget d (aput d c.more cs) = some c.more := by rw [aget_aput, if_pos rfl]
  obtain ⟨vw3, hcr3⟩ := hO3.cr (d, c.more) (aget_mem hd3)
  have hbs3 := HBS2.out.drew.kept hk3.1 (fun h => h HN.out)
  have y3 : w3.cell? ⟨c.g, 2, none⟩ = some (.map (some c.mr)) := hcr3.blk.cell 2
  have zs3 := hbs3.cell 2
  simp only [List.getElem?_toArray, List.getElem?_cons_succ, List.getElem?_cons_zero] at zs3
  have hm3 : SMap w3.drew c.mr c.racks := hcr3.map.drew
  obtain ⟨es, ck, hup, hm4⟩ := hm3.run_update (P := Try.prog) string_emb msbM strU r true
  obtain ⟨hc4, hk4⟩ := (hO3.kept (Kept.refl noBlock w3).drew (fun _ h => False.elim h)).racks hd3 (hcr3.kept (own' := own3) (Kept.refl noBlock w3).drew (fun _ _ h => False.elim h) (fun _ _ => rfl)) hm4
  rw [aput_aput] at hc4
  have hO4 : ChO (setBlock w3.drew c.mr (.map es ck)) base bX mS mC sm (aput d (c.marked r) cs) (out ++ [name]) own3 vo3 := hc4
  have hk4' : Step own3 own3 w3.drew (setBlock w3.drew c.mr (.map es ck)) := hk4
  have HO4 := Lib.hid hO4
  have HK4 := Lib.hid ((((Step.of_none (HK2.out.drew)).trans hk3).trans (.of_none (Kept.refl noBlock w3).drew)).trans hk4')
  clear e1 e2 hO3 hd3 hcr3 hbs3 hm3 hm4 hc4 hk4 hk4' hO4 y2 zs2 l3 hk3 HO2 HCR2 HBS2 HALL HR
  go_wp2_with fail
  go_region
  go_wp2_with fail
  have hd4 : aget d (aput d (c.marked r) cs) = some (c.marked r) := by rw [aget_aput, if_pos rfl]
  obtain ⟨vw4, hcr4⟩ := HO4.out.cr (d, c.marked r) (aget_mem hd4)
  generalize hw4 : setBlock w3.drew c.mr (.map es ck) = w4 at *
  go_at_call 40
  refine (rall_at (g := c.g) (mr := c.mr) (L := aput r true c.racks) hcr4.blk hcr4.map).mono ?_
  rintro e w5 ⟨rfl, hk5⟩
  have hO5 := HO4.out.kept hk5 (fun _ h => False.elim h)
  have hcr5 := hcr4.kept (own' := own3) hk5 (fun _ _ h => False.elim h) (fun _ _ => rfl)
  have HO5 := Lib.hid hO5
  have HK5 := Lib.hid (HK4.out.trans (.of_none hk5))
  have HCR5 := Lib.hid hcr5
  cases hal : (aput r true c.racks).all (·.2) with
  | false =>
    have e1 : newCs d r c cs = aput d (c.marked r) cs := by unfold newCs; rw [hal]; rfl
    have e2 : newOut r c name out = out ++ [name] := by unfold newOut; rw [hal]; rfl
    have HE := Lib.hid (⟨e1, e2⟩ : newCs d r c cs = aput d (c.marked r) cs ∧ newOut r c name out = out ++ [name])
    clear hO5 hcr5 hk5 hcr4 hd4 hal e1 e2 hup hw4 HO4 y3 zs3
    go_wp2_with fail
    refine bodyPost_ret (results_none rfl _ _ _) rfl ?_
    rw [HE.out.1, HE.out.2]
    exact ⟨rfl, _, _, HO5.out, HK5.out⟩
  | true =>
    have e1 : newCs d r c cs = aput d ((c.marked r).flush c.ws.length) cs := by unfold newCs; rw [hal]; rfl
    have e2 : newOut r c name out = out ++ [name] ++ c.ws.take (c.marked r).room := by unfold newOut; rw [hal]; rfl
    have HE := Lib.hid (⟨e1, e2⟩ : newCs d r c cs = aput d ((c.marked r).flush c.ws.length) cs ∧ newOut r c name out = out ++ [name] ++ c.ws.take (c.marked r).room)
    have y5 := hcr5.blk.cell 3
    simp only [List.getElem?_toArray, List.getElem?_cons_succ, List.getElem?_cons_zero] at y5
    have hs5 : Sl w5 9 1 vw4 c.ws.length (c.ws.map Value.string) := Sl.of_own hcr5.row
    obtain ⟨A, cap, rfl, -, -⟩ := hs5.shape
    have y6 : w5.cell? ⟨c.g, 3, none⟩ = some (.slice A c.ws.length cap) := y5
    have HS5 := Lib.hid hs5
    clear hO5 hcr5 hk5 hcr4 hd4 hal e1 e2 hup hw4 HO4 y3 zs3 y5 hs5
    go_wp2_with fail
    go_loopg [39] c.ws.length (fun j vi wr => ∃ (i : Nat), i + j = c.ws.length ∧ vi = .int .i64 (i : Nat) ∧ (∃ own' vo', ChO wr base bX mS mC sm (aput d ((c.marked r).flush i) cs) (out ++ [name] ++ (c.ws.take i).take (c.marked r).room) own' vo' ∧ (∀ k, k < w5.heap.size → own' k = own3 k) ∧ Kept (fun k => own3 k = .x ∨ k = c.g) w5 wr))
    case atStart => exact ⟨0, by omega, rfl, ⟨own3, vo3, by rw [flush_zero]; simpa using HO5.out, fun _ _ => rfl, Kept.refl _ _⟩⟩
    case round =>
      obtain ⟨i, hij, rfl, ⟨own', vo', hO, hown, hkx⟩⟩ := hrel
      have hrow := own_keptB HCR5.out.row hkx (fun k e e2 => by
        rcases e2 with e2 | e2
        · rw [HCR5.out.ow k e] at e2; cases e2
        · exact row_ne_blk HCR5.out.row HCR5.out.blk (by decide) e e2)
      have hsl : Sl wr 9 1 (.slice A c.ws.length cap) c.ws.length (c.ws.map Value.string) := Sl.of_own hrow
      have HOWN := Lib.hid hown
      have HKX := Lib.hid hkx
      have HIJ := Lib.hid hij
      by_cases hil : i < c.ws.length
      · obtain ⟨x, hx⟩ : ∃ x, c.ws[i]? = some x := ⟨_, List.getElem?_eq_getElem hil⟩
        obtain ⟨ge, oo, hidx, hgl, hc0⟩ := str_at hsl hx
        have hd6 : aget d (aput d ((c.marked r).flush i) cs) = some ((c.marked r).flush i) := by rw [aget_aput, if_pos rfl]
        have HT := Lib.hid (rtake_in (h := x) hO hd6 (by simp only [List.length_append, List.length_take, List.length_singleton]; omega) (by show c.tk + 1 + min i _ ≤ 100000; omega))
        have HX := Lib.hid hx
        have hw1 : IntKind.i64.wrap ((i : Int) + 1) = (i : Int) + 1 := by rw [IntKind.wrap_i64]; omega
        clear hO hown hkx hrow hsl hd6 hx hij
        go_wp2_with fail
        go_at_call 41
        refine HT.out.mono ?_
        rintro e w6 ⟨rfl, own6, vo6, hO6, hown6, hk6⟩
        have HO6 := Lib.hid hO6
        have HOWN6 := Lib.hid hown6
        have HK6 := Lib.hid hk6
        clear hO6 hown6 hk6
        go_wp2
        go_roundg (c.ws.length - (i + 1))
        case measure => have := HIJ.out; omega
        case rel =>
          refine ⟨i + 1, by omega, by go_num, ⟨own6, vo6, ?_, fun k hk => (HOWN6.out k (Nat.lt_of_lt_of_le hk HKX.out.size)).trans (HOWN.out k hk), HKX.out.trans HK6.out ?_⟩⟩
          · have := HO6.out
            rw [flush_step, flush_out _ _ _ HX.out] at this
            exact this
          · rintro k hk (e | e)
            · exact .inl ((HOWN.out k hk).symm.trans e)
            · exact .inr e
      · obtain rfl : i = c.ws.length := by omega
        rw [List.take_length] at hO
        have HOF := Lib.hid hO
        clear hO hown hkx hrow hsl hij
        go_wp2
        go_end0
        rw [HE.out.1, HE.out.2]
        have hg3 : own3 c.g = .c d := HCR5.out.og
        exact ⟨rfl, _, _, HOF.out, HK5.out.trans ⟨HKX.out.mono (fun k _ e => by rcases e with e | e <;> simp [e, hg3]), HOWN.out⟩⟩
end
end Go.Proofs.Ytjdjfikeiphgpaa

/- ControlPlays: a step, Refresh. -/
import Derived.Test.YtdcdefkloibfnaaGreatDoorCtStepD
import Derived.Test.YtdcdefkloibfnaaGreatDoorMg02
import Derived.Deep.DeepCutAuto
namespace Go.Proofs.YtdcdefkloibfnaaGreatDoor
set_option linter.unusedVariables false
open Go.RowKit

def addR (S : List Ho) (R : Option (List Ho)) : List ByteArray := match R with
  | none => []
  | some L => addedP (viewS S) (refNow (viewS S) L)
def goneR (S : List Ho) (R : Option (List Ho)) : List ByteArray := match R with
  | none => []
  | some L => goneP S (refNow (viewS S) L)
def nowR (S : List Ho) (R : Option (List Ho)) : List Ho := match R with
  | none => S
  | some L => refNow (viewS S) L
theorem CRefPost.uni {w w' : World} {own : Nat → Prop} {c g : Nat} {dc : ByteArray} {rem : Int} {S : List Ho} {wait at_ : Int} {asks : Bool} {R : Option (List Ho)} {e : Ending} (h : CRefPost w own c g dc rem S wait asks at_ R e w') :
    ∃ own4 A1 n1 c1 A2 n2 c2, e = .returned (.tuple #[.slice A1 n1 c1, .slice A2 n2 c2, .int .i64 (codeP R)]) ∧ SlK w' (fun k _ => k < w'.heap.size) 1 (.slice A1 n1 c1) n1 ((addR S R).map Value.string) ∧ SlK w' (fun k _ => k < w'.heap.size) 1 (.slice A2 n2 c2) n2 ((goneR S R).map Value.string) ∧
      CtAt w' own4 c g dc rem (nowR S R) wait asks at_ ∧ (∀ k, own4 k → own k ∨ w.heap.size ≤ k) ∧ Kept own w w' := by
  cases R with
  | none =>
    obtain ⟨rfl, hc, hk⟩ := h
    exact ⟨own, none, 0, 0, none, 0, 0, rfl, SlK.nil _ _ _, SlK.nil _ _ _, hc, fun k e => .inl e, hk.of_none⟩
  | some L =>
    obtain ⟨own', A1, c1, A2, c2, rfl, h1, h2, hc, ho, hk⟩ := h
    exact ⟨own', A1, _, c1, A2, _, c2, rfl, h1.lo, h2.lo, hc, ho, hk⟩
theorem XRefPost.uni {w w' : World} {okx : Nat → Prop} {dc : ByteArray} {rem : Int} {A : Option Addr} {n c : Nat} {l : List HV} {S : List Ho} {wait at_ : Int} {asks : Bool} {R : Option (List Ho)} {e : Ending} (h : XRefPost w dc rem A n c S wait asks at_ R e w') (hr : RL w okx A n c l S) :
    ∃ A' n' c' l' Aa na ca Ag ng cg, e = .returned (.tuple #[.agg (c23C dc rem A' n' c' wait asks at_), .slice Aa na ca, .slice Ag ng cg, .int .i64 (codeP R)]) ∧ RL w' (fun k => okx k ∨ w.heap.size ≤ k) A' n' c' l' (nowR S R) ∧
      SlK w' (fun k _ => w.heap.size ≤ k) 1 (.slice Aa na ca) na ((addR S R).map Value.string) ∧ SlK w' (fun k _ => w.heap.size ≤ k) 1 (.slice Ag ng cg) ng ((goneR S R).map Value.string) ∧ Kept noBlock w w' := by
  cases R with
  | none =>
    obtain ⟨rfl, hk⟩ := h
    exact ⟨A, n, c, l, none, 0, 0, none, 0, 0, rfl, (hr.keptN hk).wide fun k _ e => .inl e, SlK.nil _ _ _, SlK.nil _ _ _, hk⟩
  | some L =>
    obtain ⟨A', n', c', l', Aa, na, ca, Ag, ng, cg, rfl, h1, h2, h3, hk⟩ := h
    exact ⟨A', n', c', l', Aa, na, ca, Ag, ng, cg, rfl, h1.wide fun k _ e => .inr e, h2, h3, hk⟩
theorem HOk.now {S : List Ho} (h : HOk S) {R : Option (List Ho)} (hL : ∀ L, R = some L → L.length ≤ 40 ∧ (∀ o ∈ L, o.toks.length ≤ 250) ∧ ∀ o ∈ L, o.name.size ≤ 9223372036854775807) : HOk (nowR S R) := by
  cases R with
  | none => exact h
  | some L => exact ⟨refNow_ok (hL L rfl).1 (hL L rfl).2.1, ref_names3 (hL L rfl).2.2⟩
theorem bothX_P {x1 x2 : XT} {t1 t2 : TV2} (h1 : x1.names = t1.names) (h2 : x1.vals = t1.vals) (h3 : x2.names = t2.names) (h4 : x2.vals = t2.vals) : bothX x1 x2 = bothP t1 t2 := by
  unfold bothX bothP
  rw [h1, h2, h3, h4]
  cases hostsP t1.names t1.vals <;> cases hostsP t2.names t2.vals <;> rfl
/-- What the statement leaves that calls the reference's Refresh. -/
def N1Cut (w4 : World) (okx : Nat → Prop) (dc : ByteArray) (rem wait : Int) (asks : Bool) (at_ cd : Int) (S4 : List Ho) (L1 L2 : List ByteArray) (s20 s21 s22 s23 : Value) (wx : World) : Prop :=
  ∃ (b : Nat) (A' : Option Addr) (n' c' : Nat) (l' : List HV) (Aa : Option Addr) (na ca : Nat) (Ag : Option Addr) (ng cg : Nat), s20 = .pointer (some ⟨b, 0, none⟩) ∧ s21 = .slice Aa na ca ∧ s22 = .slice Ag ng cg ∧ s23 = .int .i64 cd ∧ w4.heap.size ≤ b ∧
    Blk wx b 59 #[.string dc, .int .i64 rem, .slice A' n' c', .int .u64 wait, .bool asks, .int .u64 at_] ∧ RL wx (fun k => okx k ∨ w4.heap.size ≤ k) A' n' c' l' S4 ∧
    SlK wx (fun k _ => w4.heap.size ≤ k) 1 (.slice Aa na ca) na (L1.map Value.string) ∧ SlK wx (fun k _ => w4.heap.size ≤ k) 1 (.slice Ag ng cg) ng (L2.map Value.string) ∧ Kept noBlock w4 wx
set_option maxHeartbeats 8000000 in
set_option maxRecDepth 100000 in
theorem step1_at {w : World} {ok own : Nat → Prop} {c g : Nat} {dc : ByteArray} {rem : Int} {S : List Ho} {wait at_ : Int} {asks : Bool} {A : Option Addr} {n cc : Nat} {l : List HV} {B : Nat} {x : AV3} (h : CtAt w own c g dc rem S wait asks at_) (hr : RL w ok A n cc l S) (hok : ∀ k, ok k → ¬ own k ∧ k ≠ c) (hS : HOk S)
    (hB : ∀ k, own k ∨ k = c → B ≤ k) (hx : ActIn3 w B x) (now : Int) (hd : Doors w) (hs1 : TblS x.own) (hs2 : TblS x.oth) (hm : bits .and .i64 x.kind 3 = 1) :
    Calls Tryz.prog 19 #[.pointer (some ⟨c, 0, none⟩), .agg (c23C dc rem A n cc wait asks at_), .agg x.C, .int .u64 now] w fun e w' => StepPost w ok own c g dc rem wait e w' := by
  have HBC : Hid (Blk (((w.alloc (.cells #[.string dc, .int .i64 rem, .slice A n cc, .int .u64 wait, .bool asks, .int .u64 at_] 59)).alloc (.cells #[.int .i64 x.kind, .string x.note.kind, .string x.note.what, .slice x.note.a x.note.n x.note.c, .int .u32 x.note.port, .string x.note.sw, .string x.note.target, .string x.note.ss, .string x.note.sn, .slice x.note.ga x.note.gn x.note.gc, .int .i64 x.own.cnt, .slice x.own.ca x.own.cn x.own.cc, .bool x.own.more, .int .i64 x.own.sk, .slice x.own.sa x.own.sn x.own.sc, .slice x.own.ra x.own.rn x.own.rc, .int .i64 x.oth.cnt, .slice x.oth.ca x.oth.cn x.oth.cc, .bool x.oth.more, .int .i64 x.oth.sk, .slice x.oth.sa x.oth.sn x.oth.sc, .slice x.oth.ra x.oth.rn x.oth.rc, .int .u64 x.span] 69)).alloc (.cells #[.string ⟨#[]⟩, .int .i64 0, .slice none 0 0, .int .u64 0, .bool false, .int .u64 0] 59)) w.heap.size 59 #[.string dc, .int .i64 rem, .slice A n cc, .int .u64 wait, .bool asks, .int .u64 at_]) := Lib.hid (((Blk.new w 59 _).alloc _).alloc _)
  have HBA : Hid (Blk (((w.alloc (.cells #[.string dc, .int .i64 rem, .slice A n cc, .int .u64 wait, .bool asks, .int .u64 at_] 59)).alloc (.cells #[.int .i64 x.kind, .string x.note.kind, .string x.note.what, .slice x.note.a x.note.n x.note.c, .int .u32 x.note.port, .string x.note.sw, .string x.note.target, .string x.note.ss, .string x.note.sn, .slice x.note.ga x.note.gn x.note.gc, .int .i64 x.own.cnt, .slice x.own.ca x.own.cn x.own.cc, .bool x.own.more, .int .i64 x.own.sk, .slice x.own.sa x.own.sn x.own.sc, .slice x.own.ra x.own.rn x.own.rc, .int .i64 x.oth.cnt, .slice x.oth.ca x.oth.cn x.oth.cc, .bool x.oth.more, .int .i64 x.oth.sk, .slice x.oth.sa x.oth.sn x.oth.sc, .slice x.oth.ra x.oth.rn x.oth.rc, .int .u64 x.span] 69)).alloc (.cells #[.string ⟨#[]⟩, .int .i64 0, .slice none 0 0, .int .u64 0, .bool false, .int .u64 0] 59)) (w.heap.size + 1) 69 #[.int .i64 x.kind, .string x.note.kind, .string x.note.what, .slice x.note.a x.note.n x.note.c, .int .u32 x.note.port, .string x.note.sw, .string x.note.target, .string x.note.ss, .string x.note.sn, .slice x.note.ga x.note.gn x.note.gc, .int .i64 x.own.cnt, .slice x.own.ca x.own.cn x.own.cc, .bool x.own.more, .int .i64 x.own.sk, .slice x.own.sa x.own.sn x.own.sc, .slice x.own.ra x.own.rn x.own.rc, .int .i64 x.oth.cnt, .slice x.oth.ca x.oth.cn x.oth.cc, .bool x.oth.more, .int .i64 x.oth.sk, .slice x.oth.sa x.oth.sn x.oth.sc, .slice x.oth.ra x.oth.rn x.oth.rc, .int .u64 x.span]) := Lib.hid (Blk.alloc (Blk.new_at _ _ _ (by rw [sz_alloc])) _)
  have HBR : Hid (Blk (((w.alloc (.cells #[.string dc, .int .i64 rem, .slice A n cc, .int .u64 wait, .bool asks, .int .u64 at_] 59)).alloc (.cells #[.int .i64 x.kind, .string x.note.kind, .string x.note.what, .slice x.note.a x.note.n x.note.c, .int .u32 x.note.port, .string x.note.sw, .string x.note.target, .string x.note.ss, .string x.note.sn, .slice x.note.ga x.note.gn x.note.gc, .int .i64 x.own.cnt, .slice x.own.ca x.own.cn x.own.cc, .bool x.own.more, .int .i64 x.own.sk, .slice x.own.sa x.own.sn x.own.sc, .slice x.own.ra x.own.rn x.own.rc, .int .i64 x.oth.cnt, .slice x.oth.ca x.oth.cn x.oth.cc, .bool x.oth.more, .int .i64 x.oth.sk, .slice x.oth.sa x.oth.sn x.oth.sc, .slice x.oth.ra x.oth.rn x.oth.rc, .int .u64 x.span] 69)).alloc (.cells #[.string ⟨#[]⟩, .int .i64 0, .slice none 0 0, .int .u64 0, .bool false, .int .u64 0] 59)) (w.heap.size + 1 + 1) 59 #[.string ⟨#[]⟩, .int .i64 0, .slice none 0 0, .int .u64 0, .bool false, .int .u64 0]) := Lib.hid (Blk.new_at _ _ _ (by rw [sz_alloc, sz_alloc]))
  have HK3 : Hid (Kept noBlock w (((w.alloc (.cells #[.string dc, .int .i64 rem, .slice A n cc, .int .u64 wait, .bool asks, .int .u64 at_] 59)).alloc (.cells #[.int .i64 x.kind, .string x.note.kind, .string x.note.what, .slice x.note.a x.note.n x.note.c, .int .u32 x.note.port, .string x.note.sw, .string x.note.target, .string x.note.ss, .string x.note.sn, .slice x.note.ga x.note.gn x.note.gc, .int .i64 x.own.cnt, .slice x.own.ca x.own.cn x.own.cc, .bool x.own.more, .int .i64 x.own.sk, .slice x.own.sa x.own.sn x.own.sc, .slice x.own.ra x.own.rn x.own.rc, .int .i64 x.oth.cnt, .slice x.oth.ca x.oth.cn x.oth.cc, .bool x.oth.more, .int .i64 x.oth.sk, .slice x.oth.sa x.oth.sn x.oth.sc, .slice x.oth.ra x.oth.rn x.oth.rc, .int .u64 x.span] 69)).alloc (.cells #[.string ⟨#[]⟩, .int .i64 0, .slice none 0 0, .int .u64 0, .bool false, .int .u64 0] 59))) := Lib.hid (((Kept.refl noBlock w).alloc _).alloc _ |>.alloc _)
  have HZ3 : Hid ((((w.alloc (.cells #[.string dc, .int .i64 rem, .slice A n cc, .int .u64 wait, .bool asks, .int .u64 at_] 59)).alloc (.cells #[.int .i64 x.kind, .string x.note.kind, .string x.note.what, .slice x.note.a x.note.n x.note.c, .int .u32 x.note.port, .string x.note.sw, .string x.note.target, .string x.note.ss, .string x.note.sn, .slice x.note.ga x.note.gn x.note.gc, .int .i64 x.own.cnt, .slice x.own.ca x.own.cn x.own.cc, .bool x.own.more, .int .i64 x.own.sk, .slice x.own.sa x.own.sn x.own.sc, .slice x.own.ra x.own.rn x.own.rc, .int .i64 x.oth.cnt, .slice x.oth.ca x.oth.cn x.oth.cc, .bool x.oth.more, .int .i64 x.oth.sk, .slice x.oth.sa x.oth.sn x.oth.sc, .slice x.oth.ra x.oth.rn x.oth.rc, .int .u64 x.span] 69)).alloc (.cells #[.string ⟨#[]⟩, .int .i64 0, .slice none 0 0, .int .u64 0, .bool false, .int .u64 0] 59)).heap.size = w.heap.size + 3) := Lib.hid (by rw [sz_alloc, sz_alloc, sz_alloc])
  have hlt := h.lt
  have HLT := Lib.hid hlt
  have H := Lib.hid h
  have HR : Hid (RL w (fun k => ok k ∧ k < w.heap.size) A n cc l S) := Lib.hid (hr.wide fun k hlt e => ⟨e, hlt⟩)
  have HOKK := Lib.hid hok
  have HB := Lib.hid hB
  have HX := Lib.hid hx
  clear h hr hok hB hx hlt
  unfold AV3.C act3C c23C
  generalize hw3 : (((w.alloc (.cells #[.string dc, .int .i64 rem, .slice A n cc, .int .u64 wait, .bool asks, .int .u64 at_] 59)).alloc (.cells #[.int .i64 x.kind, .string x.note.kind, .string x.note.what, .slice x.note.a x.note.n x.note.c, .int .u32 x.note.port, .string x.note.sw, .string x.note.target, .string x.note.ss, .string x.note.sn, .slice x.note.ga x.note.gn x.note.gc, .int .i64 x.own.cnt, .slice x.own.ca x.own.cn x.own.cc, .bool x.own.more, .int .i64 x.own.sk, .slice x.own.sa x.own.sn x.own.sc, .slice x.own.ra x.own.rn x.own.rc, .int .i64 x.oth.cnt, .slice x.oth.ca x.oth.cn x.oth.cc, .bool x.oth.more, .int .i64 x.oth.sk, .slice x.oth.sa x.oth.sn x.oth.sc, .slice x.oth.ra x.oth.rn x.oth.rc, .int .u64 x.span] 69)).alloc (.cells #[.string ⟨#[]⟩, .int .i64 0, .slice none 0 0, .int .u64 0, .bool false, .int .u64 0] 59)) = W3 at *
  have HW3 := Lib.hid hw3
  clear hw3
  have HCR := Lib.hid (cRefresh_at (H.out.keptN HK3.out) (Nat.le_trans hS.ok.len (by decide)) (HX.out.keptN HK3.out).own.tbl hs1.ok (HX.out.keptN HK3.out).oth.tbl hs2.ok (Nat.le_trans hs1.rn (by decide)) (Nat.le_trans hs2.rn (by decide)) (hd.keptN HK3.out))
  unfold TV2.v at HCR
  go_enter Tryz.func19, Tryz.ntmps19
  go_wp2_with fail
  rw [HW3.out]
  go_at_call 22
  refine HCR.out.mono ?_
  intro e w4 hp4
  obtain ⟨own4, A1, m1, p1, A2, m2, p2, rfl, hsa4, hsb4, hc4, ho4, hk4⟩ := hp4.uni
  have HLB : Hid (∀ a b, hostsP x.own.names x.own.vals = some a → hostsP x.oth.names x.oth.vals = some b → (a ++ b).length ≤ 40 ∧ (∀ o ∈ a ++ b, o.toks.length ≤ 250) ∧ ∀ o ∈ a ++ b, o.name.size ≤ 9223372036854775807) := Lib.hid fun a b ha hb => by
    have h1 := own_len HX.out.own.tbl ha
    have h2 := own_len HX.out.oth.tbl hb
    have h3 := own_toks HX.out.own.tbl hs1.ok ha
    have h4 := own_toks HX.out.oth.tbl hs2.ok hb
    have h5 := hosts_names x.own.vals [] a (fun o ho => (by cases ho)) ha
    have h6 := hosts_names x.oth.vals [] b (fun o ho => (by cases ho)) hb
    have := hs1.rn
    have := hs2.rn
    exact ⟨by rw [List.length_append]; omega, fun o ho => (List.mem_append.1 ho).elim (h3 o) (h4 o), fun o ho => (List.mem_append.1 ho).elim (h5 o) (h6 o)⟩
  have HLL : Hid (∀ a b, hostsP x.own.names x.own.vals = some a → hostsP x.oth.names x.oth.vals = some b → a.length + b.length ≤ 1000 ∧ (∀ o ∈ a ++ b, o.toks.length ≤ 1000000) ∧ ∀ o ∈ S ++ (a ++ b), o.name.size ≤ 9223372036854775807) := Lib.hid fun a b ha hb => by
    obtain ⟨h1, h2, h3⟩ := HLB.out a b ha hb
    rw [List.length_append] at h1
    exact ⟨by omega, fun o ho => Nat.le_trans (h2 o ho) (by decide), fun o ho => (List.mem_append.1 ho).elim (hS.nms o) (h3 o)⟩
  have HOKN : Hid (HOk (nowR S (bothP x.own x.oth))) := Lib.hid (hS.now fun L hL => by
    unfold bothP at hL
    cases ha : hostsP x.own.names x.own.vals with
    | none => rw [ha] at hL; cases hL
    | some a =>
      cases hb : hostsP x.oth.names x.oth.vals with
      | none => rw [ha, hb] at hL; cases hL
      | some b => rw [ha, hb] at hL; cases hL; exact HLB.out a b ha hb)
  have HC4 := Lib.hid hc4
  have HO4 := Lib.hid ho4
  have HSA4 := Lib.hid hsa4
  have HSB4 := Lib.hid hsb4
  have HK4 := Lib.hid (show Kept (fun k => own k ∨ k = c) w w4 from (HK3.out.of_none (S := fun k => own k ∨ k = c)).trans (hk4.mono (T := fun k => own k ∨ k = c) fun k _ e => .inl e) fun k _ e => e)
  have hlc := HLT.out
  have hnb : ∀ k, w.heap.size ≤ k → ¬ own k := fun k hk e => by have := hlc.1 k e; omega
  have hbc := HBC.out.kept hk4 (hnb _ (by omega))
  have hba := HBA.out.kept hk4 (hnb _ (by omega))
  have hbr := HBR.out.kept hk4 (hnb _ (by omega))
  have HBR4 := Lib.hid hbr
  have hz4 := hk4.size
  rw [HZ3.out] at hz4
  have HZ4 := Lib.hid hz4
  have HLT4 := Lib.hid hc4.lt
  have HRL4 : Hid (RL w4 (fun k => ok k ∧ k < w.heap.size) A n cc l S) := Lib.hid ((HR.out.keptN HK3.out).kept hk4 fun k e e2 => (HOKK.out k e.1).1 e2)
  have HN1000 : Hid (n ≤ 1000) := Lib.hid (by have := HRL4.out.2.1; have := hS.ok.len; omega)
  have HTI1 : Hid (TblIn w4 B x.own) := Lib.hid (((HX.out.keptN HK3.out).own).kept hk4 fun k hlt e => by have := HB.out k (.inl e); omega)
  have HTI2 : Hid (TblIn w4 B x.oth) := Lib.hid (((HX.out.keptN HK3.out).oth).kept hk4 fun k hlt e => by have := HB.out k (.inl e); omega)
  have HTS1 := Lib.hid hs1
  have HTS2 := Lib.hid hs2
  have HTB1 := Lib.hid (fun (W : World) (hW : Kept noBlock w4 W) => tabOf_at (HTI1.out.keptN hW) hs1)
  have HTB2 := Lib.hid (fun (W : World) (hW : Kept noBlock w4 W) => tabOf_at (HTI2.out.keptN hW) hs2)
  unfold TV2.v at HTB1 HTB2
  generalize hR : bothP x.own x.oth = R at *
  have HRE := Lib.hid hR
  generalize hS4 : nowR S R = S4 at *
  have HS4 := Lib.hid hS4
  generalize hL1 : addR S R = L1 at *
  have HL1 := Lib.hid hL1
  generalize hL2 : goneR S R = L2 at *
  have HL2 := Lib.hid hL2
  generalize hCD : codeP R = cd at *
  have HCD := Lib.hid hCD
  clear hR hS4 hL1 hL2 hCD
  obtain ⟨c0, c1, c2, c3, c4, c5⟩ := cells6 hbc
  have a10 := hba.cell 10
  have a11 := hba.cell 11
  have a12 := hba.cell 12
  have a13 := hba.cell 13
  have a14 := hba.cell 14
  have a15 := hba.cell 15
  have a16 := hba.cell 16
  have a17 := hba.cell 17
  have a18 := hba.cell 18
  have a19 := hba.cell 19
  have a20 := hba.cell 20
  have a21 := hba.cell 21
  simp only [List.getElem?_toArray, List.getElem?_cons_succ, List.getElem?_cons_zero] at a10 a11 a12 a13 a14 a15 a16 a17 a18 a19 a20 a21
  clear hc4 hk4 hbc hba hbr hz4 HCR hnb hlc hsa4 hsb4 ho4 hp4
  go_upto_region 8 with (fail)
  go_cut [20, 21, 22, 23] (fun s20 s21 s22 s23 wx => N1Cut w4 (fun k => ok k ∧ k < w.heap.size) dc rem wait asks at_ cd S4 L1 L2 s20 s21 s22 s23 wx)
  case first =>
    refine wp_region_sch (fun w' => Kept noBlock w4 w') (.take 0 (.take 1 (.take 2 (.take 4 (.take 5 (.two 3 (.two 6 (.two 7 (.take 8 (.take 9 (.take 10 (.take 11 (.take 12 (.one 13 (.one 14 (.take 15 (.take 16 (.take 17 .nil)))))))))) 13 (.one 7 (.take 8 (.take 9 (.take 10 (.take 11 (.take 12 (.one 14 (.take 15 (.take 16 (.take 17 .nil))))))))))) 13 (.one 6 (.one 7 (.take 8 (.take 9 (.take 10 (.take 11 (.take 12 (.one 14 (.take 15 (.take 16 (.take 17 .nil)))))))))))) 13 (.one 3 (.one 6 (.one 7 (.take 8 (.take 9 (.take 10 (.take 11 (.take 12 (.one 14 (.take 15 (.take 16 (.take 17 .nil)))))))))))))))))) (by kernel_rfl) (by kernel_rfl) (by kernel_rfl) ((Kept.refl noBlock w4).drew) ?_
    repeat (first
      | (refine sch_takeE rfl rfl ?_
         apply Exists.intro
         refine ⟨fun w' hS => ?_, fun K hK => ?_⟩
         · (have r0 := hS.cellOf c0
            have r1 := hS.cellOf c1
            have r2 := hS.cellOf c2
            have r3 := hS.cellOf c3
            have r4 := hS.cellOf c4
            have r5 := hS.cellOf c5
            have t10 := hS.cellOf a10
            have t11 := hS.cellOf a11
            have t12 := hS.cellOf a12
            have t13 := hS.cellOf a13
            have t14 := hS.cellOf a14
            have t15 := hS.cellOf a15
            have t16 := hS.cellOf a16
            have t17 := hS.cellOf a17
            have t18 := hS.cellOf a18
            have t19 := hS.cellOf a19
            have t20 := hS.cellOf a20
            have t21 := hS.cellOf a21
            clear hS
            unfold takesAt; go_simp; rfl)
         go_simp
         refine hK _ ?_
         clear hK K))
    have H0 := Lib.hid ((Kept.refl noBlock w4).drew)
    refine sch_two ?_ ?_
    · refine do_doK rfl rfl (fun K hK => ?_)
      go_simp
      go_at_call 12
      refine (HTB1.out _ H0.out).mono ?_
      rintro e wh1 ⟨x1, rfl, hx1, hxn1, hxv1, hxc1, hxr1, hkh⟩
      have Hh1 := Lib.hid (H0.out.trans hkh fun _ _ e => e)
      have HXO1 := Lib.hid (tabOf_ok HTI1.out.tbl HTS1.out hx1 hxv1 hxc1 hxr1)
      have HXT1 := Lib.hid hx1
      have HXE1 := Lib.hid (And.intro hxn1 hxv1)
      refine hK _ _ Hh1.out ?_
      clear hK K hkh hx1 hxn1 hxv1 hxc1 hxr1
      refine sch_two ?_ ?_
      · refine do_doK rfl rfl (fun K hK => ?_)
        go_simp
        go_at_call 12
        refine (HTB2.out _ Hh1.out).mono ?_
        rintro e wh2 ⟨x2, rfl, hx2, hxn2, hxv2, hxc2, hxr2, hkh⟩
        have Hh2 := Lib.hid (Hh1.out.trans hkh fun _ _ e => e)
        have HXO2 := Lib.hid (tabOf_ok HTI2.out.tbl HTS2.out hx2 hxv2 hxc2 hxr2)
        have HXT2 := Lib.hid hx2
        have HXE2 := Lib.hid (And.intro hxn2 hxv2)
        have HXT1 := Lib.hid (HXT1.out.keptN hkh)
        refine hK _ _ Hh2.out ?_
        clear hK K hkh hx2 hxn2 hxv2 hxc2 hxr2
        refine sch_two ?_ ?_
        · refine do_doK rfl rfl (fun K hK => ?_)
          go_simp
          go_at_call 40
          refine (x3Refresh_at dc rem wait asks at_ (HRL4.out.keptN Hh2.out) HN1000.out HXT1.out HXO1.out HXT2.out HXO2.out (by rw [HXE1.out.1, HXE1.out.2, HXE2.out.1, HXE2.out.2]; exact HLL.out)).mono ?_
          rw [bothX_P HXE1.out.1 HXE1.out.2 HXE2.out.1 HXE2.out.2, HRE.out]
          intro e wf hpf
          obtain ⟨A', n', c', l', Aa, na, ca, Ag, ng, cg, rfl, hrf, hsa, hsg, hkf⟩ := hpf.uni (HRL4.out.keptN Hh2.out)
          clear hpf
          rw [HS4.out] at hrf
          rw [HL1.out] at hsa
          rw [HL2.out] at hsg
          rw [HCD.out]
          have Hf := Lib.hid (Hh2.out.trans hkf fun _ _ e => e)
          have HRF := Lib.hid (hrf.wide (ok' := fun k => ((ok k ∧ k < w.heap.size) ∨ w4.heap.size ≤ k) ∧ k ≠ wf.heap.size) fun k hlt e => ⟨e.imp id fun e => Nat.le_trans Hh2.out.size e, by omega⟩)
          have HSA := Lib.hid (hsa.any (ok' := fun k _ => w4.heap.size ≤ k ∧ k ≠ wf.heap.size) fun k _ hlt e => ⟨Nat.le_trans Hh2.out.size e, by omega⟩)
          have HSG := Lib.hid (hsg.any (ok' := fun k _ => w4.heap.size ≤ k ∧ k ≠ wf.heap.size) fun k _ hlt e => ⟨Nat.le_trans Hh2.out.size e, by omega⟩)
          unfold c23C
          refine hK _ _ Hf.out ?_
          clear hK K hrf hkf hsa hsg
          repeat (first
            | (refine sch_takeE rfl rfl ?_
               apply Exists.intro
               refine ⟨fun w' hS => ?_, fun K hK => ?_⟩
               · (clear hS
                  unfold takesAt; go_simp; rfl)
               go_simp
               refine hK _ ?_
               clear hK K))
          refine sch_doK rfl rfl (fun K hK => ?_)
          go_simp
          have HB9 : Hid (Blk (wf.alloc (.cells #[.string ⟨#[]⟩, .int .i64 0, .slice none 0 0, .int .u64 0, .bool false, .int .u64 0] 59)) wf.heap.size 59 #[.string ⟨#[]⟩, .int .i64 0, .slice none 0 0, .int .u64 0, .bool false, .int .u64 0]) := Lib.hid (Blk.new _ _ _)
          have Hwz1 : Hid (Kept noBlock w4 (wf.alloc (.cells #[.string ⟨#[]⟩, .int .i64 0, .slice none 0 0, .int .u64 0, .bool false, .int .u64 0] 59))) := Lib.hid (Hf.out.alloc _)
          have HBL : Hid (w4.heap.size ≤ wf.heap.size) := Lib.hid (Hf.out.size)
          have HKA : Hid (Kept noBlock wf (wf.alloc (.cells #[.string ⟨#[]⟩, .int .i64 0, .slice none 0 0, .int .u64 0, .bool false, .int .u64 0] 59))) := Lib.hid ((Kept.refl noBlock wf).alloc _)
          refine hK _ _ Hwz1.out ?_
          clear hK K
          obtain ⟨wz1, hwz⟩ : ∃ wz, wz = (wf.alloc (.cells #[.string ⟨#[]⟩, .int .i64 0, .slice none 0 0, .int .u64 0, .bool false, .int .u64 0] 59)) := ⟨_, rfl⟩
          rw [← hwz] at HB9 HKA Hwz1 ⊢
          clear hwz
          have HRF := Lib.hid (show RL wz1 _ _ _ _ _ _ from HRF.out.keptN HKA.out)
          have HSA := Lib.hid (show SlK wz1 _ _ _ _ _ from HSA.out.keptNone HKA.out)
          have HSG := Lib.hid (show SlK wz1 _ _ _ _ _ from HSG.out.keptNone HKA.out)
          refine sch_doK rfl rfl (fun K hK => ?_)
          have hb0 := HB9.out
          obtain ⟨e0, e1, e2, e3, e4, e5⟩ := cells6 hb0
          obtain ⟨g0, g1, g2, g3, g4, g5⟩ := frozen6 hb0
          have HBF := Lib.hid (blk6 (M := wf.heap.size) (u0 := (.string dc)) (u1 := (.int .i64 rem)) (u2 := (.slice A' n' c')) (u3 := (.int .u64 wait)) (u4 := (.bool asks)) (u5 := (.int .u64 at_)) hb0)
          have HKB := Lib.hid (kept6 (M := wf.heap.size) (u0 := (.string dc)) (u1 := (.int .i64 rem)) (u2 := (.slice A' n' c')) (u3 := (.int .u64 wait)) (u4 := (.bool asks)) (u5 := (.int .u64 at_)) (Kept.refl (fun k => k = wf.heap.size) wz1) fun _ => rfl)
          have HKK := Lib.hid (kept6 (M := wf.heap.size) (u0 := (.string dc)) (u1 := (.int .i64 rem)) (u2 := (.slice A' n' c')) (u3 := (.int .u64 wait)) (u4 := (.bool asks)) (u5 := (.int .u64 at_)) Hwz1.out fun hlt => absurd hlt (by have := HBL.out; omega))
          go_simp
          refine hK _ _ HKK.out ?_
          clear hK K e0 e1 e2 e3 e4 e5 g0 g1 g2 g3 g4 g5 hb0
          repeat (first
            | (refine sch_takeE rfl rfl ?_
               apply Exists.intro
               refine ⟨fun w' hS => ?_, fun K hK => ?_⟩
               · (clear hS
                  unfold takesAt; go_simp; rfl)
               go_simp
               refine hK _ ?_
               clear hK K))
          refine sch_nil (NoPanic.normal ?_)
          go_wp2_with fail
          go_meet
          exact ⟨wf.heap.size, A', n', c', l', Aa, na, ca, Ag, ng, cg, rfl, rfl, rfl, rfl, HBL.out, HBF.out, (HRF.out.kept HKB.out fun k e e2 => e.2 e2).wide fun k _ e => e.1, (HSA.out.keptAll HKB.out fun k _ e e2 => e.2 e2).any fun k _ _ e => e.1, (HSG.out.keptAll HKB.out fun k _ e e2 => e.2 e2).any fun k _ _ e => e.1, HKK.out⟩
        · refine do_doK rfl rfl (fun K hK => ?_)
          go_simp
          have HB9 : Hid (Blk (wh2.alloc (.cells #[.string ⟨#[]⟩, .int .i64 0, .slice none 0 0, .int .u64 0, .bool false, .int .u64 0] 59)) wh2.heap.size 59 #[.string ⟨#[]⟩, .int .i64 0, .slice none 0 0, .int .u64 0, .bool false, .int .u64 0]) := Lib.hid (Blk.new _ _ _)
          have Hwz2 : Hid (Kept noBlock w4 (wh2.alloc (.cells #[.string ⟨#[]⟩, .int .i64 0, .slice none 0 0, .int .u64 0, .bool false, .int .u64 0] 59))) := Lib.hid (Hh2.out.alloc _)
          have HBL : Hid (w4.heap.size ≤ wh2.heap.size) := Lib.hid (Hh2.out.size)
          have HKA : Hid (Kept noBlock wh2 (wh2.alloc (.cells #[.string ⟨#[]⟩, .int .i64 0, .slice none 0 0, .int .u64 0, .bool false, .int .u64 0] 59))) := Lib.hid ((Kept.refl noBlock wh2).alloc _)
          refine hK _ _ Hwz2.out ?_
          clear hK K
          obtain ⟨wz2, hwz⟩ : ∃ wz, wz = (wh2.alloc (.cells #[.string ⟨#[]⟩, .int .i64 0, .slice none 0 0, .int .u64 0, .bool false, .int .u64 0] 59)) := ⟨_, rfl⟩
          rw [← hwz] at HB9 HKA Hwz2 ⊢
          clear hwz
          have HXT1 := Lib.hid (HXT1.out.keptN HKA.out)
          have HXT2 := Lib.hid (HXT2.out.keptN HKA.out)
          refine sch_doK rfl rfl (fun K hK => ?_)
          go_simp
          go_at_call 40
          refine (x3Refresh_at dc rem wait asks at_ (HRL4.out.keptN Hwz2.out) HN1000.out HXT1.out HXO1.out HXT2.out HXO2.out (by rw [HXE1.out.1, HXE1.out.2, HXE2.out.1, HXE2.out.2]; exact HLL.out)).mono ?_
          rw [bothX_P HXE1.out.1 HXE1.out.2 HXE2.out.1 HXE2.out.2, HRE.out]
          intro e wf hpf
          obtain ⟨A', n', c', l', Aa, na, ca, Ag, ng, cg, rfl, hrf, hsa, hsg, hkf⟩ := hpf.uni (HRL4.out.keptN Hwz2.out)
          clear hpf
          rw [HS4.out] at hrf
          rw [HL1.out] at hsa
          rw [HL2.out] at hsg
          rw [HCD.out]
          have Hf := Lib.hid (Hwz2.out.trans hkf fun _ _ e => e)
          have HRF := Lib.hid (hrf.wide (ok' := fun k => ((ok k ∧ k < w.heap.size) ∨ w4.heap.size ≤ k) ∧ k ≠ wh2.heap.size) fun k _ e => ⟨e.imp id fun e => Nat.le_trans Hwz2.out.size e, fun e2 => by have := HB9.out.lt; have := HBL.out; have := HZ4.out; rcases e with e | e <;> omega⟩)
          have HSA := Lib.hid (hsa.any (ok' := fun k _ => w4.heap.size ≤ k ∧ k ≠ wh2.heap.size) fun k _ _ e => ⟨Nat.le_trans Hwz2.out.size e, fun e2 => by have := HB9.out.lt; omega⟩)
          have HSG := Lib.hid (hsg.any (ok' := fun k _ => w4.heap.size ≤ k ∧ k ≠ wh2.heap.size) fun k _ _ e => ⟨Nat.le_trans Hwz2.out.size e, fun e2 => by have := HB9.out.lt; omega⟩)
          have HB9 := Lib.hid (HB9.out.kept hkf fun e => e)
          unfold c23C
          refine hK _ _ Hf.out ?_
          clear hK K hrf hkf hsa hsg
          repeat (first
            | (refine sch_takeE rfl rfl ?_
               apply Exists.intro
               refine ⟨fun w' hS => ?_, fun K hK => ?_⟩
               · (clear hS
                  unfold takesAt; go_simp; rfl)
               go_simp
               refine hK _ ?_
               clear hK K))
          refine sch_doK rfl rfl (fun K hK => ?_)
          have hb0 := HB9.out
          obtain ⟨e0, e1, e2, e3, e4, e5⟩ := cells6 hb0
          obtain ⟨g0, g1, g2, g3, g4, g5⟩ := frozen6 hb0
          have HBF := Lib.hid (blk6 (M := wh2.heap.size) (u0 := (.string dc)) (u1 := (.int .i64 rem)) (u2 := (.slice A' n' c')) (u3 := (.int .u64 wait)) (u4 := (.bool asks)) (u5 := (.int .u64 at_)) hb0)
          have HKB := Lib.hid (kept6 (M := wh2.heap.size) (u0 := (.string dc)) (u1 := (.int .i64 rem)) (u2 := (.slice A' n' c')) (u3 := (.int .u64 wait)) (u4 := (.bool asks)) (u5 := (.int .u64 at_)) (Kept.refl (fun k => k = wh2.heap.size) wf) fun _ => rfl)
          have HKK := Lib.hid (kept6 (M := wh2.heap.size) (u0 := (.string dc)) (u1 := (.int .i64 rem)) (u2 := (.slice A' n' c')) (u3 := (.int .u64 wait)) (u4 := (.bool asks)) (u5 := (.int .u64 at_)) Hf.out fun hlt => absurd hlt (by have := HBL.out; omega))
          go_simp
          refine hK _ _ HKK.out ?_
          clear hK K e0 e1 e2 e3 e4 e5 g0 g1 g2 g3 g4 g5 hb0
          repeat (first
            | (refine sch_takeE rfl rfl ?_
               apply Exists.intro
               refine ⟨fun w' hS => ?_, fun K hK => ?_⟩
               · (clear hS
                  unfold takesAt; go_simp; rfl)
               go_simp
               refine hK _ ?_
               clear hK K))
          refine sch_nil (NoPanic.normal ?_)
          go_wp2_with fail
          go_meet
          exact ⟨wh2.heap.size, A', n', c', l', Aa, na, ca, Ag, ng, cg, rfl, rfl, rfl, rfl, HBL.out, HBF.out, (HRF.out.kept HKB.out fun k e e2 => e.2 e2).wide fun k _ e => e.1, (HSA.out.keptAll HKB.out fun k _ e e2 => e.2 e2).any fun k _ _ e => e.1, (HSG.out.keptAll HKB.out fun k _ e e2 => e.2 e2).any fun k _ _ e => e.1, HKK.out⟩
      · refine do_doK rfl rfl (fun K hK => ?_)
        go_simp
        have HB9 : Hid (Blk (wh1.alloc (.cells #[.string ⟨#[]⟩, .int .i64 0, .slice none 0 0, .int .u64 0, .bool false, .int .u64 0] 59)) wh1.heap.size 59 #[.string ⟨#[]⟩, .int .i64 0, .slice none 0 0, .int .u64 0, .bool false, .int .u64 0]) := Lib.hid (Blk.new _ _ _)
        have Hwz3 : Hid (Kept noBlock w4 (wh1.alloc (.cells #[.string ⟨#[]⟩, .int .i64 0, .slice none 0 0, .int .u64 0, .bool false, .int .u64 0] 59))) := Lib.hid (Hh1.out.alloc _)
        have HBL : Hid (w4.heap.size ≤ wh1.heap.size) := Lib.hid (Hh1.out.size)
        have HKA : Hid (Kept noBlock wh1 (wh1.alloc (.cells #[.string ⟨#[]⟩, .int .i64 0, .slice none 0 0, .int .u64 0, .bool false, .int .u64 0] 59))) := Lib.hid ((Kept.refl noBlock wh1).alloc _)
        refine hK _ _ Hwz3.out ?_
        clear hK K
        obtain ⟨wz3, hwz⟩ : ∃ wz, wz = (wh1.alloc (.cells #[.string ⟨#[]⟩, .int .i64 0, .slice none 0 0, .int .u64 0, .bool false, .int .u64 0] 59)) := ⟨_, rfl⟩
        rw [← hwz] at HB9 HKA Hwz3 ⊢
        clear hwz
        have HXT1 := Lib.hid (HXT1.out.keptN HKA.out)
        refine sch_doK rfl rfl (fun K hK => ?_)
        go_simp
        go_at_call 12
        refine (HTB2.out _ Hwz3.out).mono ?_
        rintro e wh2 ⟨x2, rfl, hx2, hxn2, hxv2, hxc2, hxr2, hkh⟩
        have Hh2 := Lib.hid (Hwz3.out.trans hkh fun _ _ e => e)
        have HXO2 := Lib.hid (tabOf_ok HTI2.out.tbl HTS2.out hx2 hxv2 hxc2 hxr2)
        have HXT2 := Lib.hid hx2
        have HXE2 := Lib.hid (And.intro hxn2 hxv2)
        have HXT1 := Lib.hid (HXT1.out.keptN hkh)
        have HB9 := Lib.hid (HB9.out.kept hkh fun e => e)
        refine hK _ _ Hh2.out ?_
        clear hK K hkh hx2 hxn2 hxv2 hxc2 hxr2
        refine sch_doK rfl rfl (fun K hK => ?_)
        go_simp
        go_at_call 40
        refine (x3Refresh_at dc rem wait asks at_ (HRL4.out.keptN Hh2.out) HN1000.out HXT1.out HXO1.out HXT2.out HXO2.out (by rw [HXE1.out.1, HXE1.out.2, HXE2.out.1, HXE2.out.2]; exact HLL.out)).mono ?_
        rw [bothX_P HXE1.out.1 HXE1.out.2 HXE2.out.1 HXE2.out.2, HRE.out]
        intro e wf hpf
        obtain ⟨A', n', c', l', Aa, na, ca, Ag, ng, cg, rfl, hrf, hsa, hsg, hkf⟩ := hpf.uni (HRL4.out.keptN Hh2.out)
        clear hpf
        rw [HS4.out] at hrf
        rw [HL1.out] at hsa
        rw [HL2.out] at hsg
        rw [HCD.out]
        have Hf := Lib.hid (Hh2.out.trans hkf fun _ _ e => e)
        have HRF := Lib.hid (hrf.wide (ok' := fun k => ((ok k ∧ k < w.heap.size) ∨ w4.heap.size ≤ k) ∧ k ≠ wh1.heap.size) fun k _ e => ⟨e.imp id fun e => Nat.le_trans Hh2.out.size e, fun e2 => by have := HB9.out.lt; have := HBL.out; have := HZ4.out; rcases e with e | e <;> omega⟩)
        have HSA := Lib.hid (hsa.any (ok' := fun k _ => w4.heap.size ≤ k ∧ k ≠ wh1.heap.size) fun k _ _ e => ⟨Nat.le_trans Hh2.out.size e, fun e2 => by have := HB9.out.lt; omega⟩)
        have HSG := Lib.hid (hsg.any (ok' := fun k _ => w4.heap.size ≤ k ∧ k ≠ wh1.heap.size) fun k _ _ e => ⟨Nat.le_trans Hh2.out.size e, fun e2 => by have := HB9.out.lt; omega⟩)
        have HB9 := Lib.hid (HB9.out.kept hkf fun e => e)
        unfold c23C
        refine hK _ _ Hf.out ?_
        clear hK K hrf hkf hsa hsg
        repeat (first
          | (refine sch_takeE rfl rfl ?_
             apply Exists.intro
             refine ⟨fun w' hS => ?_, fun K hK => ?_⟩
             · (clear hS
                unfold takesAt; go_simp; rfl)
             go_simp
             refine hK _ ?_
             clear hK K))
        refine sch_doK rfl rfl (fun K hK => ?_)
        have hb0 := HB9.out
        obtain ⟨e0, e1, e2, e3, e4, e5⟩ := cells6 hb0
        obtain ⟨g0, g1, g2, g3, g4, g5⟩ := frozen6 hb0
        have HBF := Lib.hid (blk6 (M := wh1.heap.size) (u0 := (.string dc)) (u1 := (.int .i64 rem)) (u2 := (.slice A' n' c')) (u3 := (.int .u64 wait)) (u4 := (.bool asks)) (u5 := (.int .u64 at_)) hb0)
        have HKB := Lib.hid (kept6 (M := wh1.heap.size) (u0 := (.string dc)) (u1 := (.int .i64 rem)) (u2 := (.slice A' n' c')) (u3 := (.int .u64 wait)) (u4 := (.bool asks)) (u5 := (.int .u64 at_)) (Kept.refl (fun k => k = wh1.heap.size) wf) fun _ => rfl)
        have HKK := Lib.hid (kept6 (M := wh1.heap.size) (u0 := (.string dc)) (u1 := (.int .i64 rem)) (u2 := (.slice A' n' c')) (u3 := (.int .u64 wait)) (u4 := (.bool asks)) (u5 := (.int .u64 at_)) Hf.out fun hlt => absurd hlt (by have := HBL.out; omega))
        go_simp
        refine hK _ _ HKK.out ?_
        clear hK K e0 e1 e2 e3 e4 e5 g0 g1 g2 g3 g4 g5 hb0
        repeat (first
          | (refine sch_takeE rfl rfl ?_
             apply Exists.intro
             refine ⟨fun w' hS => ?_, fun K hK => ?_⟩
             · (clear hS
                unfold takesAt; go_simp; rfl)
             go_simp
             refine hK _ ?_
             clear hK K))
        refine sch_nil (NoPanic.normal ?_)
        go_wp2_with fail
        go_meet
        exact ⟨wh1.heap.size, A', n', c', l', Aa, na, ca, Ag, ng, cg, rfl, rfl, rfl, rfl, HBL.out, HBF.out, (HRF.out.kept HKB.out fun k e e2 => e.2 e2).wide fun k _ e => e.1, (HSA.out.keptAll HKB.out fun k _ e e2 => e.2 e2).any fun k _ _ e => e.1, (HSG.out.keptAll HKB.out fun k _ e e2 => e.2 e2).any fun k _ _ e => e.1, HKK.out⟩
    · refine do_doK rfl rfl (fun K hK => ?_)
      go_simp
      have HB9 : Hid (Blk ((w4.alloc (.cells #[.string ⟨#[]⟩, .int .i64 0, .slice none 0 0, .int .u64 0, .bool false, .int .u64 0] 59)).drew) w4.heap.size 59 #[.string ⟨#[]⟩, .int .i64 0, .slice none 0 0, .int .u64 0, .bool false, .int .u64 0]) := Lib.hid (Blk.new _ _ _).drew
      have Hwz4 : Hid (Kept noBlock w4 ((w4.alloc (.cells #[.string ⟨#[]⟩, .int .i64 0, .slice none 0 0, .int .u64 0, .bool false, .int .u64 0] 59)).drew)) := Lib.hid (((Kept.refl noBlock w4).alloc _).drew)
      have HBL : Hid (w4.heap.size ≤ w4.heap.size) := Lib.hid (Nat.le_refl _)
      have HKA : Hid (Kept noBlock w4 ((w4.alloc (.cells #[.string ⟨#[]⟩, .int .i64 0, .slice none 0 0, .int .u64 0, .bool false, .int .u64 0] 59)).drew)) := Lib.hid (((Kept.refl noBlock w4).alloc _).drew)
      refine hK _ _ Hwz4.out ?_
      clear hK K
      obtain ⟨wz4, hwz⟩ : ∃ wz, wz = ((w4.alloc (.cells #[.string ⟨#[]⟩, .int .i64 0, .slice none 0 0, .int .u64 0, .bool false, .int .u64 0] 59)).drew) := ⟨_, rfl⟩
      rw [← hwz] at HB9 HKA Hwz4 ⊢
      clear hwz
      refine sch_doK rfl rfl (fun K hK => ?_)
      go_simp
      go_at_call 12
      refine (HTB1.out _ Hwz4.out).mono ?_
      rintro e wh1 ⟨x1, rfl, hx1, hxn1, hxv1, hxc1, hxr1, hkh⟩
      have Hh1 := Lib.hid (Hwz4.out.trans hkh fun _ _ e => e)
      have HXO1 := Lib.hid (tabOf_ok HTI1.out.tbl HTS1.out hx1 hxv1 hxc1 hxr1)
      have HXT1 := Lib.hid hx1
      have HXE1 := Lib.hid (And.intro hxn1 hxv1)
      have HB9 := Lib.hid (HB9.out.kept hkh fun e => e)
      refine hK _ _ Hh1.out ?_
      clear hK K hkh hx1 hxn1 hxv1 hxc1 hxr1
      refine sch_doK rfl rfl (fun K hK => ?_)
      go_simp
      go_at_call 12
      refine (HTB2.out _ Hh1.out).mono ?_
      rintro e wh2 ⟨x2, rfl, hx2, hxn2, hxv2, hxc2, hxr2, hkh⟩
      have Hh2 := Lib.hid (Hh1.out.trans hkh fun _ _ e => e)
      have HXO2 := Lib.hid (tabOf_ok HTI2.out.tbl HTS2.out hx2 hxv2 hxc2 hxr2)
      have HXT2 := Lib.hid hx2
      have HXE2 := Lib.hid (And.intro hxn2 hxv2)
      have HXT1 := Lib.hid (HXT1.out.keptN hkh)
      have HB9 := Lib.hid (HB9.out.kept hkh fun e => e)
      refine hK _ _ Hh2.out ?_
      clear hK K hkh hx2 hxn2 hxv2 hxc2 hxr2
      refine sch_doK rfl rfl (fun K hK => ?_)
      go_simp
      go_at_call 40
      refine (x3Refresh_at dc rem wait asks at_ (HRL4.out.keptN Hh2.out) HN1000.out HXT1.out HXO1.out HXT2.out HXO2.out (by rw [HXE1.out.1, HXE1.out.2, HXE2.out.1, HXE2.out.2]; exact HLL.out)).mono ?_
      rw [bothX_P HXE1.out.1 HXE1.out.2 HXE2.out.1 HXE2.out.2, HRE.out]
      intro e wf hpf
      obtain ⟨A', n', c', l', Aa, na, ca, Ag, ng, cg, rfl, hrf, hsa, hsg, hkf⟩ := hpf.uni (HRL4.out.keptN Hh2.out)
      clear hpf
      rw [HS4.out] at hrf
      rw [HL1.out] at hsa
      rw [HL2.out] at hsg
      rw [HCD.out]
      have Hf := Lib.hid (Hh2.out.trans hkf fun _ _ e => e)
      have HRF := Lib.hid (hrf.wide (ok' := fun k => ((ok k ∧ k < w.heap.size) ∨ w4.heap.size ≤ k) ∧ k ≠ w4.heap.size) fun k _ e => ⟨e.imp id fun e => Nat.le_trans Hh2.out.size e, fun e2 => by have := HB9.out.lt; have := HBL.out; have := HZ4.out; rcases e with e | e <;> omega⟩)
      have HSA := Lib.hid (hsa.any (ok' := fun k _ => w4.heap.size ≤ k ∧ k ≠ w4.heap.size) fun k _ _ e => ⟨Nat.le_trans Hh2.out.size e, fun e2 => by have := HB9.out.lt; omega⟩)
      have HSG := Lib.hid (hsg.any (ok' := fun k _ => w4.heap.size ≤ k ∧ k ≠ w4.heap.size) fun k _ _ e => ⟨Nat.le_trans Hh2.out.size e, fun e2 => by have := HB9.out.lt; omega⟩)
      have HB9 := Lib.hid (HB9.out.kept hkf fun e => e)
      unfold c23C
      refine hK _ _ Hf.out ?_
      clear hK K hrf hkf hsa hsg
      repeat (first
        | (refine sch_takeE rfl rfl ?_
           apply Exists.intro
           refine ⟨fun w' hS => ?_, fun K hK => ?_⟩
           · (clear hS
              unfold takesAt; go_simp; rfl)
           go_simp
           refine hK _ ?_
           clear hK K))
      refine sch_doK rfl rfl (fun K hK => ?_)
      have hb0 := HB9.out
      obtain ⟨e0, e1, e2, e3, e4, e5⟩ := cells6 hb0
      obtain ⟨g0, g1, g2, g3, g4, g5⟩ := frozen6 hb0
      have HBF := Lib.hid (blk6 (M := w4.heap.size) (u0 := (.string dc)) (u1 := (.int .i64 rem)) (u2 := (.slice A' n' c')) (u3 := (.int .u64 wait)) (u4 := (.bool asks)) (u5 := (.int .u64 at_)) hb0)
      have HKB := Lib.hid (kept6 (M := w4.heap.size) (u0 := (.string dc)) (u1 := (.int .i64 rem)) (u2 := (.slice A' n' c')) (u3 := (.int .u64 wait)) (u4 := (.bool asks)) (u5 := (.int .u64 at_)) (Kept.refl (fun k => k = w4.heap.size) wf) fun _ => rfl)
      have HKK := Lib.hid (kept6 (M := w4.heap.size) (u0 := (.string dc)) (u1 := (.int .i64 rem)) (u2 := (.slice A' n' c')) (u3 := (.int .u64 wait)) (u4 := (.bool asks)) (u5 := (.int .u64 at_)) Hf.out fun hlt => absurd hlt (by have := HBL.out; omega))
      go_simp
      refine hK _ _ HKK.out ?_
      clear hK K e0 e1 e2 e3 e4 e5 g0 g1 g2 g3 g4 g5 hb0
      repeat (first
        | (refine sch_takeE rfl rfl ?_
           apply Exists.intro
           refine ⟨fun w' hS => ?_, fun K hK => ?_⟩
           · (clear hS
              unfold takesAt; go_simp; rfl)
           go_simp
           refine hK _ ?_
           clear hK K))
      refine sch_nil (NoPanic.normal ?_)
      go_wp2_with fail
      go_meet
      exact ⟨w4.heap.size, A', n', c', l', Aa, na, ca, Ag, ng, cg, rfl, rfl, rfl, rfl, HBL.out, HBF.out, (HRF.out.kept HKB.out fun k e e2 => e.2 e2).wide fun k _ e => e.1, (HSA.out.keptAll HKB.out fun k _ e e2 => e.2 e2).any fun k _ _ e => e.1, (HSG.out.keptAll HKB.out fun k _ e e2 => e.2 e2).any fun k _ _ e => e.1, HKK.out⟩
  case rest =>
    obtain ⟨b, A', n', c', l', Aa, na, ca, Ag, ng, cg, rfl, rfl, rfl, rfl, hbl, hb, hrl, hsa, hsg, hk⟩ := hcut
    have HBX := Lib.hid hb
    have HBLX := Lib.hid hbl
    have HRL := Lib.hid hrl
    have HKX := Lib.hid hk
    have HBR5 := Lib.hid (HBR4.out.kept hk fun e => e)
    have HC5 := Lib.hid (HC4.out.keptN hk)
    have HTX1 := Lib.hid (fun (W : World) (hW : Kept noBlock wc W) => texts_at ((HSA4.out.keptNone hk).keptNone hW) (hsa.keptNone hW))
    have HTX2 := Lib.hid (fun (W : World) (hW : Kept noBlock wc W) => texts_at ((HSB4.out.keptNone hk).keptNone hW) (hsg.keptNone hW))
    have q1 : (cd == cd) = true := beq_self_eq_true _
    have hne : b ≠ w.heap.size + 1 + 1 := by have := HZ4.out; omega
    clear hb hbl hrl hsa hsg hk c0 c1 c2 c3 c4 c5 a10 a11 a12 a13 a14 a15 a16 a17 a18 a19 a20 a21
    go_wp2_with fail
    refine wp_region_sch (fun w' => Kept (fun k => k = w.heap.size + 1 + 1) wc w') (.take 0 (.take 1 (.take 2 (.one 3 (.take 4 (.take 5 (.take 6 (.one 7 (.take 8 (.take 9 (.take 10 (.take 11 (.take 12 (.take 13 (.one 14 (.take 15 .nil)))))))))))))))) (by kernel_rfl) (by kernel_rfl) (by kernel_rfl) ((Kept.refl _ wc).drew) ?_
    repeat (first
      | (refine sch_takeE rfl rfl ?_
         apply Exists.intro
         refine ⟨fun w' hS => ?_, fun K hK => ?_⟩
         · (obtain ⟨s0, s1, s2, s3, s4, s5⟩ := cells6 (HBX.out.kept hS hne)
            clear hS
            unfold takesAt; go_simp; rfl)
         go_simp
         refine hK _ ?_
         clear hK K))
    refine sch_doK rfl rfl (fun K hK => ?_)
    go_simp
    go_at_call 41
    refine (HTX1.out _ ((Kept.refl noBlock wc).drew)).mono ?_
    rintro e w5 ⟨rfl, hk5⟩
    have HK5 := Lib.hid (((Kept.refl noBlock wc).drew).trans hk5 fun _ _ e => e)
    refine hK _ _ HK5.out.of_none ?_
    clear hK K hk5
    repeat (first
      | (refine sch_takeE rfl rfl ?_
         apply Exists.intro
         refine ⟨fun w' hS => ?_, fun K hK => ?_⟩
         · (clear hS
            unfold takesAt; go_simp; rfl)
         go_simp
         refine hK _ ?_
         clear hK K))
    refine sch_doK rfl rfl (fun K hK => ?_)
    go_simp
    go_at_call 41
    refine (HTX2.out _ HK5.out).mono ?_
    rintro e w6 ⟨rfl, hk6⟩
    have HK6 := Lib.hid (HK5.out.trans hk6 fun _ _ e => e)
    refine hK _ _ HK6.out.of_none ?_
    clear hK K hk6
    repeat (first
      | (refine sch_takeE rfl rfl ?_
         apply Exists.intro
         refine ⟨fun w' hS => ?_, fun K hK => ?_⟩
         · (clear hS
            unfold takesAt; go_simp; rfl)
         go_simp
         refine hK _ ?_
         clear hK K))
    refine sch_doK rfl rfl (fun K hK => ?_)
    have HB6 := Lib.hid (HBR5.out.kept HK6.out fun e => e)
    obtain ⟨r0, r1, r2, r3, r4, r5⟩ := cells6 HB6.out
    obtain ⟨g0, g1, g2, g3, g4, g5⟩ := frozen6 HB6.out
    have HKK := Lib.hid (kept6 (M := w.heap.size + 1 + 1) (u0 := .string dc) (u1 := .int .i64 rem) (u2 := .slice A' n' c') (u3 := .int .u64 wait) (u4 := .bool asks) (u5 := .int .u64 at_) (HK6.out.of_none (S := fun k => k = w.heap.size + 1 + 1)) fun _ => rfl)
    have HKK6 := Lib.hid (kept6 (M := w.heap.size + 1 + 1) (u0 := .string dc) (u1 := .int .i64 rem) (u2 := .slice A' n' c') (u3 := .int .u64 wait) (u4 := .bool asks) (u5 := .int .u64 at_) (Kept.refl (fun k => k = w.heap.size + 1 + 1) w6) fun _ => rfl)
    have HKK0 := Lib.hid (kept6 (M := w.heap.size + 1 + 1) (u0 := .string dc) (u1 := .int .i64 rem) (u2 := .slice A' n' c') (u3 := .int .u64 wait) (u4 := .bool asks) (u5 := .int .u64 at_) ((HK4.out.trans HKX.out fun _ _ e => e.elim).trans HK6.out fun _ _ e => e.elim) fun h => by omega)
    go_simp
    refine hK _ _ HKK.out ?_
    clear hK K r0 r1 r2 r3 r4 r5 g0 g1 g2 g3 g4 g5
    repeat (first
      | (refine sch_takeE rfl rfl ?_
         apply Exists.intro
         refine ⟨fun w' hS => ?_, fun K hK => ?_⟩
         · (clear hS
            unfold takesAt; go_simp; rfl)
         go_simp
         refine hK _ ?_
         clear hK K))
    refine sch_nil (NoPanic.normal ?_)
    go_wp2
    have hlt := HLT.out
    have hlt4 := HLT4.out
    have hzz := HZ4.out
    refine step_ret rfl rfl (blk6 HB6.out) ⟨own4, A', n', c', l', S4, asks, at_, rfl, (HC5.out.keptN HK6.out).keptS HKK6.out fun k e e2 => ?_, ((HRL.out.keptN HK6.out).kept HKK6.out fun k e e2 => ?_).wide fun k _ e => ?_, HOKN.out, fun k e => (HO4.out k e).imp id fun e => Nat.le_trans HK3.out.size e, HKK0.out⟩
    · rcases e with e | e
      · rcases HO4.out k e with e3 | e3
        · have := hlt.1 k e3; omega
        · have := HZ3.out; omega
      · have := hlt.2; omega
    · rcases e with e | e
      · have := e.2; omega
      · omega
    · rcases e with e | e
      · refine ⟨.inl e.1, fun e2 => ?_, (HOKK.out k e.1).2⟩
        rcases HO4.out k e2 with e3 | e3
        · exact (HOKK.out k e.1).1 e3
        · have := e.2; have := HZ3.out; omega
      · exact ⟨.inr (by omega), fun e2 => by have := hlt4.1 k e2; omega, fun e2 => by have := hlt.2; omega⟩
end Go.Proofs.YtdcdefkloibfnaaGreatDoor

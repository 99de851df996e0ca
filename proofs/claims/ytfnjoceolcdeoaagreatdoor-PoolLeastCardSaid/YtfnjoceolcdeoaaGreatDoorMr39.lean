/- conn.frame: an answer of the handshake; a beat's · conn.Data: the frames that are whole, one behind the other. -/
import Derived.Test.YtfnjoceolcdeoaaGreatDoorMr26
import Derived.Test.YtfnjoceolcdeoaaGreatDoorMr37
import Derived.Test.YtfnjoceolcdeoaaGreatDoorMr38
import Derived.Test.YtfnjoceolcdeoaaGreatDoorMr15
namespace Go.Proofs.YtfnjoceolcdeoaaGreatDoor
set_option linter.unusedVariables false
open Go.RowKit

theorem cells6f {w : World} {g : Nat} {t : TypeId} {a0 a1 a2 a3 a4 a5 : Value} (h : Blk w g t #[a0, a1, a2, a3, a4, a5]) :
    w.cell? ⟨g, 0, none⟩ = some a0 ∧ w.cell? ⟨g, 1, none⟩ = some a1 ∧ w.cell? ⟨g, 2, none⟩ = some a2 ∧ w.cell? ⟨g, 3, none⟩ = some a3 ∧ w.cell? ⟨g, 4, none⟩ = some a4 ∧ w.cell? ⟨g, 5, none⟩ = some a5 :=
  ⟨h.cell 0, h.cell 1, h.cell 2, h.cell 3, h.cell 4, h.cell 5⟩
set_option maxHeartbeats 4000000 in
set_option maxRecDepth 100000 in
theorem cnFrame_shake {w : World} {lo hi c : Nat} {x : XC} (h : ConnAt w lo hi c x) (id : Int) (hid : 0 ≤ id ∧ id < 32768) (hask : (aget id x.ss.asked).isSome = true) (hsh : x.shake = id) (op : UInt8) (len : Nat) (A : Option Addr) (n cA : Nat) {o : Option Addr} {Post : Ending → World → Prop} (hpost : ∀ e w', Post e w' → e = .returned (.tuple #[]))
    (hgo : ∀ W, ConnAt W lo hi c { x with ss := x.ss.answer id } → Kept (fun k => lo ≤ k ∧ k < hi) w W → Calls Tryz.prog 70 #[.pointer (some ⟨c, 0, none⟩), .agg (frV id op len A n cA), .pointer o] W Post) :
    Calls Tryz.prog 47 #[.pointer (some ⟨c, 0, none⟩), .agg (frV id op len A n cA), .pointer o] w Post := by
  have howed : x.ss.owed id = true := by unfold XS.owed; rw [hask]; rfl
  obtain ⟨gs, g, m1, m2, mo, h⟩ := h
  have hK0 : Kept noBlock w (w.alloc (.cells (frV id op len A n cA) 123)) := (Kept.refl noBlock w).alloc _
  have h0 := h.kept hK0 (fun _ e => e.elim)
  have HA := Lib.hid (Answer_at h0.str id howed)
  have HBF := Lib.hid (Blk.new w 123 (frV id op len A n cA))
  have H0 := Lib.hid h0
  have HK0 := Lib.hid hK0
  have HGO := Lib.hid hgo
  have HPO := Lib.hid hpost
  have HASK := Lib.hid hask
  have c10 : (w.alloc (.cells (frV id op len A n cA) 123)).cell? ⟨c, 10, none⟩ = some (.pointer (some ⟨g, 0, none⟩)) := h0.blk.cell 10
  have hwr : IntKind.i64.wrap id = id := by simp [IntKind.wrap, IntKind.bits, IntKind.signed]; omega
  have hgl : g < w.heap.size ∧ m1 < w.heap.size ∧ m2 < w.heap.size := ⟨by have := h.rg; have := h.hs; omega, by have := h.r1; have := h.hs; omega, by have := h.r2; have := h.hs; omega⟩
  have HGL := Lib.hid hgl
  have hcl : c < w.heap.size := h.blk.lt
  clear h h0 hK0 hgo hpost hask howed hgl
  unfold frV at *
  go_enter Tryz.func47, Tryz.ntmps47
  go_wp2_with fail
  go_at_call 69
  refine HA.out.mono ?_
  rintro e w2 ⟨rfl, hst, hk2⟩
  rw [HASK.out]
  have h2 := H0.out.take hst hk2
  have hbf := HBF.out.kept hk2 (by rintro (e | e | e) <;> have := HGL.out <;> omega)
  obtain ⟨z0, z1, z2, z3, z4, z5⟩ := cells6f hbf
  have c12 : w2.cell? ⟨c, 12, none⟩ = some (.int .i64 id) := by rw [← hsh]; exact h2.blk.cell 12
  have HK2 := Lib.hid ((HK0.out.of_none (S := fun k => lo ≤ k ∧ k < hi)).trans (hk2.mono fun k _ e => H0.out.inThree e) fun _ _ e => e)
  have HC2 := Lib.hid (show ConnAt w2 lo hi c { x with ss := x.ss.answer id } from ⟨gs, g, m1, m2, mo, h2⟩)
  clear hst hk2 h2 hbf c10
  go_wp2_with fail
  go_at_call 70
  refine (HGO.out w2 HC2.out HK2.out).mono ?_
  intro e w3 hp
  obtain rfl := HPO.out e w3 hp
  have HP := Lib.hid hp
  clear hp
  go_wp2
  go_end0
  exact HP.out
end Go.Proofs.YtfnjoceolcdeoaaGreatDoor
namespace Go.Proofs.YtfnjoceolcdeoaaGreatDoor
set_option linter.unusedVariables false
open Go.RowKit

/-- What comes of something: what is written, answers, events, whether it is open now, why it died, what is lost. -/
structure XO where
  X : List UInt8
  an : RwN
  nt : RwN
  rd : Bool
  dd : Int
  ls : RwN
def xo0 : XO := ⟨[], rwN0, rwN0, false, 0, rwN0⟩
def OutY (w : World) (o B : Nat) (y : XO) : Prop := OutB w o B y.X y.an y.nt y.rd y.dd y.ls
theorem outY0 {w : World} {o B : Nat} (hb : Blk w o 84 #[.slice none 0 0, .slice none 0 0, .slice none 0 0, .bool false, .int .i64 0, .slice none 0 0]) (h : o < B) : OutY w o B xo0 :=
  ⟨none, 0, 0, _, _, _, rfl, hb, World.ownsRow_nil _ _ _ _, World.ownsRow_nil _ _ _ _, World.ownsRow_nil _ _ _ _, World.ownsRow_nil _ _ _ _, h⟩
theorem ConnIn.split {w w' : World} {lo hi c gs g m1 m2 mo : Nat} {x : XC} (h : ConnIn w lo hi c gs g m1 m2 mo x) {sv : Value} {se : Int} (hb : Blk w' gs 151 #[.int .u8 132, sv, .int .i64 se]) (hk : Kept (fun k => k = gs) w w') : ConnIn w' lo hi c gs g m1 m2 mo { x with sv := sv, se := se } := by
  have hsep : ¬ three g m1 m2 gs := h.str.sep h.spl (by decide)
  exact ⟨h.blk.kept hk (Blk.ne_ h.blk h.spl (by decide)), hb, h.str.kept hk (fun e => hsep (.inl e.symm)) (fun e => hsep (.inr (.inl e.symm))) (fun e => hsep (.inr (.inr e.symm))), fun L hL => (h.oth L hL).kept hk h.nc.2.1, h.n1, h.n2, h.nc, h.rc, h.rs, h.rg, h.r1, h.r2, h.ro, Nat.le_trans h.hs hk.size⟩
/-- What Data hands back. -/
def OutRes (w : World) (B : Nat) (v : Value) (y : XO) : Prop :=
  ∃ A k A1 k1 A2 k2 A3 k3, v = .agg #[.slice A y.X.length k, .slice A1 y.an.1 k1, .slice A2 y.nt.1 k2, .bool y.rd, .int .i64 y.dd, .slice A3 y.ls.1 k3] ∧
    SlK w (fun g e => B ≤ g ∧ e = 5) 1 (.slice A y.X.length k) y.X.length (bsC y.X) ∧ SlK w (fun g e => B ≤ g ∧ e = 42) 7 (.slice A1 y.an.1 k1) y.an.1 y.an.2 ∧ SlK w (fun g e => B ≤ g ∧ e = 48) 9 (.slice A2 y.nt.1 k2) y.nt.1 y.nt.2 ∧ SlK w (fun g e => B ≤ g ∧ e = 3) 1 (.slice A3 y.ls.1 k3) y.ls.1 y.ls.2
/-- A connection whose bytes are all taken. -/
def Calm (x : XC) : Prop := x.se = 0 ∧ ∃ A c, x.sv = .slice A 0 c ∧ c ≤ maxLen
theorem frm_info : (Tryz.prog.info? 123).map (·.size) = some 6 := by kernel_rfl
theorem out_info : (Tryz.prog.info? 84).map (·.size) = some 6 := by kernel_rfl
theorem slk_mono {w : World} {ok ok' : Nat → TypeId → Prop} {sz n : Nat} {v : Value} {xs : List Value} (h : SlK w ok sz v n xs) (hk : ∀ g e, ok g e → ok' g e) : SlK w ok' sz v n xs := h.any fun g e _ ho => hk g e ho
/-- The end of Data: what came is handed back. -/
def DataPost (w : World) (lo hi c : Nat) (F : XC → XO → World → Prop) (e : Ending) (w' : World) : Prop :=
  ∃ v y Y, e = .returned v ∧ OutRes w' w.heap.size v Y ∧ ConnAt w' lo hi c y ∧ F y Y w' ∧ Kept (fun k => lo ≤ k ∧ k < hi) w w'
theorem data_fin {w W : World} {lo hi c r o B : Nat} {y : XC} {Y : XO} {F : XC → XO → World → Prop} (hr : w.heap.size = r) (hhi : hi ≤ r) (hro : r < o) (hBl : r ≤ B) {cs : Array Value} (hbr : Blk W r 84 cs) (hO : OutY W o B Y) (hC : ConnAt W lo hi c y) (hF : F y Y W) (hFk : ∀ y Y W W', F y Y W → Kept (fun k => k = w.heap.size) W W' → F y Y W') (hk : Kept (fun k => lo ≤ k ∧ k < hi) w W) :
    ∃ A k va vn vl, OutRes W r (.agg #[.slice A Y.X.length k, va, vn, .bool Y.rd, .int .i64 Y.dd, vl]) Y ∧ Blk W o 84 #[.slice A Y.X.length k, va, vn, .bool Y.rd, .int .i64 Y.dd, vl] ∧ (∃ A1 k1, va = .slice A1 Y.an.1 k1) ∧ (∃ A2 k2, vn = .slice A2 Y.nt.1 k2) ∧ (∃ A3 k3, vl = .slice A3 Y.ls.1 k3) ∧
      ∀ W', Kept (fun k => k = r) W W' → DataPost w lo hi c F (.returned (.agg #[.slice A Y.X.length k, va, vn, .bool Y.rd, .int .i64 Y.dd, vl])) W' := by
  obtain ⟨A, n, k, va, vn, vl, hn, hb, hx, ha, ht, hl, ho⟩ := hO
  subst hn
  obtain ⟨A1, k1, rfl, -, -⟩ := (Sl.of_own ha).shape
  obtain ⟨A2, k2, rfl, -, -⟩ := (Sl.of_own ht).shape
  obtain ⟨A3, k3, rfl, -, -⟩ := (Sl.of_own hl).shape
  have hne : ∀ {cs' fz}, ∀ g, g = r → W.heap[g]? = some (.cells cs' 5 fz) → False := by
    rintro cs' fz g rfl hh
    unfold Blk at hbr
    rw [hbr] at hh
    injection hh with hh
    injection hh with _ h3
    exact absurd h3 (by decide)
  refine ⟨A, k, _, _, _, ⟨A, k, A1, k1, A2, k2, A3, k3, rfl, (own_slk2 hx).any fun _ _ _ e => ⟨Nat.le_trans hBl e.1, e.2⟩, (own_slk2 ha).any fun _ _ _ e => ⟨Nat.le_trans hBl e.1, e.2⟩, (own_slk2 ht).any fun _ _ _ e => ⟨Nat.le_trans hBl e.1, e.2⟩, (own_slk2 hl).any fun _ _ _ e => ⟨Nat.le_trans hBl e.1, e.2⟩⟩, hb, ⟨A1, k1, rfl⟩, ⟨A2, k2, rfl⟩, ⟨A3, k3, rfl⟩, fun W' hkr => ?_⟩
  have hsep : ∀ {t : TypeId} {sz n : Nat} {v : Value} {xs : List Value}, t ≠ 84 → SlK W (fun g e => B ≤ g ∧ e = t) sz v n xs → SlK W' (fun g e => r ≤ g ∧ e = t) sz v n xs := by
    intro t sz n v xs htn hs
    refine (hs.keep fun g cs e fz ho2 hg => (hkr.block g (lt_of_heap hg) fun e2 => ?_).trans hg).any fun _ _ _ e => ⟨Nat.le_trans hBl e.1, e.2⟩
    have e2 : g = r := e2
    subst e2
    unfold Blk at hbr
    rw [hbr] at hg
    injection hg with hg
    injection hg with _ h3
    exact htn (ho2.2.symm.trans h3.symm)
  subst hr
  exact ⟨_, y, Y, rfl, ⟨A, k, A1, k1, A2, k2, A3, k3, rfl, hsep (by decide) (own_slk2 hx), hsep (by decide) (own_slk2 ha), hsep (by decide) (own_slk2 ht), hsep (by decide) (own_slk2 hl)⟩, hC.kept hkr fun k e => by rw [e]; omega, hFk _ _ _ _ hF hkr, hk.trans hkr fun i hi e => by have : i < w.heap.size := hi; omega⟩
end Go.Proofs.YtfnjoceolcdeoaaGreatDoor

/- replica: the steps of the picture: a host goes out, a host waits, one more is taken, a rack is marked. -/
import Derived.Test.YtjdjfikeiphgpaaRpAll
namespace Go.Proofs.Ytjdjfikeiphgpaa
set_option linter.unusedVariables false
open Go.RowKit
open Go.ChangeMaps (setBlock)

section
variable {w W w3 : World} {base bX mS mC : Nat} {sm : List (ByteArray × Si)} {cs : List (ByteArray × Cr)} {out : List ByteArray} {own : Nat → Own} {vo : Value}

theorem row_ne_blk {b g : Nat} {t e : TypeId} {xs : Array Value} {sz n : Nat} {v : Value} {ys : List Value} (hr : w.ownsRow b e sz v n ys) (hb : Blk w g t xs) (hne : t ≠ e) {k : Nat} (hk : v.ownBlock = some k) : k ≠ g := by
  rintro rfl
  obtain ⟨_, cur, hh⟩ := own_type hr hk
  unfold Blk at hb
  rw [hb] at hh
  injection hh with hh
  injection hh with _ h2
  exact hne h2
/-- Who owns what, new blocks given to o. -/
def ownNew (own : Nat → Own) (n n' : Nat) (o : Own) : Nat → Own := fun k => if k < n then own k else if k < n' then o else .m
theorem ownNew_old {own : Nat → Own} {n n' : Nat} {o : Own} {k : Nat} (h : k < n) : ownNew own n n' o k = own k := if_pos h
theorem ownNew_new {own : Nat → Own} {n n' : Nat} {o : Own} {k : Nat} (h : n ≤ k) (h' : k < n') : ownNew own n n' o k = o := by
  unfold ownNew; rw [if_neg (by omega), if_pos h']
theorem ownNew_top {own : Nat → Own} {n n' : Nat} {o : Own} (hn : n ≤ n') {k : Nat} (h : n' ≤ k) : ownNew own n n' o k = .m := by
  unfold ownNew; rw [if_neg (by omega), if_neg (by omega)]
theorem ownNew_far (h : ChO w base bX mS mC sm cs out own vo) (n' : Nat) (o : Own) : ∀ k, ownNew own w.heap.size n' o k ≠ .m → k = bX ∨ base ≤ k := by
  intro k hk
  rcases Nat.lt_or_ge k w.heap.size with h1 | h1
  · rw [ownNew_old h1] at hk; exact h.far k hk
  · exact .inr (Nat.le_trans h.low h1)
theorem ChO.goes {v' : Value} {h : ByteArray} (hO : ChO w base bX mS mC sm cs out own vo) (hk : Kept noBlock w W) (hap : Appended W w3 base 9 1 vo v' (out.length + 1) (out.map Value.string ++ [.string h])) :
    Blk w3 bX 74 #[.map (some mS), .map (some mC), vo] ∧ ChO (w3.setCell ⟨bX, 2, none⟩ v') base bX mS mC sm cs (out ++ [h]) (ownNew own w.heap.size w3.heap.size .x) v' ∧ Kept (fun k => own k = .x) w (w3.setCell ⟨bX, 2, none⟩ v') := by
  have hkap : Kept (fun i => vo.ownBlock = some i) W w3 := hap.kept
  have hk3 : Kept (fun i => vo.ownBlock = some i) w w3 := hk.of_none.trans hkap (fun _ _ h => h)
  have hb3 : Blk w3 bX 74 #[.map (some mS), .map (some mC), vo] := hO.blk.kept hk3 fun e => row_ne_blk hO.row hO.blk (by decide) e rfl
  have hk4 : Kept (fun i => i = bX ∨ vo.ownBlock = some i) w (w3.setCell ⟨bX, 2, none⟩ v') := (hk3.mono fun _ _ e => .inr e).setCell (fun _ => .inl rfl) _
  have hb4 : Blk (w3.setCell ⟨bX, 2, none⟩ v') bX 74 #[.map (some mS), .map (some mC), v'] := hb3.set_ 2 v'
  have hr4 : (w3.setCell ⟨bX, 2, none⟩ v').ownsRow base 9 1 v' (out ++ [h]).length ((out ++ [h]).map Value.string) := by
    rw [List.length_append, List.map_append]
    exact own_keptB hap.own ((Kept.refl (fun k => k = bX) w3).setCell (fun _ => rfl) v') fun k e e2 => row_ne_blk hap.own hb3 (by decide) e e2
  refine ⟨hb3, hO.stepX (own' := ownNew own w.heap.size w3.heap.size .x) hk4 ?_ (fun k h => ownNew_old h) (ownNew_far hO _ _) (fun k e => ownNew_top hk3.size (by rw [sz_setCell] at e; exact e)) hb4 hr4 ?_, hk4.mono ?_⟩
  · rintro k (rfl | e)
    · exact hO.ox
    · exact hO.ow k e
  · intro k e
    rcases hap.at_ with h1 | h1
    · rw [h1] at e
      rw [ownNew_old (own_lt hO.row e)]
      exact hO.ow k e
    · have e0 := own_lt hap.own e
      rw [h1] at e
      obtain rfl := Option.some.inj e
      exact ownNew_new hk.size e0
  · rintro k - (rfl | e)
    · exact hO.ox
    · exact hO.ow k e

variable {d : ByteArray} {c : Cr} {vw : Value}
theorem keys_of {d : ByteArray} {c : Cr} (hd : aget d cs = some c) : d ∈ cs.map (·.1) := List.mem_map.2 ⟨_, aget_mem hd, rfl⟩
theorem CrAt.far (hcr : CrAt w base own d c vw) (hO : ChO w base bX mS mC sm cs out own vo) {k : Nat} (hk : own k = .c d) : k = bX ∨ base ≤ k := hO.far k (by rw [hk]; simp)

theorem ChO.waits {v' : Value} {h : ByteArray} (hO : ChO w base bX mS mC sm cs out own vo) (hd : aget d cs = some c) (hcr : CrAt w base own d c vw) (hk : Kept noBlock w W)
    (hap : Appended W w3 base 9 1 vw v' (c.ws.length + 1) (c.ws.map Value.string ++ [.string h])) :
    Blk w3 c.g 81 #[.int .i64 c.need, .int .i64 (c.tk : Nat), .map (some c.mr), vw] ∧ ChO (w3.setCell ⟨c.g, 3, none⟩ v') base bX mS mC sm (aput d { c with ws := c.ws ++ [h] } cs) out (ownNew own w.heap.size w3.heap.size (.c d)) vo ∧ Step own (ownNew own w.heap.size w3.heap.size (.c d)) w (w3.setCell ⟨c.g, 3, none⟩ v') := by
  have hkap : Kept (fun i => vw.ownBlock = some i) W w3 := hap.kept
  have hk3 : Kept (fun i => vw.ownBlock = some i) w w3 := hk.of_none.trans hkap (fun _ _ h => h)
  have hb3 : Blk w3 c.g 81 #[.int .i64 c.need, .int .i64 (c.tk : Nat), .map (some c.mr), vw] := hcr.blk.kept hk3 fun e => row_ne_blk hcr.row hcr.blk (by decide) e rfl
  have hk4 : Kept (fun i => i = c.g ∨ vw.ownBlock = some i) w (w3.setCell ⟨c.g, 3, none⟩ v') := (hk3.mono fun _ _ e => .inr e).setCell (fun _ => .inl rfl) _
  have hb4 : Blk (w3.setCell ⟨c.g, 3, none⟩ v') c.g 81 #[.int .i64 c.need, .int .i64 (c.tk : Nat), .map (some c.mr), v'] := hb3.set_ 3 v'
  have hr4 : (w3.setCell ⟨c.g, 3, none⟩ v').ownsRow base 9 1 v' (c.ws ++ [h]).length ((c.ws ++ [h]).map Value.string) := by
    rw [List.length_append, List.map_append]
    exact own_keptB hap.own ((Kept.refl (fun k => k = c.g) w3).setCell (fun _ => rfl) v') fun k e e2 => row_ne_blk hap.own hb3 (by decide) e e2
  have hmr : ¬ (c.mr = c.g ∨ vw.ownBlock = some c.mr) := by
    rintro (e | e)
    · exact hcr.map.ne_blk hcr.blk e.symm
    · obtain ⟨_, cur, hh⟩ := own_type hcr.row e
      obtain ⟨es, ck, h2⟩ := hcr.map.heap
      rw [h2] at hh; cases hh
  have hS : ∀ k, (k = c.g ∨ vw.ownBlock = some k) → own k = .c d := by
    rintro k (rfl | e)
    · exact hcr.og
    · exact hcr.ow k e
  refine ⟨hb3, hO.step (own' := ownNew own w.heap.size w3.heap.size (.c d)) hk4 hS (keys_of hd) (fun k h => ownNew_old h) (ownNew_far hO _ _) (fun k e => ownNew_top hk3.size (by rw [sz_setCell] at e; exact e)) (fun c0 h0 => by rw [hd] at h0; cases h0; rfl)
    ⟨hb4, hcr.map.kept hk4 hmr, hr4, (ownNew_old hcr.blk.lt).trans hcr.og, (ownNew_old hcr.map.lt).trans hcr.om, ?_⟩, hk4.mono ?_, fun k h => ownNew_old h⟩
  · intro k e
    rcases hap.at_ with h1 | h1
    · rw [h1] at e
      rw [ownNew_old (own_lt hcr.row e)]
      exact hcr.ow k e
    · have e0 := own_lt hap.own e
      rw [h1] at e
      obtain rfl := Option.some.inj e
      exact ownNew_new hk.size e0
  · rintro k - e
    rw [hS k e]; simp

/-- What take makes of a center, of all centers, of the hosts that are out. -/
def Cr.more (c : Cr) : Cr := { c with tk := c.tk + 1 }
def takeCs (d : ByteArray) (c : Cr) (cs : List (ByteArray × Cr)) : List (ByteArray × Cr) := if (c.tk : Int) < c.need then aput d c.more cs else cs
def takeOut (c : Cr) (h : ByteArray) (out : List ByteArray) : List ByteArray := if (c.tk : Int) < c.need then out ++ [h] else out

theorem ChO.more (hO : ChO w base bX mS mC sm cs out own vo) (hd : aget d cs = some c) (hcr : CrAt w base own d c vw) :
    ChO (w.setCell ⟨c.g, 1, none⟩ (.int .i64 ((c.tk : Int) + 1))) base bX mS mC sm (aput d c.more cs) out own vo ∧ Kept (fun k => k = c.g) w (w.setCell ⟨c.g, 1, none⟩ (.int .i64 ((c.tk : Int) + 1))) := by
  have hk : Kept (fun i => i = c.g) w (w.setCell ⟨c.g, 1, none⟩ (.int .i64 ((c.tk : Int) + 1))) := (Kept.refl (fun i => i = c.g) w).setCell (p := ⟨c.g, 1, none⟩) (fun _ => rfl) _
  have hS : ∀ k, k = c.g → own k = .c d := by rintro k rfl; exact hcr.og
  refine ⟨hO.step hk hS (keys_of hd) (fun _ _ => rfl) hO.far (fun k e => hO.top k (Nat.le_trans hk.size e)) (fun c0 h0 => by rw [hd] at h0; cases h0; rfl)
    ⟨hcr.blk.set_ 1 _, hcr.map.kept hk (fun e => hcr.map.ne_blk hcr.blk e.symm), own_keptB hcr.row hk fun k e e2 => row_ne_blk hcr.row hcr.blk (by decide) e e2, hcr.og, hcr.om, hcr.ow⟩, hk⟩

/-- The racks of a center are written anew. -/
theorem ChO.racks {es : Array MapEntry} {ck : Nat} {R : List (ByteArray × Bool)} (hO : ChO w base bX mS mC sm cs out own vo) (hd : aget d cs = some c) (hcr : CrAt w base own d c vw) (hm : SMap (setBlock w c.mr (.map es ck)) c.mr R) :
    ChO (setBlock w c.mr (.map es ck)) base bX mS mC sm (aput d { c with racks := R } cs) out own vo ∧ Step own own w (setBlock w c.mr (.map es ck)) := by
  have hk : Kept (fun i => i = c.mr) w (setBlock w c.mr (.map es ck)) := (Kept.refl (fun i => i = c.mr) w).setBlock (m := c.mr) (fun _ => rfl) _
  have hS : ∀ k, k = c.mr → own k = .c d := by rintro k rfl; exact hcr.om
  refine ⟨hO.step hk hS (keys_of hd) (fun _ _ => rfl) hO.far (fun k e => hO.top k (Nat.le_trans hk.size e)) (fun c0 h0 => by rw [hd] at h0; cases h0; rfl)
    ⟨hcr.blk.kept hk (fun e => hcr.map.ne_blk hcr.blk e), hm, own_keptB hcr.row hk fun k e e2 => ?_, hcr.og, hcr.om, hcr.ow⟩, hk.mono fun k _ e => by rw [hS k e]; simp, fun _ _ => rfl⟩
  subst e2
  obtain ⟨_, cur, hh⟩ := own_type hcr.row e
  obtain ⟨es2, ck2, h2⟩ := hcr.map.heap
  rw [h2] at hh; cases hh
/-- The need of a center is written anew. -/
theorem ChO.needs (n : Int) (hO : ChO w base bX mS mC sm cs out own vo) (hd : aget d cs = some c) (hcr : CrAt w base own d c vw) :
    ChO (w.setCell ⟨c.g, 0, none⟩ (.int .i64 n)) base bX mS mC sm (aput d { c with need := n } cs) out own vo ∧ Step own own w (w.setCell ⟨c.g, 0, none⟩ (.int .i64 n)) := by
  have hk : Kept (fun i => i = c.g) w (w.setCell ⟨c.g, 0, none⟩ (.int .i64 n)) := (Kept.refl (fun i => i = c.g) w).setCell (p := ⟨c.g, 0, none⟩) (fun _ => rfl) _
  have hS : ∀ k, k = c.g → own k = .c d := by rintro k rfl; exact hcr.og
  refine ⟨hO.step hk hS (keys_of hd) (fun _ _ => rfl) hO.far (fun k e => hO.top k (Nat.le_trans hk.size e)) (fun c0 h0 => by rw [hd] at h0; cases h0; rfl)
    ⟨hcr.blk.set_ 0 _, hcr.map.kept hk (fun e => hcr.map.ne_blk hcr.blk e.symm), own_keptB hcr.row hk fun k e e2 => row_ne_blk hcr.row hcr.blk (by decide) e e2, hcr.og, hcr.om, hcr.ow⟩, hk.mono fun k _ e => by rw [hS k e]; simp, fun _ _ => rfl⟩
end
end Go.Proofs.Ytjdjfikeiphgpaa

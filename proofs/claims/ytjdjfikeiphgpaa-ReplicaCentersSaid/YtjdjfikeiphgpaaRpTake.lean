/- replica: (*chooser).take. -/
import Derived.Test.YtjdjfikeiphgpaaRpStep
namespace Go.Proofs.Ytjdjfikeiphgpaa
set_option linter.unusedVariables false
open Go.RowKit
open Go.ChangeMaps (setBlock)

section
variable {w : World} {base bX mS mC : Nat} {sm : List (ByteArray × Si)} {cs : List (ByteArray × Cr)} {out : List ByteArray}
set_option maxHeartbeats 2000000 in
set_option maxRecDepth 100000 in
theorem rtake_in {d h : ByteArray} {c : Cr} {own : Nat → Own} {vo : Value} (hO : ChO w base bX mS mC sm cs out own vo) (hd : aget d cs = some c) (ho : out.length ≤ 100000) (ht : c.tk ≤ 100000) :
    Calls Try.prog 41 #[.pointer (some ⟨bX, 0, none⟩), .pointer (some ⟨c.g, 0, none⟩), .string h] w fun e w' => e = .returned (.tuple #[]) ∧ (∃ own' vo', ChO w' base bX mS mC sm (takeCs d c cs) (takeOut c h out) own' vo' ∧ (∀ k, k < w.heap.size → own' k = own k) ∧ Kept (fun k => own k = .x ∨ k = c.g) w w') := by
  obtain ⟨vw, hcr⟩ := hO.cr (d, c) (aget_mem hd)
  have z0 := hcr.blk.cell 0
  have z1 := hcr.blk.cell 1
  simp only [List.getElem?_toArray, List.getElem?_cons_succ, List.getElem?_cons_zero] at z0 z1
  have f1 := hcr.blk.frozen 1
  have zx := hO.blk.cell 2
  simp only [List.getElem?_toArray, List.getElem?_cons_succ, List.getElem?_cons_zero] at zx
  have hne1 : ¬ bX = c.g := Blk.ne_ hO.blk hcr.blk (by decide)
  have hne2 : ¬ c.g = bX := fun e => hne1 e.symm
  unfold takeCs takeOut
  by_cases hlt : (c.tk : Int) < c.need
  · rw [if_pos hlt, if_pos hlt]
    have hw1 : IntKind.i64.wrap ((c.tk : Int) + 1) = (c.tk : Int) + 1 := by rw [IntKind.wrap_i64]; omega
    obtain ⟨hO1, hk0⟩ := hO.more hd hcr
    have HK0 := Lib.hid hk0
    have hr1 := hO1.row
    have HO1 := Lib.hid hO1
    have HR1 := Lib.hid hr1
    have HLOW := Lib.hid hO.low
    have hsz : (w.setCell ⟨c.g, 1, none⟩ (.int .i64 ((c.tk : Int) + 1))).heap.size = w.heap.size := sz_setCell _ _ _
    have HSZ := Lib.hid hsz
    clear hO hO1 hk0 hcr hd hr1 hsz
    go_enter Try.func41, Try.ntmps41
    go_wp2_with fail
    go_region
    go_wp2_with (at_builtin; go_must (refine wpList_append_sl _ strsT rfl (.tmp 26) (.tmp 28) rfl base _ out.length (out.map Value.string) rfl ((World.ownsRow.alloc HR1.out _).drew) _ 1 [.string h] rfl (Sl.made_at (Blk.drew (Blk.new_at _ 9 #[.string h] HSZ.out.symm)) _ rfl rfl one_max) (by simp [Value.oneCell']) ?c1 ?c2 ?_))
    case c1 => omega
    case c2 =>
      have h1 := HLOW.out
      have h2 := HSZ.out
      simp only [sz_drew, sz_alloc]
      omega
    intro v' w3 hap
    obtain ⟨hb3, hch, hkx⟩ := HO1.out.goes ((Kept.refl noBlock _).alloc _).drew hap
    obtain ⟨A, c', rfl, -, -⟩ := (Sl.of_own hap.own).shape
    have z3 := hb3.cell 2
    have f3 := hb3.frozen 2
    simp only [List.getElem?_toArray, List.getElem?_cons_succ, List.getElem?_cons_zero] at z3
    have HCH := Lib.hid hch
    have HKX := Lib.hid ((HK0.out.mono (T := fun k => own k = .x ∨ k = c.g) fun _ _ e => .inr e).trans hkx (fun _ _ e => .inl e))
    clear hb3 hch hkx hap zx z0 z1 f1
    go_wp2
    go_end0
    exact ⟨rfl, ⟨_, _, HCH.out, fun k hk => ownNew_old (by rw [HSZ.out]; exact hk), HKX.out⟩⟩
  · rw [if_neg hlt, if_neg hlt]
    go_enter Try.func41, Try.ntmps41
    go_wp2_with fail
    go_region
    go_wp2
    go_end0
    exact ⟨rfl, ⟨_, _, hO.kept ((Kept.refl noBlock w).drew) (fun _ h => h.elim), fun _ _ => rfl, (Kept.refl _ w).drew⟩⟩
theorem rtake_at {d h : ByteArray} {c : Cr} {own : Nat → Own} {vo : Value} (hO : ChO w base bX mS mC sm cs out own vo) (hd : aget d cs = some c) (ho : out.length ≤ 100000) (ht : c.tk ≤ 100000) :
    Calls Try.prog 41 #[.pointer (some ⟨bX, 0, none⟩), .pointer (some ⟨c.g, 0, none⟩), .string h] w fun e w' => e = .returned (.tuple #[]) ∧ ∃ own' vo', ChO w' base bX mS mC sm (takeCs d c cs) (takeOut c h out) own' vo' ∧ Step own own' w w' := by
  obtain ⟨vw, hcr⟩ := hO.cr (d, c) (aget_mem hd)
  have hg : own c.g = .c d := hcr.og
  exact (rtake_in hO hd ho ht).mono fun e w' ⟨h1, own', vo', h2, h3, h4⟩ => ⟨h1, own', vo', h2, h4.mono (fun k _ e => by rcases e with e | e <;> simp [e, hg]), h3⟩
end
end Go.Proofs.Ytjdjfikeiphgpaa

/- replica.Network: the walk. -/
import Derived.Test.YtjdjfikeiphgpaaRpNetB
namespace Go.Proofs.Ytjdjfikeiphgpaa
set_option linter.unusedVariables false
open Go.RowKit Go.Shelf
open Go.ChangeMaps (setBlock)
attribute [local go_sem] Oper.semAt_some

set_option maxRecDepth 100000 in
set_option maxHeartbeats 8000000 in
theorem rNetwork_in {w : World} {rv : Value} {t : Int} {l : List ByteArray} {zs : List Si} {fs : List Fa} {A1 A2 : Option Addr} {n1 n2 c1 c2 : Nat} (hn1 : zs.length = n1) (hn2 : fs.length = n2)
    (hs : Lo w w.heap.size 3 (.slice A1 n1 c1) n1 (zs.flatMap sC)) (hf : Lo w w.heap.size 2 (.slice A2 n2 c2) n2 (fs.flatMap fC))
    (hw : ∀ W, Kept noBlock w W → Calls Try.prog 17 #[rv, .int .i64 t] W fun e w' => ∃ v, e = .returned v ∧ w'.ownsRow W.heap.size 9 1 v l.length (l.map Value.string) ∧ Kept noBlock W w')
    (hz : zs.length ≤ 1000) (hfl : fs.length ≤ 1000) (hll : l.length ≤ 200) (hfn : ∀ f ∈ fs, -9223372036854775808 ≤ f.2 ∧ f.2 < 9223372036854775808) :
    CallsIn Fence.wide 6 Try.prog 15 #[rv, .int .i64 t, .slice A1 n1 c1, .slice A2 n2 c2] w fun e w' => NetPost w zs l fs e w' := by
  have cB : ∀ (W : World), CallsIn Fence.wide (6 - 1) Try.prog 28 #[.slice A1 n1 c1] W fun e w' => e = .returned (.func (.func 39) #[] #[.pointer (some ⟨W.heap.size, 0, none⟩)]) ∧ w' = W.alloc (.cells #[.slice A1 n1 c1] 37) := fun W => Backw_in Fence.wide _ trivial rfl _ _ _ W
  have hF : Fence.wide.fn 28 := trivial
  have hmk := @run_makeMap Try.prog
  have HS := Lib.hid hs
  have HF := Lib.hid hf
  have HW := Lib.hid hw
  have HFN := Lib.hid hfn
  clear hs hf hw hfn
  refine callsIn_of_wp_marks Try.func15 rfl trivial ?_ rfl
  simp only [Try.ntmps15, List.size_toArray, List.length_cons, List.length_nil, Nat.reduceAdd, Nat.reduceSub, Array.replicate_succ, Array.replicate_zero, List.push_toArray, List.append_toArray, List.nil_append, List.cons_append]
  gi_wp2_with (gi_at_call 28; refine (cB _).mono ?_; rintro e w' ⟨rfl, rfl⟩)
  obtain ⟨hk0, hz0, hmS, hmC, hbX, hbB, hbs⟩ := net_layout w A1 n1 c1
  have hsl : Lo (netW w A1 n1 c1) w.heap.size 3 (.slice A1 n1 c1) n1 (zs.flatMap sC) := HS.out.keptAll hk0 fun _ _ _ h => h
  have HK0 := Lib.hid hk0
  have HN0 : Hid (w.heap.size = w.heap.size) := Lib.hid rfl
  clear hk0 cB hF
  show Code.wpIn _ _ _ _ _ _ (netW w A1 n1 c1)
  generalize netW w A1 n1 c1 = W0 at *
  generalize hN : w.heap.size = N at *
  have HZ0 := Lib.hid hz0
  have HBB := Lib.hid hbB
  have HBX := Lib.hid hbX
  refine wpIn_rangeFunc_ownH (α := Int × Si) rfl (by decide) (gf := 39) (lb := #[.pointer (some ⟨N + 1 + 1 + 1 + 1, 0, none⟩)]) rfl trivial (enters_of Try.func39 (by kernel_rfl) rfl)
    (Backw_stops Fence.wide (6 - 1) trivial rfl (by decide) (N + 1 + 1 + 1 + 1) N n1 c1 A1 zs hn1 (by omega) W0 (by omega) (by omega) (hbs.cell 0) hsl) backK_t (backK_b (by omega) (by omega)) (Below.refl _ _) (fun _ => rfl)
    (fun pre W => Kept (fun k => k = N) W0 W ∧ SiMap W N (smOf (sitesOf pre)))
    (fun _ _ _ => False)
    (fun s W W' row hs hg hr => ⟨hs.1.grown hg (fun k e hk => absurd hk (by have := (hr k e).1; omega)), hs.2.keep (hg.block N hs.2.lt (fun e => by have := (hr N e.symm).1; omega))⟩)
    (fun _ _ _ _ _ hs _ _ => hs)
    ⟨Kept.refl _ _, hmS⟩
    (fun x a' W => ∃ Bx, W0.heap.size ≤ Bx ∧ Blk W Bx 42 #[.string x.2.1, .string x.2.2.1, .string x.2.2.2] ∧ a' = { tmps := #[rv, .int .i64 t, .slice A1 n1 c1, .slice A2 n2 c2, undef, undef, undef, undef, .slice none 0 0, .int .i64 0, .pointer (some ⟨N + 1 + 1 + 1, 0, none⟩), undef, .pointer (some ⟨Bx, 0, none⟩), undef, undef, undef, undef, undef, undef, undef, undef, undef, undef, undef, undef, undef, .map (some N), .map (some (N + 1)), .agg #[.map (some N), .map (some (N + 1)), .slice none 0 0], .pointer (some ⟨N + 1 + 1, 0, none⟩), .slice A1 n1 c1, .func (.func 39) #[] #[.pointer (some ⟨N + 1 + 1 + 1 + 1, 0, none⟩)], .int .i64 x.1, .agg #[.string x.2.1, .string x.2.2.1, .string x.2.2.2], undef, undef, undef, undef, undef, undef, undef, undef, undef, undef, undef, undef, undef, undef, undef, undef, undef, undef, undef, undef, undef, undef, undef, undef, undef, undef, undef, undef, undef, undef, undef, undef, undef, undef, undef, undef, undef, undef, undef, undef, undef, undef, undef, undef, undef, undef, undef, undef, undef, undef, undef, undef, undef, undef, undef, undef, undef, undef, undef, undef, undef, undef, undef, undef, undef, undef, undef, undef, undef, undef, undef, undef, undef, undef, undef, undef, undef, undef, undef, undef, undef, undef, undef, undef, undef, undef, undef, undef, undef, undef, undef, undef, undef, undef, undef, undef, undef, undef, undef, undef, undef, undef, undef, undef, undef, undef, undef, undef, undef, undef, undef, undef, undef], defers := [] })
    (fun x a' s W W' row hs hg hr => by
      obtain ⟨Bx, h1, h2, h3⟩ := hs
      exact ⟨Bx, h1, h2.grown hg fun r e => (hr r e).2, h3⟩) ?assign ?body ?done ?stop
  case assign =>
    rintro l pre x W K ⟨hk, hm⟩ hK
    have hws := hk.size
    gi_wp2
    exact hK _ _ ((KeepsOthers.alloc _ _).from _) ⟨(Below.refl N W).alloc (by omega) _, by omega, heap_alloc_old W _ (by omega)⟩ ⟨hk.alloc _, hm.alloc _⟩ ⟨W.heap.size, by omega, Blk.new _ _ _, rfl⟩
  case body =>
    rintro l pre x a' W hl ⟨r, hr⟩ ⟨hk, hm⟩ ⟨Bx, hBx, hbx, rfl⟩ hlt
    have hws := hk.size
    have y0 := (HBB.out.kept hk (fun e => by omega)).cell 0
    have y1 := (HBX.out.kept hk (fun e => by omega)).cell 0
    have y2 := hbx.cell 0
    have y3 := hbx.cell 1
    have y4 := hbx.cell 2
    simp only [List.getElem?_toArray, List.getElem?_cons_succ, List.getElem?_cons_zero] at y0 y1 y2 y3 y4
    obtain ⟨es, ck, hup, hm2⟩ := hm.drew.run_update (P := Try.prog) string_emb msiM strU x.2.1 x.2
    have hk2 : Kept (fun k => k = N) W0 (setBlock W.drew N (.map es ck)) := hk.drew.setBlock (m := N) (fun _ => rfl) _
    have hkw : KeepsFrom W0.heap.size W (setBlock W.drew N (.map es ck)) := ⟨by rw [size_setBlock]; exact Nat.le_refl _, fun k o hB hk _ => (heap_setBlock W.drew N _ k (by omega)).trans hk⟩
    have hbk : BackK N (N + 1 + 1 + 1 + 1) W (setBlock W.drew N (.map es ck)) :=
      ⟨(((Kept.refl (fun k => k = N) W).drew.setBlock (m := N) (fun _ => rfl) (.map es ck)).below (B := N) (by omega) (fun k _ e => by omega)), by omega, heap_setBlock W.drew N _ _ (by omega)⟩
    have hm3 : SiMap (setBlock W.drew N (.map es ck)) N (smOf (sitesOf (pre ++ [x]))) := by
      have e : sitesOf (pre ++ [x]) = sitesOf pre ++ [x.2] := by simp [sitesOf]
      rw [e, smOf_append]
      exact hm2
    have FIN := Lib.hid (⟨hkw, hbk, hk2, hm3⟩ : KeepsFrom W0.heap.size W (setBlock W.drew N (.map es ck)) ∧ BackK N (N + 1 + 1 + 1 + 1) W (setBlock W.drew N (.map es ck)) ∧ Kept (fun k => k = N) W0 (setBlock W.drew N (.map es ck)) ∧ SiMap (setBlock W.drew N (.map es ck)) N (smOf (sitesOf (pre ++ [x]))))
    unfold sV at hup
    clear hkw hbk hk2 hm3 hm2 hk hm hbx HS HF HW HFN HK0 hsl hmS hmC hbX hbB hbs
    gi_wp2
    apply once
    apply Exists.intro
    apply And.intro
    · intro key
      gi_region
      all_goals exact key
    gi_wp2
    exact FIN.out
  case stop =>
    rintro D c pre W _ _ h _
    exact h.elim
  case done =>
    rename_i Q' K hKK
    intro D xs W hD hxs hkm hdef
    obtain ⟨hk, hm⟩ := hkm
    rw [hxs] at hm
    have hkW : Kept noBlock w W := HK0.out.trans hk (fun k h e => by omega)
    refine hKK _ _ (wpIn_wide.2 ?_)
    exact net_rest hn2 hN (hN.symm ▸ HF.out) HW.out hfl hll HFN.out hkW (by omega) hdef hm (hmC.kept hk (by omega)) (HBX.out.kept hk (by omega)) (HBB.out.kept hk (by omega)) _ (by kernel_rfl)
end Go.Proofs.Ytjdjfikeiphgpaa

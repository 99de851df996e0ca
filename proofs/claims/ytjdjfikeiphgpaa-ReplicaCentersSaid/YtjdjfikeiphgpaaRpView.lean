/- replica.Network and the document's, as the laws see them: both hand back the same. -/
import Derived.Test.YtjdjfikeiphgpaaRpNet
import Derived.Test.YtjdjfikeiphgpaaR4Net
import Derived.Test.YtjdjfikeiphgpaaRpSimple
import Derived.Test.YtjdjfikeiphgpaaRgView0
namespace Go.Proofs.Ytjdjfikeiphgpaa
set_option linter.unusedVariables false
open Go.RowKit

theorem sC_eq : sC = s4C := rfl
theorem sm_site (zs : List Si) (h : ByteArray) : aget h (smOf zs.reverse) = siteOf zs h := smOf_get h zs
theorem sites_eq (zs : List Si) (l : List ByteArray) : sitesW (smOf zs.reverse) l = sitesOfL zs l := by
  unfold sitesW sitesOfL
  congr 1
  funext h
  exact sm_site zs h
theorem net_out {zs : List Si} {l : List ByteArray} {fs : List Fa} {out : List ByteArray} (h : NetOut (smOf zs.reverse) l fs out) (hn : (fs.map (·.1)).Nodup) : out = refOut (sitesOfL zs l) fs ∧ ∃ cs, (∀ d n, (d, n) ∈ fs → ∃ g mr, aget d cs = some (cen0 g mr n (ofDc d (sitesOfL zs l)))) ∧ (∀ d, d ∉ fs.map (·.1) → aget d cs = none) ∧ out = (runT cs (sitesOfL zs l)).flatMap (·.2) := by
  obtain ⟨cs, hf, rfl⟩ := h
  have h1 : ∀ d n, (d, n) ∈ fs → ∃ g mr, aget d (needAll fs (countAll (smOf zs.reverse) l cs)) = some (cen0 g mr n (ofDc d (sitesOfL zs l))) := fun d n hd => by
    rw [← sites_eq]; exact start_get hf hn hd
  have h2 : ∀ d, d ∉ fs.map (·.1) → aget d (needAll fs (countAll (smOf zs.reverse) l cs)) = none := fun d hd => start_none hf hd
  have h3 := hostAll_run (sm := smOf zs.reverse) (fun h s e => smOf_key zs e) l (needAll fs (countAll (smOf zs.reverse) l cs)) []
  rw [List.nil_append, sites_eq] at h3
  have h4 : (hostAll (smOf zs.reverse) l (needAll fs (countAll (smOf zs.reverse) l cs))).2 = (runT (needAll fs (countAll (smOf zs.reverse) l cs)) (sitesOfL zs l)).flatMap (·.2) := h3
  exact ⟨h4.trans (run_ref hn h1 h2), _, h1, h2, h4⟩
/-- What both hand back. -/
def NetV (w : World) (zs : List Si) (l : List ByteArray) (fs : List Fa) (e : Ending) (w' : World) : Prop :=
  Kept noBlock w w' ∧ (((¬ (fs.map (·.1)).Nodup ∨ ∃ h ∈ l, siteOf zs h = none) ∧ e = .returned (.tuple #[.slice none 0 0, .int .i64 1])) ∨
    ((fs.map (·.1)).Nodup ∧ (∀ h ∈ l, ∃ s, siteOf zs h = some s) ∧ ∃ A n c out, e = .returned (.tuple #[.slice A n c, .int .i64 0]) ∧ n = out.length ∧ n ≤ 40200 ∧ Sl w' 9 1 (.slice A n c) n (out.map Value.string) ∧
      out = refOut (sitesOfL zs l) fs ∧ ∃ cs, (∀ d n, (d, n) ∈ fs → ∃ g mr, aget d cs = some (cen0 g mr n (ofDc d (sitesOfL zs l)))) ∧ (∀ d, d ∉ fs.map (·.1) → aget d cs = none) ∧ out = (runT cs (sitesOfL zs l)).flatMap (·.2)))
section
variable {w : World} {p : Option Addr} {S : List Pl} {t : Int} {ok ok2 : Nat → TypeId → Prop} {vs vf : Value} {zs : List Si} {fs : List Fa}
theorem rwalk_len (S : List Pl) (t : Int) : (rwalk S t).length ≤ S.length := by
  have := uniq_len ((turned S t).map (·.2)) []
  rw [List.length_map, (turned_perm S t).length_eq] at this
  unfold rwalk
  simpa using this
theorem Network_view (h : RV w p S) (hr : rising S) (hS : S.length ≤ 200) (hs : SlK w ok 3 vs zs.length (zs.flatMap sC)) (hf : SlK w ok2 2 vf fs.length (fs.flatMap fC)) (hz : zs.length ≤ 1000) (hfl : fs.length ≤ 1000) (hfn : ∀ f ∈ fs, -9223372036854775808 ≤ f.2 ∧ f.2 < 9223372036854775808) :
    Calls Try.prog 15 #[.pointer p, .int .i64 t, vs, vf] w fun e w' => NetV w zs (rwalk S t) fs e w' := by
  obtain ⟨A1, c1, rfl, -, -⟩ := hs.shape
  obtain ⟨A2, c2, rfl, -, -⟩ := hf.shape
  have hl : (rwalk S t).length ≤ 200 := Nat.le_trans (rwalk_len S t) hS
  have hw : ∀ W, Kept noBlock w W → Calls Try.prog 17 #[.pointer p, .int .i64 t] W fun e w' => ∃ v, e = .returned v ∧ w'.ownsRow W.heap.size 9 1 v (rwalk S t).length ((rwalk S t).map Value.string) ∧ Kept noBlock W w' := by
    intro W hk
    rcases h with ⟨rfl, rfl⟩ | ⟨g, rfl, h⟩
    · refine (RwalkN_at t W).mono ?_
      rintro e w' ⟨rfl, rfl⟩
      exact ⟨_, rfl, World.ownsRow_nil _ _ _ _, Kept.refl _ _⟩
    · exact Rwalk_own (h.kept hk) hr (by omega)
  refine (callsIn_wide.1 (rNetwork_in rfl rfl hs.lo hf.lo hw hz hfl hl hfn)).mono ?_
  rintro e w' ⟨hk, ⟨h1, h2⟩ | ⟨h1, h2, out, v, h3, h4, h5, h6⟩⟩
  · refine ⟨hk, .inl ⟨h1.imp id fun ⟨x, hx, e⟩ => ⟨x, hx, by rw [← sm_site]; exact e⟩, h2⟩⟩
  · obtain ⟨A, c, rfl, -, -⟩ := h5.shape
    obtain ⟨g1, g2⟩ := net_out h3 h1
    exact ⟨hk, .inr ⟨h1, fun x hx => by rw [← sm_site]; exact h2 x hx, A, _, c, out, h4, rfl, h6, h5, g1, g2⟩⟩
end
end Go.Proofs.Ytjdjfikeiphgpaa

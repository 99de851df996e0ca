/- ReplicaMany: of a center of one rack the first hosts of the walk are taken; of as many racks as hosts, too; simply, likewise: it answers true. -/
import Derived.Test.YtjdjfikeiphgpaaRpAwake
import Derived.Test.YtjdjfikeiphgpaaRgSame
namespace Go.Proofs.Ytjdjfikeiphgpaa
set_option linter.unusedVariables false
open Go.RowKit

def rackM (racks : Bool) (h : ByteArray) : ByteArray := if racks then h else rp1
def siteM (racks : Bool) (p : Pl) : Si := (p.2, rpD, rackM racks p.2)
theorem many_site {racks : Bool} {h : ByteArray} : ∀ {l : List Pl}, h ∈ l.map (·.2) → siteOf (l.map (siteM racks)) h = some (h, rpD, rackM racks h)
  | [], hh => by simp at hh
  | p :: l, hh => by
    unfold siteOf
    rw [List.map_cons, List.find?_cons]
    by_cases e : p.2 = h
    · subst e; simp [siteM]
    · have : h ∈ l.map (·.2) := by
        rcases List.mem_cons.1 hh with h1 | h1
        · exact absurd h1.symm e
        · exact h1
      have ih := many_site (racks := racks) this
      unfold siteOf at ih
      rw [show decide ((siteM racks p).1 = h) = false from decide_eq_false e]
      exact ih
theorem many_sites {racks : Bool} {l : List Pl} : ∀ {r : List ByteArray}, (∀ h ∈ r, h ∈ l.map (·.2)) → sitesOfL (l.map (siteM racks)) r = r.map fun h => (h, rpD, rackM racks h)
  | [], _ => rfl
  | h :: r, hh => by
    unfold sitesOfL
    rw [List.filterMap_cons, many_site (hh h (List.mem_cons_self ..))]
    simp only [List.map_cons]
    congr 1
    exact many_sites fun x hx => hh x (List.mem_cons_of_mem _ hx)
theorem many_out {racks : Bool} {r : List ByteArray} {n : Int} (hr : r.Nodup) : outOf n (ofDc rpD (r.map fun h => (h, rpD, rackM racks h))) = r.take n.toNat := by
  have e1 : ofDc rpD (r.map fun h => (h, rpD, rackM racks h)) = r.map fun h => (h, rpD, rackM racks h) := by
    unfold ofDc
    rw [List.filter_eq_self]
    intro s hs
    obtain ⟨h, _, rfl⟩ := List.mem_map.1 hs
    simp
  have e2 : (r.map fun h => ((h, rpD, rackM racks h) : Si)).map (·.1) = r := by rw [List.map_map]; exact List.map_id _
  rw [e1, out_many ?_, e2]
  cases racks with
  | false =>
    refine .inl ⟨rp1, fun s hs => ?_⟩
    obtain ⟨h, _, rfl⟩ := List.mem_map.1 hs
    rfl
  | true =>
    refine .inr ⟨fun s hs => ?_, by rw [e2]; exact hr⟩
    obtain ⟨h, _, rfl⟩ := List.mem_map.1 hs
    rfl
theorem take_k {α : Type} {r : List α} {n : Int} (h0 : 0 ≤ n) : r.take n.toNat = r.take (max (min n (r.length : Int)) 0).toNat := by
  by_cases h : n ≤ (r.length : Int)
  · have : (max (min n (r.length : Int)) 0).toNat = n.toNat := by omega
    rw [this]
  · rw [List.take_of_length_le (by omega), List.take_of_length_le (by omega)]
theorem siteM_step {racks : Bool} {l : List Pl} {i : Nat} {p : Pl} (h : l[i]? = some p) : ((l.take (i + 1)).map (siteM racks)).flatMap sC = ((l.take i).map (siteM racks)).flatMap sC ++ [.string p.2, .string rpD, .string (rackM racks p.2)] := by
  rw [List.take_add_one, h, List.map_append, List.flatMap_append]; rfl

set_option maxHeartbeats 4000000 in
set_option maxRecDepth 100000 in
theorem Many_walk (vv : Value) (l : List Pl) (t n : Int) (racks : Bool) (w : World) (hv : Lo w w.heap.size 2 vv l.length (l.flatMap pC)) :
    Calls Try.prog 6 #[vv, .int .i64 t, .int .i64 n, .bool racks] w fun e w' => e = .returned (.bool true) ∧ Kept noBlock w w' := by
  obtain ⟨A, cap, rfl, -, hcap⟩ := hv.shape
  have hlen := hv.run_len psT
  have HV := Lib.hid hv
  have hbl : l.length ≤ 9223372036854775807 := by
    obtain ⟨_, A', c', e, h1, h2, _⟩ := hv
    unfold maxLen at h2; omega
  clear hv
  go_enter Try.func6, Try.ntmps6
  go_wp2_with fail
  go_at_call 8
  refine (aw14_at w).mono ?_
  rintro e w1 ⟨rfl, hk1⟩
  have HV1 := Lib.hid (SlK.keptNone HV.out hk1)
  have HK1 := Lib.hid hk1
  clear hk1 HV
  by_cases h30 : 30 < l.length
  · go_wp2
    go_ret
    exact ⟨rfl, HK1.out⟩
  by_cases h0 : n < 0
  · go_wp2
    go_ret
    exact ⟨rfl, HK1.out⟩
  by_cases h100 : 100 < n
  · go_wp2
    go_ret
    exact ⟨rfl, HK1.out⟩
  go_wp2_with fail
  go_at_call 9
  refine (Rnew_view HV1.out (by omega)).mono ?_
  rintro e w2 ⟨p, code, S, rfl, hrs, hrv, -, hk2⟩
  have HV2 := Lib.hid (SlK.keptNone HV1.out hk2)
  have HK2 := Lib.hid (HK1.out.trans hk2 (fun _ _ h => h))
  have HRV := Lib.hid hrv
  have hsl := hrs.len
  have HRI := Lib.hid hrs.rising
  rcases hrs with ⟨-, rfl, -⟩ | ⟨-, -, rfl, -⟩ | ⟨hS, rfl⟩
  · clear hk2 hrv HV1 HK1
    go_wp2
    go_ret
    exact ⟨rfl, HK2.out⟩
  · clear hk2 hrv HV1 HK1
    go_wp2
    go_ret
    exact ⟨rfl, HK2.out⟩
  have hmem : ∀ h ∈ rwalk S t, h ∈ l.map (·.2) := fun h hh => ((hS.1.map (·.2)).mem_iff).1 ((rwalk_mem S t h).1 hh)
  have HMEM := Lib.hid hmem
  clear hk2 hrv HV1 HK1 hS hmem
  go_wp2_with fail
  go_loopg [12, 13] l.length (fun j vo vi wr => ∃ i : Nat, i + j = l.length ∧ vi = .int .i64 i ∧ wr.ownsRow w2.heap.size 42 3 vo i (((l.take i).map (siteM racks)).flatMap sC) ∧ Kept noBlock w2 wr)
  case atStart => exact ⟨0, by omega, rfl, World.ownsRow_nil _ _ _ _, Kept.refl _ _⟩
  case round =>
    obtain ⟨i, hij, rfl, hown, hk⟩ := hrel
    have HIJ := Lib.hid hij
    have HO := Lib.hid hown
    have HK := Lib.hid hk
    have hz := hk.size
    by_cases hlt : i < l.length
    · obtain ⟨pl, hp⟩ : ∃ p, l[i]? = some p := ⟨_, List.getElem?_eq_getElem hlt⟩
      obtain ⟨g, off, hidx, hgl, -, hc1⟩ := p_at (SlK.keptNone HV2.out hk) psT hp
      have HNX := Lib.hid (siteM_step (racks := racks) hp)
      obtain ⟨p1, p2⟩ := pl
      simp only at hc1
      clear hij hown hk hp
      cases racks with
      | false =>
        go_wp2_with (at_builtin; go_must (refine wpList_append_sl _ sitesT rfl (.tmp 50) (.tmp 58) rfl w2.heap.size _ i (((l.take i).map (siteM false)).flatMap sC) rfl (HO.out.alloc _) _ 1 [.string p2, .string rpD, .string rp1] rfl (Sl.made_at (Blk.new_at _ 42 #[.string p2, .string rpD, .string rp1] rfl) _ rfl rfl one_max) (by simp [Value.oneCell']) ?c1 ?c2 ?_))
        case c1 => omega
        case c2 => first | omega | (simp only [sz_alloc]; omega)
        intro v' w5 hap
        have HK5 := Lib.hid (hap.below (HO.out.alloc _) (HK.out.alloc _) (Nat.le_refl _))
        have HO5 := Lib.hid hap.own
        clear hap
        go_wp2
        go_roundg (l.length - (i + 1))
        case measure => have := HIJ.out; omega
        case rel =>
          refine ⟨i + 1, by have := HIJ.out; omega, by go_num, ?_, HK5.out⟩
          rw [HNX.out, List.map_take]; exact HO5.out
      | true =>
        go_wp2_with (at_builtin; go_must (refine wpList_append_sl _ sitesT rfl (.tmp 50) (.tmp 58) rfl w2.heap.size _ i (((l.take i).map (siteM true)).flatMap sC) rfl (HO.out.alloc _) _ 1 [.string p2, .string rpD, .string p2] rfl (Sl.made_at (Blk.new_at _ 42 #[.string p2, .string rpD, .string p2] rfl) _ rfl rfl one_max) (by simp [Value.oneCell']) ?c1 ?c2 ?_))
        case c1 => omega
        case c2 => first | omega | (simp only [sz_alloc]; omega)
        intro v' w5 hap
        have HK5 := Lib.hid (hap.below (HO.out.alloc _) (HK.out.alloc _) (Nat.le_refl _))
        have HO5 := Lib.hid hap.own
        clear hap
        go_wp2
        go_roundg (l.length - (i + 1))
        case measure => have := HIJ.out; omega
        case rel =>
          refine ⟨i + 1, by have := HIJ.out; omega, by go_num, ?_, HK5.out⟩
          rw [HNX.out, List.map_take]; exact HO5.out
    · obtain rfl : i = l.length := by omega
      rw [List.take_length] at hown
      have hs5 := Sl.of_own hown
      obtain ⟨A5, c5, rfl, -, -⟩ := hs5.shape
      have hka : Kept noBlock wr (wr.alloc (.cells #[.string rpD, .int .i64 n] 45)) := (Kept.refl noBlock wr).alloc _
      have hsz : (l.map (siteM racks)).length = l.length := List.length_map ..
      have HNV := Lib.hid (Network_view (t := t) (w := wr.alloc (.cells #[.string rpD, .int .i64 n] 45)) (zs := l.map (siteM racks)) (fs := [(rpD, n)]) ((HRV.out.kept hk).kept hka) HRI.out (by omega) (by rw [hsz]; exact SlK.keptNone hs5 hka)
        (Sl.made_at (e := 45) (n := 1) (Blk.new_at wr 45 #[.string rpD, .int .i64 n] rfl) _ rfl rfl one_max) (by omega) (by simp) (by intro f hf; obtain rfl := List.mem_singleton.1 hf; show -9223372036854775808 ≤ n ∧ n < _; omega))
      have HRV5 := Lib.hid ((HRV.out.kept hk).kept hka)
      have HK5 := Lib.hid ((HK2.out.trans hk (fun _ _ h => h)).trans hka (fun _ _ h => h))
      clear hij hown hk hs5 hz HO HK HIJ HRV HV2 hka hsz
      go_wp2_with fail
      go_at_call 15
      refine HNV.out.mono ?_
      rintro e w7 ⟨hk7, ⟨h1, -⟩ | ⟨-, -, A7, n7, c7, out, rfl, hn7, -, hs7, -, cs', hc1, hc2, hout⟩⟩
      · exfalso
        rcases h1 with h5 | ⟨x, hx, h5⟩
        · exact h5 (by simp)
        · rw [many_site (HMEM.out x hx)] at h5; cases h5
      obtain ⟨ge, mr, hcd⟩ := hc1 rpD n (List.mem_singleton.2 rfl)
      have ho : out = (rwalk S t).take (max (min n ((rwalk S t).length : Int)) 0).toNat := by
        rw [hout, out_one hcd fun x hx => hc2 x (by simpa using hx), many_sites HMEM.out, many_out (rwalk_nodup S t), take_k (by omega)]
      have HO := Lib.hid ho
      have HS7 := Lib.hid hs7
      have HN7 := Lib.hid hn7
      have hrl := rwalk_len S t
      have HSI := Lib.hid (rSimple_in (w := w7) (n := n) (t := t) (l := rwalk S t) (by omega) rfl ((Rwalk_view (t := t) (HRV5.out.kept hk7) HRI.out (by omega)).mono fun e w' ⟨A, c, h1, h2, h3⟩ => ⟨_, h1, h2, h3⟩))
      have HK7 := Lib.hid (HK5.out.trans hk7 (fun _ _ h => h))
      clear hk7 hs7 hn7 hc1 hc2 hout hcd ho
      go_wp2_with fail
      go_at_call 13
      refine HSI.out.mono ?_
      rintro e w8 ⟨v8, rfl, hs8, hk8⟩
      have hol : out.length = (max (min n ((rwalk S t).length : Int)) 0).toNat := by rw [HO.out, List.length_take]; omega
      rw [← HO.out, ← hol] at hs8
      have HSM := Lib.hid (same_at (w := w8) (l := out) (by rw [← HN7.out]; exact SlK.keptNone HS7.out hk8) hs8 (by omega))
      have HK8 := Lib.hid (HK7.out.trans hk8 (fun _ _ h => h))
      clear hk8 hs8 hol
      go_wp2_with fail
      go_at_call 12
      refine HSM.out.mono ?_
      rintro e w9 ⟨rfl, nq, rfl⟩
      go_wp2
      go_ret
      exact ⟨rfl, HK8.out.trans ((Kept.refl noBlock w8).drewN nq) (fun _ _ h => h)⟩
end Go.Proofs.Ytjdjfikeiphgpaa

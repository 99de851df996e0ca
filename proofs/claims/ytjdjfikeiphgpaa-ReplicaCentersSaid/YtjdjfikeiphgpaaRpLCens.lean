/- ReplicaCenters: what one center has does not hang on the others: the hosts of both, but for those of one, are those of the other one alone: it answers true. -/
import Derived.Test.YtjdjfikeiphgpaaRpAwake
import Derived.Test.YtjdjfikeiphgpaaRgSame
namespace Go.Proofs.Ytjdjfikeiphgpaa
set_option linter.unusedVariables false
open Go.RowKit

abbrev rpX : ByteArray := ⟨#[120]⟩
theorem cens_two {zs : List Si} {l : List ByteArray} {n m : Int} {a b c : List ByteArray} {cs : List (ByteArray × Cr)} {cb cc : List (ByteArray × Cr)}
    (ha1 : ∀ d k, (d, k) ∈ [(rpD, n), (rpX, m)] → ∃ g mr, aget d cs = some (cen0 g mr k (ofDc d (sitesOfL zs l)))) (ha2 : ∀ d, d ∉ [(rpD, n), (rpX, m)].map (·.1) → aget d cs = none) (ha : a = (runT cs (sitesOfL zs l)).flatMap (·.2))
    (hb1 : ∀ d k, (d, k) ∈ [(rpD, n)] → ∃ g mr, aget d cb = some (cen0 g mr k (ofDc d (sitesOfL zs l)))) (hb2 : ∀ d, d ∉ [(rpD, n)].map (·.1) → aget d cb = none) (hb : b = (runT cb (sitesOfL zs l)).flatMap (·.2))
    (hc1 : ∀ d k, (d, k) ∈ [(rpX, m)] → ∃ g mr, aget d cc = some (cen0 g mr k (ofDc d (sitesOfL zs l)))) (hc2 : ∀ d, d ∉ [(rpX, m)].map (·.1) → aget d cc = none) (hc : c = (runT cc (sitesOfL zs l)).flatMap (·.2)) :
    a.filter (has b) = b ∧ a.filter (fun h => !has b h) = c := by
  obtain ⟨g1, m1, e1⟩ := ha1 rpD n (by simp)
  obtain ⟨g2, m2, e2⟩ := ha1 rpX m (by simp)
  obtain ⟨g3, m3, e3⟩ := hb1 rpD n (by simp)
  obtain ⟨g4, m4, e4⟩ := hc1 rpX m (by simp)
  have eb : b = outOf n (ofDc rpD (sitesOfL zs l)) := by rw [hb]; exact out_one e3 fun x hx => hb2 x (by simpa using hx)
  have ec : c = outOf m (ofDc rpX (sitesOfL zs l)) := by rw [hc]; exact out_one e4 fun x hx => hc2 x (by simpa using hx)
  have := out_two (T := sitesOfL zs l) (cs := cs) (d := rpD) (x := rpX) (n := n) (m := m) (by decide) e1 e2 (fun y h1 h2 => ha2 y (by simp [h1, h2])) (fun s hs s' hs' e => by
    have h1 := sitesOfL_mem s hs
    have h2 := sitesOfL_mem s' hs'
    rw [e, h2] at h1
    exact (Option.some.inj h1).symm)
  rw [ha, eb, ec]
  exact this
theorem filt1 {P : ByteArray → Bool} {a : List ByteArray} {i : Nat} {x : ByteArray} (h : a[i]? = some x) : (a.take (i + 1)).filter P = if P x then (a.take i).filter P ++ [x] else (a.take i).filter P := by
  rw [List.take_add_one, h, List.filter_append]
  by_cases e : P x = true <;> simp [e]

set_option maxHeartbeats 4000000 in
set_option maxRecDepth 100000 in
theorem Cens_walk (vv vs : Value) (l : List Pl) (t n m : Int) (zs : List Si) (w : World) (hv : Lo w w.heap.size 2 vv l.length (l.flatMap pC)) (hs : Lo w w.heap.size 3 vs zs.length (zs.flatMap sC)) (hn : -9223372036854775808 ≤ n ∧ n < 9223372036854775808) (hm : -9223372036854775808 ≤ m ∧ m < 9223372036854775808) :
    Calls Try.prog 7 #[vv, .int .i64 t, vs, .int .i64 n, .int .i64 m] w fun e w' => e = .returned (.bool true) ∧ Kept noBlock w w' := by
  obtain ⟨A, cap, rfl, -, hcap⟩ := hv.shape
  obtain ⟨As, cs, rfl, -, -⟩ := hs.shape
  have hlen := hv.run_len psT
  have hlens := hs.run_len sitesT
  have HV := Lib.hid hv
  have HS := Lib.hid hs
  have HN := Lib.hid hn
  have HM := Lib.hid hm
  have hbl : l.length ≤ 9223372036854775807 ∧ zs.length ≤ 9223372036854775807 := by
    obtain ⟨_, A', c', e, h1, h2, _⟩ := hv
    obtain ⟨_, A', c', e, h3, h4, _⟩ := hs
    unfold maxLen at h2 h4; omega
  obtain ⟨hb1, hb2⟩ := hbl
  clear hv hs hn hm
  go_enter Try.func7, Try.ntmps7
  go_wp2_with fail
  go_at_call 8
  refine (aw14_at w).mono ?_
  rintro e w1 ⟨rfl, hk1⟩
  have HV1 := Lib.hid (SlK.keptNone HV.out hk1)
  have HS1 := Lib.hid (SlK.keptNone HS.out hk1)
  have HK1 := Lib.hid hk1
  clear hk1 HV HS
  by_cases h30 : 30 < l.length
  · go_wp2
    go_ret
    exact ⟨rfl, HK1.out⟩
  by_cases h31 : 30 < zs.length
  · go_wp2
    go_ret
    exact ⟨rfl, HK1.out⟩
  go_wp2_with fail
  go_at_call 9
  refine (Rnew_view HV1.out (by omega)).mono ?_
  rintro e w2 ⟨p, code, S, rfl, hrs, hrv, -, hk2⟩
  have HS2 := Lib.hid (SlK.keptNone HS1.out hk2)
  have HK2 := Lib.hid (HK1.out.trans hk2 (fun _ _ h => h))
  have HRV := Lib.hid hrv
  have hsl := hrs.len
  have HRI := Lib.hid hrs.rising
  have hcode : code = 0 ∨ code = 1 ∨ code = 11 := by
    rcases hrs with ⟨-, rfl, -⟩ | ⟨-, -, rfl, -⟩ | ⟨-, rfl⟩ <;> simp
  clear hk2 hrs hrv HV1 HK1 HS1
  -- both
  have hka : Kept noBlock w2 (w2.alloc (.cells #[.string rpD, .int .i64 n, .string rpX, .int .i64 m] 45)) := (Kept.refl noBlock w2).alloc _
  have HNA := Lib.hid (Network_view (t := t) (w := w2.alloc (.cells #[.string rpD, .int .i64 n, .string rpX, .int .i64 m] 45)) (zs := zs) (fs := [(rpD, n), (rpX, m)]) (HRV.out.kept hka) HRI.out (by omega) (SlK.keptNone HS2.out hka)
    (Sl.made_at (e := 45) (n := 2) (Blk.new_at w2 45 #[.string rpD, .int .i64 n, .string rpX, .int .i64 m] rfl) _ rfl rfl (by decide)) (by omega) (by simp) (by
      intro f hf
      rcases List.mem_cons.1 hf with rfl | hf
      · exact HN.out
      · obtain rfl := List.mem_singleton.1 hf; exact HM.out))
  have HKA := Lib.hid hka
  clear hka
  go_wp2_with fail
  go_at_call 15
  refine HNA.out.mono ?_
  rintro e w3 ⟨hk3, hna⟩
  have hk3' := HKA.out.trans hk3 (fun _ _ h => h)
  have HS3 := Lib.hid (SlK.keptNone HS2.out hk3')
  have HRV3 := Lib.hid (HRV.out.kept hk3')
  have HK3 := Lib.hid (HK2.out.trans hk3' (fun _ _ h => h))
  clear hk3 hk3' HKA HS2 HRV HK2 HNA
  have hkb : Kept noBlock w3 (w3.alloc (.cells #[.string rpD, .int .i64 n] 45)) := (Kept.refl noBlock w3).alloc _
  have HNB := Lib.hid (Network_view (t := t) (w := w3.alloc (.cells #[.string rpD, .int .i64 n] 45)) (zs := zs) (fs := [(rpD, n)]) (HRV3.out.kept hkb) HRI.out (by omega) (SlK.keptNone HS3.out hkb)
    (Sl.made_at (e := 45) (n := 1) (Blk.new_at w3 45 #[.string rpD, .int .i64 n] rfl) _ rfl rfl (by decide)) (by omega) (by simp) (by
      intro f hf
      obtain rfl := List.mem_singleton.1 hf; exact HN.out))
  have HKB := Lib.hid hkb
  clear hkb
  have hmiss : ∀ fs : List Fa, (fs.map (·.1)).Nodup → ((∃ h ∈ rwalk S t, siteOf zs h = none) ∨ ∀ h ∈ rwalk S t, ∃ s, siteOf zs h = some s) → True := fun _ _ _ => trivial
  clear hmiss
  rcases hna with ⟨h1, rfl⟩ | ⟨-, hall, A3, n3, c3, a, rfl, hn3, hn3b, hs3, -, cs3, ha1, ha2, ha⟩
  · have h1' : ∃ h ∈ rwalk S t, siteOf zs h = none := h1.resolve_left fun h => h (by
      show [rpD, rpX].Nodup
      decide)
    have H1 := Lib.hid h1'
    clear h1 h1'
    go_wp2_with fail
    go_at_call 15
    refine HNB.out.mono ?_
    rintro e w4 ⟨hk4, hnb⟩
    have hk4' := HKB.out.trans hk4 (fun _ _ h => h)
    rcases hnb with ⟨-, rfl⟩ | ⟨-, hall, -⟩
    case inr =>
      obtain ⟨x, hx, h5⟩ := H1.out
      obtain ⟨s, h6⟩ := hall x hx
      rw [h6] at h5; cases h5
    have hkc : Kept noBlock w4 (w4.alloc (.cells #[.string rpX, .int .i64 m] 45)) := (Kept.refl noBlock w4).alloc _
    have HNC := Lib.hid (Network_view (t := t) (w := w4.alloc (.cells #[.string rpX, .int .i64 m] 45)) (zs := zs) (fs := [(rpX, m)]) ((HRV3.out.kept hk4').kept hkc) HRI.out (by omega) (SlK.keptNone (SlK.keptNone HS3.out hk4') hkc)
      (Sl.made_at (e := 45) (n := 1) (Blk.new_at w4 45 #[.string rpX, .int .i64 m] rfl) _ rfl rfl (by decide)) (by omega) (by simp) (by
        intro f hf
        obtain rfl := List.mem_singleton.1 hf; exact HM.out))
    have HK4 := Lib.hid ((HK3.out.trans hk4' (fun _ _ h => h)).trans hkc (fun _ _ h => h))
    clear hk4 hk4' hkc HKB HNB HRV3 HS3 HK3
    go_wp2_with fail
    go_at_call 15
    refine HNC.out.mono ?_
    rintro e w5 ⟨hk5, hnc⟩
    have HK5 := Lib.hid (HK4.out.trans hk5 (fun _ _ h => h))
    rcases hnc with ⟨-, rfl⟩ | ⟨-, hall, -⟩
    case inr =>
      obtain ⟨x, hx, h5⟩ := H1.out
      obtain ⟨s, h6⟩ := hall x hx
      rw [h6] at h5; cases h5
    clear hk5 HNC
    rcases hcode with rfl | rfl | rfl
    · go_wp2
      go_ret
      exact ⟨rfl, HK5.out⟩
    · go_wp2
      go_ret
      exact ⟨rfl, HK5.out⟩
    · go_wp2
      go_ret
      exact ⟨rfl, HK5.out⟩
  · have HALL := Lib.hid hall
    have HSA := Lib.hid hs3
    have HNA3 := Lib.hid hn3
    have HA1 := Lib.hid ha1
    have HA2 := Lib.hid ha2
    have HA := Lib.hid ha
    clear hall hs3 hn3 ha1 ha2 ha
    go_wp2_with fail
    go_at_call 15
    refine HNB.out.mono ?_
    rintro e w4 ⟨hk4, hnb⟩
    have hk4' := HKB.out.trans hk4 (fun _ _ h => h)
    rcases hnb with ⟨h1, -⟩ | ⟨-, -, A4, n4, c4, b, rfl, hn4, hn4b, hs4, -, cs4, hb1', hb2', hb⟩
    · exfalso
      rcases h1 with h5 | ⟨x, hx, h5⟩
      · exact h5 (by simp)
      · obtain ⟨s, h6⟩ := HALL.out x hx
        rw [h6] at h5; cases h5
    have hkc : Kept noBlock w4 (w4.alloc (.cells #[.string rpX, .int .i64 m] 45)) := (Kept.refl noBlock w4).alloc _
    have HNC := Lib.hid (Network_view (t := t) (w := w4.alloc (.cells #[.string rpX, .int .i64 m] 45)) (zs := zs) (fs := [(rpX, m)]) ((HRV3.out.kept hk4').kept hkc) HRI.out (by omega) (SlK.keptNone (SlK.keptNone HS3.out hk4') hkc)
      (Sl.made_at (e := 45) (n := 1) (Blk.new_at w4 45 #[.string rpX, .int .i64 m] rfl) _ rfl rfl (by decide)) (by omega) (by simp) (by
        intro f hf
        obtain rfl := List.mem_singleton.1 hf; exact HM.out))
    have HK4 := Lib.hid ((HK3.out.trans hk4' (fun _ _ h => h)).trans hkc (fun _ _ h => h))
    have HSA4 := Lib.hid (SlK.keptNone (SlK.keptNone HSA.out hk4') hkc)
    have HSB4 := Lib.hid (SlK.keptNone hs4 hkc)
    have HN4 := Lib.hid hn4
    have HB1 := Lib.hid hb1'
    have HB2 := Lib.hid hb2'
    have HB := Lib.hid hb
    clear hk4 hk4' hkc HKB HNB HRV3 HS3 HK3 HSA hs4 hn4 hb1' hb2' hb
    go_wp2_with fail
    go_at_call 15
    refine HNC.out.mono ?_
    rintro e w5 ⟨hk5, hnc⟩
    rcases hnc with ⟨h1, -⟩ | ⟨-, -, A5, n5, c5, c, rfl, hn5, hn5b, hs5, -, cs5, hc1', hc2', hc⟩
    · exfalso
      rcases h1 with h5 | ⟨x, hx, h5⟩
      · exact h5 (by simp)
      · obtain ⟨s, h6⟩ := HALL.out x hx
        rw [h6] at h5; cases h5
    have HK5 := Lib.hid (HK4.out.trans hk5 (fun _ _ h => h))
    have HSA5 := Lib.hid (SlK.keptNone HSA4.out hk5)
    have HSB5 := Lib.hid (SlK.keptNone HSB4.out hk5)
    have HSC5 := Lib.hid hs5
    have HN5 := Lib.hid hn5
    have HTWO := Lib.hid (cens_two HA1.out HA2.out HA.out HB1.out HB2.out HB.out hc1' hc2' hc)
    have hla := HSA5.out.run_len strsT
    clear hk5 HNC HSA4 HSB4 hs5 hn5 hc1' hc2' hc HA1 HA2 HA HB1 HB2 HB HK4
    rcases hcode with rfl | rfl | rfl
    rotate_left
    · go_wp2
      go_ret
      exact ⟨rfl, HK5.out⟩
    · go_wp2
      go_ret
      exact ⟨rfl, HK5.out⟩
    go_wp2_with fail
    go_loopg [20, 21, 22] n3 (fun j vd vx vi wr => ∃ i nd nx : Nat, i + j = n3 ∧ vi = .int .i64 i ∧ Fam wr w5.heap.size [rS vd nd ((a.take i).filter (has b)), rS vx nx ((a.take i).filter fun h => !has b h)] ∧ nd ≤ i ∧ nx ≤ i ∧ Kept noBlock w5 wr)
    case atStart => exact ⟨0, 0, 0, by omega, rfl, (Fam.nil.more 9 1).more 9 1, Nat.le_refl _, Nat.le_refl _, Kept.refl _ _⟩
    case round =>
      obtain ⟨i, nd, nx, hij, rfl, hfam, hnd, hnx, hk⟩ := hrel
      have HIJ := Lib.hid hij
      have HFAM := Lib.hid hfam
      have HK := Lib.hid hk
      have hz := hk.size
      by_cases hlt : i < n3
      · obtain ⟨x, hx⟩ : ∃ x, a[i]? = some x := ⟨_, List.getElem?_eq_getElem (by have := HNA3.out; omega)⟩
        obtain ⟨g, o, hi, -, hc0⟩ := str_at (SlK.keptNone HSA5.out hk) hx
        have hf1 := filt1 (P := has b) hx
        have hf2 := filt1 (P := fun h => !has b h) hx
        have HH := Lib.hid (R3Has_at (l := b) (s := x) (by rw [← HN4.out]; exact SlK.keptNone HSB5.out hk) (by have := HN4.out; omega))
        cases hh : has b x with
        | true =>
          rw [hh] at hf1 hf2 HH
          simp only [Bool.not_true, Bool.false_eq_true, if_false, if_true] at hf1 hf2
          have HF1 := Lib.hid hf1
          have HF2 := Lib.hid hf2
          clear hij hfam hk hx hf1 hf2 hh
          go_wp2_with fail
          refine HH.out.mono ?_
          rintro e w6 ⟨rfl, rfl⟩
          go_wp2_with (at_builtin; go_must (refine wpList_append_sl _ strsT rfl (.tmp 99) (.tmp 104) rfl w5.heap.size _ nd _ rfl ((HFAM.out.keptN ((Kept.refl noBlock _).alloc _)).get 0 rfl) _ 1 [.string x] rfl (Sl.made_at (Blk.new_at _ 9 #[.string x] rfl) _ rfl rfl one_max) (by simp [Value.oneCell']) ?c1 ?c2 ?_))
          case c1 => omega
          case c2 => first | omega | (simp only [sz_alloc]; omega)
          intro v7 w7 hap
          have hown1 := (HFAM.out.keptN ((Kept.refl noBlock _).alloc (.cells #[.string x] 9))).get 0 rfl
          have HG := Lib.hid (HFAM.out.addS 0 rfl ((Kept.refl noBlock _).alloc _) hap)
          have HK7 : Hid (Kept noBlock w5 w7) := Lib.hid (hap.below hown1 (HK.out.alloc _) (Nat.le_refl _))
          clear hap hown1
          go_wp2
          go_roundg (n3 - (i + 1))
          case measure => have := HIJ.out; omega
          case rel =>
            refine ⟨i + 1, nd + 1, nx, by have := HIJ.out; omega, by go_num, ?_, by omega, by omega, HK7.out⟩
            rw [HF1.out, HF2.out]; exact HG.out
        | false =>
          rw [hh] at hf1 hf2 HH
          simp only [Bool.not_false, Bool.false_eq_true, if_false, if_true] at hf1 hf2
          have HF1 := Lib.hid hf1
          have HF2 := Lib.hid hf2
          clear hij hfam hk hx hf1 hf2 hh
          go_wp2_with fail
          refine HH.out.mono ?_
          rintro e w6 ⟨rfl, rfl⟩
          go_wp2_with (at_builtin; go_must (refine wpList_append_sl _ strsT rfl (.tmp 106) (.tmp 111) rfl w5.heap.size _ nx _ rfl ((HFAM.out.keptN ((Kept.refl noBlock _).alloc _)).get 1 rfl) _ 1 [.string x] rfl (Sl.made_at (Blk.new_at _ 9 #[.string x] rfl) _ rfl rfl one_max) (by simp [Value.oneCell']) ?c1 ?c2 ?_))
          case c1 => omega
          case c2 => first | omega | (simp only [sz_alloc]; omega)
          intro v7 w7 hap
          have hown1 := (HFAM.out.keptN ((Kept.refl noBlock _).alloc (.cells #[.string x] 9))).get 1 rfl
          have HG := Lib.hid (HFAM.out.addS 1 rfl ((Kept.refl noBlock _).alloc _) hap)
          have HK7 : Hid (Kept noBlock w5 w7) := Lib.hid (hap.below hown1 (HK.out.alloc _) (Nat.le_refl _))
          clear hap hown1
          go_wp2
          go_roundg (n3 - (i + 1))
          case measure => have := HIJ.out; omega
          case rel =>
            refine ⟨i + 1, nd, nx + 1, by have := HIJ.out; omega, by go_num, ?_, by omega, by omega, HK7.out⟩
            rw [HF1.out, HF2.out]; exact HG.out
      · obtain rfl : i = n3 := by omega
        have ht : a.take i = a := List.take_of_length_le (by have := HNA3.out; omega)
        rw [ht, HTWO.out.1, HTWO.out.2] at hfam
        have hd := hfam.slS 0 rfl
        have hxx := hfam.slS 1 rfl
        have hnd' : nd = b.length := by have := hd.len; simpa using this.symm
        have hnx' : nx = c.length := by have := hxx.len; simpa using this.symm
        have HSM := Lib.hid (same_at (w := wr) (l := b) (by rw [← hnd']; exact hd) (by rw [← HN4.out]; exact SlK.keptNone HSB5.out hk) (by have := HN4.out; omega))
        have HSX := Lib.hid (fun nq => same_at (w := wr.drewN nq) (l := c) (by rw [← hnx']; exact SlK.drewN hxx nq) (by rw [← HN5.out]; exact SlK.drewN (SlK.keptNone HSC5.out hk) nq) (by have := HN5.out; omega))
        clear hij hfam hk ht hd hxx hnd' hnx'
        go_wp2_with fail
        go_at_call 12
        refine HSM.out.mono ?_
        rintro e w9 ⟨rfl, nq, rfl⟩
        go_wp2_with fail
        go_at_call 12
        refine (HSX.out nq).mono ?_
        rintro e w9 ⟨rfl, nq2, rfl⟩
        go_wp2
        go_ret
        exact ⟨rfl, HK5.out.trans (HK.out.drewN (nq + nq2)) (fun _ _ h => h)⟩
end Go.Proofs.Ytjdjfikeiphgpaa

/- ReplicaRacks: of each center there are as many as are needed, none twice; of no rack two, as long as of another one there is none: it answers true. -/
import Derived.Test.YtjdjfikeiphgpaaRpAwake
namespace Go.Proofs.Ytjdjfikeiphgpaa
set_option linter.unusedVariables false
open Go.RowKit

theorem rpD_list : rpD.toList = [100] := by rw [ByteArray.toList_eq]
def usedOf (x : List ByteArray) (H : List Si) : List ByteArray := racksOf (H.filter fun s => has x s.1)
theorem used_step (x : List ByteArray) (H : List Si) (s : Si) : usedOf x (H ++ [s]) = if has x s.1 = true ∧ has (usedOf x H) s.2.2 = false then usedOf x H ++ [s.2.2] else usedOf x H := by
  unfold usedOf
  rw [List.filter_append]
  by_cases h : has x s.1 = true
  · have e : [s].filter (fun s => has x s.1) = [s] := by simp [h]
    rw [e, racks_step]
    by_cases h2 : has (racksOf (H.filter fun s => has x s.1)) s.2.2 = true
    · rw [if_pos h2, if_neg (by rw [h2]; simp)]
    · rw [if_neg h2, if_pos ⟨h, by simpa using h2⟩]
  · have e : [s].filter (fun s => has x s.1) = [] := by simp [h]
    rw [e, List.append_nil, if_neg (fun h2 => h h2.1)]
theorem ofDc_step {T : List Si} {i : Nat} {s : Si} (d : ByteArray) (h : T[i]? = some s) : ofDc d (T.take (i + 1)) = if s.2.1 = d then ofDc d (T.take i) ++ [s] else ofDc d (T.take i) := by
  unfold ofDc
  rw [List.take_add_one, h, List.filter_append]
  by_cases e : s.2.1 = d <;> simp [e]
theorem racks_law {n : Int} {H : List Si} (h0 : 0 ≤ n) (hn : (H.map (·.1)).Nodup) : (outOf n H).Nodup ∧ ((outOf n H).length : Int) = min n H.length ∧ (usedOf (outOf n H) H).length = min (outOf n H).length (racksOf H).length := by
  have hrk : ∀ s ∈ H, (fun h => ((aget h H).map (·.2)).getD noStr) s.1 = s.2.2 := by
    intro s hs
    have : aget s.1 H = some s.2 := aget_of_mem hn hs
    simp [this]
  obtain ⟨h1, h2, h3, h4⟩ := out_law (rk := fun h => ((aget h H).map (·.2)).getD noStr) h0 hrk hn
  refine ⟨h1, h2, h4 _ (uniq_nodup _ _ .nil) fun r => ?_⟩
  unfold usedOf racksOf
  rw [uniq_mem]
  constructor
  · rintro (h | h)
    · simp at h
    · obtain ⟨s, hs, rfl⟩ := List.mem_map.1 h
      obtain ⟨hs1, hs2⟩ := List.mem_filter.1 hs
      exact List.mem_map.2 ⟨s.1, has_iff.1 hs2, hrk s hs1⟩
  · intro h
    obtain ⟨x, hx, rfl⟩ := List.mem_map.1 h
    obtain ⟨s, hs, rfl⟩ := List.mem_map.1 (h3 x hx)
    exact .inr (List.mem_map.2 ⟨s, List.mem_filter.2 ⟨hs, has_iff.2 hx⟩, (hrk s hs).symm⟩)
theorem sitesOfL_get {L : List S4i} {l : List ByteArray} {i : Nat} {h : ByteArray} (hall : ∀ h ∈ l, ∃ s, siteOf L h = some s) (hi : l[i]? = some h) : ∃ s, (sitesOfL L l)[i]? = some s ∧ siteOf L h = some s := by
  have hm := sitesOfL_map l hall
  have h1 : ((sitesOfL L l).map (·.1))[i]? = some h := by rw [hm]; exact hi
  rw [List.getElem?_map] at h1
  obtain ⟨s, hs, e⟩ := Option.map_eq_some_iff.1 h1
  exact ⟨s, hs, by rw [← e]; exact sitesOfL_mem s (List.mem_of_getElem? hs)⟩
theorem ofDc_len (d : ByteArray) (T : List Si) : (ofDc d T).length ≤ T.length := List.length_filter_le _ _

/-- The loop: the racks there are, the racks that were taken of, the hosts. -/
def Rk (w0 wr : World) (T : List Si) (x : List ByteArray) (i : Nat) (vr vu vh : Value) : Prop :=
  ∃ nr nu : Nat, Fam wr w0.heap.size [rS vr nr (racksOf (ofDc rpD (T.take i))), rS vu nu (usedOf x (ofDc rpD (T.take i)))] ∧ nr = (racksOf (ofDc rpD (T.take i))).length ∧ nu = (usedOf x (ofDc rpD (T.take i))).length ∧ vh = .int .i64 ((ofDc rpD (T.take i)).length : Nat) ∧ Kept noBlock w0 wr
theorem rk_len {T : List Si} {x : List ByteArray} {i : Nat} (hi : i ≤ T.length) : (racksOf (ofDc rpD (T.take i))).length ≤ i ∧ (usedOf x (ofDc rpD (T.take i))).length ≤ i ∧ (ofDc rpD (T.take i)).length ≤ i := by
  have h1 := ofDc_len rpD (T.take i)
  rw [List.length_take] at h1
  have h2 := racksOf_len (ofDc rpD (T.take i))
  have h3 : (usedOf x (ofDc rpD (T.take i))).length ≤ (ofDc rpD (T.take i)).length := Nat.le_trans (racksOf_len _) (List.length_filter_le _ _)
  omega
theorem find_step {L : List S4i} {h : ByteArray} {k : Nat} {s : S4i} (hk : L[k]? = some s) (h0 : siteOf (L.take k) h = none) : (s.1 = h → siteOf L h = some s) ∧ (s.1 ≠ h → siteOf (L.take (k + 1)) h = none) := by
  obtain ⟨h1, h2⟩ := find_take_none hk h0
  exact ⟨h2, fun e => by rw [h1, if_neg e]⟩

set_option maxHeartbeats 8000000 in
set_option maxRecDepth 100000 in
theorem Racks_walk (vv vs : Value) (l : List Pl) (t n : Int) (zs : List Si) (w : World) (hv : Lo w w.heap.size 2 vv l.length (l.flatMap pC)) (hs : Lo w w.heap.size 3 vs zs.length (zs.flatMap sC)) (hn : -9223372036854775808 ≤ n ∧ n < 9223372036854775808) :
    Calls Try.prog 5 #[vv, .int .i64 t, vs, .int .i64 n] w fun e w' => e = .returned (.bool true) ∧ Kept noBlock w w' := by
  obtain ⟨A, cap, rfl, -, hcap⟩ := hv.shape
  obtain ⟨As, cs, rfl, -, -⟩ := hs.shape
  have hlen := hv.run_len psT
  have hlens := hs.run_len sitesT
  have HV := Lib.hid hv
  have HS := Lib.hid hs
  have HN := Lib.hid hn
  have hbl : l.length ≤ 9223372036854775807 ∧ zs.length ≤ 9223372036854775807 := by
    obtain ⟨_, A', c', e, h1, h2, _⟩ := hv
    obtain ⟨_, A', c', e, h3, h4, _⟩ := hs
    unfold maxLen at h2 h4; omega
  obtain ⟨hb1, hb2⟩ := hbl
  clear hv hs hn
  go_enter Try.func5, Try.ntmps5
  go_wp2_with fail
  go_at_call 8
  refine (aw14_at w).mono ?_
  rintro e w1 ⟨rfl, hk1⟩
  have HV1 := Lib.hid (SlK.keptNone HV.out hk1)
  have HS1 := Lib.hid (SlK.keptNone HS.out hk1)
  have HK1 := Lib.hid hk1
  clear hk1 HV HS
  by_cases h30 : 30 < l.length
  · go_wp2
    go_ret
    exact ⟨rfl, HK1.out⟩
  by_cases h31 : 30 < zs.length
  · go_wp2
    go_ret
    exact ⟨rfl, HK1.out⟩
  by_cases hn0 : n < 0
  · go_wp2
    go_ret
    exact ⟨rfl, HK1.out⟩
  go_wp2_with fail
  go_at_call 9
  refine (Rnew_view HV1.out (by omega)).mono ?_
  rintro e w2 ⟨p, code, S, rfl, hrs, hrv, -, hk2⟩
  have HS2 := Lib.hid (SlK.keptNone HS1.out hk2)
  have HK2 := Lib.hid (HK1.out.trans hk2 (fun _ _ h => h))
  have HRV := Lib.hid hrv
  have hsl := hrs.len
  have HRI := Lib.hid hrs.rising
  have hcode : code = 0 ∨ ((code = 1 ∨ code = 11) ∧ S = []) := by
    rcases hrs with ⟨-, rfl, rfl⟩ | ⟨-, -, rfl, rfl⟩ | ⟨-, rfl⟩ <;> simp
  clear hk2 hrs hrv HV1 HK1 HS1
  have hka : Kept noBlock w2 (w2.alloc (.cells #[.string rpD, .int .i64 n] 45)) := (Kept.refl noBlock w2).alloc _
  have HNA := Lib.hid (Network_view (t := t) (w := w2.alloc (.cells #[.string rpD, .int .i64 n] 45)) (zs := zs) (fs := [(rpD, n)]) (HRV.out.kept hka) HRI.out (by omega) (SlK.keptNone HS2.out hka)
    (Sl.made_at (e := 45) (n := 1) (Blk.new_at w2 45 #[.string rpD, .int .i64 n] rfl) _ rfl rfl (by decide)) (by omega) (by simp) (by
      intro f hf
      obtain rfl := List.mem_singleton.1 hf; exact HN.out))
  have HKA := Lib.hid hka
  clear hka
  go_wp2_with fail
  go_at_call 15
  refine HNA.out.mono ?_
  rintro e w3 ⟨hk3, hna⟩
  have hk3' := HKA.out.trans hk3 (fun _ _ h => h)
  have HS3 := Lib.hid (SlK.keptNone HS2.out hk3')
  have HRV3 := Lib.hid (HRV.out.kept hk3')
  have HK3 := Lib.hid (HK2.out.trans hk3' (fun _ _ h => h))
  clear hk3 hk3' HKA HS2 HRV HK2 HNA
  rcases hna with ⟨-, rfl⟩ | ⟨-, hall, A3, n3, c3, out, rfl, hn3, hn3b, hs3, -, cs3, ha1, ha2, ha⟩
  · rcases hcode with rfl | ⟨rfl | rfl, -⟩
    · go_wp2
      go_ret
      exact ⟨rfl, HK3.out⟩
    · go_wp2
      go_ret
      exact ⟨rfl, HK3.out⟩
    · go_wp2
      go_ret
      exact ⟨rfl, HK3.out⟩
  obtain ⟨ge, mr, hcd⟩ := ha1 rpD n (List.mem_singleton.2 rfl)
  have ho : out = outOf n (ofDc rpD (sitesOfL zs (rwalk S t))) := by rw [ha]; exact out_one hcd fun x hx => ha2 x (by simpa using hx)
  rcases hcode with rfl | ⟨hc1, hSn⟩
  rotate_left
  · subst hSn
    have ho2 : out = [] := by rw [ho]; rfl
    obtain rfl : n3 = 0 := by rw [hn3, ho2]; rfl
    have hl3 := hs3.run_len strsT
    clear hall hs3 ha1 ha2 ha hcd ho ho2 hn3
    rcases hc1 with rfl | rfl
    · go_wp2
      go_ret
      exact ⟨rfl, HK3.out⟩
    · go_wp2
      go_ret
      exact ⟨rfl, HK3.out⟩
  obtain ⟨T, hT⟩ : ∃ T, T = sitesOfL zs (rwalk S t) := ⟨_, rfl⟩
  rw [← hT] at ho
  have hTm : T.map (·.1) = rwalk S t := by rw [hT]; exact sitesOfL_map _ hall
  have hTl : T.length = (rwalk S t).length := by rw [← hTm, List.length_map]
  have hTn : ((ofDc rpD T).map (·.1)).Nodup := by
    have : (T.map (·.1)).Nodup := by rw [hTm]; exact rwalk_nodup S t
    exact this.sublist (List.Sublist.map _ List.filter_sublist)
  have hget : ∀ (i : Nat) (h : ByteArray), (rwalk S t)[i]? = some h → ∃ s, T[i]? = some s ∧ siteOf zs h = some s := by rw [hT]; exact fun i h => sitesOfL_get hall
  have hlaw := racks_law (n := n) (H := ofDc rpD T) (by omega) hTn
  rw [← ho] at hlaw
  have HLAW := Lib.hid hlaw
  have HGET := Lib.hid hget
  have HTL := Lib.hid hTl
  have HN3 := Lib.hid hn3
  have HS33 := Lib.hid hs3
  have hrl := rwalk_len S t
  clear hall hs3 ha1 ha2 ha hcd ho hn3 hT hTm hTl hTn hget hlaw
  go_wp2_with fail
  go_at_call 17
  refine (Rwalk_view (t := t) HRV3.out HRI.out (by omega)).mono ?_
  rintro e w4 ⟨A4, c4, rfl, hs4, hk4⟩
  have hl3 := HS33.out.run_len strsT
  have hl4 := hs4.run_len strsT
  have HS4 := Lib.hid hs4
  have HZ4 := Lib.hid (SlK.keptNone HS3.out hk4)
  have HX4 := Lib.hid (SlK.keptNone HS33.out hk4)
  have HK4 := Lib.hid (HK3.out.trans hk4 (fun _ _ h => h))
  clear hs4 hk4 HS33 HS3 HRV3 HK3
  go_wp2_with fail
  generalize hR : rwalk S t = R at *
  go_loopg [15, 16, 17, 18] R.length (fun j vr vu vh vi wr => ∃ i : Nat, i + j = R.length ∧ vi = .int .i64 i ∧ Rk w4 wr T out i vr vu vh)
  case atStart => exact ⟨0, by omega, rfl, 0, 0, (Fam.nil.more 9 1).more 9 1, rfl, rfl, rfl, Kept.refl _ _⟩
  case round =>
    obtain ⟨i, hij, rfl, nr, nu, hfam, hnr, hnu, rfl, hk⟩ := hrel
    have HIJ := Lib.hid hij
    have HTL2 := HTL.out
    by_cases hlt : i < R.length
    · obtain ⟨x, hx⟩ : ∃ x, R[i]? = some x := ⟨_, List.getElem?_eq_getElem hlt⟩
      obtain ⟨s, hTs, hso⟩ := HGET.out i x hx
      obtain ⟨gx, ox, ix, lx, cx4⟩ := str_at HS4.out hx
      have HCX := Lib.hid (fun w' (h' : Kept noBlock w4 w') => (h'.cell (p := ⟨gx, ox, none⟩) lx (fun h => h)).trans cx4)
      have cx := HCX.out _ hk
      obtain ⟨hb3, hb4, hb5⟩ := rk_len (x := out) (i := i) (T := T) (by omega)
      rw [← hnr] at hb3
      rw [← hnu] at hb4
      have HNR := Lib.hid hnr
      have HNU := Lib.hid hnu
      have HFAM := Lib.hid hfam
      have HK := Lib.hid hk
      have HST := Lib.hid (ofDc_step rpD hTs)
      have HSO := Lib.hid hso
      generalize hHi : ofDc rpD (T.take i) = H at *
      clear hij hfam hnr hnu hk hx hTs hso cx4 lx
      go_wp2_with fail
      obtain ⟨w5, hw5⟩ : ∃ w5, w5 = wr := ⟨_, rfl⟩
      subst hw5
      go_loopg [15, 16, 17, 19] zs.length (fun j v1 v2 v3 vk wr => ∃ k m : Nat, k + j = zs.length ∧ vk = .int .i64 k ∧ siteOf (zs.take k) x = none ∧ wr = w5.drewN m ∧ v1 = u15 ∧ v2 = u16 ∧ v3 = .int .i64 (H.length : Nat))
      case atStart => exact ⟨0, 0, by omega, rfl, rfl, rfl, rfl, rfl, rfl⟩
      case round =>
        obtain ⟨k, m, hkj, rfl, hno, rfl, rfl, rfl, rfl⟩ := hrel
        have HKJ := Lib.hid hkj
        have HNO := Lib.hid hno
        clear hkj hno
        by_cases hkz : k < zs.length
        · obtain ⟨s2, hs2⟩ : ∃ s, zs[k]? = some s := ⟨_, List.getElem?_eq_getElem hkz⟩
          have hfs := find_step hs2 HNO.out
          obtain ⟨g, o, hi, hgl, p0, p1, p2⟩ := si_at HZ4.out hs2
          obtain ⟨sh, sd, sr⟩ := s2
          simp only at p0 p1 p2 hfs
          have HQ1 := Lib.hid (fun w' (h' : Kept noBlock w4 w') => (h'.cell (p := ⟨g, o + 1, none⟩) hgl (fun h => h)).trans p1)
          have HQ2 := Lib.hid (fun w' (h' : Kept noBlock w4 w') => (h'.cell (p := ⟨g, o + 2, none⟩) hgl (fun h => h)).trans p2)
          have q0 := (HK.out.cell (p := ⟨g, o, none⟩) hgl (fun h => h)).trans p0
          have HFS := Lib.hid hfs
          clear hs2 hfs hgl p0 p1 p2
          by_cases hsx : sh = x
          · subst hsx
            have hbe := strEq_self sh
            have hse : s = (sh, sd, sr) := by
              have := HFS.out.1 (by first | rfl | trivial)
              rw [HSO.out] at this
              exact Option.some.inj this
            subst hse
            have hq5 : ∀ q, Kept noBlock w5 (w5.drewN q) := fun q => (Kept.refl noBlock w5).drewN q
            by_cases hsd : sd = rpD
            · have HST2 := HST.out
              rw [if_pos hsd] at HST2
              have HE : Hid (ofDc rpD (T.take (i + 1)) = H ++ [(sh, sd, sr)]) := Lib.hid HST2
              clear HST2 HST HSO HFS
              have hbd : (sd.toList == [100]) = true := by rw [hsd, rpD_list]; rfl
              have HRS := Lib.hid (racks_step H (sh, sd, sr))
              have HUS := Lib.hid (used_step out H (sh, sd, sr))
              have hw1 : IntKind.i64.wrap ((H.length : Int) + 1) = (H.length : Int) + 1 := by rw [IntKind.wrap_i64]; omega
              clear hsd
              go_wp2
              go_quiet (fail)
              have hkd : Kept noBlock w5 ((w5.drewN m).drewN nq) := ((Kept.refl noBlock w5).drewN m).drewN nq
              have HF6 := Lib.hid (HFAM.out.keptN hkd)
              have HK6 := Lib.hid (HK.out.trans hkd (fun _ _ h => h))
              clear hkd q0 cx
              generalize (w5.drewN m).drewN nq = w6 at *
              have q1 := HQ1.out _ HK6.out
              have q2 := HQ2.out _ HK6.out
              have hz6 := HK6.out.size
              have HHR := Lib.hid (R3Has_at (w := w6) (l := racksOf H) (s := sr) (by rw [← HNR.out]; exact HF6.out.slS 0 rfl) (by rw [← HNR.out]; omega))
              have HHX := Lib.hid (fun w7 (hk7 : Kept noBlock w4 w7) => R3Has_at (w := w7) (l := out) (s := sh) (by rw [← HN3.out]; exact SlK.keptNone HX4.out hk7) (by rw [← HN3.out]; omega))
              cases hhr : has (racksOf H) sr with
              | false =>
                have e7 : racksOf (H ++ [(sh, sd, sr)]) = racksOf H ++ [sr] := by rw [HRS.out]; exact if_neg (by rw [hhr]; simp)
                have HE7 := Lib.hid e7
                rw [hhr] at HHR
                clear hhr e7
                go_wp2_with fail
                go_at_call 18
                refine HHR.out.mono ?_
                rintro e w7 ⟨rfl, rfl⟩
                go_wp2_with (at_builtin; go_must (refine wpList_append_sl _ strsT rfl (.tmp 104) (.tmp 110) rfl w4.heap.size _ nr _ rfl ((HF6.out.keptN ((Kept.refl noBlock _).alloc _)).get 0 rfl) _ 1 [.string sr] rfl (Sl.made_at (Blk.new_at _ 9 #[.string sr] rfl) _ rfl rfl one_max) (by simp [Value.oneCell']) ?c1 ?c2 ?_))
                case c1 => omega
                case c2 => first | omega | (simp only [sz_alloc]; omega)
                intro v7 w7 hap
                have hown1 := (HF6.out.keptN ((Kept.refl noBlock _).alloc (.cells #[.string sr] 9))).get 0 rfl
                have HF7 := Lib.hid (HF6.out.addS 0 rfl ((Kept.refl noBlock _).alloc _) hap)
                have HK7 : Hid (Kept noBlock w4 w7) := Lib.hid (hap.below hown1 (HK6.out.alloc _) (Nat.le_refl _))
                have hz7 := HK7.out.size
                clear hap hown1 q1 q2
                have q2 := HQ2.out _ HK7.out
                have cx := HCX.out _ HK7.out
                have HU := Lib.hid (R3Has_at (w := w7) (l := usedOf out H) (s := sr) (by rw [← HNU.out]; exact HF7.out.slS 1 rfl) (by rw [← HNU.out]; omega))
                have hlen1 : ((H ++ [(sh, sd, sr)]).length : Int) = (H.length : Int) + 1 := by simp
                have HLEN1 := Lib.hid hlen1
                clear hlen1
                cases hhx : has out sh with
                | false =>
                  have e8 : usedOf out (H ++ [(sh, sd, sr)]) = usedOf out H := by rw [HUS.out]; exact if_neg (by rw [hhx]; simp)
                  have HE8 := Lib.hid e8
                  have HX7 := Lib.hid (HHX.out _ HK7.out)
                  rw [hhx] at HX7
                  clear hhx e8
                  go_wp2_with fail
                  go_at_call 18
                  refine HX7.out.mono ?_
                  rintro e w8 ⟨rfl, rfl⟩
                  go_wp2
                  go_roundg (R.length - (i + 1))
                  case measure => have := HIJ.out; omega
                  case rel =>
                    refine ⟨i + 1, by have := HIJ.out; omega, by go_num, nr + 1, nu, ?_, ?_, ?_, ?_, HK7.out⟩
                    · rw [HE.out, HE7.out, HE8.out]; exact HF7.out
                    · rw [HE.out, HE7.out]; exact (by rw [List.length_append, ← HNR.out]; rfl)
                    · rw [HE.out, HE8.out]; exact HNU.out
                    · rw [HE.out, HLEN1.out]
                | true =>
                  have HX7 := Lib.hid (HHX.out _ HK7.out)
                  rw [hhx] at HX7
                  cases hhu : has (usedOf out H) sr with
                  | true =>
                    have e8 : usedOf out (H ++ [(sh, sd, sr)]) = usedOf out H := by rw [HUS.out]; exact if_neg (by rw [hhu]; simp)
                    have HE8 := Lib.hid e8
                    rw [hhu] at HU
                    clear hhx hhu e8
                    go_wp2_with fail
                    go_at_call 18
                    refine HX7.out.mono ?_
                    rintro e w8 ⟨rfl, rfl⟩
                    go_wp2_with fail
                    go_at_call 18
                    refine HU.out.mono ?_
                    rintro e w9 ⟨rfl, rfl⟩
                    go_wp2
                    go_roundg (R.length - (i + 1))
                    case measure => have := HIJ.out; omega
                    case rel =>
                      refine ⟨i + 1, by have := HIJ.out; omega, by go_num, nr + 1, nu, ?_, ?_, ?_, ?_, HK7.out⟩
                      · rw [HE.out, HE7.out, HE8.out]; exact HF7.out
                      · rw [HE.out, HE7.out]; exact (by rw [List.length_append, ← HNR.out]; rfl)
                      · rw [HE.out, HE8.out]; exact HNU.out
                      · rw [HE.out, HLEN1.out]
                  | false =>
                    have e8 : usedOf out (H ++ [(sh, sd, sr)]) = usedOf out H ++ [sr] := by rw [HUS.out]; exact if_pos ⟨hhx, hhu⟩
                    have HE8 := Lib.hid e8
                    rw [hhu] at HU
                    clear hhx hhu e8
                    go_wp2_with fail
                    go_at_call 18
                    refine HX7.out.mono ?_
                    rintro e w8 ⟨rfl, rfl⟩
                    go_wp2_with fail
                    go_at_call 18
                    refine HU.out.mono ?_
                    rintro e w9 ⟨rfl, rfl⟩
                    go_wp2_with (at_builtin; go_must (refine wpList_append_sl _ strsT rfl (.tmp 128) (.tmp 134) rfl w4.heap.size _ nu _ rfl ((HF7.out.keptN ((Kept.refl noBlock _).alloc _)).get 1 rfl) _ 1 [.string sr] rfl (Sl.made_at (Blk.new_at _ 9 #[.string sr] rfl) _ rfl rfl one_max) (by simp [Value.oneCell']) ?c1 ?c2 ?_))
                    case c1 => omega
                    case c2 => first | omega | (simp only [sz_alloc]; omega)
                    intro v9 w9 hap
                    have hown2 := (HF7.out.keptN ((Kept.refl noBlock _).alloc (.cells #[.string sr] 9))).get 1 rfl
                    have HF9 := Lib.hid (HF7.out.addS 1 rfl ((Kept.refl noBlock _).alloc _) hap)
                    have HK9 : Hid (Kept noBlock w4 w9) := Lib.hid (hap.below hown2 (HK7.out.alloc _) (Nat.le_refl _))
                    clear hap hown2
                    go_wp2
                    go_roundg (R.length - (i + 1))
                    case measure => have := HIJ.out; omega
                    case rel =>
                      refine ⟨i + 1, by have := HIJ.out; omega, by go_num, nr + 1, nu + 1, ?_, ?_, ?_, ?_, HK9.out⟩
                      · rw [HE.out, HE7.out, HE8.out]; exact HF9.out
                      · rw [HE.out, HE7.out]; exact (by rw [List.length_append, ← HNR.out]; rfl)
                      · rw [HE.out, HE8.out, List.length_append, ← HNU.out]; rfl
                      · rw [HE.out, HLEN1.out]
              | true =>
                have e7 : racksOf (H ++ [(sh, sd, sr)]) = racksOf H := by rw [HRS.out]; exact if_pos hhr
                have HE7 := Lib.hid e7
                rw [hhr] at HHR
                have cx := HCX.out _ HK6.out
                clear hhr e7
                go_wp2_with fail
                go_at_call 18
                refine HHR.out.mono ?_
                rintro e w7 ⟨rfl, rfl⟩
                have HU := Lib.hid (R3Has_at (w := w7) (l := usedOf out H) (s := sr) (by rw [← HNU.out]; exact HF6.out.slS 1 rfl) (by rw [← HNU.out]; omega))
                have hlen1 : ((H ++ [(sh, sd, sr)]).length : Int) = (H.length : Int) + 1 := by simp
                have HLEN1 := Lib.hid hlen1
                clear hlen1
                cases hhx : has out sh with
                | false =>
                  have e8 : usedOf out (H ++ [(sh, sd, sr)]) = usedOf out H := by rw [HUS.out]; exact if_neg (by rw [hhx]; simp)
                  have HE8 := Lib.hid e8
                  have HX7 := Lib.hid (HHX.out _ HK6.out)
                  rw [hhx] at HX7
                  clear hhx e8
                  go_wp2_with fail
                  go_at_call 18
                  refine HX7.out.mono ?_
                  rintro e w8 ⟨rfl, rfl⟩
                  go_wp2
                  go_roundg (R.length - (i + 1))
                  case measure => have := HIJ.out; omega
                  case rel =>
                    refine ⟨i + 1, by have := HIJ.out; omega, by go_num, nr, nu, ?_, ?_, ?_, ?_, HK6.out⟩
                    · rw [HE.out, HE7.out, HE8.out]; exact HF6.out
                    · rw [HE.out, HE7.out]; exact HNR.out
                    · rw [HE.out, HE8.out]; exact HNU.out
                    · rw [HE.out, HLEN1.out]
                | true =>
                  have HX7 := Lib.hid (HHX.out _ HK6.out)
                  rw [hhx] at HX7
                  cases hhu : has (usedOf out H) sr with
                  | true =>
                    have e8 : usedOf out (H ++ [(sh, sd, sr)]) = usedOf out H := by rw [HUS.out]; exact if_neg (by rw [hhu]; simp)
                    have HE8 := Lib.hid e8
                    rw [hhu] at HU
                    clear hhx hhu e8
                    go_wp2_with fail
                    go_at_call 18
                    refine HX7.out.mono ?_
                    rintro e w8 ⟨rfl, rfl⟩
                    go_wp2_with fail
                    go_at_call 18
                    refine HU.out.mono ?_
                    rintro e w9 ⟨rfl, rfl⟩
                    go_wp2
                    go_roundg (R.length - (i + 1))
                    case measure => have := HIJ.out; omega
                    case rel =>
                      refine ⟨i + 1, by have := HIJ.out; omega, by go_num, nr, nu, ?_, ?_, ?_, ?_, HK6.out⟩
                      · rw [HE.out, HE7.out, HE8.out]; exact HF6.out
                      · rw [HE.out, HE7.out]; exact HNR.out
                      · rw [HE.out, HE8.out]; exact HNU.out
                      · rw [HE.out, HLEN1.out]
                  | false =>
                    have e8 : usedOf out (H ++ [(sh, sd, sr)]) = usedOf out H ++ [sr] := by rw [HUS.out]; exact if_pos ⟨hhx, hhu⟩
                    have HE8 := Lib.hid e8
                    rw [hhu] at HU
                    clear hhx hhu e8
                    go_wp2_with fail
                    go_at_call 18
                    refine HX7.out.mono ?_
                    rintro e w8 ⟨rfl, rfl⟩
                    go_wp2_with fail
                    go_at_call 18
                    refine HU.out.mono ?_
                    rintro e w9 ⟨rfl, rfl⟩
                    go_wp2_with (at_builtin; go_must (refine wpList_append_sl _ strsT rfl (.tmp 128) (.tmp 134) rfl w4.heap.size _ nu _ rfl ((HF6.out.keptN ((Kept.refl noBlock _).alloc _)).get 1 rfl) _ 1 [.string sr] rfl (Sl.made_at (Blk.new_at _ 9 #[.string sr] rfl) _ rfl rfl one_max) (by simp [Value.oneCell']) ?c1 ?c2 ?_))
                    case c1 => omega
                    case c2 => first | omega | (simp only [sz_alloc]; omega)
                    intro v9 w9 hap
                    have hown2 := (HF6.out.keptN ((Kept.refl noBlock _).alloc (.cells #[.string sr] 9))).get 1 rfl
                    have HF9 := Lib.hid (HF6.out.addS 1 rfl ((Kept.refl noBlock _).alloc _) hap)
                    have HK9 : Hid (Kept noBlock w4 w9) := Lib.hid (hap.below hown2 (HK6.out.alloc _) (Nat.le_refl _))
                    clear hap hown2
                    go_wp2
                    go_roundg (R.length - (i + 1))
                    case measure => have := HIJ.out; omega
                    case rel =>
                      refine ⟨i + 1, by have := HIJ.out; omega, by go_num, nr, nu + 1, ?_, ?_, ?_, ?_, HK9.out⟩
                      · rw [HE.out, HE7.out, HE8.out]; exact HF9.out
                      · rw [HE.out, HE7.out]; exact HNR.out
                      · rw [HE.out, HE8.out, List.length_append, ← HNU.out]; rfl
                      · rw [HE.out, HLEN1.out]
            · have HST2 := HST.out
              rw [if_neg hsd] at HST2
              have HE : Hid (ofDc rpD (T.take (i + 1)) = H) := Lib.hid HST2
              have hbd : (sd.toList == [100]) = false := by rw [← rpD_list]; exact strEq_ne hsd
              have q1 := HQ1.out _ HK.out
              clear HST2 HST HSO HFS hsd
              go_wp2
              go_quiet (fail)
              go_wp2
              go_roundg (R.length - (i + 1))
              case measure => have := HIJ.out; omega
              case rel =>
                have hkd : Kept noBlock w5 (w5.drewN (m + nq)) := (Kept.refl noBlock w5).drewN (m + nq)
                refine ⟨i + 1, by have := HIJ.out; omega, by go_num, nr, nu, ?_, ?_, ?_, ?_, HK.out.trans hkd (fun _ _ h => h)⟩
                · rw [HE.out]; exact HFAM.out.keptN hkd
                · rw [HE.out]; exact HNR.out
                · rw [HE.out]; exact HNU.out
                · rw [HE.out]
          · have hbe := strEq_ne hsx
            have HSX := Lib.hid hsx
            clear hsx
            go_wp2
            go_quiet (fail)
            go_wp2
            go_roundg (zs.length - (k + 1))
            case measure => have := HKJ.out; omega
            case rel => exact ⟨k + 1, m + nq, by have := HKJ.out; omega, by go_num, HFS.out.2 HSX.out, rfl, rfl, rfl, rfl⟩
        · exfalso
          have : k = zs.length := by have := HKJ.out; omega
          have h1 := HNO.out
          rw [this, List.take_length, HSO.out] at h1
          cases h1
    · obtain rfl : i = R.length := by omega
      have ht : T.take R.length = T := List.take_of_length_le (by omega)
      rw [ht] at hfam hnr hnu
      rw [ht]
      obtain ⟨l1, l2, l3⟩ := HLAW.out
      rw [← hnu, ← hnr, ← HN3.out] at l3
      rw [← HN3.out] at l2
      have hl6 := (hfam.slS 0 rfl).run_len strsT
      have hl7 := (hfam.slS 1 rfl).run_len strsT
      have hHl := ofDc_len rpD T
      generalize (ofDc rpD T).length = hl at *
      have L1 := Lib.hid l1
      have HX9 := Lib.hid (SlK.keptNone HX4.out hk)
      have HK9 := Lib.hid (HK4.out.trans hk (fun _ _ h => h))
      obtain ⟨w5, hw5⟩ : ∃ w5, w5 = wr := ⟨_, rfl⟩
      subst hw5
      clear hij hfam hnr hnu hk ht l1 HIJ HX4 HZ4 HS4
      by_cases hw : (hl : Int) < n
      · have hq1 : ((n3 : Int) == (hl : Int)) = true := by simp; omega
        have HQ := Lib.hid hq1
        clear hq1
        go_wp2_with fail
        go_loopg [21] n3 (fun j vi wr => ∃ i m : Nat, i + j = n3 ∧ vi = .int .i64 i ∧ wr = w5.drewN m)
        case atStart => exact ⟨0, 0, by omega, rfl, rfl⟩
        case round =>
          obtain ⟨i, m, hij, rfl, rfl⟩ := hrel
          have HIJ := Lib.hid hij
          clear hij
          by_cases hlt : i < n3
          · obtain ⟨x, hx⟩ : ∃ x, out[i]? = some x := ⟨_, List.getElem?_eq_getElem (by have := HN3.out; omega)⟩
            obtain ⟨ga, oa, ia, -, ca⟩ := str_at HX9.out hx
            have HX := Lib.hid hx
            clear hx
            go_wp2_with fail
            go_loopg [22] i (fun j vk wr => ∃ k m : Nat, k + j = i ∧ vk = .int .i64 k ∧ wr = w5.drewN m)
            case atStart => exact ⟨0, m, by omega, rfl, rfl⟩
            case round =>
              obtain ⟨k, m2, hkj, rfl, rfl⟩ := hrel
              have HKJ := Lib.hid hkj
              clear hkj
              by_cases hki : k < i
              · obtain ⟨y, hy⟩ : ∃ y, out[k]? = some y := ⟨_, List.getElem?_eq_getElem (by have := HN3.out; omega)⟩
                obtain ⟨gb, ob, ib, -, cb⟩ := str_at HX9.out hy
                have hne : x ≠ y := by
                  intro e
                  subst e
                  obtain ⟨hi1, hi2⟩ := List.getElem?_eq_some_iff.1 HX.out
                  obtain ⟨hk1, hk2⟩ := List.getElem?_eq_some_iff.1 hy
                  exact List.pairwise_iff_getElem.1 L1.out k i hk1 hi1 hki (by rw [hi2, hk2])
                have hbe := strEq_ne hne
                clear hy hne
                go_wp2
                go_quiet (fail)
                go_wp2
                go_roundg (i - (k + 1))
                case measure => have := HKJ.out; omega
                case rel => exact ⟨k + 1, m2 + nq, by have := HKJ.out; omega, by go_num, rfl⟩
              · go_wp2
                go_roundg (n3 - (i + 1))
                case measure => have := HIJ.out; omega
                case rel => exact ⟨i + 1, m2, by have := HIJ.out; omega, by go_num, rfl⟩
          · have HKF := Lib.hid (HK9.out.trans ((Kept.refl noBlock w5).drewN m) (fun _ _ h => h))
            have hq := HQ.out
            by_cases hrn : nr < n3
            · have e2 : ((nu : Int) == (nr : Int)) = true := by simp; omega
              clear l2 l3
              go_wp2
              go_ret
              exact ⟨rfl, HKF.out⟩
            · have e2 : ((nu : Int) == (n3 : Int)) = true := by simp; omega
              clear l2 l3
              go_wp2
              go_ret
              exact ⟨rfl, HKF.out⟩
      · have hq1 : ((n3 : Int) == (n : Int)) = true := by simp; omega
        have HQ := Lib.hid hq1
        clear hq1
        go_wp2_with fail
        go_loopg [21] n3 (fun j vi wr => ∃ i m : Nat, i + j = n3 ∧ vi = .int .i64 i ∧ wr = w5.drewN m)
        case atStart => exact ⟨0, 0, by omega, rfl, rfl⟩
        case round =>
          obtain ⟨i, m, hij, rfl, rfl⟩ := hrel
          have HIJ := Lib.hid hij
          clear hij
          by_cases hlt : i < n3
          · obtain ⟨x, hx⟩ : ∃ x, out[i]? = some x := ⟨_, List.getElem?_eq_getElem (by have := HN3.out; omega)⟩
            obtain ⟨ga, oa, ia, -, ca⟩ := str_at HX9.out hx
            have HX := Lib.hid hx
            clear hx
            go_wp2_with fail
            go_loopg [22] i (fun j vk wr => ∃ k m : Nat, k + j = i ∧ vk = .int .i64 k ∧ wr = w5.drewN m)
            case atStart => exact ⟨0, m, by omega, rfl, rfl⟩
            case round =>
              obtain ⟨k, m2, hkj, rfl, rfl⟩ := hrel
              have HKJ := Lib.hid hkj
              clear hkj
              by_cases hki : k < i
              · obtain ⟨y, hy⟩ : ∃ y, out[k]? = some y := ⟨_, List.getElem?_eq_getElem (by have := HN3.out; omega)⟩
                obtain ⟨gb, ob, ib, -, cb⟩ := str_at HX9.out hy
                have hne : x ≠ y := by
                  intro e
                  subst e
                  obtain ⟨hi1, hi2⟩ := List.getElem?_eq_some_iff.1 HX.out
                  obtain ⟨hk1, hk2⟩ := List.getElem?_eq_some_iff.1 hy
                  exact List.pairwise_iff_getElem.1 L1.out k i hk1 hi1 hki (by rw [hi2, hk2])
                have hbe := strEq_ne hne
                clear hy hne
                go_wp2
                go_quiet (fail)
                go_wp2
                go_roundg (i - (k + 1))
                case measure => have := HKJ.out; omega
                case rel => exact ⟨k + 1, m2 + nq, by have := HKJ.out; omega, by go_num, rfl⟩
              · go_wp2
                go_roundg (n3 - (i + 1))
                case measure => have := HIJ.out; omega
                case rel => exact ⟨i + 1, m2, by have := HIJ.out; omega, by go_num, rfl⟩
          · have HKF := Lib.hid (HK9.out.trans ((Kept.refl noBlock w5).drewN m) (fun _ _ h => h))
            have hq := HQ.out
            by_cases hrn : nr < n3
            · have e2 : ((nu : Int) == (nr : Int)) = true := by simp; omega
              clear l2 l3
              go_wp2
              go_ret
              exact ⟨rfl, HKF.out⟩
            · have e2 : ((nu : Int) == (n3 : Int)) = true := by simp; omega
              clear l2 l3
              go_wp2
              go_ret
              exact ⟨rfl, HKF.out⟩
end Go.Proofs.Ytjdjfikeiphgpaa

/- The reference of chapter 14, one center: the walk. -/
import Derived.Test.YtjdjfikeiphgpaaR4OneP
import Derived.Test.YtjdjfikeiphgpaaFam2
namespace Go.Proofs.Ytjdjfikeiphgpaa
set_option linter.unusedVariables false
open Go.RowKit

theorem intsT : SlT Try.prog 85 3 (.int .i64 0) 1 8 := ⟨Try.underlying85, by kernel_rfl, rfl, by decide, by decide⟩
def rS (v : Value) (n : Nat) (l : List ByteArray) : Rw := ⟨9, 1, v, n, l.map Value.string⟩
def rI (v : Value) (n : Nat) (l : List Nat) : Rw := ⟨3, 1, v, n, l.map fun (i : Nat) => Value.int .i64 (i : Int)⟩
theorem int_at {w : World} {ok : Nat → TypeId → Prop} {v : Value} {L : List Nat} {n : Nat} (h : SlK w ok 1 v n (L.map fun (i : Nat) => Value.int .i64 (i : Int))) {i : Nat} {s : Nat} (hi : L[i]? = some s) :
    ∃ g off, (∀ kd w', (Instr.indexAt 85 v (.int kd (i : Int))).run Try.prog w' = .ok (.pointer (some ⟨g, off, none⟩)) w') ∧ g < w.heap.size ∧ w.cell? ⟨g, off, none⟩ = some (.int .i64 (s : Int)) := by
  have hlt : i < n := by
    have h1 := (List.getElem?_eq_some_iff.1 hi).1
    have h2 := h.len
    rw [List.length_map] at h2
    omega
  obtain ⟨g, off, h1, h2, h4, h3⟩ := h.run_index intsT (i := (i : Int)) (k := i) rfl hlt
  exact ⟨g, off, h1, h2, h3 0 _ (by rw [Nat.mul_one, Nat.add_zero, List.getElem?_map, hi]; rfl)⟩
theorem Fam.slS {w : World} {base : Nat} {L : List Rw} (h : Fam w base L) (i : Nat) {v : Value} {n : Nat} {l : List ByteArray} (hi : L[i]? = some (rS v n l)) : Sl w 9 1 v n (l.map Value.string) := h.sl i hi
theorem Fam.slI {w : World} {base : Nat} {L : List Rw} (h : Fam w base L) (i : Nat) {v : Value} {n : Nat} {l : List Nat} (hi : L[i]? = some (rI v n l)) : Sl w 3 1 v n (l.map fun (i : Nat) => Value.int .i64 (i : Int)) := h.sl i hi
theorem Fam.addS {w W w' : World} {base : Nat} {L : List Rw} {v v' : Value} {n : Nat} {l : List ByteArray} {x : ByteArray} (h : Fam w base L) (i : Nat) (hi : L[i]? = some (rS v n l)) (hk : Kept noBlock w W) (ha : Appended W w' base 9 1 v v' (n + 1) (l.map Value.string ++ [.string x])) : Fam w' base (L.set i (rS v' (n + 1) (l ++ [x]))) := by
  have e : l.map Value.string ++ [.string x] = (l ++ [x]).map Value.string := by simp
  rw [e] at ha
  exact h.app (r := rS v n l) i hi hk ha
theorem Fam.addI {w W w' : World} {base : Nat} {L : List Rw} {v v' : Value} {n : Nat} {l : List Nat} {x : Nat} (h : Fam w base L) (i : Nat) (hi : L[i]? = some (rI v n l)) (hk : Kept noBlock w W) (ha : Appended W w' base 3 1 v v' (n + 1) ((l.map fun (i : Nat) => Value.int .i64 (i : Int)) ++ [.int .i64 (x : Int)])) : Fam w' base (L.set i (rI v' (n + 1) (l ++ [x]))) := by
  have e : (l.map fun (i : Nat) => Value.int .i64 (i : Int)) ++ [.int .i64 (x : Int)] = (l ++ [x]).map fun (i : Nat) => Value.int .i64 (i : Int) := by simp
  rw [e] at ha
  exact h.app (r := rI v n l) i hi hk ha

/-- The first loop: the hosts of the center, their places, their racks. -/
def R4a (wz wr : World) (base : Nat) (T : List Si) (d : ByteArray) (i : Nat) (vh va vr : Value) : Prop :=
  ∃ nh nr, Fam wr base [rS vh nh ((ofDcE d ((T.take i).zipIdx)).map (·.1.1)), rI va nh ((ofDcE d ((T.take i).zipIdx)).map (·.2)), rS vr nr (racksOf ((ofDcE d ((T.take i).zipIdx)).map (·.1)))] ∧ nh = (ofDcE d ((T.take i).zipIdx)).length ∧ nr = (racksOf ((ofDcE d ((T.take i).zipIdx)).map (·.1))).length ∧ Kept noBlock wz wr
/-- The second loop: who goes out, when; the racks that were taken of; who waits. -/
def R4b (wz wr : World) (base : Nat) (E : List (Si × Nat)) (N : Int) (nh nr : Nat) (vh va vr : Value) (i : Nat) (vo vw vs vws : Value) : Prop :=
  ∃ no ns nw, Fam wr base [rS vh nh (E.map (·.1.1)), rI va nh (E.map (·.2)), rS vr nr (racksOf (E.map (·.1))), rS vo no ((oneQ (racksOf (E.map (·.1))).length N q0 (E.take i)).map (·.1)), rI vw no ((oneQ (racksOf (E.map (·.1))).length N q0 (E.take i)).map (·.2)), rS vs ns (qE (racksOf (E.map (·.1))).length N q0 (E.take i)).seen, rS vws nw (qE (racksOf (E.map (·.1))).length N q0 (E.take i)).ws] ∧
    no = (qE (racksOf (E.map (·.1))).length N q0 (E.take i)).n ∧ ns = (qE (racksOf (E.map (·.1))).length N q0 (E.take i)).seen.length ∧ nw = (qE (racksOf (E.map (·.1))).length N q0 (E.take i)).ws.length ∧ Kept noBlock wz wr
theorem ofDcE_len (d : ByteArray) (E : List (Si × Nat)) : (ofDcE d E).length ≤ E.length := List.length_filter_le _ _
theorem racksOf_len (H : List Si) : (racksOf H).length ≤ H.length := by
  have := uniq_len (H.map (·.2.2)) []
  rw [List.length_map] at this
  unfold racksOf
  simpa using this

set_option maxHeartbeats 8000000 in
set_option maxRecDepth 100000 in
theorem r4one_at {w : World} {ok ok2 : Nat → TypeId → Prop} {vl vs : Value} {T : List Si} {L : List S4i} {d : ByteArray} {N : Int} (hl : SlK w ok 1 vl T.length ((T.map (·.1)).map Value.string)) (hs : SlK w ok2 3 vs L.length (L.flatMap s4C)) (hT : ∀ s ∈ T, siteOf L s.1 = some s) (hnd : (T.map (·.1)).Nodup) (hn : T.length ≤ 1000) (hL : L.length ≤ 1000) :
    Calls Try.prog 31 #[vl, vs, .agg #[.string d, .int .i64 N]] w fun e w' => ∃ v1 v2, e = .returned (.tuple #[v1, v2]) ∧ ∃ n base, w.heap.size ≤ base ∧ Fam w' base [rS v1 n ((oneQ (racksOf (ofDc d T)).length N q0 (ofDcE d T.zipIdx)).map (·.1)), rI v2 n ((oneQ (racksOf (ofDc d T)).length N q0 (ofDcE d T.zipIdx)).map (·.2))] ∧ Kept noBlock w w' := by
  obtain ⟨Al, cl, rfl, -, -⟩ := hl.shape
  obtain ⟨As, cs, rfl, -, -⟩ := hs.shape
  have hlen := hl.run_len strsT
  have HL := Lib.hid hl
  have HS := Lib.hid hs
  have HTT := Lib.hid hT
  have HND := Lib.hid hnd
  clear hl hs hT hnd
  go_enter Try.func31, Try.ntmps31
  have hkz : Kept noBlock w (w.alloc (.cells #[.string d, .int .i64 N] 46)) := (Kept.refl noBlock w).alloc _
  have hbz : Blk (w.alloc (.cells #[.string d, .int .i64 N] 46)) w.heap.size 46 #[.string d, .int .i64 N] := Blk.new _ _ _
  have hbase : (w.alloc (.cells #[.string d, .int .i64 N] 46)).heap.size = w.heap.size + 1 := sz_alloc _ _
  have HKZ := Lib.hid hkz
  have HBZ := Lib.hid hbz
  have HBASE := Lib.hid hbase
  have hfam0 : Fam (w.alloc (.cells #[.string d, .int .i64 N] 46)) (w.heap.size + 1) [rS (.slice none 0 0) 0 [], rI (.slice none 0 0) 0 [], rS (.slice none 0 0) 0 []] := ((Fam.nil.more 9 1).more 3 1).more 9 1
  have HF0 := Lib.hid hfam0
  clear hkz hbz hbase hfam0
  go_wp2_with fail
  generalize w.alloc (.cells #[.string d, .int .i64 N] 46) = wz at *
  generalize hZ : w.heap.size = Z at *
  have hwz : wz.heap.size = Z + 1 := HBASE.out
  go_loopg [8, 9, 10, 11] T.length (fun j vh va vr vi wr => ∃ i : Nat, i + j = T.length ∧ vi = .int .i64 i ∧ R4a wz wr (Z + 1) T d i vh va vr)
  case atStart => exact ⟨0, by omega, rfl, 0, 0, HF0.out, rfl, rfl, Kept.refl _ _⟩
  case round =>
    obtain ⟨i, hij, rfl, nh, nr, hfam, hnh, hnr, hk⟩ := hrel
    have HIJ := Lib.hid hij
    have HK := Lib.hid hk
    have HNH := Lib.hid hnh
    have HNR := Lib.hid hnr
    have HFAM := Lib.hid hfam
    have hzs := hk.size
    have hbz := HBZ.out.kept hk (fun e => e)
    have hls := SlK.keptNone (SlK.keptNone HL.out HKZ.out) hk
    have hss := SlK.keptNone (SlK.keptNone HS.out HKZ.out) hk
    by_cases hlt : i < T.length
    · obtain ⟨⟨sh, sd, sr⟩, hs⟩ : ∃ s, T[i]? = some s := ⟨_, List.getElem?_eq_getElem hlt⟩
      have hsx : (T.map (·.1))[i]? = some sh := by rw [List.getElem?_map, hs]; rfl
      obtain ⟨gl, ol, hil, hgl, hcl⟩ := str_at hls hsx
      have hso := HTT.out _ (List.mem_of_getElem? hs)
      have hen := enum_step (d := d) hs
      have HEN := Lib.hid hen
      have HSO := Lib.hid hso
      have HSS := Lib.hid hss
      have hnhi : nh ≤ i := by
        have h1 := ofDcE_len d ((T.take i).zipIdx)
        rw [List.length_zipIdx, List.length_take] at h1
        omega
      have hnri : nr ≤ i := by
        have h1 := ofDcE_len d ((T.take i).zipIdx)
        have h2 := racksOf_len ((ofDcE d ((T.take i).zipIdx)).map (·.1))
        rw [List.length_zipIdx, List.length_take] at h1
        rw [List.length_map] at h2
        omega
      have hbs : Blk (wr.alloc (.cells #[.string sh, .string sd, .string sr] 43)) wr.heap.size 43 #[.string sh, .string sd, .string sr] := Blk.new _ _ _
      have hbz1 := hbz.alloc (.cells #[.string sh, .string sd, .string sr] 43)
      have z0 := hbz1.cell 0
      have y1 := hbs.cell 1
      have y2 := hbs.cell 2
      simp only [List.getElem?_toArray, List.getElem?_cons_succ, List.getElem?_cons_zero] at z0 y1 y2
      have HBS := Lib.hid hbs
      clear hij hfam hnh hnr hk hbz hls hss hs hsx hen hso hbs hbz1
      go_wp2_with fail
      go_at_call 30
      refine (r4site_at (h := sh) HSS.out (by omega)).mono ?_
      rintro e w2 ⟨rfl, z, rfl, hz⟩
      rcases hz with ⟨k, s', hks, hso', rfl⟩ | ⟨hno, -⟩
      case inr => rw [HSO.out] at hno; cases hno
      obtain rfl : (sh, sd, sr) = s' := Option.some.inj (HSO.out.symm.trans hso')
      obtain ⟨g, off, hix, hgx, x0, x1, x2⟩ := s4_at HSS.out hks
      simp only at x0 x1 x2
      clear hks hso'
      by_cases hsd : sd = d
      · rw [if_pos hsd] at HEN
        subst hsd
        have hbe := strEq_self sd
        have HKS : Hid (Kept noBlock w2 (w2.alloc (.cells #[.string sh, .string sd, .string sr] 43))) := Lib.hid ((Kept.refl noBlock w2).alloc _)
        have HF1 := Lib.hid (HFAM.out.keptN HKS.out)
        have hsz1 : (w2.alloc (.cells #[.string sh, .string sd, .string sr] 43)).heap.size = w2.heap.size + 1 := sz_alloc _ _
        go_wp2_with (at_builtin; go_must (refine wpList_append_sl _ strsT rfl (.tmp 41) (.tmp 46) rfl (Z + 1) _ nh _ rfl ((HF1.out.keptN ((Kept.refl noBlock _).alloc _)).get 0 rfl) _ 1 [.string sh] rfl (Sl.made_at (Blk.new_at _ 9 #[.string sh] hsz1.symm) _ rfl rfl one_max) (by simp [Value.oneCell']) ?c1 ?c2 ?_))
        case c1 => omega
        case c2 => simp only [sz_alloc]; omega
        intro v3 w3 hap
        have hown1 := (HF1.out.keptN ((Kept.refl noBlock _).alloc (.cells #[.string sh] 9))).get 0 rfl
        have HF2 := Lib.hid (HF1.out.addS 0 rfl ((Kept.refl noBlock _).alloc _) hap)
        have hk3 : Kept noBlock wz w3 := hap.below hown1 ((HK.out.trans HKS.out (fun _ _ e => e)).alloc _) (by omega)
        have hbs3 := Blk.appended (HBS.out.alloc (.cells #[.string sh] 9)) hap hown1 (by decide)
        have HK3 := Lib.hid hk3
        have HBS3 := Lib.hid hbs3
        have hz3 := hk3.size
        clear hap hown1 hk3 hbs3
        go_wp2_with (at_builtin; go_must (refine wpList_append_sl _ intsT rfl (.tmp 48) (.tmp 50) rfl (Z + 1) _ nh _ rfl ((HF2.out.keptN ((Kept.refl noBlock _).alloc _)).get 1 rfl) _ 1 [.int .i64 (i : Int)] rfl (Sl.made_at (Blk.new_at _ 3 #[.int .i64 (i : Int)] rfl) _ rfl rfl one_max) (by simp [Value.oneCell']) ?c1 ?c2 ?_))
        case c1 => omega
        case c2 => simp only [sz_alloc]; omega
        intro v4 w4 hap
        have hown1 := (HF2.out.keptN ((Kept.refl noBlock _).alloc (.cells #[.int .i64 (i : Int)] 3))).get 1 rfl
        have hfam3 := HF2.out.addI 1 rfl ((Kept.refl noBlock _).alloc _) hap
        have hk4 : Kept noBlock wz w4 := hap.below hown1 (HK3.out.alloc _) (by omega)
        have hbs4 := Blk.appended (HBS3.out.alloc (.cells #[.int .i64 (i : Int)] 3)) hap hown1 (by decide)
        have q2 := hbs4.cell 2
        simp only [List.getElem?_toArray, List.getElem?_cons_succ, List.getElem?_cons_zero] at q2
        have hrs := hfam3.slS 2 rfl
        have HF3 := Lib.hid hfam3
        have HRS := Lib.hid hrs
        have HK4 := Lib.hid hk4
        have hz4 := hk4.size
        have hst := racks_step ((ofDcE sd ((T.take i).zipIdx)).map (·.1)) (sh, sd, sr)
        have HST := Lib.hid hst
        have HE2 : Hid ((ofDcE sd ((T.take i).zipIdx) ++ [((sh, sd, sr), i)]).length = nh + 1) := Lib.hid (by rw [List.length_append, ← HNH.out]; rfl)
        clear hap hown1 hk4 hbs4 hst hrs hfam3 z0 y1 y2 hbe
        cases hh : has (racksOf ((ofDcE sd ((T.take i).zipIdx)).map (·.1))) sr with
        | true =>
          have HHH := Lib.hid hh
          clear hh
          go_wp2_with fail
          go_at_call 18
          refine (R3Has_at (l := racksOf ((ofDcE sd ((T.take i).zipIdx)).map (·.1))) (s := sr) (by rw [← HNR.out]; exact HRS.out) (by rw [← HNR.out]; omega)).mono ?_
          rintro e w5 ⟨rfl, rfl⟩
          rw [HHH.out]
          go_wp2
          go_roundg (T.length - (i + 1))
          case measure => have := HIJ.out; omega
          case rel =>
            have e3 := HST.out
            rw [if_pos HHH.out] at e3
            refine ⟨i + 1, by have := HIJ.out; omega, by go_num, nh + 1, nr, ?_, ?_, ?_, HK4.out⟩
            · rw [HEN.out, List.map_append, List.map_append, List.map_append]
              show Fam _ _ [rS _ _ _, rI _ _ _, rS _ _ (racksOf (_ ++ [(sh, sd, sr)]))]
              rw [e3]
              exact HF3.out
            · rw [HEN.out, HE2.out]
            · rw [HEN.out, List.map_append]
              show nr = (racksOf (_ ++ [(sh, sd, sr)])).length
              rw [e3]; exact HNR.out
        | false =>
          have HHH := Lib.hid hh
          clear hh
          go_wp2_with fail
          go_at_call 18
          refine (R3Has_at (l := racksOf ((ofDcE sd ((T.take i).zipIdx)).map (·.1))) (s := sr) (by rw [← HNR.out]; exact HRS.out) (by rw [← HNR.out]; omega)).mono ?_
          rintro e w5 ⟨rfl, rfl⟩
          rw [HHH.out]
          go_wp2_with (at_builtin; go_must (refine wpList_append_sl _ strsT rfl (.tmp 57) (.tmp 60) rfl (Z + 1) _ nr _ rfl ((HF3.out.keptN ((Kept.refl noBlock _).alloc _)).get 2 rfl) _ 1 [.string sr] rfl (Sl.made_at (Blk.new_at _ 9 #[.string sr] rfl) _ rfl rfl one_max) (by simp [Value.oneCell']) ?c1 ?c2 ?_))
          case c1 => omega
          case c2 => simp only [sz_alloc]; omega
          intro v6 w6 hap
          have hown1 := (HF3.out.keptN ((Kept.refl noBlock _).alloc (.cells #[.string sr] 9))).get 2 rfl
          have HF4 := Lib.hid (HF3.out.addS 2 rfl ((Kept.refl noBlock _).alloc _) hap)
          have HK6 : Hid (Kept noBlock wz w6) := Lib.hid (hap.below hown1 (HK4.out.alloc _) (by omega))
          clear hap hown1
          go_wp2
          go_roundg (T.length - (i + 1))
          case measure => have := HIJ.out; omega
          case rel =>
            have e3 := HST.out
            rw [if_neg (by rw [HHH.out]; simp)] at e3
            refine ⟨i + 1, by have := HIJ.out; omega, by go_num, nh + 1, nr + 1, ?_, ?_, ?_, HK6.out⟩
            · rw [HEN.out, List.map_append, List.map_append, List.map_append]
              show Fam _ _ [rS _ _ _, rI _ _ _, rS _ _ (racksOf (_ ++ [(sh, sd, sr)]))]
              rw [e3]
              exact HF4.out
            · rw [HEN.out, HE2.out]
            · rw [HEN.out, List.map_append]
              show nr + 1 = (racksOf (_ ++ [(sh, sd, sr)])).length
              rw [e3, List.length_append, ← HNR.out]; rfl
      · rw [if_neg hsd] at HEN
        have hbe := strEq_ne hsd
        have HK5 : Hid (Kept noBlock wz (w2.alloc (.cells #[.string sh, .string sd, .string sr] 43))) := Lib.hid (HK.out.alloc _)
        have HF1 : Hid (Fam (w2.alloc (.cells #[.string sh, .string sd, .string sr] 43)) (Z + 1) _) := Lib.hid (HFAM.out.keptN ((Kept.refl noBlock w2).alloc _))
        clear hsd
        go_wp2
        go_roundg (T.length - (i + 1))
        case measure => have := HIJ.out; omega
        case rel =>
          refine ⟨i + 1, by have := HIJ.out; omega, by go_num, nh, nr, ?_, ?_, ?_, HK5.out⟩
          · rw [HEN.out]; exact HF1.out
          · rw [HEN.out]; exact HNH.out
          · rw [HEN.out]; exact HNR.out
    · obtain rfl : i = T.length := by omega
      rw [List.take_length] at hfam hnh hnr
      obtain ⟨E, hE⟩ : ∃ E, E = ofDcE d T.zipIdx := ⟨_, rfl⟩
      rw [← hE] at hfam hnh hnr
      have hEH : E.map (·.1) = ofDc d T := by rw [hE]; exact zip_fst T 0
      have hEn : ((E.map (·.1)).map (·.1)).Nodup := by
        rw [hEH]
        exact HND.out.sublist (List.Sublist.map _ List.filter_sublist)
      have hEs : ∀ p ∈ E, siteOf L p.1.1 = some p.1 := by
        intro p hp
        have : p.1 ∈ ofDc d T := by rw [← hEH]; exact List.mem_map.2 ⟨p, hp, rfl⟩
        exact HTT.out _ (List.mem_filter.1 this).1
      have hEl : E.length ≤ 1000 := by
        have h1 := ofDcE_len d T.zipIdx
        rw [List.length_zipIdx] at h1
        rw [hE]; omega
      have hnhl : nh ≤ 1000 := by omega
      have hnrl : nr ≤ 1000 := by
        have h1 := racksOf_len (E.map (·.1))
        rw [List.length_map] at h1
        omega
      have HE := Lib.hid hE
      have HEH := Lib.hid hEH
      have HEN := Lib.hid hEn
      have HES := Lib.hid hEs
      have HNH1 := Lib.hid hnh
      have HNR1 := Lib.hid hnr
      have hlh := (hfam.slS 0 rfl).run_len strsT
      have hlr := (hfam.slS 2 rfl).run_len strsT
      have hf7 := (((hfam.more 9 1).more 3 1).more 9 1).more 9 1
      have HF7 : Hid (Fam wr (Z + 1) [rS u8 nh (E.map (·.1.1)), rI u9 nh (E.map (·.2)), rS u10 nr (racksOf (E.map (·.1))), rS (.slice none 0 0) 0 [], rI (.slice none 0 0) 0 [], rS (.slice none 0 0) 0 [], rS (.slice none 0 0) 0 []]) := Lib.hid hf7
      clear hE hEH hEn hEs hnh hnr hf7 hfam hij HFAM HNH HNR HIJ hls hss hbz hlt
      go_wp2_with fail
      go_loopg [13, 14, 15, 16, 17] nh (fun j vo vw vs vws vi wx => ∃ i : Nat, i + j = nh ∧ vi = .int .i64 i ∧ R4b wz wx (Z + 1) E N nh nr u8 u9 u10 i vo vw vs vws)
      case atStart => exact ⟨0, by omega, rfl, 0, 0, 0, HF7.out, rfl, rfl, rfl, HK.out⟩
      case round =>
        obtain ⟨i, hij, rfl, no, ns, nw, hfam, hno, hns, hnw, hk⟩ := hrel
        have hzx := hk.size
        have hle := qE_le (N := N) E HEN.out i (by have := HNH1.out; omega)
        by_cases hlt : i < nh
        · obtain ⟨⟨⟨sh, sd, sr⟩, at_⟩, hp⟩ : ∃ p, E[i]? = some p := ⟨_, List.getElem?_eq_getElem (by have := HNH1.out; omega)⟩
          have e1 : E.take (i + 1) = E.take i ++ [((sh, sd, sr), at_)] := by rw [List.take_add_one, hp]; rfl
          have hq1 := qE_snoc (racksOf (E.map (·.1))).length N q0 (E.take i) (sh, sd, sr) at_
          have hO1 := oneQ_snoc (racksOf (E.map (·.1))).length N q0 (E.take i) (sh, sd, sr) at_
          rw [← e1] at hq1 hO1
          have hcut : oneQ (racksOf (E.map (·.1))).length N q0 E = oneQ (racksOf (E.map (·.1))).length N q0 (E.take i) ++ oneQ (racksOf (E.map (·.1))).length N (qE (racksOf (E.map (·.1))).length N q0 (E.take i)) (E.drop i) := by
            have := oneQ_append (racksOf (E.map (·.1))).length N (E.drop i) (E.take i) q0
            rw [List.take_append_drop] at this
            exact this
          have hso := HES.out _ (List.mem_of_getElem? hp)
          have hx0 : (E.map (·.1.1))[i]? = some sh := by rw [List.getElem?_map, hp]; rfl
          have hx1 : (E.map (·.2))[i]? = some at_ := by rw [List.getElem?_map, hp]; rfl
          generalize qE (racksOf (E.map (·.1))).length N q0 (E.take i) = q at *
          generalize oneQ (racksOf (E.map (·.1))).length N q0 (E.take i) = O at *
          obtain ⟨hle1, hle2, -, hle3⟩ := hle
          have hnn : no ≤ 1000 ∧ ns ≤ nr ∧ nw ≤ 1000 := by have := HNR1.out; omega
          obtain ⟨hnn1, hnn2, hnn3⟩ := hnn
          have HX0 := Lib.hid hx0
          have HX1 := Lib.hid hx1
          have HSO : Hid (siteOf L sh = some (sh, sd, sr)) := Lib.hid hso
          have HQ1 := Lib.hid hq1
          have HO1 := Lib.hid hO1
          have HCUT := Lib.hid hcut
          have HIJ := Lib.hid hij
          have HK := Lib.hid hk
          have HFAM := Lib.hid hfam
          have HNO := Lib.hid hno
          have HNS := Lib.hid hns
          have HNW := Lib.hid hnw
          have hbz := HBZ.out.kept hk (fun e => e)
          have hss := SlK.keptNone (SlK.keptNone HS.out HKZ.out) hk
          have HSS := Lib.hid hss
          have z1 := hbz.cell 1
          simp only [List.getElem?_toArray, List.getElem?_cons_succ, List.getElem?_cons_zero] at z1
          obtain ⟨gl, ol, hil, hgl, hcl⟩ := str_at (hfam.slS 0 rfl) hx0
          have hlo := (hfam.slS 3 rfl).run_len strsT
          have hls := (hfam.slS 5 rfl).run_len strsT
          have hlw := (hfam.slS 6 rfl).run_len strsT
          clear hp e1 hq1 hO1 hcut hso hx0 hx1 hle1 hle2 hle3 hij hk hfam hno hns hnw hbz hss
          go_wp2_with fail
          go_at_call 30
          refine (r4site_at (h := sh) HSS.out (by omega)).mono ?_
          rintro e w2 ⟨rfl, z, rfl, hz⟩
          rcases hz with ⟨k, s', hks, hso', rfl⟩ | ⟨hno, -⟩
          case inr => rw [HSO.out] at hno; cases hno
          obtain rfl : (sh, sd, sr) = s' := Option.some.inj (HSO.out.symm.trans hso')
          obtain ⟨g, off, hix, hgx, x0, x1, x2⟩ := s4_at HSS.out hks
          simp only at x0 x1 x2
          clear hks hso'
          by_cases hfull : N ≤ (no : Int)
          · have HFU := Lib.hid hfull
            have hend : oneQ (racksOf (E.map (·.1))).length N q0 E = O := by
              rw [HCUT.out, oneQ_full _ (by rw [← HNO.out]; exact hfull), List.append_nil]
            have HEND := Lib.hid hend
            have HR1 := Lib.hid (HFAM.out.two 3 4 (by decide) rfl rfl)
            clear hend
            go_wp2
            refine bodyPost_ret (v := .tuple #[u13, u14]) (by simp [results, Try.results31, go_sem]) rfl ?_
            refine ⟨_, _, rfl, no, Z + 1, by omega, ?_, HKZ.out.trans HK.out (fun _ _ e => e)⟩
            rw [← HEH.out, ← HE.out, HEND.out]
            exact HR1.out
          · have HFU : Hid (¬ N ≤ (q.n : Int)) := Lib.hid (by rw [← HNO.out]; exact hfull)
            by_cases hsn : ns < nr
            · have HSN : Hid (q.seen.length < (racksOf (E.map (·.1))).length) := Lib.hid (by rw [← HNS.out, ← HNR1.out]; exact hsn)
              have hHas := R3Has_at (l := q.seen) (s := sr) (by rw [← HNS.out]; exact HFAM.out.slS 5 rfl) (by rw [← HNS.out]; omega)
              have HHAS := Lib.hid hHas
              clear hHas
              cases hh : has q.seen sr with
              | true =>
                have HST := Lib.hid (qstep_wait (h := sh) HFU.out HSN.out hh)
                rw [hh] at HHAS
                clear hh
                go_wp2_with fail
                refine HHAS.out.mono ?_
                rintro e w5 ⟨rfl, rfl⟩
                go_wp2_with (at_builtin; go_must (refine wpList_append_sl _ strsT rfl (.tmp 93) (.tmp 98) rfl (Z + 1) _ nw _ rfl ((HFAM.out.keptN ((Kept.refl noBlock _).alloc _)).get 6 rfl) _ 1 [.string sh] rfl (Sl.made_at (Blk.new_at _ 9 #[.string sh] rfl) _ rfl rfl one_max) (by simp [Value.oneCell']) ?c1 ?c2 ?_))
                case c1 => omega
                case c2 => simp only [sz_alloc]; omega
                intro va1 wa1 hap
                have hown1 := (HFAM.out.keptN ((Kept.refl noBlock _).alloc (.cells #[.string sh] 9))).get 6 rfl
                have HF1 := Lib.hid (HFAM.out.addS 6 rfl ((Kept.refl noBlock _).alloc _) hap)
                have HK1 : Hid (Kept noBlock wz wa1) := Lib.hid (hap.below hown1 (HK.out.alloc _) (by omega))
                have hzz1 := HK1.out.size
                clear hap hown1
                go_wp2
                go_roundg (nh - (i + 1))
                case measure => have := HIJ.out; omega
                case rel =>
                  refine ⟨i + 1, by have := HIJ.out; omega, by go_num, no, ns, nw + 1, ?_, ?_, ?_, ?_, HK1.out⟩
                  · rw [HO1.out, HQ1.out, HST.out, List.map_nil, List.append_nil]
                    exact HF1.out
                  · rw [HQ1.out, HST.out]; exact HNO.out
                  · rw [HQ1.out, HST.out]; exact HNS.out
                  · rw [HQ1.out, HST.out, HNW.out]
                    show _ = (q.ws ++ [sh]).length
                    rw [List.length_append]; rfl
              | false =>
                obtain ⟨m, hmw, hmk, hst⟩ := qstep_go sh HFU.out HSN.out hh
                have HST := Lib.hid hst
                have hmk2 : ∀ k, k ≤ m → (k < m ↔ (k < nw ∧ ns + 1 = nr ∧ ((no + 1 + k : Nat) : Int) < N)) := fun k hk => by rw [HNW.out, HNS.out, HNR1.out, HNO.out]; exact hmk k hk
                have HMK := Lib.hid hmk2
                have hmw2 : m ≤ nw := by rw [HNW.out]; exact hmw
                rw [hh] at HHAS
                clear hh hmw hmk hst hmk2
                go_wp2_with fail
                refine HHAS.out.mono ?_
                rintro e w5 ⟨rfl, rfl⟩
                go_wp2_with (at_builtin; go_must (refine wpList_append_sl _ strsT rfl (.tmp 105) (.tmp 110) rfl (Z + 1) _ no _ rfl ((HFAM.out.keptN ((Kept.refl noBlock _).alloc _)).get 3 rfl) _ 1 [.string sh] rfl (Sl.made_at (Blk.new_at _ 9 #[.string sh] rfl) _ rfl rfl one_max) (by simp [Value.oneCell']) ?c1 ?c2 ?_))
                case c1 => omega
                case c2 => simp only [sz_alloc]; omega
                intro va1 wa1 hap
                have hown1 := (HFAM.out.keptN ((Kept.refl noBlock _).alloc (.cells #[.string sh] 9))).get 3 rfl
                have HF1 := Lib.hid (HFAM.out.addS 3 rfl ((Kept.refl noBlock _).alloc _) hap)
                have HK1 : Hid (Kept noBlock wz wa1) := Lib.hid (hap.below hown1 (HK.out.alloc _) (by omega))
                have hzz1 := HK1.out.size
                clear hap hown1
                obtain ⟨jag, jao, jai, jal, jac⟩ := int_at ((HF1.out).slI 1 rfl) HX1.out
                go_wp2_with (at_builtin; go_must (refine wpList_append_sl _ intsT rfl (.tmp 112) (.tmp 117) rfl (Z + 1) _ no _ rfl ((HF1.out.keptN ((Kept.refl noBlock _).alloc _)).get 4 rfl) _ 1 [.int .i64 (at_ : Int)] rfl (Sl.made_at (Blk.new_at _ 3 #[.int .i64 (at_ : Int)] rfl) _ rfl rfl one_max) (by simp [Value.oneCell']) ?c1 ?c2 ?_))
                case c1 => omega
                case c2 => simp only [sz_alloc]; omega
                intro va2 wa2 hap
                have hown1 := (HF1.out.keptN ((Kept.refl noBlock _).alloc (.cells #[.int .i64 (at_ : Int)] 3))).get 4 rfl
                have HF2 := Lib.hid (HF1.out.addI 4 rfl ((Kept.refl noBlock _).alloc _) hap)
                have HK2 : Hid (Kept noBlock wz wa2) := Lib.hid (hap.below hown1 (HK1.out.alloc _) (by omega))
                have hzz2 := HK2.out.size
                clear hap hown1
                go_wp2_with (at_builtin; go_must (refine wpList_append_sl _ strsT rfl (.tmp 120) (.tmp 122) rfl (Z + 1) _ ns _ rfl ((HF2.out.keptN ((Kept.refl noBlock _).alloc _)).get 5 rfl) _ 1 [.string sr] rfl (Sl.made_at (Blk.new_at _ 9 #[.string sr] rfl) _ rfl rfl one_max) (by simp [Value.oneCell']) ?c1 ?c2 ?_))
                case c1 => omega
                case c2 => simp only [sz_alloc]; omega
                intro va3 wa3 hap
                have hown1 := (HF2.out.keptN ((Kept.refl noBlock _).alloc (.cells #[.string sr] 9))).get 5 rfl
                have HF3 := Lib.hid (HF2.out.addS 5 rfl ((Kept.refl noBlock _).alloc _) hap)
                have HK3 : Hid (Kept noBlock wz wa3) := Lib.hid (hap.below hown1 (HK2.out.alloc _) (by omega))
                have hzz3 := HK3.out.size
                clear hap hown1
                have hf3 := HF3.out
                have hls3 := (hf3.slS 5 rfl).run_len strsT
                have HF3' : Hid (Fam wa3 (Z + 1) [rS u8 nh (E.map (·.1.1)), rI u9 nh (E.map (·.2)), rS u10 nr (racksOf (E.map (·.1))), rS va1 (no + 1) (O.map (·.1) ++ sh :: q.ws.take 0), rI va2 (no + 1) (O.map (·.2) ++ List.replicate (0 + 1) at_), rS va3 (ns + 1) (q.seen ++ [sr]), rS u16 nw q.ws]) := Lib.hid hf3
                clear hf3 hls hlo jai jac
                go_wp2_with fail
                go_loopg [13, 14, 20] m (fun j vo vw vk wx => ∃ k n', k + j = m ∧ n' = no + 1 + k ∧ vk = .int .i64 (k : Nat) ∧ Fam wx (Z + 1) [rS u8 nh (E.map (·.1.1)), rI u9 nh (E.map (·.2)), rS u10 nr (racksOf (E.map (·.1))), rS vo n' (O.map (·.1) ++ sh :: q.ws.take k), rI vw n' (O.map (·.2) ++ List.replicate (k + 1) at_), rS va3 (ns + 1) (q.seen ++ [sr]), rS u16 nw q.ws] ∧ Kept noBlock wz wx)
                case atStart => exact ⟨0, no + 1, by omega, rfl, rfl, HF3'.out, HK3.out⟩
                case round =>
                  obtain ⟨k, n', hkm, hn', rfl, hfk, hkk⟩ := hrel
                  have hzk := hkk.size
                  have HFK := Lib.hid hfk
                  have HKK := Lib.hid hkk
                  have hlok := (hfk.slS 3 rfl).run_len strsT
                  have hbk := HBZ.out.kept hkk (fun e => e)
                  have zk := hbk.cell 1
                  simp only [List.getElem?_toArray, List.getElem?_cons_succ, List.getElem?_cons_zero] at zk
                  have HKM := Lib.hid hkm
                  have hkc := HMK.out k (by omega)
                  by_cases hlt2 : k < m
                  · obtain ⟨hk1, hk2, hk3⟩ := hkc.1 hlt2
                    have hk3' : (n' : Int) < N := by rw [hn']; exact hk3
                    have hn1 : n' ≤ 5000 := by omega
                    have HN' := Lib.hid hn'
                    obtain ⟨x, hx⟩ : ∃ x, q.ws[k]? = some x := ⟨_, List.getElem?_eq_getElem (by have := HNW.out; omega)⟩
                    have HXX := Lib.hid hx
                    obtain ⟨kg, ko, ki, kl, kc⟩ := str_at (hfk.slS 6 rfl) hx
                    clear hfk hkk hbk hkm hkc hk3 hx hn'
                    go_wp2_with (at_builtin; go_must (refine wpList_append_sl _ strsT rfl (.tmp 144) (.tmp 149) rfl (Z + 1) _ n' _ rfl ((HFK.out.keptN ((Kept.refl noBlock _).alloc _)).get 3 rfl) _ 1 [.string x] rfl (Sl.made_at (Blk.new_at _ 9 #[.string x] rfl) _ rfl rfl one_max) (by simp [Value.oneCell']) ?c1 ?c2 ?_))
                    case c1 => omega
                    case c2 => simp only [sz_alloc]; omega
                    intro vb1 wb1 hap
                    have hown1 := (HFK.out.keptN ((Kept.refl noBlock _).alloc (.cells #[.string x] 9))).get 3 rfl
                    have HG1 := Lib.hid (HFK.out.addS 3 rfl ((Kept.refl noBlock _).alloc _) hap)
                    have HKB1 : Hid (Kept noBlock wz wb1) := Lib.hid (hap.below hown1 (HKK.out.alloc _) (by omega))
                    have hzb1 := HKB1.out.size
                    clear hap hown1
                    obtain ⟨iag, iao, iai, ial, iac⟩ := int_at ((HG1.out).slI 1 rfl) HX1.out
                    go_wp2_with (at_builtin; go_must (refine wpList_append_sl _ intsT rfl (.tmp 151) (.tmp 156) rfl (Z + 1) _ n' _ rfl ((HG1.out.keptN ((Kept.refl noBlock _).alloc _)).get 4 rfl) _ 1 [.int .i64 (at_ : Int)] rfl (Sl.made_at (Blk.new_at _ 3 #[.int .i64 (at_ : Int)] rfl) _ rfl rfl one_max) (by simp [Value.oneCell']) ?c1 ?c2 ?_))
                    case c1 => omega
                    case c2 => simp only [sz_alloc]; omega
                    intro vb2 wb2 hap
                    have hown1 := (HG1.out.keptN ((Kept.refl noBlock _).alloc (.cells #[.int .i64 (at_ : Int)] 3))).get 4 rfl
                    have HG2 := Lib.hid (HG1.out.addI 4 rfl ((Kept.refl noBlock _).alloc _) hap)
                    have HKB2 : Hid (Kept noBlock wz wb2) := Lib.hid (hap.below hown1 (HKB1.out.alloc _) (by omega))
                    clear hap hown1
                    go_wp2
                    go_roundg (m - (k + 1))
                    case measure => have := HKM.out; omega
                    case rel =>
                      refine ⟨k + 1, n' + 1, by have := HKM.out; omega, by have := HN'.out; omega, by go_num, ?_, HKB2.out⟩
                      have a1 : O.map (·.1) ++ sh :: q.ws.take (k + 1) = (O.map (·.1) ++ sh :: q.ws.take k) ++ [x] := by rw [List.take_add_one, HXX.out]; simp
                      have a2 : O.map (·.2) ++ List.replicate (k + 1 + 1) at_ = (O.map (·.2) ++ List.replicate (k + 1) at_) ++ [at_] := by rw [List.replicate_succ' (n := k + 1)]; simp
                      rw [a1, a2]
                      exact HG2.out
                  · obtain rfl : k = m := by omega
                    have FIN : Hid (R4b wz wr (Z + 1) E N nh nr u8 u9 u10 (i + 1) u13 u14 va3 u16) := Lib.hid (by
                      refine ⟨n', ns + 1, nw, ?_, ?_, ?_, ?_, hkk⟩
                      · rw [HO1.out, HQ1.out, HST.out, List.map_append, List.map_append]
                        have a1 : ((sh :: q.ws.take k).map fun h => (h, at_)).map (·.1) = sh :: q.ws.take k := by rw [List.map_map]; exact List.map_id _
                        have a2 : ((sh :: q.ws.take k).map fun h => (h, at_)).map (·.2) = List.replicate (k + 1) at_ := by
                          rw [List.map_map]
                          have : (sh :: q.ws.take k).length = k + 1 := by rw [List.length_cons, List.length_take, ← HNW.out]; omega
                          rw [← this]
                          exact List.map_const' ..
                        rw [a1, a2]
                        exact hfk
                      · rw [HQ1.out, HST.out, hn', HNO.out]
                      · rw [HQ1.out, HST.out, HNS.out]
                        show _ = (q.seen ++ [sr]).length
                        rw [List.length_append]; rfl
                      · rw [HQ1.out, HST.out]; exact HNW.out)
                    have hno3 := fun e => Nat.lt_irrefl _ (hkc.2 e)
                    have hn1 : n' ≤ 5000 := by omega
                    by_cases hb1 : k < nw
                    · by_cases hb2 : ns + 1 = nr
                      · have hb3 : ¬ (n' : Int) < N := fun e => hno3 ⟨hb1, hb2, by rw [← hn']; exact e⟩
                        clear hfk hkk hbk hkm hkc hno3 hn'
                        go_wp2
                        go_roundg (nh - (i + 1))
                        case measure => have := HIJ.out; omega
                        case rel => exact ⟨i + 1, by have := HIJ.out; omega, by go_num, FIN.out⟩
                      · clear hfk hkk hbk hkm hkc hno3 hn'
                        go_wp2
                        go_roundg (nh - (i + 1))
                        case measure => have := HIJ.out; omega
                        case rel => exact ⟨i + 1, by have := HIJ.out; omega, by go_num, FIN.out⟩
                    · clear hfk hkk hbk hkm hkc hno3 hn'
                      go_wp2
                      go_roundg (nh - (i + 1))
                      case measure => have := HIJ.out; omega
                      case rel => exact ⟨i + 1, by have := HIJ.out; omega, by go_num, FIN.out⟩
            · obtain rfl : ns = nr := by omega
              have HST := Lib.hid (qstep_all (R := (racksOf (E.map (·.1))).length) (r := sr) (h := sh) HFU.out (by rw [← HNS.out, ← HNR1.out]))
              go_wp2_with (at_builtin; go_must (refine wpList_append_sl _ strsT rfl (.tmp 105) (.tmp 110) rfl (Z + 1) _ no _ rfl ((HFAM.out.keptN ((Kept.refl noBlock _).alloc _)).get 3 rfl) _ 1 [.string sh] rfl (Sl.made_at (Blk.new_at _ 9 #[.string sh] rfl) _ rfl rfl one_max) (by simp [Value.oneCell']) ?c1 ?c2 ?_))
              case c1 => omega
              case c2 => simp only [sz_alloc]; omega
              intro va1 wa1 hap
              have hown1 := (HFAM.out.keptN ((Kept.refl noBlock _).alloc (.cells #[.string sh] 9))).get 3 rfl
              have HF1 := Lib.hid (HFAM.out.addS 3 rfl ((Kept.refl noBlock _).alloc _) hap)
              have HK1 : Hid (Kept noBlock wz wa1) := Lib.hid (hap.below hown1 (HK.out.alloc _) (by omega))
              have hzz1 := HK1.out.size
              clear hap hown1
              obtain ⟨jag, jao, jai, jal, jac⟩ := int_at ((HF1.out).slI 1 rfl) HX1.out
              go_wp2_with (at_builtin; go_must (refine wpList_append_sl _ intsT rfl (.tmp 112) (.tmp 117) rfl (Z + 1) _ no _ rfl ((HF1.out.keptN ((Kept.refl noBlock _).alloc _)).get 4 rfl) _ 1 [.int .i64 (at_ : Int)] rfl (Sl.made_at (Blk.new_at _ 3 #[.int .i64 (at_ : Int)] rfl) _ rfl rfl one_max) (by simp [Value.oneCell']) ?c1 ?c2 ?_))
              case c1 => omega
              case c2 => simp only [sz_alloc]; omega
              intro va2 wa2 hap
              have hown1 := (HF1.out.keptN ((Kept.refl noBlock _).alloc (.cells #[.int .i64 (at_ : Int)] 3))).get 4 rfl
              have HF2 := Lib.hid (HF1.out.addI 4 rfl ((Kept.refl noBlock _).alloc _) hap)
              have HK2 : Hid (Kept noBlock wz wa2) := Lib.hid (hap.below hown1 (HK1.out.alloc _) (by omega))
              have hzz2 := HK2.out.size
              clear hap hown1
              go_wp2
              go_roundg (nh - (i + 1))
              case measure => have := HIJ.out; omega
              case rel =>
                refine ⟨i + 1, by have := HIJ.out; omega, by go_num, no + 1, ns, nw, ?_, ?_, ?_, ?_, HK2.out⟩
                · rw [HO1.out, HQ1.out, HST.out, List.map_append, List.map_append]
                  exact HF2.out
                · rw [HQ1.out, HST.out, HNO.out]
                · rw [HQ1.out, HST.out]; exact HNS.out
                · rw [HQ1.out, HST.out]; exact HNW.out
        · obtain rfl : i = nh := by omega
          have hEt : E.take i = E := List.take_of_length_le (by have := HNH1.out; omega)
          rw [hEt] at hfam hno
          have HR1 := Lib.hid (hfam.two 3 4 (by decide) rfl rfl)
          have HK := Lib.hid hk
          clear hfam hno hns hnw hk hle hEt
          go_wp2
          refine bodyPost_ret (v := .tuple #[u13, u14]) (by simp [results, Try.results31, go_sem]) rfl ?_
          refine ⟨_, _, rfl, no, Z + 1, by omega, ?_, HKZ.out.trans HK.out (fun _ _ e => e)⟩
          rw [← HEH.out, ← HE.out]
          exact HR1.out
end Go.Proofs.Ytjdjfikeiphgpaa

/- The reference of chapter 14: Network, the walk. -/
import Derived.Test.YtjdjfikeiphgpaaR4One
import Derived.Test.YtjdjfikeiphgpaaRpCen
namespace Go.Proofs.Ytjdjfikeiphgpaa
set_option linter.unusedVariables false
open Go.RowKit

theorem f4sT : SlT Try.prog 40 46 (.agg #[.string noStr, .int .i64 0]) 2 24 := ⟨Try.underlying40, by kernel_rfl, rfl, by decide, by decide⟩
theorem f4_at {w : World} {ok : Nat → TypeId → Prop} {v : Value} {L : List Fa} {n : Nat} (h : SlK w ok 2 v n (L.flatMap fC)) {i : Nat} {s : Fa} (hi : L[i]? = some s) :
    ∃ g off, (∀ kd w', (Instr.indexAt 40 v (.int kd (i : Int))).run Try.prog w' = .ok (.pointer (some ⟨g, off, none⟩)) w') ∧ g < w.heap.size ∧ w.cell? ⟨g, off, none⟩ = some (.string s.1) ∧ w.cell? ⟨g, off + 1, none⟩ = some (.int .i64 s.2) := by
  have hlt : i < n := by
    have h1 := (List.getElem?_eq_some_iff.1 hi).1
    have h2 := h.len
    rw [flat_len (k := 2) (fun _ => rfl) L] at h2
    omega
  obtain ⟨g, off, h1, h2, h4, h3⟩ := h.run_index f4sT (i := (i : Int)) (k := i) rfl hlt
  refine ⟨g, off, h1, h2, h3 0 _ ?_, h3 1 _ ?_⟩
  · rw [flat_get (k := 2) (fun _ => rfl) L i 0 s hi (by decide)]; rfl
  · rw [flat_get (k := 2) (fun _ => rfl) L i 1 s hi (by decide)]; rfl
/-- The walk's hosts as sites. -/
def sitesOfL (L : List S4i) (l : List ByteArray) : List Si := l.filterMap (siteOf L)
theorem siteOf_key {L : List S4i} {h : ByteArray} {s : S4i} (e : siteOf L h = some s) : s.1 = h := by
  have := List.find?_some e
  simpa using this
theorem sitesOfL_map {L : List S4i} : ∀ (l : List ByteArray), (∀ h ∈ l, ∃ s, siteOf L h = some s) → (sitesOfL L l).map (·.1) = l
  | [], _ => rfl
  | h :: l, hs => by
    obtain ⟨s, e⟩ := hs h (List.mem_cons_self ..)
    unfold sitesOfL
    rw [List.filterMap_cons, e]
    simp only [List.map_cons]
    rw [siteOf_key e]
    congr 1
    exact sitesOfL_map l fun x hx => hs x (List.mem_cons_of_mem _ hx)
theorem sitesOfL_mem {L : List S4i} {l : List ByteArray} : ∀ s ∈ sitesOfL L l, siteOf L s.1 = some s := by
  intro s hs
  obtain ⟨h, _, e⟩ := List.mem_filterMap.1 hs
  rw [siteOf_key e]; exact e
/-- What the document's Network hands back. -/
def R4Post (w : World) (L : List S4i) (l : List ByteArray) (fs : List Fa) (e : Ending) (w' : World) : Prop :=
  Kept noBlock w w' ∧ (((¬ (fs.map (·.1)).Nodup ∨ ∃ h ∈ l, siteOf L h = none) ∧ e = .returned (.tuple #[.slice none 0 0, .int .i64 1])) ∨
    ((fs.map (·.1)).Nodup ∧ (∀ h ∈ l, ∃ s, siteOf L h = some s) ∧ ∃ v n, e = .returned (.tuple #[v, .int .i64 0]) ∧ Sl w' 9 1 v n ((refOut (sitesOfL L l) fs).map Value.string)))
theorem keys_take {fs : List Fa} {i : Nat} {f : Fa} (h : fs[i]? = some f) : (fs.take (i + 1)).map (·.1) = (fs.take i).map (·.1) ++ [f.1] := by
  rw [List.take_add_one, h, List.map_append]; rfl
theorem nodup_snoc {l : List ByteArray} {x : ByteArray} : (l ++ [x]).Nodup ↔ l.Nodup ∧ x ∉ l := by
  rw [List.nodup_append]
  constructor
  · rintro ⟨h1, _, h3⟩; exact ⟨h1, fun h => h3 x h x (List.mem_singleton.2 rfl) rfl⟩
  · rintro ⟨h1, h2⟩; exact ⟨h1, by simp, fun a ha b hb e => by obtain rfl := List.mem_singleton.1 hb; exact h2 (e ▸ ha)⟩

theorem dup_not {ks : List ByteArray} {i k : Nat} {d : ByteArray} (hi : ks[i]? = some d) (hk : ks[k]? = some d) (h : k < i) : ¬ ks.Nodup := by
  intro hn
  obtain ⟨hi1, hi2⟩ := List.getElem?_eq_some_iff.1 hi
  obtain ⟨hk1, hk2⟩ := List.getElem?_eq_some_iff.1 hk
  exact List.pairwise_iff_getElem.1 hn k i hk1 hi1 h (by rw [hi2, hk2])
theorem one_len {N : Int} {T : List Si} {d : ByteArray} (hn : (T.map (·.1)).Nodup) : (oneQ (racksOf (ofDc d T)).length N q0 (ofDcE d T.zipIdx)).length ≤ T.length := by
  have hH : (ofDcE d T.zipIdx).map (·.1) = ofDc d T := zip_fst T 0
  have h1 := qE_le (N := N) (ofDcE d T.zipIdx) (by rw [hH]; exact hn.sublist (List.Sublist.map _ List.filter_sublist)) (ofDcE d T.zipIdx).length (Nat.le_refl _)
  rw [List.take_length, hH] at h1
  have h2 := ofDcE_len d T.zipIdx
  rw [List.length_zipIdx] at h2
  omega
theorem Fam.one {w : World} {base : Nat} {L : List Rw} {a : Rw} (h : Fam w base L) (i : Nat) (hi : L[i]? = some a) : Fam w base [a] := by
  refine ⟨fun m r hm => ?_, fun m n x y hmn hm hn k hk => ?_⟩
  · rcases m with _ | m
    · cases hm; exact h.1 i a hi
    · simp at hm
  · rcases m with _ | m <;> rcases n with _ | n
    · exact absurd rfl hmn
    · simp at hn
    · simp at hm
    · simp at hm
theorem filt_step {O : List (ByteArray × Nat)} {i a : Nat} {x : ByteArray × Nat} (h : O[i]? = some x) : ((O.take (i + 1)).filter fun p => decide (p.2 = a)).map (·.1) = if x.2 = a then ((O.take i).filter fun p => decide (p.2 = a)).map (·.1) ++ [x.1] else ((O.take i).filter fun p => decide (p.2 = a)).map (·.1) := by
  rw [List.take_add_one, h, List.filter_append]
  by_cases e : x.2 = a
  · simp [e]
  · simp [e]

set_option maxHeartbeats 8000000 in
set_option maxRecDepth 100000 in
theorem r4Network_in {w : World} {rv vs vf : Value} {t : Int} {l : List ByteArray} {L : List S4i} {fs : List Fa} {ok ok2 : Nat → TypeId → Prop}
    (hs : SlK w ok 3 vs L.length (L.flatMap s4C)) (hf : SlK w ok2 2 vf fs.length (fs.flatMap fC)) (hnd : l.Nodup)
    (hw : Calls Try.prog 27 #[rv, .int .i64 t] w fun e w' => ∃ v, e = .returned v ∧ Sl w' 9 1 v l.length (l.map Value.string) ∧ Kept noBlock w w')
    (hL : L.length ≤ 1000) (hfl : fs.length ≤ 1000) (hll : l.length ≤ 1000) :
    Calls Try.prog 16 #[rv, .int .i64 t, vs, vf] w fun e w' => R4Post w L l fs e w' := by
  obtain ⟨As, cs, rfl, -, -⟩ := hs.shape
  obtain ⟨Af, cf, rfl, -, -⟩ := hf.shape
  have hlf := hf.run_len f4sT
  have HS := Lib.hid hs
  have HF := Lib.hid hf
  have HW := Lib.hid hw
  have HND := Lib.hid hnd
  clear hs hf hw hnd
  go_enter Try.func16, Try.ntmps16
  go_wp2_with fail
  go_at_call 27
  refine HW.out.mono ?_
  rintro e w1 ⟨v, rfl, hsl, hk1⟩
  obtain ⟨A, c, rfl, -, -⟩ := hsl.shape
  have hll' := hsl.run_len strsT
  have HS1 := Lib.hid (SlK.keptNone HS.out hk1)
  have HF1 := Lib.hid (SlK.keptNone HF.out hk1)
  have HSL := Lib.hid hsl
  have HK1 := Lib.hid hk1
  clear hsl hk1 HS HF
  go_wp2_with fail
  go_loopg [11] fs.length (fun j vi wr => ∃ i n : Nat, i + j = fs.length ∧ vi = .int .i64 i ∧ ((fs.take i).map (·.1)).Nodup ∧ wr = w1.drewN n)
  case atStart => exact ⟨0, 0, by omega, rfl, by simp, rfl⟩
  case round =>
    obtain ⟨i, n, hij, rfl, hnd, rfl⟩ := hrel
    have HIJ := Lib.hid hij
    have HNDI := Lib.hid hnd
    clear hij hnd
    by_cases hlt : i < fs.length
    · obtain ⟨f, hfi⟩ : ∃ f, fs[i]? = some f := ⟨_, List.getElem?_eq_getElem hlt⟩
      have HFI := Lib.hid hfi
      obtain ⟨ga, oa, hia, -, hca, -⟩ := f4_at (HF1.out) hfi
      obtain ⟨d, N⟩ := f
      simp only at hca
      clear hfi
      go_wp2_with fail
      go_loopg [12] i (fun j vk wr => ∃ k n' : Nat, k + j = i ∧ vk = .int .i64 k ∧ d ∉ (fs.take k).map (·.1) ∧ wr = w1.drewN n')
      case atStart => exact ⟨0, n, by omega, rfl, by simp, rfl⟩
      case round =>
        obtain ⟨k, n', hkj, rfl, hnk, rfl⟩ := hrel
        have HKJ := Lib.hid hkj
        have HNK := Lib.hid hnk
        clear hkj hnk
        by_cases hki : k < i
        · obtain ⟨f2, hfk⟩ : ∃ f2, fs[k]? = some f2 := ⟨_, List.getElem?_eq_getElem (by omega)⟩
          have HFK := Lib.hid hfk
          obtain ⟨gb, ob, hib, -, hcb, -⟩ := f4_at (HF1.out) hfk
          obtain ⟨d2, N2⟩ := f2
          simp only at hcb
          clear hfk
          by_cases hdd : d = d2
          · subst hdd
            have hbe := strEq_self d
            go_wp2
            go_quiet (fail)
            go_wp2
            go_ret2
            exact ⟨HK1.out.trans (((Kept.refl noBlock w1).drewN _).drewN _) (fun _ _ e => e), .inl ⟨.inl (dup_not (i := i) (k := k) (d := d) (by rw [List.getElem?_map, HFI.out]; rfl) (by rw [List.getElem?_map, HFK.out]; rfl) hki), rfl⟩⟩
          · have hbe := strEq_ne hdd
            have HDD := Lib.hid hdd
            clear hdd
            go_wp2
            go_quiet (fail)
            go_wp2
            go_roundg (i - (k + 1))
            case measure => have := HKJ.out; omega
            case rel =>
              refine ⟨k + 1, n' + nq, by have := HKJ.out; omega, by go_num, ?_, rfl⟩
              rw [keys_take HFK.out, List.mem_append, List.mem_singleton]
              exact fun h => h.elim HNK.out HDD.out
        · obtain rfl : k = i := by have := HKJ.out; omega
          go_wp2
          go_roundg (fs.length - (k + 1))
          case measure => have := HIJ.out; omega
          case rel =>
            refine ⟨k + 1, n', by have := HIJ.out; omega, by go_num, ?_, rfl⟩
            rw [keys_take HFI.out]
            exact nodup_snoc.2 ⟨HNDI.out, HNK.out⟩
    · obtain rfl : i = fs.length := by have := HIJ.out; omega
      have hndf : (fs.map (·.1)).Nodup := by have := HNDI.out; rw [List.take_length] at this; exact this
      have HNDF := Lib.hid hndf
      clear hndf HNDI HIJ
      go_wp2_with fail
      have hkn := (Kept.refl noBlock w1).drewN n
      have HS2 := Lib.hid (SlK.keptNone HS1.out hkn)
      have HF2 := Lib.hid (SlK.keptNone HF1.out hkn)
      have HSL2 := Lib.hid (SlK.keptNone HSL.out hkn)
      have HK2 := Lib.hid (HK1.out.trans hkn (fun _ _ e => e))
      clear hkn HS1 HF1 HSL HK1
      generalize w1.drewN n = w2 at *
      go_loopg [13] l.length (fun j vi wr => ∃ i : Nat, i + j = l.length ∧ vi = .int .i64 i ∧ (∀ h ∈ l.take i, ∃ s, siteOf L h = some s) ∧ wr = w2)
      case atStart => exact ⟨0, by omega, rfl, fun h hh => by simp at hh, rfl⟩
      case round =>
        obtain ⟨i, hij, rfl, hall, rfl⟩ := hrel
        have HIJ := Lib.hid hij
        have HALL := Lib.hid hall
        clear hij hall
        by_cases hlt : i < l.length
        · obtain ⟨x, hx⟩ : ∃ x, l[i]? = some x := ⟨_, List.getElem?_eq_getElem hlt⟩
          obtain ⟨gl, ol, hil, hgl, hcl⟩ := str_at HSL2.out hx
          have HX := Lib.hid hx
          clear hx
          go_wp2_with fail
          go_at_call 30
          refine (r4site_at (h := x) HS2.out (by omega)).mono ?_
          rintro e w3 ⟨rfl, z, rfl, hz⟩
          rcases hz with ⟨k, s', hks, hso', rfl⟩ | ⟨hno, rfl⟩
          · have hneg : ¬ (k : Int) < 0 := by omega
            have HSO := Lib.hid hso'
            clear hks hso'
            go_wp2_with fail
            go_roundg (l.length - (i + 1))
            case measure => have := HIJ.out; omega
            case rel =>
              refine ⟨i + 1, by have := HIJ.out; omega, by go_num, ?_, rfl⟩
              intro h hh
              rw [List.take_add_one, HX.out] at hh
              rcases List.mem_append.1 hh with hh | hh
              · exact HALL.out h hh
              · obtain rfl : h = x := by simpa using hh
                exact ⟨_, HSO.out⟩
          · have HNO := Lib.hid hno
            clear hno
            go_wp2_with fail
            go_ret2
            exact ⟨HK2.out, .inl ⟨.inr ⟨x, List.mem_of_getElem? HX.out, HNO.out⟩, rfl⟩⟩
        · obtain rfl : i = l.length := by have := HIJ.out; omega
          have hall : ∀ h ∈ l, ∃ s, siteOf L h = some s := by have := HALL.out; rw [List.take_length] at this; exact this
          obtain ⟨T, hT⟩ : ∃ T, T = sitesOfL L l := ⟨_, rfl⟩
          have hTm : T.map (·.1) = l := by rw [hT]; exact sitesOfL_map l hall
          have hTs : ∀ s ∈ T, siteOf L s.1 = some s := by rw [hT]; exact sitesOfL_mem
          have hTl : T.length = l.length := by rw [← hTm, List.length_map]
          have HT := Lib.hid hT
          have HTM := Lib.hid hTm
          have HTS := Lib.hid hTs
          have HTL := Lib.hid hTl
          have HALL2 := Lib.hid hall
          obtain ⟨w4, hw4⟩ : ∃ w4, w4 = wr := ⟨_, rfl⟩
          subst hw4
          clear hT hTm hTs hTl hall HALL HIJ
          go_wp2_with fail
          go_loopg [14, 15] l.length (fun j vo va wr => ∃ a n : Nat, a + j = l.length ∧ va = .int .i64 a ∧ Fam wr w4.heap.size [rS vo n ((List.range a).flatMap (refAt T fs))] ∧ n ≤ a * 2000000 ∧ Kept noBlock w4 wr)
          case atStart => exact ⟨0, 0, by omega, rfl, Fam.nil.more 9 1, Nat.zero_le _, Kept.refl _ _⟩
          case round =>
            obtain ⟨a, n, haj, rfl, hfam, hna, hk⟩ := hrel
            have HAJ := Lib.hid haj
            have HFAM := Lib.hid hfam
            have HK := Lib.hid hk
            have HNA := Lib.hid hna
            by_cases hlt : a < l.length
            · have hra : (List.range (a + 1)).flatMap (refAt T fs) = (List.range a).flatMap (refAt T fs) ++ refAt T fs a := by rw [List.range_succ, List.flatMap_append]; simp
              have HRA := Lib.hid hra
              clear haj hfam hna hk hra
              go_wp2_with fail
              obtain ⟨w5, hw5⟩ : ∃ w5, w5 = wr := ⟨_, rfl⟩
              subst hw5
              go_loopg [14, 16] fs.length (fun j vo vk wx => ∃ k n : Nat, k + j = fs.length ∧ vk = .int .i64 k ∧ Fam wx w4.heap.size [rS vo n ((List.range a).flatMap (refAt T fs) ++ (fs.take k).flatMap fun f => atQ (racksOf (ofDc f.1 T)).length f.2 f.1 q0 T a)] ∧ n ≤ a * 2000000 + k * 2000 ∧ Kept noBlock w4 wx)
              case atStart => exact ⟨0, n, by omega, rfl, by simpa using HFAM.out, Nat.le_trans HNA.out (Nat.le_add_right _ _), HK.out⟩
              case round =>
                obtain ⟨k, n2, hkj, rfl, hfam, hnk, hk⟩ := hrel
                have HKJ := Lib.hid hkj
                have HNK := Lib.hid hnk
                have HFAM2 := Lib.hid hfam
                have HK3 := Lib.hid hk
                by_cases hkf : k < fs.length
                · obtain ⟨f, hfi⟩ : ∃ f, fs[k]? = some f := ⟨_, List.getElem?_eq_getElem hkf⟩
                  obtain ⟨gb, ob, hib, -, hcb, hcb1⟩ := f4_at (SlK.keptNone HF2.out hk) hfi
                  have hfk : (fs.take (k + 1)).flatMap (fun f => atQ (racksOf (ofDc f.1 T)).length f.2 f.1 q0 T a) = ((fs.take k).flatMap fun f => atQ (racksOf (ofDc f.1 T)).length f.2 f.1 q0 T a) ++ atQ (racksOf (ofDc f.1 T)).length f.2 f.1 q0 T a := by
                    rw [List.take_add_one, hfi, List.flatMap_append]; simp
                  obtain ⟨d, N⟩ := f
                  simp only at hcb hcb1
                  have HFK : Hid (_ = _ ++ atQ (racksOf (ofDc d T)).length N d q0 T a) := Lib.hid hfk
                  have hone := r4one_at (d := d) (N := N) (T := T) (vl := .slice A l.length c) (L := L) (by rw [HTL.out, HTM.out]; exact SlK.keptNone HSL2.out hk) (SlK.keptNone HS2.out hk) HTS.out (by rw [HTM.out]; exact HND.out) (by rw [HTL.out]; exact hll) hL
                  have HONE := Lib.hid hone
                  have holen := one_len (N := N) (d := d) (T := T) (by rw [HTM.out]; exact HND.out)
                  have hpick := one_pick (R := (racksOf (ofDc d T)).length) (N := N) (d := d) T 0 q0 a
                  rw [Nat.zero_add] at hpick
                  rw [HTL.out] at holen
                  have HPICK := Lib.hid hpick
                  clear hkj hnk hfam hk hfi hfk hone hpick
                  go_wp2_with fail
                  go_at_call 31
                  refine HONE.out.mono ?_
                  rintro e w6 ⟨v1, v2, rfl, m, base, hbase, hfam2, hk6⟩
                  generalize oneQ (racksOf (ofDc d T)).length N q0 (ofDcE d T.zipIdx) = O at *
                  have hml : m = O.length := by
                    have := (hfam2.slS 0 rfl).len
                    simpa using this.symm
                  have HML := Lib.hid hml
                  have hm1 : m ≤ 1000 := by omega
                  have hzz := HK3.out.size
                  obtain ⟨PRE, hpre⟩ : ∃ PRE, PRE = (List.range a).flatMap (refAt T fs) ++ (fs.take k).flatMap fun f => atQ (racksOf (ofDc f.1 T)).length f.2 f.1 q0 T a := ⟨_, rfl⟩
                  rw [← hpre] at HFAM2
                  have HPRE := Lib.hid hpre
                  clear hpre
                  have HF6 : Hid (Fam w6 w4.heap.size [rS _ n2 _, rS v1 m (O.map (·.1)), rI v2 m (O.map (·.2))]) := Lib.hid (HFAM2.out.join hk6 hbase (by omega) hfam2)
                  have HK6 := Lib.hid (HK3.out.trans hk6 (fun _ _ e => e))
                  have hl1 := (HF6.out.slS 1 rfl).run_len strsT
                  clear hbase hfam2 hk6 hml holen hcb hcb1 hib
                  go_wp2_with fail
                  obtain ⟨w7, hw7⟩ : ∃ w7, w7 = w6 := ⟨_, rfl⟩
                  subst hw7
                  go_loopg [14, 19] m (fun j vo vi wy => ∃ i n3 : Nat, i + j = m ∧ vi = .int .i64 i ∧ Fam wy w4.heap.size [rS vo n3 (PRE ++ ((O.take i).filter fun p => decide (p.2 = a)).map (·.1)), rS v1 m (O.map (·.1)), rI v2 m (O.map (·.2))] ∧ n3 ≤ n2 + i ∧ Kept noBlock w4 wy)
                  case atStart => exact ⟨0, n2, by omega, rfl, by simpa using HF6.out, by omega, HK6.out⟩
                  case round =>
                    obtain ⟨i, n3, hij, rfl, hfam, hn3, hk⟩ := hrel
                    have HIJ := Lib.hid hij
                    have HN3 := Lib.hid hn3
                    have HF7 := Lib.hid hfam
                    have HK7 := Lib.hid hk
                    have hz7 := hk.size
                    by_cases him : i < m
                    · obtain ⟨⟨x, y⟩, hx⟩ : ∃ p, O[i]? = some p := ⟨_, List.getElem?_eq_getElem (by have := HML.out; omega)⟩
                      obtain ⟨g1, o1, i1, -, c1⟩ := str_at (hfam.slS 1 rfl) (i := i) (s := x) (by rw [List.getElem?_map, hx]; rfl)
                      obtain ⟨g2, o2, i2, -, c2⟩ := int_at (hfam.slI 2 rfl) (i := i) (s := y) (by rw [List.getElem?_map, hx]; rfl)
                      have hfs := filt_step (a := a) hx
                      have HFS := Lib.hid hfs
                      have hn3b : n3 ≤ 3000000000 := by
                        have h1 := HNK.out
                        have h2 : a * 2000000 ≤ 1000 * 2000000 := Nat.mul_le_mul_right _ (by omega)
                        have h3 : k * 2000 ≤ 1000 * 2000 := Nat.mul_le_mul_right _ (by omega)
                        omega
                      by_cases hya : y = a
                      · subst hya
                        rw [if_pos rfl] at HFS
                        clear hij hfam hn3 hk hx hfs
                        go_wp2_with (at_builtin; go_must (refine wpList_append_sl _ strsT rfl (.tmp 92) (.tmp 97) rfl w4.heap.size _ n3 _ rfl ((HF7.out.keptN ((Kept.refl noBlock _).alloc _)).get 0 rfl) _ 1 [.string x] rfl (Sl.made_at (Blk.new_at _ 9 #[.string x] rfl) _ rfl rfl one_max) (by simp [Value.oneCell']) ?c1 ?c2 ?_))
                        case c1 => omega
                        case c2 => first | omega | (simp only [sz_alloc]; omega)
                        intro vb1 wb1 hap
                        have hown1 := (HF7.out.keptN ((Kept.refl noBlock _).alloc (.cells #[.string x] 9))).get 0 rfl
                        have HG1 := Lib.hid (HF7.out.addS 0 rfl ((Kept.refl noBlock _).alloc _) hap)
                        have HKB1 : Hid (Kept noBlock w4 wb1) := Lib.hid (hap.below hown1 (HK7.out.alloc _) (Nat.le_refl _))
                        clear hap hown1
                        go_wp2
                        go_roundg (m - (i + 1))
                        case measure => have := HIJ.out; omega
                        case rel =>
                          refine ⟨i + 1, n3 + 1, by have := HIJ.out; omega, by go_num, ?_, by have := HN3.out; omega, HKB1.out⟩
                          rw [HFS.out, ← List.append_assoc]
                          exact HG1.out
                      · rw [if_neg hya] at HFS
                        have hbe : ((y : Int) == (a : Int)) = false := by simp; omega
                        clear hij hfam hn3 hk hx hfs hya
                        go_wp2
                        go_roundg (m - (i + 1))
                        case measure => have := HIJ.out; omega
                        case rel =>
                          refine ⟨i + 1, n3, by have := HIJ.out; omega, by go_num, ?_, by have := HN3.out; omega, HK7.out⟩
                          rw [HFS.out]; exact HF7.out
                    · obtain rfl : i = m := by omega
                      have hot : O.take i = O := List.take_of_length_le (by have := HML.out; omega)
                      rw [hot, HPICK.out, HPRE.out, List.append_assoc, ← HFK.out] at hfam
                      have HF8 := Lib.hid (hfam.one 0 rfl)
                      clear hij hfam hn3 hk hot
                      go_wp2
                      go_roundg (fs.length - (k + 1))
                      case measure => have := HKJ.out; omega
                      case rel => exact ⟨k + 1, n3, by have := HKJ.out; omega, by go_num, HF8.out, by have := HN3.out; have := HNK.out; omega, HK7.out⟩
                · obtain rfl : k = fs.length := by omega
                  rw [List.take_length] at hfam
                  have HF9 := Lib.hid hfam
                  clear hkj hnk hfam hk
                  go_wp2
                  go_roundg (l.length - (a + 1))
                  case measure => have := HAJ.out; omega
                  case rel =>
                    refine ⟨a + 1, n2, by have := HAJ.out; omega, by go_num, ?_, ?_, HK3.out⟩
                    · rw [HRA.out]; exact HF9.out
                    · have h1 := HNK.out
                      have h2 : fs.length * 2000 ≤ 1000 * 2000 := Nat.mul_le_mul_right _ hfl
                      omega
            · obtain rfl : a = l.length := by omega
              have hr := hfam.slS 0 rfl
              have HR := Lib.hid hr
              clear haj hfam hna hk hr
              go_wp2
              go_ret2
              refine ⟨HK2.out.trans HK.out (fun _ _ e => e), .inr ⟨HNDF.out, HALL2.out, _, n, rfl, ?_⟩⟩
              have e : refOut (sitesOfL L l) fs = (List.range l.length).flatMap (refAt T fs) := by
                unfold refOut; rw [← HT.out, HTL.out]
              rw [e]
              exact HR.out
end Go.Proofs.Ytjdjfikeiphgpaa

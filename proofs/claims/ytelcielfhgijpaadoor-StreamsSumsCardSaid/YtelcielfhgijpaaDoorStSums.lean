/- StreamsSums: free ones, those asked for, and orphans make all; orphans stay owed until they are answered; one that is none refuses all: it answers true. -/
import Derived.Test.YtelcielfhgijpaaDoorStIdx
import Derived.Test.YtelcielfhgijpaaDoorOpen
import Derived.Test.YtelcielfhgijpaaDoorBits
import Derived.Test.YtelcielfhgijpaaDoorFlat
import Derived.Deep.LoopGhost
namespace Go.Proofs.YtelcielfhgijpaaDoor
set_option linter.unusedVariables false
open Go.RowKit

def sactC (a : Int × Int × Int) : List Value := [.int .i64 a.1, .int .i64 a.2.1, .int .u64 a.2.2]
theorem sactsT : SlT Tryd.prog 40 45 (.agg #[.int .i64 0, .int .i64 0, .int .u64 0]) 3 24 := ⟨Tryd.underlying40, by kernel_rfl, rfl, by decide, by decide⟩
theorem sact_at {w : World} {ok : Nat → TypeId → Prop} {v : Value} {L : List (Int × Int × Int)} (h : SlK w ok 3 v L.length (L.flatMap sactC)) {i : Nat} {a : Int × Int × Int} (hi : L[i]? = some a) :
    ∃ g off, (∀ kd w', (Instr.indexAt 40 v (.int kd (i : Int))).run Tryd.prog w' = .ok (.pointer (some ⟨g, off, none⟩)) w') ∧ w.cell? ⟨g, off, none⟩ = some (.int .i64 a.1) ∧ w.cell? ⟨g, off + 1, none⟩ = some (.int .i64 a.2.1) ∧ w.cell? ⟨g, off + 2, none⟩ = some (.int .u64 a.2.2) := by
  have hlt : i < L.length := (List.getElem?_eq_some_iff.1 hi).1
  obtain ⟨g, off, h1, _, _, h3⟩ := h.run_index sactsT (i := (i : Int)) (k := i) rfl hlt
  have hf := fun j hj => flat_get (k := 3) (f := sactC) (fun _ => rfl) L i j a hi hj
  exact ⟨g, off, h1, h3 0 _ (hf 0 (by decide)), h3 1 _ (hf 1 (by decide)), h3 2 _ (hf 2 (by decide))⟩

theorem TakeN_at (u : Int) (w : World) : Calls Tryd.prog 10 #[.pointer none, .int .u64 u] w fun e w' => e = .returned (.tuple #[.int .i64 0, .int .i64 1]) ∧ w' = w := by
  go_enter Tryd.func10, Tryd.ntmps10
  go_wp2
  go_ret2
  exact ⟨rfl, rfl⟩
theorem AnswerN_at (u : Int) (w : World) : Calls Tryd.prog 13 #[.pointer none, .int .i64 u] w fun e w' => e = .returned (.tuple #[.bool false, .int .i64 1]) ∧ w' = w := by
  go_enter Tryd.func13, Tryd.ntmps13
  go_wp2
  go_ret2
  exact ⟨rfl, rfl⟩
theorem OrphanN_at (u : Int) (w : World) : Calls Tryd.prog 12 #[.pointer none, .int .i64 u] w fun e w' => e = .returned (.int .i64 1) ∧ w' = w := by
  go_enter Tryd.func12, Tryd.ntmps12
  go_wp2
  go_ret
  exact ⟨rfl, rfl⟩
theorem CountsN_at (w : World) : Calls Tryd.prog 18 #[.pointer none] w fun e w' => e = .returned (.tuple #[.int .i64 0, .int .i64 0, .int .i64 0]) ∧ w' = w := by
  go_enter Tryd.func18, Tryd.ntmps18
  go_wp2
  go_ret3
  exact ⟨rfl, rfl⟩
theorem OwedN_at (u : Int) (w : World) : Calls Tryd.prog 19 #[.pointer none, .int .i64 u] w fun e w' => e = .returned (.bool false) ∧ w' = w := by
  go_enter Tryd.func19, Tryd.ntmps19
  go_wp2
  go_ret
  exact ⟨rfl, rfl⟩

def XS.or_ (s : XS) (k : Nat) : Bool := (aget (k : Int) s.orph).isSome
def NoteB (w : World) (B : Nat) (s : XS) : Prop := ∃ cs, Blk w B 60 cs ∧ ∀ k : Nat, k < 32 → cs[k]? = some (.bool (s.or_ k))
theorem NoteB.cell {w : World} {B : Nat} {s : XS} (h : NoteB w B s) {k : Nat} (hk : k < 32) : w.cell? ⟨B, k, none⟩ = some (.bool (s.or_ k)) := by
  obtain ⟨cs, hb, hc⟩ := h
  exact (hb.cell k).trans (hc k hk)
theorem NoteB.frozen {w : World} {B : Nat} {s : XS} (h : NoteB w B s) (k : Nat) : w.frozen? ⟨B, k, none⟩ = false := by
  obtain ⟨cs, hb, hc⟩ := h
  exact hb.frozen k
theorem NoteB.kept {w w' : World} {B : Nat} {s : XS} {S : Nat → Prop} (h : NoteB w B s) (hk : Kept S w w') (hB : ¬ S B) : NoteB w' B s := by
  obtain ⟨cs, hb, hc⟩ := h
  exact ⟨cs, hb.kept hk hB, hc⟩
theorem NoteB.lt {w : World} {B : Nat} {s : XS} (h : NoteB w B s) : B < w.heap.size := by
  obtain ⟨cs, hb, hc⟩ := h
  exact hb.lt
theorem NoteB.same {w : World} {B : Nat} {s s' : XS} (h : NoteB w B s) (hs : ∀ j, s'.or_ j = s.or_ j) : NoteB w B s' := by
  obtain ⟨cs, hb, hc⟩ := h
  exact ⟨cs, hb, fun k hk => by rw [hs]; exact hc k hk⟩
theorem NoteB.store {w : World} {B : Nat} {s s' : XS} (h : NoteB w B s) {k : Nat} {v : Bool} (hs : ∀ j : Nat, s'.or_ j = if j = k then v else s.or_ j) : NoteB (w.setCell ⟨B, k, none⟩ (.bool v)) B s' := by
  obtain ⟨cs, hb, hc⟩ := h
  refine ⟨_, hb.set_ k _, fun j hj => ?_⟩
  rw [hs j]
  by_cases e : j = k
  · subst e
    rw [if_pos rfl, get_set_self (hc j hj)]
  · rw [if_neg e, Array.getElem?_setIfInBounds_ne (fun x => e x.symm)]
    exact hc j hj
theorem XS.or_orphan {s : XS} (k j : Nat) : (s.orphan k).or_ j = if j = k then true else s.or_ j := by
  unfold XS.or_ XS.orphan
  rw [aget_append]
  by_cases e : j = k
  · subst e; simp [aget]
  · have e2 : ¬ ((k : Int) = (j : Int)) := by omega
    simp [e, aget, e2]
theorem XS.Ok.or_answer {s : XS} (h : s.Ok) (k j : Nat) : (s.answer k).or_ j = if j = k then false else s.or_ j := by
  unfold XS.or_ XS.answer
  rw [aget_adel h.no]
  by_cases e : j = k
  · subst e; simp
  · have e1 : ¬ ((j : Int) = (k : Int)) := by omega
    simp [e, e1]
theorem XS.or_owed {s : XS} {k : Nat} (h : s.or_ k = true) : s.owed (k : Int) = true := by
  unfold XS.or_ at h
  simp [XS.owed, h]
theorem XS.or_free {s : XS} {k : Nat} (h : s.owed (k : Int) = false) : s.or_ k = false := by
  cases ho : s.or_ k with
  | false => rfl
  | true => rw [XS.or_owed ho] at h; cases h
theorem XS.Ok.asked_or {s : XS} (h : s.Ok) {k : Nat} (hi : s.owed (k : Int) = true) : (aget (k : Int) s.asked).isSome = !s.or_ k := by
  unfold XS.or_
  cases h1 : aget (k : Int) s.asked with
  | some u => rw [h.dis (k : Int) (by rw [h1]; rfl)]; rfl
  | none =>
    simp only [XS.owed, h1, Option.isSome_none, Bool.false_or] at hi
    rw [hi]; rfl
theorem SW.counts2 {w0 w : World} {g m1 m2 : Nat} {s : XS} (h : SW w0 w g m1 m2 s) :
    Calls Tryd.prog 18 #[.pointer (some ⟨g, 0, none⟩)] w fun e w' => ∃ x y z : Int, e = .returned (.tuple #[.int .i64 x, .int .i64 y, .int .i64 z]) ∧ (0 ≤ x ∧ 0 ≤ y ∧ 0 ≤ z ∧ x + y + z = s.n) ∧ ∃ n, w' = w.drewN n := by
  refine (Counts_at h.at_).mono ?_
  rintro e w' ⟨rfl, n, rfl⟩
  have := h.ok.count
  exact ⟨_, _, _, rfl, ⟨by omega, by omega, by omega, by omega⟩, n, rfl⟩

set_option maxHeartbeats 8000000 in
set_option maxRecDepth 100000 in
theorem Sums_walk (n : Int) (v : Value) (acts : List (Int × Int × Int)) (w : World) (hn : 0 ≤ n ∧ n ≤ 255) (hv : Lo w w.heap.size 3 v acts.length (acts.flatMap sactC)) (hT : Tab w) (hb : ∀ a ∈ acts, 0 ≤ a.2.2 ∧ a.2.2 < 18446744073709551616) :
    Calls Tryd.prog 7 #[.int .u8 n, v] w fun e w' => e = .returned (.bool true) ∧ Kept noBlock w w' := by
  obtain ⟨A, cap, rfl, hcap1, hcap2⟩ := hv.shape
  have hbl : acts.length ≤ 9223372036854775807 := by unfold maxLen at hcap2; omega
  have HT := Lib.hid hT
  have HB := Lib.hid hb
  have HV := Lib.hid hv
  obtain ⟨hn0, hn1⟩ := hn
  clear hT hb hv hcap1 hcap2
  go_enter Tryd.func7, Tryd.ntmps7
  go_wp2_with fail
  go_at_call 8
  refine (awake_at _ HT.out).mono ?_
  rintro e w1 ⟨rfl, hk1⟩
  have HK1 := Lib.hid hk1
  clear hk1
  go_wp2_with (first
    | (go_at_call 10; refine (TakeN_at _ _).mono ?_; rintro e w' ⟨rfl, rfl⟩)
    | (go_at_call 13; refine (AnswerN_at _ _).mono ?_; rintro e w' ⟨rfl, rfl⟩)
    | (go_at_call 12; refine (OrphanN_at _ _).mono ?_; rintro e w' ⟨rfl, rfl⟩)
    | (go_at_call 18; refine (CountsN_at _).mono ?_; rintro e w' ⟨rfl, rfl⟩)
    | (go_at_call 19; refine (OwedN_at _ _).mono ?_; rintro e w' ⟨rfl, rfl⟩)
    | (go_at_call 11; refine (Due_none _ _).mono ?_; rintro e w' ⟨rfl, hkd⟩))
  have HKD := Lib.hid (HK1.out.trans hkd (fun _ _ h => h))
  clear hkd HK1
  have hkz0 : 1 ≤ n % 30 + 1 ∧ n % 30 + 1 ≤ 30 := by omega
  generalize n % 30 + 1 = kz at *
  obtain ⟨kn, rfl⟩ := Int.eq_ofNat_of_zero_le (show 0 ≤ kz by omega)
  obtain ⟨hk0, hk2⟩ := hkz0
  have hk30 : kn ≤ 30 := by omega
  go_at_call 9
  refine (New_sw (n := (kn : Int)) HKD.out HT.out hk0 (by omega)).mono ?_
  rintro e w2 ⟨g, m1, m2, rfl, hs2, -, -⟩
  have hN : NoteB (w2.alloc (.cells (List.replicate 32 (Value.bool false)).toArray 60)) w2.heap.size (XS.fresh kn) :=
    ⟨_, Blk.new _ _ _, fun k hk => by rw [List.getElem?_toArray, List.getElem?_replicate, if_pos hk]; rfl⟩
  have hl := hs2.at_.lts
  have hwB : w.heap.size ≤ w2.heap.size := hs2.kept.size
  have hBg : w2.heap.size ≠ g ∧ w2.heap.size ≠ m1 ∧ w2.heap.size ≠ m2 := ⟨by omega, by omega, by omega⟩
  have START := Lib.hid (⟨hs2.alloc _, hN, rfl⟩ : SW w (w2.alloc (.cells (List.replicate 32 (Value.bool false)).toArray 60)) g m1 m2 (XS.fresh kn) ∧ NoteB _ w2.heap.size (XS.fresh kn) ∧ (XS.fresh kn).n = (kn : Int))
  clear hs2 hN hl HKD
  go_wp2_with fail
  generalize w2.heap.size = B at *
  go_loopg [18] 80 (fun j vi wq => ∃ (i : Nat) (s : XS), i + j = 80 ∧ vi = .int .i64 i ∧ SW w wq g m1 m2 s ∧ NoteB wq B s ∧ s.n = (kn : Int))
  case atStart => exact ⟨0, XS.fresh kn, by omega, rfl, START.out.1, START.out.2.1, START.out.2.2⟩
  case round =>
    obtain ⟨i, s, hij, rfl, hs, hn, hsn⟩ := hrel
    clear START
    have HIJ := Lib.hid hij
    have HS := Lib.hid hs
    have HN := Lib.hid hn
    have HSN := Lib.hid hsn
    clear hij hs hn hsn
    by_cases hlt : i < acts.length ∧ i < 80
    · obtain ⟨hl1, hl2⟩ := hlt
      obtain ⟨a, ha⟩ : ∃ a, acts[i]? = some a := ⟨_, List.getElem?_eq_getElem hl1⟩
      obtain ⟨ga, oa, hidx, ha0, ha1, ha2⟩ := sact_at (HV.out.keptNone HS.out.kept) ha
      obtain ⟨hw0, hw1⟩ := HB.out a (List.mem_of_getElem? ha)
      obtain ⟨k, hk⟩ : ∃ k : Nat, a.2.1 % 32 = (k : Int) := Int.eq_ofNat_of_zero_le (by omega)
      have hk32 : k < 32 := by omega
      have hk31 : bits .and .i64 a.2.1 31 = (k : Int) := by rw [i64_and31]; exact hk
      have hkind := i64_and3 a.1
      clear ha hk
      have h4 : a.1 % 4 = 0 ∨ a.1 % 4 = 1 ∨ a.1 % 4 = 2 ∨ a.1 % 4 = 3 := by omega
      rcases h4 with h4 | h4 | h4 | h4 <;> rw [h4] at hkind <;> clear h4
      · skip
        go_wp2_with fail
        go_at_call 10
        refine (Take_at HS.out.at_ HS.out.tabw HS.out.ne0 a.2.2 ⟨hw0, hw1⟩).mono ?_
        rintro e w4 (⟨x, x1, x2, x3, rfl, hs4, hk4⟩ | ⟨-, rfl, hs4, hk4⟩)
        · have hBn : ¬ three g m1 m2 B := fun e => by rcases e with e | e | e <;> omega
          have hn4 : NoteB w4 B (s.take (x : Int) a.2.2) := (HN.out.kept hk4 hBn).same (fun _ => rfl)
          have hxk : (x : Int) < kn := by rw [HSN.out] at x1; exact x1
          have fx := (HN.out.kept hk4 hBn).cell (k := x) (by omega)
          rw [XS.or_free x2] at fx
          have HSF := Lib.hid (HS.out.step hs4 hk4)
          have HNF := Lib.hid hn4
          clear hs4 hk4 hn4 x1 x2 x3
          have HSN2 := Lib.hid (show (s.take (x : Int) a.2.2).n = (kn : Int) from HSN.out)
          go_wp2_with fail
          go_at_call 18
          refine HSF.out.counts2.mono ?_
          rintro e w5 ⟨cx, cy, cz, rfl, ⟨hx, hy, hz, hxyz⟩, nn, rfl⟩
          rw [HSN2.out] at hxyz
          have HS5 := Lib.hid (HSF.out.drewN nn)
          have HN5 := Lib.hid (HNF.out.kept ((Kept.refl noBlock _).drewN nn) id)
          generalize World.drewN _ nn = w5 at *
          clear HSF HNF
          have hx2 : cx ≤ 30 := by omega
          have hy2 : cy ≤ 30 := by omega
          have hz2 : cz ≤ 30 := by omega
          go_wp2_with fail
          go_loopg [27] kn (fun q vj wx => ∃ jj : Nat, jj + q = kn ∧ vj = .int .i64 jj ∧ wx = w5)
          case atStart => exact ⟨0, by omega, rfl, rfl⟩
          case round =>
            obtain ⟨jj, hjj, rfl, rfl⟩ := hrel
            have HJJ := Lib.hid hjj
            clear hjj
            by_cases hj : jj < kn
            · have fj := HN5.out.cell (k := jj) (by omega)
              cases ho : (s.take (x : Int) a.2.2).or_ jj with
              | false =>
                rw [ho] at fj
                clear ho
                go_wp2
                go_roundg (kn - (jj + 1))
                case measure => have := HJJ.out; omega
                case rel => exact ⟨jj + 1, by omega, by go_num, rfl⟩
              | true =>
                rw [ho] at fj
                have hO := Owed_at HS5.out.at_ (jj : Int)
                rw [XS.or_owed ho] at hO
                have HO5 := Lib.hid hO
                clear ho hO
                go_wp2_with fail
                go_at_call 19
                refine HO5.out.mono ?_
                rintro e w6 ⟨rfl, rfl⟩
                go_wp2
                go_roundg (kn - (jj + 1))
                case measure => have := HJJ.out; omega
                case rel => exact ⟨jj + 1, by omega, by go_num, rfl⟩
            · go_wp2
              go_roundg (80 - (i + 1))
              case measure => have := HIJ.out; omega
              case rel => exact ⟨i + 1, s.take (x : Int) a.2.2, by omega, by go_num, HS5.out, HN5.out, HSN2.out⟩
        · have hBn : ¬ three g m1 m2 B := fun e => by rcases e with e | e | e <;> omega
          have HSF := Lib.hid (HS.out.step hs4 hk4)
          have HNF := Lib.hid (HN.out.kept hk4 hBn)
          clear hs4 hk4
          have HSN2 := Lib.hid (show (s).n = (kn : Int) from HSN.out)
          go_wp2_with fail
          go_at_call 18
          refine HSF.out.counts2.mono ?_
          rintro e w5 ⟨cx, cy, cz, rfl, ⟨hx, hy, hz, hxyz⟩, nn, rfl⟩
          rw [HSN2.out] at hxyz
          have HS5 := Lib.hid (HSF.out.drewN nn)
          have HN5 := Lib.hid (HNF.out.kept ((Kept.refl noBlock _).drewN nn) id)
          generalize World.drewN _ nn = w5 at *
          clear HSF HNF
          have hx2 : cx ≤ 30 := by omega
          have hy2 : cy ≤ 30 := by omega
          have hz2 : cz ≤ 30 := by omega
          go_wp2_with fail
          go_loopg [27] kn (fun q vj wx => ∃ jj : Nat, jj + q = kn ∧ vj = .int .i64 jj ∧ wx = w5)
          case atStart => exact ⟨0, by omega, rfl, rfl⟩
          case round =>
            obtain ⟨jj, hjj, rfl, rfl⟩ := hrel
            have HJJ := Lib.hid hjj
            clear hjj
            by_cases hj : jj < kn
            · have fj := HN5.out.cell (k := jj) (by omega)
              cases ho : (s).or_ jj with
              | false =>
                rw [ho] at fj
                clear ho
                go_wp2
                go_roundg (kn - (jj + 1))
                case measure => have := HJJ.out; omega
                case rel => exact ⟨jj + 1, by omega, by go_num, rfl⟩
              | true =>
                rw [ho] at fj
                have hO := Owed_at HS5.out.at_ (jj : Int)
                rw [XS.or_owed ho] at hO
                have HO5 := Lib.hid hO
                clear ho hO
                go_wp2_with fail
                go_at_call 19
                refine HO5.out.mono ?_
                rintro e w6 ⟨rfl, rfl⟩
                go_wp2
                go_roundg (kn - (jj + 1))
                case measure => have := HJJ.out; omega
                case rel => exact ⟨jj + 1, by omega, by go_num, rfl⟩
            · go_wp2
              go_roundg (80 - (i + 1))
              case measure => have := HIJ.out; omega
              case rel => exact ⟨i + 1, s, by omega, by go_num, HS5.out, HN5.out, HSN2.out⟩
      · skip
        go_wp2_with fail
        go_at_call 10
        refine (Take_at HS.out.at_ HS.out.tabw HS.out.ne0 a.2.2 ⟨hw0, hw1⟩).mono ?_
        rintro e w4 (⟨x, x1, x2, x3, rfl, hs4, hk4⟩ | ⟨-, rfl, hs4, hk4⟩)
        · have hBn : ¬ three g m1 m2 B := fun e => by rcases e with e | e | e <;> omega
          have hn4 : NoteB w4 B (s.take (x : Int) a.2.2) := (HN.out.kept hk4 hBn).same (fun _ => rfl)
          have hxk : (x : Int) < kn := by rw [HSN.out] at x1; exact x1
          have fx := (HN.out.kept hk4 hBn).cell (k := x) (by omega)
          rw [XS.or_free x2] at fx
          have HSF := Lib.hid (HS.out.step hs4 hk4)
          have HNF := Lib.hid hn4
          clear hs4 hk4 hn4 x1 x2 x3
          have HSN2 := Lib.hid (show (s.take (x : Int) a.2.2).n = (kn : Int) from HSN.out)
          go_wp2_with fail
          go_at_call 18
          refine HSF.out.counts2.mono ?_
          rintro e w5 ⟨cx, cy, cz, rfl, ⟨hx, hy, hz, hxyz⟩, nn, rfl⟩
          rw [HSN2.out] at hxyz
          have HS5 := Lib.hid (HSF.out.drewN nn)
          have HN5 := Lib.hid (HNF.out.kept ((Kept.refl noBlock _).drewN nn) id)
          generalize World.drewN _ nn = w5 at *
          clear HSF HNF
          have hx2 : cx ≤ 30 := by omega
          have hy2 : cy ≤ 30 := by omega
          have hz2 : cz ≤ 30 := by omega
          go_wp2_with fail
          go_loopg [27] kn (fun q vj wx => ∃ jj : Nat, jj + q = kn ∧ vj = .int .i64 jj ∧ wx = w5)
          case atStart => exact ⟨0, by omega, rfl, rfl⟩
          case round =>
            obtain ⟨jj, hjj, rfl, rfl⟩ := hrel
            have HJJ := Lib.hid hjj
            clear hjj
            by_cases hj : jj < kn
            · have fj := HN5.out.cell (k := jj) (by omega)
              cases ho : (s.take (x : Int) a.2.2).or_ jj with
              | false =>
                rw [ho] at fj
                clear ho
                go_wp2
                go_roundg (kn - (jj + 1))
                case measure => have := HJJ.out; omega
                case rel => exact ⟨jj + 1, by omega, by go_num, rfl⟩
              | true =>
                rw [ho] at fj
                have hO := Owed_at HS5.out.at_ (jj : Int)
                rw [XS.or_owed ho] at hO
                have HO5 := Lib.hid hO
                clear ho hO
                go_wp2_with fail
                go_at_call 19
                refine HO5.out.mono ?_
                rintro e w6 ⟨rfl, rfl⟩
                go_wp2
                go_roundg (kn - (jj + 1))
                case measure => have := HJJ.out; omega
                case rel => exact ⟨jj + 1, by omega, by go_num, rfl⟩
            · go_wp2
              go_roundg (80 - (i + 1))
              case measure => have := HIJ.out; omega
              case rel => exact ⟨i + 1, s.take (x : Int) a.2.2, by omega, by go_num, HS5.out, HN5.out, HSN2.out⟩
        · have hBn : ¬ three g m1 m2 B := fun e => by rcases e with e | e | e <;> omega
          have HSF := Lib.hid (HS.out.step hs4 hk4)
          have HNF := Lib.hid (HN.out.kept hk4 hBn)
          clear hs4 hk4
          have HSN2 := Lib.hid (show (s).n = (kn : Int) from HSN.out)
          go_wp2_with fail
          go_at_call 18
          refine HSF.out.counts2.mono ?_
          rintro e w5 ⟨cx, cy, cz, rfl, ⟨hx, hy, hz, hxyz⟩, nn, rfl⟩
          rw [HSN2.out] at hxyz
          have HS5 := Lib.hid (HSF.out.drewN nn)
          have HN5 := Lib.hid (HNF.out.kept ((Kept.refl noBlock _).drewN nn) id)
          generalize World.drewN _ nn = w5 at *
          clear HSF HNF
          have hx2 : cx ≤ 30 := by omega
          have hy2 : cy ≤ 30 := by omega
          have hz2 : cz ≤ 30 := by omega
          go_wp2_with fail
          go_loopg [27] kn (fun q vj wx => ∃ jj : Nat, jj + q = kn ∧ vj = .int .i64 jj ∧ wx = w5)
          case atStart => exact ⟨0, by omega, rfl, rfl⟩
          case round =>
            obtain ⟨jj, hjj, rfl, rfl⟩ := hrel
            have HJJ := Lib.hid hjj
            clear hjj
            by_cases hj : jj < kn
            · have fj := HN5.out.cell (k := jj) (by omega)
              cases ho : (s).or_ jj with
              | false =>
                rw [ho] at fj
                clear ho
                go_wp2
                go_roundg (kn - (jj + 1))
                case measure => have := HJJ.out; omega
                case rel => exact ⟨jj + 1, by omega, by go_num, rfl⟩
              | true =>
                rw [ho] at fj
                have hO := Owed_at HS5.out.at_ (jj : Int)
                rw [XS.or_owed ho] at hO
                have HO5 := Lib.hid hO
                clear ho hO
                go_wp2_with fail
                go_at_call 19
                refine HO5.out.mono ?_
                rintro e w6 ⟨rfl, rfl⟩
                go_wp2
                go_roundg (kn - (jj + 1))
                case measure => have := HJJ.out; omega
                case rel => exact ⟨jj + 1, by omega, by go_num, rfl⟩
            · go_wp2
              go_roundg (80 - (i + 1))
              case measure => have := HIJ.out; omega
              case rel => exact ⟨i + 1, s, by omega, by go_num, HS5.out, HN5.out, HSN2.out⟩
      · skip
        have fo := HN.out.cell (k := k) hk32
        cases ho : s.owed (k : Int) with
        | true =>
          cases hor : s.or_ k with
          | true =>
            rw [hor] at fo
            have hA := HS.out.answer_ok (k : Int) ho
            rw [HS.out.ok.asked_or ho, hor] at hA
            rw [show (!true) = false from rfl] at hA
            have HA := Lib.hid hA
            clear hA ho hor
            go_wp2_with fail
            go_at_call 13
            refine HA.out.mono ?_
            rintro e w4 ⟨rfl, hs4, hk4⟩
            have hBn : ¬ three g m1 m2 B := fun e => by rcases e with e | e | e <;> omega
            have hn4 := HN.out.kept hk4 hBn
            have fo4 := (hk4.cell (p := ⟨B, k, none⟩) HN.out.lt hBn).trans fo
            have ff4 := hn4.frozen k
            have HNF := Lib.hid (hn4.store (s' := s.answer (k : Int)) (k := k) (v := false) (fun j => HS.out.ok.or_answer k j))
            have HSF := Lib.hid (hs4.apart (S := fun i => i = B) ((Kept.refl (fun i => i = B) w4).setCell (p := ⟨B, k, none⟩) (fun _ => rfl) (.bool false)) (fun i e => by subst e; exact ⟨by omega, by omega, by omega, by omega⟩))
            clear hs4 hk4 hn4
            have HSN2 := Lib.hid (show (s.answer (k : Int)).n = (kn : Int) from HSN.out)
            go_wp2_with fail
            go_at_call 18
            refine HSF.out.counts2.mono ?_
            rintro e w5 ⟨cx, cy, cz, rfl, ⟨hx, hy, hz, hxyz⟩, nn, rfl⟩
            rw [HSN2.out] at hxyz
            have HS5 := Lib.hid (HSF.out.drewN nn)
            have HN5 := Lib.hid (HNF.out.kept ((Kept.refl noBlock _).drewN nn) id)
            generalize World.drewN _ nn = w5 at *
            clear HSF HNF
            have hx2 : cx ≤ 30 := by omega
            have hy2 : cy ≤ 30 := by omega
            have hz2 : cz ≤ 30 := by omega
            go_wp2_with fail
            go_loopg [27] kn (fun q vj wx => ∃ jj : Nat, jj + q = kn ∧ vj = .int .i64 jj ∧ wx = w5)
            case atStart => exact ⟨0, by omega, rfl, rfl⟩
            case round =>
              obtain ⟨jj, hjj, rfl, rfl⟩ := hrel
              have HJJ := Lib.hid hjj
              clear hjj
              by_cases hj : jj < kn
              · have fj := HN5.out.cell (k := jj) (by omega)
                cases ho : (s.answer (k : Int)).or_ jj with
                | false =>
                  rw [ho] at fj
                  clear ho
                  go_wp2
                  go_roundg (kn - (jj + 1))
                  case measure => have := HJJ.out; omega
                  case rel => exact ⟨jj + 1, by omega, by go_num, rfl⟩
                | true =>
                  rw [ho] at fj
                  have hO := Owed_at HS5.out.at_ (jj : Int)
                  rw [XS.or_owed ho] at hO
                  have HO5 := Lib.hid hO
                  clear ho hO
                  go_wp2_with fail
                  go_at_call 19
                  refine HO5.out.mono ?_
                  rintro e w6 ⟨rfl, rfl⟩
                  go_wp2
                  go_roundg (kn - (jj + 1))
                  case measure => have := HJJ.out; omega
                  case rel => exact ⟨jj + 1, by omega, by go_num, rfl⟩
              · go_wp2
                go_roundg (80 - (i + 1))
                case measure => have := HIJ.out; omega
                case rel => exact ⟨i + 1, s.answer (k : Int), by omega, by go_num, HS5.out, HN5.out, HSN2.out⟩
          | false =>
            rw [hor] at fo
            have hA := HS.out.answer_ok (k : Int) ho
            rw [HS.out.ok.asked_or ho, hor] at hA
            rw [show (!false) = true from rfl] at hA
            have HA := Lib.hid hA
            clear hA ho hor
            go_wp2_with fail
            go_at_call 13
            refine HA.out.mono ?_
            rintro e w4 ⟨rfl, hs4, hk4⟩
            have hBn : ¬ three g m1 m2 B := fun e => by rcases e with e | e | e <;> omega
            have hn4 := HN.out.kept hk4 hBn
            have fo4 := (hk4.cell (p := ⟨B, k, none⟩) HN.out.lt hBn).trans fo
            have ff4 := hn4.frozen k
            have HNF := Lib.hid (hn4.store (s' := s.answer (k : Int)) (k := k) (v := false) (fun j => HS.out.ok.or_answer k j))
            have HSF := Lib.hid (hs4.apart (S := fun i => i = B) ((Kept.refl (fun i => i = B) w4).setCell (p := ⟨B, k, none⟩) (fun _ => rfl) (.bool false)) (fun i e => by subst e; exact ⟨by omega, by omega, by omega, by omega⟩))
            clear hs4 hk4 hn4
            have HSN2 := Lib.hid (show (s.answer (k : Int)).n = (kn : Int) from HSN.out)
            go_wp2_with fail
            go_at_call 18
            refine HSF.out.counts2.mono ?_
            rintro e w5 ⟨cx, cy, cz, rfl, ⟨hx, hy, hz, hxyz⟩, nn, rfl⟩
            rw [HSN2.out] at hxyz
            have HS5 := Lib.hid (HSF.out.drewN nn)
            have HN5 := Lib.hid (HNF.out.kept ((Kept.refl noBlock _).drewN nn) id)
            generalize World.drewN _ nn = w5 at *
            clear HSF HNF
            have hx2 : cx ≤ 30 := by omega
            have hy2 : cy ≤ 30 := by omega
            have hz2 : cz ≤ 30 := by omega
            go_wp2_with fail
            go_loopg [27] kn (fun q vj wx => ∃ jj : Nat, jj + q = kn ∧ vj = .int .i64 jj ∧ wx = w5)
            case atStart => exact ⟨0, by omega, rfl, rfl⟩
            case round =>
              obtain ⟨jj, hjj, rfl, rfl⟩ := hrel
              have HJJ := Lib.hid hjj
              clear hjj
              by_cases hj : jj < kn
              · have fj := HN5.out.cell (k := jj) (by omega)
                cases ho : (s.answer (k : Int)).or_ jj with
                | false =>
                  rw [ho] at fj
                  clear ho
                  go_wp2
                  go_roundg (kn - (jj + 1))
                  case measure => have := HJJ.out; omega
                  case rel => exact ⟨jj + 1, by omega, by go_num, rfl⟩
                | true =>
                  rw [ho] at fj
                  have hO := Owed_at HS5.out.at_ (jj : Int)
                  rw [XS.or_owed ho] at hO
                  have HO5 := Lib.hid hO
                  clear ho hO
                  go_wp2_with fail
                  go_at_call 19
                  refine HO5.out.mono ?_
                  rintro e w6 ⟨rfl, rfl⟩
                  go_wp2
                  go_roundg (kn - (jj + 1))
                  case measure => have := HJJ.out; omega
                  case rel => exact ⟨jj + 1, by omega, by go_num, rfl⟩
              · go_wp2
                go_roundg (80 - (i + 1))
                case measure => have := HIJ.out; omega
                case rel => exact ⟨i + 1, s.answer (k : Int), by omega, by go_num, HS5.out, HN5.out, HSN2.out⟩
        | false =>
          have HA := Lib.hid (Answer_bad HS.out.at_ (k : Int) ho)
          clear ho
          go_wp2_with fail
          go_at_call 13
          refine HA.out.mono ?_
          rintro e w4 ⟨rfl, rfl⟩
          have HSF := HS
          have HNF := HN
          have HSN2 := Lib.hid (show (s).n = (kn : Int) from HSN.out)
          go_wp2_with fail
          go_at_call 18
          refine HSF.out.counts2.mono ?_
          rintro e w5 ⟨cx, cy, cz, rfl, ⟨hx, hy, hz, hxyz⟩, nn, rfl⟩
          rw [HSN2.out] at hxyz
          have HS5 := Lib.hid (HSF.out.drewN nn)
          have HN5 := Lib.hid (HNF.out.kept ((Kept.refl noBlock _).drewN nn) id)
          generalize World.drewN _ nn = w5 at *
          clear HSF HNF
          have hx2 : cx ≤ 30 := by omega
          have hy2 : cy ≤ 30 := by omega
          have hz2 : cz ≤ 30 := by omega
          go_wp2_with fail
          go_loopg [27] kn (fun q vj wx => ∃ jj : Nat, jj + q = kn ∧ vj = .int .i64 jj ∧ wx = w5)
          case atStart => exact ⟨0, by omega, rfl, rfl⟩
          case round =>
            obtain ⟨jj, hjj, rfl, rfl⟩ := hrel
            have HJJ := Lib.hid hjj
            clear hjj
            by_cases hj : jj < kn
            · have fj := HN5.out.cell (k := jj) (by omega)
              cases ho : (s).or_ jj with
              | false =>
                rw [ho] at fj
                clear ho
                go_wp2
                go_roundg (kn - (jj + 1))
                case measure => have := HJJ.out; omega
                case rel => exact ⟨jj + 1, by omega, by go_num, rfl⟩
              | true =>
                rw [ho] at fj
                have hO := Owed_at HS5.out.at_ (jj : Int)
                rw [XS.or_owed ho] at hO
                have HO5 := Lib.hid hO
                clear ho hO
                go_wp2_with fail
                go_at_call 19
                refine HO5.out.mono ?_
                rintro e w6 ⟨rfl, rfl⟩
                go_wp2
                go_roundg (kn - (jj + 1))
                case measure => have := HJJ.out; omega
                case rel => exact ⟨jj + 1, by omega, by go_num, rfl⟩
            · go_wp2
              go_roundg (80 - (i + 1))
              case measure => have := HIJ.out; omega
              case rel => exact ⟨i + 1, s, by omega, by go_num, HS5.out, HN5.out, HSN2.out⟩
      · skip
        cases ha : aget (k : Int) s.asked with
        | some u =>
          have hsome : (aget (k : Int) s.asked).isSome = true := by rw [ha]; rfl
          have HA := Lib.hid (HS.out.orphan_ok (k : Int) hsome)
          have ff := HN.out.frozen k
          have fo := HN.out.cell (k := k) hk32
          clear ha hsome
          go_wp2_with fail
          go_at_call 12
          refine HA.out.mono ?_
          rintro e w4 ⟨rfl, hs4, hk4⟩
          have hBn : ¬ three g m1 m2 B := fun e => by rcases e with e | e | e <;> omega
          have hn4 := HN.out.kept hk4 hBn
          have fo4 := (hk4.cell (p := ⟨B, k, none⟩) HN.out.lt hBn).trans fo
          have ff4 := hn4.frozen k
          have HNF := Lib.hid (hn4.store (s' := s.orphan (k : Int)) (k := k) (v := true) (fun j => XS.or_orphan k j))
          have HSF := Lib.hid (hs4.apart (S := fun i => i = B) ((Kept.refl (fun i => i = B) w4).setCell (p := ⟨B, k, none⟩) (fun _ => rfl) (.bool true)) (fun i e => by subst e; exact ⟨by omega, by omega, by omega, by omega⟩))
          clear hs4 hk4 hn4 ff fo
          have HSN2 := Lib.hid (show (s.orphan (k : Int)).n = (kn : Int) from HSN.out)
          go_wp2_with fail
          go_at_call 18
          refine HSF.out.counts2.mono ?_
          rintro e w5 ⟨cx, cy, cz, rfl, ⟨hx, hy, hz, hxyz⟩, nn, rfl⟩
          rw [HSN2.out] at hxyz
          have HS5 := Lib.hid (HSF.out.drewN nn)
          have HN5 := Lib.hid (HNF.out.kept ((Kept.refl noBlock _).drewN nn) id)
          generalize World.drewN _ nn = w5 at *
          clear HSF HNF
          have hx2 : cx ≤ 30 := by omega
          have hy2 : cy ≤ 30 := by omega
          have hz2 : cz ≤ 30 := by omega
          go_wp2_with fail
          go_loopg [27] kn (fun q vj wx => ∃ jj : Nat, jj + q = kn ∧ vj = .int .i64 jj ∧ wx = w5)
          case atStart => exact ⟨0, by omega, rfl, rfl⟩
          case round =>
            obtain ⟨jj, hjj, rfl, rfl⟩ := hrel
            have HJJ := Lib.hid hjj
            clear hjj
            by_cases hj : jj < kn
            · have fj := HN5.out.cell (k := jj) (by omega)
              cases ho : (s.orphan (k : Int)).or_ jj with
              | false =>
                rw [ho] at fj
                clear ho
                go_wp2
                go_roundg (kn - (jj + 1))
                case measure => have := HJJ.out; omega
                case rel => exact ⟨jj + 1, by omega, by go_num, rfl⟩
              | true =>
                rw [ho] at fj
                have hO := Owed_at HS5.out.at_ (jj : Int)
                rw [XS.or_owed ho] at hO
                have HO5 := Lib.hid hO
                clear ho hO
                go_wp2_with fail
                go_at_call 19
                refine HO5.out.mono ?_
                rintro e w6 ⟨rfl, rfl⟩
                go_wp2
                go_roundg (kn - (jj + 1))
                case measure => have := HJJ.out; omega
                case rel => exact ⟨jj + 1, by omega, by go_num, rfl⟩
            · go_wp2
              go_roundg (80 - (i + 1))
              case measure => have := HIJ.out; omega
              case rel => exact ⟨i + 1, s.orphan (k : Int), by omega, by go_num, HS5.out, HN5.out, HSN2.out⟩
        | none =>
          have HA := Lib.hid (Orphan_bad HS.out.at_ (k : Int) ha)
          clear ha
          go_wp2_with fail
          go_at_call 12
          refine HA.out.mono ?_
          rintro e w4 ⟨rfl, rfl⟩
          have HSF := HS
          have HNF := HN
          have HSN2 := Lib.hid (show (s).n = (kn : Int) from HSN.out)
          go_wp2_with fail
          go_at_call 18
          refine HSF.out.counts2.mono ?_
          rintro e w5 ⟨cx, cy, cz, rfl, ⟨hx, hy, hz, hxyz⟩, nn, rfl⟩
          rw [HSN2.out] at hxyz
          have HS5 := Lib.hid (HSF.out.drewN nn)
          have HN5 := Lib.hid (HNF.out.kept ((Kept.refl noBlock _).drewN nn) id)
          generalize World.drewN _ nn = w5 at *
          clear HSF HNF
          have hx2 : cx ≤ 30 := by omega
          have hy2 : cy ≤ 30 := by omega
          have hz2 : cz ≤ 30 := by omega
          go_wp2_with fail
          go_loopg [27] kn (fun q vj wx => ∃ jj : Nat, jj + q = kn ∧ vj = .int .i64 jj ∧ wx = w5)
          case atStart => exact ⟨0, by omega, rfl, rfl⟩
          case round =>
            obtain ⟨jj, hjj, rfl, rfl⟩ := hrel
            have HJJ := Lib.hid hjj
            clear hjj
            by_cases hj : jj < kn
            · have fj := HN5.out.cell (k := jj) (by omega)
              cases ho : (s).or_ jj with
              | false =>
                rw [ho] at fj
                clear ho
                go_wp2
                go_roundg (kn - (jj + 1))
                case measure => have := HJJ.out; omega
                case rel => exact ⟨jj + 1, by omega, by go_num, rfl⟩
              | true =>
                rw [ho] at fj
                have hO := Owed_at HS5.out.at_ (jj : Int)
                rw [XS.or_owed ho] at hO
                have HO5 := Lib.hid hO
                clear ho hO
                go_wp2_with fail
                go_at_call 19
                refine HO5.out.mono ?_
                rintro e w6 ⟨rfl, rfl⟩
                go_wp2
                go_roundg (kn - (jj + 1))
                case measure => have := HJJ.out; omega
                case rel => exact ⟨jj + 1, by omega, by go_num, rfl⟩
            · go_wp2
              go_roundg (80 - (i + 1))
              case measure => have := HIJ.out; omega
              case rel => exact ⟨i + 1, s, by omega, by go_num, HS5.out, HN5.out, HSN2.out⟩
    · by_cases hl : i < acts.length
      · have hi80 : i = 80 := by have := HIJ.out; omega
        subst hi80
        clear hlt
        go_wp2
        go_ret
        exact ⟨rfl, HS.out.kept⟩
      · clear hlt
        go_wp2
        go_ret
        exact ⟨rfl, HS.out.kept⟩
end Go.Proofs.YtelcielfhgijpaaDoor

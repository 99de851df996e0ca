/- The reference of chapter 15, walked: find, Take, Answer, Orphan, Counts over a list of what is owed. -/
import Derived.Test.YtelcielfhgijpaaDoorOwn
import Derived.Test.YtelcielfhgijpaaDoorProg
import Derived.Test.YtelcielfhgijpaaDoorFlat
import Derived.BigQuiet
import Derived.Deep.LoopGhost
namespace Go.Proofs.YtelcielfhgijpaaDoor
set_option linter.unusedVariables false
open Go.RowKit

section
variable {w w' : World} {base : Nat} {e : TypeId} {sz k n : Nat} {v v' : Value} {xs ys : List Value}
theorem Blk.appended {g : Nat} {t : TypeId} {cs : Array Value} (hb : Blk w g t cs) (h : Appended w w' base e sz v v' k xs) (ho : w.ownsRow base e sz v n ys) (hne : e ≠ t) : Blk w' g t cs :=
  hb.kept h.kept fun hg => by
    obtain ⟨_, cs', hh⟩ := own_type ho hg
    exact Blk.ne_ (t := e) hh hb hne rfl
theorem Appended.below {S : Nat → Prop} (h : Appended w w' base e sz v v' k xs) (ho : w.ownsRow base e sz v n ys) {w0 : World} (hk : Kept S w0 w) (hb : w0.heap.size ≤ base) : Kept S w0 w' :=
  hk.trans h.kept fun i hi hv => by have := (own_type ho hv).1; omega
theorem Appended.keptNil {xs : List Value} (h : Appended w w' base e sz (.slice none 0 0) v' k xs) : Kept noBlock w w' := h.kept.mono fun i hi e => by simp [Value.ownBlock] at e
theorem Sl.made_at {g : Nat} {cs : Array Value} (hb : Blk w g e cs) (l : List Value) (hl : cs.toList = l) (hn : cs.size = n * sz) (hm : n ≤ maxLen) : Sl w e sz (.slice (some ⟨g, 0, none⟩) n n) n l := hl ▸ Sl.made hb hn hm
/-- What was there ahead of an own row is kept behind an append to it. -/
theorem SlK.appended {B : Nat} {sz' n' : Nat} {u : Value} {zs : List Value} (hs : Lo w B sz' u n' zs) (h : Appended w w' base e sz v v' k xs) (ho : w.ownsRow base e sz v n ys) (hB : B ≤ base) : Lo w' B sz' u n' zs :=
  Lo.kept hs h.kept fun g hg hv => by have := (own_type ho hv).1; omega
end

/-- What is owed on a stream. -/
structure XO where
  id : Int
  until_ : Int
  orph : Bool

def oC (o : XO) : List Value := [.int .i64 o.id, .int .u64 o.until_, .bool o.orph]
theorem osT : SlT Tryd.prog 41 77 (.agg #[.int .i64 0, .int .u64 0, .bool false]) 3 24 := ⟨Tryd.underlying41, by kernel_rfl, rfl, by decide, by decide⟩
theorem oC_one {l : List XO} {u : Value} (hu : u ∈ l.flatMap oC) : u.oneCell' = true := by
  obtain ⟨a, _, h⟩ := List.mem_flatMap.1 hu
  simp only [oC, List.mem_cons, List.not_mem_nil, or_false] at h
  rcases h with rfl | rfl | rfl <;> rfl
theorem oC_len (l : List XO) : (l.flatMap oC).length = l.length * 3 := flat_len (k := 3) (fun _ => rfl) l
theorem o_at {w : World} {ok : Nat → TypeId → Prop} {v : Value} {L : List XO} {n : Nat} (h : SlK w ok 3 v n (L.flatMap oC)) {i : Nat} {p : XO} (hi : L[i]? = some p) :
    ∃ g off, (∀ kd w', (Instr.indexAt 41 v (.int kd (i : Int))).run Tryd.prog w' = .ok (.pointer (some ⟨g, off, none⟩)) w') ∧ g < w.heap.size ∧ w.cell? ⟨g, off, none⟩ = some (.int .i64 p.id) ∧ w.cell? ⟨g, off + 1, none⟩ = some (.int .u64 p.until_) ∧ w.cell? ⟨g, off + 2, none⟩ = some (.bool p.orph) := by
  have hlt : i < n := by
    have h1 := (List.getElem?_eq_some_iff.1 hi).1
    have h2 := h.len
    rw [oC_len] at h2
    omega
  obtain ⟨g, off, h1, h2, h4, h3⟩ := h.run_index osT (i := (i : Int)) (k := i) rfl hlt
  refine ⟨g, off, h1, h2, h3 0 _ ?_, h3 1 _ ?_, h3 2 _ ?_⟩
  · rw [flat_get (k := 3) (fun _ => rfl) L i 0 p hi (by decide)]; rfl
  · rw [flat_get (k := 3) (fun _ => rfl) L i 1 p hi (by decide)]; rfl
  · rw [flat_get (k := 3) (fun _ => rfl) L i 2 p hi (by decide)]; rfl

/-- The reference's streams by value. -/
abbrev sVal (n : Int) (v : Value) : Value := .agg #[.int .i64 n, v]
def OsAt (w : World) (v : Value) (L : List XO) : Prop := Sl w 77 3 v L.length (L.flatMap oC)
theorem OsAt.kept {w w' : World} {v : Value} {L : List XO} (h : OsAt w v L) (hk : Kept noBlock w w') : OsAt w' v L :=
  SlK.keptNone h hk

set_option maxHeartbeats 400000 in
set_option maxRecDepth 100000 in
theorem sfind_none {n id : Int} {v : Value} {L : List XO} {w : World} (h : OsAt w v L) (hg : ∀ p ∈ L, p.id ≠ id) (hl : L.length ≤ 100000) :
    Calls Tryd.prog 27 #[sVal n v, .int .i64 id] w fun e w' => e = .returned (.int .i64 (-1)) ∧ Kept noBlock w w' := by
  have hs1 := SlK.alloc h (.cells #[.int .i64 n, v] 43)
  have hlen := hs1.run_len osT
  have hk := (Kept.refl noBlock w).alloc (.cells #[.int .i64 n, v] 43)
  have HS := Lib.hid hs1
  have HG := Lib.hid hg
  clear h hs1 hg
  go_enter Tryd.func27, Tryd.ntmps27
  go_wp2
  go_loop [5] (fun i => ∃ k : Nat, k ≤ L.length ∧ i = .int .i64 k) (fun i => L.length - (intOf i).toNat)
  case atStart => exact ⟨0, Nat.zero_le _, rfl⟩
  case round =>
    obtain ⟨k, hkl, rfl⟩ := hrel
    by_cases hlt : k < L.length
    · obtain ⟨p, hp⟩ : ∃ p, L[k]? = some p := ⟨_, List.getElem?_eq_getElem hlt⟩
      obtain ⟨g, off, hidx, -, hc0, -⟩ := o_at HS.out hp
      have hne : (p.id == id) = false := by
        rw [beq_eq_false_iff_ne]; exact HG.out p (List.mem_of_getElem? hp)
      clear hp
      go_wp2
      go_round
      case rel => exact ⟨k + 1, by omega, by go_num⟩
      case measure => simp [intOf]; omega
    · go_wp2
      go_ret
      exact ⟨rfl, hk⟩

set_option maxHeartbeats 400000 in
set_option maxRecDepth 100000 in
theorem sfind_some {n id : Int} {v : Value} {A B : List XO} {o : XO} {w : World} (h : OsAt w v (A ++ o :: B)) (hA : ∀ p ∈ A, p.id ≠ id) (ho : o.id = id) (hl : (A ++ o :: B).length ≤ 100000) :
    Calls Tryd.prog 27 #[sVal n v, .int .i64 id] w fun e w' => e = .returned (.int .i64 A.length) ∧ Kept noBlock w w' := by
  have hs1 := SlK.alloc h (.cells #[.int .i64 n, v] 43)
  have hlen := hs1.run_len osT
  have hk := (Kept.refl noBlock w).alloc (.cells #[.int .i64 n, v] 43)
  have HS := Lib.hid hs1
  have HA := Lib.hid hA
  have hAl : A.length < (A ++ o :: B).length := by simp
  clear h hs1 hA
  generalize hLe : (A ++ o :: B) = L at *
  have HL := Lib.hid hLe
  clear hLe
  go_enter Tryd.func27, Tryd.ntmps27
  go_wp2
  go_loop [5] (fun i => ∃ k : Nat, k ≤ A.length ∧ i = .int .i64 k) (fun i => L.length - (intOf i).toNat)
  case atStart => exact ⟨0, Nat.zero_le _, rfl⟩
  case round =>
    obtain ⟨k, hkl, rfl⟩ := hrel
    by_cases hlt : k < A.length
    · obtain ⟨p, hp⟩ : ∃ p, A[k]? = some p := ⟨_, List.getElem?_eq_getElem hlt⟩
      have hp2 : L[k]? = some p := by rw [← HL.out, List.getElem?_append_left hlt]; exact hp
      obtain ⟨g, off, hidx, -, hc0, -⟩ := o_at HS.out hp2
      have hne : (p.id == id) = false := by
        rw [beq_eq_false_iff_ne]; exact HA.out p (List.mem_of_getElem? hp)
      clear hp hp2
      go_wp2
      go_round
      case rel => exact ⟨k + 1, by omega, by go_num⟩
      case measure => simp [intOf]; omega
    · obtain rfl : k = A.length := by omega
      have hp2 : L[A.length]? = some o := by rw [← HL.out]; simp
      obtain ⟨g, off, hidx, -, hc0, -⟩ := o_at HS.out hp2
      rw [ho] at hc0
      clear hp2
      go_wp2
      go_ret
      exact ⟨rfl, hk⟩

def sCells (n : Int) (v : Value) : Array Value := #[.int .i64 n, v]
theorem sBlk_cells {w : World} {g : Nat} {n : Int} {v : Value} (h : Blk w g 43 #[.int .i64 n, v]) : w.cell? ⟨g, 0, none⟩ = some (.int .i64 n) ∧ w.cell? ⟨g, 1, none⟩ = some v ∧ (∀ i, w.frozen? ⟨g, i, none⟩ = false) := ⟨h.cell 0, h.cell 1, h.frozen⟩

theorem sBlk_set {w : World} {g : Nat} {c0 c1 : Value} (h : Blk w g 43 #[c0, c1]) (n : Int) (v : Value) : Blk ((w.setCell ⟨g, 0, none⟩ (.int .i64 n)).setCell ⟨g, 1, none⟩ v) g 43 #[.int .i64 n, v] := by
  have h0 : Blk (w.setCell ⟨g, 0, none⟩ (.int .i64 n)) g 43 #[.int .i64 n, c1] := h.set_ 0 (.int .i64 n)
  exact h0.set_ 1 v
theorem set_kept {w0 w : World} {g : Nat} (hk : Kept noBlock w0 w) (hg : w0.heap.size ≤ g) (a b : Value) : Kept noBlock w0 ((w.setCell ⟨g, 0, none⟩ a).setCell ⟨g, 1, none⟩ b) :=
  (hk.setCell (p := ⟨g, 0, none⟩) (fun hlt => absurd hlt (by simp only; omega)) a).setCell (p := ⟨g, 1, none⟩) (fun hlt => absurd hlt (by simp only; omega)) b
/-- The end of Take and Answer: the struct stored in the call's own cell. -/
theorem stail3 {fn : Func} {a : Act} {w0 w1 : World} {g : Nat} {n : Int} {v x y c0 c1 : Value} {L : List XO} (hres : fn.results = #[.cell 4 43, .tmp 5, .tmp 6]) (hd : a.defers = []) (ht : a.tmps[4]?.getD undef = .pointer (some ⟨g, 0, none⟩)) (hx : a.tmps[5]?.getD undef = x) (hy : a.tmps[6]?.getD undef = y)
    (hb : Blk w1 g 43 #[c0, c1]) (h : Sl w1 77 3 v L.length (L.flatMap oC)) (hk : Kept noBlock w0 w1) (hg : w0.heap.size ≤ g) :
    bodyPost Tryd.prog fn (fun e w' => ∃ v, e = .returned (.tuple #[sVal n v, x, y]) ∧ OsAt w' v L ∧ Kept noBlock w0 w') .ret a ((w1.setCell ⟨g, 0, none⟩ (.int .i64 n)).setCell ⟨g, 1, none⟩ v) := by
  have hk2 := set_kept hk hg (.int .i64 n) v
  have hb0 := (hb.set_ 0 (.int .i64 n))
  have h2 : Sl ((w1.setCell ⟨g, 0, none⟩ (.int .i64 n)).setCell ⟨g, 1, none⟩ v) 77 3 v L.length (L.flatMap oC) := (h.far hb (by decide) 0 _).far hb0 (by decide) 1 _
  have hb2 := sBlk_set hb n v
  generalize ((w1.setCell ⟨g, 0, none⟩ (.int .i64 n)).setCell ⟨g, 1, none⟩ v) = W at *
  obtain ⟨d0, d1, -⟩ := sBlk_cells hb2
  refine bodyPost_ret (v := .tuple #[sVal n v, x, y]) (by simp [results, hres, ht, hx, hy, go_sem, d0, d1]) hd ?_
  exact ⟨v, rfl, h2, hk2⟩

set_option maxHeartbeats 1000000 in
set_option maxRecDepth 100000 in
theorem sTake_busy {n u : Int} {v : Value} {L : List XO} {w : World} (h : OsAt w v L) (hn : n ≤ L.length) (hl : L.length ≤ 100000) :
    Calls Tryd.prog 14 #[sVal n v, .int .u64 u] w fun e w' => ∃ v, e = .returned (.tuple #[sVal n v, .int .i64 0, .int .i64 30]) ∧ OsAt w' v L ∧ Kept noBlock w w' := by
  have hs1 := SlK.alloc h (.cells #[.int .i64 n, v] 43)
  have hlen := hs1.run_len osT
  obtain ⟨A, c, rfl, -, -⟩ := SlK.shape h
  have H := Lib.hid h
  clear h hs1
  go_enter Tryd.func14, Tryd.ntmps14
  go_wp2
  refine bodyPost_ret (v := .tuple #[sVal n (.slice A L.length c), .int .i64 0, .int .i64 30]) (by simp [results, Tryd.results14, go_sem]) rfl ?_
  have hk := (((Kept.refl noBlock w).alloc (.cells #[.int .i64 n, .slice A L.length c] 43)).alloc (.cells #[.int .i64 n, .slice A L.length c] 43))
  exact ⟨_, rfl, H.out.kept hk, hk⟩

set_option maxHeartbeats 2000000 in
set_option maxRecDepth 100000 in
theorem sTake_ok {n u : Int} {v : Value} {C D : List XO} {w : World} (h : OsAt w v (C ++ D)) (hn : ((C ++ D).length : Int) < n) (hl : (C ++ D).length ≤ 100000) (hC : ∀ (i : Nat) p, C[i]? = some p → p.id = (i : Int)) (hD : ∀ p, D[0]? = some p → p.id ≠ (C.length : Int)) :
    Calls Tryd.prog 14 #[sVal n v, .int .u64 u] w fun e w' => ∃ v, e = .returned (.tuple #[sVal n v, .int .i64 C.length, .int .i64 0]) ∧ OsAt w' v (C ++ ⟨C.length, u, false⟩ :: D) ∧ Kept noBlock w w' := by
  have hk := ((Kept.refl noBlock w).alloc (.cells #[.int .i64 n, v] 43)).alloc (.cells #[.int .i64 0, .slice none 0 0] 43)
  obtain ⟨A, c, rfl, -, -⟩ := SlK.shape h
  have hs1 := h.kept hk
  have hlen := SlK.run_len osT hs1
  have hcl : C.length ≤ (C ++ D).length := by simp
  obtain ⟨A1, c1, hto, hst⟩ := SlK.run_to osT h (i := (C.length : Int)) (k := C.length) rfl hcl
  obtain ⟨A2, c2, hfrom, hsf⟩ := SlK.run_from osT h (i := (C.length : Int)) (k := C.length) rfl hcl
  have e1 : ((C ++ D).flatMap oC).take (C.length * 3) = C.flatMap oC := by
    rw [List.flatMap_append, List.take_left' (oC_len C)]
  have e2 : ((C ++ D).flatMap oC).drop (C.length * 3) = D.flatMap oC := by
    rw [List.flatMap_append, List.drop_left' (oC_len C)]
  have e3 : (C ++ D).length - C.length = D.length := by simp
  rw [e1] at hst
  rw [e2, e3] at hsf
  rw [e3] at hfrom
  have HS := Lib.hid hs1
  have HT := Lib.hid (SlK.keptNone hst hk)
  have HF := Lib.hid (SlK.keptNone (SlK.lo hsf) hk)
  have HC := Lib.hid hC
  have HD := Lib.hid hD
  have HX := Lib.hid ((Blk.new w 43 #[.int .i64 n, .slice A (C ++ D).length c]).alloc (.cells #[.int .i64 0, .slice none 0 0] 43))
  have HR := Lib.hid (Blk.new_at (k := w.heap.size + 1) (w.alloc (.cells #[.int .i64 n, .slice A (C ++ D).length c] 43)) 43 #[.int .i64 0, .slice none 0 0] (by simp))
  have HK := Lib.hid hk
  have hid2 : ∀ i : Nat, i < C.length → ∃ p, (C ++ D)[i]? = some p ∧ p.id = (i : Int) := fun i hi => by
    obtain ⟨p, hp⟩ : ∃ p, C[i]? = some p := ⟨_, List.getElem?_eq_getElem hi⟩
    exact ⟨p, by rw [List.getElem?_append_left hi]; exact hp, hC i p hp⟩
  have hid3 : C.length < (C ++ D).length → ∃ p, (C ++ D)[C.length]? = some p ∧ p.id ≠ (C.length : Int) := fun hlt => by
    obtain ⟨p, hp⟩ : ∃ p, (C ++ D)[C.length]? = some p := ⟨_, List.getElem?_eq_getElem hlt⟩
    refine ⟨p, hp, hD p ?_⟩
    rw [List.getElem?_append_right (Nat.le_refl _), Nat.sub_self] at hp
    exact hp
  have HID2 := Lib.hid hid2
  have HID3 := Lib.hid hid3
  have hDl : (C ++ D).length = C.length + D.length := by simp
  have HDL := Lib.hid hDl
  clear h hk hs1 hst hsf hC hD e1 e2 e3 hid2 hid3 hDl
  generalize hLn : (C ++ D).length = ln at *
  have HLN := Lib.hid hLn
  clear hLn
  go_enter Tryd.func14, Tryd.ntmps14
  go_wp2
  go_loop [7] (fun i => ∃ k : Nat, k ≤ C.length ∧ i = .int .i64 k) (fun i => ln - (intOf i).toNat)
  case atStart => exact ⟨0, Nat.zero_le _, rfl⟩
  case round =>
    obtain ⟨k, hkl, rfl⟩ := hrel
    by_cases hlt : k < C.length
    · obtain ⟨p, hp, hpe⟩ := HID2.out k hlt
      obtain ⟨g, off, hidx, -, hc0, -⟩ := o_at (HS.out) hp
      rw [hpe] at hc0
      clear hp
      go_wp2
      go_round
      case rel => exact ⟨k + 1, by omega, by go_num⟩
      case measure => simp [intOf]; omega
    · obtain rfl : k = C.length := by omega
      by_cases hend : C.length < ln
      · obtain ⟨p, hp, hpe⟩ := HID3.out hend
        obtain ⟨g, off, hidx, -, hc0, -⟩ := o_at HS.out hp
        have hne : (p.id == (C.length : Int)) = false := by rw [beq_eq_false_iff_ne]; exact hpe
        clear hp
        go_wp2_with (at_builtin; go_must (refine wpList_append_sl _ osT rfl (.tmp 33) (.tmp 37) rfl w.heap.size _ 0 [] rfl (World.ownsRow_nil _ _ _ _) _ C.length (C.flatMap oC) rfl HT.out (fun u hu => oC_one hu) ?c1 ?c2 ?_))
        case c1 => omega
        case c2 => first | omega | (simp; omega)
        intro v1 w3 hap1
        have hbx := HX.out.appended hap1 (World.ownsRow_nil _ _ _ _) (by decide)
        have hbr := HR.out.appended hap1 (World.ownsRow_nil _ _ _ _) (by decide)
        have hk1 := hap1.below (World.ownsRow_nil _ _ _ _) HK.out (Nat.le_refl _)
        have HF1 := Lib.hid (SlK.keptNone HF.out hap1.keptNil)
        have hown1 := hap1.own
        have hsz1 := hk1.size
        have hszr := hbr.lt
        obtain ⟨a0, a1, fx⟩ := sBlk_cells hbx
        have HBX := Lib.hid hbx
        have HBR := Lib.hid hbr
        have HK1 := Lib.hid hk1
        have HO1 := Lib.hid hown1
        clear hbx hbr hk1 hown1 hap1 hto
        go_wp2_with (at_builtin; go_must (refine wpList_append_sl _ osT rfl (.tmp 39) (.tmp 43) rfl w.heap.size _ C.length (C.flatMap oC) rfl (HO1.out.alloc _) _ 1 [.int .i64 C.length, .int .u64 u, .bool false] rfl (Sl.made_at (Blk.new_at _ _ _ rfl) _ rfl rfl one_max) (by simp [Value.oneCell']) ?d1 ?d2 ?_))
        case d1 => omega
        case d2 => first | omega | (simp; omega)
        intro v2 w4 hap2
        have hbx := (HBX.out.alloc _).appended hap2 (HO1.out.alloc _) (by decide)
        have hbr := (HBR.out.alloc _).appended hap2 (HO1.out.alloc _) (by decide)
        have hf2 := SlK.appended (SlK.alloc HF1.out _) hap2 (HO1.out.alloc _) (Nat.le_refl _)
        have hk1 := hap2.below (HO1.out.alloc _) (HK1.out.alloc _) (Nat.le_refl _)
        have hsz2 := hk1.size
        have hszr2 := hbr.lt
        have hown2 := hap2.own
        clear a0 a1 fx
        obtain ⟨a0, a1, fx⟩ := sBlk_cells hbx
        have HBX2 := Lib.hid hbx
        have HBR2 := Lib.hid hbr
        have HK2 := Lib.hid hk1
        have HO2 := Lib.hid hown2
        have HF2 := Lib.hid hf2
        clear hbx hbr hk1 hown2 hap2 hf2 HBX HBR HK1 HO1
        go_wp2_with (at_builtin; go_must (refine wpList_append_sl _ osT rfl (.tmp 45) (.tmp 49) rfl w.heap.size _ (C.length + 1) _ rfl HO2.out _ D.length (D.flatMap oC) rfl HF2.out (fun u hu => oC_one hu) ?e1 ?e2 ?_))
        case e1 => have := HDL.out; omega
        case e2 => have := HDL.out; simp; omega
        intro v3 w5 hap3
        have hbx := HBX2.out.appended hap3 HO2.out (by decide)
        have hbr := HBR2.out.appended hap3 HO2.out (by decide)
        have hk1 := hap3.below HO2.out HK2.out (Nat.le_refl _)
        have hl5 := Sl.of_own hap3.own
        obtain ⟨A5, c5, rfl, -, -⟩ := hl5.shape
        have hszr3 := hbr.lt
        clear a0 a1 fx
        obtain ⟨a0, a1, fx⟩ := sBlk_cells hbx
        obtain ⟨b0, b1, fr⟩ := sBlk_cells hbr
        have HBX3 := Lib.hid hbx
        have HBR3 := Lib.hid hbr
        have HK3 := Lib.hid hk1
        have HL5 := Lib.hid hl5
        clear hbx hbr hk1 hl5 hap3 HBX2 HBR2 HK2 HO2
        go_wp2_with fail
        have h5 : Sl w5 77 3 (.slice A5 (C.length + 1 + D.length) c5) (C ++ ⟨C.length, u, false⟩ :: D).length ((C ++ ⟨C.length, u, false⟩ :: D).flatMap oC) := by
          have h6 := HL5.out
          rw [show (C ++ (⟨C.length, u, false⟩ : XO) :: D).length = C.length + 1 + D.length by simp; omega]
          simpa [List.flatMap_append, oC] using h6
        exact stail3 rfl rfl rfl rfl rfl (HBR3.out.far (p := ⟨w.heap.size, 1, none⟩) (by simp) _) (h5.far HBX3.out (by decide) 1 _) (HK3.out.setCell (p := ⟨w.heap.size, 1, none⟩) (fun hlt => absurd hlt (by simp)) _) (by omega)
      · skip
        go_wp2_with (at_builtin; go_must (refine wpList_append_sl _ osT rfl (.tmp 33) (.tmp 37) rfl w.heap.size _ 0 [] rfl (World.ownsRow_nil _ _ _ _) _ C.length (C.flatMap oC) rfl HT.out (fun u hu => oC_one hu) ?c1 ?c2 ?_))
        case c1 => omega
        case c2 => first | omega | (simp; omega)
        intro v1 w3 hap1
        have hbx := HX.out.appended hap1 (World.ownsRow_nil _ _ _ _) (by decide)
        have hbr := HR.out.appended hap1 (World.ownsRow_nil _ _ _ _) (by decide)
        have hk1 := hap1.below (World.ownsRow_nil _ _ _ _) HK.out (Nat.le_refl _)
        have HF1 := Lib.hid (SlK.keptNone HF.out hap1.keptNil)
        have hown1 := hap1.own
        have hsz1 := hk1.size
        have hszr := hbr.lt
        obtain ⟨a0, a1, fx⟩ := sBlk_cells hbx
        have HBX := Lib.hid hbx
        have HBR := Lib.hid hbr
        have HK1 := Lib.hid hk1
        have HO1 := Lib.hid hown1
        clear hbx hbr hk1 hown1 hap1 hto
        go_wp2_with (at_builtin; go_must (refine wpList_append_sl _ osT rfl (.tmp 39) (.tmp 43) rfl w.heap.size _ C.length (C.flatMap oC) rfl (HO1.out.alloc _) _ 1 [.int .i64 C.length, .int .u64 u, .bool false] rfl (Sl.made_at (Blk.new_at _ _ _ rfl) _ rfl rfl one_max) (by simp [Value.oneCell']) ?d1 ?d2 ?_))
        case d1 => omega
        case d2 => first | omega | (simp; omega)
        intro v2 w4 hap2
        have hbx := (HBX.out.alloc _).appended hap2 (HO1.out.alloc _) (by decide)
        have hbr := (HBR.out.alloc _).appended hap2 (HO1.out.alloc _) (by decide)
        have hf2 := SlK.appended (SlK.alloc HF1.out _) hap2 (HO1.out.alloc _) (Nat.le_refl _)
        have hk1 := hap2.below (HO1.out.alloc _) (HK1.out.alloc _) (Nat.le_refl _)
        have hsz2 := hk1.size
        have hszr2 := hbr.lt
        have hown2 := hap2.own
        clear a0 a1 fx
        obtain ⟨a0, a1, fx⟩ := sBlk_cells hbx
        have HBX2 := Lib.hid hbx
        have HBR2 := Lib.hid hbr
        have HK2 := Lib.hid hk1
        have HO2 := Lib.hid hown2
        have HF2 := Lib.hid hf2
        clear hbx hbr hk1 hown2 hap2 hf2 HBX HBR HK1 HO1
        go_wp2_with (at_builtin; go_must (refine wpList_append_sl _ osT rfl (.tmp 45) (.tmp 49) rfl w.heap.size _ (C.length + 1) _ rfl HO2.out _ D.length (D.flatMap oC) rfl HF2.out (fun u hu => oC_one hu) ?e1 ?e2 ?_))
        case e1 => have := HDL.out; omega
        case e2 => have := HDL.out; simp; omega
        intro v3 w5 hap3
        have hbx := HBX2.out.appended hap3 HO2.out (by decide)
        have hbr := HBR2.out.appended hap3 HO2.out (by decide)
        have hk1 := hap3.below HO2.out HK2.out (Nat.le_refl _)
        have hl5 := Sl.of_own hap3.own
        obtain ⟨A5, c5, rfl, -, -⟩ := hl5.shape
        have hszr3 := hbr.lt
        clear a0 a1 fx
        obtain ⟨a0, a1, fx⟩ := sBlk_cells hbx
        obtain ⟨b0, b1, fr⟩ := sBlk_cells hbr
        have HBX3 := Lib.hid hbx
        have HBR3 := Lib.hid hbr
        have HK3 := Lib.hid hk1
        have HL5 := Lib.hid hl5
        clear hbx hbr hk1 hl5 hap3 HBX2 HBR2 HK2 HO2
        go_wp2_with fail
        have h5 : Sl w5 77 3 (.slice A5 (C.length + 1 + D.length) c5) (C ++ ⟨C.length, u, false⟩ :: D).length ((C ++ ⟨C.length, u, false⟩ :: D).flatMap oC) := by
          have h6 := HL5.out
          rw [show (C ++ (⟨C.length, u, false⟩ : XO) :: D).length = C.length + 1 + D.length by simp; omega]
          simpa [List.flatMap_append, oC] using h6
        exact stail3 rfl rfl rfl rfl rfl (HBR3.out.far (p := ⟨w.heap.size, 1, none⟩) (by simp) _) (h5.far HBX3.out (by decide) 1 _) (HK3.out.setCell (p := ⟨w.heap.size, 1, none⟩) (fun hlt => absurd hlt (by simp)) _) (by omega)
end Go.Proofs.YtelcielfhgijpaaDoor

/- The reference's request by value: begin, gone. -/
import Derived.Test.YtooedjedncokpaaRefA
namespace Go.Proofs.Ytooedjedncokpaa
set_option linter.unusedVariables false
open Go.RowKit

section
variable {w w' : World} {base : Nat} {e : TypeId} {sz k n : Nat} {v v' : Value} {xs ys : List Value}
theorem Blk.appended {g : Nat} {t : TypeId} {cs : Array Value} (hb : Blk w g t cs) (h : Appended w w' base e sz v v' k xs) (ho : w.ownsRow base e sz v n ys) (hne : e ≠ t) : Blk w' g t cs :=
  hb.kept h.kept fun hg => by
    obtain ⟨_, cs', hh⟩ := own_type ho hg
    exact Blk.ne_ (t := e) hh hb hne rfl
theorem Lo.appended {B sz' n' : Nat} {u : Value} {zs : List Value} (hs : Lo w B sz' u n' zs) (h : Appended w w' base e sz v v' k xs) (ho : w.ownsRow base e sz v n ys) (hB : B ≤ base) : Lo w' B sz' u n' zs :=
  Lo.kept hs h.kept fun g hg hv => by have := (own_type ho hv).1; omega
theorem Appended.below {S : Nat → Prop} (h : Appended w w' base e sz v v' k xs) (ho : w.ownsRow base e sz v n ys) {w0 : World} (hk : Kept S w0 w) (hb : w0.heap.size ≤ base) : Kept S w0 w' :=
  hk.trans h.kept fun i hi hv => by have := (own_type ho hv).1; omega
end
theorem tCells_one {l : List (Int × ByteArray)} {u : Value} (hu : u ∈ l.flatMap tCells) : u.oneCell' = true := by
  obtain ⟨a, _, h⟩ := List.mem_flatMap.1 hu
  simp only [tCells, List.mem_cons, List.not_mem_nil, or_false] at h
  rcases h with rfl | rfl <;> rfl
set_option maxHeartbeats 1000000 in
set_option maxRecDepth 100000 in
theorem rbegin_cons {r : XReq} {B : Nat} {hv lv : Value} {s : ByteArray} {t : List ByteArray} (why by_ : Int) {w : World} (h : RefAt w B r hv lv) (hB : B ≤ w.heap.size) (hh : r.hosts = s :: t) (ht0 : 0 ≤ r.tries) (ht1 : r.tries < 4611686018427387904)
    (hl : r.live.length ≤ 1000) (hg : aget r.tries r.live = none) :
    Calls Try.prog 32 #[rVal r hv lv, .int .i64 why, .int .i64 by_] w (RefPost w B (r.start s t)) := by
  have e : r.start s t = ({ r with hosts := t, live := r.live ++ [(r.tries, s)], tries := r.tries + 1 }, [⟨1, r.tries, s, 0⟩]) := by
    unfold XReq.start; rw [aput_none (aget_eq_none.1 hg)]
  rw [e]
  obtain ⟨h1, h2⟩ := h
  rw [hh] at h1
  obtain ⟨A1, c1, rfl, -, -⟩ := h1.shape
  obtain ⟨A2, c2, rfl, -, -⟩ := h2.shape
  have H1 := Lib.hid (fun cs cs' => (h1.alloc (.cells cs 53)).alloc (.cells cs' 53))
  have H2 := Lib.hid (fun cs cs' => (h2.alloc (.cells cs 53)).alloc (.cells cs' 53))
  have HX := Lib.hid (fun cs cs' => (Blk.new w 53 cs).alloc (.cells cs' 53))
  have HR := Lib.hid (fun cs cs' => Blk.new_at (k := w.heap.size + 1) (w.alloc (.cells cs 53)) 53 cs' (by simp))
  have HK := Lib.hid (fun cs cs' => ((Kept.refl noBlock w).alloc (.cells cs 53)).alloc (.cells cs' 53))
  have g1 := H1.out (rCells r (.slice A1 (s :: t).length c1) (.slice A2 r.live.length c2)) rZero
  obtain ⟨g, off, hidx, hgl, -, hcell⟩ := g1.run_index strsT (i := 0) (k := 0) rfl (by simp)
  obtain ⟨A3, c3, hfrom, hs3⟩ := h1.run_from strsT (i := 1) (k := 1) rfl (by simp)
  have e3 : (List.map Value.string (s :: t)).drop (1 * 1) = t.map Value.string := rfl
  rw [e3] at hs3
  have H3 := Lib.hid (fun cs cs' => (hs3.alloc (.cells cs 53)).alloc (.cells cs' 53))
  have hcs := hcell 0 (.string s) rfl
  simp only [Nat.add_zero] at hcs
  have hlen1 : ((((s :: t).length : Nat) : Int) == 0) = false := by rw [beq_eq_false_iff_ne]; simp only [List.length_cons]; omega
  have hpos : 0 < (s :: t).length := by simp
  have hlen2 : (s :: t).length ≤ 9223372036854775807 := by
    obtain ⟨A5, c5, e5, h5, h6⟩ := h1.shape
    unfold maxLen at h6; omega
  have EN := Lib.hid (show (s :: t).length - 1 = t.length by simp)
  generalize hn : (s :: t).length = n at *
  have HN := Lib.hid hn
  clear h1 h2 hcell g1 hg e hn hh hgl hs3 e3
  go_enter Try.func32, Try.ntmps32
  go_wp2_with (at_builtin; go_must (refine wpList_append_sl _ tsT rfl (.tmp 31) (.tmp 33) rfl w.heap.size _ 0 [] rfl (World.ownsRow_nil _ _ _ _) _ r.live.length (r.live.flatMap tCells) rfl (H2.out _ _) (fun u hu => tCells_one hu) ?c1 ?c2 ?_))
  case c1 => omega
  case c2 => first | omega | (simp; omega)
  intro v1 w3 hap1
  have hbx := (HX.out _ _).appended hap1 (World.ownsRow_nil _ _ _ _) (by decide)
  have hbr := (HR.out _ _).appended hap1 (World.ownsRow_nil _ _ _ _) (by decide)
  have h31 := Lo.appended (H3.out _ _) hap1 (World.ownsRow_nil _ _ _ _) hB
  have hk1 := hap1.below (World.ownsRow_nil _ _ _ _) (HK.out _ _) (Nat.le_refl _)
  have hown1 := hap1.own
  have hsz1 := hk1.size
  obtain ⟨a0, a1, a2, a3, a4, a5, a6, a7, a8, a9, a10, a11, a12, a13⟩ := cells14 hbx
  have fx := hbx.frozen
  have HBX := Lib.hid hbx
  have HBR := Lib.hid hbr
  have H31 := Lib.hid h31
  have HK1 := Lib.hid hk1
  have HO1 := Lib.hid hown1
  have hszr := hbr.lt
  clear hbx hbr h31 hk1 hown1 hap1
  go_wp2_with (at_builtin; go_must (refine wpList_append_sl _ tsT rfl (.tmp 35) (.tmp 39) rfl w.heap.size _ r.live.length (r.live.flatMap tCells) rfl (HO1.out.alloc _) _ 1 [.int .i64 r.tries, .string s] rfl (Sl.made_at (Blk.new_at _ _ _ rfl) _ rfl rfl one_max) (by simp [Value.oneCell']) ?d1 ?d2 ?_))
  case d1 => omega
  case d2 => first | omega | (simp; omega)
  intro v2 w4 hap2
  have hbx := (HBX.out.alloc _).appended hap2 (HO1.out.alloc _) (by decide)
  have hbr := (HBR.out.alloc _).appended hap2 (HO1.out.alloc _) (by decide)
  have h31 := (Lo.appended (SlK.alloc H31.out _) hap2 (HO1.out.alloc _) hB)
  have hk1 := hap2.below (HO1.out.alloc _) (HK1.out.alloc _) (Nat.le_refl _)
  have hl4 := Sl.of_own hap2.own
  obtain ⟨A5, c5, rfl, -, -⟩ := hl4.shape
  clear a0 a1 a2 a3 a4 a5 a6 a7 a8 a9 a10 a11 a12 a13 fx
  obtain ⟨a0, a1, a2, a3, a4, a5, a6, a7, a8, a9, a10, a11, a12, a13⟩ := cells14 hbx
  obtain ⟨b0, b1, b2, b3, b4, b5, b6, b7, b8, b9, b10, b11, b12, b13⟩ := cells14 hbr
  have fx := hbx.frozen
  have fr := hbr.frozen
  have hszr4 := hbr.lt
  have HBX4 := Lib.hid hbx
  have HBR4 := Lib.hid hbr
  have H314 := Lib.hid h31
  have HK4 := Lib.hid hk1
  have HL4 := Lib.hid hl4
  clear hbx hbr h31 hk1 hl4 hap2
  go_wp2
  have hkS := ((Kept.refl (fun i => i = w.heap.size) w4).setCell (p := ⟨w.heap.size, 8, none⟩) (fun _ => rfl) (.slice A5 (r.live.length + 1) c5)).setCell (p := ⟨w.heap.size, 9, none⟩) (fun _ => rfl) (.int .i64 (r.tries + 1))
  have hrf : RefAt w4 B { r with hosts := t, live := r.live ++ [(r.tries, s)], tries := r.tries + 1 } (.slice A3 (n - 1) c3) (.slice A5 (r.live.length + 1) c5) :=
    ⟨by have := H314.out; rw [EN.out] at this ⊢; exact this, by have := HL4.out; simpa [List.flatMap_append, tCells] using this⟩
  exact rtailA (t := 6) (s := 7) rfl rfl rfl rfl (by simp only [sz_setCell]) ((HBR4.out.far (p := ⟨w.heap.size, 8, none⟩) (by simp) _).far (p := ⟨w.heap.size, 9, none⟩) (by simp) _) (hrf.stored HBX4.out hB hkS) (HK4.out.trans hkS fun i hi e => by omega) (by omega) (by omega)

theorem rbegin_nil {r : XReq} {B : Nat} {hv lv : Value} (why by_ : Int) {w : World} (h : RefAt w B r hv lv) (hB : B ≤ w.heap.size) (hh : r.hosts = []) :
    Calls Try.prog 32 #[rVal r hv lv, .int .i64 why, .int .i64 by_] w (RefPost w B (r.over why by_)) := by
  obtain ⟨A1, c1, rfl, -, -⟩ := h.1.shape
  obtain ⟨A2, c2, rfl, -, -⟩ := h.2.shape
  have hz : ((r.hosts.length : Nat) : Int) = 0 := by rw [hh]; rfl
  have hb := Blk.new (w.alloc (.cells (rCells r (.slice A1 r.hosts.length c1) (.slice A2 r.live.length c2)) 53)) 53 rZero
  have h2 := (h.alloc (.cells (rCells r (.slice A1 r.hosts.length c1) (.slice A2 r.live.length c2)) 53)).alloc (.cells rZero 53)
  have hk := ((Kept.refl noBlock w).alloc (.cells (rCells r (.slice A1 r.hosts.length c1) (.slice A2 r.live.length c2)) 53)).alloc (.cells rZero 53)
  have HK := Lib.hid hk
  have HB := Lib.hid hb
  have HF := Lib.hid (fun w (hB : B ≤ w.heap.size) => rover_at (r := r) (B := B) (hv := .slice A1 r.hosts.length c1) (lv := .slice A2 r.live.length c2) why by_ (w := w) (hB := hB))
  generalize r.over why by_ = x at *
  clear h hk hb hh
  go_enter Try.func32, Try.ntmps32
  go_wp2_with (go_at_call 47; refine (HF.out _ (by simp; omega) h2).mono ?_; rintro e w1 ⟨hv1, lv1, av, rfl, hr1, ha1, hk1⟩; obtain ⟨A3, c3, rfl, -, -⟩ := hr1.1.shape; obtain ⟨A4, c4, rfl, -, -⟩ := hr1.2.shape; have hb1 := HB.out.kept hk1 id; rw [sz_alloc] at hb1; obtain ⟨d0, d1, d2, d3, d4, d5, d6, d7, d8, d9, d10, d11, d12, d13⟩ := cells14 hb1; have f := hb1.frozen; have HK1 := Lib.hid hk1; have HB1 := Lib.hid hb1; clear hk1 hb1)
  exact rtail (t := 6) (s := 7) rfl rfl rfl rfl HB1.out hr1 ha1 (HK.out.trans HK1.out fun _ _ h => h) (by omega) (by omega)

theorem Appended.keptNil {w w' : World} {base : Nat} {e : TypeId} {sz k : Nat} {v' : Value} {xs : List Value} (h : Appended w w' base e sz (.slice none 0 0) v' k xs) : Kept noBlock w w' := h.kept.mono fun i hi e => by simp [Value.ownBlock] at e
/-- What a reference's request must be for its operations to be told. -/
structure ROk (r : XReq) : Prop where
  tries0 : 0 ≤ r.tries
  tries1 : r.tries < 4611686018427387904
  live : r.live.length ≤ 1000
  keys : ∀ p ∈ r.live, p.1 < r.tries

theorem ROk.fresh {r : XReq} (h : ROk r) : aget r.tries r.live = none := aget_eq_none.2 fun p hp e => by have := h.keys p hp; omega

theorem rbegin_at {r : XReq} {B : Nat} {hv lv : Value} (why by_ : Int) {w : World} (h : RefAt w B r hv lv) (hB : B ≤ w.heap.size) (hO : ROk r) :
    Calls Try.prog 32 #[rVal r hv lv, .int .i64 why, .int .i64 by_] w (RefPost w B (r.begin why by_)) := by
  unfold XReq.begin
  cases hh : r.hosts with
  | nil => exact rbegin_nil why by_ h hB hh
  | cons s t => exact rbegin_cons why by_ h hB hh hO.tries0 hO.tries1 hO.live hO.fresh

set_option maxHeartbeats 1000000 in
set_option maxRecDepth 100000 in
theorem rgone_at {r : XReq} {B : Nat} {hv lv : Value} {C D : List (Int × ByteArray)} {n : Int} {v : ByteArray} {w : World} (h : RefAt w B r hv lv) (hB : B ≤ w.heap.size) (hL : r.live = C ++ (n, v) :: D) (hl : r.live.length ≤ 1000) :
    Calls Try.prog 53 #[rVal r hv lv, .int .i64 (C.length : Nat)] w (RefPost1 w B { r with live := C ++ D }) := by
  obtain ⟨h1, h2⟩ := h
  obtain ⟨A1, c1, rfl, -, -⟩ := h1.shape
  obtain ⟨A2, c2, rfl, -, -⟩ := h2.shape
  have hcl : C.length + D.length + 1 = r.live.length := by rw [hL]; simp; omega
  obtain ⟨A3, c3, hto, hs3⟩ := h2.run_to tsT (i := ((C.length : Nat) : Int)) (k := C.length) rfl (by omega)
  obtain ⟨A4, c4, hfrom, hs4⟩ := h2.run_from tsT (i := ((C.length : Nat) : Int) + 1) (k := C.length + 1) (by omega) (by omega)
  have e3 : (r.live.flatMap tCells).take (C.length * 2) = C.flatMap tCells := by
    rw [hL, List.flatMap_append, List.take_append_of_le_length (by rw [flat_len (k := 2) (fun _ => rfl)]; omega), List.take_of_length_le (by rw [flat_len (k := 2) (fun _ => rfl)]; omega)]
  have e4 : (r.live.flatMap tCells).drop ((C.length + 1) * 2) = D.flatMap tCells := by
    rw [hL, show C ++ (n, v) :: D = (C ++ [(n, v)]) ++ D by simp, List.flatMap_append]
    exact List.drop_left' (by rw [flat_len (k := 2) (fun _ => rfl)]; simp)
  have e5 : r.live.length - (C.length + 1) = D.length := by omega
  rw [e3] at hs3
  rw [e4, e5] at hs4
  rw [e5] at hfrom
  have H1 := Lib.hid (fun cs cs' => (h1.alloc (.cells cs 53)).alloc (.cells cs' 53))
  have H3 := Lib.hid (fun cs cs' => (hs3.alloc (.cells cs 53)).alloc (.cells cs' 53))
  have H4 := Lib.hid (fun cs cs' => (hs4.alloc (.cells cs 53)).alloc (.cells cs' 53))
  have HX := Lib.hid (fun cs cs' => (Blk.new w 53 cs).alloc (.cells cs' 53))
  have HR := Lib.hid (fun cs cs' => Blk.new_at (k := w.heap.size + 1) (w.alloc (.cells cs 53)) 53 cs' (by simp))
  have HK := Lib.hid (fun cs cs' => ((Kept.refl noBlock w).alloc (.cells cs 53)).alloc (.cells cs' 53))
  clear h1 h2 hs3 hs4 e3 e4 e5 hL
  go_enter Try.func53, Try.ntmps53
  go_wp2_with (at_builtin; go_must (refine wpList_append_sl _ tsT rfl (.tmp 6) (.tmp 10) rfl w.heap.size _ 0 [] rfl (World.ownsRow_nil _ _ _ _) _ C.length (C.flatMap tCells) rfl (H3.out _ _) (fun u hu => tCells_one hu) ?c1 ?c2 ?_))
  case c1 => omega
  case c2 => first | omega | (simp; omega)
  intro v1 w3 hap1
  have hbx := (HX.out _ _).appended hap1 (World.ownsRow_nil _ _ _ _) (by decide)
  have hbr := (HR.out _ _).appended hap1 (World.ownsRow_nil _ _ _ _) (by decide)
  have h31 := Lo.appended (H1.out _ _) hap1 (World.ownsRow_nil _ _ _ _) hB
  have h41 := (H4.out _ _).keptNone hap1.keptNil
  have hk1 := hap1.below (World.ownsRow_nil _ _ _ _) (HK.out _ _) (Nat.le_refl _)
  have hown1 := hap1.own
  have hsz1 := hk1.size
  have hszr := hbr.lt
  obtain ⟨a0, a1, a2, a3, a4, a5, a6, a7, a8, a9, a10, a11, a12, a13⟩ := cells14 hbx
  have fx := hbx.frozen
  have HBX := Lib.hid hbx
  have HBR := Lib.hid hbr
  have H31 := Lib.hid h31
  have H41 := Lib.hid h41
  have HK1 := Lib.hid hk1
  have HO1 := Lib.hid hown1
  clear hbx hbr h31 hk1 hown1 hap1 h41 hto
  go_wp2_with (at_builtin; go_must (refine wpList_append_sl _ tsT rfl (.tmp 12) (.tmp 17) rfl w.heap.size _ C.length (C.flatMap tCells) rfl HO1.out _ D.length (D.flatMap tCells) rfl H41.out (fun u hu => tCells_one hu) ?d1 ?d2 ?_))
  case d1 => omega
  case d2 => first | omega | (simp; omega)
  intro v2 w4 hap2
  have hbx := HBX.out.appended hap2 HO1.out (by decide)
  have hbr := HBR.out.appended hap2 HO1.out (by decide)
  have h31 := Lo.appended H31.out hap2 HO1.out hB
  have hk1 := hap2.below HO1.out HK1.out (Nat.le_refl _)
  have hl4 := Sl.of_own hap2.own
  obtain ⟨A5, c5, rfl, -, -⟩ := hl4.shape
  clear a0 a1 a2 a3 a4 a5 a6 a7 a8 a9 a10 a11 a12 a13 fx
  obtain ⟨a0, a1, a2, a3, a4, a5, a6, a7, a8, a9, a10, a11, a12, a13⟩ := cells14 hbx
  obtain ⟨b0, b1, b2, b3, b4, b5, b6, b7, b8, b9, b10, b11, b12, b13⟩ := cells14 hbr
  have fx := hbx.frozen
  have fr := hbr.frozen
  have hszr4 := hbr.lt
  have HBX4 := Lib.hid hbx
  have HBR4 := Lib.hid hbr
  have H314 := Lib.hid h31
  have HK4 := Lib.hid hk1
  have HL4 := Lib.hid hl4
  clear hbx hbr h31 hk1 hl4 hap2
  go_wp2
  have hkS := (Kept.refl (fun i => i = w.heap.size) w4).setCell (p := ⟨w.heap.size, 8, none⟩) (fun _ => rfl) (.slice A5 (C.length + D.length) c5)
  have hrf : RefAt w4 B { r with live := C ++ D } (.slice A1 r.hosts.length c1) (.slice A5 (C.length + D.length) c5) :=
    ⟨H314.out, by have := HL4.out; simpa [List.flatMap_append] using this⟩
  exact rtail1 (t := 4) rfl rfl rfl (HBR4.out.far (p := ⟨w.heap.size, 8, none⟩) (by simp) _) (hrf.stored HBX4.out hB hkS) (HK4.out.trans hkS fun i hi e => by omega) (by omega) (by omega)
end Go.Proofs.Ytooedjedncokpaa

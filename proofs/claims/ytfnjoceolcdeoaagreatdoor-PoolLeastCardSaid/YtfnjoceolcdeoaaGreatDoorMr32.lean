/- reply.part, as it reads: once for each type. -/
import Derived.Test.YtfnjoceolcdeoaaGreatDoorMr29
import Derived.Test.YtfnjoceolcdeoaaGreatDoorMr30
import Derived.Test.YtfnjoceolcdeoaaGreatDoorMr31
import Derived.Deep.DeepCutAuto
namespace Go.Proofs.YtfnjoceolcdeoaaGreatDoor
set_option linter.unusedVariables false
open Go.RowKit

/-- A stream of parts, as it reads: what is left, or that it failed. -/
def StrmAt (w : World) (g : Nat) (r : Option (List UInt8)) : Prop :=
  (∃ l A n c, r = some l ∧ n = l.length ∧ n ≤ 1000000 ∧ Blk w g 267 #[.bool false, .slice A n c, .int .i64 0] ∧ Sl w 5 1 (.slice A n c) n (bsC l)) ∨
  (∃ (v : Value) (e : Int), r = none ∧ e ≠ 0 ∧ Blk w g 267 #[.bool false, v, .int .i64 e])
theorem StrmAt.kept {w w' : World} {g : Nat} {r : Option (List UInt8)} {S : Nat → Prop} (h : StrmAt w g r) (hk : Kept S w w') (hg : ¬ S g) (hS : ∀ k cs fz, S k → w.heap[k]? ≠ some (Obj.cells cs 5 fz)) : StrmAt w' g r := by
  rcases h with ⟨l, A, n, c, hr, hn, hm, hb, hs⟩ | ⟨v, e, hr, he, hb⟩
  · exact .inl ⟨l, A, n, c, hr, hn, hm, hb.kept hk hg, SlK.kept hs hk hS⟩
  · exact .inr ⟨v, e, hr, he, hb.kept hk hg⟩
theorem StrmAt.blk {w : World} {g : Nat} {r : Option (List UInt8)} (h : StrmAt w g r) : ∃ cs, Blk w g 267 cs := by
  rcases h with ⟨l, A, n, c, hr, hn, hm, hb, hs⟩ | ⟨v, e, hr, he, hb⟩
  · exact ⟨_, hb⟩
  · exact ⟨_, hb⟩
/-- What a part leaves: the place that it was read into, and what is left; or a stream that failed. -/
def PartPost {α : Type} (w : World) (g G : Nat) (t : TypeId) (cs : Array Value) (put : Array Value → Value → Array Value) (r : Option (List UInt8)) (get : List UInt8 → Option (α × List UInt8)) (rep : World → Nat → α → Value → Prop) (e : Ending) (w' : World) : Prop :=
  e = .returned (.tuple #[]) ∧ Kept (fun k => k = g ∨ k = G) w w' ∧ ((r.bind get = none ∧ StrmAt w' g none ∧ Blk w' G t cs) ∨
    ∃ a rest x, r.bind get = some (a, rest) ∧ StrmAt w' g (some rest) ∧ Blk w' G t (put cs x) ∧ rep w' w.heap.size a x)
def put1 (off : Nat) (cs : Array Value) (x : Value) : Array Value := cs.setIfInBounds off x
def put2 (off : Nat) (cs : Array Value) (x : Value) : Array Value := match x with
  | .agg ⟨[u, v]⟩ => (cs.setIfInBounds off u).setIfInBounds (off + 1) v
  | _ => cs
def byR (ty : TypeId) (w : World) (B : Nat) (a : List UInt8) (x : Value) : Prop := ∃ A n c, x = .slice A n c ∧ OwnB ty w B A n c a
def u32R (_ : World) (_ : Nat) (a : Nat) (x : Value) : Prop := x = .int .u32 (a : Int)
def u16R (_ : World) (_ : Nat) (a : Nat) (x : Value) : Prop := x = .int .u16 (a : Int)
def u8R (_ : World) (_ : Nat) (a : Nat) (x : Value) : Prop := x = .int .u8 (a : Int)
theorem OwnB.keep {ty : TypeId} {w w' : World} {S : Nat → Prop} {B : Nat} {A : Option Addr} {n c : Nat} {l : List UInt8} (h : OwnB ty w B A n c l) (hk : Kept S w w') (hS : ∀ k, S k → k < B) : OwnB ty w' B A n c l :=
  ⟨h.1, h.2.keptAll hk fun g e he hs => by have := hS g hs; have := he.1; omega⟩
theorem byR.keep {ty : TypeId} {w w' : World} {S : Nat → Prop} {B : Nat} {a : List UInt8} {x : Value} (h : byR ty w B a x) (hk : Kept S w w') (hS : ∀ k, S k → k < B) : byR ty w' B a x := by
  obtain ⟨A, n, c, hx, h⟩ := h; exact ⟨A, n, c, hx, h.keep hk hS⟩
theorem vlR.keep {ty : TypeId} {w w' : World} {S : Nat → Prop} {B : Nat} {a : Int × List UInt8} {x : Value} (h : vlR ty w B a x) (hk : Kept S w w') (hS : ∀ k, S k → k < B) : vlR ty w' B a x := by
  obtain ⟨A, n, c, hx, h⟩ := h; exact ⟨A, n, c, hx, h.keep hk hS⟩
theorem inR.keep {ty : TypeId} {w w' : World} {S : Nat → Prop} {B : Nat} {a : List UInt8 × Nat} {x : Value} (h : inR ty w B a x) (hk : Kept S w w') (hS : ∀ k, S k → k < B) : inR ty w' B a x := by
  obtain ⟨A, n, c, hx, h⟩ := h; exact ⟨A, n, c, hx, h.keep hk hS⟩
theorem own_from {w w' : World} {S : Nat → Prop} {B : Nat} {e : TypeId} {sz n : Nat} {v : Value} {xs : List Value} (h : w.ownsRow B e sz v n xs) (hk : Kept S w w') (hS : ∀ k, S k → k < B) : w'.ownsRow B e sz v n xs :=
  own_keptB h hk fun k hv hs => by have := (own_type h hv).1; have := hS k hs; omega
theorem tsR.keep {ty : TypeId} {w w' : World} {S : Nat → Prop} {B : Nat} {a : List (List UInt8)} {x : Value} (h : tsR ty w B a x) (hk : Kept S w w') (hS : ∀ k, S k → k < B) : tsR ty w' B a x := by
  obtain ⟨A, n, c, hx, hn, h⟩ := h; exact ⟨A, n, c, hx, hn, own_from h hk hS⟩
theorem rwR.keep {α : Type} {ty : TypeId} {sz : Nat} {w w' : World} {S : Nat → Prop} {B : Nat} {a : List α} {x : Value} (h : rwR ty sz w B a x) (hk : Kept S w w') (hS : ∀ k, S k → k < B) : rwR ty sz w' B a x := by
  obtain ⟨A, n, c, cl, hx, hn, h⟩ := h; exact ⟨A, n, c, cl, hx, hn, own_from h hk hS⟩
theorem cells3 {w : World} {g : Nat} {t : TypeId} {a0 a1 a2 : Value} (h : Blk w g t #[a0, a1, a2]) : w.cell? ⟨g, 0, none⟩ = some a0 ∧ w.cell? ⟨g, 1, none⟩ = some a1 ∧ w.cell? ⟨g, 2, none⟩ = some a2 := ⟨h.cell 0, h.cell 1, h.cell 2⟩
theorem cell_some {w : World} {g : Nat} {t : TypeId} {cs : Array Value} (h : Blk w g t cs) {i : Nat} (hi : i < cs.size) : ∃ u, w.cell? ⟨g, i, none⟩ = some u := ⟨cs[i], by rw [h.cell]; exact Array.getElem?_eq_getElem hi⟩

set_option maxHeartbeats 2000000 in
set_option maxRecDepth 100000 in
theorem ptStr_at {w : World} {g G off : Nat} {t : TypeId} {cs : Array Value} {r : Option (List UInt8)} (h : StrmAt w g r) (hb : Blk w G t cs) (ht : t ≠ 5) (ht2 : t ≠ 267) (hoff : off < cs.size) :
    Calls Tryz.prog 188 #[.pointer (some ⟨g, 0, none⟩), .pointer (some ⟨G, off, none⟩), .func (.func 177) #[] #[], .func (.func 109) #[] #[]] w (PartPost w g G t cs (put1 off) r getTextP txR) := by
  have hgl : g < w.heap.size := by obtain ⟨cs', hb'⟩ := h.blk; exact hb'.lt
  have hGl : G < w.heap.size := hb.lt
  have HGL := Lib.hid hgl
  have HGL2 := Lib.hid hGl
  clear hgl hGl
  have hgG : g ≠ G := by obtain ⟨cs', hb'⟩ := h.blk; exact Blk.ne_ hb' hb (Ne.symm ht2)
  rcases h with ⟨l, A, n, c, rfl, hn, hm, hbg, hs⟩ | ⟨v, e0, rfl, he, hbg⟩
  · have HG := Lib.hid (pGetText_at hs (by omega))
    have HB := Lib.hid hb
    have HBG := Lib.hid hbg
    have HN := Lib.hid hn
    obtain ⟨y0, y1, y2⟩ := cells3 hbg
    clear hs hb hbg hn
    go_enter Tryz.func188, Tryz.ntmps188
    go_wp2_with fail
    go_at_call 177
    refine HG.out.mono ?_
    rintro e w2 ⟨hk, hcase⟩
    have HK := Lib.hid hk
    have HBG2 := Lib.hid (HBG.out.kept hk (fun e => e))
    have HB2 := Lib.hid (HB.out.kept hk (fun e => e))
    have hg2 := HBG2.out.lt
    have hG2 := HB2.out.lt
    clear y0 y1 y2 hk
    rcases hcase with ⟨hnone, c2, hc2, rfl⟩ | ⟨a, rest, x, A2, k2, hsome, rfl, hx, hs2⟩
    · have hq : (c2 == 0) = false := by rw [beq_eq_false_iff_ne]; exact hc2
      have HC2 := Lib.hid hc2
      have HNO := Lib.hid hnone
      have HBG3 := Lib.hid (HBG2.out)
      have HB3 := Lib.hid (HB2.out)
      have HK3 := Lib.hid (HK.out)
      obtain ⟨z0, z1, z2⟩ := cells3 HBG3.out
      have f1 := HBG3.out.frozen 1
      have f2 := HBG3.out.frozen 2
      clear hc2 hnone
      go_wp2
      go_end0
      refine ⟨rfl, (((HK3.out.of_none).setCell (p := ⟨g, 1, none⟩) (fun _ => .inl rfl) _).setCell (p := ⟨g, 2, none⟩) (fun _ => .inl rfl) _), .inl ⟨HNO.out, .inr ⟨_, _, rfl, HC2.out, (HBG3.out.set_ 1 _).set_ 2 _⟩, (HB3.out.far (p := ⟨g, 1, none⟩) (Ne.symm hgG) _).far (p := ⟨g, 2, none⟩) (Ne.symm hgG) _⟩⟩
    · have HX := Lib.hid hx
      obtain rfl : x = .string (bS a) := hx
      have HBG3 := Lib.hid (HBG2.out)
      have HB3 := Lib.hid (HB2.out)
      have HK3 := Lib.hid (HK.out)
      have HK23 := Lib.hid ((Kept.refl (fun k => k = g ∨ k = G) w2))
      have HS3 := Lib.hid (hs2)
      obtain ⟨z0, z1, z2⟩ := cells3 HBG3.out
      have f1 := HBG3.out.frozen 1
      have f2 := HBG3.out.frozen 2
      have hG1 : ((w2.setCell ⟨g, 1, none⟩ (.slice A2 rest.length k2)).setCell ⟨g, 2, none⟩ (.int .i64 0)).frozen? ⟨G, off, none⟩ = false := ((HB3.out.far (p := ⟨g, 1, none⟩) (Ne.symm hgG) _).far (p := ⟨g, 2, none⟩) (Ne.symm hgG) _).frozen off
      obtain ⟨u0, hG0⟩ := cell_some ((HB3.out.far (p := ⟨g, 1, none⟩) (Ne.symm hgG) (.slice A2 rest.length k2)).far (p := ⟨g, 2, none⟩) (Ne.symm hgG) (.int .i64 0)) (i := off) (by omega)
      have HSO := Lib.hid hsome
      clear hsome hs2
      go_wp2
      go_end0
      have hbw := ((HBG3.out.set_ 1 (.slice A2 rest.length k2)).set_ 2 (.int .i64 0)).far (p := ⟨G, off, none⟩) hgG (.string (bS a))
      have hbW := ((HB3.out.far (p := ⟨g, 1, none⟩) (Ne.symm hgG) (.slice A2 rest.length k2)).far (p := ⟨g, 2, none⟩) (Ne.symm hgG) (.int .i64 0)).set_ off (.string (bS a))
      have hbo := HB3.out.far (p := ⟨g, 1, none⟩) (Ne.symm hgG) (.slice A2 rest.length k2) |>.far (p := ⟨g, 2, none⟩) (Ne.symm hgG) (.int .i64 0)
      have hsw := SlK.far (SlK.far (SlK.far HS3.out HBG3.out (by decide) 1 (.slice A2 rest.length k2)) (HBG3.out.set_ 1 _) (by decide) 2 (.int .i64 0)) hbo ht off (.string (bS a))
      have hkw := (((HK3.out.of_none (S := fun k => k = g ∨ k = G)).setCell (p := ⟨g, 1, none⟩) (fun _ => .inl rfl) (.slice A2 rest.length k2)).setCell (p := ⟨g, 2, none⟩) (fun _ => .inl rfl) (.int .i64 0)).setCell (p := ⟨G, off, none⟩) (fun _ => .inr rfl) (.string (bS a))
      have hk2w := ((HK23.out.setCell (p := ⟨g, 1, none⟩) (fun _ => .inl rfl) (.slice A2 rest.length k2)).setCell (p := ⟨g, 2, none⟩) (fun _ => .inl rfl) (.int .i64 0)).setCell (p := ⟨G, off, none⟩) (fun _ => .inr rfl) (.string (bS a))
      refine ⟨rfl, hkw, .inr ⟨a, rest, (.string (bS a)), HSO.out, .inl ⟨rest, A2, rest.length, k2, rfl, rfl, ?_, hbw, hsw⟩, hbW, rfl⟩⟩
      have := getTextP_less l a rest HSO.out
      have := HN.out
      omega
  · have hq : (e0 == 0) = false := by rw [beq_eq_false_iff_ne]; exact he
    have HE := Lib.hid he
    have HB := Lib.hid hb
    have HBG := Lib.hid hbg
    obtain ⟨y0, y1, y2⟩ := cells3 hbg
    clear he hb hbg
    go_enter Tryz.func188, Tryz.ntmps188
    go_wp2
    go_end0
    exact ⟨rfl, Kept.refl _ _, .inl ⟨rfl, .inr ⟨_, _, rfl, HE.out, HBG.out⟩, HB.out⟩⟩

set_option maxHeartbeats 2000000 in
set_option maxRecDepth 100000 in
theorem ptMul_at {w : World} {g G off : Nat} {t : TypeId} {cs : Array Value} {r : Option (List UInt8)} (h : StrmAt w g r) (hb : Blk w G t cs) (ht : t ≠ 5) (ht2 : t ≠ 267) (hoff : off < cs.size) :
    Calls Tryz.prog 189 #[.pointer (some ⟨g, 0, none⟩), .pointer (some ⟨G, off, none⟩), .func (.func 190) #[] #[], .func (.func 191) #[] #[]] w (PartPost w g G t cs (put1 off) r getMultisP (rwR 351 2)) := by
  have hgl : g < w.heap.size := by obtain ⟨cs', hb'⟩ := h.blk; exact hb'.lt
  have hGl : G < w.heap.size := hb.lt
  have HGL := Lib.hid hgl
  have HGL2 := Lib.hid hGl
  clear hgl hGl
  have hgG : g ≠ G := by obtain ⟨cs', hb'⟩ := h.blk; exact Blk.ne_ hb' hb (Ne.symm ht2)
  rcases h with ⟨l, A, n, c, rfl, hn, hm, hbg, hs⟩ | ⟨v, e0, rfl, he, hbg⟩
  · have HG := Lib.hid (mpGetMultis_at hs (by omega))
    have HB := Lib.hid hb
    have HBG := Lib.hid hbg
    have HN := Lib.hid hn
    obtain ⟨y0, y1, y2⟩ := cells3 hbg
    clear hs hb hbg hn
    go_enter Tryz.func189, Tryz.ntmps189
    go_wp2_with fail
    go_at_call 190
    refine HG.out.mono ?_
    rintro e w2 ⟨hk, hcase⟩
    have HK := Lib.hid hk
    have HBG2 := Lib.hid (HBG.out.kept hk (fun e => e))
    have HB2 := Lib.hid (HB.out.kept hk (fun e => e))
    have hg2 := HBG2.out.lt
    have hG2 := HB2.out.lt
    clear y0 y1 y2 hk
    rcases hcase with ⟨hnone, c2, hc2, rfl⟩ | ⟨a, rest, x, A2, k2, hsome, rfl, hx, hs2⟩
    · have hq : (c2 == 0) = false := by rw [beq_eq_false_iff_ne]; exact hc2
      have HC2 := Lib.hid hc2
      have HNO := Lib.hid hnone
      have HBG3 := Lib.hid (HBG2.out)
      have HB3 := Lib.hid (HB2.out)
      have HK3 := Lib.hid (HK.out)
      obtain ⟨z0, z1, z2⟩ := cells3 HBG3.out
      have f1 := HBG3.out.frozen 1
      have f2 := HBG3.out.frozen 2
      clear hc2 hnone
      go_wp2
      go_end0
      refine ⟨rfl, (((HK3.out.of_none).setCell (p := ⟨g, 1, none⟩) (fun _ => .inl rfl) _).setCell (p := ⟨g, 2, none⟩) (fun _ => .inl rfl) _), .inl ⟨HNO.out, .inr ⟨_, _, rfl, HC2.out, (HBG3.out.set_ 1 _).set_ 2 _⟩, (HB3.out.far (p := ⟨g, 1, none⟩) (Ne.symm hgG) _).far (p := ⟨g, 2, none⟩) (Ne.symm hgG) _⟩⟩
    · have HX := Lib.hid hx
      obtain ⟨A3, n3, c3, cl3, rfl, -, -⟩ := hx
      have HBG3 := Lib.hid (HBG2.out)
      have HB3 := Lib.hid (HB2.out)
      have HK3 := Lib.hid (HK.out)
      have HK23 := Lib.hid ((Kept.refl (fun k => k = g ∨ k = G) w2))
      have HS3 := Lib.hid (hs2)
      obtain ⟨z0, z1, z2⟩ := cells3 HBG3.out
      have f1 := HBG3.out.frozen 1
      have f2 := HBG3.out.frozen 2
      have hG1 : ((w2.setCell ⟨g, 1, none⟩ (.slice A2 rest.length k2)).setCell ⟨g, 2, none⟩ (.int .i64 0)).frozen? ⟨G, off, none⟩ = false := ((HB3.out.far (p := ⟨g, 1, none⟩) (Ne.symm hgG) _).far (p := ⟨g, 2, none⟩) (Ne.symm hgG) _).frozen off
      obtain ⟨u0, hG0⟩ := cell_some ((HB3.out.far (p := ⟨g, 1, none⟩) (Ne.symm hgG) (.slice A2 rest.length k2)).far (p := ⟨g, 2, none⟩) (Ne.symm hgG) (.int .i64 0)) (i := off) (by omega)
      have HSO := Lib.hid hsome
      clear hsome hs2
      go_wp2
      go_end0
      have hbw := ((HBG3.out.set_ 1 (.slice A2 rest.length k2)).set_ 2 (.int .i64 0)).far (p := ⟨G, off, none⟩) hgG (.slice A3 n3 c3)
      have hbW := ((HB3.out.far (p := ⟨g, 1, none⟩) (Ne.symm hgG) (.slice A2 rest.length k2)).far (p := ⟨g, 2, none⟩) (Ne.symm hgG) (.int .i64 0)).set_ off (.slice A3 n3 c3)
      have hbo := HB3.out.far (p := ⟨g, 1, none⟩) (Ne.symm hgG) (.slice A2 rest.length k2) |>.far (p := ⟨g, 2, none⟩) (Ne.symm hgG) (.int .i64 0)
      have hsw := SlK.far (SlK.far (SlK.far HS3.out HBG3.out (by decide) 1 (.slice A2 rest.length k2)) (HBG3.out.set_ 1 _) (by decide) 2 (.int .i64 0)) hbo ht off (.slice A3 n3 c3)
      have hkw := (((HK3.out.of_none (S := fun k => k = g ∨ k = G)).setCell (p := ⟨g, 1, none⟩) (fun _ => .inl rfl) (.slice A2 rest.length k2)).setCell (p := ⟨g, 2, none⟩) (fun _ => .inl rfl) (.int .i64 0)).setCell (p := ⟨G, off, none⟩) (fun _ => .inr rfl) (.slice A3 n3 c3)
      have hk2w := ((HK23.out.setCell (p := ⟨g, 1, none⟩) (fun _ => .inl rfl) (.slice A2 rest.length k2)).setCell (p := ⟨g, 2, none⟩) (fun _ => .inl rfl) (.int .i64 0)).setCell (p := ⟨G, off, none⟩) (fun _ => .inr rfl) (.slice A3 n3 c3)
      refine ⟨rfl, hkw, .inr ⟨a, rest, (.slice A3 n3 c3), HSO.out, .inl ⟨rest, A2, rest.length, k2, rfl, rfl, ?_, hbw, hsw⟩, hbW, rwR.keep HX.out hk2w (fun k e => by rcases e with rfl | rfl; exact HGL.out; exact HGL2.out)⟩⟩
      have := getMultisP_less l a rest HSO.out
      have := HN.out
      omega
  · have hq : (e0 == 0) = false := by rw [beq_eq_false_iff_ne]; exact he
    have HE := Lib.hid he
    have HB := Lib.hid hb
    have HBG := Lib.hid hbg
    obtain ⟨y0, y1, y2⟩ := cells3 hbg
    clear he hb hbg
    go_enter Tryz.func189, Tryz.ntmps189
    go_wp2
    go_end0
    exact ⟨rfl, Kept.refl _ _, .inl ⟨rfl, .inr ⟨_, _, rfl, HE.out, HBG.out⟩, HB.out⟩⟩

set_option maxHeartbeats 2000000 in
set_option maxRecDepth 100000 in
theorem ptVal_at {w : World} {g G off : Nat} {t : TypeId} {cs : Array Value} {r : Option (List UInt8)} (h : StrmAt w g r) (hb : Blk w G t cs) (ht : t ≠ 5) (ht2 : t ≠ 267) (hoff : off + 1 < cs.size) :
    Calls Tryz.prog 197 #[.pointer (some ⟨g, 0, none⟩), .pointer (some ⟨G, off, none⟩), .func (.func 180) #[] #[], .func (.func 82) #[] #[]] w (PartPost w g G t cs (put2 off) r getValP (vlR 5)) := by
  have hgl : g < w.heap.size := by obtain ⟨cs', hb'⟩ := h.blk; exact hb'.lt
  have hGl : G < w.heap.size := hb.lt
  have HGL := Lib.hid hgl
  have HGL2 := Lib.hid hGl
  clear hgl hGl
  have hgG : g ≠ G := by obtain ⟨cs', hb'⟩ := h.blk; exact Blk.ne_ hb' hb (Ne.symm ht2)
  rcases h with ⟨l, A, n, c, rfl, hn, hm, hbg, hs⟩ | ⟨v, e0, rfl, he, hbg⟩
  · have HG := Lib.hid (pGetValue_at hs (by omega))
    have HB := Lib.hid hb
    have HBG := Lib.hid hbg
    have HN := Lib.hid hn
    obtain ⟨y0, y1, y2⟩ := cells3 hbg
    clear hs hb hbg hn
    go_enter Tryz.func197, Tryz.ntmps197
    go_wp2_with fail
    go_at_call 180
    refine HG.out.mono ?_
    rintro e w2 ⟨hk, hcase⟩
    have HK := Lib.hid hk
    have HBG2 := Lib.hid (HBG.out.kept hk (fun e => e))
    have HB2 := Lib.hid (HB.out.kept hk (fun e => e))
    have hg2 := HBG2.out.lt
    have hG2 := HB2.out.lt
    clear y0 y1 y2 hk
    rcases hcase with ⟨hnone, c2, hc2, rfl⟩ | ⟨a, rest, x, A2, k2, hsome, rfl, hx, hs2⟩
    · have hq : (c2 == 0) = false := by rw [beq_eq_false_iff_ne]; exact hc2
      have HC2 := Lib.hid hc2
      have HNO := Lib.hid hnone
      have HBG3 := Lib.hid (HBG2.out.alloc (.cells #[.int .i64 0, .slice none 0 0] 139))
      have HB3 := Lib.hid (HB2.out.alloc (.cells #[.int .i64 0, .slice none 0 0] 139))
      have HK3 := Lib.hid (HK.out.alloc (.cells #[.int .i64 0, .slice none 0 0] 139))
      have HBY := Lib.hid (Blk.new w2 139 #[.int .i64 0, .slice none 0 0])
      go_upto_region 5 with (fail)
      generalize hw3 : w2.alloc (.cells #[.int .i64 0, .slice none 0 0] 139) = w3 at *
      generalize hgy : w2.heap.size = gy at *
      clear hw3
      have hby := HBY.out
      have q0 := hby.cell 0
      have q1 := hby.cell 1
      simp only [List.getElem?_toArray, List.getElem?_cons_zero, List.getElem?_cons_succ] at q0 q1
      clear hby
      obtain ⟨z0, z1, z2⟩ := cells3 HBG3.out
      have f1 := HBG3.out.frozen 1
      have f2 := HBG3.out.frozen 2
      clear hc2 hnone
      go_wp2
      go_end0
      refine ⟨rfl, (((HK3.out.of_none).setCell (p := ⟨g, 1, none⟩) (fun _ => .inl rfl) _).setCell (p := ⟨g, 2, none⟩) (fun _ => .inl rfl) _), .inl ⟨HNO.out, .inr ⟨_, _, rfl, HC2.out, (HBG3.out.set_ 1 _).set_ 2 _⟩, (HB3.out.far (p := ⟨g, 1, none⟩) (Ne.symm hgG) _).far (p := ⟨g, 2, none⟩) (Ne.symm hgG) _⟩⟩
    · have HX := Lib.hid hx
      obtain ⟨A3, n3, c3, rfl, -⟩ := hx
      have HBG3 := Lib.hid (HBG2.out.alloc (.cells #[(.int .i64 a.1), (.slice A3 n3 c3)] 139))
      have HB3 := Lib.hid (HB2.out.alloc (.cells #[(.int .i64 a.1), (.slice A3 n3 c3)] 139))
      have HK3 := Lib.hid (HK.out.alloc (.cells #[(.int .i64 a.1), (.slice A3 n3 c3)] 139))
      have HK23 := Lib.hid ((Kept.refl (fun k => k = g ∨ k = G) w2).alloc (.cells #[(.int .i64 a.1), (.slice A3 n3 c3)] 139))
      have HS3 := Lib.hid (SlK.alloc hs2 (.cells #[(.int .i64 a.1), (.slice A3 n3 c3)] 139))
      have HBY := Lib.hid (Blk.new w2 139 #[(.int .i64 a.1), (.slice A3 n3 c3)])
      go_upto_region 5 with (fail)
      generalize hw3 : w2.alloc (.cells #[(.int .i64 a.1), (.slice A3 n3 c3)] 139) = w3 at *
      generalize hgy : w2.heap.size = gy at *
      clear hw3
      have hby := HBY.out
      have q0 := hby.cell 0
      have q1 := hby.cell 1
      simp only [List.getElem?_toArray, List.getElem?_cons_zero, List.getElem?_cons_succ] at q0 q1
      clear hby
      obtain ⟨z0, z1, z2⟩ := cells3 HBG3.out
      have f1 := HBG3.out.frozen 1
      have f2 := HBG3.out.frozen 2
      have hG1 : ((w3.setCell ⟨g, 1, none⟩ (.slice A2 rest.length k2)).setCell ⟨g, 2, none⟩ (.int .i64 0)).frozen? ⟨G, off, none⟩ = false := ((HB3.out.far (p := ⟨g, 1, none⟩) (Ne.symm hgG) _).far (p := ⟨g, 2, none⟩) (Ne.symm hgG) _).frozen off
      obtain ⟨u0, hG0⟩ := cell_some ((HB3.out.far (p := ⟨g, 1, none⟩) (Ne.symm hgG) (.slice A2 rest.length k2)).far (p := ⟨g, 2, none⟩) (Ne.symm hgG) (.int .i64 0)) (i := off) (by omega)
      have hG1' : ((w3.setCell ⟨g, 1, none⟩ (.slice A2 rest.length k2)).setCell ⟨g, 2, none⟩ (.int .i64 0)).frozen? ⟨G, off + 1, none⟩ = false := ((HB3.out.far (p := ⟨g, 1, none⟩) (Ne.symm hgG) _).far (p := ⟨g, 2, none⟩) (Ne.symm hgG) _).frozen (off + 1)
      obtain ⟨u1, hG0'⟩ := cell_some ((HB3.out.far (p := ⟨g, 1, none⟩) (Ne.symm hgG) (.slice A2 rest.length k2)).far (p := ⟨g, 2, none⟩) (Ne.symm hgG) (.int .i64 0)) (i := off + 1) (by omega)
      have HSO := Lib.hid hsome
      clear hsome hs2
      go_wp2
      go_end0
      have hbw := ((HBG3.out.set_ 1 (.slice A2 rest.length k2)).set_ 2 (.int .i64 0)) |>.far (p := ⟨G, off, none⟩) hgG (.int .i64 a.1) |>.far (p := ⟨G, off + 1, none⟩) hgG (.slice A3 n3 c3)
      have hbW := ((HB3.out.far (p := ⟨g, 1, none⟩) (Ne.symm hgG) (.slice A2 rest.length k2)).far (p := ⟨g, 2, none⟩) (Ne.symm hgG) (.int .i64 0)) |>.set_ off (.int .i64 a.1) |>.set_ (off + 1) (.slice A3 n3 c3)
      have hbo := HB3.out.far (p := ⟨g, 1, none⟩) (Ne.symm hgG) (.slice A2 rest.length k2) |>.far (p := ⟨g, 2, none⟩) (Ne.symm hgG) (.int .i64 0)
      have hsw := SlK.far (SlK.far (SlK.far (SlK.far HS3.out HBG3.out (by decide) 1 (.slice A2 rest.length k2)) (HBG3.out.set_ 1 _) (by decide) 2 (.int .i64 0)) hbo ht off (.int .i64 a.1)) (hbo.set_ off _) ht (off + 1) (.slice A3 n3 c3)
      have hkw := (((HK3.out.of_none (S := fun k => k = g ∨ k = G)).setCell (p := ⟨g, 1, none⟩) (fun _ => .inl rfl) (.slice A2 rest.length k2)).setCell (p := ⟨g, 2, none⟩) (fun _ => .inl rfl) (.int .i64 0)) |>.setCell (p := ⟨G, off, none⟩) (fun _ => .inr rfl) (.int .i64 a.1) |>.setCell (p := ⟨G, off + 1, none⟩) (fun _ => .inr rfl) (.slice A3 n3 c3)
      have hk2w := ((HK23.out.setCell (p := ⟨g, 1, none⟩) (fun _ => .inl rfl) (.slice A2 rest.length k2)).setCell (p := ⟨g, 2, none⟩) (fun _ => .inl rfl) (.int .i64 0)) |>.setCell (p := ⟨G, off, none⟩) (fun _ => .inr rfl) (.int .i64 a.1) |>.setCell (p := ⟨G, off + 1, none⟩) (fun _ => .inr rfl) (.slice A3 n3 c3)
      refine ⟨rfl, hkw, .inr ⟨a, rest, (.agg #[(.int .i64 a.1), (.slice A3 n3 c3)]), HSO.out, .inl ⟨rest, A2, rest.length, k2, rfl, rfl, ?_, hbw, hsw⟩, hbW, vlR.keep HX.out hk2w (fun k e => by rcases e with rfl | rfl; exact HGL.out; exact HGL2.out)⟩⟩
      have := getValP_less l a rest HSO.out
      have := HN.out
      omega
  · have hq : (e0 == 0) = false := by rw [beq_eq_false_iff_ne]; exact he
    have HE := Lib.hid he
    have HB := Lib.hid hb
    have HBG := Lib.hid hbg
    obtain ⟨y0, y1, y2⟩ := cells3 hbg
    clear he hb hbg
    go_enter Tryz.func197, Tryz.ntmps197
    go_wp2
    go_end0
    exact ⟨rfl, Kept.refl _ _, .inl ⟨rfl, .inr ⟨_, _, rfl, HE.out, HBG.out⟩, HB.out⟩⟩

set_option maxHeartbeats 2000000 in
set_option maxRecDepth 100000 in
theorem ptInet_at {w : World} {g G off : Nat} {t : TypeId} {cs : Array Value} {r : Option (List UInt8)} (h : StrmAt w g r) (hb : Blk w G t cs) (ht : t ≠ 5) (ht2 : t ≠ 267) (hoff : off + 1 < cs.size) :
    Calls Tryz.prog 219 #[.pointer (some ⟨g, 0, none⟩), .pointer (some ⟨G, off, none⟩), .func (.func 220) #[] #[], .func (.func 221) #[] #[]] w (PartPost w g G t cs (put2 off) r getInetP (inR 5)) := by
  have hgl : g < w.heap.size := by obtain ⟨cs', hb'⟩ := h.blk; exact hb'.lt
  have hGl : G < w.heap.size := hb.lt
  have HGL := Lib.hid hgl
  have HGL2 := Lib.hid hGl
  clear hgl hGl
  have hgG : g ≠ G := by obtain ⟨cs', hb'⟩ := h.blk; exact Blk.ne_ hb' hb (Ne.symm ht2)
  rcases h with ⟨l, A, n, c, rfl, hn, hm, hbg, hs⟩ | ⟨v, e0, rfl, he, hbg⟩
  · have HG := Lib.hid (pGetInet_at hs (by omega))
    have HB := Lib.hid hb
    have HBG := Lib.hid hbg
    have HN := Lib.hid hn
    obtain ⟨y0, y1, y2⟩ := cells3 hbg
    clear hs hb hbg hn
    go_enter Tryz.func219, Tryz.ntmps219
    go_wp2_with fail
    go_at_call 220
    refine HG.out.mono ?_
    rintro e w2 ⟨hk, hcase⟩
    have HK := Lib.hid hk
    have HBG2 := Lib.hid (HBG.out.kept hk (fun e => e))
    have HB2 := Lib.hid (HB.out.kept hk (fun e => e))
    have hg2 := HBG2.out.lt
    have hG2 := HB2.out.lt
    clear y0 y1 y2 hk
    rcases hcase with ⟨hnone, c2, hc2, rfl⟩ | ⟨a, rest, x, A2, k2, hsome, rfl, hx, hs2⟩
    · have hq : (c2 == 0) = false := by rw [beq_eq_false_iff_ne]; exact hc2
      have HC2 := Lib.hid hc2
      have HNO := Lib.hid hnone
      have HBG3 := Lib.hid (HBG2.out.alloc (.cells #[.slice none 0 0, .int .u32 0] 44))
      have HB3 := Lib.hid (HB2.out.alloc (.cells #[.slice none 0 0, .int .u32 0] 44))
      have HK3 := Lib.hid (HK.out.alloc (.cells #[.slice none 0 0, .int .u32 0] 44))
      have HBY := Lib.hid (Blk.new w2 44 #[.slice none 0 0, .int .u32 0])
      go_upto_region 5 with (fail)
      generalize hw3 : w2.alloc (.cells #[.slice none 0 0, .int .u32 0] 44) = w3 at *
      generalize hgy : w2.heap.size = gy at *
      clear hw3
      have hby := HBY.out
      have q0 := hby.cell 0
      have q1 := hby.cell 1
      simp only [List.getElem?_toArray, List.getElem?_cons_zero, List.getElem?_cons_succ] at q0 q1
      clear hby
      obtain ⟨z0, z1, z2⟩ := cells3 HBG3.out
      have f1 := HBG3.out.frozen 1
      have f2 := HBG3.out.frozen 2
      clear hc2 hnone
      go_wp2
      go_end0
      refine ⟨rfl, (((HK3.out.of_none).setCell (p := ⟨g, 1, none⟩) (fun _ => .inl rfl) _).setCell (p := ⟨g, 2, none⟩) (fun _ => .inl rfl) _), .inl ⟨HNO.out, .inr ⟨_, _, rfl, HC2.out, (HBG3.out.set_ 1 _).set_ 2 _⟩, (HB3.out.far (p := ⟨g, 1, none⟩) (Ne.symm hgG) _).far (p := ⟨g, 2, none⟩) (Ne.symm hgG) _⟩⟩
    · have HX := Lib.hid hx
      obtain ⟨A3, n3, c3, rfl, -⟩ := hx
      have HBG3 := Lib.hid (HBG2.out.alloc (.cells #[(.slice A3 n3 c3), (.int .u32 (a.2 : Int))] 44))
      have HB3 := Lib.hid (HB2.out.alloc (.cells #[(.slice A3 n3 c3), (.int .u32 (a.2 : Int))] 44))
      have HK3 := Lib.hid (HK.out.alloc (.cells #[(.slice A3 n3 c3), (.int .u32 (a.2 : Int))] 44))
      have HK23 := Lib.hid ((Kept.refl (fun k => k = g ∨ k = G) w2).alloc (.cells #[(.slice A3 n3 c3), (.int .u32 (a.2 : Int))] 44))
      have HS3 := Lib.hid (SlK.alloc hs2 (.cells #[(.slice A3 n3 c3), (.int .u32 (a.2 : Int))] 44))
      have HBY := Lib.hid (Blk.new w2 44 #[(.slice A3 n3 c3), (.int .u32 (a.2 : Int))])
      go_upto_region 5 with (fail)
      generalize hw3 : w2.alloc (.cells #[(.slice A3 n3 c3), (.int .u32 (a.2 : Int))] 44) = w3 at *
      generalize hgy : w2.heap.size = gy at *
      clear hw3
      have hby := HBY.out
      have q0 := hby.cell 0
      have q1 := hby.cell 1
      simp only [List.getElem?_toArray, List.getElem?_cons_zero, List.getElem?_cons_succ] at q0 q1
      clear hby
      obtain ⟨z0, z1, z2⟩ := cells3 HBG3.out
      have f1 := HBG3.out.frozen 1
      have f2 := HBG3.out.frozen 2
      have hG1 : ((w3.setCell ⟨g, 1, none⟩ (.slice A2 rest.length k2)).setCell ⟨g, 2, none⟩ (.int .i64 0)).frozen? ⟨G, off, none⟩ = false := ((HB3.out.far (p := ⟨g, 1, none⟩) (Ne.symm hgG) _).far (p := ⟨g, 2, none⟩) (Ne.symm hgG) _).frozen off
      obtain ⟨u0, hG0⟩ := cell_some ((HB3.out.far (p := ⟨g, 1, none⟩) (Ne.symm hgG) (.slice A2 rest.length k2)).far (p := ⟨g, 2, none⟩) (Ne.symm hgG) (.int .i64 0)) (i := off) (by omega)
      have hG1' : ((w3.setCell ⟨g, 1, none⟩ (.slice A2 rest.length k2)).setCell ⟨g, 2, none⟩ (.int .i64 0)).frozen? ⟨G, off + 1, none⟩ = false := ((HB3.out.far (p := ⟨g, 1, none⟩) (Ne.symm hgG) _).far (p := ⟨g, 2, none⟩) (Ne.symm hgG) _).frozen (off + 1)
      obtain ⟨u1, hG0'⟩ := cell_some ((HB3.out.far (p := ⟨g, 1, none⟩) (Ne.symm hgG) (.slice A2 rest.length k2)).far (p := ⟨g, 2, none⟩) (Ne.symm hgG) (.int .i64 0)) (i := off + 1) (by omega)
      have HSO := Lib.hid hsome
      clear hsome hs2
      go_wp2
      go_end0
      have hbw := ((HBG3.out.set_ 1 (.slice A2 rest.length k2)).set_ 2 (.int .i64 0)) |>.far (p := ⟨G, off, none⟩) hgG (.slice A3 n3 c3) |>.far (p := ⟨G, off + 1, none⟩) hgG (.int .u32 (a.2 : Int))
      have hbW := ((HB3.out.far (p := ⟨g, 1, none⟩) (Ne.symm hgG) (.slice A2 rest.length k2)).far (p := ⟨g, 2, none⟩) (Ne.symm hgG) (.int .i64 0)) |>.set_ off (.slice A3 n3 c3) |>.set_ (off + 1) (.int .u32 (a.2 : Int))
      have hbo := HB3.out.far (p := ⟨g, 1, none⟩) (Ne.symm hgG) (.slice A2 rest.length k2) |>.far (p := ⟨g, 2, none⟩) (Ne.symm hgG) (.int .i64 0)
      have hsw := SlK.far (SlK.far (SlK.far (SlK.far HS3.out HBG3.out (by decide) 1 (.slice A2 rest.length k2)) (HBG3.out.set_ 1 _) (by decide) 2 (.int .i64 0)) hbo ht off (.slice A3 n3 c3)) (hbo.set_ off _) ht (off + 1) (.int .u32 (a.2 : Int))
      have hkw := (((HK3.out.of_none (S := fun k => k = g ∨ k = G)).setCell (p := ⟨g, 1, none⟩) (fun _ => .inl rfl) (.slice A2 rest.length k2)).setCell (p := ⟨g, 2, none⟩) (fun _ => .inl rfl) (.int .i64 0)) |>.setCell (p := ⟨G, off, none⟩) (fun _ => .inr rfl) (.slice A3 n3 c3) |>.setCell (p := ⟨G, off + 1, none⟩) (fun _ => .inr rfl) (.int .u32 (a.2 : Int))
      have hk2w := ((HK23.out.setCell (p := ⟨g, 1, none⟩) (fun _ => .inl rfl) (.slice A2 rest.length k2)).setCell (p := ⟨g, 2, none⟩) (fun _ => .inl rfl) (.int .i64 0)) |>.setCell (p := ⟨G, off, none⟩) (fun _ => .inr rfl) (.slice A3 n3 c3) |>.setCell (p := ⟨G, off + 1, none⟩) (fun _ => .inr rfl) (.int .u32 (a.2 : Int))
      refine ⟨rfl, hkw, .inr ⟨a, rest, (.agg #[(.slice A3 n3 c3), (.int .u32 (a.2 : Int))]), HSO.out, .inl ⟨rest, A2, rest.length, k2, rfl, rfl, ?_, hbw, hsw⟩, hbW, inR.keep HX.out hk2w (fun k e => by rcases e with rfl | rfl; exact HGL.out; exact HGL2.out)⟩⟩
      have := getInetP_less l a rest HSO.out
      have := HN.out
      omega
  · have hq : (e0 == 0) = false := by rw [beq_eq_false_iff_ne]; exact he
    have HE := Lib.hid he
    have HB := Lib.hid hb
    have HBG := Lib.hid hbg
    obtain ⟨y0, y1, y2⟩ := cells3 hbg
    clear he hb hbg
    go_enter Tryz.func219, Tryz.ntmps219
    go_wp2
    go_end0
    exact ⟨rfl, Kept.refl _ _, .inl ⟨rfl, .inr ⟨_, _, rfl, HE.out, HBG.out⟩, HB.out⟩⟩

set_option maxHeartbeats 2000000 in
set_option maxRecDepth 100000 in
theorem ptU32_at {w : World} {g G off : Nat} {t : TypeId} {cs : Array Value} {r : Option (List UInt8)} (h : StrmAt w g r) (hb : Blk w G t cs) (ht : t ≠ 5) (ht2 : t ≠ 267) (hoff : off < cs.size) :
    Calls Tryz.prog 202 #[.pointer (some ⟨g, 0, none⟩), .pointer (some ⟨G, off, none⟩), .func (.func 203) #[] #[], .func (.func 204) #[] #[]] w (PartPost w g G t cs (put1 off) r (getCodeP 4) u32R) := by
  have hgl : g < w.heap.size := by obtain ⟨cs', hb'⟩ := h.blk; exact hb'.lt
  have hGl : G < w.heap.size := hb.lt
  have HGL := Lib.hid hgl
  have HGL2 := Lib.hid hGl
  clear hgl hGl
  have hgG : g ≠ G := by obtain ⟨cs', hb'⟩ := h.blk; exact Blk.ne_ hb' hb (Ne.symm ht2)
  rcases h with ⟨l, A, n, c, rfl, hn, hm, hbg, hs⟩ | ⟨v, e0, rfl, he, hbg⟩
  · have HG := Lib.hid (sCode1_at hs (by omega))
    have HB := Lib.hid hb
    have HBG := Lib.hid hbg
    have HN := Lib.hid hn
    obtain ⟨y0, y1, y2⟩ := cells3 hbg
    clear hs hb hbg hn
    go_enter Tryz.func202, Tryz.ntmps202
    go_wp2_with fail
    go_at_call 203
    refine HG.out.mono ?_
    rintro e w2 ⟨hk, hcase⟩
    have HK := Lib.hid hk
    have HBG2 := Lib.hid (HBG.out.kept hk (fun e => e))
    have HB2 := Lib.hid (HB.out.kept hk (fun e => e))
    have hg2 := HBG2.out.lt
    have hG2 := HB2.out.lt
    clear y0 y1 y2 hk
    rcases hcase with ⟨hnone, c2, hc2, rfl⟩ | ⟨a, rest, x, A2, k2, hsome, rfl, hx, hs2⟩
    · have hq : (c2 == 0) = false := by rw [beq_eq_false_iff_ne]; exact hc2
      have HC2 := Lib.hid hc2
      have HNO := Lib.hid hnone
      have HBG3 := Lib.hid (HBG2.out)
      have HB3 := Lib.hid (HB2.out)
      have HK3 := Lib.hid (HK.out)
      obtain ⟨z0, z1, z2⟩ := cells3 HBG3.out
      have f1 := HBG3.out.frozen 1
      have f2 := HBG3.out.frozen 2
      clear hc2 hnone
      go_wp2
      go_end0
      refine ⟨rfl, (((HK3.out.of_none).setCell (p := ⟨g, 1, none⟩) (fun _ => .inl rfl) _).setCell (p := ⟨g, 2, none⟩) (fun _ => .inl rfl) _), .inl ⟨HNO.out, .inr ⟨_, _, rfl, HC2.out, (HBG3.out.set_ 1 _).set_ 2 _⟩, (HB3.out.far (p := ⟨g, 1, none⟩) (Ne.symm hgG) _).far (p := ⟨g, 2, none⟩) (Ne.symm hgG) _⟩⟩
    · have HX := Lib.hid hx
      obtain rfl : x = .int .u32 (a : Int) := hx
      have HBG3 := Lib.hid (HBG2.out)
      have HB3 := Lib.hid (HB2.out)
      have HK3 := Lib.hid (HK.out)
      have HK23 := Lib.hid ((Kept.refl (fun k => k = g ∨ k = G) w2))
      have HS3 := Lib.hid (hs2)
      obtain ⟨z0, z1, z2⟩ := cells3 HBG3.out
      have f1 := HBG3.out.frozen 1
      have f2 := HBG3.out.frozen 2
      have hG1 : ((w2.setCell ⟨g, 1, none⟩ (.slice A2 rest.length k2)).setCell ⟨g, 2, none⟩ (.int .i64 0)).frozen? ⟨G, off, none⟩ = false := ((HB3.out.far (p := ⟨g, 1, none⟩) (Ne.symm hgG) _).far (p := ⟨g, 2, none⟩) (Ne.symm hgG) _).frozen off
      obtain ⟨u0, hG0⟩ := cell_some ((HB3.out.far (p := ⟨g, 1, none⟩) (Ne.symm hgG) (.slice A2 rest.length k2)).far (p := ⟨g, 2, none⟩) (Ne.symm hgG) (.int .i64 0)) (i := off) (by omega)
      have HSO := Lib.hid hsome
      clear hsome hs2
      go_wp2
      go_end0
      have hbw := ((HBG3.out.set_ 1 (.slice A2 rest.length k2)).set_ 2 (.int .i64 0)).far (p := ⟨G, off, none⟩) hgG (.int .u32 (a : Int))
      have hbW := ((HB3.out.far (p := ⟨g, 1, none⟩) (Ne.symm hgG) (.slice A2 rest.length k2)).far (p := ⟨g, 2, none⟩) (Ne.symm hgG) (.int .i64 0)).set_ off (.int .u32 (a : Int))
      have hbo := HB3.out.far (p := ⟨g, 1, none⟩) (Ne.symm hgG) (.slice A2 rest.length k2) |>.far (p := ⟨g, 2, none⟩) (Ne.symm hgG) (.int .i64 0)
      have hsw := SlK.far (SlK.far (SlK.far HS3.out HBG3.out (by decide) 1 (.slice A2 rest.length k2)) (HBG3.out.set_ 1 _) (by decide) 2 (.int .i64 0)) hbo ht off (.int .u32 (a : Int))
      have hkw := (((HK3.out.of_none (S := fun k => k = g ∨ k = G)).setCell (p := ⟨g, 1, none⟩) (fun _ => .inl rfl) (.slice A2 rest.length k2)).setCell (p := ⟨g, 2, none⟩) (fun _ => .inl rfl) (.int .i64 0)).setCell (p := ⟨G, off, none⟩) (fun _ => .inr rfl) (.int .u32 (a : Int))
      have hk2w := ((HK23.out.setCell (p := ⟨g, 1, none⟩) (fun _ => .inl rfl) (.slice A2 rest.length k2)).setCell (p := ⟨g, 2, none⟩) (fun _ => .inl rfl) (.int .i64 0)).setCell (p := ⟨G, off, none⟩) (fun _ => .inr rfl) (.int .u32 (a : Int))
      refine ⟨rfl, hkw, .inr ⟨a, rest, (.int .u32 (a : Int)), HSO.out, .inl ⟨rest, A2, rest.length, k2, rfl, rfl, ?_, hbw, hsw⟩, hbW, rfl⟩⟩
      have := (getCodeP_less 4) l a rest HSO.out
      have := HN.out
      omega
  · have hq : (e0 == 0) = false := by rw [beq_eq_false_iff_ne]; exact he
    have HE := Lib.hid he
    have HB := Lib.hid hb
    have HBG := Lib.hid hbg
    obtain ⟨y0, y1, y2⟩ := cells3 hbg
    clear he hb hbg
    go_enter Tryz.func202, Tryz.ntmps202
    go_wp2
    go_end0
    exact ⟨rfl, Kept.refl _ _, .inl ⟨rfl, .inr ⟨_, _, rfl, HE.out, HBG.out⟩, HB.out⟩⟩
end Go.Proofs.YtfnjoceolcdeoaaGreatDoor

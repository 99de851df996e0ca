/- slices.Contains of texts · The stream of a reply: text, word, must · The stream of a reply: lists of texts, values, addresses, codes; an event of a status; a result that sets a keyspace. -/
import Derived.Test.YtfnjoceolcdeoaaGreatDoorMr04
import Derived.Test.YtfnjoceolcdeoaaGreatDoorMr26
import Derived.Deep.LoopGhost
import Derived.Test.YtfnjoceolcdeoaaGreatDoorMr32
namespace Go.Proofs.YtfnjoceolcdeoaaGreatDoor
set_option linter.unusedVariables false
open Go.RowKit

set_option maxHeartbeats 1000000 in
set_option maxRecDepth 100000 in
theorem SIndex_at {w : World} {ok : Nat → TypeId → Prop} {A : Option Addr} {n c : Nat} {l : List ByteArray} (h : SlK w ok 1 (.slice A n c) n (l.map Value.string)) (b : ByteArray) :
    Calls Tryz.prog 223 #[.slice A n c, .string b] w fun e w' => ∃ i : Int, e = .returned (.int .i64 i) ∧ (0 ≤ i ↔ b ∈ l) ∧ w' = w := by
  have hln : l.length = n := by have := h.len; rw [List.length_map, Nat.mul_one] at this; exact this
  have hlen := h.run_len strsT
  have hnm : n ≤ 9223372036854775807 := by obtain ⟨_, _, hv, h1, h2⟩ := h.shape; cases hv; unfold maxLen at h2; omega
  have H := Lib.hid h
  have HL := Lib.hid hln
  clear h hln
  go_enter Tryz.func223, Tryz.ntmps223
  go_wp2_with fail
  go_loopg [8] n (fun j vi wr => ∃ i : Nat, i + j = n ∧ vi = .int .i64 i ∧ (∀ q x, l[q]? = some x → q < i → x ≠ b) ∧ wr = w)
  case atStart => exact ⟨0, by omega, rfl, fun _ _ _ h => by omega, rfl⟩
  case round =>
    obtain ⟨i, hij, rfl, hno, rfl⟩ := hrel
    have HIJ := Lib.hid hij
    have HNO := Lib.hid hno
    by_cases hi : i < n
    · obtain ⟨x, hx⟩ : ∃ x, l[i]? = some x := ⟨_, List.getElem?_eq_getElem (by rw [HL.out]; exact hi)⟩
      obtain ⟨g, off, hidx, -, c0⟩ := str_at H.out hx
      have HX := Lib.hid hx
      clear hij hno hx
      by_cases e : x = b
      · subst e
        have hq := strEq_self x
        have HM := Lib.hid (show x ∈ l from List.mem_of_getElem? HX.out)
        go_wp2
        go_ret
        exact ⟨_, rfl, ⟨fun _ => HM.out, fun _ => by omega⟩, rfl⟩
      · have hq := strEq_ne (a := b) (b := x) (fun h => e h.symm)
        have HE := Lib.hid e
        clear e
        go_wp2_with fail
        go_roundg (n - (i + 1))
        case measure => have := HIJ.out; omega
        case rel =>
          refine ⟨i + 1, by have := HIJ.out; omega, by go_num, fun q y hy hqk => ?_, rfl⟩
          by_cases he : q = i
          · subst he
            rw [HX.out] at hy
            cases hy
            exact HE.out
          · exact HNO.out q y hy (by omega)
    · obtain rfl : n = i := by omega
      have HM : Hid (¬ b ∈ l) := Lib.hid fun hm => by
        obtain ⟨q, hq⟩ := List.getElem?_of_mem hm
        exact HNO.out q b hq (by have := (List.getElem?_eq_some_iff.1 hq).1; have := HL.out; omega) rfl
      clear hij hno
      go_wp2
      go_ret
      exact ⟨_, rfl, ⟨fun h => by omega, fun h => absurd h HM.out⟩, rfl⟩
def memS (b : ByteArray) (l : List ByteArray) : Bool := l.any fun s => decide (s = b)
theorem memS_iff {b : ByteArray} {l : List ByteArray} : memS b l = true ↔ b ∈ l := by
  unfold memS
  rw [List.any_eq_true]
  constructor
  · rintro ⟨s, hs, h⟩
    obtain rfl := of_decide_eq_true h
    exact hs
  · intro h; exact ⟨b, h, decide_eq_true rfl⟩
theorem memS_no {b : ByteArray} {l : List ByteArray} (h : b ∉ l) : memS b l = false := by
  cases h2 : memS b l with
  | false => rfl
  | true => exact absurd (memS_iff.1 h2) h
set_option maxHeartbeats 1000000 in
set_option maxRecDepth 100000 in
theorem SContains_at {w : World} {ok : Nat → TypeId → Prop} {A : Option Addr} {n c : Nat} {l : List ByteArray} (h : SlK w ok 1 (.slice A n c) n (l.map Value.string)) (b : ByteArray) :
    Calls Tryz.prog 218 #[.slice A n c, .string b] w fun e w' => e = .returned (.bool (memS b l)) ∧ w' = w := by
  have HI := Lib.hid (SIndex_at h b)
  clear h
  go_enter Tryz.func218, Tryz.ntmps218
  go_wp2_with fail
  go_at_call 223
  refine HI.out.mono ?_
  rintro e w1 ⟨i, rfl, him, hw⟩
  subst hw
  by_cases h0 : 0 ≤ i
  · have HD : Hid (memS b l = true) := Lib.hid (memS_iff.2 (him.1 h0))
    clear him
    go_wp2
    go_ret
    rw [HD.out]
    exact ⟨rfl, rfl⟩
  · have HD : Hid (memS b l = false) := Lib.hid (memS_no fun h => h0 (him.2 h))
    clear him
    have hdi : decide (0 ≤ i) = false := decide_eq_false h0
    go_wp2
    go_ret
    rw [HD.out]
    first
      | exact ⟨rfl, rfl⟩
      | exact ⟨by rw [← hdi]; rfl, rfl⟩
end Go.Proofs.YtfnjoceolcdeoaaGreatDoor
namespace Go.Proofs.YtfnjoceolcdeoaaGreatDoor
set_option linter.unusedVariables false
open Go.RowKit

set_option maxHeartbeats 1000000 in
set_option maxRecDepth 100000 in
theorem sText_at {w : World} {g G off : Nat} {t : TypeId} {cs : Array Value} {r : Option (List UInt8)} (h : StrmAt w g r) (hb : Blk w G t cs) (ht : t ≠ 5) (ht2 : t ≠ 267) (hoff : off < cs.size) :
    Calls Tryz.prog 165 #[.pointer (some ⟨g, 0, none⟩), .pointer (some ⟨G, off, none⟩)] w (PartPost w g G t cs (put1 off) r getTextP txR) := by
  have HG := Lib.hid (ptStr_at h hb ht ht2 hoff)
  clear h hb
  go_enter Tryz.func165, Tryz.ntmps165
  go_wp2_with fail
  go_at_call 188
  refine HG.out.mono ?_
  rintro e w2 ⟨rfl, hp⟩
  have HP := Lib.hid hp
  clear hp
  go_wp2
  go_end0
  exact ⟨rfl, HP.out⟩
set_option maxHeartbeats 1000000 in
set_option maxRecDepth 100000 in
theorem sMust_at {w : World} {g : Nat} {r : Option (List UInt8)} (h : StrmAt w g r) (b : Bool) :
    Calls Tryz.prog 194 #[.pointer (some ⟨g, 0, none⟩), .bool b] w fun e w' => e = .returned (.tuple #[]) ∧ StrmAt w' g (if b then r else none) ∧ Kept (fun k => k = g) w w' := by
  have H := Lib.hid h
  rcases h with ⟨l, A, n, c, rfl, hn, hm, hbg, hs⟩ | ⟨v, e0, rfl, he, hbg⟩
  · obtain ⟨y0, y1, y2⟩ := cells3 hbg
    have f2 := hbg.frozen 2
    have HB := Lib.hid hbg
    clear hbg hs
    cases b with
    | true =>
      go_enter Tryz.func194, Tryz.ntmps194
      go_wp2
      go_end0
      exact ⟨rfl, H.out, Kept.refl _ _⟩
    | false =>
      go_enter Tryz.func194, Tryz.ntmps194
      go_wp2
      go_end0
      exact ⟨rfl, .inr ⟨_, _, rfl, by decide, HB.out.set_ 2 _⟩, (Kept.refl (fun k => k = g) w).setCell (p := ⟨g, 2, none⟩) (fun _ => rfl) _⟩
  · obtain ⟨y0, y1, y2⟩ := cells3 hbg
    have hq : (e0 == 0) = false := by rw [beq_eq_false_iff_ne]; exact he
    clear hbg he
    cases b with
    | true =>
      go_enter Tryz.func194, Tryz.ntmps194
      go_wp2
      go_end0
      exact ⟨rfl, H.out, Kept.refl _ _⟩
    | false =>
      go_enter Tryz.func194, Tryz.ntmps194
      go_wp2
      go_end0
      exact ⟨rfl, H.out, Kept.refl _ _⟩
/-- A text that is one of some. -/
def getWordP (L : List ByteArray) (l : List UInt8) : Option (List UInt8 × List UInt8) := (getTextP l).bind fun q => if memS (bS q.1) L then some q else none
/-- What a word leaves: where it failed, what was read may stand there. -/
def WordPost (w : World) (g G : Nat) (t : TypeId) (cs : Array Value) (off : Nat) (L : List ByteArray) (r : Option (List UInt8)) (e : Ending) (w' : World) : Prop :=
  e = .returned (.tuple #[]) ∧ Kept (fun k => k = g ∨ k = G) w w' ∧ ((r.bind (getWordP L) = none ∧ StrmAt w' g none ∧ ∃ s, (s = cs.getD off undef ∨ ∃ a, s = .string a ∧ a ∉ L) ∧ Blk w' G t (cs.setIfInBounds off s)) ∨
    ∃ a rest, r.bind (getWordP L) = some (a, rest) ∧ StrmAt w' g (some rest) ∧ Blk w' G t (cs.setIfInBounds off (.string (bS a))) ∧ bS a ∈ L)
theorem set_same (cs : Array Value) (off : Nat) (h : off < cs.size) : cs.setIfInBounds off (cs.getD off undef) = cs := by
  apply Array.ext
  · simp
  · intro i h1 h2
    rw [Array.getElem_setIfInBounds]
    split
    · next e => subst e; simp
    · rfl
theorem set_get (cs : Array Value) (off : Nat) (u : Value) (h : off < cs.size) : (cs.setIfInBounds off u)[off]? = some u := by simp [h]
set_option maxHeartbeats 2000000 in
set_option maxRecDepth 100000 in
theorem sWord_at {w : World} {g G off : Nat} {t : TypeId} {cs : Array Value} {r : Option (List UInt8)} (h : StrmAt w g r) (hb : Blk w G t cs) (ht : t ≠ 5) (ht2 : t ≠ 267) (ht3 : t ≠ 9) (hoff : off < cs.size) {s0 : ByteArray} (hs0 : cs[off]? = some (.string s0))
    {A : Option Addr} {n c : Nat} {L : List ByteArray} (hL : Sl w 9 1 (.slice A n c) n (L.map Value.string)) :
    Calls Tryz.prog 195 #[.pointer (some ⟨g, 0, none⟩), .pointer (some ⟨G, off, none⟩), .slice A n c] w (WordPost w g G t cs off L r) := by
  have hgG : g ≠ G := by obtain ⟨cs', hb'⟩ := h.blk; exact Blk.ne_ hb' hb (Ne.symm ht2)
  have HT := Lib.hid (sText_at h hb ht ht2 hoff)
  have HL := Lib.hid hL
  have H := Lib.hid h
  have HB := Lib.hid hb
  obtain ⟨csg, hbg, hfa⟩ : ∃ csg, Blk w g 267 csg ∧ csg[0]? = some (.bool false) := by
    rcases h with ⟨l, A, n, c, rfl, hn, hm, hbg, hs⟩ | ⟨v, e0, rfl, he, hbg⟩
    · exact ⟨_, hbg, rfl⟩
    · exact ⟨_, hbg, rfl⟩
  have y0 : w.cell? ⟨g, 0, none⟩ = some (.bool false) := (hbg.cell 0).trans hfa
  clear h hb hL hbg hfa
  go_enter Tryz.func195, Tryz.ntmps195
  go_wp2_with fail
  go_at_call 165
  refine HT.out.mono ?_
  rintro e w2 ⟨rfl, hk, hcase⟩
  have HK := Lib.hid hk
  have hL2 : Sl w2 9 1 (.slice A n c) n (L.map Value.string) := SlK.kept HL.out hk (by
    rintro k cs' fz (rfl | rfl) hh
    · obtain ⟨cs', hb'⟩ := H.out.blk
      unfold Blk at hb'
      rw [hh] at hb'
      injection hb' with hb'
      injection hb' with _ h3
      exact absurd h3 (by decide)
    · have hb' := HB.out
      unfold Blk at hb'
      rw [hh] at hb'
      injection hb' with hb'
      injection hb' with _ h3
      exact ht3 h3.symm)
  have HL2 := Lib.hid hL2
  clear hk hL2 y0
  rcases hcase with ⟨hno, hst, hb2⟩ | ⟨a, rest, x, hso, hst, hb2, hx⟩
  · have z : w2.cell? ⟨G, off, none⟩ = some (.string s0) := (hb2.cell off).trans hs0
    have HC := Lib.hid (SContains_at HL2.out s0)
    have HST := Lib.hid hst
    have HB2 := Lib.hid hb2
    have HR : Hid (r.bind (getWordP L) = none) := Lib.hid (by
      cases r with
      | none => rfl
      | some l =>
        show (getTextP l).bind _ = none
        have : getTextP l = none := hno
        rw [this]; rfl)
    clear hno hst hb2
    go_wp2_with fail
    go_at_call 218
    refine HC.out.mono ?_
    rintro e w3 ⟨rfl, hw3⟩
    subst hw3
    have HM := Lib.hid (sMust_at HST.out (memS s0 L))
    go_wp2_with fail
    go_at_call 194
    refine HM.out.mono ?_
    rintro e w4 ⟨rfl, hst4, hk4⟩
    have HS4 : Hid (StrmAt w4 g none) := Lib.hid (by
      revert hst4
      cases memS s0 L <;> exact fun h => h)
    have HB4 := Lib.hid (HB2.out.kept hk4 (Ne.symm hgG))
    have HK4 := Lib.hid (HK.out.trans hk4 fun k _ e => .inl e)
    clear hst4 hk4
    go_wp2
    go_end0
    exact ⟨rfl, HK4.out, .inl ⟨HR.out, HS4.out, _, .inl rfl, by rw [set_same _ _ hoff]; exact HB4.out⟩⟩
  · obtain rfl : x = .string (bS a) := hx
    have hb2' : Blk w2 G t (cs.setIfInBounds off (.string (bS a))) := hb2
    have z : w2.cell? ⟨G, off, none⟩ = some (.string (bS a)) := (hb2'.cell off).trans (set_get _ _ _ hoff)
    have HC := Lib.hid (SContains_at HL2.out (bS a))
    have HST := Lib.hid hst
    have HB2 := Lib.hid hb2'
    have HSO := Lib.hid hso
    clear hso hst hb2 hb2'
    go_wp2_with fail
    go_at_call 218
    refine HC.out.mono ?_
    rintro e w3 ⟨rfl, hw3⟩
    subst hw3
    have HM := Lib.hid (sMust_at HST.out (memS (bS a) L))
    go_wp2_with fail
    go_at_call 194
    refine HM.out.mono ?_
    rintro e w4 ⟨rfl, hst4, hk4⟩
    have HS4 := Lib.hid hst4
    have HB4 := Lib.hid (HB2.out.kept hk4 (Ne.symm hgG))
    have HK4 := Lib.hid (HK.out.trans hk4 fun k _ e => .inl e)
    clear hst4 hk4
    go_wp2
    go_end0
    have hrw : r.bind (getWordP L) = if memS (bS a) L then some (a, rest) else none := by
      cases r with
      | none => exact absurd HSO.out (by intro h; cases h)
      | some l =>
        show (getTextP l).bind _ = _
        have : getTextP l = some (a, rest) := HSO.out
        rw [this]; rfl
    by_cases hm : bS a ∈ L
    · have hs4 := HS4.out
      rw [memS_iff.2 hm] at hs4
      rw [if_pos (memS_iff.2 hm)] at hrw
      exact ⟨rfl, HK4.out, .inr ⟨a, rest, hrw, hs4, HB4.out, hm⟩⟩
    · have hs4 := HS4.out
      rw [memS_no hm] at hs4
      rw [if_neg (fun h => hm (memS_iff.1 h))] at hrw
      exact ⟨rfl, HK4.out, .inl ⟨hrw, hs4, _, .inr ⟨_, rfl, hm⟩, HB4.out⟩⟩
end Go.Proofs.YtfnjoceolcdeoaaGreatDoor
namespace Go.Proofs.YtfnjoceolcdeoaaGreatDoor
set_option linter.unusedVariables false
open Go.RowKit

set_option maxHeartbeats 1000000 in
set_option maxRecDepth 100000 in
theorem sMultis_at {w : World} {g G off : Nat} {t : TypeId} {cs : Array Value} {r : Option (List UInt8)} (h : StrmAt w g r) (hb : Blk w G t cs) (ht : t ≠ 5) (ht2 : t ≠ 267) (hoff : off < cs.size) :
    Calls Tryz.prog 166 #[.pointer (some ⟨g, 0, none⟩), .pointer (some ⟨G, off, none⟩)] w (PartPost w g G t cs (put1 off) r getMultisP (rwR 351 2)) := by
  have HG := Lib.hid (ptMul_at h hb ht ht2 hoff)
  clear h hb
  go_enter Tryz.func166, Tryz.ntmps166
  go_wp2_with fail
  go_at_call 189
  refine HG.out.mono ?_
  rintro e w2 ⟨rfl, hp⟩
  have HP := Lib.hid hp
  clear hp
  go_wp2
  go_end0
  exact ⟨rfl, HP.out⟩
set_option maxHeartbeats 1000000 in
set_option maxRecDepth 100000 in
theorem sValue_at {w : World} {g G off : Nat} {t : TypeId} {cs : Array Value} {r : Option (List UInt8)} (h : StrmAt w g r) (hb : Blk w G t cs) (ht : t ≠ 5) (ht2 : t ≠ 267) (hoff : off + 1 < cs.size) :
    Calls Tryz.prog 169 #[.pointer (some ⟨g, 0, none⟩), .pointer (some ⟨G, off, none⟩)] w (PartPost w g G t cs (put2 off) r getValP (vlR 5)) := by
  have HG := Lib.hid (ptVal_at h hb ht ht2 hoff)
  clear h hb
  go_enter Tryz.func169, Tryz.ntmps169
  go_wp2_with fail
  go_at_call 197
  refine HG.out.mono ?_
  rintro e w2 ⟨rfl, hp⟩
  have HP := Lib.hid hp
  clear hp
  go_wp2
  go_end0
  exact ⟨rfl, HP.out⟩
set_option maxHeartbeats 1000000 in
set_option maxRecDepth 100000 in
theorem sInet_at {w : World} {g G off : Nat} {t : TypeId} {cs : Array Value} {r : Option (List UInt8)} (h : StrmAt w g r) (hb : Blk w G t cs) (ht : t ≠ 5) (ht2 : t ≠ 267) (hoff : off + 1 < cs.size) :
    Calls Tryz.prog 196 #[.pointer (some ⟨g, 0, none⟩), .pointer (some ⟨G, off, none⟩)] w (PartPost w g G t cs (put2 off) r getInetP (inR 5)) := by
  have HG := Lib.hid (ptInet_at h hb ht ht2 hoff)
  clear h hb
  go_enter Tryz.func196, Tryz.ntmps196
  go_wp2_with fail
  go_at_call 219
  refine HG.out.mono ?_
  rintro e w2 ⟨rfl, hp⟩
  have HP := Lib.hid hp
  clear hp
  go_wp2
  go_end0
  exact ⟨rfl, HP.out⟩
set_option maxHeartbeats 1000000 in
set_option maxRecDepth 100000 in
theorem sCode_at {w : World} {g G off : Nat} {t : TypeId} {cs : Array Value} {r : Option (List UInt8)} (h : StrmAt w g r) (hb : Blk w G t cs) (ht : t ≠ 5) (ht2 : t ≠ 267) (hoff : off < cs.size) :
    Calls Tryz.prog 181 #[.pointer (some ⟨g, 0, none⟩), .pointer (some ⟨G, off, none⟩)] w (PartPost w g G t cs (put1 off) r (getCodeP 4) u32R) := by
  have HG := Lib.hid (ptU32_at h hb ht ht2 hoff)
  clear h hb
  go_enter Tryz.func181, Tryz.ntmps181
  go_wp2_with fail
  go_at_call 202
  refine HG.out.mono ?_
  rintro e w2 ⟨rfl, hp⟩
  have HP := Lib.hid hp
  clear hp
  go_wp2
  go_end0
  exact ⟨rfl, HP.out⟩
/-- A reply's cells, as it begins. -/
def rep0 (op : UInt8) : Array Value := #[.int .u8 (op.toNat : Int), .int .u32 0, .string ⟨#[]⟩, .int .u16 0, .int .i32 0, .int .i32 0, .int .i32 0, .int .u8 0, .string ⟨#[]⟩, .string ⟨#[]⟩, .string ⟨#[]⟩, .slice none 0 0, .slice none 0 0, .string ⟨#[]⟩, .slice none 0 0, .int .i64 0, .slice none 0 0, .string ⟨#[]⟩, .string ⟨#[]⟩, .slice none 0 0, .int .u32 0, .string ⟨#[]⟩, .string ⟨#[]⟩, .string ⟨#[]⟩, .string ⟨#[]⟩, .slice none 0 0, .int .u32 0, .string ⟨#[]⟩, .string ⟨#[]⟩, .string ⟨#[]⟩, .string ⟨#[]⟩, .slice none 0 0, .slice none 0 0, .slice none 0 0]
theorem rep_info : (Tryz.prog.info? 191).map (·.size) = some 34 := by kernel_rfl
theorem all_set {cs : Array Value} {i : Nat} {v : Value} (h : cs.all (·.oneCell') = true) (hv : v.oneCell' = true) : (cs.setIfInBounds i v).all (·.oneCell') = true := by
  rw [Array.all_eq_true] at h ⊢
  intro j hj
  rw [Array.getElem_setIfInBounds]
  split
  · exact hv
  · exact h j (by simpa using hj)
theorem rep0_all (op : UInt8) : (rep0 op).all (·.oneCell') = true := by simp [rep0, Value.oneCell']
theorem rep0_size (op : UInt8) : (rep0 op).size = 34 := rfl
/-- What the parts of a reply leave, where all could be read. -/
def PartsOk (W : World) (g G : Nat) (R : Array Value → World → Prop) (e : Ending) (W' : World) : Prop :=
  e = .returned (.tuple #[]) ∧ Kept (fun k => k = g ∨ k = G) W W' ∧ ∃ cs, StrmAt W' g (some []) ∧ Blk W' G 191 cs ∧ cs.size = 34 ∧ cs.all (·.oneCell') = true ∧ R cs W'

set_option maxHeartbeats 1000000 in
set_option maxRecDepth 100000 in
/-- Ready. -/
theorem sParts_2 {W : World} {g G : Nat} (h : StrmAt W g (some [])) (hb : Blk W G 191 (rep0 2)) :
    Calls Tryz.prog 152 #[.pointer (some ⟨g, 0, none⟩), .pointer (some ⟨G, 0, none⟩)] W (PartsOk W g G fun cs _ => cs = rep0 2) := by
  have H := Lib.hid h
  have HB := Lib.hid hb
  have y0 : W.cell? ⟨G, 0, none⟩ = some (.int .u8 2) := hb.cell 0
  clear h hb
  go_enter Tryz.func152, Tryz.ntmps152
  go_wp2
  go_end0
  exact ⟨rfl, Kept.refl _ _, rep0 2, H.out, HB.out, rfl, rep0_all 2, rfl⟩
set_option maxHeartbeats 1000000 in
set_option maxRecDepth 100000 in
/-- Supported. -/
theorem sParts_6 {W : World} {g G : Nat} {l : List UInt8} {a : List (List UInt8 × List (List UInt8))} (hl : getMultisP l = some (a, [])) (h : StrmAt W g (some l)) (hb : Blk W G 191 (rep0 6)) :
    Calls Tryz.prog 152 #[.pointer (some ⟨g, 0, none⟩), .pointer (some ⟨G, 0, none⟩)] W (PartsOk W g G fun cs _ => cs.getD 0 undef = .int .u8 6) := by
  have HP := Lib.hid (sMultis_at h hb (by decide) (by decide) (off := 14) (by rw [rep0_size]; decide))
  have HL := Lib.hid hl
  have y0 : W.cell? ⟨G, 0, none⟩ = some (.int .u8 6) := hb.cell 0
  clear h hb hl
  go_enter Tryz.func152, Tryz.ntmps152
  go_wp2_with fail
  go_at_call 166
  refine HP.out.mono ?_
  rintro e W2 ⟨rfl, hk, hc⟩
  have HK := Lib.hid hk
  have HC := Lib.hid hc
  clear hk hc
  go_wp2
  go_end0
  rcases HC.out with ⟨hno, -⟩ | ⟨a', rest, x, hso, hst, hb2, A3, n3, c3, cl3, rfl, -⟩
  · rw [show (some l).bind getMultisP = getMultisP l from rfl, HL.out] at hno; cases hno
  · rw [show (some l).bind getMultisP = getMultisP l from rfl, HL.out] at hso
    injection hso with hso
    injection hso with h1 h2
    subst h2
    exact ⟨rfl, HK.out, _, hst, hb2, rfl, all_set (rep0_all 6) rfl, rfl⟩
set_option maxHeartbeats 1000000 in
set_option maxRecDepth 100000 in
/-- Authenticate. -/
theorem sParts_3 {W : World} {g G : Nat} {l a : List UInt8} (hl : getTextP l = some (a, [])) (h : StrmAt W g (some l)) (hb : Blk W G 191 (rep0 3)) :
    Calls Tryz.prog 152 #[.pointer (some ⟨g, 0, none⟩), .pointer (some ⟨G, 0, none⟩)] W (PartsOk W g G fun cs _ => cs.getD 0 undef = .int .u8 3) := by
  have HP := Lib.hid (sText_at h hb (by decide) (by decide) (off := 13) (by rw [rep0_size]; decide))
  have HL := Lib.hid hl
  have y0 : W.cell? ⟨G, 0, none⟩ = some (.int .u8 3) := hb.cell 0
  clear h hb hl
  go_enter Tryz.func152, Tryz.ntmps152
  go_wp2_with fail
  go_at_call 165
  refine HP.out.mono ?_
  rintro e W2 ⟨rfl, hk, hc⟩
  have HK := Lib.hid hk
  have HC := Lib.hid hc
  clear hk hc
  go_wp2
  go_end0
  rcases HC.out with ⟨hno, -⟩ | ⟨a', rest, x, hso, hst, hb2, rfl⟩
  · rw [show (some l).bind getTextP = getTextP l from rfl, HL.out] at hno; cases hno
  · rw [show (some l).bind getTextP = getTextP l from rfl, HL.out] at hso
    injection hso with hso
    injection hso with h1 h2
    subst h2
    exact ⟨rfl, HK.out, _, hst, hb2, rfl, all_set (rep0_all 3) rfl, rfl⟩
set_option maxHeartbeats 1000000 in
set_option maxRecDepth 100000 in
/-- AuthChallenge, AuthSuccess. -/
theorem sParts_14 {W : World} {g G : Nat} {l : List UInt8} {a : Int × List UInt8} (hl : getValP l = some (a, [])) (h : StrmAt W g (some l)) (hb : Blk W G 191 (rep0 14)) :
    Calls Tryz.prog 152 #[.pointer (some ⟨g, 0, none⟩), .pointer (some ⟨G, 0, none⟩)] W (PartsOk W g G fun cs _ => cs.getD 0 undef = .int .u8 14) := by
  have HP := Lib.hid (sValue_at h hb (by decide) (by decide) (off := 15) (by rw [rep0_size]; decide))
  have HL := Lib.hid hl
  have y0 : W.cell? ⟨G, 0, none⟩ = some (.int .u8 14) := hb.cell 0
  clear h hb hl
  go_enter Tryz.func152, Tryz.ntmps152
  go_wp2_with fail
  go_at_call 169
  refine HP.out.mono ?_
  rintro e W2 ⟨rfl, hk, hc⟩
  have HK := Lib.hid hk
  have HC := Lib.hid hc
  clear hk hc
  go_wp2
  go_end0
  rcases HC.out with ⟨hno, -⟩ | ⟨a', rest, x, hso, hst, hb2, A3, n3, c3, rfl, -⟩
  · rw [show (some l).bind getValP = getValP l from rfl, HL.out] at hno; cases hno
  · rw [show (some l).bind getValP = getValP l from rfl, HL.out] at hso
    injection hso with hso
    injection hso with h1 h2
    subst h2
    exact ⟨rfl, HK.out, _, hst, hb2, rfl, all_set (all_set (rep0_all 14) rfl) rfl, rfl⟩
set_option maxHeartbeats 1000000 in
set_option maxRecDepth 100000 in
/-- AuthChallenge, AuthSuccess. -/
theorem sParts_16 {W : World} {g G : Nat} {l : List UInt8} {a : Int × List UInt8} (hl : getValP l = some (a, [])) (h : StrmAt W g (some l)) (hb : Blk W G 191 (rep0 16)) :
    Calls Tryz.prog 152 #[.pointer (some ⟨g, 0, none⟩), .pointer (some ⟨G, 0, none⟩)] W (PartsOk W g G fun cs _ => cs.getD 0 undef = .int .u8 16) := by
  have HP := Lib.hid (sValue_at h hb (by decide) (by decide) (off := 15) (by rw [rep0_size]; decide))
  have HL := Lib.hid hl
  have y0 : W.cell? ⟨G, 0, none⟩ = some (.int .u8 16) := hb.cell 0
  clear h hb hl
  go_enter Tryz.func152, Tryz.ntmps152
  go_wp2_with fail
  go_at_call 169
  refine HP.out.mono ?_
  rintro e W2 ⟨rfl, hk, hc⟩
  have HK := Lib.hid hk
  have HC := Lib.hid hc
  clear hk hc
  go_wp2
  go_end0
  rcases HC.out with ⟨hno, -⟩ | ⟨a', rest, x, hso, hst, hb2, A3, n3, c3, rfl, -⟩
  · rw [show (some l).bind getValP = getValP l from rfl, HL.out] at hno; cases hno
  · rw [show (some l).bind getValP = getValP l from rfl, HL.out] at hso
    injection hso with hso
    injection hso with h1 h2
    subst h2
    exact ⟨rfl, HK.out, _, hst, hb2, rfl, all_set (all_set (rep0_all 16) rfl) rfl, rfl⟩
end Go.Proofs.YtfnjoceolcdeoaaGreatDoor

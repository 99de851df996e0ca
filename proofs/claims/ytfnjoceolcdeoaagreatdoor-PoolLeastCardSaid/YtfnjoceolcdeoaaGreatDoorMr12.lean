/- header.Check, of a request's header without flags · slices.Grow at no place, slices.Concat of rows of bytes · A region that draws its order, where several operations that make memory may come up in any order: each is proved once, over whatever came of the others. No program is named. -/
import Derived.Test.YtfnjoceolcdeoaaGreatDoorMr11
import Derived.Test.YtfnjoceolcdeoaaGreatDoorMr04
import Derived.Lib.AppendZerosOnto
import Derived.Shelf.Spec.SlicesGrow
import Derived.Test.YtfnjoceolcdeoaaGreatDoorMr07
namespace Go.Proofs.YtfnjoceolcdeoaaGreatDoor
set_option linter.unusedVariables false
open Go.RowKit

/-- What is wrong with a request's opcode. -/
def opE (op : UInt8) : Int := if op ∈ reqOps then 0 else 22
set_option maxHeartbeats 1000000 in
set_option maxRecDepth 100000 in
theorem hdCheck_req (st : Int) (op : UInt8) (len : Nat) (hl : len ≤ 1048576) (w : World) :
    Calls Tryz.prog 74 #[.agg #[.int .u8 4, .int .u8 0, .int .i16 st, .int .u8 (op.toNat : Int), .int .u32 len]] w fun e w' => e = .returned (.int .i64 (opE op)) ∧ Kept noBlock w w' := by
  have hand : bits BinOp.andNot IntKind.u8 0 6 = 0 := by decide
  go_enter Tryz.func74, Tryz.ntmps74
  go_wp2_with fail
  have HB := Lib.hid (Blk.new w 40 #[.int .u8 4, .int .u8 0, .int .i16 st, .int .u8 (op.toNat : Int), .int .u32 len])
  have HK0 := Lib.hid ((Kept.refl noBlock w).alloc (.cells #[.int .u8 4, .int .u8 0, .int .i16 st, .int .u8 (op.toNat : Int), .int .u32 len] 40))
  generalize hw0 : w.alloc (.cells #[.int .u8 4, .int .u8 0, .int .i16 st, .int .u8 (op.toNat : Int), .int .u32 len] 40) = w0 at *
  generalize hg : w.heap.size = g at *
  go_at_call 104
  refine (hdOf_req _).mono ?_
  rintro e w1 ⟨A, c, rfl, hs, hk⟩
  have hb1 := (HB.out.kept hk (fun h => h)).alloc (.cells #[.int .u8 6, .slice A 8 c] 206)
  have y0 := hb1.cell 0
  have y1 := hb1.cell 1
  have y2 := hb1.cell 2
  have y3 := hb1.cell 3
  have y4 := hb1.cell 4
  simp only [List.getElem?_toArray, List.getElem?_cons_zero, List.getElem?_cons_succ] at y0 y1 y2 y3 y4
  have HS := Lib.hid (hs.alloc (.cells #[.int .u8 6, .slice A 8 c] 206))
  have HK := Lib.hid ((HK0.out.trans hk fun i _ h => h).alloc (.cells #[.int .u8 6, .slice A 8 c] 206))
  clear hs hk hb1
  go_wp2_with fail
  go_at_call 105
  refine (BContains_at HS.out op).mono ?_
  rintro e w2 ⟨rfl, hw2⟩
  subst hw2
  by_cases hop : op ∈ reqOps
  · have HE : Hid (opE op = 0) := Lib.hid (by unfold opE; rw [if_pos hop])
    rw [decide_eq_true hop]
    go_wp2
    go_ret
    rw [HE.out]
    exact ⟨rfl, HK.out⟩
  · have HE : Hid (opE op = 22) := Lib.hid (by unfold opE; rw [if_neg hop])
    rw [decide_eq_false hop]
    go_wp2
    go_ret
    rw [HE.out]
    exact ⟨rfl, HK.out⟩
end Go.Proofs.YtfnjoceolcdeoaaGreatDoor
namespace Go.Proofs.YtfnjoceolcdeoaaGreatDoor
set_option linter.unusedVariables false
open Go.RowKit

set_option maxHeartbeats 1000000 in
set_option maxRecDepth 100000 in
theorem BGrow_at (n : Nat) (w : World) (hn : n ≤ 10000000) :
    Calls Tryz.prog 147 #[.slice none 0 0, .int .i64 n] w fun e w' => ∃ v, e = .returned v ∧ w'.ownsRow w.heap.size 5 1 v 0 [] ∧ Kept noBlock w w' := by
  by_cases h0 : n = 0
  · subst h0
    go_enter Tryz.func147, Tryz.ntmps147
    go_wp2
    go_ret
    exact ⟨_, rfl, World.ownsRow_nil _ _ _ _, Kept.refl _ _⟩
  · obtain ⟨i0, hi0, hz0, hs0, hb0⟩ := info_parts bytesQT.info
    have hold : (Builtin.firstCells i0.size 0 (.slice none 0 0)).run Tryz.prog w.drew = .ok #[] w.drew := run_firstCells_none w.drew i0.size 0 0 0
    have hfit : Builtin.nextslicecap (0 + n) 0 * i0.bytes ≤ 281474976710656 := growslice_fits (by omega) (by rw [hb0]; omega)
    have hrz := fun ty => Lib.run_append_grow_zeros (P := Tryz.prog) w 30 3 ty 5 i0 _ .i64 .i64 Tryz.underlying30 Tryz.underlying3 hi0 hz0 none 0 0 [] hold n (by omega) (by rw [hs0]; decide) (by omega) (by omega) (by rw [hb0]; omega) hfit
    have hGn : n ≤ grownCap w (0 + n) 0 5 := by have := grownCap_ge w (0 + n) 0 5; omega
    have hGm : grownCap w (0 + n) 0 5 ≤ maxLen := grownCap_le_maxLen w (0 + n) 0 5 (by unfold maxLen; omega)
    generalize grownCap w (0 + n) 0 5 = G at *
    have hG63 : G ≤ 9223372036854775807 := by unfold maxLen at hGm; omega
    simp only [Nat.zero_add] at hrz
    obtain ⟨cs, hcs⟩ : ∃ cs : Array Value, cs = (#[] : Array Value) ++ Builtin.zeroCells (Value.int .u8 0).cells n ++ Builtin.zeroCells (Value.int .u8 0).cells (G - n) := ⟨_, rfl⟩
    have hrz2 : ∀ ty, (Builtin.append_ #[30, 3] ty #[.slice none 0 0, .int .i64 n]).run Tryz.prog w = .ok (.slice (some ⟨w.heap.size, 0, none⟩) n G) (w.drew.alloc (.cells cs 5)) := fun ty => by rw [hcs]; exact hrz ty
    have hsz : cs.size = G * 1 := by rw [hcs]; simp [Builtin.zeroCells, Value.cells]; omega
    have hown : ((w.alloc (.cells cs 5)).drew).ownsRow w.heap.size 5 1 (.slice (some ⟨w.heap.size, 0, none⟩) 0 G) 0 [] :=
      ⟨rfl, .inr ⟨w.heap.size, G, cs, rfl, Nat.le_refl _, heap_alloc_new w _, Nat.zero_le _, hGm, hsz, by simp⟩⟩
    have HO := Lib.hid hown
    have HK := Lib.hid (((Kept.refl noBlock w).alloc (.cells cs 5)).drew)
    clear hcs hrz hsz
    clear hown hold hfit hi0 hz0 hs0 hb0
    go_enter Tryz.func147, Tryz.ntmps147
    go_wp2_with (at_builtin; refine Lib.wpList_append_run _ rfl _ _ _ _ rfl _ _ rfl rfl _ _ (hrz2 _) ?_)
    all_goals (go_ret; exact ⟨_, rfl, HO.out, HK.out⟩)

theorem bytessT : SlT Tryz.prog 259 30 (.slice none 0 0) 1 24 := ⟨Tryz.underlying259, by kernel_rfl, rfl, by decide, by decide⟩
/-- A row of rows of bytes. -/
abbrev BsL := List (Value × List UInt8)
def bsTot (L : BsL) (i : Nat) : Nat := ((L.take i).map fun p => p.2.length).sum
def bsAll (L : BsL) (i : Nat) : List UInt8 := (L.take i).flatMap (·.2)
theorem take_succ_of {α : Type} {l : List α} {i : Nat} {x : α} (h : l[i]? = some x) : l.take (i + 1) = l.take i ++ [x] := by
  rw [List.take_add_one, h]; rfl
theorem bsTot_succ {L : BsL} {i : Nat} {p : Value × List UInt8} (h : L[i]? = some p) : bsTot L (i + 1) = bsTot L i + p.2.length := by
  unfold bsTot
  rw [take_succ_of h, List.map_append, List.sum_append]; simp
theorem bsAll_succ {L : BsL} {i : Nat} {p : Value × List UInt8} (h : L[i]? = some p) : bsAll L (i + 1) = bsAll L i ++ p.2 := by
  unfold bsAll
  rw [take_succ_of h, List.flatMap_append]; simp
theorem bsAll_len (L : BsL) : ∀ i, i ≤ L.length → (bsAll L i).length = bsTot L i
  | 0, _ => by simp [bsAll, bsTot]
  | i + 1, h => by
    obtain ⟨p, hp⟩ : ∃ p, L[i]? = some p := ⟨_, List.getElem?_eq_getElem (by omega)⟩
    rw [bsAll_succ hp, bsTot_succ hp, List.length_append, bsAll_len L i (by omega)]
theorem bsTot_le (L : BsL) : ∀ i, i ≤ L.length → bsTot L i ≤ bsTot L L.length := by
  intro i hi
  unfold bsTot
  rw [List.take_length]
  conv => rhs; rw [← List.take_append_drop i L, List.map_append, List.sum_append]
  omega

set_option maxHeartbeats 2000000 in
set_option maxRecDepth 100000 in
theorem BConcat_at {w : World} {ok : Nat → TypeId → Prop} {A0 : Option Addr} {n c0 : Nat} {L : BsL} (h : SlK w ok 1 (.slice A0 n c0) n (L.map (·.1))) (hL : ∀ (i : Nat) (p : Value × List UInt8), L[i]? = some p → Sl w 5 1 p.1 p.2.length (Lib.byteCells p.2)) (hb : bsTot L n ≤ 10000000) :
    Calls Tryz.prog 128 #[.slice A0 n c0] w fun e w' => ∃ v, e = .returned v ∧ w'.ownsRow w.heap.size 5 1 v (bsTot L n) (Lib.byteCells (bsAll L n)) ∧ Kept noBlock w w' := by
  have hln : L.length = n := by have := h.len; rw [List.length_map, Nat.mul_one] at this; exact this
  have hlen := h.run_len bytessT
  have hnm : n ≤ 9223372036854775807 := by obtain ⟨_, _, hv, h1, h2⟩ := h.shape; cases hv; unfold maxLen at h2; omega
  have H := Lib.hid h
  have HL := Lib.hid hL
  have HLN := Lib.hid hln
  have HB := Lib.hid hb
  have HTL := Lib.hid (bsTot_le L)
  clear h hL hln hb
  go_enter Tryz.func128, Tryz.ntmps128
  go_wp2_with fail
  go_loopg [3, 11] n (fun j vs vi wr => ∃ i s : Nat, i + j = n ∧ vi = .int .i64 i ∧ vs = .int .i64 s ∧ s = bsTot L i ∧ wr = w)
  case atStart => exact ⟨0, 0, by omega, rfl, rfl, by simp [bsTot], rfl⟩
  case round =>
    obtain ⟨i, s, hij, rfl, rfl, hs, rfl⟩ := hrel
    have HIJ := Lib.hid hij
    have HS := Lib.hid hs
    by_cases hi : i < n
    · obtain ⟨p, hp⟩ : ∃ p, L[i]? = some p := ⟨_, List.getElem?_eq_getElem (by rw [HLN.out]; exact hi)⟩
      obtain ⟨A1, c1, hv, -, -⟩ := (HL.out i p hp).shape
      obtain ⟨g, off, hidx, -, -, h3⟩ := H.out.run_index bytessT (i := (i : Int)) (k := i) rfl hi
      have c0 : wr.cell? ⟨g, off, none⟩ = some (.slice A1 p.2.length c1) := h3 0 _ (by rw [Nat.mul_one, Nat.add_zero, List.getElem?_map, hp, ← hv]; rfl)
      have l1 : ∀ ty w', (Builtin.len_ #[30] ty #[.slice A1 p.2.length c1]).run Tryz.prog w' = .ok (.int .i64 (p.2.length : Nat)) w' := by
        have := (HL.out i p hp).run_len bytesQT
        rw [hv] at this
        exact this
      have hT : Hid (s + p.2.length = bsTot L (i + 1)) := Lib.hid (by rw [bsTot_succ hp, HS.out])
      have hsb : s + p.2.length ≤ 10000000 := by
        have h1 := HTL.out (i + 1) (by rw [HLN.out]; omega)
        rw [HLN.out] at h1
        have := HB.out; have := hT.out; omega
      generalize hq : p.2.length = q at *
      clear hs hij h3 hv hp hq
      go_wp2_with fail
      go_roundg (n - (i + 1))
      case measure => have := HIJ.out; omega
      case rel => exact ⟨i + 1, s + q, by have := HIJ.out; omega, by go_num, by go_num, hT.out, rfl⟩
    · obtain rfl : n = i := by omega
      have HG := Lib.hid (BGrow_at s wr (by rw [HS.out]; exact HB.out))
      clear hs hij
      go_wp2_with fail
      go_at_call 147
      refine HG.out.mono ?_
      rintro e w1 ⟨v3, rfl, hown3, hk3⟩
      have START := Lib.hid (⟨hown3, hk3⟩ : w1.ownsRow wr.heap.size 5 1 v3 0 [] ∧ Kept noBlock wr w1)
      obtain ⟨wz, hwz⟩ : ∃ wz, wz = wr := ⟨wr, rfl⟩
      subst hwz
      clear hown3 hk3 HG
      go_wp2_with fail
      go_loopg [6, 27] n (fun j v6 vi wx => ∃ i t : Nat, i + j = n ∧ vi = .int .i64 i ∧ Kept noBlock wz wx ∧ t = bsTot L i ∧ wx.ownsRow wz.heap.size 5 1 v6 t (Lib.byteCells (bsAll L i)))
      case atStart => exact ⟨0, 0, by omega, rfl, START.out.2, by simp [bsTot], by simpa [bsAll, Lib.byteCells] using START.out.1⟩
      case round =>
        obtain ⟨i, t, hij, rfl, hk, ht, hown⟩ := hrel
        have HIJ := Lib.hid hij
        have HT := Lib.hid ht
        have HK := Lib.hid hk
        have HO := Lib.hid hown
        have hz := hk.size
        by_cases hi : i < n
        · obtain ⟨p, hp⟩ : ∃ p, L[i]? = some p := ⟨_, List.getElem?_eq_getElem (by rw [HLN.out]; exact hi)⟩
          obtain ⟨A1, c1, hv, -, -⟩ := (HL.out i p hp).shape
          have hk' := H.out.keptAll (S := noBlock) hk fun _ _ _ h => h
          obtain ⟨g, off, hidx, -, -, h3⟩ := hk'.run_index bytessT (i := (i : Int)) (k := i) rfl hi
          have c0 : wr.cell? ⟨g, off, none⟩ = some (.slice A1 p.2.length c1) := h3 0 _ (by rw [Nat.mul_one, Nat.add_zero, List.getElem?_map, hp, ← hv]; rfl)
          have HS1 : Hid (Sl wr 5 1 (.slice A1 p.2.length c1) p.2.length (Lib.byteCells p.2)) := Lib.hid (by have := SlK.keptNone (HL.out i p hp) hk; rw [hv] at this; exact this)
          have hT : Hid (t + p.2.length = bsTot L (i + 1)) := Lib.hid (by rw [bsTot_succ hp, HT.out])
          have hA : Hid (Lib.byteCells (bsAll L i) ++ Lib.byteCells p.2 = Lib.byteCells (bsAll L (i + 1))) := Lib.hid (by rw [bsAll_succ hp, byteCells_app])
          have hsb : t + p.2.length ≤ 10000000 := by
            have h1 := HTL.out (i + 1) (by rw [HLN.out]; omega)
            rw [HLN.out] at h1
            have := HB.out; have := hT.out; omega
          generalize hq : p.2.length = q at *
          generalize Lib.byteCells (bsAll L i) = X at *
          clear hij h3 hv hp hq ht hk hown hk' hlen
          have hlen2 := H.out.run_len bytessT
          go_wp2_with (at_builtin; go_must (refine wpList_append_sl _ bytesQT rfl (.tmp 31) (.tmp 32) rfl wz.heap.size _ t X rfl HO.out _ q (Lib.byteCells p.2) rfl HS1.out (fun u hu => byteCells_one hu) ?c1 ?c2 ?_))
          case c1 => omega
          case c2 => first | omega | (simp; omega)
          intro v' w3 hap
          have HK3 := Lib.hid (hap.below HO.out HK.out (Nat.le_refl _))
          have HO3 := Lib.hid hap.own
          clear hap
          go_wp2
          go_roundg (n - (i + 1))
          case measure => have := HIJ.out; omega
          case rel => exact ⟨i + 1, t + q, by have := HIJ.out; omega, by go_num, HK3.out, hT.out, by rw [← hA.out]; exact HO3.out⟩
        · obtain rfl : n = i := by omega
          clear hij ht hk hown
          go_wp2
          go_ret
          rw [← HT.out]
          exact ⟨_, rfl, HO.out, HK.out⟩
end Go.Proofs.YtfnjoceolcdeoaaGreatDoor
namespace Go.Proofs.YtfnjoceolcdeoaaGreatDoor
set_option linter.unusedVariables false
open Go.RowKit

/-- The check that a set M of operations is carried out next, in whatever order; 'pre i' came up ahead of i. -/
def mixB (ops : Array Oper) (pre : Nat → List Nat) (k : Array Bool → Bool) : Nat → List Nat → Array Bool → Bool
  | 0, M, listed => M.isEmpty && k listed
  | n + 1, M, listed => !(Region.ready .any ops listed).isEmpty && (Region.ready .any ops listed).all fun i => M.contains i && (pre i).all (fun j => !M.contains j) && mixB ops pre k n (M.erase i) (listed.setIfInBounds i true)

def updV (val : Nat → Value) (i : Nat) (v : Value) : Nat → Value := fun k => if k = i then v else val k

section
variable {P : Program} {ops : Array Oper} {S : World → Prop} {Q : Exit → Act → World → Prop}

/-- The steps of a mix: over whatever the others yielded. -/
def MixSteps (P : Program) (ops : Array Oper) (S : World → Prop) (Q : Exit → Act → World → Prop) (pre : Nat → List Nat) (M : List Nat) (A : (Nat → Value) → Act) (F : Nat → Value → World → Prop) : Prop :=
  ∀ i ∈ M, ∀ (val : Nat → Value) (w : World), S w → (∀ j ∈ pre i, F j (val j) w) →
    ∃ o, ops[i]? = some o ∧ Region.wanted o (yielded ops (A val).tmps) = true ∧ o.wp P (A val) w (fun a' w' => S w' ∧ ∃ v, a' = A (updV val i v) ∧ F i v w' ∧ ∀ j ∈ M, ∀ u, F j u w → F j u w') Q

theorem mix_sound {pre : Nat → List Nat} {M0 : List Nat} {A : (Nat → Value) → Act} {F : Nat → Value → World → Prop} (hsteps : MixSteps P ops S Q pre M0 A F) {k : Array Bool → Bool} {m : Nat}
    (hpre : ∀ i ∈ M0, ∀ j ∈ pre i, j ∈ M0) (hk : ∀ listed val w, k listed = true → S w → (∀ j ∈ M0, F j (val j) w) → wpAnyH P .any ops Q S m listed (A val) w) :
    ∀ (n : Nat) (M : List Nat) (listed : Array Bool) (val : Nat → Value) (w : World), mixB ops pre k n M listed = true → M.Nodup → (∀ i ∈ M, i ∈ M0) → S w → (∀ j ∈ M0, j ∉ M → F j (val j) w) → wpAnyH P .any ops Q S (n + m) listed (A val) w := by
  intro n
  induction n with
  | zero =>
    intro M listed val w hB _ _ hS hF
    simp only [mixB, Bool.and_eq_true, List.isEmpty_iff] at hB
    obtain ⟨rfl, hB⟩ := hB
    rw [Nat.zero_add]
    exact hk _ _ _ hB hS fun j hj => hF j hj (by simp)
  | succ n ih =>
    intro M listed val w hB hnd hM hS hF
    simp only [mixB, Bool.and_eq_true, List.all_eq_true] at hB
    obtain ⟨hne, hall⟩ := hB
    rw [show n + 1 + m = n + m + 1 by omega]
    refine wpAnyH_all rfl (by intro h; rw [h] at hne; simp at hne) fun i hi => ?_
    obtain ⟨⟨hiM, hpi⟩, hB⟩ := hall i hi
    have hiM' : i ∈ M := by simpa using hiM
    obtain ⟨o, ho, hw, hwp⟩ := hsteps i (hM i hiM') val w hS fun j hj => hF j (hpre i (hM i hiM') j hj) (by have := hpi j hj; simpa using this)
    unfold wpOp
    simp only [ho, hw, if_true]
    refine .inl (Oper.wp_mono (fun a' w' h' => ?_) hwp)
    obtain ⟨hS', v, rfl, hFi, hst⟩ := h'
    refine ⟨hS', ih _ _ _ _ hB (hnd.erase i) (fun j hj => hM j (List.mem_of_mem_erase hj)) hS' fun j hj hjn => ?_⟩
    by_cases e : j = i
    · subst e
      unfold updV
      rw [if_pos rfl]
      exact hFi
    · unfold updV
      rw [if_neg e]
      exact hst j hj _ (hF j hj fun h => hjn ((List.mem_erase_of_ne e).2 h))

theorem wpAnyH_sch {l : Sch} {listed : Array Bool} {a : Act} {w : World} (hs : Region.noSelect ops = true) (hQ : ∀ (d : Option Tmp) v c a w, Q (.panic c) (a.put d v) w → Q (.panic c) a w) (hB : schB ops l listed = true) (hS : S w) (h : wpSch P ops S Q l a w) : wpAnyH P .any ops Q S l.len listed a w := wpSch_sound hs hQ l listed a w hB hS h

/-- Takes, a mix, and what is behind it. -/
def takesB (ops : Array Oper) (k : Array Bool → Bool) : List Nat → Array Bool → Bool
  | [], listed => k listed
  | i :: r, listed => (Region.ready .any ops listed).contains i && Region.free .any ops listed i && takesB ops k r (listed.setIfInBounds i true)

def wpTakes (P : Program) (ops : Array Oper) (S : World → Prop) (K : Act → World → Prop) : List Nat → Act → World → Prop
  | [], a, w => K a w
  | i :: r, a, w => ∃ o, ops[i]? = some o ∧ ((Region.wanted o (yielded ops a.tmps) = false ∧ wpTakes P ops S K r (a.put o.dst undef) w) ∨ (Region.wanted o (yielded ops a.tmps) = true ∧ ∃ v, (∀ w', S w' → takesAt P o a w' v) ∧ wpTakes P ops S K r (a.put o.dst v) w))

theorem takes_sound (hs : Region.noSelect ops = true) (hQ : ∀ (d : Option Tmp) v c a w, Q (.panic c) (a.put d v) w → Q (.panic c) a w) {k : Array Bool → Bool} {m : Nat} {K : Act → World → Prop}
    (hk : ∀ listed a w, k listed = true → S w → K a w → wpAnyH P .any ops Q S m listed a w) :
    ∀ (l : List Nat) (listed : Array Bool) (a : Act) (w : World), takesB ops k l listed = true → S w → wpTakes P ops S K l a w → wpAnyH P .any ops Q S (l.length + m) listed a w := by
  intro l
  induction l with
  | nil =>
    intro listed a w hB hS h
    simp only [List.length_nil, Nat.zero_add]
    exact hk _ _ _ hB hS h
  | cons i r ih =>
    intro listed a w hB hS h
    obtain ⟨o, hi, h⟩ := h
    simp only [takesB, Bool.and_eq_true] at hB
    obtain ⟨⟨hr, hf⟩, hB⟩ := hB
    rw [show (i :: r).length + m = r.length + m + 1 by simp only [List.length_cons]; omega]
    rcases h with ⟨hw, h⟩ | ⟨hw, v, hv, h⟩
    · exact wpAnyH_take hi hs hf hr (hQ _ _) (.inr ⟨hw, rfl⟩) hS (ih _ _ _ hB hS h)
    · exact wpAnyH_take hi hs hf hr (hQ _ _) (.inl ⟨hw, hv⟩) hS (ih _ _ _ hB hS h)

/-- A mix in the walk: the state as it stands, by the values that the mixed ones yield. -/
def wpMix (P : Program) (ops : Array Oper) (S : World → Prop) (Q : Exit → Act → World → Prop) (pre : Nat → List Nat) (M : List Nat) (l : Sch) (a : Act) (w : World) : Prop :=
  ∃ (A : (Nat → Value) → Act) (val : Nat → Value) (F : Nat → Value → World → Prop), a = A val ∧ MixSteps P ops S Q pre M A F ∧ ∀ val w, S w → (∀ j ∈ M, F j (val j) w) → wpSch P ops S Q l (A val) w

/-- The law: first takes, then the mix, then the rest. -/
theorem wp_region_mix {id : Nat} {a : Act} {w : World} (S : World → Prop) (T : List Nat) (M : List Nat) (pre : Nat → List Nat) (l : Sch) (hm : P.follows .mixedOrders = true) (hs : Region.noSelect ops = true)
    (hB : (T.length + (M.length + l.len) == ops.size && takesB ops (mixB ops pre (schB ops l) M.length M) T (Array.replicate ops.size false) && M.all (fun i => (pre i).all fun j => M.contains j) && decide M.Nodup) = true)
    (hS : S w.drew) (h : wpTakes P ops S (wpMix P ops S (NoPanic Q) pre M l) T a w.drew) : (Code.region id ops true).wp P Q a w := by
  refine wp_region_noPanic (wp_region_held (S := S) hm ?_)
  simp only [Bool.and_eq_true, beq_iff_eq, decide_eq_true_eq, List.all_eq_true] at hB
  obtain ⟨⟨⟨h1, h2⟩, h3⟩, h4⟩ := hB
  have := takes_sound (P := P) (S := S) (Q := NoPanic Q) hs (fun _ _ _ _ _ h => h) (m := M.length + l.len) (K := wpMix P ops S (NoPanic Q) pre M l) (k := mixB ops pre (schB ops l) M.length M) (fun listed a w hB hS hK => by
    obtain ⟨A, val, F, rfl, hst, hend⟩ := hK
    exact mix_sound hst (fun i hi j hj => by have := h3 i hi j hj; simpa using this) (fun listed val w hB hS hF => wpSch_sound hs (fun _ _ _ _ _ h => h) l listed _ w hB hS (hend val w hS hF)) M.length M listed val w hB h4 (fun _ h => h) hS fun j hj hn => absurd hj hn) T _ a w.drew h2 hS h
  rw [h1] at this
  exact this

theorem takes_takeE {K : Act → World → Prop} {i : Nat} {r : List Nat} {a : Act} {w : World} {o : Oper} (hi : ops[i]? = some o) (hw : Region.wanted o (yielded ops a.tmps) = true)
    (h : ∃ v, (∀ w', S w' → takesAt P o a w' v) ∧ ∀ K' : Act → Prop, (∀ a, wpTakes P ops S K r a w → K' a) → K' (a.put o.dst v)) : wpTakes P ops S K (i :: r) a w := by
  obtain ⟨v, h1, h2⟩ := h
  exact ⟨o, hi, .inr ⟨hw, v, h1, h2 _ fun _ h => h⟩⟩
theorem takes_nil {K : Act → World → Prop} {a : Act} {w : World} (h : K a w) : wpTakes P ops S K [] a w := h
theorem mix_doK {A : (Nat → Value) → Act} {K0 : Act → World → Prop} {val : Nat → Value} {w : World} {o : Oper} {i : Nat} (hi : ops[i]? = some o) (hw : Region.wanted o (yielded ops (A val).tmps) = true)
    (h : ∀ K : Act → World → Prop, (∀ a w, K0 a w → K a w) → o.wp P (A val) w K Q) : ∃ o, ops[i]? = some o ∧ Region.wanted o (yielded ops (A val).tmps) = true ∧ o.wp P (A val) w K0 Q := ⟨o, hi, hw, h _ fun _ _ h => h⟩
theorem mix_puts (ds : List (Nat × Tmp)) {pre : Nat → List Nat} {M : List Nat} {l : Sch} {a0 : Act} {w : World} (F : Nat → Value → World → Prop) (val0 : Nat → Value) (h0 : a0 = ds.foldl (fun a p => a.put (some p.2) (val0 p.1)) a0)
    (hsteps : MixSteps P ops S Q pre M (fun val => ds.foldl (fun a p => a.put (some p.2) (val p.1)) a0) F) (hrest : ∀ (val : Nat → Value) w, S w → (∀ j ∈ M, F j (val j) w) → wpSch P ops S Q l (ds.foldl (fun a p => a.put (some p.2) (val p.1)) a0) w) : wpMix P ops S Q pre M l a0 w :=
  ⟨_, val0, F, h0, hsteps, hrest⟩
theorem op_K {o : Oper} {a : Act} {w : World} {K0 : Act → World → Prop} (h : ∀ K : Act → World → Prop, (∀ a w, K0 a w → K a w) → o.wp P a w K Q) : o.wp P a w K0 Q := h _ fun _ _ h => h
end
end Go.Proofs.YtfnjoceolcdeoaaGreatDoor

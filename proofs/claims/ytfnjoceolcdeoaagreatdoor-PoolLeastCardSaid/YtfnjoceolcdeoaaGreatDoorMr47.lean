/- conn.Send on an open connection; State and Counts · A pool's connections that may be used · A pool's Send: the connection on which least is owed takes it · A pool's Send, where nothing is free on any connection · A connection's Tick while it is open, and nothing is due · A pool's connections that take requests by turns · A pool's Live · PoolLeast: its connections open; its Ticks. -/
import Derived.Test.YtfnjoceolcdeoaaGreatDoorMr39
import Derived.Test.YtfnjoceolcdeoaaGreatDoorMr45
import Derived.Test.YtfnjoceolcdeoaaGreatDoorMr46
import Derived.Test.YtfnjoceolcdeoaaGreatDoorMr24
import Derived.Deep.QuietTactic
import Derived.BigQuiet
import Derived.Test.YtfnjoceolcdeoaaGreatDoorMr15
import Derived.Test.YtfnjoceolcdeoaaGreatDoorMr05
import Derived.Test.YtfnjoceolcdeoaaGreatDoorMr22
import Derived.Test.YtfnjoceolcdeoaaGreatDoorMr43
import Derived.Test.YtfnjoceolcdeoaaGreatDoorMr23
namespace Go.Proofs.YtfnjoceolcdeoaaGreatDoor
set_option linter.unusedVariables false
open Go.RowKit
open Go.ChangeMaps (setBlock)

set_option maxHeartbeats 1000000 in
set_option maxRecDepth 100000 in
theorem cnSendable_at (op : UInt8) (hop : op ∈ reqOps) (w : World) : Calls Tryz.prog 53 #[.int .u8 (op.toNat : Int), .int .i64 0] w fun e w' => e = .returned (.int .i64 0) ∧ Kept noBlock w w' := by
  have HC : Hid (Calls Tryz.prog 74 #[.agg #[.int .u8 4, .int .u8 0, .int .i16 0, .int .u8 (op.toNat : Int), .int .u32 0]] w fun e w' => e = .returned (.int .i64 (opE op)) ∧ Kept noBlock w w') := Lib.hid (hdCheck_req 0 op 0 (by decide) w)
  have h0 : opE op = 0 := by unfold opE; rw [if_pos hop]
  rw [h0] at HC
  generalize (op.toNat : Int) = o at *
  go_enter Tryz.func53, Tryz.ntmps53
  go_wp2_with fail
  go_at_call 74
  refine HC.out.mono ?_
  rintro e w1 ⟨rfl, hk1⟩
  have HK1 := Lib.hid hk1
  clear hk1
  go_wp2
  go_ret
  exact ⟨rfl, HK1.out⟩
/-- Behind Send. -/
def SendPost (w : World) (lo hi c : Nat) (x : XC) (L : List (Int × Bool)) (op : UInt8) (l : List UInt8) (u : Int) (e : Ending) (w' : World) : Prop :=
  ∃ (id : Int) (ok : Bool) (x' : XC) (X' : List UInt8), WrCase x [] op l u id ok x' X' ∧ Kept (fun k => lo ≤ k ∧ k < hi) w w' ∧
    ((ok = true ∧ (∃ A k, e = .returned (.tuple #[.int .i64 id, .slice A X'.length k, .int .i64 0]) ∧ Sl w' 5 1 (.slice A X'.length k) X'.length (Lib.byteCells X')) ∧ ConnAt w' lo hi c { x' with oth := some (aput id true L) }) ∨
     (ok = false ∧ e = .returned (.tuple #[.int .i64 0, .slice none 0 0, .int .i64 30]) ∧ ConnAt w' lo hi c x'))
set_option maxHeartbeats 4000000 in
set_option maxRecDepth 100000 in
theorem cnSend_open {w : World} {lo hi c : Nat} {x : XC} (h : ConnAt w lo hi c x) (hst : x.state = 6) (hdr : x.drain = false) {L : List (Int × Bool)} (hoth : x.oth = some L) (hT : Tab w) (hG : 2 < lo)
    (op : UInt8) (hop : op ∈ reqOps) {A : Option Addr} {n k : Nat} {l : List UInt8} (hs : Sl w 5 1 (.slice A n k) n (Lib.byteCells l)) (hn : n ≤ 1048576) (now u : Int) (hu : 0 ≤ u ∧ u < 18446744073709551616) :
    Calls Tryz.prog 29 #[.pointer (some ⟨c, 0, none⟩), .int .u8 (op.toNat : Int), .slice A n k, .int .u64 now, .int .u64 u] w (SendPost w lo hi c x L op l u) := by
  obtain ⟨gs, g, m1, m2, mo, h⟩ := h
  have c8 : w.cell? ⟨c, 8, none⟩ = some (.int .i64 6) := by rw [← hst]; exact h.blk.cell 8
  have c18 : w.cell? ⟨c, 18, none⟩ = some (.bool false) := by rw [← hdr]; exact h.blk.cell 18
  have hbl := hs.run_len bytesQT
  have hn9 : IntKind.u64.wrap (n : Int) = (n : Int) := by rw [IntKind.wrap_u64]; omega
  have hng : decide ((1048576 : Int) < (n : Int)) = false := decide_eq_false (by omega)
  have HSE := Lib.hid (cnSendable_at op hop w)
  have H := Lib.hid h
  have HS := Lib.hid hs
  have HT := Lib.hid hT
  clear h hs hT
  go_enter Tryz.func29, Tryz.ntmps29
  go_wp2_with fail
  go_at_call 53
  refine HSE.out.mono ?_
  rintro e w1 ⟨rfl, hk1⟩
  have hk2 : Kept noBlock w (w1.alloc (.cells #[.slice none 0 0, .slice none 0 0, .slice none 0 0, .bool false, .int .i64 0, .slice none 0 0] 84)) := hk1.alloc _
  have hO : OutB (w1.alloc (.cells #[.slice none 0 0, .slice none 0 0, .slice none 0 0, .bool false, .int .i64 0, .slice none 0 0] 84)) w1.heap.size (w1.heap.size + 1) [] rwN0 rwN0 false 0 rwN0 :=
    ⟨none, 0, 0, _, _, _, rfl, Blk.new _ _ _, World.ownsRow_nil _ _ _ _, World.ownsRow_nil _ _ _ _, World.ownsRow_nil _ _ _ _, World.ownsRow_nil _ _ _ _, Nat.lt_succ_self _⟩
  have hh1 : hi ≤ w1.heap.size := Nat.le_trans H.out.hs hk1.size
  have HW := Lib.hid (cnWrite2_at (w := w1.alloc (.cells #[.slice none 0 0, .slice none 0 0, .slice none 0 0, .bool false, .int .i64 0, .slice none 0 0] 84)) ⟨gs, g, m1, m2, mo, H.out.kept hk2 fun _ e => e.elim⟩ (HT.out.kept hk2 fun e => e) hG hO (by omega) (by omega) (by rw [sz_alloc]; exact Nat.le_refl _) op hop (SlK.keptNone HS.out hk2) hn (by simp) u hu)
  have HK2 := Lib.hid hk2
  have HSZ := Lib.hid hk1.size
  clear hk1 hk2 hO hh1 c8 c18
  go_wp2_with fail
  go_at_call 45
  refine HW.out.mono ?_
  rintro e w3 ⟨id, ok, x', X', rfl, ⟨gs', g', m1', m2', mo', h3⟩, ho3, hk3, hcase⟩
  have HK3 : Hid (Kept (fun k => lo ≤ k ∧ k < hi) w w3) := Lib.hid ((HK2.out.of_none (S := fun k => lo ≤ k ∧ k < hi)).trans hk3 fun k hlt e => by
    rcases e with e | e | e
    · exact e
    · have := HSZ.out; omega
    · have := HSZ.out; omega)
  have HCA := Lib.hid hcase
  cases ok with
  | false =>
    have HC3 := Lib.hid (show ConnAt w3 lo hi c x' from ⟨gs', g', m1', m2', mo', h3⟩)
    clear h3 ho3 hk3 hcase
    go_wp2_with fail
    (try simp only [Exit.inBlock, Exit.then])
    refine bodyPost_ret (v := .tuple #[.int .i64 0, .slice none 0 0, .int .i64 30]) (by simp [results, Tryz.results29, go_sem]) rfl ?_
    exact ⟨id, false, x', X', HCA.out, HK3.out, .inr ⟨rfl, rfl, HC3.out⟩⟩
  | true =>
    have hxo : x'.oth = some L := by
      rcases hcase with ⟨-, i, -, -, -, -, rfl, -⟩ | ⟨e, -⟩
      · exact hoth
      · cases e
    have c11 : w3.cell? ⟨c, 11, none⟩ = some (.map (some mo')) := by
      have := h3.blk.cell 11
      simp only [XC.C, List.getElem?_toArray, List.getElem?_cons_zero, List.getElem?_cons_succ, hxo, Option.map_some] at this
      exact this
    have hom := h3.oth L hxo
    obtain ⟨es, ck, hup, hom2⟩ := hom.run_update i64K ibM intU id true
    obtain ⟨hx1, hx2, hx3⟩ := hom.rules es ck
    obtain ⟨esO, ckO, hhO⟩ := hom.heap
    obtain ⟨Ao, no, ko, va, vn, vl, hno, hbo, hro, -, -, -, -⟩ := ho3
    have hko : Kept (fun k => k = mo') w3 (setBlock w3 mo' (.map es ck)) := (Kept.refl (fun k => k = mo') w3).setBlock (m := mo') (fun _ => rfl) _
    have hC4 : ConnIn (setBlock w3 mo' (.map es ck)) lo hi c gs' g' m1' m2' mo' { x' with oth := some (aput id true L) } := by
      refine ⟨?_, h3.spl.kept hko (fun e => h3.nc.2.1 e.symm), h3.str.kept hko (fun e => h3.nc.2.2 e.symm) (fun e => h3.n1 e.symm) (fun e => h3.n2 e.symm), ?_, h3.n1, h3.n2, h3.nc, h3.rc, h3.rs, h3.rg, h3.r1, h3.r2, h3.ro, Nat.le_trans h3.hs hko.size⟩
      · have e1 : ({ x' with oth := some (aput id true L) } : XC).C gs' g' mo' = x'.C gs' g' mo' := by
          simp only [XC.C, hxo, Option.map_some]
        rw [e1]
        exact h3.blk.kept hko (fun e => h3.nc.1 e.symm)
      · intro L2 hL2
        cases hL2
        exact hom2
    have hS4 : Sl (setBlock w3 mo' (.map es ck)) 5 1 (.slice Ao no ko) no (Lib.byteCells X') := SlK.kept (Sl.of_own hro) hko fun gg cs fz e hh => by
      have e : gg = mo' := e
      rw [e, hhO] at hh
      cases hh
    have z0 := hbo.cell 0
    simp only [List.getElem?_toArray, List.getElem?_cons_zero] at z0
    have z1 : (setBlock w3 mo' (.map es ck)).cell? ⟨w1.heap.size, 0, none⟩ = some (.slice Ao no ko) := (hx1 _).trans z0
    have HC4 := Lib.hid (show ConnAt (setBlock w3 mo' (.map es ck)) lo hi c { x' with oth := some (aput id true L) } from ⟨gs', g', m1', m2', mo', hC4⟩)
    have HS4 := Lib.hid hS4
    have HRO := Lib.hid h3.ro
    have HK4 : Hid (Kept (fun k => lo ≤ k ∧ k < hi) w (setBlock w3 mo' (.map es ck))) := Lib.hid (HK3.out.trans hko fun k _ e => by rw [show k = mo' from e]; exact HRO.out)
    have HNO := Lib.hid hno
    clear h3 hk3 hcase hom hom2 hbo hro hko hC4 hS4 hhO hx1 hx2 hx3 hxo z0
    go_wp2_with fail
    generalize setBlock w3 mo' (.map es ck) = w4 at *
    go_wp2
    go_region
    go_wp2_with fail
    have hd : Kept noBlock w4 w4.drew := (Kept.refl _ _).drew
    (try simp only [Exit.inBlock, Exit.then])
    refine bodyPost_ret (v := .tuple #[.int .i64 id, .slice Ao X'.length ko, .int .i64 0]) (by simp [results, Tryz.results29, go_sem]) rfl ?_
    exact ⟨id, true, x', X', HCA.out, HK4.out.trans hd fun _ _ e => e.elim, .inl ⟨rfl, ⟨Ao, ko, rfl, by rw [HNO.out] at HS4; exact SlK.keptNone HS4.out hd⟩, HC4.out.keptN hd⟩⟩
set_option maxHeartbeats 1000000 in
set_option maxRecDepth 100000 in
theorem cnCounts_at {w : World} {lo hi c : Nat} {x : XC} (h : ConnAt w lo hi c x) : Calls Tryz.prog 48 #[.pointer (some ⟨c, 0, none⟩)] w fun e w' => e = .returned (.tuple #[.int .i64 (x.ss.n - x.ss.asked.length - x.ss.orph.length), .int .i64 x.ss.asked.length, .int .i64 x.ss.orph.length]) ∧ Kept noBlock w w' := by
  obtain ⟨gs, g, m1, m2, mo, h⟩ := h
  have c10 : w.cell? ⟨c, 10, none⟩ = some (.pointer (some ⟨g, 0, none⟩)) := h.blk.cell 10
  have HC := Lib.hid (Counts_at h.str)
  generalize (x.ss.n - x.ss.asked.length - x.ss.orph.length : Int) = v1 at *
  generalize x.ss.asked.length = v2 at *
  generalize x.ss.orph.length = v3 at *
  clear h
  go_enter Tryz.func48, Tryz.ntmps48
  go_wp2_with fail
  go_at_call 55
  refine HC.out.mono ?_
  rintro e w1 ⟨rfl, n, hw1⟩
  have HK : Hid (Kept noBlock w w1) := Lib.hid (by rw [hw1]; exact (Kept.refl _ _).drewN n)
  clear hw1
  go_wp2
  (try simp only [Exit.inBlock, Exit.then])
  refine bodyPost_ret (v := .tuple #[.int .i64 v1, .int .i64 v2, .int .i64 v3]) (by simp [results, Tryz.results48, go_sem]) rfl ?_
  exact ⟨rfl, HK.out⟩
end Go.Proofs.YtfnjoceolcdeoaaGreatDoor
namespace Go.Proofs.YtfnjoceolcdeoaaGreatDoor
set_option linter.unusedVariables false
open Go.RowKit
open Go.ChangeMaps (setBlock)

def opn (q : Int × CN) : Bool := q.2.x.state == 6 && !q.2.x.drain
def ldOf (q : Int × CN) : Ld := ((q.2.x.ss.asked.length : Int) + (q.2.x.ss.orph.length : Int), q.1)
def ldL (L : List (Int × CN)) : List Ld := (L.filter opn).map ldOf
theorem loadsT : SlT Tryz.prog 90 93 (.agg #[.int .i64 0, .int .i64 0]) 2 16 := ⟨Tryz.underlying90, by kernel_rfl, rfl, by decide, by decide⟩
theorem ldL_no {L : List (Int × CN)} {q : Int × CN} (h : opn q = false) : ldL (L ++ [q]) = ldL L := by simp [ldL, h]
theorem ldL_yes {L : List (Int × CN)} {q : Int × CN} (h : opn q = true) : ldL (L ++ [q]) = ldL L ++ [ldOf q] := by simp [ldL, h]
theorem ldL_perm {L L' : List (Int × CN)} (h : L.Perm L') : (ldL L).Perm (ldL L') := (h.filter _).map _
theorem ldL_len (L : List (Int × CN)) : (ldL L).length ≤ L.length := by
  unfold ldL
  rw [List.length_map]
  exact List.length_filter_le _ _
theorem ldC_one (p : Ld) : ∀ u ∈ ldC p, u.oneCell' = true := by
  intro u hu
  simp only [ldC, List.mem_cons, List.not_mem_nil, or_false] at hu
  rcases hu with rfl | rfl <;> rfl

set_option maxHeartbeats 8000000 in
set_option maxRecDepth 100000 in
theorem poUsable_at {w : World} {p m : Nat} {x : XP} {L : List (Int × CN)} (h : PoolAt w p m x L) (hLl : L.length ≤ 1000) :
    Calls Tryz.prog 28 #[.pointer (some ⟨p, 0, none⟩)] w fun e w' => ∃ v, ∃ S : List Ld, e = .returned v ∧ S.Perm (ldL L) ∧ S.Pairwise (fun a b => a.1 < b.1 ∨ a.1 = b.1 ∧ a.2 ≤ b.2) ∧ SlK w' (fun g _ => w.heap.size ≤ g) 2 v S.length (S.flatMap ldC) ∧ Kept noBlock w w' := by
  have c13 : w.cell? ⟨p, 13, none⟩ = some (.map (some m)) := h.blk.cell 13
  obtain ⟨es, ck, hh, hst, hL⟩ := id h.map
  have hlt := lt_of_heap hh
  have hrg := run_range_map (P := Tryz.prog) w 76 3 71 m es ck imcM hh
  have hlen : es.toList.length = L.length := by have := congrArg List.length hL; simpa using this
  have H := Lib.hid h
  have HL := Lib.hid hL
  have HST := Lib.hid hst
  have HLEN := Lib.hid hlen
  clear hL hst h hlen
  go_enter Tryz.func28, Tryz.ntmps28
  go_wp2
  generalize hR : w.heap.size = R at *
  go_loopw [3] (fun v3 wr => ∃ seen c0, ∃ X : List Ld, wr.ownsRow R 93 2 v3 X.length (X.flatMap ldC) ∧ X.Perm (ldL (visG seen es.toList L)) ∧ Kept noBlock w wr ∧ wr.heap[R]? = some (.mapIter (some m) ck seen c0) ∧ ck ≤ c0) (fun _ wr => (leftOf es (wr.iterSeen R)).size)
  case atStart => exact ⟨#[], ck, [], World.ownsRow_nil _ _ _ _, by rw [visG_none]; exact List.Perm.nil, (Kept.refl _ _).alloc _, by subst hR; exact heap_alloc_new w _, Nat.le_refl _⟩
  case round =>
    obtain ⟨seen, c0, X, hown, hperm, hk, hr, hc0⟩ := hrel
    have hb1 : wr.heap[m]? = some (.map es ck) := (hk.block m (by rw [hR]; exact hlt) (fun h => h)).trans hh
    have law := run_next_at (P := Tryz.prog) wr 0 R m ck c0 seen es ck hr hb1 HST.out.1 hc0
    have HK := Lib.hid hk
    have HO := Lib.hid hown
    have HPE := Lib.hid hperm
    have hXl : X.length ≤ 1000 := by
      have h1 := hperm.length_eq
      have h2 := ldL_len (visG seen es.toList L)
      have h3 := visG_len (seen := seen) es.toList L
      omega
    rcases law with ⟨h0, hrun⟩ | ⟨e, he, w1, hw1, hrun⟩
    · have hnx : ∀ ty, (Instr.next (.pointer (some ⟨R, 0, none⟩)) false ty).run Tryz.prog wr = _ := fun _ => hrun
      have hvis : visG seen es.toList L = L := visG_all es.toList L HLEN.out (all_seen es seen h0)
      rw [hvis] at HPE
      have HS := Lib.hid (LSort_at hown (by omega))
      clear hk hr hb1 hrg c13 hown hperm hvis
      go_wp2_with fail
      go_at_call 49
      refine HS.out.mono ?_
      rintro e w5 ⟨rfl, S, hSp, hSs, hSl, hk5⟩
      have HF : Hid (S.Perm (ldL L) ∧ S.Pairwise (fun a b => a.1 < b.1 ∨ a.1 = b.1 ∧ a.2 ≤ b.2) ∧ SlK w5 (fun g _ => R ≤ g) 2 u3 S.length (S.flatMap ldC) ∧ Kept noBlock w w5) := Lib.hid ⟨hSp.trans HPE.out, hSs, by rw [hSp.length_eq]; exact hSl, HK.out.trans hk5 fun k hlt e => by
        obtain ⟨h1, -⟩ := own_type HO.out e
        omega⟩
      clear hSp hSs hSl hk5 HO
      go_wp2
      go_ret
      rw [hR]
      exact ⟨_, S, rfl, HF.out⟩
    · have hem := mem_left he
      obtain ⟨i, q, hei, hqi, hkey, hv⟩ : ∃ (i : Nat) (q : Int × CN), es.toList[i]? = some e ∧ L[i]? = some q ∧ e.key = Value.int .i64 q.1 ∧ e.val = cnV q.2 := by
        obtain ⟨i, hi⟩ := List.getElem?_of_mem hem.1
        have h1 := congrArg (fun l => l[i]?) HL.out
        simp only [List.getElem?_map, hi, Option.map_some] at h1
        cases hp : L[i]? with
        | none => rw [hp] at h1; simp at h1
        | some q =>
          rw [hp] at h1
          simp only [Option.map_some, Option.some.injEq, Prod.mk.injEq] at h1
          exact ⟨i, q, hi, hp, h1.1, h1.2⟩
      have hq : q ∈ L := List.mem_of_getElem? hqi
      unfold cnV at hv
      rw [hv, hkey] at hrun
      have hnx : ∀ ty, (Instr.next (.pointer (some ⟨R, 0, none⟩)) false ty).run Tryz.prog wr = _ := fun _ => hrun
      have hst1 := visG_step es.toList L i HST.out.2.1 hei hqi hem.2
      have hk1 : Kept noBlock w w1 := by
        rcases hw1 with rfl | rfl
        · exact hk
        · exact hk.drew
      have ho1 : w1.ownsRow R 93 2 u3 X.length (X.flatMap ldC) := by
        rcases hw1 with rfl | rfl
        · exact hown
        · exact own_kept hown ((Kept.refl noBlock _).drew) (fun _ _ e => e.elim)
      have hr1 : w1.heap[R]? = some (.mapIter (some m) ck seen c0) := by rcases hw1 with rfl | rfl <;> exact hr
      have hk2 : Kept noBlock w (setBlock w1 R (.mapIter (some m) ck (seen.push e.born) ck)) := hk1.setBlock (fun h => absurd h (by rw [hR]; exact Nat.lt_irrefl _)) _
      have ho2 : (setBlock w1 R (.mapIter (some m) ck (seen.push e.born) ck)).ownsRow R 93 2 u3 X.length (X.flatMap ldC) := own_kept ho1 ((Kept.refl (fun k => k = R) w1).setBlock (m := R) (fun _ => rfl) _) (fun g cs e2 _ hh2 => by
        have e2 : g = R := e2
        rw [e2, hr1] at hh2
        cases hh2)
      have hr2 : (setBlock w1 R (.mapIter (some m) ck (seen.push e.born) ck)).heap[R]? = some (.mapIter (some m) ck (seen.push e.born) ck) := heap_setBlock_selfP (lt_of_heap hr1) _
      have hb2 := (hk2.block m (by rw [hR]; exact hlt) (fun h => h)).trans hh
      have hen := run_entry_at (P := Tryz.prog) (setBlock w1 R (.mapIter (some m) ck (seen.push e.born) ck)) R m ck seen es ck e hr2 hb2 hem.1 HST.out.2.1
      rw [hv, hkey] at hen
      have HK2 := Lib.hid hk2
      have HR2 := Lib.hid hr2
      have HR := Lib.hid hr
      have HO2 := Lib.hid ho2
      have HV1 := Lib.hid hst1
      clear hk hk1 hk2 hr1 hr2 hb2 hb1 hr hrg c13 hown hperm ho1 ho2 hst1 HO
      generalize setBlock w1 R (.mapIter (some m) ck (seen.push e.born) ck) = w2 at *
      have hcon := (H.out.keptN HK2.out).con q hq
      have HS := Lib.hid (cnState_at hcon)
      have HOP : Hid (opn q = (q.2.x.state == 6 && !q.2.x.drain)) := Lib.hid rfl
      have HLD : Hid (ldOf q = ((q.2.x.ss.asked.length : Int) + (q.2.x.ss.orph.length : Int), q.1)) := Lib.hid rfl
      have HCO := Lib.hid hcon
      clear hcon
      generalize q.2.x.state = s6 at *
      generalize q.2.x.drain = d6 at *
      by_cases h6 : s6 = 6
      · subst h6
        cases d6 with
        | true =>
          have hno : opn q = false := by rw [HOP.out]; rfl
          go_wp2_with fail
          go_at_call 30
          refine HS.out.mono ?_
          rintro e3 w5 ⟨rfl, hk5⟩
          have HK5 := Lib.hid hk5
          clear hk5
          go_wp2_with fail
          go_roundw
          case rel =>
            have hR5 : w5.heap[R]? = some (.mapIter (some m) ck (seen.push e.born) ck) := (HK5.out.block R (lt_of_heap HR2.out) (fun e => e)).trans HR2.out
            exact ⟨seen.push e.born, ck, X, own_kept HO2.out HK5.out (fun _ _ e => e.elim), HPE.out.trans (by rw [← ldL_no (L := visG seen es.toList L) hno]; exact ldL_perm HV1.out.symm), HK2.out.trans HK5.out fun _ _ e => e, hR5, Nat.le_refl _⟩
          case measure =>
            have hR5 : w5.heap[R]? = some (.mapIter (some m) ck (seen.push e.born) ck) := (HK5.out.block R (lt_of_heap HR2.out) (fun e => e)).trans HR2.out
            rw [iterSeen_eqP hR5, iterSeen_eqP HR.out]
            exact left_shrinks es seen e he
        | false =>
          have hyes : opn q = true := by rw [HOP.out]; rfl
          go_wp2_with fail
          go_at_call 30
          refine HS.out.mono ?_
          rintro e3 w5 ⟨rfl, hk5⟩
          have HC := Lib.hid (cnCounts_at (HCO.out.keptN hk5))
          have HK5 := Lib.hid hk5
          have hb : (q.2.x.ss.asked.length : Int) + (q.2.x.ss.orph.length : Int) ≤ 32768 := by
            obtain ⟨gs, g, m1, m2, mo, h⟩ := HCO.out
            have := h.str.ok.count
            have := h.str.ok.n2
            omega
          clear hk5
          obtain ⟨qid, qc⟩ := q
          simp only [] at HLD hb HC
          generalize qc.x.ss.asked.length = ak at *
          generalize qc.x.ss.orph.length = ok at *
          generalize (qc.x.ss.n - (ak : Int) - (ok : Int)) = fr at *
          go_wp2_with fail
          go_at_call 48
          refine HC.out.mono ?_
          rintro e4 w6 ⟨rfl, hk6⟩
          have HO6 := Lib.hid (own_kept (own_kept HO2.out HK5.out (fun _ _ e => e.elim)) hk6 (fun _ _ e => e.elim))
          have HK6 := Lib.hid (HK5.out.trans hk6 fun _ _ e => e)
          have hsz : R ≤ w6.heap.size := by have h1 := HK6.out.size; have h2 := HK2.out.size; omega
          clear hk6
          obtain ⟨Av, cv, rfl⟩ : ∃ Av cv, u3 = .slice Av X.length cv := by
            obtain ⟨A, c, h1, -, -⟩ := (Sl.of_own HO6.out).shape
            exact ⟨A, c, h1⟩
          have HOA := Lib.hid (own_kept HO6.out ((Kept.refl noBlock w6).alloc (.cells #[.int .i64 ((ak : Int) + (ok : Int)), .int .i64 qid] 93)) (fun _ _ e => e.elim))
          go_wp2_with (at_builtin; go_must (refine wpList_append_sl _ loadsT rfl (.tmp 37) (.tmp 43) rfl R _ X.length (X.flatMap ldC) rfl HOA.out _ 1 (ldC ((ak : Int) + (ok : Int), qid)) rfl (Sl.made_at (sz := 2) (n := 1) (Blk.new w6 93 #[.int .i64 ((ak : Int) + (ok : Int)), .int .i64 qid]) _ rfl rfl (by decide)) (ldC_one _) ?c1 ?c2 ?_))
          case c1 => omega
          case c2 => rw [sz_alloc]; omega
          intro v' W8 hap
          have hka : Kept noBlock w (w6.alloc (.cells #[.int .i64 ((ak : Int) + (ok : Int)), .int .i64 qid] 93)) := (HK2.out.trans HK6.out fun _ _ e => e).alloc _
          have hRa : (w6.alloc (.cells #[.int .i64 ((ak : Int) + (ok : Int)), .int .i64 qid] 93)).heap[R]? = some (.mapIter (some m) ck (seen.push e.born) ck) := ((HK6.out.alloc _).block R (lt_of_heap HR2.out) (fun e => e)).trans HR2.out
          have hR8 : W8.heap[R]? = some (.mapIter (some m) ck (seen.push e.born) ck) := (hap.kept.block R (lt_of_heap hRa) fun e2 => by
            obtain ⟨-, cs, h2⟩ := own_type HOA.out e2
            rw [hRa] at h2
            cases h2).trans hRa
          have HK8 : Hid (Kept noBlock w W8) := Lib.hid (hka.trans hap.kept fun k hlt e2 => by
            obtain ⟨h1, -⟩ := own_type HOA.out e2
            omega)
          have HR8 := Lib.hid hR8
          have HO8 : Hid (W8.ownsRow R 93 2 v' (X ++ [((ak : Int) + (ok : Int), qid)]).length ((X ++ [((ak : Int) + (ok : Int), qid)]).flatMap ldC)) := Lib.hid (by
            have h1 := hap.own
            rw [List.length_append, List.flatMap_append]
            simpa using h1)
          clear hka hRa hR8 hap
          go_wp2_with fail
          go_roundw
          case rel => exact ⟨seen.push e.born, ck, _, HO8.out, by
            have h1 := ldL_perm HV1.out
            rw [ldL_yes hyes, HLD.out] at h1
            exact (HPE.out.append_right _).trans h1.symm, HK8.out, HR8.out, Nat.le_refl _⟩
          case measure =>
            rw [iterSeen_eqP HR8.out, iterSeen_eqP HR.out]
            exact left_shrinks es seen e he
      · have hno : opn q = false := by
          rw [HOP.out]
          have : (s6 == 6) = false := by rw [beq_eq_false_iff_ne]; exact h6
          rw [this]; rfl
        have h6b : (s6 == 6) = false := by rw [beq_eq_false_iff_ne]; exact h6
        have h6n : (s6 != 6) = true := by simp [bne, h6b]
        go_wp2_with fail
        go_at_call 30
        refine HS.out.mono ?_
        rintro e3 w5 ⟨rfl, hk5⟩
        have HK5 := Lib.hid hk5
        clear hk5
        go_wp2_with fail
        go_roundw
        case rel =>
          have hR5 : w5.heap[R]? = some (.mapIter (some m) ck (seen.push e.born) ck) := (HK5.out.block R (lt_of_heap HR2.out) (fun e => e)).trans HR2.out
          exact ⟨seen.push e.born, ck, X, own_kept HO2.out HK5.out (fun _ _ e => e.elim), HPE.out.trans (by rw [← ldL_no (L := visG seen es.toList L) hno]; exact ldL_perm HV1.out.symm), HK2.out.trans HK5.out fun _ _ e => e, hR5, Nat.le_refl _⟩
        case measure =>
          have hR5 : w5.heap[R]? = some (.mapIter (some m) ck (seen.push e.born) ck) := (HK5.out.block R (lt_of_heap HR2.out) (fun e => e)).trans HR2.out
          rw [iterSeen_eqP hR5, iterSeen_eqP HR.out]
          exact left_shrinks es seen e he
end Go.Proofs.YtfnjoceolcdeoaaGreatDoor
namespace Go.Proofs.YtfnjoceolcdeoaaGreatDoor
set_option linter.unusedVariables false
open Go.RowKit
open Go.ChangeMaps (setBlock)

theorem head_min {S X : List Ld} (hp : S.Perm X) (hs : S.Pairwise (fun a b => a.1 < b.1 ∨ a.1 = b.1 ∧ a.2 ≤ b.2)) {a : Ld} (ha : a ∈ X) (hm : ∀ b ∈ X, a.1 < b.1 ∨ a.1 = b.1 ∧ a.2 ≤ b.2) : ∃ t, S = a :: t := by
  cases S with
  | nil => exact absurd (hp.symm.subset ha) List.not_mem_nil
  | cons b t =>
    have h1 := hm b (hp.subset (.head _))
    have h2 : b = a ∨ (b.1 < a.1 ∨ b.1 = a.1 ∧ b.2 ≤ a.2) := by
      cases hp.symm.subset ha with
      | head => exact .inl rfl
      | tail _ h => exact .inr ((List.pairwise_cons.1 hs).1 a h)
    have : b = a := by
      rcases h2 with h2 | h2
      · exact h2
      · exact Prod.ext (by omega) (by omega)
    exact ⟨t, by rw [this]⟩
/-- The connections' own blocks. -/
def conS (L : List (Int × CN)) (k : Nat) : Prop := ∃ r ∈ L, r.2.lo ≤ k ∧ k < r.2.hi
theorem PoolAt.conP {w : World} {p m : Nat} {x : XP} {L : List (Int × CN)} (h : PoolAt w p m x L) : ¬ conS L p ∧ ¬ conS L m := by
  constructor
  · rintro ⟨r, hr, h1, -⟩
    have := (h.low r hr).1
    omega
  · rintro ⟨r, hr, h1, -⟩
    have := (h.low r hr).2
    omega
theorem PoolAt.look {w w' : World} {p m : Nat} {x : XP} {L : List (Int × CN)} (h : PoolAt w p m x L) (hk : Kept (conS L) w w') {id : Int} {q : CN} (hq : aget id L = some q) :
    w'.cell? ⟨p, 13, none⟩ = some (.map (some m)) ∧ ∀ mt, mt = 76 → (Instr.lookup mt (.map (some m)) (.int .i64 id) false).run Tryz.prog w' = .ok (.pointer (some ⟨q.c, 0, none⟩)) w' := by
  refine ⟨(h.blk.kept hk h.conP.1).cell 13, fun mt hmt => ?_⟩
  subst hmt
  have hl := (h.map.kept hk h.conP.2).run_lookup i64K imcM intU (zero_ptr w') id false
  rw [hq] at hl
  simp only [Bool.false_eq_true, if_false, Option.map_some, Option.getD_some] at hl
  exact hl

/-- Behind a Send that a connection took. -/
def SndPost (w : World) (p m : Nat) (x : XP) (L : List (Int × CN)) (id : Int) (q : CN) (Lo : List (Int × Bool)) (op : UInt8) (l : List UInt8) (u : Int) (e : Ending) (w' : World) : Prop :=
  ∃ (i : Nat) (A' : Option Addr) (n' k' : Nat), e = .returned (.tuple #[.int .i64 id, .int .i64 i, .slice A' n' k', .int .i64 0]) ∧ n' = (hdrB i op l.length ++ l).length ∧
      ((i : Int) < q.x.ss.n ∧ q.x.ss.owed (i : Int) = false ∧ ∀ j : Nat, j < i → q.x.ss.owed (j : Int) = true) ∧ PoolAt w' p m x (L.map (updAt id { q.x with ss := q.x.ss.take i u, oth := some (aput (i : Int) true Lo) })) ∧ Kept (poolS p m L) w w'

set_option maxHeartbeats 8000000 in
set_option maxRecDepth 100000 in
theorem poSend_first {w : World} {p m : Nat} {x : XP} {L : List (Int × CN)} (h : PoolAt w p m x L) (hLl : L.length ≤ 1000) {id : Int} {q : CN} (hq : aget id L = some q) (hst : q.x.state = 6) (hdr : q.x.drain = false) {Lo : List (Int × Bool)} (hoth : q.x.oth = some Lo)
    (hroom : ∃ j : Nat, (j : Int) < q.x.ss.n ∧ q.x.ss.owed (j : Int) = false) (hmin : ∀ r ∈ L, opn r = true → (ldOf (id, q)).1 < (ldOf r).1 ∨ (ldOf (id, q)).1 = (ldOf r).1 ∧ id ≤ r.1)
    (op : UInt8) (hop : op ∈ reqOps) {A : Option Addr} {n k : Nat} {l : List UInt8} (hs : Sl w 5 1 (.slice A n k) n (Lib.byteCells l)) (hn : n ≤ 1048576) (now u : Int) (hu : 0 ≤ u ∧ u < 18446744073709551616) :
    Calls Tryz.prog 15 #[.pointer (some ⟨p, 0, none⟩), .int .u8 (op.toNat : Int), .slice A n k, .int .u64 now, .int .u64 u] w (SndPost w p m x L id q Lo op l u) := by
  have hmem : (id, q) ∈ L := aget_mem hq
  have hld : ldOf (id, q) ∈ ldL L := List.mem_map.2 ⟨(id, q), List.mem_filter.2 ⟨hmem, by unfold opn; simp [hst, hdr]⟩, rfl⟩
  have hmin2 : ∀ b ∈ ldL L, (ldOf (id, q)).1 < b.1 ∨ (ldOf (id, q)).1 = b.1 ∧ (ldOf (id, q)).2 ≤ b.2 := by
    intro b hb
    obtain ⟨r, hr, rfl⟩ := List.mem_map.1 hb
    exact hmin r (List.mem_filter.1 hr).1 (List.mem_filter.1 hr).2
  have hwr : IntKind.i64.wrap id = id := by
    have := h.rng _ hmem
    have := h.few
    simp [IntKind.wrap, IntKind.bits, IntKind.signed]; omega
  have HU := Lib.hid (poUsable_at h hLl)
  have H := Lib.hid h
  have HS := Lib.hid hs
  have HME := Lib.hid hmem
  have hll : l.length = n := by have := hs.len; unfold Lib.byteCells at this; rw [List.length_map, Nat.mul_one] at this; exact this
  clear h hs hmem hmin
  go_enter Tryz.func15, Tryz.ntmps15
  go_wp2_with fail
  go_at_call 28
  refine HU.out.mono ?_
  rintro e w1 ⟨v, S, rfl, hp, hso, hsl, hk1⟩
  obtain ⟨t, rfl⟩ := head_min hp hso hld hmin2
  have H1 := Lib.hid (H.out.keptN hk1)
  have HS1 := Lib.hid (SlK.keptNone HS.out hk1)
  have HK1 := Lib.hid hk1
  obtain ⟨A1, c1, rfl, -, -⟩ := hsl.shape
  have hlen := hsl.run_len loadsT
  obtain ⟨g0, off0, hidx, -, -, hcl⟩ := hsl.run_index loadsT (i := (0 : Int)) (k := 0) rfl (by simp)
  have y0 : w1.cell? ⟨g0, off0, none⟩ = some (.int .i64 (ldOf (id, q)).1) := hcl 0 _ rfl
  have y1 : w1.cell? ⟨g0, off0 + 1, none⟩ = some (.int .i64 id) := hcl 1 _ rfl
  have hn1 : 0 < (ldOf (id, q) :: t).length := by simp
  generalize (ldOf (id, q) :: t).length = N at *
  generalize (ldOf (id, q)).1 = lv at *
  clear hp hso hsl hk1 hcl hld hmin2
  go_wp2_with fail
  go_loopg [29] 0 (fun j v29 wr => v29 = .int .i64 0 ∧ wr = w1)
  case atStart => exact ⟨rfl, rfl⟩
  case round =>
    obtain ⟨rfl, hwr1⟩ := hrel
    rw [hwr1]
    clear hwr1
    have hd0 : decide ((0 : Int) < (N : Int)) = true := decide_eq_true (by omega)
    go_wp2_with fail
    have HX := Lib.hid (Blk.new w1 93 #[.int .i64 lv, .int .i64 id])
    have hka : Kept noBlock w1 (w1.alloc (.cells #[.int .i64 lv, .int .i64 id] 93)) := (Kept.refl noBlock w1).alloc _
    have H2 := Lib.hid (H1.out.keptN hka)
    have HS2 := Lib.hid (SlK.keptNone HS1.out hka)
    have HK2 := Lib.hid (HK1.out.trans hka fun _ _ e => e)
    have hXn : ¬ conS L w1.heap.size := by
      rintro ⟨r, hr, h1, h2⟩
      have := (H1.out.con r hr).rc
      omega
    have HXN := Lib.hid hXn
    clear hka y0 y1 hidx hXn
    generalize w1.alloc (.cells #[.int .i64 lv, .int .i64 id] 93) = W2 at *
    generalize w1.heap.size = X at *
    refine wp_region_sch (fun w' => Kept (conS L) W2 w') (.take 0 (.take 1 (.take 2 (.take 3 (.take 4 (.take 5 (.take 6 (.take 7 (.take 8 (.take 9 (.take 10 (.one 11 (.take 12 (.take 13 (.take 14 (.take 15 (.take 16 (.take 17 (.take 18 .nil))))))))))))))))))) (by kernel_rfl) (by kernel_rfl) (by kernel_rfl) (Kept.refl _ _).drew ?_
    repeat (first
      | (refine sch_takeE rfl rfl ?_
         apply Exists.intro
         refine ⟨fun w' hS => ?_, fun K hK => ?_⟩
         · (have q13 := (H2.out.look hS hq).1
            have qlk := (H2.out.look hS hq).2 _ rfl
            have qx1 := (HX.out.kept hS HXN.out).cell 1
            simp only [List.getElem?_toArray, List.getElem?_cons_zero, List.getElem?_cons_succ] at qx1
            clear hS
            unfold takesAt; go_simp; rfl)
         go_simp
         refine hK _ ?_
         clear hK K))
    have hC2 := H2.out.con _ HME.out
    have HSD := Lib.hid (cnSend_open (w := W2.drew) (hC2.keptN (Kept.refl _ _).drew) hst hdr hoth (H2.out.tab.kept ((Kept.refl noBlock W2).drew) (fun e => e)) (Nat.lt_trans H2.out.glp.2 (H2.out.low _ HME.out).1) op hop (SlK.keptNone HS2.out (Kept.refl _ _).drew) hn now u hu)
    clear hC2
    refine sch_doK rfl rfl (fun K hK => ?_)
    go_simp
    go_at_call 29
    refine HSD.out.mono ?_
    rintro e w3 ⟨sid, ok, x', X', hcase, hk3, hres⟩
    have hok : ok = true := by
      cases ok
      · rcases hcase with ⟨e, -⟩ | ⟨-, -, -, -, hall⟩
        · cases e
        · obtain ⟨j, hj1, hj2⟩ := hroom
          rw [hall j hj1] at hj2
          cases hj2
      · rfl
    subst hok
    obtain ⟨-, i, rfl, hi1, hi2, hi3, rfl, rfl⟩ := hcase.resolve_right (by rintro ⟨e, -⟩; cases e)
    obtain ⟨-, ⟨A3, k3, rfl, hs3⟩, hc3⟩ := hres.resolve_right (by rintro ⟨e, -⟩; cases e)
    have hkc : Kept (conS L) W2 w3 := ((Kept.refl (conS L) W2).drew).trans hk3 fun k _ e => ⟨_, HME.out, e⟩
    have HP3 := Lib.hid ((H2.out.keptN (Kept.refl _ _).drew).upd HME.out hk3 hc3)
    have HK3 : Hid (Kept (poolS p m L) w w3) := Lib.hid ((HK2.out.of_none (S := poolS p m L)).trans hkc fun k _ e => .inr (.inr e))
    have HI := Lib.hid (⟨hi1, hi2, hi3⟩ : (i : Int) < q.x.ss.n ∧ q.x.ss.owed (i : Int) = false ∧ ∀ j : Nat, j < i → q.x.ss.owed (j : Int) = true)
    have HX3 := Lib.hid (HX.out.kept hkc HXN.out)
    refine hK _ _ hkc ?_
    clear hK K hk3 hc3 hs3 hi1 hi2 hi3 hkc
    rw [List.nil_append]
    generalize hnX : (hdrB i op l.length ++ l).length = nX at *
    repeat (first
      | (refine sch_takeE rfl rfl ?_
         apply Exists.intro
         refine ⟨fun w' hS => ?_, fun K hK => ?_⟩
         · (clear hS
            unfold takesAt; go_simp; rfl)
         go_simp
         refine hK _ ?_
         clear hK K))
    refine sch_nil (NoPanic.normal ?_)
    have qx1 := HX3.out.cell 1
    simp only [List.getElem?_toArray, List.getElem?_cons_zero, List.getElem?_cons_succ] at qx1
    go_wp2_with fail
    (try simp only [Exit.inBlock, Exit.then])
    refine bodyPost_ret (v := .tuple #[.int .i64 id, .int .i64 (i : Int), .slice A3 nX k3, .int .i64 0]) (by simp [results, Tryz.results15, go_sem]) rfl ?_
    exact ⟨i, A3, nX, k3, rfl, hnX.symm, HI.out, HP3.out, HK3.out⟩
end Go.Proofs.YtfnjoceolcdeoaaGreatDoor
namespace Go.Proofs.YtfnjoceolcdeoaaGreatDoor
set_option linter.unusedVariables false
open Go.RowKit
open Go.ChangeMaps (setBlock)

theorem updAt_id {L : List (Int × CN)} {id : Int} {q : CN} (hu : ∀ r ∈ L, r.1 = id → r = (id, q)) : L.map (updAt id q.x) = L := by
  conv => rhs; rw [← List.map_id L]
  apply List.map_congr_left
  intro r hr
  unfold updAt
  split
  · next e => rw [hu r hr e]; rfl
  · rfl
theorem PoolAt.uniq {w : World} {p m : Nat} {x : XP} {L : List (Int × CN)} (h : PoolAt w p m x L) {id : Int} {q : CN} (hq : (id, q) ∈ L) : ∀ r ∈ L, r.1 = id → r = (id, q) := by
  intro r hr e
  rcases pair_or (List.pairwise_map.1 h.asc) hr hq with h1 | h1 | h1
  · exact h1
  · exact absurd e (by have : r.1 < id := h1; omega)
  · exact absurd e (by have : id < r.1 := h1; omega)
theorem aget_of {L : List (Int × CN)} {id : Int} {q : CN} (hq : (id, q) ∈ L) (hu : ∀ r ∈ L, r.1 = id → r = (id, q)) : aget id L = some q := by
  induction L with
  | nil => cases hq
  | cons a t ih =>
    obtain ⟨k, v⟩ := a
    unfold aget
    split
    · next e =>
      have e2 := hu (k, v) (.head _) (by show k = id; first | exact e | exact e.symm)
      injection e2 with _ e3
      rw [e3]
    · next e =>
      cases hq with
      | head => exact absurd rfl (by first | exact e | exact fun h => e h.symm)
      | tail _ h => exact ih h fun r hr => hu r (.tail _ hr)
def XP.more (x : XP) (n : Nat) : XP := if x.wanted < x.most ∧ x.wanted ≤ (n : Int) then { x with wanted := x.wanted + 1 } else x
def BusyPost (w : World) (p m : Nat) (x : XP) (L : List (Int × CN)) (e : Ending) (w' : World) : Prop :=
  e = .returned (.tuple #[.int .i64 0, .int .i64 0, .slice none 0 0, .int .i64 30]) ∧ PoolAt w' p m (x.more L.length) L ∧ Kept (poolS p m L) w w'
set_option maxHeartbeats 8000000 in
set_option maxRecDepth 100000 in
theorem poSend_busy {w : World} {p m : Nat} {x : XP} {L : List (Int × CN)} (h : PoolAt w p m x L) (hLl : L.length ≤ 1000) (hsome : ∃ r ∈ L, opn r = true) (hfull : ∀ r ∈ L, opn r = true → (∃ Lo, r.2.x.oth = some Lo) ∧ ∀ j : Nat, (j : Int) < r.2.x.ss.n → r.2.x.ss.owed (j : Int) = true)
    (hw0 : 0 ≤ x.wanted) (hw1 : x.wanted ≤ 1000) (op : UInt8) (hop : op ∈ reqOps) {A : Option Addr} {n k : Nat} {l : List UInt8} (hs : ∀ W : World, Sl W 5 1 (.slice A n k) n (Lib.byteCells l)) (hn : n ≤ 1048576) (now u : Int) (hu : 0 ≤ u ∧ u < 18446744073709551616) :
    Calls Tryz.prog 15 #[.pointer (some ⟨p, 0, none⟩), .int .u8 (op.toNat : Int), .slice A n k, .int .u64 now, .int .u64 u] w (BusyPost w p m x L) := by
  have HU := Lib.hid (poUsable_at h hLl)
  have H := Lib.hid h
  have HS := Lib.hid hs
  have HSO : Hid (0 < (ldL L).length) := Lib.hid (by
    obtain ⟨r, hr, ho⟩ := hsome
    exact List.length_pos_of_mem (List.mem_map.2 ⟨r, List.mem_filter.2 ⟨hr, ho⟩, rfl⟩))
  have HFU := Lib.hid hfull
  clear h hs hsome hfull
  go_enter Tryz.func15, Tryz.ntmps15
  go_wp2_with fail
  go_at_call 28
  refine HU.out.mono ?_
  rintro e w1 ⟨v, S, rfl, hp, hso, hsl, hk1⟩
  have hSN : 0 < S.length := by rw [hp.length_eq]; exact HSO.out
  have hSl : S.length ≤ 1000 := by rw [hp.length_eq]; exact Nat.le_trans (ldL_len L) hLl
  have HPE := Lib.hid hp
  have H1 := Lib.hid (H.out.keptN hk1)
  have HSL := Lib.hid hsl
  have HK1 := Lib.hid hk1
  obtain ⟨A1, c1, rfl, -, -⟩ := hsl.shape
  have hlen := hsl.run_len loadsT
  generalize hN : S.length = N at *
  have HN := Lib.hid hN
  have hNz : ((N : Int) == 0) = false := by rw [beq_eq_false_iff_ne]; omega
  clear hp hso hsl hk1 hN
  go_wp2_with fail
  go_loopg [29] N (fun j v29 wr => ∃ i : Nat, i + j = N ∧ v29 = .int .i64 i ∧ PoolAt wr p m x L ∧ Kept (conS L) w1 wr)
  case atStart => exact ⟨0, by omega, rfl, H1.out, Kept.refl _ _⟩
  case round =>
    obtain ⟨i, hij, rfl, hpo, hkr⟩ := hrel
    have HPO := Lib.hid hpo
    have HKR := Lib.hid hkr
    have HIJ := Lib.hid hij
    by_cases hi : i < N
    · obtain ⟨a, ha⟩ : ∃ a, S[i]? = some a := ⟨_, List.getElem?_eq_getElem (by rw [HN.out]; exact hi)⟩
      obtain ⟨r, hr, hra⟩ := List.mem_map.1 (HPE.out.subset (List.mem_of_getElem? ha))
      have hrL := (List.mem_filter.1 hr).1
      have hro := (List.mem_filter.1 hr).2
      obtain ⟨⟨Lo, hoth⟩, hall⟩ := HFU.out r hrL hro
      obtain ⟨id, q⟩ := r
      have hst : q.x.state = 6 ∧ q.x.drain = false := by
        have : (q.x.state == 6 && !q.x.drain) = true := hro
        simpa using this
      have hun := HPO.out.uniq hrL
      have hq := aget_of hrL hun
      have hsl1 : SlK wr (fun g _ => w.heap.size ≤ g) 2 (.slice A1 N c1) N (S.flatMap ldC) := by
        have h1 := HSL.out
        exact h1.keptAll hkr fun g _ hg e => by
          obtain ⟨r, hr, h2, h3⟩ := e
          have := (H.out.con r hr).rc
          omega
      obtain ⟨g0, off0, hidx, -, -, hcl⟩ := hsl1.run_index loadsT (i := (i : Int)) (k := i) rfl hi
      have hfc : ∀ j u, (ldC a)[j]? = some u → (S.flatMap ldC)[i * 2 + j]? = some u := fun j u hj => by
        have h2 := flat_get (f := ldC) (k := 2) (fun _ => rfl) S i j a ha (by have := (List.getElem?_eq_some_iff.1 hj).1; exact this)
        rw [h2]; exact hj
      have y0 : wr.cell? ⟨g0, off0, none⟩ = some (.int .i64 a.1) := hcl 0 _ (hfc 0 _ rfl)
      have y1 : wr.cell? ⟨g0, off0 + 1, none⟩ = some (.int .i64 id) := hcl 1 _ (hfc 1 _ (by rw [← hra]; rfl))
      have HME := Lib.hid hrL
      generalize a.1 = lv at *
      clear hij hpo hkr ha hr hra hsl1 hcl hfc hro hun hrL
      go_wp2_with fail
      have HX := Lib.hid (Blk.new wr 93 #[.int .i64 lv, .int .i64 id])
      have hka : Kept noBlock wr (wr.alloc (.cells #[.int .i64 lv, .int .i64 id] 93)) := (Kept.refl noBlock wr).alloc _
      have H2 := Lib.hid (HPO.out.keptN hka)
      have HKA : Hid (Kept (conS L) w1 (wr.alloc (.cells #[.int .i64 lv, .int .i64 id] 93))) := Lib.hid (HKR.out.alloc _)
      have hXn : ¬ conS L wr.heap.size := by
        rintro ⟨r, hr, h1, h2⟩
        have := (HPO.out.con r hr).rc
        omega
      have HXN := Lib.hid hXn
      clear hka y0 y1 hidx hXn
      generalize wr.alloc (.cells #[.int .i64 lv, .int .i64 id] 93) = W2 at *
      generalize wr.heap.size = X at *
      refine wp_region_sch (fun w' => Kept (conS L) W2 w') (.take 0 (.take 1 (.take 2 (.take 3 (.take 4 (.take 5 (.take 6 (.take 7 (.take 8 (.take 9 (.take 10 (.one 11 (.take 12 (.take 13 (.take 14 (.take 15 (.take 16 (.take 17 (.take 18 .nil))))))))))))))))))) (by kernel_rfl) (by kernel_rfl) (by kernel_rfl) (Kept.refl _ _).drew ?_
      repeat (first
        | (refine sch_takeE rfl rfl ?_
           apply Exists.intro
           refine ⟨fun w' hS => ?_, fun K hK => ?_⟩
           · (have q13 := (H2.out.look hS hq).1
              have qlk := (H2.out.look hS hq).2 _ rfl
              have qx1 := (HX.out.kept hS HXN.out).cell 1
              simp only [List.getElem?_toArray, List.getElem?_cons_zero, List.getElem?_cons_succ] at qx1
              clear hS
              unfold takesAt; go_simp; rfl)
           go_simp
           refine hK _ ?_
           clear hK K))
      have hC2 := H2.out.con _ HME.out
      have HSD := Lib.hid (cnSend_open (w := W2.drew) (hC2.keptN (Kept.refl _ _).drew) hst.1 hst.2 hoth (H2.out.tab.kept ((Kept.refl noBlock W2).drew) (fun e => e)) (Nat.lt_trans H2.out.glp.2 (H2.out.low _ HME.out).1) op hop (HS.out _) hn now u hu)
      clear hC2
      refine sch_doK rfl rfl (fun K hK => ?_)
      go_simp
      go_at_call 29
      refine HSD.out.mono ?_
      rintro e w3 ⟨sid, ok, x', X', hcase, hk3, hres⟩
      have hok : ok = false := by
        cases ok
        · rfl
        · rcases hcase with ⟨-, i, rfl, h1, h2, -, -, -⟩ | ⟨e, -⟩
          · rw [hall i h1] at h2; cases h2
          · cases e
      subst hok
      obtain ⟨-, -, rfl, -, -⟩ := hcase.resolve_left (by rintro ⟨e, -⟩; cases e)
      obtain ⟨-, rfl, hc3⟩ := hres.resolve_left (by rintro ⟨e, -⟩; cases e)
      have hkc : Kept (conS L) W2 w3 := ((Kept.refl (conS L) W2).drew).trans hk3 fun k _ e => ⟨_, HME.out, e⟩
      have HP3 : Hid (PoolAt w3 p m x L) := Lib.hid (by
        have h1 := (H2.out.keptN (Kept.refl _ _).drew).upd HME.out hk3 hc3
        rw [updAt_id (H2.out.uniq HME.out)] at h1
        exact h1)
      have HK3 := Lib.hid (HKA.out.trans hkc fun _ _ e => e)
      refine hK _ _ hkc ?_
      clear hK K hk3 hc3 hkc hall
      repeat (first
        | (refine sch_takeE rfl rfl ?_
           apply Exists.intro
           refine ⟨fun w' hS => ?_, fun K hK => ?_⟩
           · (clear hS
              unfold takesAt; go_simp; rfl)
           go_simp
           refine hK _ ?_
           clear hK K))
      refine sch_nil (NoPanic.normal ?_)
      go_wp2_with fail
      go_roundg (N - (i + 1))
      case measure => have := HIJ.out; omega
      case rel => exact ⟨i + 1, by have := HIJ.out; omega, by go_num, HP3.out, HK3.out⟩
    · obtain rfl : i = N := by omega
      have hb := HPO.out.blk
      have y0 : wr.cell? ⟨p, 1, none⟩ = some (.int .i64 x.most) := hb.cell 1
      have y13 : wr.cell? ⟨p, 13, none⟩ = some (.map (some m)) := hb.cell 13
      have y15 : wr.cell? ⟨p, 15, none⟩ = some (.int .i64 x.wanted) := hb.cell 15
      have f15 := hb.frozen 15
      have yl := HPO.out.map.run_len imcM
      have yl2 := fun (n : Nat) => (HPO.out.map.drewN n).run_len imcM
      have HX5 : Hid (Blk (wr.setCell ⟨p, 15, none⟩ (.int .i64 (x.wanted + 1))) p 78 (({ x with wanted := x.wanted + 1 } : XP).C m)) := Lib.hid (hb.set_ 15 _)
      have HMO : Hid (x.more L.length = if x.wanted < x.most ∧ x.wanted ≤ (L.length : Int) then { x with wanted := x.wanted + 1 } else x) := Lib.hid rfl
      have HKF : Hid (Kept (poolS p m L) w wr) := Lib.hid ((HK1.out.of_none (S := poolS p m L)).trans HKR.out fun k _ e => .inr (.inr e))
      clear hij hpo hkr hb
      generalize hmo : x.most = mo at *
      generalize hwa : x.wanted = wa at *
      generalize hln : L.length = ln at *
      have HWA := Lib.hid hwa
      have HLN := Lib.hid hln
      have HMM := Lib.hid hmo
      clear hwa hln hmo
      have hww : IntKind.i64.wrap (wa + 1) = wa + 1 := by rw [IntKind.wrap_i64]; omega
      go_wp2_with fail
      by_cases h1 : wa < mo
      · have h1d : decide (wa < mo) = true := decide_eq_true h1
        by_cases h2 : wa ≤ (ln : Int)
        · have h2d : decide (wa ≤ (ln : Int)) = true := decide_eq_true h2
          go_quiet (fail)
          have hpq := HPO.out.keptN ((Kept.refl noBlock wr).drewN nq)
          have y15q : (wr.drewN nq).cell? ⟨p, 15, none⟩ = some (.int .i64 wa) := by rw [← HWA.out]; exact hpq.blk.cell 15
          have f15q := hpq.blk.frozen 15
          have HB := Lib.hid (hpq.blk.set_ 15 (.int .i64 (wa + 1)))
          have HPQ := Lib.hid hpq
          clear hpq
          go_wp2_with fail
          (try simp only [Exit.inBlock, Exit.then])
          refine bodyPost_ret (v := .tuple #[.int .i64 0, .int .i64 0, .slice none 0 0, .int .i64 30]) (by simp [results, Tryz.results15, go_sem]) rfl ?_
          refine ⟨rfl, ?_, (HKF.out.drewN nq).setCell (p := ⟨p, 15, none⟩) (fun _ => .inl rfl) _⟩
          rw [HLN.out, HMO.out, if_pos ⟨h1, h2⟩]
          rw [← HMM.out]
          exact HPQ.out.setp (x' := { x with wanted := wa + 1 }) ((Kept.refl (fun k => k = p) _).setCell (p := ⟨p, 15, none⟩) (fun _ => rfl) _) HB.out rfl
        · have h2d : decide (wa ≤ (ln : Int)) = false := decide_eq_false h2
          go_quiet (fail)
          go_wp2_with fail
          (try simp only [Exit.inBlock, Exit.then])
          refine bodyPost_ret (v := .tuple #[.int .i64 0, .int .i64 0, .slice none 0 0, .int .i64 30]) (by simp [results, Tryz.results15, go_sem]) rfl ?_
          refine ⟨rfl, ?_, HKF.out.drewN nq⟩
          rw [HLN.out, HMO.out, if_neg (fun h => by omega)]
          exact HPO.out.keptN ((Kept.refl noBlock wr).drewN nq)
      · have h1d : decide (wa < mo) = false := decide_eq_false h1
        go_quiet (fail)
        go_wp2_with fail
        (try simp only [Exit.inBlock, Exit.then])
        refine bodyPost_ret (v := .tuple #[.int .i64 0, .int .i64 0, .slice none 0 0, .int .i64 30]) (by simp [results, Tryz.results15, go_sem]) rfl ?_
        refine ⟨rfl, ?_, HKF.out.drewN nq⟩
        rw [HLN.out, HMO.out, if_neg (fun h => by omega)]
        exact HPO.out.keptN ((Kept.refl noBlock wr).drewN nq)
end Go.Proofs.YtfnjoceolcdeoaaGreatDoor
namespace Go.Proofs.YtfnjoceolcdeoaaGreatDoor
set_option linter.unusedVariables false
open Go.RowKit

set_option maxHeartbeats 4000000 in
set_option maxRecDepth 100000 in
theorem cnTick_open {w : World} {lo hi c : Nat} {x : XC} (h : ConnAt w lo hi c x) (h6 : x.state = 6) (hb : x.beat = -1) (hd : x.drain = false) (now : Int) {la il : Nat} (hla : x.last = (la : Int)) (hil : x.idle = (il : Int)) (hla2 : la < 18446744073709551616) (hil2 : il < 18446744073709551616) (hn : now < ((laterN la il : Nat) : Int)) :
    Calls Tryz.prog 23 #[.pointer (some ⟨c, 0, none⟩), .int .u64 now] w fun e w' => e = .returned (outV none 0 0 (.slice none 0 0) (.slice none 0 0) false 0 (.slice none 0 0)) ∧ Kept noBlock w w' := by
  have HB0 := Lib.hid ((Blk.new w 84 #[.slice none 0 0, .slice none 0 0, .slice none 0 0, .bool false, .int .i64 0, .slice none 0 0]).alloc (.cells #[.slice none 0 0, .slice none 0 0, .slice none 0 0, .bool false, .int .i64 0, .slice none 0 0] 84))
  have HB1 := Lib.hid (Blk.new_at (k := w.heap.size + 1) (w.alloc (.cells #[.slice none 0 0, .slice none 0 0, .slice none 0 0, .bool false, .int .i64 0, .slice none 0 0] 84)) 84 #[.slice none 0 0, .slice none 0 0, .slice none 0 0, .bool false, .int .i64 0, .slice none 0 0] (by rw [sz_alloc]))
  have HK0 := Lib.hid (((Kept.refl noBlock w).alloc (.cells #[.slice none 0 0, .slice none 0 0, .slice none 0 0, .bool false, .int .i64 0, .slice none 0 0] 84)).alloc (.cells #[.slice none 0 0, .slice none 0 0, .slice none 0 0, .bool false, .int .i64 0, .slice none 0 0] 84))
  have hdn : decide (((laterN la il : Nat) : Int) ≤ now) = false := decide_eq_false (by omega)
  obtain ⟨gs, g1, m1, m2, mo, h⟩ := h.keptN HK0.out
  have c8 : (((w.alloc (.cells #[.slice none 0 0, .slice none 0 0, .slice none 0 0, .bool false, .int .i64 0, .slice none 0 0] 84)).alloc (.cells #[.slice none 0 0, .slice none 0 0, .slice none 0 0, .bool false, .int .i64 0, .slice none 0 0] 84))).cell? ⟨c, 8, none⟩ = some (.int .i64 6) := by rw [← h6]; exact h.blk.cell 8
  have c17 : (((w.alloc (.cells #[.slice none 0 0, .slice none 0 0, .slice none 0 0, .bool false, .int .i64 0, .slice none 0 0] 84)).alloc (.cells #[.slice none 0 0, .slice none 0 0, .slice none 0 0, .bool false, .int .i64 0, .slice none 0 0] 84))).cell? ⟨c, 17, none⟩ = some (.int .u64 (la : Int)) := by rw [← hla]; exact h.blk.cell 17
  have c5 : (((w.alloc (.cells #[.slice none 0 0, .slice none 0 0, .slice none 0 0, .bool false, .int .i64 0, .slice none 0 0] 84)).alloc (.cells #[.slice none 0 0, .slice none 0 0, .slice none 0 0, .bool false, .int .i64 0, .slice none 0 0] 84))).cell? ⟨c, 5, none⟩ = some (.int .u64 (il : Int)) := by rw [← hil]; exact h.blk.cell 5
  have c15 : (((w.alloc (.cells #[.slice none 0 0, .slice none 0 0, .slice none 0 0, .bool false, .int .i64 0, .slice none 0 0] 84)).alloc (.cells #[.slice none 0 0, .slice none 0 0, .slice none 0 0, .bool false, .int .i64 0, .slice none 0 0] 84))).cell? ⟨c, 15, none⟩ = some (.int .i64 (-1)) := by rw [← hb]; exact h.blk.cell 15
  have c18 : (((w.alloc (.cells #[.slice none 0 0, .slice none 0 0, .slice none 0 0, .bool false, .int .i64 0, .slice none 0 0] 84)).alloc (.cells #[.slice none 0 0, .slice none 0 0, .slice none 0 0, .bool false, .int .i64 0, .slice none 0 0] 84))).cell? ⟨c, 18, none⟩ = some (.bool false) := (h.blk.cell 18).trans (by show some (Value.bool x.drain) = _; rw [hd])
  have HLT := Lib.hid (fun W => cnLater_at la il hla2 hil2 W)
  clear h hb hd hn hla hil h6
  generalize ((laterN la il : Nat) : Int) = lt at *
  go_enter Tryz.func23, Tryz.ntmps23
  go_wp2_with fail
  go_quiet (fail)
  go_wp2_with fail
  go_quiet ((go_at_call 38; exact quiet_same2 (HLT.out _)))
  go_wp2_with fail
  refine bodyPost_ret (results_cell_row rfl _ _ w.heap.size 84 #[.slice none 0 0, .slice none 0 0, .slice none 0 0, .bool false, .int .i64 0, .slice none 0 0] (0, 0) _ rfl (((((((HB0.out.drewN _).set_ 0 (.slice none 0 0)).set_ 1 (.slice none 0 0)).set_ 2 (.slice none 0 0)).set_ 3 (.bool false)).set_ 4 (.int .i64 0)).set_ 5 (.slice none 0 0)) Tryz.underlying84 rfl (by kernel_rfl)) rfl ?_
  exact ⟨rfl, (((((((HK0.out.drewN _).setCell (p := ⟨w.heap.size, 0, none⟩) (fun h => absurd h (Nat.lt_irrefl _)) _).setCell (p := ⟨w.heap.size, 1, none⟩) (fun h => absurd h (Nat.lt_irrefl _)) _).setCell (p := ⟨w.heap.size, 2, none⟩) (fun h => absurd h (Nat.lt_irrefl _)) _).setCell (p := ⟨w.heap.size, 3, none⟩) (fun h => absurd h (Nat.lt_irrefl _)) _).setCell (p := ⟨w.heap.size, 4, none⟩) (fun h => absurd h (Nat.lt_irrefl _)) _).setCell (p := ⟨w.heap.size, 5, none⟩) (fun h => absurd h (Nat.lt_irrefl _)) _)⟩
end Go.Proofs.YtfnjoceolcdeoaaGreatDoor
namespace Go.Proofs.YtfnjoceolcdeoaaGreatDoor
set_option linter.unusedVariables false
open Go.RowKit

/-- So many streams, the first ones asked for. -/
def rowS (s a : Nat) : XS := ⟨(s : Int), (List.range a).map fun j : Nat => ((j : Int), (9 : Int)), []⟩
theorem row_asked (a j : Nat) : (aget (j : Int) ((List.range a).map fun j : Nat => ((j : Int), (9 : Int)))).isSome = decide (j < a) := by
  induction a with
  | zero => simp [aget]
  | succ a ih =>
    rw [List.range_succ, List.map_append, aget_append, Option.isSome_or, ih]
    by_cases h : j = a
    · subst h; simp [aget]
    · have h2 : ¬ ((j : Int) = (a : Int)) := by omega
      have h3 : decide (j < a + 1) = decide (j < a) := by by_cases h4 : j < a <;> simp [h4] <;> omega
      rw [h3]
      simp only [List.map_cons, List.map_nil, aget]
      split
      · next e => exact absurd (by first | exact e | exact e.symm) h2
      · simp
theorem row_owed (s a j : Nat) : (rowS s a).owed (j : Int) = decide (j < a) := by
  unfold XS.owed rowS
  simp only [row_asked]
  simp [aget]
theorem row_take (s a : Nat) : (rowS s a).take (a : Int) 9 = rowS s (a + 1) := by
  unfold XS.take rowS
  rw [List.range_succ, List.map_append]
  rfl
theorem row_fresh (s : Nat) : rowS s 0 = XS.fresh s := rfl
/-- An open connection with so many requests on it. -/
def OpenQ (s a : Nat) (x : XC) : Prop := x.state = 6 ∧ x.drain = false ∧ x.beat = -1 ∧ x.last = 0 ∧ x.idle = 1099511627776 ∧ x.ss = rowS s a ∧ ∃ Lo, x.oth = some Lo
def Ids (k : Nat) (L : List (Int × CN)) : Prop := L.length = k ∧ ∀ (j : Nat) (r : Int × CN), L[j]? = some r → r.1 = (j : Int)
def Heads (s a b : Nat) (L : List (Int × CN)) : Prop := ∀ (j : Nat) (r : Int × CN), L[j]? = some r → OpenQ s (if j < b then a + 1 else a) r.2.x
theorem Heads.next {s a k : Nat} {L : List (Int × CN)} (h : Heads s a k L) (hi : Ids k L) : Heads s (a + 1) 0 L := by
  intro j r hr
  have h1 := h j r hr
  have hj : j < k := by rw [← hi.1]; exact (List.getElem?_eq_some_iff.1 hr).1
  rw [if_pos hj] at h1
  rw [if_neg (by omega)]
  exact h1
theorem Ids.upd {k : Nat} {L : List (Int × CN)} (h : Ids k L) (id : Int) (y : XC) : Ids k (L.map (updAt id y)) := by
  refine ⟨by rw [List.length_map]; exact h.1, fun j r hr => ?_⟩
  rw [List.getElem?_map] at hr
  obtain ⟨r0, h0, rfl⟩ := Option.map_eq_some_iff.1 hr
  rw [(updAt_same id y r0).1]
  exact h.2 j r0 h0
theorem Heads.upd {s a b k : Nat} {L : List (Int × CN)} (h : Heads s a b L) (hi : Ids k L) {y : XC} (hy : OpenQ s (a + 1) y) : Heads s a (b + 1) (L.map (updAt (b : Int) y)) := by
  intro j r hr
  rw [List.getElem?_map] at hr
  obtain ⟨r0, h0, rfl⟩ := Option.map_eq_some_iff.1 hr
  have h1 := hi.2 j r0 h0
  have h2 := h j r0 h0
  unfold updAt
  by_cases e : r0.1 = (b : Int)
  · rw [if_pos e, if_pos (by omega)]
    exact hy
  · rw [if_neg e]
    have hne : j ≠ b := fun e2 => e (by rw [h1, e2])
    by_cases h3 : j < b
    · rw [if_pos h3] at h2; rw [if_pos (by omega)]; exact h2
    · rw [if_neg h3] at h2; rw [if_neg (by omega)]; exact h2
theorem OpenQ.opn {s a : Nat} {r : Int × CN} (h : OpenQ s a r.2.x) : opn r = true := by
  unfold Go.Proofs.YtfnjoceolcdeoaaGreatDoor.opn
  simp [h.1, h.2.1]
theorem OpenQ.ld {s a : Nat} {r : Int × CN} (h : OpenQ s a r.2.x) : ldOf r = ((a : Int), r.1) := by
  unfold ldOf
  rw [h.2.2.2.2.2.1]
  simp [rowS]
theorem send_step {w : World} {p m : Nat} {x : XP} {L : List (Int × CN)} {k s a b : Nat} (h : PoolAt w p m x L) (hk : k ≤ 1000) (hi : Ids k L) (hh : Heads s a b L) (hb : b < k) (ha : a < s) :
    Calls Tryz.prog 15 #[.pointer (some ⟨p, 0, none⟩), .int .u8 7, .slice none 0 0, .int .u64 0, .int .u64 9] w fun e w' => ∃ A' k' L', e = .returned (.tuple #[.int .i64 (b : Int), .int .i64 (a : Int), .slice A' 9 k', .int .i64 0]) ∧ PoolAt w' p m x L' ∧ Ids k L' ∧ Heads s a (b + 1) L' ∧ Kept (poolS p m L) w w' := by
  obtain ⟨r, hr⟩ : ∃ r, L[b]? = some r := ⟨_, List.getElem?_eq_getElem (by rw [hi.1]; exact hb)⟩
  have hq1 := hi.2 b r hr
  have hq2 := hh b r hr
  rw [if_neg (Nat.lt_irrefl b)] at hq2
  obtain ⟨rid, q⟩ := r
  have hq1 : rid = (b : Int) := hq1
  subst hq1
  have hmem := List.mem_of_getElem? hr
  have hag := aget_of hmem (h.uniq hmem)
  have hld := hq2.ld
  obtain ⟨o1, o2, o3, o4, o5, o6, Lo, o7⟩ := id hq2
  refine (poSend_first h (by rw [hi.1]; exact hk) hag o1 o2 o7 ⟨a, ?_, ?_⟩ ?_ 7 (by decide) (l := []) (Sl.nil w 5 1) (by decide) 0 9 (by decide)).mono ?_
  · show (a : Int) < q.x.ss.n
    have o6 : q.x.ss = rowS s a := o6
    rw [o6]
    show (a : Int) < (s : Int)
    omega
  · have o6 : q.x.ss = rowS s a := o6
    rw [o6, row_owed]
    simp
  · intro r hr2 hop
    obtain ⟨j, hj⟩ := List.getElem?_of_mem hr2
    have h1 := hi.2 j r hj
    have h2 := (hh j r hj).ld
    rw [hld, h2]
    by_cases h3 : j < b
    · rw [if_pos h3]; left; show (a : Int) < ((a + 1 : Nat) : Int); omega
    · rw [if_neg h3]; right; exact ⟨rfl, by rw [h1]; omega⟩
  · rintro e w' ⟨i, A', n', k', rfl, hn', ⟨hi1, hi2, hi3⟩, hp, hkk⟩
    have o6 : q.x.ss = rowS s a := o6
    have hia : i = a := by
      rw [o6, row_owed] at hi2
      have h1 : ¬ i < a := by simpa using hi2
      rcases Nat.lt_or_ge a i with h2 | h2
      · have := hi3 a h2
        rw [o6, row_owed] at this
        simp at this
      · omega
    subst hia
    have hn9 : n' = 9 := by rw [hn', List.append_nil, hdrB_len]
    subst hn9
    rw [o6, row_take] at hp
    exact ⟨A', k', _, rfl, hp, hi.upd _ _, hh.upd hi ⟨o1, o2, o3, o4, o5, rfl, _, rfl⟩, hkk⟩
theorem busy_step {w : World} {p m : Nat} {x : XP} {L : List (Int × CN)} {k s : Nat} (h : PoolAt w p m x L) (hk : k ≤ 1000) (hk0 : 0 < k) (hi : Ids k L) (hh : Heads s s 0 L) (hw0 : 0 ≤ x.wanted) (hw1 : x.wanted ≤ 1000) :
    Calls Tryz.prog 15 #[.pointer (some ⟨p, 0, none⟩), .int .u8 7, .slice none 0 0, .int .u64 0, .int .u64 9] w (BusyPost w p m x L) := by
  refine poSend_busy h (by rw [hi.1]; exact hk) ?_ ?_ hw0 hw1 7 (by decide) (l := []) (fun W => Sl.nil W 5 1) (by decide) 0 9 (by decide)
  · obtain ⟨r, hr⟩ : ∃ r, L[0]? = some r := ⟨_, List.getElem?_eq_getElem (by rw [hi.1]; exact hk0)⟩
    exact ⟨r, List.mem_of_getElem? hr, (hh 0 r hr).opn⟩
  · intro r hr _
    obtain ⟨j, hj⟩ := List.getElem?_of_mem hr
    have h1 := hh j r hj
    rw [if_neg (Nat.not_lt_zero j)] at h1
    obtain ⟨o1, o2, o3, o4, o5, o6, o7⟩ := h1
    refine ⟨o7, fun i hii => ?_⟩
    rw [o6, row_owed]
    have : (i : Int) < (s : Int) := by rw [o6] at hii; exact hii
    simpa using this
end Go.Proofs.YtfnjoceolcdeoaaGreatDoor
namespace Go.Proofs.YtfnjoceolcdeoaaGreatDoor
set_option linter.unusedVariables false
open Go.RowKit
open Go.ChangeMaps (setBlock)

def op6 (q : Int × CN) : Bool := q.2.x.state == 6
set_option maxHeartbeats 4000000 in
set_option maxRecDepth 100000 in
theorem poLive_at {w : World} {p m : Nat} {x : XP} {L : List (Int × CN)} (h : PoolAt w p m x L) (hLl : L.length ≤ 1000) :
    Calls Tryz.prog 16 #[.pointer (some ⟨p, 0, none⟩)] w fun e w' => ∃ A n c, e = .returned (.tuple #[.slice A n c, .int .i64 ((L.filter op6).length : Int)]) ∧ n = L.length ∧ Sl w' 3 1 (.slice A n c) n (L.map fun q => Value.int .i64 q.1) ∧ Kept noBlock w w' := by
  have c13 : w.cell? ⟨p, 13, none⟩ = some (.map (some m)) := h.blk.cell 13
  obtain ⟨es, ck, hh, hst, hL⟩ := id h.map
  have hlt := lt_of_heap hh
  have hrg := run_range_map (P := Tryz.prog) w 76 3 71 m es ck imcM hh
  have HLEN : Hid (es.toList.length = L.length) := Lib.hid (by have := congrArg List.length hL; simpa using this)
  have H := Lib.hid h
  have HL := Lib.hid hL
  have HST := Lib.hid hst
  clear hL hst h
  go_enter Tryz.func16, Tryz.ntmps16
  go_wp2
  generalize hR : w.heap.size = R at *
  go_loopw [4] (fun v4 wr => ∃ seen c0, ∃ cnt : Nat, v4 = .int .i64 cnt ∧ cnt = ((visG seen es.toList L).filter op6).length ∧ Kept noBlock w wr ∧ wr.heap[R]? = some (.mapIter (some m) ck seen c0) ∧ ck ≤ c0) (fun _ wr => (leftOf es (wr.iterSeen R)).size)
  case atStart => exact ⟨#[], ck, 0, rfl, by rw [visG_none]; rfl, (Kept.refl _ _).alloc _, by subst hR; exact heap_alloc_new w _, Nat.le_refl _⟩
  case round =>
    obtain ⟨seen, c0, cnt, rfl, hcnt, hk, hr, hc0⟩ := hrel
    have HCN := Lib.hid hcnt
    have hcb : cnt ≤ 1000 := by
      have h1 := List.length_filter_le op6 (visG seen es.toList L)
      have h2 := visG_len (seen := seen) es.toList L
      omega
    clear hcnt
    have hb1 : wr.heap[m]? = some (.map es ck) := (hk.block m (by rw [hR]; exact hlt) (fun h => h)).trans hh
    have law := run_next_at (P := Tryz.prog) wr 0 R m ck c0 seen es ck hr hb1 HST.out.1 hc0
    have HK := Lib.hid hk
    rcases law with ⟨h0, hrun⟩ | ⟨e, he, w1, hw1, hrun⟩
    · have hnx : ∀ ty, (Instr.next (.pointer (some ⟨R, 0, none⟩)) false ty).run Tryz.prog wr = _ := fun _ => hrun
      have HI := Lib.hid (poIds_at (H.out.keptN hk))
      have HCF : Hid ((cnt : Int) = ((L.filter op6).length : Int)) := Lib.hid (by rw [HCN.out, visG_all es.toList L HLEN.out (all_seen es seen h0)])
      clear hk hr hb1 hrg c13
      go_wp2_with fail
      go_at_call 21
      refine HI.out.mono ?_
      rintro e w5 ⟨A, n, c, rfl, hn5, hs5, hk5⟩
      have HF : Hid (n = L.length ∧ Sl w5 3 1 (.slice A n c) n (L.map fun q => Value.int .i64 q.1) ∧ Kept noBlock w w5) := Lib.hid ⟨hn5, hs5, HK.out.trans hk5 fun _ _ e => e⟩
      clear hn5 hs5 hk5
      go_wp2
      go_ret2
      exact ⟨A, n, c, congrArg (fun z => Ending.returned (.tuple #[.slice A n c, .int .i64 z])) HCF.out, HF.out⟩
    · have hem := mem_left he
      obtain ⟨i, q, hei, hqi, hv⟩ : ∃ (i : Nat) (q : Int × CN), es.toList[i]? = some e ∧ L[i]? = some q ∧ e.val = cnV q.2 := by
        obtain ⟨i, hi⟩ := List.getElem?_of_mem hem.1
        have h1 := congrArg (fun l => l[i]?) HL.out
        simp only [List.getElem?_map, hi, Option.map_some] at h1
        cases hp : L[i]? with
        | none => rw [hp] at h1; simp at h1
        | some q =>
          rw [hp] at h1
          simp only [Option.map_some, Option.some.injEq, Prod.mk.injEq] at h1
          exact ⟨i, q, hi, hp, h1.2⟩
      have hq : q ∈ L := List.mem_of_getElem? hqi
      have HV1 := Lib.hid (visG_step es.toList L i HST.out.2.1 hei hqi hem.2)
      unfold cnV at hv
      rw [hv] at hrun
      have hnx : ∀ ty, (Instr.next (.pointer (some ⟨R, 0, none⟩)) false ty).run Tryz.prog wr = _ := fun _ => hrun
      have hk1 : Kept noBlock w w1 := by
        rcases hw1 with rfl | rfl
        · exact hk
        · exact hk.drew
      have hr1 : w1.heap[R]? = some (.mapIter (some m) ck seen c0) := by rcases hw1 with rfl | rfl <;> exact hr
      have hk2 : Kept noBlock w (setBlock w1 R (.mapIter (some m) ck (seen.push e.born) ck)) := hk1.setBlock (fun h => absurd h (by rw [hR]; exact Nat.lt_irrefl _)) _
      have hr2 : (setBlock w1 R (.mapIter (some m) ck (seen.push e.born) ck)).heap[R]? = some (.mapIter (some m) ck (seen.push e.born) ck) := heap_setBlock_selfP (lt_of_heap hr1) _
      have hb2 := (hk2.block m (by rw [hR]; exact hlt) (fun h => h)).trans hh
      have hen := run_entry_at (P := Tryz.prog) (setBlock w1 R (.mapIter (some m) ck (seen.push e.born) ck)) R m ck seen es ck e hr2 hb2 hem.1 HST.out.2.1
      rw [hv] at hen
      have HK2 := Lib.hid hk2
      have HR2 := Lib.hid hr2
      have HR := Lib.hid hr
      clear hk hk1 hk2 hr1 hr2 hb2 hb1 hr hrg c13
      generalize setBlock w1 R (.mapIter (some m) ck (seen.push e.born) ck) = w2 at *
      have HS := Lib.hid (cnState_at ((H.out.keptN HK2.out).con q hq))
      have HO6 : Hid (op6 q = (q.2.x.state == 6)) := Lib.hid rfl
      have HNX : Hid (((visG (seen.push e.born) es.toList L).filter op6).length = cnt + ([q].filter op6).length) := Lib.hid (by
        rw [(HV1.out.filter _).length_eq, List.filter_append, List.length_append, ← HCN.out])
      clear hei hqi
      generalize q.2.x.state = s6 at *
      generalize q.2.x.drain = d6 at *
      by_cases h6e : s6 = 6
      · subst h6e
        have HC1 : Hid (((visG (seen.push e.born) es.toList L).filter op6).length = cnt + 1) := Lib.hid (by
          rw [HNX.out]
          have : op6 q = true := by rw [HO6.out]; rfl
          simp [this])
        go_wp2_with fail
        go_at_call 30
        refine HS.out.mono ?_
        rintro e3 w5 ⟨rfl, hk5⟩
        have HK5 := Lib.hid hk5
        clear hk5
        go_wp2_with fail
        go_roundw
        case rel =>
          have hR5 : w5.heap[R]? = some (.mapIter (some m) ck (seen.push e.born) ck) := (HK5.out.block R (lt_of_heap HR2.out) (fun e => e)).trans HR2.out
          exact ⟨seen.push e.born, ck, cnt + 1, by go_num, HC1.out.symm, HK2.out.trans HK5.out fun _ _ e => e, hR5, Nat.le_refl _⟩
        case measure =>
          have hR5 : w5.heap[R]? = some (.mapIter (some m) ck (seen.push e.born) ck) := (HK5.out.block R (lt_of_heap HR2.out) (fun e => e)).trans HR2.out
          rw [iterSeen_eqP hR5, iterSeen_eqP HR.out]
          exact left_shrinks es seen e he
      · have h6 : (s6 == 6) = false := by rw [beq_eq_false_iff_ne]; exact h6e
        have HC1 : Hid (((visG (seen.push e.born) es.toList L).filter op6).length = cnt) := Lib.hid (by
          rw [HNX.out]
          have : op6 q = false := by rw [HO6.out]; exact h6
          simp [this])
        go_wp2_with fail
        go_at_call 30
        refine HS.out.mono ?_
        rintro e3 w5 ⟨rfl, hk5⟩
        have HK5 := Lib.hid hk5
        clear hk5
        go_wp2_with fail
        go_roundw
        case rel =>
          have hR5 : w5.heap[R]? = some (.mapIter (some m) ck (seen.push e.born) ck) := (HK5.out.block R (lt_of_heap HR2.out) (fun e => e)).trans HR2.out
          exact ⟨seen.push e.born, ck, cnt, rfl, HC1.out.symm, HK2.out.trans HK5.out fun _ _ e => e, hR5, Nat.le_refl _⟩
        case measure =>
          have hR5 : w5.heap[R]? = some (.mapIter (some m) ck (seen.push e.born) ck) := (HK5.out.block R (lt_of_heap HR2.out) (fun e => e)).trans HR2.out
          rw [iterSeen_eqP hR5, iterSeen_eqP HR.out]
          exact left_shrinks es seen e he
end Go.Proofs.YtfnjoceolcdeoaaGreatDoor
namespace Go.Proofs.YtfnjoceolcdeoaaGreatDoor
set_option linter.unusedVariables false
open Go.RowKit

theorem keep_poolL {w w1 w2 : World} {p m : Nat} {L : List (Int × CN)} (hk : Kept noBlock w w1) (hk2 : Kept (poolS p m L) w1 w2) (hp : w.heap.size ≤ p ∧ w.heap.size ≤ m) (hL : ∀ q ∈ L, p < q.2.lo) : Kept noBlock w w2 :=
  hk.trans hk2 fun k hlt e => by
    rcases e with e | e | ⟨q, hq, h1, _⟩
    · omega
    · omega
    · have := hL q hq; omega
/-- The law's connection as it begins. -/
def xbL (s : Nat) : XC := XC.begun (s : Int) noStr 1099511627776 1099511627776 1 99 0
def SupL (s : Nat) (y : XC) : Prop := ∃ A c, c ≤ maxLen ∧ y = { xbL s with state := 2, last := ((0 : Nat) : Int), sv := .slice A 0 c, se := 0 }
def Opens (s i : Nat) (L : List (Int × CN)) : Prop := ∀ (j : Nat) (r : Int × CN), L[j]? = some r → (j < i → OpenQ s 0 r.2.x) ∧ (i ≤ j → r.2.x = xbL s)
def OpensM (s i : Nat) (L : List (Int × CN)) : Prop := ∀ (j : Nat) (r : Int × CN), L[j]? = some r → (j < i → OpenQ s 0 r.2.x) ∧ (j = i → SupL s r.2.x) ∧ (i < j → r.2.x = xbL s)
theorem upd_get {k : Nat} {L : List (Int × CN)} (hi : Ids k L) {i : Nat} {y : XC} {j : Nat} {r : Int × CN} (h : (L.map (updAt (i : Int) y))[j]? = some r) : ∃ r0, L[j]? = some r0 ∧ (j = i → r.2.x = y) ∧ (j ≠ i → r = r0) := by
  rw [List.getElem?_map] at h
  obtain ⟨r0, h0, rfl⟩ := Option.map_eq_some_iff.1 h
  have h1 := hi.2 j r0 h0
  refine ⟨r0, h0, fun e => ?_, fun e => ?_⟩
  · unfold updAt; rw [if_pos (by rw [h1, e])]
  · unfold updAt; rw [if_neg (by rw [h1]; omega)]
theorem dataA {w : World} {p m : Nat} {x : XP} {L : List (Int × CN)} {k s i : Nat} (h : PoolAt w p m x L) (hi : Ids k L) (ho : Opens s i L) (hik : i < k) (hs1 : 1 ≤ s) {A : Option Addr} {cA : Nat} (hs : Sl w 5 1 (.slice A 11 cA) 11 (bsC bySup)) :
    Calls Tryz.prog 14 #[.pointer (some ⟨p, 0, none⟩), .int .i64 (i : Int), .slice A 11 cA, .int .u64 0, .int .u64 0] w fun e w' => ∃ A' c' L', e = .returned (.slice A' 1 c') ∧ PoolAt w' p m x L' ∧ Ids k L' ∧ OpensM s i L' ∧ Kept (poolS p m L) w w' := by
  obtain ⟨r, hr⟩ : ∃ r, L[i]? = some r := ⟨_, List.getElem?_eq_getElem (by rw [hi.1]; exact hik)⟩
  have hq1 := hi.2 i r hr
  have hqx := (ho i r hr).2 (Nat.le_refl _)
  obtain ⟨rid, q⟩ := r
  have hq1 : rid = (i : Int) := hq1
  subst hq1
  have hqx : q.x = xbL s := hqx
  have hmem := List.mem_of_getElem? hr
  have hag := aget_of hmem (h.uniq hmem)
  have hG : 2 < q.lo := Nat.lt_trans h.glp.2 (h.low _ hmem).1
  have hC := cnData_sup (h.con _ hmem) (by show q.x.state = 1; rw [hqx]; rfl) (by show q.x.shake = 0; rw [hqx]; rfl) (n := (s : Int)) (by show q.x.ss = (XS.fresh (s : Int)).take 0 q.x.til; rw [hqx]; rfl) (by omega) (by show Calm q.x; rw [hqx]; exact ⟨rfl, none, 0, rfl, by decide⟩) h.tab hG (by
    show 0 ≤ q.x.til ∧ q.x.til < 18446744073709551616
    rw [hqx]
    show (0 : Int) ≤ ((laterN 0 1099511627776 : Nat) : Int) ∧ ((laterN 0 1099511627776 : Nat) : Int) < 18446744073709551616
    rw [show laterN 0 1099511627776 = 1099511627776 by decide]
    omega) ((0 : Nat) : Int) hs
  refine (poData_wrote h hag (0 : Int) 0 hC ?_).mono ?_
  · rintro y Y W ⟨-, rfl⟩
    refine ⟨?_, rfl, rfl, rfl, rfl⟩
    show 0 < (hdrB 0 1 st2B.length ++ st2B).length
    rw [List.length_append, hdrB_len]; omega
  · rintro e w' ⟨A', c', y, Y, W, rfl, ⟨⟨A2, c2, hc2, rfl⟩, -⟩, hp, hk⟩
    refine ⟨A', c', _, rfl, hp, hi.upd _ _, fun j r hj => ?_, hk⟩
    obtain ⟨r0, h0, e1, e2⟩ := upd_get hi hj
    refine ⟨fun hj1 => ?_, fun hj1 => ?_, fun hj1 => ?_⟩
    · rw [e2 (by omega)]; exact (ho j r0 h0).1 hj1
    · rw [e1 hj1]; exact ⟨A2, c2, hc2, by rw [hqx]⟩
    · rw [e2 (by omega)]; exact (ho j r0 h0).2 (by omega)
theorem dataB {w : World} {p m : Nat} {x : XP} {L : List (Int × CN)} {k s i : Nat} (h : PoolAt w p m x L) (hx : x.failed = 0) (hi : Ids k L) (ho : OpensM s i L) (hik : i < k) {A : Option Addr} {cA : Nat} (hs : Sl w 5 1 (.slice A 9 cA) 9 (bsC byRdy)) :
    Calls Tryz.prog 14 #[.pointer (some ⟨p, 0, none⟩), .int .i64 (i : Int), .slice A 9 cA, .int .u64 0, .int .u64 0] w fun e w' => ∃ A' c' L', e = .returned (.slice A' 1 c') ∧ PoolAt w' p m x L' ∧ Ids k L' ∧ Opens s (i + 1) L' ∧ Kept (poolS p m L) w w' := by
  obtain ⟨r, hr⟩ : ∃ r, L[i]? = some r := ⟨_, List.getElem?_eq_getElem (by rw [hi.1]; exact hik)⟩
  have hq1 := hi.2 i r hr
  obtain ⟨A0, c0, hc0, hqx⟩ := (ho i r hr).2.1 rfl
  obtain ⟨rid, q⟩ := r
  have hq1 : rid = (i : Int) := hq1
  subst hq1
  have hmem := List.mem_of_getElem? hr
  have hag := aget_of hmem (h.uniq hmem)
  have hqx : q.x = { xbL s with state := 2, last := ((0 : Nat) : Int), sv := .slice A0 0 c0, se := 0 } := hqx
  have hC := cnData_rdy (h.con _ hmem) (by show q.x.state = 2; rw [hqx]) (by show q.x.shake = 0; rw [hqx]; rfl) (n := (s : Int)) (by show q.x.ss = (XS.fresh (s : Int)).take 0 q.x.til; rw [hqx]; rfl) (by show Calm q.x; rw [hqx]; exact ⟨rfl, A0, c0, rfl, hc0⟩) (by show q.x.ks = _; rw [hqx]; rfl) (Ae := none) (ce := 0) (by show q.x.ev = _; rw [hqx]; rfl) ((0 : Nat) : Int) hs
  refine (poData_ready h hag (0 : Int) 0 hC ?_).mono ?_
  · rintro y Y W ⟨-, rfl⟩
    exact ⟨rfl, rfl, rfl, rfl, rfl⟩
  · rintro e w' ⟨A', c', y, Y, W, rfl, ⟨⟨A2, c2, hc2, rfl⟩, -⟩, hp, hk⟩
    have hxx : ({ x with failed := 0 } : XP) = x := by rw [← hx]
    rw [hxx] at hp
    refine ⟨A', c', _, rfl, hp, hi.upd _ _, fun j r hj => ?_, hk⟩
    obtain ⟨r0, h0, e1, e2⟩ := upd_get hi hj
    refine ⟨fun hj1 => ?_, fun hj1 => ?_⟩
    · by_cases e : j = i
      · rw [e1 e]
        refine ⟨rfl, ?_, ?_, rfl, ?_, row_fresh s, [], ?_⟩
        · show q.x.drain = false; rw [hqx]; rfl
        · show q.x.beat = -1; rw [hqx]; rfl
        · show q.x.idle = 1099511627776; rw [hqx]; rfl
        · show q.x.oth = some []; rw [hqx]; rfl
      · rw [e2 e]; exact (ho j r0 h0).1 (by omega)
    · rw [e2 (by omega)]; exact (ho j r0 h0).2.2 (by omega)
/-- The law's pool. -/
def xl (k mo s o wa : Nat) : XP := ⟨(k : Int), (mo : Int), 1, 1, 0, (s : Int), noStr, 1099511627776, 1099511627776, 1, 99, (o : Int), (wa : Int), 0, 0, false⟩
theorem OpenQ.idle {s a : Nat} {x : XC} (h : OpenQ s a x) : idleAt 0 x := fun W lo hi c hc =>
  cnTick_open hc h.1 h.2.2.1 h.2.1 ((0 : Nat) : Int) (la := 0) (il := 1099511627776) h.2.2.2.1 h.2.2.2.2.1 (by decide) (by decide) (by rw [show laterN 0 1099511627776 = 1099511627776 by decide]; omega)
theorem tickL {w : World} {p m k mo s o wa : Nat} {L : List (Int × CN)} (h : PoolAt w p m (xl k mo s o wa) L) (hid : ∀ q ∈ L, idleAt 0 q.2.x) (ho : o ≤ 1000) (hs : 1 ≤ s ∧ s ≤ 1000) (hwa : wa ≤ 1000) (hL : L.length ≤ 1000) {J : Nat} (hJ : J = wa - L.length) :
    Calls Tryz.prog 10 #[.pointer (some ⟨p, 0, none⟩), .int .u64 0, .int .u64 0] w fun e w' => ∃ A c N, e = .returned (.slice A J c) ∧ N.length = J ∧ (∀ (i : Nat) (r : Int × CN), N[i]? = some r → r.1 = (o : Int) + (i : Int) ∧ r.2.x = xbL s) ∧ PoolAt w' p m (xl k mo s (o + J) wa) (L ++ N) ∧ (∃ ok E, SlK w' ok 21 (.slice A J c) J E) ∧ Kept (poolS p m L) w w' := by
  refine (poTick_at h 0 0 (by decide) hid rfl (show (1 : Int) ≤ (s : Int) by omega) (show (s : Int) ≤ 32768 by omega) (show noStr.size ≤ 300000 by decide) (show 1099511627776 < 18446744073709551616 by decide) (show (1 : Int) ≤ 99 by decide) (show (0 : Int) ≤ (o : Int) by omega) (show (o : Int) ≤ 100000 by omega) (show (0 : Int) ≤ (wa : Int) by omega) (show (wa : Int) ≤ 1000 by omega) hL J (by rw [if_pos (show (xl k mo s o wa).next ≤ 0 from Nat.le_refl 0)]; show J = ((wa : Int) - (L.length : Int)).toNat; omega)).mono ?_
  rintro e w3 ⟨A3, c3, N, E, rfl, hN1, hok, hp3, hs3, hk3⟩
  exact ⟨A3, c3, N, rfl, hN1, fun i r hr => hok.2.1 i r hr, hp3, ⟨_, _, hs3⟩, hk3⟩
theorem xl_more {k mo s o wa : Nat} (n : Nat) : (xl k mo s o wa).more n = xl k mo s o (if wa < mo ∧ wa ≤ n then wa + 1 else wa) := by
  unfold XP.more
  by_cases h : wa < mo ∧ wa ≤ n
  · rw [if_pos h, if_pos (show (xl k mo s o wa).wanted < (xl k mo s o wa).most ∧ (xl k mo s o wa).wanted ≤ (n : Int) from (show (wa : Int) < (mo : Int) ∧ (wa : Int) ≤ (n : Int) by omega))]
    rfl
  · rw [if_neg h, if_neg (show ¬ ((xl k mo s o wa).wanted < (xl k mo s o wa).most ∧ (xl k mo s o wa).wanted ≤ (n : Int)) from (show ¬ ((wa : Int) < (mo : Int) ∧ (wa : Int) ≤ (n : Int)) by omega))]
end Go.Proofs.YtfnjoceolcdeoaaGreatDoor

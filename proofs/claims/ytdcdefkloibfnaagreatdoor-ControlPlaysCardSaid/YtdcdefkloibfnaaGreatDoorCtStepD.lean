/- ControlPlays: what a step needs and gives. -/
import Derived.Test.YtdcdefkloibfnaaGreatDoorCtNoteOf
import Derived.Test.YtdcdefkloibfnaaGreatDoorMg10
import Derived.Test.YtdcdefkloibfnaaGreatDoorMg07
import Derived.Test.YtdcdefkloibfnaaGreatDoorCtHostsL
import Derived.Test.YtdcdefkloibfnaaGreatDoorBits
namespace Go.Proofs.YtdcdefkloibfnaaGreatDoor
set_option linter.unusedVariables false
open Go.RowKit

theorem name_le (l : List UInt8) : (nameP l).length ≤ 32 := by
  have h := name_law l
  rcases h.ends with h1 | h1 | h1
  · omega
  · omega
  · rw [h.empty.2 h1]; exact Nat.zero_le _
theorem hosts_names : ∀ {cols : List ByteArray} (rows : List (List Vl)) (out o : List Ho), (∀ h ∈ out, h.name.size ≤ 9223372036854775807) → rows.foldl (stepR cols) (some out) = some o → ∀ h ∈ o, h.name.size ≤ 9223372036854775807
  | _, [], out, o, ho, h => by cases h; exact ho
  | cols, r :: rows, out, o, ho, h => by
    rw [List.foldl_cons] at h
    cases hc : rowP cols r with
    | skip =>
      have e : stepR cols (some out) r = some out := by simp only [stepR, hc]
      rw [e] at h
      exact hosts_names rows out o ho h
    | bad =>
      have e : stepR cols (some out) r = none := by simp only [stepR, hc]
      rw [e, hosts_none] at h; cases h
    | host x =>
      have e : stepR cols (some out) r = some (out ++ [x]) := by simp only [stepR, hc]
      rw [e] at h
      refine hosts_names rows (out ++ [x]) o (fun y hy => ?_) h
      rcases List.mem_append.1 hy with h1 | h1
      · exact ho y h1
      · obtain rfl : y = x := by simpa using h1
        unfold rowP at hc
        split at hc
        · cases hc
        · split at hc
          · cases hc
          · cases hc
            exact Nat.le_trans (show (nameP _).length ≤ 32 from name_le _) (by decide)
theorem mark_names3 {S : List Ho} (h : ∀ o ∈ S, o.name.size ≤ 9223372036854775807) (x : ByteArray) (up : Bool) : ∀ o ∈ (markP S x up).1, o.name.size ≤ 9223372036854775807 := by
  intro o ho
  unfold markP at ho
  cases hg : getS x S with
  | none => rw [hg] at ho; exact h o ho
  | some q =>
    rw [hg] at ho
    simp only [] at ho
    by_cases e : q.up = up
    · rw [if_pos e] at ho; exact h o ho
    · rw [if_neg e] at ho
      obtain ⟨o', ho', rfl⟩ := List.mem_map.1 ho
      split
      · exact h o' ho'
      · exact h o' ho'
theorem ref_names3 {V : View} {l : List Ho} (h : ∀ o ∈ l, o.name.size ≤ 9223372036854775807) : ∀ o ∈ refNow V l, o.name.size ≤ 9223372036854775807 := fun o ho => by
  obtain ⟨a, ha, rfl, -⟩ := refNow_mem ho
  exact h a ha
/-- Hosts that a play knows. -/
structure HOk (S : List Ho) : Prop where
  ok : HoOk S 40 250
  nms : ∀ o ∈ S, o.name.size ≤ 9223372036854775807
theorem HOk.mark {S : List Ho} (h : HOk S) (x : ByteArray) (up : Bool) : HOk (markP S x up).1 := ⟨h.ok.mark x up, mark_names3 h.nms x up⟩
theorem HOk.note {S : List Ho} (h : HOk S) (wait : Int) (asks : Bool) (at_ : Int) (x : NV) (now : Int) : HOk (noteP S wait asks at_ x now).S := by
  unfold noteP
  repeat' split
  all_goals first | exact h | exact h.mark _ _
/-- An act. -/
structure AV3 where
  kind : Int
  note : NV
  own : TV2
  oth : TV2
  span : Int
def act3C (k : Int) (x : NV) (t u : TV2) (span : Int) : Array Value :=
  #[.int .i64 k, .string x.kind, .string x.what, .slice x.a x.n x.c, .int .u32 x.port, .string x.sw, .string x.target, .string x.ss, .string x.sn, .slice x.ga x.gn x.gc,
    .int .i64 t.cnt, .slice t.ca t.cn t.cc, .bool t.more, .int .i64 t.sk, .slice t.sa t.sn t.sc, .slice t.ra t.rn t.rc,
    .int .i64 u.cnt, .slice u.ca u.cn u.cc, .bool u.more, .int .i64 u.sk, .slice u.sa u.sn u.sc, .slice u.ra u.rn u.rc, .int .u64 span]
def AV3.C (x : AV3) : Array Value := act3C x.kind x.note x.own x.oth x.span
/-- An act that came in. -/
structure ActIn3 (W : World) (B : Nat) (x : AV3) : Prop where
  note : NoteIn W B x.note
  own : TblIn W B x.own
  oth : TblIn W B x.oth
  span : 0 ≤ x.span ∧ x.span ≤ 18446744073709551615
theorem ActIn3.keptN {W W' : World} {B : Nat} {x : AV3} (h : ActIn3 W B x) (hk : Kept noBlock W W') : ActIn3 W' B x := ⟨h.note.keptN hk, h.own.keptN hk, h.oth.keptN hk, h.span⟩
theorem TblIn.kept {W W' : World} {B : Nat} {S : Nat → Prop} {t : TV2} (h : TblIn W B t) (hk : Kept S W W') (hS : ∀ k, k < B → ¬ S k) : TblIn W' B t :=
  ⟨h.tbl.kept hk hS, fun x hx => (h.col x hx).imp fun _ hd => hd.kept hk hS, h.st.imp fun _ hl => ⟨hl.1, Lo.kept hl.2 hk hS⟩⟩
theorem NoteIn.kept {W W' : World} {B : Nat} {S : Nat → Prop} {x : NV} (h : NoteIn W B x) (hk : Kept S W W') (hS : ∀ k, k < B → ¬ S k) : NoteIn W' B x := ⟨⟨h.ad.1, Lo.kept h.ad.2 hk hS⟩, h.ar.imp fun _ hl => ⟨hl.1, Lo.kept hl.2 hk hS⟩⟩
/-- What a step gives. -/
def StepPost (w : World) (ok own : Nat → Prop) (c g : Nat) (dc : ByteArray) (rem wait : Int) (e : Ending) (w' : World) : Prop :=
  ∃ own' A' n' cc' l' S' asks' at', e = .returned (.tuple #[.agg (c23C dc rem A' n' cc' wait asks' at'), .bool true]) ∧ CtAt w' own' c g dc rem S' wait asks' at' ∧ RL w' (fun k => (ok k ∨ w.heap.size ≤ k) ∧ ¬ own' k ∧ k ≠ c) A' n' cc' l' S' ∧ HOk S' ∧
    (∀ k, own' k → own k ∨ w.heap.size ≤ k) ∧ Kept (fun k => own k ∨ k = c) w w'
theorem step_ret {W : World} {T : Array Value} {M : Nat} {u0 u1 u2 u3 u4 u5 v : Value} {R : Ending → World → Prop} (h8 : T.getD 8 undef = .pointer (some ⟨M, 0, none⟩)) (h9 : T.getD 9 undef = v) (q : Blk W M 59 #[u0, u1, u2, u3, u4, u5])
    (hR : R (.returned (.tuple #[.agg #[u0, u1, u2, u3, u4, u5], v])) W) : bodyPost Tryz.prog Tryz.f19 R .ret { tmps := T, defers := [] } W := by
  have h8' : T[8]?.getD undef = .pointer (some ⟨M, 0, none⟩) := by simpa using h8
  have h9' : T[9]?.getD undef = v := by simpa using h9
  obtain ⟨d0, d1, d2, d3, d4, d5⟩ := cells6 q
  exact bodyPost_ret (v := .tuple #[.agg #[u0, u1, u2, u3, u4, u5], v]) (by simp [results, Tryz.results19, go_sem, h8', h9', d0, d1, d2, d3, d4, d5]) rfl hR
theorem CtAt.lt {w : World} {own : Nat → Prop} {c g : Nat} {dc : ByteArray} {rem : Int} {S : List Ho} {wait at_ : Int} {asks : Bool} (h : CtAt w own c g dc rem S wait asks at_) : (∀ k, own k → k < w.heap.size) ∧ c < w.heap.size := ⟨h.tab.lt, h.blk.lt⟩
theorem CtAt.keptS {w w' : World} {S0 : Nat → Prop} {own : Nat → Prop} {c g : Nat} {dc : ByteArray} {rem : Int} {S : List Ho} {wait at_ : Int} {asks : Bool} (h : CtAt w own c g dc rem S wait asks at_) (hk : Kept S0 w w') (hS : ∀ k, own k ∨ k = c → ¬ S0 k) : CtAt w' own c g dc rem S wait asks at_ :=
  ⟨h.blk.kept hk (hS c (.inr rfl)), h.tab.kept hk fun k e => hS k (.inl e), h.oc⟩
end Go.Proofs.YtdcdefkloibfnaaGreatDoor

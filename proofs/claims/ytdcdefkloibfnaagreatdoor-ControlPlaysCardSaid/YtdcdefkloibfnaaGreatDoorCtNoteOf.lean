/- The law's noteOf: an event as the model has it. -/
import Derived.Test.YtdcdefkloibfnaaGreatDoorMg10
import Derived.Test.YtdcdefkloibfnaaGreatDoorMg09
import Derived.Laws.Rows
import Derived.Laws.Tables
import Derived.Deep.DeepCutAuto
namespace Go.Proofs.YtdcdefkloibfnaaGreatDoor
set_option linter.unusedVariables false
open Go.RowKit

theorem it03sT : SlT Tryz.prog 116 171 (.agg #[.string noStr, .string noStr, .slice none 0 0, .int .i64 0, .string noStr]) 5 80 := ⟨Tryz.underlying116, by kernel_rfl, rfl, by decide, by decide⟩
def r09Z : Array Value := #[.int .u8 0, .int .u32 0, .string ⟨#[]⟩, .int .u16 0, .int .i32 0, .int .i32 0, .int .i32 0, .int .u8 0, .string ⟨#[]⟩, .string ⟨#[]⟩, .string ⟨#[]⟩, .slice none 0 0, .string ⟨#[]⟩, .slice none 0 0, .int .i64 0, .string ⟨#[]⟩, .string ⟨#[]⟩, .string ⟨#[]⟩, .string ⟨#[]⟩, .int .u32 0, .string ⟨#[]⟩, .string ⟨#[]⟩, .string ⟨#[]⟩, .string ⟨#[]⟩, .slice none 0 0, .int .u32 0, .string ⟨#[]⟩]
def itC (s : ByteArray) : List Value := [.string s, .string ⟨#[]⟩, .slice none 0 0, .int .i64 0, .string ⟨#[]⟩]
/-- An event that came in. -/
structure NoteIn (W : World) (B : Nat) (x : NV) : Prop where
  ad : x.addr.length = x.n ∧ Lo W B 1 (.slice x.a x.n x.c) x.n (bsC x.addr)
  ar : ∃ L : List ByteArray, L.length = x.gn ∧ Lo W B 1 (.slice x.ga x.gn x.gc) x.gn (L.map Value.string)
theorem NoteIn.keptN {W W' : World} {B : Nat} {x : NV} (h : NoteIn W B x) (hk : Kept noBlock W W') : NoteIn W' B x := ⟨⟨h.ad.1, h.ad.2.keptNone hk⟩, h.ar.imp fun _ hl => ⟨hl.1, hl.2.keptNone hk⟩⟩
theorem Kept.setRow {S : Nat → Prop} {a w : World} (h : Kept S a w) {g : Nat} (hp : g < a.heap.size → S g) (cs : Array Value) : Kept S a (w.setRow g cs) :=
  ⟨h.os, h.tape, h.output, by simp [World.setRow]; exact h.size, fun k hk hn => (setRow_other w g k cs (fun e => hn (e ▸ hp (e ▸ hk)))).trans (h.block k hk hn)⟩
/-- An operation whose value and world are said ahead. -/
theorem wpList_to {P : Program} {ops : Array Oper} {rest : List Oper} {o : Oper} {a : Act} {w : World} {Q : Exit → Act → World → Prop} (hg : o.guard = none) {d : Tmp} (hd : o.dst = some d) (v : Value) (w' : World) (hr : (execOp a.eval o).run P w = .ok (.value v) w')
    (h : wpList P ops Q rest (a.put (some d) v) w') : wpList P ops Q (o :: rest) a w := by
  rw [← hd] at h
  refine wpList_plain hg fun K hK => ?_
  unfold Oper.wp
  rw [hr, Oper.upon_value]
  exact hK _ _ h
theorem wpList_rd {P : Program} {ops : Array Oper} {rest : List Oper} {o : Oper} {a : Act} {w : World} {Q : Exit → Act → World → Prop} (hg : o.guard = none) {d : Tmp} (hd : o.dst = some d) (v : Value) (hr : (execOp a.eval o).run P w = .ok (.value v) w)
    (h : wpList P ops Q rest (a.put (some d) v) w) : wpList P ops Q (o :: rest) a w := wpList_to hg hd v w hr h
theorem r09_info : (Tryz.prog.info? 122).map (·.size) = some 27 := by kernel_rfl
/-- An event's value as noteOf lays it first. -/
def r09B (kind what ad : ByteArray) (port : Int) : Array Value := #[.int .u8 12, .int .u32 0, .string ⟨#[]⟩, .int .u16 0, .int .i32 0, .int .i32 0, .int .i32 0, .int .u8 0, .string ⟨#[]⟩, .string ⟨#[]⟩, .string ⟨#[]⟩, .slice none 0 0, .string ⟨#[]⟩, .slice none 0 0, .int .i64 0, .string ⟨#[]⟩, .string kind, .string what, .string ad, .int .u32 port, .string ⟨#[]⟩, .string ⟨#[]⟩, .string ⟨#[]⟩, .string ⟨#[]⟩, .slice none 0 0, .int .u32 0, .string ⟨#[]⟩]
theorem r09B_one (kind what ad : ByteArray) (port : Int) : (r09B kind what ad port).all (·.oneCell') = true := by simp [r09B, Value.oneCell']
theorem r09B_info (kind what ad : ByteArray) (port : Int) : (Tryz.prog.info? 122).map (·.size) = some (r09B kind what ad port).size := r09_info
theorem r09C_one (ev what ad : ByteArray) (port : Int) (sw target ss sn : ByteArray) (ga : Option Addr) (gn gc : Nat) : (r09C ev what ad port sw target ss sn ga gn gc).all (·.oneCell') = true := by simp [r09C, Value.oneCell']
theorem r09C_info (ev what ad : ByteArray) (port : Int) (sw target ss sn : ByteArray) (ga : Option Addr) (gn gc : Nat) : (Tryz.prog.info? 122).map (·.size) = some (r09C ev what ad port sw target ss sn ga gn gc).size := r09_info
theorem size_setRow (w : World) (g : Nat) (cs : Array Value) : (w.setRow g cs).heap.size = w.heap.size := by simp [World.setRow]
set_option maxHeartbeats 8000000 in
set_option maxRecDepth 100000 in
theorem noteOf_at {w : World} {B : Nat} {x : NV} (h : NoteIn w B x) (hg : x.gn ≤ 20) :
    Calls Tryz.prog 39 #[x.v] w fun e w' => ∃ ga gn gc, e = .returned (.agg (r09C x.kind x.what (bS x.addr) x.port x.sw x.target x.ss x.sn ga gn gc)) ∧ Kept noBlock w w' := by
  obtain ⟨kind, what, xa, xn, xc, addr, port, sw, target, ss, sn, ga, gn, gc⟩ := x
  obtain ⟨⟨hal, had⟩, L, hL, hLs⟩ := h
  simp only at hal had hL hLs hg
  have hlg := hLs.run_len strsT
  have HA := Lib.hid (fun (W : World) (hW : Kept noBlock w W) => bytes_str (SlK.keptNone had hW))
  have HLS := Lib.hid hLs
  have HL := Lib.hid hL
  have hc2 := HA.out _ (((Kept.refl noBlock w).alloc (.cells #[.string kind, .string what, .slice xa xn xc, .int .u32 port, .string sw, .string target, .string ss, .string sn, .slice ga gn gc] 67)).alloc (.cells r09Z 122))
  have HC2 := Lib.hid hc2
  have HB0 := Lib.hid (Blk.new w 67 #[.string kind, .string what, .slice xa xn xc, .int .u32 port, .string sw, .string target, .string ss, .string sn, .slice ga gn gc])
  clear hal had hL hLs hc2
  unfold NV.v
  unfold r09Z at HC2
  have hc2 := HC2.out
  go_enter Tryz.func39, Tryz.ntmps39
  go_wp2_with (first
    | (refine wpList_rd rfl (d := 18) rfl (.agg (r09B kind what (bS addr) port)) (by kernel_rfl) ?_)
    | (refine wpList_store_row rfl 122 (.tmp 3) (.tmp 18) rfl (w.heap.size + 1 + 1) (r09B kind what (bS addr) port) rfl rfl 122 r09Z (Blk.new_at _ _ _ (by rw [sz_alloc, sz_alloc])) (r09B_info _ _ _ _) rfl (r09B_one _ _ _ _) ?_))
  clear hc2
  have hbz : Blk (((w.alloc (.cells #[.string kind, .string what, .slice xa xn xc, .int .u32 port, .string sw, .string target, .string ss, .string sn, .slice ga gn gc] 67)).alloc (.cells #[.int .u8 0, .int .u32 0, .string ⟨#[]⟩, .int .u16 0, .int .i32 0, .int .i32 0, .int .i32 0, .int .u8 0, .string ⟨#[]⟩, .string ⟨#[]⟩, .string ⟨#[]⟩, .slice none 0 0, .string ⟨#[]⟩, .slice none 0 0, .int .i64 0, .string ⟨#[]⟩, .string ⟨#[]⟩, .string ⟨#[]⟩, .string ⟨#[]⟩, .int .u32 0, .string ⟨#[]⟩, .string ⟨#[]⟩, .string ⟨#[]⟩, .string ⟨#[]⟩, .slice none 0 0, .int .u32 0, .string ⟨#[]⟩] 122)).alloc (.cells #[.int .u8 0, .int .u32 0, .string ⟨#[]⟩, .int .u16 0, .int .i32 0, .int .i32 0, .int .i32 0, .int .u8 0, .string ⟨#[]⟩, .string ⟨#[]⟩, .string ⟨#[]⟩, .slice none 0 0, .string ⟨#[]⟩, .slice none 0 0, .int .i64 0, .string ⟨#[]⟩, .string ⟨#[]⟩, .string ⟨#[]⟩, .string ⟨#[]⟩, .int .u32 0, .string ⟨#[]⟩, .string ⟨#[]⟩, .string ⟨#[]⟩, .string ⟨#[]⟩, .slice none 0 0, .int .u32 0, .string ⟨#[]⟩] 122)) (w.heap.size + 1 + 1) 122 r09Z := Blk.new_at _ _ _ (by rw [sz_alloc, sz_alloc])
  have HBP : Hid (Blk ((((w.alloc (.cells #[.string kind, .string what, .slice xa xn xc, .int .u32 port, .string sw, .string target, .string ss, .string sn, .slice ga gn gc] 67)).alloc (.cells #[.int .u8 0, .int .u32 0, .string ⟨#[]⟩, .int .u16 0, .int .i32 0, .int .i32 0, .int .i32 0, .int .u8 0, .string ⟨#[]⟩, .string ⟨#[]⟩, .string ⟨#[]⟩, .slice none 0 0, .string ⟨#[]⟩, .slice none 0 0, .int .i64 0, .string ⟨#[]⟩, .string ⟨#[]⟩, .string ⟨#[]⟩, .string ⟨#[]⟩, .int .u32 0, .string ⟨#[]⟩, .string ⟨#[]⟩, .string ⟨#[]⟩, .string ⟨#[]⟩, .slice none 0 0, .int .u32 0, .string ⟨#[]⟩] 122)).alloc (.cells #[.int .u8 0, .int .u32 0, .string ⟨#[]⟩, .int .u16 0, .int .i32 0, .int .i32 0, .int .i32 0, .int .u8 0, .string ⟨#[]⟩, .string ⟨#[]⟩, .string ⟨#[]⟩, .slice none 0 0, .string ⟨#[]⟩, .slice none 0 0, .int .i64 0, .string ⟨#[]⟩, .string ⟨#[]⟩, .string ⟨#[]⟩, .string ⟨#[]⟩, .int .u32 0, .string ⟨#[]⟩, .string ⟨#[]⟩, .string ⟨#[]⟩, .string ⟨#[]⟩, .slice none 0 0, .int .u32 0, .string ⟨#[]⟩] 122)).setRow (w.heap.size + 1 + 1) (r09B kind what (bS addr) port)) w.heap.size 67 #[.string kind, .string what, .slice xa xn xc, .int .u32 port, .string sw, .string target, .string ss, .string sn, .slice ga gn gc]) := Lib.hid ((setRow_other _ _ _ _ (by omega)).trans ((HB0.out.alloc _).alloc _))
  have HBR : Hid (Blk ((((w.alloc (.cells #[.string kind, .string what, .slice xa xn xc, .int .u32 port, .string sw, .string target, .string ss, .string sn, .slice ga gn gc] 67)).alloc (.cells #[.int .u8 0, .int .u32 0, .string ⟨#[]⟩, .int .u16 0, .int .i32 0, .int .i32 0, .int .i32 0, .int .u8 0, .string ⟨#[]⟩, .string ⟨#[]⟩, .string ⟨#[]⟩, .slice none 0 0, .string ⟨#[]⟩, .slice none 0 0, .int .i64 0, .string ⟨#[]⟩, .string ⟨#[]⟩, .string ⟨#[]⟩, .string ⟨#[]⟩, .int .u32 0, .string ⟨#[]⟩, .string ⟨#[]⟩, .string ⟨#[]⟩, .string ⟨#[]⟩, .slice none 0 0, .int .u32 0, .string ⟨#[]⟩] 122)).alloc (.cells #[.int .u8 0, .int .u32 0, .string ⟨#[]⟩, .int .u16 0, .int .i32 0, .int .i32 0, .int .i32 0, .int .u8 0, .string ⟨#[]⟩, .string ⟨#[]⟩, .string ⟨#[]⟩, .slice none 0 0, .string ⟨#[]⟩, .slice none 0 0, .int .i64 0, .string ⟨#[]⟩, .string ⟨#[]⟩, .string ⟨#[]⟩, .string ⟨#[]⟩, .int .u32 0, .string ⟨#[]⟩, .string ⟨#[]⟩, .string ⟨#[]⟩, .string ⟨#[]⟩, .slice none 0 0, .int .u32 0, .string ⟨#[]⟩] 122)).setRow (w.heap.size + 1 + 1) (r09B kind what (bS addr) port)) (w.heap.size + 1) 122 r09Z) := Lib.hid ((setRow_other _ _ _ _ (by omega)).trans (Blk.alloc (Blk.new_at _ _ _ (by rw [sz_alloc])) _))
  have HBO : Hid (Blk ((((w.alloc (.cells #[.string kind, .string what, .slice xa xn xc, .int .u32 port, .string sw, .string target, .string ss, .string sn, .slice ga gn gc] 67)).alloc (.cells #[.int .u8 0, .int .u32 0, .string ⟨#[]⟩, .int .u16 0, .int .i32 0, .int .i32 0, .int .i32 0, .int .u8 0, .string ⟨#[]⟩, .string ⟨#[]⟩, .string ⟨#[]⟩, .slice none 0 0, .string ⟨#[]⟩, .slice none 0 0, .int .i64 0, .string ⟨#[]⟩, .string ⟨#[]⟩, .string ⟨#[]⟩, .string ⟨#[]⟩, .int .u32 0, .string ⟨#[]⟩, .string ⟨#[]⟩, .string ⟨#[]⟩, .string ⟨#[]⟩, .slice none 0 0, .int .u32 0, .string ⟨#[]⟩] 122)).alloc (.cells #[.int .u8 0, .int .u32 0, .string ⟨#[]⟩, .int .u16 0, .int .i32 0, .int .i32 0, .int .i32 0, .int .u8 0, .string ⟨#[]⟩, .string ⟨#[]⟩, .string ⟨#[]⟩, .slice none 0 0, .string ⟨#[]⟩, .slice none 0 0, .int .i64 0, .string ⟨#[]⟩, .string ⟨#[]⟩, .string ⟨#[]⟩, .string ⟨#[]⟩, .int .u32 0, .string ⟨#[]⟩, .string ⟨#[]⟩, .string ⟨#[]⟩, .string ⟨#[]⟩, .slice none 0 0, .int .u32 0, .string ⟨#[]⟩] 122)).setRow (w.heap.size + 1 + 1) (r09B kind what (bS addr) port)) (w.heap.size + 1 + 1) 122 (r09B kind what (bS addr) port)) := Lib.hid (setRow_heap _ _ _ _ _ _ hbz)
  have HK3 : Hid (Kept noBlock w ((((w.alloc (.cells #[.string kind, .string what, .slice xa xn xc, .int .u32 port, .string sw, .string target, .string ss, .string sn, .slice ga gn gc] 67)).alloc (.cells #[.int .u8 0, .int .u32 0, .string ⟨#[]⟩, .int .u16 0, .int .i32 0, .int .i32 0, .int .i32 0, .int .u8 0, .string ⟨#[]⟩, .string ⟨#[]⟩, .string ⟨#[]⟩, .slice none 0 0, .string ⟨#[]⟩, .slice none 0 0, .int .i64 0, .string ⟨#[]⟩, .string ⟨#[]⟩, .string ⟨#[]⟩, .string ⟨#[]⟩, .int .u32 0, .string ⟨#[]⟩, .string ⟨#[]⟩, .string ⟨#[]⟩, .string ⟨#[]⟩, .slice none 0 0, .int .u32 0, .string ⟨#[]⟩] 122)).alloc (.cells #[.int .u8 0, .int .u32 0, .string ⟨#[]⟩, .int .u16 0, .int .i32 0, .int .i32 0, .int .i32 0, .int .u8 0, .string ⟨#[]⟩, .string ⟨#[]⟩, .string ⟨#[]⟩, .slice none 0 0, .string ⟨#[]⟩, .slice none 0 0, .int .i64 0, .string ⟨#[]⟩, .string ⟨#[]⟩, .string ⟨#[]⟩, .string ⟨#[]⟩, .int .u32 0, .string ⟨#[]⟩, .string ⟨#[]⟩, .string ⟨#[]⟩, .string ⟨#[]⟩, .slice none 0 0, .int .u32 0, .string ⟨#[]⟩] 122)).setRow (w.heap.size + 1 + 1) (r09B kind what (bS addr) port))) := Lib.hid (((((Kept.refl noBlock w).alloc _).alloc _).alloc _).setRow (fun h => by omega) _)
  have HZ3 : Hid (((((w.alloc (.cells #[.string kind, .string what, .slice xa xn xc, .int .u32 port, .string sw, .string target, .string ss, .string sn, .slice ga gn gc] 67)).alloc (.cells #[.int .u8 0, .int .u32 0, .string ⟨#[]⟩, .int .u16 0, .int .i32 0, .int .i32 0, .int .i32 0, .int .u8 0, .string ⟨#[]⟩, .string ⟨#[]⟩, .string ⟨#[]⟩, .slice none 0 0, .string ⟨#[]⟩, .slice none 0 0, .int .i64 0, .string ⟨#[]⟩, .string ⟨#[]⟩, .string ⟨#[]⟩, .string ⟨#[]⟩, .int .u32 0, .string ⟨#[]⟩, .string ⟨#[]⟩, .string ⟨#[]⟩, .string ⟨#[]⟩, .slice none 0 0, .int .u32 0, .string ⟨#[]⟩] 122)).alloc (.cells #[.int .u8 0, .int .u32 0, .string ⟨#[]⟩, .int .u16 0, .int .i32 0, .int .i32 0, .int .i32 0, .int .u8 0, .string ⟨#[]⟩, .string ⟨#[]⟩, .string ⟨#[]⟩, .slice none 0 0, .string ⟨#[]⟩, .slice none 0 0, .int .i64 0, .string ⟨#[]⟩, .string ⟨#[]⟩, .string ⟨#[]⟩, .string ⟨#[]⟩, .int .u32 0, .string ⟨#[]⟩, .string ⟨#[]⟩, .string ⟨#[]⟩, .string ⟨#[]⟩, .slice none 0 0, .int .u32 0, .string ⟨#[]⟩] 122)).setRow (w.heap.size + 1 + 1) (r09B kind what (bS addr) port)).heap.size = w.heap.size + 3) := Lib.hid (by rw [size_setRow, sz_alloc, sz_alloc, sz_alloc])
  clear hbz HC2 HB0
  generalize hw3 : ((((w.alloc (.cells #[.string kind, .string what, .slice xa xn xc, .int .u32 port, .string sw, .string target, .string ss, .string sn, .slice ga gn gc] 67)).alloc (.cells #[.int .u8 0, .int .u32 0, .string ⟨#[]⟩, .int .u16 0, .int .i32 0, .int .i32 0, .int .i32 0, .int .u8 0, .string ⟨#[]⟩, .string ⟨#[]⟩, .string ⟨#[]⟩, .slice none 0 0, .string ⟨#[]⟩, .slice none 0 0, .int .i64 0, .string ⟨#[]⟩, .string ⟨#[]⟩, .string ⟨#[]⟩, .string ⟨#[]⟩, .int .u32 0, .string ⟨#[]⟩, .string ⟨#[]⟩, .string ⟨#[]⟩, .string ⟨#[]⟩, .slice none 0 0, .int .u32 0, .string ⟨#[]⟩] 122)).alloc (.cells #[.int .u8 0, .int .u32 0, .string ⟨#[]⟩, .int .u16 0, .int .i32 0, .int .i32 0, .int .i32 0, .int .u8 0, .string ⟨#[]⟩, .string ⟨#[]⟩, .string ⟨#[]⟩, .slice none 0 0, .string ⟨#[]⟩, .slice none 0 0, .int .i64 0, .string ⟨#[]⟩, .string ⟨#[]⟩, .string ⟨#[]⟩, .string ⟨#[]⟩, .int .u32 0, .string ⟨#[]⟩, .string ⟨#[]⟩, .string ⟨#[]⟩, .string ⟨#[]⟩, .slice none 0 0, .int .u32 0, .string ⟨#[]⟩] 122)).setRow (w.heap.size + 1 + 1) (r09B kind what (bS addr) port)) = W3 at *
  clear hw3
  go_loopg [4, 5] gn (fun j va vi wr => ∃ (i : Nat) (A : Option Addr) (c : Nat), i + j = gn ∧ vi = .int .i64 i ∧ va = .slice A i c ∧ wr.ownsRow W3.heap.size 171 5 (.slice A i c) i ((L.take i).flatMap itC) ∧ Kept noBlock W3 wr)
  case atStart => exact ⟨0, none, 0, by omega, rfl, rfl, World.ownsRow_nil _ _ _ _, Kept.refl _ _⟩
  case round =>
    obtain ⟨i, A, c, hij, rfl, rfl, hown, hk⟩ := hrel
    have HIJ := Lib.hid hij
    have HOWN := Lib.hid hown
    have HK := Lib.hid hk
    have hbp := HBP.out.kept hk fun e => e
    have q8 := hbp.cell 8
    simp only [List.getElem?_toArray, List.getElem?_cons_succ, List.getElem?_cons_zero] at q8
    by_cases hi : i < gn
    · obtain ⟨s, hs⟩ : ∃ s, L[i]? = some s := ⟨_, List.getElem?_eq_getElem (by have := HL.out; omega)⟩
      obtain ⟨g, off, hidx, -, -, h3⟩ := (HLS.out.keptNone (HK3.out.trans hk fun _ _ e => e)).run_index strsT (i := (i : Int)) (k := i) rfl hi
      have c0 : wr.cell? ⟨g, off, none⟩ = some (.string s) := h3 0 _ (by rw [Nat.mul_one, Nat.add_zero, List.getElem?_map, hs]; rfl)
      have HS := Lib.hid hs
      clear hij hown hk hbp h3 hs
      go_wp2_with (at_builtin; go_must (refine wpList_append_sl _ it03sT rfl (.tmp 27) (.tmp 35) rfl W3.heap.size _ i ((L.take i).flatMap itC) rfl (World.ownsRow.alloc HOWN.out _) _ 1 [.string s, .string ⟨#[]⟩, .slice none 0 0, .int .i64 0, .string ⟨#[]⟩] rfl (Sl.made_at (Blk.new _ 171 #[.string s, .string ⟨#[]⟩, .slice none 0 0, .int .i64 0, .string ⟨#[]⟩]) _ rfl rfl one_max) (by simp [Value.oneCell']) ?c1 ?c2 ?_))
      case c1 => omega
      case c2 => simp only [sz_alloc]; have := HK.out.size; omega
      intro v' w6 hap
      have hk6 := hap.below (World.ownsRow.alloc HOWN.out (.cells #[.string s, .string ⟨#[]⟩, .slice none 0 0, .int .i64 0, .string ⟨#[]⟩] 171)) (HK.out.alloc (.cells #[.string s, .string ⟨#[]⟩, .slice none 0 0, .int .i64 0, .string ⟨#[]⟩] 171)) (Nat.le_refl _)
      obtain ⟨A6, c6, rfl, -, -⟩ := (Sl.of_own hap.own).shape
      have FIN : Hid (w6.ownsRow W3.heap.size 171 5 (.slice A6 (i + 1) c6) (i + 1) ((L.take (i + 1)).flatMap itC) ∧ Kept noBlock W3 w6) := Lib.hid ⟨by
        have e : (L.take (i + 1)).flatMap itC = (L.take i).flatMap itC ++ itC s := by rw [List.take_add_one, HS.out, List.flatMap_append]; simp
        rw [e]; exact hap.own, hk6⟩
      clear hap hk6 q8 c0
      go_wp2_with fail
      go_roundg (gn - (i + 1))
      case measure => have := HIJ.out; omega
      case rel => exact ⟨i + 1, A6, c6, by have := HIJ.out; omega, by go_num, rfl, FIN.out.1, FIN.out.2⟩
    · have q4 := hbp.cell 4
      have q5 := hbp.cell 5
      have q6 := hbp.cell 6
      have q7 := hbp.cell 7
      simp only [List.getElem?_toArray, List.getElem?_cons_succ, List.getElem?_cons_zero] at q4 q5 q6 q7
      have hb := HBO.out.kept hk fun e => e
      have e0 : wr.cell? ⟨w.heap.size + 1 + 1, 20, none⟩ = some (.string ⟨#[]⟩) := hb.cell 20
      have e1 : wr.cell? ⟨w.heap.size + 1 + 1, 21, none⟩ = some (.string ⟨#[]⟩) := hb.cell 21
      have e2 : wr.cell? ⟨w.heap.size + 1 + 1, 22, none⟩ = some (.string ⟨#[]⟩) := hb.cell 22
      have e3 : wr.cell? ⟨w.heap.size + 1 + 1, 23, none⟩ = some (.string ⟨#[]⟩) := hb.cell 23
      have e4 : wr.cell? ⟨w.heap.size + 1 + 1, 24, none⟩ = some (.slice none 0 0) := hb.cell 24
      have f0 := hb.frozen 20
      have f1 := hb.frozen 21
      have f2 := hb.frozen 22
      have f3 := hb.frozen 23
      have f4 := hb.frozen 24
      have hd : Blk (((((wr.setCell ⟨w.heap.size + 1 + 1, 20, none⟩ (.string sw)).setCell ⟨w.heap.size + 1 + 1, 21, none⟩ (.string target)).setCell ⟨w.heap.size + 1 + 1, 22, none⟩ (.string ss)).setCell ⟨w.heap.size + 1 + 1, 23, none⟩ (.string sn)).setCell ⟨w.heap.size + 1 + 1, 24, none⟩ (.slice A i c)) (w.heap.size + 1 + 1) 122 (r09C kind what (bS addr) port sw target ss sn A i c) := ((((hb.set_ 20 (.string sw)).set_ 21 (.string target)).set_ 22 (.string ss)).set_ 23 (.string sn)).set_ 24 (.slice A i c)
      have hkS : Kept (fun k => k = w.heap.size + 1 + 1) wr (((((wr.setCell ⟨w.heap.size + 1 + 1, 20, none⟩ (.string sw)).setCell ⟨w.heap.size + 1 + 1, 21, none⟩ (.string target)).setCell ⟨w.heap.size + 1 + 1, 22, none⟩ (.string ss)).setCell ⟨w.heap.size + 1 + 1, 23, none⟩ (.string sn)).setCell ⟨w.heap.size + 1 + 1, 24, none⟩ (.slice A i c)) := (((((Kept.refl (fun k => k = w.heap.size + 1 + 1) wr).setCell (p := ⟨w.heap.size + 1 + 1, 20, none⟩) (fun _ => rfl) _).setCell (p := ⟨w.heap.size + 1 + 1, 21, none⟩) (fun _ => rfl) _).setCell (p := ⟨w.heap.size + 1 + 1, 22, none⟩) (fun _ => rfl) _).setCell (p := ⟨w.heap.size + 1 + 1, 23, none⟩) (fun _ => rfl) _).setCell (p := ⟨w.heap.size + 1 + 1, 24, none⟩) (fun _ => rfl) _
      have hr : Blk (((((wr.setCell ⟨w.heap.size + 1 + 1, 20, none⟩ (.string sw)).setCell ⟨w.heap.size + 1 + 1, 21, none⟩ (.string target)).setCell ⟨w.heap.size + 1 + 1, 22, none⟩ (.string ss)).setCell ⟨w.heap.size + 1 + 1, 23, none⟩ (.string sn)).setCell ⟨w.heap.size + 1 + 1, 24, none⟩ (.slice A i c)) (w.heap.size + 1) 122 r09Z := (HBR.out.kept hk fun e => e).kept hkS (by omega)
      have HD := Lib.hid hd
      have HR := Lib.hid hr
      have HKW := Lib.hid ((HK3.out.trans hk fun _ _ e => e).trans hkS fun k hlt e => by omega)
      clear hij hown hk hbp hb hd hr hkS
      go_upto_region 8 with (fail)
      generalize (((((wr.setCell ⟨w.heap.size + 1 + 1, 20, none⟩ (.string sw)).setCell ⟨w.heap.size + 1 + 1, 21, none⟩ (.string target)).setCell ⟨w.heap.size + 1 + 1, 22, none⟩ (.string ss)).setCell ⟨w.heap.size + 1 + 1, 23, none⟩ (.string sn)).setCell ⟨w.heap.size + 1 + 1, 24, none⟩ (.slice A i c)) = Wx at *
      clear e0 e1 e2 e3 e4 f0 f1 f2 f3 f4 q4 q5 q6 q7 q8
      apply wp_region_lit
      refine wpList_load_row rfl 122 (.tmp 3) rfl (w.heap.size + 1 + 1) rfl 122 (r09C kind what (bS addr) port sw target ss sn A i c) (0, 0) _ HD.out Tryz.underlying122 rfl (r09C_info _ _ _ _ _ _ _ _ _ _ _) ?_
      refine wpList_store_row rfl 122 (.tmp 2) (.tmp 52) rfl (w.heap.size + 1) (r09C kind what (bS addr) port sw target ss sn A i c) rfl rfl 122 r09Z HR.out (r09C_info _ _ _ _ _ _ _ _ _ _ _) rfl (r09C_one _ _ _ _ _ _ _ _ _ _ _) ?_
      go_wp2_with fail
      refine bodyPost_ret (results_cell_row rfl _ _ (w.heap.size + 1) 122 (r09C kind what (bS addr) port sw target ss sn A i c) (0, 0) _ rfl (setRow_heap _ _ _ _ _ _ HR.out) Tryz.underlying122 rfl (r09C_info _ _ _ _ _ _ _ _ _ _ _)) rfl ?_
      exact ⟨A, i, c, rfl, HKW.out.setRow (fun h => by omega) _⟩
end Go.Proofs.YtdcdefkloibfnaaGreatDoor

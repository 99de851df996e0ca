/- A script's element, read: whatever can be read there is something that happens. -/
import Derived.Test.YtooedjedncokpaaOpen
import Derived.Test.YtooedjedncokpaaExAct
import Derived.OpenShut
namespace Go.Proofs.Ytooedjedncokpaa
set_option linter.unusedVariables false
open Go.ChangeShapes Go.WideShapes Go.Deep Go.RowKit
section
variable {H : Type} {enc : TypeId × Value → H} {P : Program} {w : World} {base : Nat} {spare : Nat → Bool} {held : Bool}
theorem field_read {t : TypeId} {fs : Array Field} {fuel : Nat} {cs : List Value} {x : DataW H × List MemPlace} (ht : P.underlying t = some (.struct fs)) (h : DataW.trod enc P w base spare held fuel t cs = some x) {i : Nat} {f : Field} (hf : fs[i]? = some f)
    {k : Nat} (hk : P.cellsOf f.type = k) {c : List Value} (hc : (cs.drop f.offset).take k = c) : ∃ n y, DataW.trod enc P w base spare held n f.type c = some y := by
  obtain ⟨xs, n, _, _, _, hl, hg⟩ := DataW.trod_struct ht h
  have h1 := hg i f hf
  have hi : i < xs.length := by rw [hl]; exact (Array.getElem?_eq_some_iff.1 hf).1
  rw [hk, hc, List.getElem?_eq_getElem hi] at h1
  exact ⟨n, _, h1⟩
theorem slice_read {t e : TypeId} {fuel : Nat} {c : Value} {x : DataW H × List MemPlace} (ht : P.underlying t = some (.slice e)) (h : DataW.trod enc P w base spare held fuel t [c] = some x) : ∃ A n k, c = .slice A n k := by
  rcases DataW.trod_slice ht h with ⟨h1, _⟩ | ⟨a, len, cap, _, _, _, _, h1, _⟩
  · simp only [List.cons.injEq, and_true] at h1; exact ⟨_, _, _, h1⟩
  · simp only [List.cons.injEq, and_true] at h1; exact ⟨_, _, _, h1⟩
end
def evCells (e : XEv) : List Value := [.int .i64 e.kind, .int .i64 e.try_, .int .u32 e.f.code, .string e.f.text, .int .u16 e.f.level, .int .i32 e.f.recv, .int .i32 e.f.need, .int .i32 e.f.fail, .int .u8 e.f.data, .string e.f.write, .string e.f.space, .string e.f.name, e.f.args, e.f.id, .bool e.well, .int .i64 e.why, .int .u64 e.span]
theorem ev17 {w : World} {g off : Nat} {e : XEv} (h : ∀ j u, (evCells e)[j]? = some u → w.cell? ⟨g, off + j, none⟩ = some u) : w.cell? ⟨g, off, none⟩ = some (.int .i64 e.kind) ∧ w.cell? ⟨g, off + 1, none⟩ = some (.int .i64 e.try_) ∧ w.cell? ⟨g, off + 2, none⟩ = some (.int .u32 e.f.code) ∧ w.cell? ⟨g, off + 3, none⟩ = some (.string e.f.text) ∧ w.cell? ⟨g, off + 4, none⟩ = some (.int .u16 e.f.level) ∧ w.cell? ⟨g, off + 5, none⟩ = some (.int .i32 e.f.recv) ∧ w.cell? ⟨g, off + 6, none⟩ = some (.int .i32 e.f.need) ∧ w.cell? ⟨g, off + 7, none⟩ = some (.int .i32 e.f.fail) ∧ w.cell? ⟨g, off + 8, none⟩ = some (.int .u8 e.f.data) ∧ w.cell? ⟨g, off + 9, none⟩ = some (.string e.f.write) ∧ w.cell? ⟨g, off + 10, none⟩ = some (.string e.f.space) ∧ w.cell? ⟨g, off + 11, none⟩ = some (.string e.f.name) ∧ w.cell? ⟨g, off + 12, none⟩ = some (e.f.args) ∧ w.cell? ⟨g, off + 13, none⟩ = some (e.f.id) ∧ w.cell? ⟨g, off + 14, none⟩ = some (.bool e.well) ∧ w.cell? ⟨g, off + 15, none⟩ = some (.int .i64 e.why) ∧ w.cell? ⟨g, off + 16, none⟩ = some (.int .u64 e.span) := ⟨h 0 _ rfl, h 1 _ rfl, h 2 _ rfl, h 3 _ rfl, h 4 _ rfl, h 5 _ rfl, h 6 _ rfl, h 7 _ rfl, h 8 _ rfl, h 9 _ rfl, h 10 _ rfl, h 11 _ rfl, h 12 _ rfl, h 13 _ rfl, h 14 _ rfl, h 15 _ rfl, h 16 _ rfl⟩
theorem evsT : SlT Try.prog 49 62 (.agg #[.int .i64 0, .int .i64 0, .int .u32 0, .string noStr, .int .u16 0, .int .i32 0, .int .i32 0, .int .i32 0, .int .u8 0, .string noStr, .string noStr, .string noStr, .slice none 0 0, .slice none 0 0, .bool false, .int .i64 0, .int .u64 0]) 17 184 := ⟨Try.underlying49, by kernel_rfl, rfl, by decide, by decide⟩

/-- The i-th thing that happens. -/
theorem ev_at {w : World} {ok : Nat → TypeId → Prop} {v : Value} {evs : List XEv} (h : SlK w ok 17 v evs.length (evs.flatMap evCells)) {i : Nat} {e : XEv} (hi : evs[i]? = some e) :
    ∃ g off, (∀ kd w', (Instr.indexAt 49 v (.int kd (i : Int))).run Try.prog w' = .ok (.pointer (some ⟨g, off, none⟩)) w') ∧ g < w.heap.size ∧ ∀ j u, (evCells e)[j]? = some u → w.cell? ⟨g, off + j, none⟩ = some u := by
  have hlt : i < evs.length := (List.getElem?_eq_some_iff.1 hi).1
  obtain ⟨g, off, h1, h2, _, h3⟩ := h.run_index evsT (i := (i : Int)) (k := i) rfl hlt
  refine ⟨g, off, h1, h2, fun j u hu => h3 j u ?_⟩
  rw [flat_get (k := 17) (fun _ => rfl) evs i j e hi (List.getElem?_eq_some_iff.1 hu).1]
  exact hu

theorem list17 {l : List Value} (h : l.length = 17) : ∃ c0 c1 c2 c3 c4 c5 c6 c7 c8 c9 c10 c11 c12 c13 c14 c15 c16, l = [c0, c1, c2, c3, c4, c5, c6, c7, c8, c9, c10, c11, c12, c13, c14, c15, c16] := by
  obtain _ | ⟨c0, l⟩ := l
  · simp at h
  obtain _ | ⟨c1, l⟩ := l
  · simp at h
  obtain _ | ⟨c2, l⟩ := l
  · simp at h
  obtain _ | ⟨c3, l⟩ := l
  · simp at h
  obtain _ | ⟨c4, l⟩ := l
  · simp at h
  obtain _ | ⟨c5, l⟩ := l
  · simp at h
  obtain _ | ⟨c6, l⟩ := l
  · simp at h
  obtain _ | ⟨c7, l⟩ := l
  · simp at h
  obtain _ | ⟨c8, l⟩ := l
  · simp at h
  obtain _ | ⟨c9, l⟩ := l
  · simp at h
  obtain _ | ⟨c10, l⟩ := l
  · simp at h
  obtain _ | ⟨c11, l⟩ := l
  · simp at h
  obtain _ | ⟨c12, l⟩ := l
  · simp at h
  obtain _ | ⟨c13, l⟩ := l
  · simp at h
  obtain _ | ⟨c14, l⟩ := l
  · simp at h
  obtain _ | ⟨c15, l⟩ := l
  · simp at h
  obtain _ | ⟨c16, l⟩ := l
  · simp at h
  obtain _ | ⟨c, l⟩ := l
  · exact ⟨c0, c1, c2, c3, c4, c5, c6, c7, c8, c9, c10, c11, c12, c13, c14, c15, c16, rfl⟩
  · simp at h

theorem ev_read {H : Type} {enc : TypeId × Value → H} {w : World} {base : Nat} {spare : Nat → Bool} {held : Bool} (cs : List Value) (n : Nat) (y : DataW H × List MemPlace) (hl : cs.length = 17) (h : DataW.trod enc Try.prog w base spare held n 62 cs = some y) :
    ∃ e : XEv, cs = evCells e ∧ (-9223372036854775808 ≤ e.try_ ∧ e.try_ ≤ 9223372036854775807) ∧ (0 ≤ e.span ∧ e.span ≤ 18446744073709551615) := by
  obtain ⟨c0, c1, c2, c3, c4, c5, c6, c7, c8, c9, c10, c11, c12, c13, c14, c15, c16, rfl⟩ := list17 hl
  obtain ⟨nkind, ykind, hkind⟩ := field_read Try.underlying62 h (i := 0) rfl (k := 1) (c := [c0]) (by kernel_rfl) rfl
  obtain ⟨bkind, ekind, -, wkind⟩ := DataW.trod_int Try.underlying3 hkind
  obtain ⟨ntry, ytry, htry⟩ := field_read Try.underlying62 h (i := 1) rfl (k := 1) (c := [c1]) (by kernel_rfl) rfl
  obtain ⟨btry, etry, -, wtry⟩ := DataW.trod_int Try.underlying3 htry
  obtain ⟨nwell, ywell, hwell⟩ := field_read Try.underlying62 h (i := 3) rfl (k := 1) (c := [c14]) (by kernel_rfl) rfl
  obtain ⟨bwell, ewell, -⟩ := DataW.trod_bool Try.underlying4 hwell
  obtain ⟨nwhy, ywhy, hwhy⟩ := field_read Try.underlying62 h (i := 4) rfl (k := 1) (c := [c15]) (by kernel_rfl) rfl
  obtain ⟨bwhy, ewhy, -, wwhy⟩ := DataW.trod_int (k := .i64) (by kernel_rfl) hwhy
  obtain ⟨nspan, yspan, hspan⟩ := field_read Try.underlying62 h (i := 5) rfl (k := 1) (c := [c16]) (by kernel_rfl) rfl
  obtain ⟨bspan, espan, -, wspan⟩ := DataW.trod_int Try.underlying22 hspan
  obtain ⟨nf, yf, hf⟩ := field_read Try.underlying62 h (i := 2) rfl (k := 12) (c := [c2, c3, c4, c5, c6, c7, c8, c9, c10, c11, c12, c13]) (by kernel_rfl) rfl
  obtain ⟨mcode, zcode, gcode⟩ := field_read Try.underlying43 hf (i := 0) rfl (k := 1) (c := [c2]) (by kernel_rfl) rfl
  obtain ⟨fcode, qcode, -, -⟩ := DataW.trod_int Try.underlying39 gcode
  obtain ⟨mtext, ztext, gtext⟩ := field_read Try.underlying43 hf (i := 1) rfl (k := 1) (c := [c3]) (by kernel_rfl) rfl
  obtain ⟨ftext, qtext, -, -⟩ := DataW.trod_string Try.underlying9 gtext
  obtain ⟨mlevel, zlevel, glevel⟩ := field_read Try.underlying43 hf (i := 2) rfl (k := 1) (c := [c4]) (by kernel_rfl) rfl
  obtain ⟨flevel, qlevel, -, -⟩ := DataW.trod_int Try.underlying40 glevel
  obtain ⟨mrecv, zrecv, grecv⟩ := field_read Try.underlying43 hf (i := 3) rfl (k := 1) (c := [c5]) (by kernel_rfl) rfl
  obtain ⟨frecv, qrecv, -, -⟩ := DataW.trod_int Try.underlying21 grecv
  obtain ⟨mneed, zneed, gneed⟩ := field_read Try.underlying43 hf (i := 4) rfl (k := 1) (c := [c6]) (by kernel_rfl) rfl
  obtain ⟨fneed, qneed, -, -⟩ := DataW.trod_int Try.underlying21 gneed
  obtain ⟨mfail, zfail, gfail⟩ := field_read Try.underlying43 hf (i := 5) rfl (k := 1) (c := [c7]) (by kernel_rfl) rfl
  obtain ⟨ffail, qfail, -, -⟩ := DataW.trod_int Try.underlying21 gfail
  obtain ⟨mdata, zdata, gdata⟩ := field_read Try.underlying43 hf (i := 6) rfl (k := 1) (c := [c8]) (by kernel_rfl) rfl
  obtain ⟨fdata, qdata, -, -⟩ := DataW.trod_int Try.underlying5 gdata
  obtain ⟨mwrite, zwrite, gwrite⟩ := field_read Try.underlying43 hf (i := 7) rfl (k := 1) (c := [c9]) (by kernel_rfl) rfl
  obtain ⟨fwrite, qwrite, -, -⟩ := DataW.trod_string Try.underlying9 gwrite
  obtain ⟨mspace, zspace, gspace⟩ := field_read Try.underlying43 hf (i := 8) rfl (k := 1) (c := [c10]) (by kernel_rfl) rfl
  obtain ⟨fspace, qspace, -, -⟩ := DataW.trod_string Try.underlying9 gspace
  obtain ⟨mname, zname, gname⟩ := field_read Try.underlying43 hf (i := 9) rfl (k := 1) (c := [c11]) (by kernel_rfl) rfl
  obtain ⟨fname, qname, -, -⟩ := DataW.trod_string Try.underlying9 gname
  obtain ⟨margs, zargs, gargs⟩ := field_read Try.underlying43 hf (i := 10) rfl (k := 1) (c := [c12]) (by kernel_rfl) rfl
  have fargs := ()
  obtain ⟨mid, zid, gid⟩ := field_read Try.underlying43 hf (i := 11) rfl (k := 1) (c := [c13]) (by kernel_rfl) rfl
  have fid := ()
  simp only [List.cons.injEq, and_true] at ekind etry ewell ewhy espan qcode qtext qlevel qrecv qneed qfail qdata qwrite qspace qname
  subst ekind etry ewell ewhy espan qcode qtext qlevel qrecv qneed qfail qdata qwrite qspace qname
  refine ⟨⟨bkind, btry, ⟨fcode, flevel, frecv, fneed, ffail, fdata, ftext, fwrite, fspace, fname, c12, c13⟩, bwell, bwhy, bspan⟩, rfl, bounds_i64 wtry, bounds_u64 wspan⟩
end Go.Proofs.Ytooedjedncokpaa

/- slices.Clone at []string; the executor's New. -/
import Derived.Test.YtooedjedncokpaaExWalk1
namespace Go.Proofs.Ytooedjedncokpaa
set_option linter.unusedVariables false
open Go.RowKit
open Go.ChangeMaps (setBlock)

theorem strs_one {l : List ByteArray} {u : Value} (hu : u ∈ l.map Value.string) : u.oneCell' = true := by
  obtain ⟨a, _, rfl⟩ := List.mem_map.1 hu; rfl

set_option maxHeartbeats 400000 in
theorem Clone_at {ok : Nat → TypeId → Prop} {v : Value} {l : List ByteArray} {w : World} (h : SlK w ok 1 v l.length (l.map Value.string)) (hl : l.length * 16 ≤ 140737488355328) :
    Calls Try.prog 24 #[v] w fun e w' => ∃ A c, e = .returned (.slice A l.length c) ∧ Sl w' 9 1 (.slice A l.length c) l.length (l.map Value.string) ∧ Kept noBlock w w' := by
  obtain ⟨A0, cap0, rfl, -, -⟩ := h.shape
  have q := fun (w : World) (a : Option Addr) (n c n' c' : Nat) => Lib.run_eql_slice_nil w 26 9 a n c n' c' Try.underlying26
  cases A0 with
  | none =>
    have h0 : l.length = 0 := by
      rcases h.2 with ⟨A, cap, he, _, _, h3⟩
      injection he with h1 h2 h4
      rcases h3 with ⟨h0, _⟩ | ⟨g, off, cs, e, fz, hA, _⟩
      · exact h0
      · rw [hA] at h1; cases h1
    have fin : ∃ A c, Ending.returned (.slice none 0 0) = .returned (.slice A l.length c) ∧ Sl w 9 1 (.slice A l.length c) l.length (l.map Value.string) ∧ Kept noBlock w w := by
      have : l = [] := List.eq_nil_of_length_eq_zero h0
      subst this; exact ⟨none, 0, rfl, Sl.nil _ _ _, Kept.refl _ _⟩
    have FIN := Lib.hid fin
    clear fin h h0 hl
    go_enter Try.func24, Try.ntmps24
    go_wp2
    go_ret
    exact FIN.out
  | some a =>
    have HL := Lib.hid hl
    clear hl
    have h1 := h.alloc (.cells #[] 9)
    have ho : (w.alloc (.cells #[] 9)).ownsRow w.heap.size 9 1 (.slice (some ⟨w.heap.size, 0, none⟩) 0 0) 0 [] := World.ownsRow_made w #[] 0 (Nat.le_refl _) (Nat.zero_le _) rfl
    go_enter Try.func24, Try.ntmps24
    go_wp2_with (at_builtin; refine wpList_append_sl _ strsT rfl (.tmp 5) (.tmp 6) rfl w.heap.size _ 0 [] rfl ho _ _ _ rfl h1 (fun u hu => strs_one hu) ?c1 ?c2 ?_)
    case c1 => have := HL.out; omega
    case c2 => simp
    intro v' w3 hap
    go_wp2
    go_ret
    have hs3 := Sl.of_own hap.own
    obtain ⟨A3, c3, e3, -, -⟩ := hs3.shape
    rw [e3] at hs3
    subst e3
    refine ⟨A3, c3, rfl, by simpa using hs3, ?_⟩
    exact ((Kept.refl noBlock w).alloc _).trans hap.kept fun i hi h => by simp [Value.ownBlock] at h; omega

theorem cells4 {w : World} {b : Nat} {t : TypeId} {c0 c1 c2 c3 : Value} (h : Blk w b t #[c0, c1, c2, c3]) :
    w.cell? ⟨b, 0, none⟩ = some c0 ∧ w.cell? ⟨b, 1, none⟩ = some c1 ∧ w.cell? ⟨b, 2, none⟩ = some c2 ∧ w.cell? ⟨b, 3, none⟩ = some c3 := ⟨h.cell 0, h.cell 1, h.cell 2, h.cell 3⟩
def reqCells (retries extraMax wait prepares : Int) (hv : Value) (idem : Bool) (now till : Int) (m : Nat) : Array Value :=
  #[.int .i64 retries, .int .i64 extraMax, .int .u64 wait, .int .i64 prepares, hv, .bool idem, .int .u64 now, .int .u64 till, .map (some m), .int .i64 0, .int .i64 0, .int .i64 0, .int .i64 0, .bool false]
theorem freshA {retries extraMax wait prepares : Int} {hv : Value} {idem : Bool} {now till : Int} {l : List ByteArray} {w : World} (h : Sl w 9 1 hv l.length (l.map Value.string)) :
    ReqAt ((w.alloc (.map #[] 0)).alloc (.cells #[.int .i64 retries, .int .i64 extraMax, .int .u64 wait, .int .i64 prepares, hv, .bool idem, .int .u64 now, .int .u64 till, .map (some w.heap.size), .int .i64 0, .int .i64 0, .int .i64 0, .int .i64 0, .bool false] 73)) (w.heap.size + 1) w.heap.size (XReq.fresh retries extraMax wait prepares l idem now till) :=
  ⟨hv, Blk.new_at _ _ _ (by simp), (h.alloc _).alloc _, (KMap.new w).alloc _⟩
theorem freshB {retries extraMax wait prepares : Int} {hv : Value} {idem : Bool} {now till : Int} {l : List ByteArray} {w : World} {m : Nat} (h : Sl w 9 1 hv l.length (l.map Value.string)) (hm : KMap (.int .i64) (Value.int .i64) Value.string w m ([] : List (Int × ByteArray))) :
    ReqAt (w.alloc (.cells #[.int .i64 retries, .int .i64 extraMax, .int .u64 wait, .int .i64 prepares, hv, .bool idem, .int .u64 now, .int .u64 till, .map (some m), .int .i64 0, .int .i64 0, .int .i64 0, .int .i64 0, .bool false] 73)) w.heap.size m (XReq.fresh retries extraMax wait prepares l idem now till) :=
  ⟨hv, Blk.new _ _ _, h.alloc _, hm.alloc _⟩
set_option maxHeartbeats 1000000 in
theorem New_at {ok : Nat → TypeId → Prop} {retries extraMax wait prepares : Int} {v : Value} {l : List ByteArray} (idem : Bool) (now till : Int) {w : World} (h : SlK w ok 1 v l.length (l.map Value.string)) (hl : l.length * 16 ≤ 140737488355328) :
    Calls Try.prog 9 #[.agg #[.int .i64 retries, .int .i64 extraMax, .int .u64 wait, .int .i64 prepares], v, .bool idem, .int .u64 now, .int .u64 till] w fun e w' =>
      ∃ b m v', e = .returned (.tuple #[.pointer (some ⟨b, 0, none⟩), v']) ∧ w.heap.size ≤ b ∧ w.heap.size ≤ m ∧ ActsAt w' v' ((XReq.fresh retries extraMax wait prepares l idem now till).begin 40 (-1)).2 ∧
        ReqAt w' b m ((XReq.fresh retries extraMax wait prepares l idem now till).begin 40 (-1)).1 ∧ Kept noBlock w w' := by
  have HL := Lib.hid hl
  have hmm := @run_makeMap Try.prog
  have hbx := Blk.new w 24 #[.int .i64 retries, .int .i64 extraMax, .int .u64 wait, .int .i64 prepares]
  have hmp0 : KMap (.int .i64) (Value.int .i64) Value.string ((w.alloc (.cells #[.int .i64 retries, .int .i64 extraMax, .int .u64 wait, .int .i64 prepares] 24)).alloc (.map #[] 0)) (w.heap.size + 1) ([] : List (Int × ByteArray)) := by
    have := KMap.new (d := .int .i64) (key := Value.int .i64) (val := Value.string) (w.alloc (.cells #[.int .i64 retries, .int .i64 extraMax, .int .u64 wait, .int .i64 prepares] 24))
    rw [sz_alloc] at this; exact this
  have h1 := h.alloc (.cells #[.int .i64 retries, .int .i64 extraMax, .int .u64 wait, .int .i64 prepares] 24)
  have h2 := h1.drew.alloc (.map #[] 0)
  clear hl
  go_enter Try.func9, Try.ntmps9
  go_wp2_with fail
  go_region_with (go_at_call 24; refine (Clone_at (by first | exact h1.drew | exact h2) HL.out).mono ?_; rintro e w1 ⟨A1, c1, rfl, hs1, hk1⟩; obtain ⟨g0, g1, g2, g3⟩ := cells4 (Blk.kept (by first | exact hbx.drew | exact hbx.drew.alloc _) hk1 id); have g4 : w.heap.size < w1.heap.size := by (have := hk1.size; simp only [sz_drew, sz_alloc] at this; omega))
  all_goals
    go_wp2_with fail
    first
      | (have hkw : Kept noBlock w w1 := (((Kept.refl noBlock w).alloc _).drew).trans hk1 (fun _ _ h => h)
         have hA := freshA (retries := retries) (extraMax := extraMax) (wait := wait) (prepares := prepares) (idem := idem) (now := now) (till := till) hs1
         clear hk1 hs1 g0 g1 g2 g3 hbx h1 h2
         refine (begin_at 40 (-1) hA (Int.le_refl 0) (show (0 : Int) < 4611686018427387904 from by decide)).mono ?_
         rintro e w' ⟨v2, rfl, ha, hr, hk⟩
         have hkf : Kept noBlock w w' := ((hkw.alloc _).alloc _).trans hk (fun i hi h => by rcases h with rfl | rfl <;> omega)
         go_wp2
         go_ret2
         exact ⟨_, _, v2, rfl, by omega, by omega, ha, hr, hkf⟩)
      | (have hkw : Kept noBlock w w1 := (((Kept.refl noBlock w).alloc _).alloc _).drew.trans hk1 (fun _ _ h => h)
         have hmp : KMap (.int .i64) (Value.int .i64) Value.string w1 (w.heap.size + 1) ([] : List (Int × ByteArray)) := KMap.kept (hmp0.drew) hk1 id
         have hB := freshB (retries := retries) (extraMax := extraMax) (wait := wait) (prepares := prepares) (idem := idem) (now := now) (till := till) hs1 hmp
         clear hk1 hs1 g0 g1 g2 g3 hbx h1 h2 hmp
         refine (begin_at 40 (-1) hB (Int.le_refl 0) (show (0 : Int) < 4611686018427387904 from by decide)).mono ?_
         rintro e w' ⟨v2, rfl, ha, hr, hk⟩
         have hkf : Kept noBlock w w' := (hkw.alloc _).trans hk (fun i hi h => by rcases h with rfl | rfl <;> omega)
         go_wp2
         go_ret2
         exact ⟨_, _, v2, rfl, by omega, by omega, ha, hr, hkf⟩)
end Go.Proofs.Ytooedjedncokpaa

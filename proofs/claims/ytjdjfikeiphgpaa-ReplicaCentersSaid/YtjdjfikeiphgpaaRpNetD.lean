/- replica.Network: the walk. -/
import Derived.Test.YtjdjfikeiphgpaaRpCen
import Derived.RangeFuncBox
import Derived.RangeFuncWrites
import Derived.Maps.AppendAt
namespace Go.Proofs.Ytjdjfikeiphgpaa
set_option linter.unusedVariables false
open Go.RowKit Go.Shelf
open Go.ChangeMaps (setBlock)
attribute [local go_sem] Oper.semAt_some

theorem once {G : Prop} (h : ∃ T : Prop, (T → G) ∧ T) : G := by
  obtain ⟨T, h1, h2⟩ := h
  exact h1 h2
def netW (w : World) (A1 : Option Addr) (n1 c1 : Nat) : World := (((((w.alloc (.map #[] 0)).alloc (.map #[] 0)).alloc (.cells #[.map (some w.heap.size), .map (some (w.heap.size + 1)), .slice none 0 0] 74)).alloc (.cells #[.pointer (some ⟨w.heap.size + 1 + 1, 0, none⟩)] 70)).alloc (.cells #[.slice A1 n1 c1] 37))
theorem net_layout (w : World) (A1 : Option Addr) (n1 c1 : Nat) : Kept noBlock w (netW w A1 n1 c1) ∧ (netW w A1 n1 c1).heap.size = w.heap.size + 5 ∧ SiMap (netW w A1 n1 c1) w.heap.size [] ∧ CeMap (netW w A1 n1 c1) (w.heap.size + 1) [] ∧
    Blk (netW w A1 n1 c1) (w.heap.size + 1 + 1) 74 #[.map (some w.heap.size), .map (some (w.heap.size + 1)), .slice none 0 0] ∧ Blk (netW w A1 n1 c1) (w.heap.size + 1 + 1 + 1) 70 #[.pointer (some ⟨w.heap.size + 1 + 1, 0, none⟩)] ∧
    Blk (netW w A1 n1 c1) (w.heap.size + 1 + 1 + 1 + 1) 37 #[.slice A1 n1 c1] := by
  unfold netW
  refine ⟨(((((Kept.refl _ w).alloc _).alloc _).alloc _).alloc _).alloc _, by simp only [sz_alloc], ((((KMap.new w).alloc _).alloc _).alloc _).alloc _, (((?_ : CeMap ((w.alloc (.map #[] 0)).alloc (.map #[] 0)) (w.heap.size + 1) []).alloc _).alloc _).alloc _,
    ((Blk.new_at _ _ _ (by simp only [sz_alloc])).alloc _).alloc _, (Blk.new_at _ _ _ (by simp only [sz_alloc])).alloc _, Blk.new_at _ _ _ (by simp only [sz_alloc])⟩
  have h : CeMap ((w.alloc (.map #[] 0)).alloc (.map #[] 0)) (w.alloc (.map #[] 0)).heap.size [] := KMap.new _
  rw [sz_alloc] at h
  exact h
theorem Blk.grown {w w' : World} {g : Nat} {t : TypeId} {cs : Array Value} {row : Option Nat} (h : Blk w g t cs) (hg : w.grownBy w' row) (hr : ∀ r, row = some r → ∃ o : Obj, w.heap[r]? = some o ∧ o.isCells = false) : Blk w' g t cs := by
  refine (hg.block g h.lt fun e => ?_).trans h
  obtain ⟨o, ho, hc⟩ := hr g e.symm
  unfold Blk at h
  rw [h] at ho
  cases ho
  cases hc

/-- What Network hands back. -/
def NetPost (w : World) (zs : List Si) (l : List ByteArray) (fs : List Fa) (e : Ending) (w' : World) : Prop :=
  Kept noBlock w w' ∧ (((¬ (fs.map (·.1)).Nodup ∨ ∃ h ∈ l, aget h (smOf zs.reverse) = none) ∧ e = .returned (.tuple #[.slice none 0 0, .int .i64 1])) ∨
    ((fs.map (·.1)).Nodup ∧ (∀ h ∈ l, ∃ s, aget h (smOf zs.reverse) = some s) ∧ ∃ out v, NetOut (smOf zs.reverse) l fs out ∧ e = .returned (.tuple #[v, .int .i64 0]) ∧ Sl w' 9 1 v out.length (out.map Value.string) ∧ out.length ≤ 40200))

/-- The code behind the first loop. -/
def hasRF : Code → Bool
  | .rangeFunc .. => true
  | .seq a b => hasRF a || hasRF b
  | .block _ c => hasRF c
  | .scope c => hasRF c
  | _ => false
def afterRF : Code → Option Code
  | .seq a b => if hasRF a then (match afterRF a with | none => some b | some c => some (c.seq b)) else if hasRF b then afterRF b else none
  | _ => none
theorem Kept.putObj {S : Nat → Prop} {a w : World} (h : Kept S a w) {D : Nat} (hp : D < a.heap.size → S D) (o : Obj) : Kept S a (w.putObj D o) :=
  ⟨h.os, h.tape, h.output, by simp [World.putObj]; exact h.size, fun k hk hn => (World.putObj_heap_other (fun e => by subst e; exact hn (hp hk))).trans (h.block k hk hn)⟩
theorem fC_len (l : List Fa) : (l.flatMap fC).length = l.length * 2 := flat_len (k := 2) (fun _ => rfl) l
theorem fac_at {w : World} {ok : Nat → TypeId → Prop} {v : Value} {L : List Fa} {n : Nat} (h : SlK w ok 2 v n (L.flatMap fC)) {i : Nat} {s : Fa} (hi : L[i]? = some s) :
    ∃ g off, (∀ kd w', (Instr.indexAt 38 v (.int kd (i : Int))).run Try.prog w' = .ok (.pointer (some ⟨g, off, none⟩)) w') ∧ g < w.heap.size ∧ w.cell? ⟨g, off, none⟩ = some (.string s.1) ∧ w.cell? ⟨g, off + 1, none⟩ = some (.int .i64 s.2) := by
  have hlt : i < n := by
    have h1 := (List.getElem?_eq_some_iff.1 hi).1
    have h2 := h.len
    rw [fC_len] at h2
    omega
  obtain ⟨g, off, h1, h2, h4, h3⟩ := h.run_index facsT (i := (i : Int)) (k := i) rfl hlt
  refine ⟨g, off, h1, h2, h3 0 _ ?_, h3 1 _ ?_⟩
  · rw [flat_get (k := 2) (fun _ => rfl) L i 0 s hi (by decide)]; rfl
  · rw [flat_get (k := 2) (fun _ => rfl) L i 1 s hi (by decide)]; rfl
noncomputable def netRest : Code := ((Try.f15.body.bind afterRF).getD .skip)
end Go.Proofs.Ytjdjfikeiphgpaa

/- replica: the picture of its heap: the chooser, its centers, each with its racks and the hosts that wait; who owns which block. -/
import Derived.Test.YtjdjfikeiphgpaaR3Walk
import Derived.Test.YtjdjfikeiphgpaaFam
namespace Go.Proofs.Ytjdjfikeiphgpaa
set_option linter.unusedVariables false
open Go.RowKit

section
variable {α β : Type} [DecidableEq α]
theorem aget_aput (k k' : α) (v : β) : ∀ (l : List (α × β)), aget k (aput k' v l) = if k' = k then some v else aget k l
  | [] => by
    by_cases h : k' = k
    · subst h; simp [aput, aget]
    · simp [aput, aget, h]
  | (a, b) :: l => by
    by_cases h1 : a = k'
    · subst h1
      by_cases h : a = k
      · subst h; simp [aput, aget]
      · simp [aput, aget, h]
    · by_cases h2 : a = k
      · subst h2
        have h3 : ¬ k' = a := fun e => h1 e.symm
        simp [aput, aget, h1, h3]
      · simp only [aput, aget, h1, h2, if_false, aget_aput k k' v l]
theorem mem_aput {k : α} {v : β} {p : α × β} : ∀ {l : List (α × β)}, (l.map (·.1)).Nodup → p ∈ aput k v l → p = (k, v) ∨ (p ∈ l ∧ p.1 ≠ k)
  | [], _, h => by simp [aput] at h; exact .inl h
  | (a, b) :: l, hn, h => by
    have hn' : a ∉ l.map (·.1) ∧ (l.map (·.1)).Nodup := List.nodup_cons.1 hn
    by_cases h1 : a = k
    · subst h1
      simp only [aput, if_true] at h
      rcases List.mem_cons.1 h with h | h
      · exact .inl h
      · exact .inr ⟨List.mem_cons_of_mem _ h, fun e => hn'.1 (List.mem_map.2 ⟨p, h, e⟩)⟩
    · simp only [aput, h1, if_false] at h
      rcases List.mem_cons.1 h with h | h
      · subst h; exact .inr ⟨List.mem_cons_self .., h1⟩
      · rcases mem_aput hn'.2 h with h | ⟨h, h2⟩
        · exact .inl h
        · exact .inr ⟨List.mem_cons_of_mem _ h, h2⟩
theorem aput_keys {k : α} {v : β} : ∀ {l : List (α × β)}, k ∈ l.map (·.1) → (aput k v l).map (·.1) = l.map (·.1)
  | [], h => by simp at h
  | (a, b) :: l, h => by
    by_cases h1 : a = k
    · subst h1; simp [aput]
    · have : k ∈ l.map (·.1) := by
        rcases List.mem_cons.1 h with h | h
        · exact absurd h.symm h1
        · exact h
      simp [aput, h1, aput_keys this]
theorem aget_mem {k : α} {v : β} {l : List (α × β)} (h : aget k l = some v) : (k, v) ∈ l := by
  obtain ⟨A, B, rfl, _⟩ := aget_some_split h
  simp
theorem aget_of_mem {k : α} {v : β} : ∀ {l : List (α × β)}, (l.map (·.1)).Nodup → (k, v) ∈ l → aget k l = some v
  | [], _, h => by cases h
  | (a, b) :: l, hn, h => by
    have hn' : a ∉ l.map (·.1) ∧ (l.map (·.1)).Nodup := List.nodup_cons.1 hn
    rcases List.mem_cons.1 h with h | h
    · cases h; simp [aget]
    · have : ¬ a = k := fun e => hn'.1 (e ▸ List.mem_map.2 ⟨(k, v), h, rfl⟩)
      simp [aget, this, aget_of_mem hn'.2 h]
theorem aput_map {γ : Type} (f : β → γ) (k : α) (v : β) : ∀ (l : List (α × β)), (aput k v l).map (fun p => (p.1, f p.2)) = aput k (f v) (l.map fun p => (p.1, f p.2))
  | [] => by simp [aput]
  | (a, b) :: l => by
    by_cases h1 : a = k
    · subst h1; simp [aput]
    · simp [aput, h1, aput_map f k v l]
theorem aput_same {k : α} {v : β} : ∀ {l : List (α × β)}, aget k l = some v → aput k v l = l
  | [], h => by simp [aget] at h
  | (a, b) :: l, h => by
    by_cases h1 : a = k
    · subst h1; simp [aget] at h; subst h; simp [aput]
    · simp only [aget, h1, if_false] at h
      simp [aput, h1, aput_same h]
end

/-- A site: its host, its center, its rack. -/
abbrev Si := ByteArray × ByteArray × ByteArray
def sC (s : Si) : List Value := [.string s.1, .string s.2.1, .string s.2.2]
def sV (s : Si) : Value := .agg #[.string s.1, .string s.2.1, .string s.2.2]
abbrev Fa := ByteArray × Int
def fC (f : Fa) : List Value := [.string f.1, .int .i64 f.2]
theorem sitesT : SlT Try.prog 37 42 (.agg #[.string noStr, .string noStr, .string noStr]) 3 48 := ⟨Try.underlying37, by kernel_rfl, rfl, by decide, by decide⟩
theorem facsT : SlT Try.prog 38 45 (.agg #[.string noStr, .int .i64 0]) 2 24 := ⟨Try.underlying38, by kernel_rfl, rfl, by decide, by decide⟩
theorem msiM : Try.prog.underlying 71 = some (.map 9 42) := by kernel_rfl
theorem mceM : Try.prog.underlying 72 = some (.map 9 78) := by kernel_rfl
abbrev SiMap := KMap (β := Si) .string (fun s : ByteArray => Value.string s) sV
abbrev CeMap := KMap (β := Nat) .string (fun s : ByteArray => Value.string s) (fun g => .pointer (some ⟨g, 0, none⟩))

/-- Whose a block is: nobody's that writes, the chooser's, a center's. -/
inductive Own where
  | m | x | c (d : ByteArray)

/-- A center. -/
structure Cr where
  g : Nat
  mr : Nat
  need : Int
  tk : Nat
  racks : List (ByteArray × Bool)
  ws : List ByteArray

structure CrAt (w : World) (base : Nat) (own : Nat → Own) (d : ByteArray) (c : Cr) (vw : Value) : Prop where
  blk : Blk w c.g 81 #[.int .i64 c.need, .int .i64 (c.tk : Nat), .map (some c.mr), vw]
  map : SMap w c.mr c.racks
  row : w.ownsRow base 9 1 vw c.ws.length (c.ws.map Value.string)
  og : own c.g = .c d
  om : own c.mr = .c d
  ow : ∀ k, vw.ownBlock = some k → own k = .c d

section
variable {w w' : World} {base : Nat} {own own' : Nat → Own} {S : Nat → Prop}
/-- What another one does leaves a center as it is. -/
theorem CrAt.kept {d : ByteArray} {c : Cr} {vw : Value} (h : CrAt w base own d c vw) (hk : Kept S w w') (hS : ∀ k, own k = .c d → ¬ S k) (ho : ∀ k, k < w.heap.size → own' k = own k) : CrAt w' base own' d c vw :=
  ⟨h.blk.kept hk (hS _ h.og), h.map.kept hk (hS _ h.om), own_keptB h.row hk fun k e => hS k (h.ow k e), (ho _ h.blk.lt).trans h.og, (ho _ h.map.lt).trans h.om, fun k e => (ho k (own_lt h.row e)).trans (h.ow k e)⟩

/-- The chooser and all that hangs on it. -/
structure ChO (w : World) (base bX mS mC : Nat) (sm : List (ByteArray × Si)) (cs : List (ByteArray × Cr)) (out : List ByteArray) (own : Nat → Own) (vo : Value) : Prop where
  blk : Blk w bX 74 #[.map (some mS), .map (some mC), vo]
  ox : own bX = .x
  sites : SiMap w mS sm
  os : own mS = .m
  cens : CeMap w mC (cs.map fun p => (p.1, p.2.g))
  oc : own mC = .m
  row : w.ownsRow base 9 1 vo out.length (out.map Value.string)
  ow : ∀ k, vo.ownBlock = some k → own k = .x
  nd : (cs.map (·.1)).Nodup
  cr : ∀ p ∈ cs, ∃ vw, CrAt w base own p.1 p.2 vw
  far : ∀ k, own k ≠ .m → k = bX ∨ base ≤ k
  low : base ≤ w.heap.size
  top : ∀ k, w.heap.size ≤ k → own k = .m
  ne : mS ≠ mC

variable {bX mS mC : Nat} {sm : List (ByteArray × Si)} {cs : List (ByteArray × Cr)} {out : List ByteArray} {vo : Value}
/-- A step of one center. -/
theorem ChO.step {d : ByteArray} {c' : Cr} {vw' : Value} (h : ChO w base bX mS mC sm cs out own vo) (hk : Kept S w w') (hS : ∀ k, S k → own k = .c d) (hd : d ∈ cs.map (·.1)) (ho : ∀ k, k < w.heap.size → own' k = own k)
    (hf : ∀ k, own' k ≠ .m → k = bX ∨ base ≤ k) (htop : ∀ k, w'.heap.size ≤ k → own' k = .m) (hg : ∀ c, aget d cs = some c → c'.g = c.g) (hc : CrAt w' base own' d c' vw') : ChO w' base bX mS mC sm (aput d c' cs) out own' vo := by
  have hne : ∀ k o, own k = o → o ≠ .c d → ¬ S k := fun k o e hn hs => hn (e.symm.trans (hS k hs))
  refine ⟨h.blk.kept hk (hne _ _ h.ox (by simp)), (ho _ h.blk.lt).trans h.ox, h.sites.kept hk (hne _ _ h.os (by simp)), (ho _ h.sites.lt).trans h.os, ?_, (ho _ h.cens.lt).trans h.oc,
    own_keptB h.row hk fun k e => hne _ _ (h.ow k e) (by simp), fun k e => (ho k (own_lt h.row e)).trans (h.ow k e), by rw [aput_keys hd]; exact h.nd, ?_, hf, Nat.le_trans h.low hk.size, htop, h.ne⟩
  · rw [aput_map (fun c : Cr => c.g)]
    obtain ⟨⟨d0, c⟩, hm, hd0⟩ := List.mem_map.1 hd
    obtain rfl : d = d0 := hd0.symm
    have e1 := aget_of_mem h.nd hm
    have e2 : aget d (cs.map fun p => (p.1, p.2.g)) = some c.g := by
      refine aget_of_mem (by rw [List.map_map]; exact h.nd) (List.mem_map.2 ⟨_, hm, rfl⟩)
    rw [hg c e1, aput_same e2]
    exact h.cens.kept hk (hne _ _ h.oc (by simp))
  · intro p hp
    rcases mem_aput h.nd hp with rfl | ⟨hp, hne2⟩
    · exact ⟨_, hc⟩
    · obtain ⟨vw, hcr⟩ := h.cr p hp
      refine ⟨vw, hcr.kept hk (fun k e => hne _ _ e (by simpa using hne2)) ho⟩
/-- A step of the chooser alone: its block and its row. -/
theorem ChO.stepX {vo' : Value} {out' : List ByteArray} (h : ChO w base bX mS mC sm cs out own vo) (hk : Kept S w w') (hS : ∀ k, S k → own k = .x) (ho : ∀ k, k < w.heap.size → own' k = own k)
    (hf : ∀ k, own' k ≠ .m → k = bX ∨ base ≤ k) (htop : ∀ k, w'.heap.size ≤ k → own' k = .m) (hb : Blk w' bX 74 #[.map (some mS), .map (some mC), vo']) (hr : w'.ownsRow base 9 1 vo' out'.length (out'.map Value.string)) (how : ∀ k, vo'.ownBlock = some k → own' k = .x) :
    ChO w' base bX mS mC sm cs out' own' vo' := by
  have hne : ∀ k o, own k = o → o ≠ .x → ¬ S k := fun k o e hn hs => hn (e.symm.trans (hS k hs))
  refine ⟨hb, (ho _ h.blk.lt).trans h.ox, h.sites.kept hk (hne _ _ h.os (by simp)), (ho _ h.sites.lt).trans h.os, h.cens.kept hk (hne _ _ h.oc (by simp)), (ho _ h.cens.lt).trans h.oc, hr, how, h.nd, ?_, hf, Nat.le_trans h.low hk.size, htop, h.ne⟩
  intro p hp
  obtain ⟨vw, hcr⟩ := h.cr p hp
  exact ⟨vw, hcr.kept hk (fun k e => hne _ _ e (by simp)) ho⟩
/-- What writes none of it. -/
theorem ChO.kept (h : ChO w base bX mS mC sm cs out own vo) (hk : Kept S w w') (hS : ∀ k, S k → own k = .m ∧ k ≠ mS ∧ k ≠ mC) : ChO w' base bX mS mC sm cs out own vo := by
  have hne : ∀ k o, own k = o → o ≠ .m → ¬ S k := fun k o e hn hs => hn (e.symm.trans (hS k hs).1)
  refine ⟨h.blk.kept hk (hne _ _ h.ox (by simp)), h.ox, h.sites.kept hk (fun hs => (hS _ hs).2.1 rfl), h.os, h.cens.kept hk (fun hs => (hS _ hs).2.2 rfl), h.oc, own_keptB h.row hk fun k e => hne _ _ (h.ow k e) (by simp), h.ow, h.nd, ?_, h.far, Nat.le_trans h.low hk.size, fun k e => h.top k (Nat.le_trans hk.size e), h.ne⟩
  intro p hp
  obtain ⟨vw, hcr⟩ := h.cr p hp
  exact ⟨vw, hcr.kept hk (fun k e => hne _ _ e (by simp)) fun _ _ => rfl⟩
/-- What one that holds the picture may do: owned blocks alone change; what has an owner keeps it. -/
def Step (own own' : Nat → Own) (w w' : World) : Prop := Kept (fun k => own k ≠ .m) w w' ∧ ∀ k, k < w.heap.size → own' k = own k
theorem Step.trans {own'' : Nat → Own} {w'' : World} (h : Step own own' w w') (k : Step own' own'' w' w'') : Step own own'' w w'' :=
  ⟨h.1.trans k.1 fun i hi e => by rw [h.2 i hi] at e; exact e, fun i hi => (k.2 i (Nat.lt_of_lt_of_le hi h.1.size)).trans (h.2 i hi)⟩
theorem Step.of_none (h : Kept noBlock w w') : Step own own w w' := ⟨h.of_none, fun _ _ => rfl⟩
end
end Go.Proofs.Ytjdjfikeiphgpaa

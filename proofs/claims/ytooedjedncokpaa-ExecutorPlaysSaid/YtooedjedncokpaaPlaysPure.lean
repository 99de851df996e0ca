/- What holds of a request whatever happens to it. No program is named. -/
import Derived.Test.YtooedjedncokpaaRefI
namespace Go.Proofs.Ytooedjedncokpaa
set_option linter.unusedVariables false

structure Inv (k : Int) (r : XReq) : Prop where
  tries0 : 0 ≤ r.tries
  tries1 : r.tries + r.hosts.length ≤ 20
  len : r.live.length + r.hosts.length ≤ 20
  keys : ∀ p ∈ r.live, 0 ≤ p.1 ∧ p.1 < r.tries
  up : (r.live.map (·.1)).Pairwise (· < ·)
  again0 : 0 ≤ r.again
  again1 : r.again ≤ k
  prep0 : 0 ≤ r.prepared
  prep1 : r.prepared ≤ k
  extra0 : 0 ≤ r.extra
  extra1 : r.extra + r.hosts.length ≤ 20
  wait0 : 0 ≤ r.wait
  wait1 : r.wait < 18446744073709551616
  frm0 : 0 ≤ r.frm

variable {k : Int} {r : XReq}
theorem Inv.more (h : Inv k r) {m : Int} (hm : k ≤ m) : Inv m r := ⟨h.tries0, h.tries1, h.len, h.keys, h.up, h.again0, by have := h.again1; omega, h.prep0, by have := h.prep1; omega, h.extra0, h.extra1, h.wait0, h.wait1, h.frm0⟩
theorem Inv.finish (h : Inv k r) (why b : Int) : Inv k (r.finish why b).1 :=
  ⟨h.tries0, h.tries1, by have := h.len; simp only [XReq.finish, List.length_nil]; omega, by simp [XReq.finish], .nil, h.again0, h.again1, h.prep0, h.prep1, h.extra0, h.extra1, h.wait0, h.wait1, h.frm0⟩
theorem Inv.over (h : Inv k r) (why b : Int) : Inv k (r.over why b).1 := by
  unfold XReq.over; split
  · exact h.finish why b
  · exact h
theorem Inv.begin (h : Inv k r) (why b : Int) : Inv k (r.begin why b).1 := by
  unfold XReq.begin
  cases hh : r.hosts with
  | nil => exact h.over why b
  | cons s t =>
    have h1 := h.tries1
    have h2 := h.len
    have h3 := h.extra1
    have h0 := h.tries0
    rw [hh] at h1 h2 h3
    simp only [List.length_cons] at h1 h2 h3
    have hf : aget r.tries r.live = none := aget_eq_none.2 fun p hp e => by have := (h.keys p hp).2; omega
    simp only [XReq.start]
    rw [aput_none (aget_eq_none.1 hf)]
    refine ⟨by simp only; omega, by simp only; omega, by simp only [List.length_append, List.length_cons, List.length_nil]; omega, ?_, ?_, h.again0, h.again1, h.prep0, h.prep1, h.extra0, by simp only; omega, h.wait0, h.wait1, h.frm0⟩
    · intro p hp
      simp only [List.mem_append, List.mem_singleton] at hp
      rcases hp with hp | rfl
      · have := h.keys p hp; simp only; omega
      · simp only; omega
    · rw [List.map_append, List.pairwise_append]
      refine ⟨h.up, by simp, ?_⟩
      intro a ha b hb
      simp only [List.map_cons, List.map_nil, List.mem_singleton] at hb
      subst hb
      obtain ⟨p, hp, rfl⟩ := List.mem_map.1 ha
      exact (h.keys p hp).2
theorem adel_sub (n : Int) (L : List (Int × ByteArray)) : (adel n L).Sublist L := by
  induction L with
  | nil => exact .slnil
  | cons p t ih =>
    obtain ⟨a, b⟩ := p
    rw [adel]
    split
    · exact List.sublist_cons_self _ _
    · exact ih.cons_cons _
theorem Inv.gone (h : Inv k r) (n : Int) : Inv k { r with live := adel n r.live } :=
  ⟨h.tries0, h.tries1, by have := (adel_sub n r.live).length_le; have := h.len; simp only; omega, fun p hp => h.keys p ((adel_sub n r.live).subset hp), h.up.sublist ((adel_sub n r.live).map _), h.again0, h.again1, h.prep0, h.prep1, h.extra0, h.extra1, h.wait0, h.wait1, h.frm0⟩
theorem Inv.again_ (h : Inv k r) : Inv (k + 1) { r with again := r.again + 1 } :=
  ⟨h.tries0, h.tries1, h.len, h.keys, h.up, by have := h.again0; simp only; omega, by have := h.again1; simp only; omega, h.prep0, by have := h.prep1; simp only; omega, h.extra0, h.extra1, h.wait0, h.wait1, h.frm0⟩
theorem Inv.prepared_ (h : Inv k r) : Inv (k + 1) { r with prepared := r.prepared + 1 } :=
  ⟨h.tries0, h.tries1, h.len, h.keys, h.up, h.again0, by have := h.again1; simp only; omega, by have := h.prep0; simp only; omega, by have := h.prep1; simp only; omega, h.extra0, h.extra1, h.wait0, h.wait1, h.frm0⟩
theorem Inv.refused (h : Inv k r) (n why : Int) : Inv k (r.refused n why).1 := by
  unfold XReq.refused; split
  · exact h
  · exact (h.gone n).begin _ _
theorem Inv.answered (h : Inv k r) (n : Int) : Inv k (r.answered n).1 := by
  unfold XReq.answered; split
  · exact h
  · exact h.finish _ _
theorem Inv.lost (h : Inv k r) (n : Int) : Inv (k + 1) (r.lost n).1 := by
  unfold XReq.lost; split
  · exact h.more (by omega)
  · split
    · exact (Inv.again_ (h.gone n)).begin _ _
    · exact ((h.gone n).over _ _).more (by omega)
theorem Inv.prep (h : Inv k r) (n : Int) (well : Bool) : Inv (k + 1) (r.prepared_ n well).1 := by
  unfold XReq.prepared_; split
  · exact h.more (by omega)
  · split
    · exact h.more (by omega)
    · exact h.lost n
theorem Inv.failed (h : Inv k r) (n what : Int) : Inv (k + 1) (r.failed n what).1 := by
  unfold XReq.failed; split
  · exact h.more (by omega)
  · split
    · exact h.prepared_
    · split
      · exact h.again_
      · split
        · exact (Inv.again_ (h.gone n)).begin _ _
        · exact (h.finish _ _).more (by omega)
theorem Inv.step (h : Inv k r) (now : Int) (hs : r.soon now = true) : Inv k (XReq.begin { r with extra := r.extra + 1 } 40 (-1)).1 := by
  have hne : r.hosts ≠ [] := by
    intro e
    simp [XReq.soon, e] at hs
  have hf : aget r.tries r.live = none := aget_eq_none.2 fun p hp e => by have := (h.keys p hp).2; omega
  cases hh : r.hosts with
  | nil => exact absurd hh hne
  | cons s t =>
    have h3 := h.extra1
    rw [hh] at h3
    simp only [List.length_cons] at h3
    have hb := h.begin 40 (-1)
    simp only [XReq.begin, hh, XReq.start] at hb ⊢
    exact ⟨hb.tries0, hb.tries1, hb.len, hb.keys, hb.up, hb.again0, hb.again1, hb.prep0, hb.prep1, by have := h.extra0; simp only; omega, by simp only; omega, hb.wait0, hb.wait1, hb.frm0⟩
theorem Inv.tickGo (now : Int) : ∀ (n : Nat) {r : XReq}, Inv k r → Inv k (r.tickGo n now).1 := by
  intro n
  induction n with
  | zero => intro r h; exact h
  | succ n ih =>
    intro r h
    unfold XReq.tickGo
    by_cases hs : r.soon now = true
    · rw [if_pos hs]; exact ih (h.step now hs)
    · rw [if_neg hs]; exact h
theorem Inv.tick (h : Inv k r) (now : Int) : Inv k (r.tick now).1 := by
  unfold XReq.tick; split
  · exact h
  · split
    · exact h.finish _ _
    · exact Inv.tickGo now _ h
theorem Inv.act (h : Inv k r) (e : XEv) (now : Int) : Inv (k + 1) (r.act e now).1 := by
  unfold XReq.act
  split
  · exact (h.answered _).more (by omega)
  · split
    · exact h.failed _ _
    · split
      · exact h.prep _ _
      · split
        · exact h.lost _
        · split
          · exact (h.refused _ _).more (by omega)
          · exact (h.tick _).more (by omega)
theorem Inv.fresh (c0 c1 c2 c3 : Int) (l : List ByteArray) (idem : Bool) (now till : Int) (hl : l.length ≤ 20) (h0 : 0 ≤ c2) (h1 : c2 < 18446744073709551616) (h2 : 0 ≤ now) : Inv 0 (XReq.fresh c0 c1 c2 c3 l idem now till) :=
  ⟨Int.le_refl 0, by simp only [XReq.fresh]; omega, by simp only [XReq.fresh, List.length_nil]; omega, by simp [XReq.fresh], .nil, Int.le_refl 0, Int.le_refl 0, Int.le_refl 0, Int.le_refl 0, Int.le_refl 0, by simp only [XReq.fresh]; omega, h0, h1, h2⟩

/-! What the operations ask. -/
theorem Inv.okT (h : Inv k r) : okT r := ⟨h.tries0, by have := h.tries1; omega⟩
theorem Inv.okA (h : Inv k r) (hk : k ≤ 100) : okA r := ⟨h.again0, by have := h.again1; omega⟩
theorem Inv.okAg (h : Inv k r) (hk : k ≤ 100) : okAg r := ⟨by have := h.again0; omega, by have := h.again1; omega⟩
theorem Inv.rok (h : Inv k r) : ROk r := ⟨h.tries0, by have := h.tries1; omega, by have := h.len; omega, fun p hp => (h.keys p hp).2⟩
theorem Inv.tickOk (h : Inv k r) {now : Int} (hn : now < 18446744073709551616) : TickOk r now 20 :=
  ⟨hn, h.frm0, h.extra0, by have := h.extra1; omega, h.wait0, h.wait1, h.tries0, by have := h.tries1; omega, by have := h.len; omega, by decide⟩
theorem Inv.rtick (h : Inv k r) {now : Int} (hn : now < 18446744073709551616) : RTick r now 20 := ⟨h.tickOk hn, fun p hp => (h.keys p hp).2, by have := h.len; omega, by have := h.extra1; omega⟩
theorem Inv.liveOk (h : Inv k r) : liveOk r := ⟨h.up, fun p hp => ⟨(h.keys p hp).1, by have := (h.keys p hp).2; have := h.tries1; omega⟩, by have := h.len; omega⟩

/-! How much is done at once. -/
theorem acts_begin (r : XReq) (why b : Int) : (r.begin why b).2.length ≤ 1 := by
  unfold XReq.begin XReq.over XReq.start XReq.finish
  repeat' split
  all_goals simp
theorem acts_tickGo (now : Int) : ∀ (n : Nat) (r : XReq), (r.tickGo n now).2.length ≤ n := by
  intro n
  induction n with
  | zero => intro r; exact Nat.zero_le _
  | succ n ih =>
    intro r
    unfold XReq.tickGo
    split
    · have h1 := acts_begin { r with extra := r.extra + 1 } 40 (-1)
      have h2 := ih (XReq.begin { r with extra := r.extra + 1 } 40 (-1)).1
      simp only [List.length_append]; omega
    · exact Nat.zero_le _
theorem Inv.acts (h : Inv k r) (e : XEv) (now : Int) : (r.act e now).2.length ≤ 1000 := by
  have hl := h.len
  unfold XReq.act XReq.answered XReq.failed XReq.prepared_ XReq.lost XReq.refused XReq.tick
  repeat' split
  all_goals first
    | (have := acts_tickGo now r.hosts.length r; omega)
    | (refine Nat.le_trans (acts_begin _ _ _) (by decide))
    | (unfold XReq.over XReq.finish; split <;> simp)
    | (simp [XReq.finish]; done)
    | (simp; done)
end Go.Proofs.Ytooedjedncokpaa

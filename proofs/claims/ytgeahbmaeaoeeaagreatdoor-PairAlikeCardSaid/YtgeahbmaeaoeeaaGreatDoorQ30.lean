/- Plain: the trees of a term's arguments, by their numbers. Contracts: the reference's walk over the terms of a condition. Contracts: whether a condition is valid, as the reference says it. Contracts: the reference's text of a condition, of terms with parts too. Contracts: the reference's Print. -/
import Derived.Test.YtgeahbmaeaoeeaaGreatDoorQ48
import Derived.Test.YtgeahbmaeaoeeaaGreatDoorQ17
set_option linter.unusedVariables false
set_option linter.unusedSimpArgs false
namespace Go.Proofs.YtgeahbmaeaoeeaaGreatDoor
open Go.RowKit Num

theorem growA_at {l : List Trm} {d : Nat} : ∀ {ks : List Int} {nx : Nat} {xs : List Tree} {n : Nat}, growA (growF l d) ks nx = some (xs, n) → ∀ (j : Nat) (a : Int), ks[j]? = some a → ∃ (k : Nat) (x : Tree) (m : Nat), a = (k : Int) ∧ growF l d k = some (x, m) ∧ xs[j]? = some x := by
  intro ks
  induction ks with
  | nil => intro nx xs n h j a ha; simp at ha
  | cons k ks ih =>
    intro nx xs n h j a ha
    unfold growA at h
    split at h
    · rename_i hk
      split at h
      · cases h
      · rename_i x af hx
        split at h
        · cases h
        · rename_i xs' n' hr
          injection h with h; injection h with h1 h2; subst h1
          cases j with
          | zero =>
            simp at ha
            exact ⟨nx, x, af, by rw [← ha]; exact hk, hx, rfl⟩
          | succ j =>
            simp at ha
            obtain ⟨k', x', m', e1, e2, e3⟩ := ih hr j a ha
            exact ⟨k', x', m', e1, e2, by simpa using e3⟩
    · cases h
/-- The arguments' texts, in their order. -/
theorem growA_txts {l : List Trm} {d : Nat} {ks : List Int} {nx : Nat} {xs : List Tree} {n : Nat} (h : growA (growF l d) ks nx = some (xs, n)) : xs.length = ks.length := growA_len h
end Go.Proofs.YtgeahbmaeaoeeaaGreatDoor
namespace Go.Proofs.YtgeahbmaeaoeeaaGreatDoor
open Go.RowKit Num

def walkR (o : Option (List Tree × Nat)) : Int := match o with
  | none => -1
  | some (_, n) => (n : Int)
theorem walkR_cons (g : Nat → Option (Tree × Nat)) (a : Int) (r : List Int) (nx : Nat) :
    walkR (growA g (a :: r) nx) = if a = (nx : Int) then (match g nx with | none => -1 | some (_, af) => walkR (growA g r af)) else -1 := by
  conv => lhs; unfold growA
  by_cases h : a = (nx : Int)
  · rw [if_pos h, if_pos h]
    cases g nx with
    | none => rfl
    | some p =>
      obtain ⟨x, af⟩ := p
      simp only
      cases growA g r af with
      | none => rfl
      | some q => obtain ⟨xs, n⟩ := q; rfl
  · rw [if_neg h, if_neg h]; rfl
theorem walkI_growF {l : List Trm} {d k : Nat} {t : Trm} (h : l[k]? = some t) : walkI (growF l (d + 1) k) = if rtermB t then walkR (growA (growF l d) t.args (k + 1)) else -1 := by
  unfold growF
  rw [h, rterm_eq]
  simp only
  split
  · cases growA (growF l d) t.args (k + 1) with
    | none => rfl
    | some q => obtain ⟨xs, n⟩ := q; rfl
  · rfl
theorem growF_after {l : List Trm} : ∀ {d k : Nat} {T : Tree} {n : Nat}, growF l d k = some (T, n) → n ≤ l.length := by
  intro d k T n h
  have := (flat_grow d h).2
  omega
theorem LibOk_of {w w' : World} {N : Nat} (h : LibOk w) (hb : Below N w w') (hN : N = w.heap.size) : LibOk w' := by subst hN; exact h.later hb
end Go.Proofs.YtgeahbmaeaoeeaaGreatDoor
namespace Go.Proofs.YtgeahbmaeaoeeaaGreatDoor
open Go.RowKit Num

end Go.Proofs.YtgeahbmaeaoeeaaGreatDoor
namespace Go.Proofs.YtgeahbmaeaoeeaaGreatDoor
open Go.RowKit Num

theorem blk_second (w : World) (o1 : Obj) (T : TypeId) (ys : Array Value) : Blk ((w.alloc o1).alloc (.cells ys T)) (w.heap.size + 1) T ys := by
  have := Blk.new (w.alloc o1) T ys
  rwa [World.size_alloc] at this
end Go.Proofs.YtgeahbmaeaoeeaaGreatDoor
namespace Go.Proofs.YtgeahbmaeaoeeaaGreatDoor
open Go.RowKit Num

theorem growF_split {L : List Trm} {d k : Nat} {T : Tree} {m : Nat} (h : growF L (d + 1) k = some (T, m)) : ∃ t xs, L[k]? = some t ∧ T = .node t xs ∧ rtermB t = true ∧ growA (growF L d) t.args (k + 1) = some (xs, m) := by
  unfold growF at h
  split at h
  · cases h
  · rename_i t ht
    split at h
    · rename_i hc
      split at h
      · cases h
      · rename_i xs n hx
        injection h with h; injection h with h1 h2
        exact ⟨t, xs, ht, h1.symm, by rw [rterm_eq]; exact hc, by rw [hx, h2]⟩
    · cases h
theorem rterm_kind {t : Trm} (h : rtermB t = true) : ((t.kind = 1 ∨ t.kind = 2) ∧ t.num = 0 ∧ 2 ≤ t.args.length) ∨ ((t.kind = 3 ∨ t.kind = 4) ∧ 0 ≤ t.num ∧ t.num ≤ 100) ∨ (t.kind = 5 ∧ 0 ≤ t.num ∧ t.num ≤ 100 ∧ 0 ≤ t.yrs ∧ t.yrs ≤ 100) ∨ ((t.kind = 6 ∨ t.kind = 8) ∧ t.num = 0) ∨
    (t.kind = 7 ∧ 0 ≤ t.num ∧ t.num ≤ 100 ∧ t.field.size ≤ 1000 ∧ t.text.size ≤ 1000) := by
  unfold rtermB at h
  simp only at h
  by_cases c1 : t.kind = 1 ∨ t.kind = 2
  · rw [if_pos c1] at h
    simp only [Bool.and_eq_true, decide_eq_true_eq] at h
    exact .inl ⟨c1, h.1.2, h.1.1⟩
  · rw [if_neg c1] at h
    by_cases c3 : t.kind = 3 ∨ t.kind = 4
    · rw [if_pos c3] at h
      simp only [Bool.and_eq_true, decide_eq_true_eq, betwB] at h
      exact .inr (.inl ⟨c3, by omega, by omega⟩)
    · rw [if_neg c3] at h
      by_cases c5 : t.kind = 5
      · rw [if_pos c5] at h
        simp only [Bool.and_eq_true, decide_eq_true_eq, betwB] at h
        exact .inr (.inr (.inl ⟨c5, by omega, by omega, by omega, by omega⟩))
      · rw [if_neg c5] at h
        by_cases c6 : t.kind = 6 ∨ t.kind = 8
        · rw [if_pos c6] at h
          simp only [Bool.and_eq_true, decide_eq_true_eq] at h
          exact .inr (.inr (.inr (.inl ⟨c6, by omega⟩)))
        · rw [if_neg c6] at h
          by_cases c7 : t.kind = 7
          · rw [if_pos c7] at h
            simp only [Bool.and_eq_true, decide_eq_true_eq, betwB] at h
            have hn := name_len h.1.1.2
            rw [blOf_len] at hn
            exact .inr (.inr (.inr (.inr ⟨c7, by omega, by omega, by omega, by omega⟩)))
          · rw [if_neg c7] at h; cases h
end Go.Proofs.YtgeahbmaeaoeeaaGreatDoor

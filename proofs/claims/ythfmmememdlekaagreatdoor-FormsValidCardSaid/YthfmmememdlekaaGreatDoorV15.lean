/- Words for memory: parts of a condition that are collected while a text is read. Plain: the reader of conditions, step by step. No program stands in it. -/
import Derived.Test.YthfmmememdlekaaGreatDoorV14
import Derived.Test.YthfmmememdlekaaGreatDoorV04
set_option linter.unusedVariables false
set_option linter.unusedSimpArgs false
namespace Go.Proofs.YthfmmememdlekaaGreatDoor
open Go.RowKit Num

def ArS (w W : World) (u : Value) (c : Nat) : Prop := w.heap.size ≤ c ∧ c < W.heap.size ∧ u.ownBlock ≠ some c
structure ArgK (w W : World) (rb d : Nat) (xs : List Tree) (u : Value) (ps : List Value) : Prop where
  lt : rb < w.heap.size
  gr : w.grownBy W (some rb)
  own : W.ownsRow w.heap.size 75 1 u xs.length ps
  kids : KidZ W (ArS w W u) d ps xs
theorem own_mono {w : World} {B B' : Nat} {e : TypeId} {s n : Nat} {v : Value} {xs : List Value} (h : w.ownsRow B e s v n xs) (hB : B' ≤ B) : w.ownsRow B' e s v n xs := by
  refine ⟨h.1, ?_⟩
  rcases h.2 with h1 | ⟨g, cap, cur, h1, h2, h3⟩
  · exact .inl h1
  · exact .inr ⟨g, cap, cur, h1, by omega, h3⟩
section
variable {w W W0 W1 W2 : World} {rb d f : Nat} {xs : List Tree} {u u' p : Value} {ps : List Value} {x : Tree}
theorem ArgK.own_lt (h : ArgK w W rb d xs u ps) : ∀ g, u.ownBlock = some g → w.heap.size ≤ g ∧ g < W.heap.size := h.own.lt
theorem ArgK.call (h : ArgK w W rb d xs u ps) (hg : W.grownBy W1 (some rb)) : ArgK w W1 rb d xs u ps := by
  have hlt := h.lt
  refine ⟨h.lt, h.gr.trans hg, h.own.kept hg ?_, h.kids.keep (fun b hS => hg.block b hS.2.1 (fun e => ?_)) (fun b hS => ⟨hS.1, Nat.lt_of_lt_of_le hS.2.1 hg.size, hS.2.2⟩)⟩
  · right; intro e; have := (h.own_lt _ e).1; omega
  · injection e with e; have := hS.1; omega
/-- The first part. -/
theorem ArgK.one (hlt : rb < w.heap.size) (hg : w.grownBy W1 (some rb)) (hp : p.oneCell' = true) (hx : TreeZ W1 (fun c => w.heap.size ≤ c ∧ c < W1.heap.size) f p x) (hf : f ≤ d) :
    ArgK w (W1.alloc (.cells #[p] 75)) rb d [x] (.slice (some ⟨W1.heap.size, 0, none⟩) 1 1) [p] := by
  have hsz := hg.size
  have ha : W1.grownBy (W1.alloc (.cells #[p] 75)) (some rb) := only_of_below ((Below.refl _ _).alloc (Nat.le_refl _) _) _
  refine ⟨hlt, hg.trans ha, ?_, fun i t hi => ?_⟩
  · exact World.ownsRow_lit W1 #[p] 1 hsz (by simp [maxLen]) rfl
  · match i, hi with
    | 0, hi =>
      simp at hi; subst hi
      refine ⟨p, rfl, ((hx.deeper hf).keep (fun b hb => Below.heap_alloc W1 _ b hb.2)).mono fun b hb => ⟨hb.1, by simp; omega, ?_⟩⟩
      intro e
      have : W1.heap.size = b := by injection e
      omega
theorem ArgK.append (h : ArgK w W1 rb d xs u ps) {s : Nat} (hus : ∀ g, u.ownBlock = some g → g < s) (hs : w.heap.size ≤ s) (hx : TreeZ W1 (fun c => s ≤ c ∧ c < W1.heap.size) f p x) (hf : f ≤ d) {o : Obj}
    (hown : W2.ownsRow w.heap.size 75 1 u' (xs.length + 1) (ps ++ [p])) (hg : (W1.alloc o).grownBy W2 u.ownBlock) (hw : u'.ownBlock = u.ownBlock ∨ u'.ownBlock = some (W1.heap.size + 1)) :
    ArgK w W2 rb d (xs ++ [x]) u' (ps ++ [p]) := by
  have hlt := h.lt
  have hbl := h.own_lt
  have hsz1 : (W1.alloc o).heap.size = W1.heap.size + 1 := by simp
  have hsz : W1.heap.size + 1 ≤ W2.heap.size := by rw [← hsz1]; exact hg.size
  have hgs := h.gr.size
  have key : ∀ c, c < W1.heap.size → u.ownBlock ≠ some c → W2.heap[c]? = W1.heap[c]? := fun c hc hn =>
    (hg.block c (by omega) (fun e => hn e.symm)).trans (Below.heap_alloc W1 o c hc)
  have hnew : u'.ownBlock = u.ownBlock ∨ u'.ownBlock = some (W1.heap.size + 1) := hw
  refine ⟨h.lt, ?_, by simpa using hown, KidZ.snoc (h.kids.keep (fun b hS => key b hS.2.1 hS.2.2) (fun b hS => ⟨hS.1, by have := hS.2.1; omega, ?_⟩)) (by have := h.own.1; omega) ((((hx.deeper hf).keep (fun b hb => key b hb.2 (fun e => by have := hus b e; have := hb.1; omega))).mono (fun b hb => ⟨by have := hb.1; omega, by have := hb.2; omega, ?_⟩)))⟩
  · refine ⟨hg.os.trans h.gr.os, hg.tape.trans h.gr.tape, hg.output.trans h.gr.output, by omega, fun i hi hn => ?_⟩
    exact (key i (by omega) (fun e => by have := (hbl i e).1; omega)).trans (h.gr.block i hi hn)
  · rcases hnew with e | e
    · rw [e]; exact hS.2.2
    · rw [e]; intro e'; injection e' with e'; have := hS.2.1; omega
  · rcases hnew with e | e
    · rw [e]; intro e'; have := hus b e'; have := hb.1; omega
    · rw [e]; intro e'; injection e' with e'; have := hb.2; omega
end
end Go.Proofs.YthfmmememdlekaaGreatDoor
namespace Go.Proofs.YthfmmememdlekaaGreatDoor
open Go

section
variable {f : Nat} {r r1 r2 r3 r4 q o o2 : List UInt8} {xs ys acc : List Tree}
theorem args_1 (h : takeB (· == [40]) r = none) : PF (f + 1) .args r = .bad r := by simp only [PF]; rw [h]
theorem args_2 (h1 : takeB (· == [40]) r = some (o, r1)) (h2 : PF f .cond r1 = .bad q) : PF (f + 1) .args r = .bad q := by simp only [PF]; rw [h1]; simp only; rw [h2]
theorem args_3 (h1 : takeB (· == [40]) r = some (o, r1)) (h2 : PF f .cond r1 = .ok xs r2) (h3 : takeB (· == [44]) r2 = none) : PF (f + 1) .args r = .bad r2 := by
  simp only [PF]; rw [h1]; simp only; rw [h2]; simp only; rw [h3]
theorem args_4 (h1 : takeB (· == [40]) r = some (o, r1)) (h2 : PF f .cond r1 = .ok xs r2) (h3 : takeB (· == [44]) r2 = some (o2, r3)) (h4 : PF f .cond r3 = .bad q) : PF (f + 1) .args r = .bad q := by
  simp only [PF]; rw [h1]; simp only; rw [h2]; simp only; rw [h3]; simp only; rw [h4]
theorem args_5 (h1 : takeB (· == [40]) r = some (o, r1)) (h2 : PF f .cond r1 = .ok xs r2) (h3 : takeB (· == [44]) r2 = some (o2, r3)) (h4 : PF f .cond r3 = .ok ys r4) : PF (f + 1) .args r = PF f (.more (xs ++ ys)) r4 := by
  conv => lhs; simp only [PF]
  rw [h1]; simp only; rw [h2]; simp only; rw [h3]; simp only; rw [h4]
theorem more_1 (h : wordB r = [44]) (h1 : takeB (· == [44]) r = some (o, r1)) (h2 : PF f .cond r1 = .bad q) : PF (f + 1) (.more acc) r = .bad q := by
  simp only [PF]; rw [if_pos h, h1]; simp only; rw [h2]
theorem more_2 (h : wordB r = [44]) (h1 : takeB (· == [44]) r = some (o, r1)) (h2 : PF f .cond r1 = .ok xs r2) : PF (f + 1) (.more acc) r = PF f (.more (acc ++ xs)) r2 := by
  conv => lhs; simp only [PF]
  rw [if_pos h, h1]; simp only; rw [h2]
theorem more_3 (h : ¬ wordB r = [44]) (h1 : takeB (· == [41]) r = none) : PF (f + 1) (.more acc) r = .bad r := by simp only [PF]; rw [if_neg h, h1]
theorem more_4 (h : ¬ wordB r = [44]) (h1 : takeB (· == [41]) r = some (o, r1)) : PF (f + 1) (.more acc) r = .ok acc r1 := by simp only [PF]; rw [if_neg h, h1]
theorem comma_some (h : wordB r = [44]) : ∃ r1, takeB (· == [44]) r = some ([44], r1) := by
  unfold takeB; rw [if_pos ⟨by rw [h]; simp, by rw [h]; rfl⟩, h]; exact ⟨_, rfl⟩
end
theorem PF_len : ∀ (f : Nat) (m : Md) (r : List UInt8) (xs : List Tree) (q : List UInt8), PF f m r = .ok xs q → q.length < r.length ∧ (m = .cond → ∃ T, xs = [T]) := by
  intro f
  induction f with
  | zero => intro m r xs q h; simp [PF] at h
  | succ f ih =>
    intro m r xs q h
    cases m with
    | cond =>
      simp only [PF] at h
      split at h
      · cases h
      · rename_i w r1 ht
        have l1 := take_len ht
        split at h
        · split at h
          · cases h
          · rename_i ys q' ha
            injection h with h1 h2; subst h1; subst h2
            have := (ih _ _ _ _ ha).1
            exact ⟨by omega, fun _ => ⟨_, rfl⟩⟩
        · split at h
          · split at h
            · cases h
            · rename_i n q' hn
              injection h with h1 h2; subst h1; subst h2
              have := num_len hn
              exact ⟨by omega, fun _ => ⟨_, rfl⟩⟩
          · split at h
            · split at h
              · cases h
              · rename_i y r2 hy
                split at h
                · cases h
                · rename_i o r3 ho
                  split at h
                  · cases h
                  · rename_i n q' hn
                    injection h with h1 h2; subst h1; subst h2
                    have a1 := num_len hy
                    have a2 := take_len ho
                    have a3 := num_len hn
                    exact ⟨by omega, fun _ => ⟨_, rfl⟩⟩
            · split at h
              · split at h
                · cases h
                · rename_i fd r2 h1'
                  split at h
                  · cases h
                  · rename_i tx r3 h2'
                    split at h
                    · cases h
                    · rename_i o r4 h3'
                      split at h
                      · cases h
                      · rename_i n q' hn
                        injection h with h1 h2; subst h1; subst h2
                        have a1 := take_len h1'
                        have a2 := take_len h2'
                        have a3 := take_len h3'
                        have a4 := num_len hn
                        exact ⟨by omega, fun _ => ⟨_, rfl⟩⟩
              · injection h with h1 h2; subst h1; subst h2
                exact ⟨l1, fun _ => ⟨_, rfl⟩⟩
    | args =>
      simp only [PF] at h
      split at h
      · cases h
      · rename_i o r1 h1
        split at h
        · cases h
        · rename_i xs' r2 h2
          split at h
          · cases h
          · rename_i o2 r3 h3
            split at h
            · cases h
            · rename_i ys r4 h4
              have a1 := take_len h1
              have a2 := (ih _ _ _ _ h2).1
              have a3 := take_len h3
              have a4 := (ih _ _ _ _ h4).1
              have a5 := (ih _ _ _ _ h).1
              exact ⟨by omega, fun e => by cases e⟩
    | more acc =>
      simp only [PF] at h
      split at h
      · split at h
        · cases h
        · rename_i o r1 h1
          split at h
          · cases h
          · rename_i xs' r2 h2
            have a1 := take_len h1
            have a2 := (ih _ _ _ _ h2).1
            have a5 := (ih _ _ _ _ h).1
            exact ⟨by omega, fun e => by cases e⟩
      · split at h
        · cases h
        · rename_i o r1 h1
          injection h with h1' h2'; subst h1'; subst h2'
          exact ⟨take_len h1, fun e => by cases e⟩
end Go.Proofs.YthfmmememdlekaaGreatDoor

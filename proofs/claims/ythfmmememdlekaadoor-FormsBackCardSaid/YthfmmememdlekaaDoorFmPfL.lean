/- Plain: the reader of conditions, step by step. No program stands in it. -/
import Derived.Test.YthfmmememdlekaaDoorFmPrs
set_option linter.unusedVariables false
set_option linter.unusedSimpArgs false
namespace Go.Proofs.YthfmmememdlekaaDoor
open Go

section
variable {f : Nat} {r r1 r2 r3 r4 q o o2 : List UInt8} {xs ys acc : List Tree}
theorem args_1 (h : takeB (· == [40]) r = none) : PF (f + 1) .args r = .bad r := by simp only [PF]; rw [h]
theorem args_2 (h1 : takeB (· == [40]) r = some (o, r1)) (h2 : PF f .cond r1 = .bad q) : PF (f + 1) .args r = .bad q := by simp only [PF]; rw [h1]; simp only; rw [h2]
theorem args_3 (h1 : takeB (· == [40]) r = some (o, r1)) (h2 : PF f .cond r1 = .ok xs r2) (h3 : takeB (· == [44]) r2 = none) : PF (f + 1) .args r = .bad r2 := by
  simp only [PF]; rw [h1]; simp only; rw [h2]; simp only; rw [h3]
theorem args_4 (h1 : takeB (· == [40]) r = some (o, r1)) (h2 : PF f .cond r1 = .ok xs r2) (h3 : takeB (· == [44]) r2 = some (o2, r3)) (h4 : PF f .cond r3 = .bad q) : PF (f + 1) .args r = .bad q := by
  simp only [PF]; rw [h1]; simp only; rw [h2]; simp only; rw [h3]; simp only; rw [h4]
theorem args_5 (h1 : takeB (· == [40]) r = some (o, r1)) (h2 : PF f .cond r1 = .ok xs r2) (h3 : takeB (· == [44]) r2 = some (o2, r3)) (h4 : PF f .cond r3 = .ok ys r4) : PF (f + 1) .args r = PF f (.more (xs ++ ys)) r4 := by
  conv => lhs; simp only [PF]
  rw [h1]; simp only; rw [h2]; simp only; rw [h3]; simp only; rw [h4]
theorem more_1 (h : wordB r = [44]) (h1 : takeB (· == [44]) r = some (o, r1)) (h2 : PF f .cond r1 = .bad q) : PF (f + 1) (.more acc) r = .bad q := by
  simp only [PF]; rw [if_pos h, h1]; simp only; rw [h2]
theorem more_2 (h : wordB r = [44]) (h1 : takeB (· == [44]) r = some (o, r1)) (h2 : PF f .cond r1 = .ok xs r2) : PF (f + 1) (.more acc) r = PF f (.more (acc ++ xs)) r2 := by
  conv => lhs; simp only [PF]
  rw [if_pos h, h1]; simp only; rw [h2]
theorem more_3 (h : ¬ wordB r = [44]) (h1 : takeB (· == [41]) r = none) : PF (f + 1) (.more acc) r = .bad r := by simp only [PF]; rw [if_neg h, h1]
theorem more_4 (h : ¬ wordB r = [44]) (h1 : takeB (· == [41]) r = some (o, r1)) : PF (f + 1) (.more acc) r = .ok acc r1 := by simp only [PF]; rw [if_neg h, h1]
theorem comma_some (h : wordB r = [44]) : ∃ r1, takeB (· == [44]) r = some ([44], r1) := by
  unfold takeB; rw [if_pos ⟨by rw [h]; simp, by rw [h]; rfl⟩, h]; exact ⟨_, rfl⟩
end
theorem PF_len : ∀ (f : Nat) (m : Md) (r : List UInt8) (xs : List Tree) (q : List UInt8), PF f m r = .ok xs q → q.length < r.length ∧ (m = .cond → ∃ T, xs = [T]) := by
  intro f
  induction f with
  | zero => intro m r xs q h; simp [PF] at h
  | succ f ih =>
    intro m r xs q h
    cases m with
    | cond =>
      simp only [PF] at h
      split at h
      · cases h
      · rename_i w r1 ht
        have l1 := take_len ht
        split at h
        · split at h
          · cases h
          · rename_i ys q' ha
            injection h with h1 h2; subst h1; subst h2
            have := (ih _ _ _ _ ha).1
            exact ⟨by omega, fun _ => ⟨_, rfl⟩⟩
        · split at h
          · split at h
            · cases h
            · rename_i n q' hn
              injection h with h1 h2; subst h1; subst h2
              have := num_len hn
              exact ⟨by omega, fun _ => ⟨_, rfl⟩⟩
          · split at h
            · split at h
              · cases h
              · rename_i y r2 hy
                split at h
                · cases h
                · rename_i o r3 ho
                  split at h
                  · cases h
                  · rename_i n q' hn
                    injection h with h1 h2; subst h1; subst h2
                    have a1 := num_len hy
                    have a2 := take_len ho
                    have a3 := num_len hn
                    exact ⟨by omega, fun _ => ⟨_, rfl⟩⟩
            · split at h
              · split at h
                · cases h
                · rename_i fd r2 h1'
                  split at h
                  · cases h
                  · rename_i tx r3 h2'
                    split at h
                    · cases h
                    · rename_i o r4 h3'
                      split at h
                      · cases h
                      · rename_i n q' hn
                        injection h with h1 h2; subst h1; subst h2
                        have a1 := take_len h1'
                        have a2 := take_len h2'
                        have a3 := take_len h3'
                        have a4 := num_len hn
                        exact ⟨by omega, fun _ => ⟨_, rfl⟩⟩
              · injection h with h1 h2; subst h1; subst h2
                exact ⟨l1, fun _ => ⟨_, rfl⟩⟩
    | args =>
      simp only [PF] at h
      split at h
      · cases h
      · rename_i o r1 h1
        split at h
        · cases h
        · rename_i xs' r2 h2
          split at h
          · cases h
          · rename_i o2 r3 h3
            split at h
            · cases h
            · rename_i ys r4 h4
              have a1 := take_len h1
              have a2 := (ih _ _ _ _ h2).1
              have a3 := take_len h3
              have a4 := (ih _ _ _ _ h4).1
              have a5 := (ih _ _ _ _ h).1
              exact ⟨by omega, fun e => by cases e⟩
    | more acc =>
      simp only [PF] at h
      split at h
      · split at h
        · cases h
        · rename_i o r1 h1
          split at h
          · cases h
          · rename_i xs' r2 h2
            have a1 := take_len h1
            have a2 := (ih _ _ _ _ h2).1
            have a5 := (ih _ _ _ _ h).1
            exact ⟨by omega, fun e => by cases e⟩
      · split at h
        · cases h
        · rename_i o r1 h1
          injection h with h1' h2'; subst h1'; subst h2'
          exact ⟨take_len h1, fun e => by cases e⟩
end Go.Proofs.YthfmmememdlekaaDoor

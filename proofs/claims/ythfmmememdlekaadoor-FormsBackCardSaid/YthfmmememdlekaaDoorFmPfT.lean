/- Plain: the terms of the reader's tree are small. -/
import Derived.Test.YthfmmememdlekaaDoorFmPfS
set_option linter.unusedVariables false
set_option linter.unusedSimpArgs false
namespace Go.Proofs.YthfmmememdlekaaDoor
open Go.RowKit Num

def Tm (N : Nat) : Nat → Tree → Prop
  | 0, _ => True
  | d + 1, .node t xs => t.field.size ≤ N ∧ t.text.size ≤ N ∧ t.args = [] ∧ xs.length ≤ N ∧ ∀ x ∈ xs, Tm N d x
theorem take_word {p : List UInt8 → Bool} {q w r : List UInt8} (h : takeB p q = some (w, r)) : w.length ≤ q.length := by
  obtain ⟨h1, rfl, _, rfl⟩ := take_sp (a := []) h
  exact word_len q
theorem Tm_leaf {N : Nat} {t : Trm} (h1 : t.field.size ≤ N) (h2 : t.text.size ≤ N) (h3 : t.args = []) (d : Nat) : Tm N d (.node t []) := by
  cases d with
  | zero => trivial
  | succ d => exact ⟨h1, h2, h3, Nat.zero_le _, fun x hx => by cases hx⟩
theorem E0_le (N : Nat) : E0.size ≤ N := Nat.zero_le _
theorem one_leaf {N d : Nat} {t : Trm} (h1 : t.field.size ≤ N) (h2 : t.text.size ≤ N) (h3 : t.args = []) : ∀ x ∈ [Tree.node t []], Tm N d x := by
  intro x hx
  simp at hx; subst hx
  exact Tm_leaf h1 h2 h3 d
theorem PF_tame (N : Nat) : ∀ (f : Nat) (m : Md) (r : List UInt8) (xs : List Tree) (q : List UInt8), PF f m r = .ok xs q → r.length ≤ N → xs.length + q.length ≤ r.length + m.acc.length ∧ ∀ d, (∀ x ∈ m.acc, Tm N d x) → ∀ x ∈ xs, Tm N d x := by
  intro f
  induction f with
  | zero => intro m r xs q h; simp [PF] at h
  | succ f ih =>
    intro m r xs q h hN
    cases m with
    | cond =>
      simp only [PF] at h
      have h0 : (Md.acc .cond).length = 0 := rfl
      split at h
      · cases h
      · rename_i w r1 ht
        have l1 := take_len ht
        split at h
        · split at h
          · cases h
          · rename_i ys q' ha
            injection h with h1 h2; subst h1; subst h2
            have a1 := ih _ _ _ _ ha (by omega)
            have a2 : (Md.acc .args).length = 0 := rfl
            have a3 := (PF_len _ _ _ _ _ ha).1
            refine ⟨by simp; omega, fun d _ x hx => ?_⟩
            simp at hx; subst hx
            cases d with
            | zero => trivial
            | succ d => exact ⟨E0_le N, E0_le N, rfl, by omega, a1.2 d (fun x hx => by cases hx)⟩
        · split at h
          · split at h
            · cases h
            · rename_i n q' hn
              injection h with h1 h2; subst h1; subst h2
              have := num_len hn
              exact ⟨by simp; omega, fun d _ => one_leaf (E0_le N) (E0_le N) rfl⟩
          · split at h
            · split at h
              · cases h
              · rename_i y r2 hy
                split at h
                · cases h
                · rename_i o r3 ho
                  split at h
                  · cases h
                  · rename_i n q' hn
                    injection h with h1 h2; subst h1; subst h2
                    have a1 := num_len hy
                    have a2 := take_len ho
                    have a3 := num_len hn
                    exact ⟨by simp; omega, fun d _ => one_leaf (E0_le N) (E0_le N) rfl⟩
            · split at h
              · split at h
                · cases h
                · rename_i fd r2 h1'
                  split at h
                  · cases h
                  · rename_i tx r3 h2'
                    split at h
                    · cases h
                    · rename_i o r4 h3'
                      split at h
                      · cases h
                      · rename_i n q' hn
                        injection h with h1 h2; subst h1; subst h2
                        have a1 := take_len h1'
                        have a2 := take_len h2'
                        have a3 := take_len h3'
                        have a4 := num_len hn
                        have b1 := take_word h1'
                        have b2 := take_word h2'
                        refine ⟨by simp; omega, fun d _ => one_leaf ?_ ?_ rfl⟩
                        · show (bsOf fd).size ≤ N; rw [bsOf_data']; omega
                        · show (bsOf ((tx.drop 1).take (tx.length - 2))).size ≤ N; rw [bsOf_data', List.length_take]; omega
              · injection h with h1 h2; subst h1; subst h2
                exact ⟨by simp; omega, fun d _ => one_leaf (E0_le N) (E0_le N) rfl⟩
    | args =>
      simp only [PF] at h
      have h0 : (Md.acc .args).length = 0 := rfl
      have hc : (Md.acc .cond).length = 0 := rfl
      split at h
      · cases h
      · rename_i o r1 h1
        split at h
        · cases h
        · rename_i xs' r2 h2
          split at h
          · cases h
          · rename_i o2 r3 h3
            split at h
            · cases h
            · rename_i ys r4 h4
              have a1 := take_len h1
              have l2 := (PF_len _ _ _ _ _ h2).1
              have a2 := ih _ _ _ _ h2 (by omega)
              have a3 := take_len h3
              have l4 := (PF_len _ _ _ _ _ h4).1
              have a4 := ih _ _ _ _ h4 (by omega)
              have a5 := ih _ _ _ _ h (by omega)
              have a6 : (Md.acc (.more (xs' ++ ys))).length = xs'.length + ys.length := List.length_append
              refine ⟨by omega, fun d _ => a5.2 d fun x hx => ?_⟩
              rcases List.mem_append.1 (show x ∈ xs' ++ ys from hx) with hx | hx
              · exact a2.2 d (fun x hx => by cases hx) x hx
              · exact a4.2 d (fun x hx => by cases hx) x hx
    | more acc =>
      simp only [PF] at h
      have h0 : (Md.acc (.more acc)).length = acc.length := rfl
      have hc : (Md.acc .cond).length = 0 := rfl
      split at h
      · split at h
        · cases h
        · rename_i o r1 h1
          split at h
          · cases h
          · rename_i xs' r2 h2
            have a1 := take_len h1
            have l2 := (PF_len _ _ _ _ _ h2).1
            have a2 := ih _ _ _ _ h2 (by omega)
            have a5 := ih _ _ _ _ h (by omega)
            have a6 : (Md.acc (.more (acc ++ xs'))).length = acc.length + xs'.length := List.length_append
            refine ⟨by omega, fun d hd => a5.2 d fun x hx => ?_⟩
            rcases List.mem_append.1 (show x ∈ acc ++ xs' from hx) with hx | hx
            · exact hd x hx
            · exact a2.2 d (fun x hx => by cases hx) x hx
      · split at h
        · cases h
        · rename_i o r1 h1
          injection h with h1' h2'; subst h1'; subst h2'
          have := take_len h1
          exact ⟨by omega, fun d hd => hd⟩
def TrmLe (N : Nat) (t : Trm) : Prop := t.field.size ≤ N ∧ t.text.size ≤ N ∧ t.args.length ≤ N
theorem flatA_one_len (g : Nat → Tree → List Trm) : ∀ (xs : List Tree) (a : Nat), (flatA g a xs).1.length = xs.length := by
  intro xs
  induction xs with
  | nil => intro a; rfl
  | cons x xs ih => intro a; simp [flatA, ih]
theorem flat_tame (N : Nat) : ∀ (d a : Nat) (T : Tree), Tm N d T → ∀ t ∈ flatT d a T, TrmLe N t := by
  intro d
  induction d with
  | zero => intro a T _ t ht; cases ht
  | succ d ih =>
    intro a T hT
    obtain ⟨t, xs⟩ := T
    obtain ⟨h1, h2, h3, h4, h5⟩ := hT
    have hA : ∀ (ys : List Tree) (b : Nat), (∀ x ∈ ys, Tm N d x) → ∀ u ∈ (flatA (flatT d) b ys).2, TrmLe N u := by
      intro ys
      induction ys with
      | nil => intro b _ u hu; cases hu
      | cons y ys ihy =>
        intro b hy u hu
        rcases List.mem_append.1 (show u ∈ flatT d b y ++ _ from hu) with hu | hu
        · exact ih b y (hy y (by simp)) u hu
        · exact ihy _ (fun x hx => hy x (by simp [hx])) u hu
    intro u hu
    simp only [flatT, List.mem_cons] at hu
    rcases hu with rfl | hu
    · refine ⟨h1, h2, ?_⟩
      show (t.args ++ _).length ≤ N
      rw [h3, List.nil_append, flatA_one_len]; exact h4
    · exact hA xs _ h5 u hu
theorem parseF_tame {s : List UInt8} {T : Tree} (h : parseF s = .inl T) (d a : Nat) : ∀ t ∈ flatT d a T, TrmLe s.length t := by
  unfold parseF at h
  split at h
  · cases h
  · rename_i T' ys hp
    injection h with h5
    subst h5
    have h3 := space_len s
    have h1 := (PF_tame s.length _ _ _ _ _ hp h3).2 d (fun x hx => by cases hx) T' (by simp)
    exact flat_tame _ d a T' h1
  · cases h
end Go.Proofs.YthfmmememdlekaaDoor

/- Plain: how many terms the reader's tree has; the own list as a list of terms. -/
import Derived.Test.YthfmmememdlekaaGreatDoorP11
import Derived.Test.YthfmmememdlekaaGreatDoorP23
set_option linter.unusedVariables false
set_option linter.unusedSimpArgs false
namespace Go.Proofs.YthfmmememdlekaaGreatDoor
open Go.RowKit Num

theorem flatA_len_of {g : Nat → Tree → List Trm} (hg : ∀ a b T, (g a T).length = (g b T).length) : ∀ (xs : List Tree) (a b : Nat), (flatA g a xs).2.length = (flatA g b xs).2.length := by
  intro xs
  induction xs with
  | nil => intro a b; rfl
  | cons x xs ih => intro a b; simp only [flatA, List.length_append]; rw [hg a b x, ih _ (b + (g b x).length)]
theorem flatT_len_at : ∀ (d a b : Nat) (T : Tree), (flatT d a T).length = (flatT d b T).length := by
  intro d
  induction d with
  | zero => intro a b T; rfl
  | succ d ih => intro a b T; obtain ⟨t, xs⟩ := T; simp only [flatT, List.length_cons]; rw [flatA_len_of ih xs (a + 1) (b + 1)]
def nA (d : Nat) (xs : List Tree) : Nat := (flatA (flatT d) 0 xs).2.length
theorem nA_at (d a : Nat) (xs : List Tree) : (flatA (flatT d) a xs).2.length = nA d xs := flatA_len_of (flatT_len_at d) xs a 0
theorem nA_cons (d : Nat) (x : Tree) (xs : List Tree) : nA d (x :: xs) = (flatT d 0 x).length + nA d xs := by
  show (flatT d 0 x ++ (flatA (flatT d) (0 + (flatT d 0 x).length) xs).2).length = _
  rw [List.length_append, nA_at]
theorem nA_app (d : Nat) (xs ys : List Tree) : nA d (xs ++ ys) = nA d xs + nA d ys := by
  induction xs with
  | nil => show nA d ys = 0 + nA d ys; omega
  | cons x xs ih => rw [List.cons_append, nA_cons, nA_cons, ih]; omega
theorem nA_node (d : Nat) (t : Trm) (xs : List Tree) : nA (d + 1) [.node t xs] = 1 + nA d xs := by
  rw [nA_cons]; simp only [flatT, List.length_cons]; rw [nA_at]; show _ + 1 + 0 = _; omega
theorem nA_leaf (d : Nat) (t : Trm) : nA d [.node t []] ≤ 1 := by
  cases d with
  | zero => show ([] : List Trm).length ≤ 1; simp
  | succ d => rw [nA_node]; show 1 + 0 ≤ 1; omega
def Md.acc : Md → List Tree
  | .more a => a
  | _ => []
theorem PF_terms : ∀ (f : Nat) (m : Md) (r : List UInt8) (xs : List Tree) (q : List UInt8), PF f m r = .ok xs q → ∀ d, nA d xs + q.length ≤ r.length + nA d m.acc := by
  intro f
  induction f with
  | zero => intro m r xs q h; simp [PF] at h
  | succ f ih =>
    intro m r xs q h d
    cases m with
    | cond =>
      simp only [PF] at h
      have h0 : nA d (Md.acc .cond) = 0 := rfl
      split at h
      · cases h
      · rename_i w r1 ht
        have l1 := take_len ht
        split at h
        · split at h
          · cases h
          · rename_i ys q' ha
            injection h with h1 h2; subst h1; subst h2
            cases d with
            | zero =>
              have := (PF_len _ _ _ _ _ ha).1
              have h3 : nA 0 [Tree.node (mkT (kindB w) 0 0 E0 E0) ys] = 0 := rfl
              omega
            | succ d =>
              have := ih _ _ _ _ ha d
              have h3 : nA d (Md.acc .args) = 0 := rfl
              rw [nA_node]
              omega
        · split at h
          · split at h
            · cases h
            · rename_i n q' hn
              injection h with h1 h2; subst h1; subst h2
              have := num_len hn
              have := nA_leaf d (mkT (kindB w) n 0 E0 E0)
              omega
          · split at h
            · split at h
              · cases h
              · rename_i y r2 hy
                split at h
                · cases h
                · rename_i o r3 ho
                  split at h
                  · cases h
                  · rename_i n q' hn
                    injection h with h1 h2; subst h1; subst h2
                    have a1 := num_len hy
                    have a2 := take_len ho
                    have a3 := num_len hn
                    have := nA_leaf d (mkT 5 n y E0 E0)
                    omega
            · split at h
              · split at h
                · cases h
                · rename_i fd r2 h1'
                  split at h
                  · cases h
                  · rename_i tx r3 h2'
                    split at h
                    · cases h
                    · rename_i o r4 h3'
                      split at h
                      · cases h
                      · rename_i n q' hn
                        injection h with h1 h2; subst h1; subst h2
                        have a1 := take_len h1'
                        have a2 := take_len h2'
                        have a3 := take_len h3'
                        have a4 := num_len hn
                        have := nA_leaf d (mkT 7 n 0 (bsOf fd) (bsOf ((tx.drop 1).take (tx.length - 2))))
                        omega
              · injection h with h1 h2; subst h1; subst h2
                have := nA_leaf d (mkT (kindB w) 0 0 E0 E0)
                omega
    | args =>
      simp only [PF] at h
      have h0 : nA d (Md.acc .args) = 0 := rfl
      have hc : nA d (Md.acc .cond) = 0 := rfl
      split at h
      · cases h
      · rename_i o r1 h1
        split at h
        · cases h
        · rename_i xs' r2 h2
          split at h
          · cases h
          · rename_i o2 r3 h3
            split at h
            · cases h
            · rename_i ys r4 h4
              have a1 := take_len h1
              have a2 := ih _ _ _ _ h2 d
              have a3 := take_len h3
              have a4 := ih _ _ _ _ h4 d
              have a5 := ih _ _ _ _ h d
              have a6 : nA d (Md.acc (.more (xs' ++ ys))) = nA d xs' + nA d ys := nA_app d xs' ys
              omega
    | more acc =>
      simp only [PF] at h
      have h0 : nA d (Md.acc (.more acc)) = nA d acc := rfl
      have hc : nA d (Md.acc .cond) = 0 := rfl
      split at h
      · split at h
        · cases h
        · rename_i o r1 h1
          split at h
          · cases h
          · rename_i xs' r2 h2
            have a1 := take_len h1
            have a2 := ih _ _ _ _ h2 d
            have a5 := ih _ _ _ _ h d
            have a6 : nA d (Md.acc (.more (acc ++ xs'))) = nA d acc + nA d xs' := nA_app d acc xs'
            omega
      · split at h
        · cases h
        · rename_i o r1 h1
          injection h with h1' h2'; subst h1'; subst h2'
          have := take_len h1
          omega
theorem parseF_terms {s : List UInt8} {T : Tree} (h : parseF s = .inl T) (d a : Nat) : (flatT d a T).length ≤ s.length := by
  unfold parseF at h
  split at h
  · cases h
  · rename_i T' ys hp
    injection h with h5
    subst h5
    have h1 := PF_terms _ _ _ _ _ hp d
    obtain ⟨T2, e2⟩ := (PF_len _ _ _ _ _ hp).2 rfl
    injection e2 with e3 e4
    subst e4
    have h2 : nA d (Md.acc .cond) = 0 := rfl
    have h3 := space_len s
    have h4 : nA d [T'] = (flatT d 0 T').length := by rw [nA_cons]; rfl
    have h6 : ([] : List UInt8).length = 0 := rfl
    rw [flatT_len_at d a 0]; omega
  · cases h
theorem own_ints {w : World} {B : Nat} {v : Value} {xs : List Int} (h : w.ownsRow B 3 1 v xs.length (xs.map (Value.int .i64))) : IntsAt w (fun b => B ≤ b ∧ b < w.heap.size) v xs := by
  rcases Nat.eq_zero_or_pos xs.length with h0 | h0
  · rcases h.2 with ⟨rfl, _⟩ | ⟨g', cap, cur, rfl, _, _, h2, _⟩
    · exact ⟨none, 0, 0, rfl, h0.symm, by omega, fun h1 => absurd h1 (by omega)⟩
    · exact ⟨_, xs.length, cap, rfl, rfl, h2, fun h1 => absurd h1 (by omega)⟩
  · obtain ⟨g, c, rfl, hg, hlt⟩ := h.form h0
    refine ⟨some ⟨g, 0, none⟩, xs.length, c, rfl, rfl, ?_, fun _ => ⟨g, 0, rfl, ⟨hg, hlt⟩, fun k hk => ?_⟩⟩
    · rcases h.2 with ⟨h1, _⟩ | ⟨g', cap, cur, h1, _, _, h2, _⟩
      · cases h1
      · injection h1 with _ _ h1; omega
    · rw [Nat.zero_add]
      exact own_cell h k _ (by rw [List.getElem?_map, List.getElem?_eq_getElem hk, List.getD_eq_getElem?_getD, List.getElem?_eq_getElem hk]; rfl)
theorem OwnTs.terms {w : World} {B : Nat} {v : Value} {L : List Trm} {us : Nat → Value} (h : OwnTs w B v L us) : TermsAt w (fun b => B ≤ b ∧ b < w.heap.size) v L := by
  rcases Nat.eq_zero_or_pos L.length with h0 | h0
  · rcases h.row.2 with ⟨rfl, _⟩ | ⟨g', cap, cur, rfl, _, _, h2, _⟩
    · exact ⟨none, 0, 0, rfl, h0.symm, by omega, fun h1 => absurd h1 (by omega)⟩
    · exact ⟨_, L.length, cap, rfl, rfl, h2, fun h1 => absurd h1 (by omega)⟩
  · obtain ⟨g, c, rfl, hg, hlt⟩ := h.row.form h0
    refine ⟨some ⟨g, 0, none⟩, L.length, c, rfl, rfl, ?_, fun _ => ⟨g, 0, rfl, ⟨hg, hlt⟩, fun k hk => ?_⟩⟩
    · rcases h.row.2 with ⟨h1, _⟩ | ⟨g', cap, cur, h1, _, _, h2, _⟩
      · cases h1
      · injection h1 with _ _ h1; omega
    · have hc : ∀ i u, i < 6 → (tmCell (trmAt L k) (us k)).getD i undef = u → w.cell? ⟨g, 0 + k * 6 + i, none⟩ = some u := by
        intro i u hi hu
        rw [Nat.zero_add]
        exact own_cell h.row (k * 6 + i) u (by rw [tmsC_at L us k i hk hi, hu])
      refine ⟨hc 0 _ (by decide) rfl, hc 1 _ (by decide) rfl, hc 2 _ (by decide) rfl, hc 3 _ (by decide) rfl, hc 4 _ (by decide) rfl, us k, hc 5 _ (by decide) rfl, ?_⟩
      exact own_ints (h.args k hk)
end Go.Proofs.YthfmmememdlekaaGreatDoor

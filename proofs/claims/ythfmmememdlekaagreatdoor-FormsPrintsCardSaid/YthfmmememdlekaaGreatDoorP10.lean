/- Words for memory: a list of terms of the call's own, each with numbers of its own. -/
import Derived.Test.YthfmmememdlekaaGreatDoorP09
set_option linter.unusedVariables false
set_option linter.unusedSimpArgs false
namespace Go.Proofs.YthfmmememdlekaaGreatDoor
open Go.RowKit Num

def tmCell (t : Trm) (u : Value) : List Value := [.int .i64 t.kind, .int .i64 t.num, .int .i64 t.yrs, .string t.field, .string t.text, u]
def tmsC (L : List Trm) (us : Nat → Value) : List Value := (List.range (6 * L.length)).map fun j => (tmCell (trmAt L (j / 6)) (us (j / 6))).getD (j % 6) undef
theorem tmsC_len (L : List Trm) (us : Nat → Value) : (tmsC L us).length = L.length * 6 := by simp [tmsC]; omega
theorem tmsC_get (L : List Trm) (us : Nat → Value) (j : Nat) (h : j < 6 * L.length) : (tmsC L us)[j]? = some ((tmCell (trmAt L (j / 6)) (us (j / 6))).getD (j % 6) undef) := by
  unfold tmsC; rw [List.getElem?_map, List.getElem?_range h]; rfl
theorem tmsC_none (L : List Trm) (us : Nat → Value) (j : Nat) (h : 6 * L.length ≤ j) : (tmsC L us)[j]? = none := List.getElem?_eq_none (by rw [tmsC_len]; omega)
theorem tmsC_at (L : List Trm) (us : Nat → Value) (k i : Nat) (h : k < L.length) (hi : i < 6) : (tmsC L us)[k * 6 + i]? = some ((tmCell (trmAt L k) (us k)).getD i undef) := by
  rw [tmsC_get L us _ (by omega), show (k * 6 + i) / 6 = k by omega, show (k * 6 + i) % 6 = i by omega]
theorem trmAt_old (L : List Trm) (t : Trm) (k : Nat) (h : k < L.length) : trmAt (L ++ [t]) k = trmAt L k := by
  unfold trmAt; rw [List.getD_eq_getElem?_getD, List.getD_eq_getElem?_getD, List.getElem?_append_left h]
theorem trmAt_new (L : List Trm) (t : Trm) : trmAt (L ++ [t]) L.length = t := by
  unfold trmAt; rw [List.getD_eq_getElem?_getD, List.getElem?_append_right (Nat.le_refl _)]; simp
theorem tmsC_congr (L : List Trm) {us us' : Nat → Value} (h : ∀ k, k < L.length → us k = us' k) : tmsC L us = tmsC L us' := by
  apply List.ext_getElem?
  intro i
  rcases Nat.lt_or_ge i (6 * L.length) with hi | hi
  · rw [tmsC_get L us i hi, tmsC_get L us' i hi, h (i / 6) (by omega)]
  · rw [tmsC_none L us i hi, tmsC_none L us' i hi]
theorem tmsC_snoc (L : List Trm) (t : Trm) (us : Nat → Value) : tmsC (L ++ [t]) us = tmsC L us ++ tmCell t (us L.length) := by
  apply List.ext_getElem?
  intro i
  have hl : (L ++ [t]).length = L.length + 1 := by simp
  rcases Nat.lt_or_ge i (6 * L.length) with hi | hi
  · rw [tmsC_get _ us i (by omega), List.getElem?_append_left (by rw [tmsC_len]; omega), tmsC_get L us i hi, trmAt_old L t _ (by omega)]
  · rw [List.getElem?_append_right (by rw [tmsC_len]; omega), tmsC_len]
    rcases Nat.lt_or_ge i (6 * L.length + 6) with h2 | h2
    · rw [tmsC_get _ us i (by omega), show i / 6 = L.length by omega, trmAt_new, show i % 6 = i - L.length * 6 by omega]
      obtain ⟨j, hj, hj6⟩ : ∃ j, i - L.length * 6 = j ∧ j < 6 := ⟨_, rfl, by omega⟩
      rw [hj]
      match j, hj6 with
      | 0, _ | 1, _ | 2, _ | 3, _ | 4, _ | 5, _ => rfl
    · rw [tmsC_none _ us i (by omega), List.getElem?_eq_none (by simp [tmCell]; omega)]
/-- The k-th term has other numbers behind it. -/
def setA (L : List Trm) (k : Nat) (a : List Int) : List Trm := L.set k { trmAt L k with args := a }
theorem setA_len (L : List Trm) (k : Nat) (a : List Int) : (setA L k a).length = L.length := by simp [setA]
theorem setA_at (L : List Trm) (k : Nat) (a : List Int) (h : k < L.length) : trmAt (setA L k a) k = { trmAt L k with args := a } := by
  unfold setA; generalize ({ trmAt L k with args := a } : Trm) = t
  unfold trmAt; rw [List.getD_eq_getElem?_getD, List.getElem?_set]; simp [h]
theorem setA_ne (L : List Trm) (k j : Nat) (a : List Int) (h : j ≠ k) : trmAt (setA L k a) j = trmAt L j := by
  unfold setA; generalize ({ trmAt L k with args := a } : Trm) = t
  unfold trmAt; rw [List.getD_eq_getElem?_getD, List.getD_eq_getElem?_getD, List.getElem?_set, if_neg (fun e => h e.symm)]
theorem tmsC_set (L : List Trm) (us : Nat → Value) (k : Nat) (u : Value) (a : List Int) (h : k < L.length) : (tmsC L us).set (k * 6 + 5) u = tmsC (setA L k a) (fun j => if j = k then u else us j) := by
  apply List.ext_getElem?
  intro i
  rw [List.getElem?_set]
  rcases Nat.lt_or_ge i (6 * L.length) with hi | hi
  · rw [tmsC_get L us i hi, tmsC_get _ _ i (by rw [setA_len]; exact hi), tmsC_len]
    by_cases e : k * 6 + 5 = i
    · rw [if_pos e, if_pos (by omega), show i / 6 = k by omega, show i % 6 = 5 by omega]; simp [tmCell]
    · rw [if_neg e]
      by_cases e2 : i / 6 = k
      · rw [e2, setA_at L k a h]
        obtain ⟨j, hj, hj6⟩ : ∃ j, i % 6 = j ∧ j < 5 := ⟨_, rfl, by omega⟩
        rw [hj]
        match j, hj6 with
        | 0, _ | 1, _ | 2, _ | 3, _ | 4, _ => rfl
      · rw [setA_ne L k _ a e2, if_neg e2]
  · rw [if_neg (by omega), tmsC_none L us i hi, tmsC_none _ _ i (by rw [setA_len]; exact hi)]
structure OwnTs (w : World) (B : Nat) (v : Value) (L : List Trm) (us : Nat → Value) : Prop where
  row : w.ownsRow B 29 6 v L.length (tmsC L us)
  args : ∀ k, k < L.length → w.ownsRow B 3 1 (us k) (trmAt L k).args.length ((trmAt L k).args.map (Value.int .i64))
  apart : ∀ j k, j < L.length → k < L.length → j ≠ k → (us j).ownBlock = none ∨ (us j).ownBlock ≠ (us k).ownBlock
theorem OwnTs.nil (w : World) (B : Nat) (us : Nat → Value) : OwnTs w B (.slice none 0 0) [] us := ⟨World.ownsRow_nil _ _ _ _, fun k hk => by simp at hk, fun j k hj => by simp at hj⟩
section
variable {w w2 : World} {B : Nat} {v v' u' : Value} {L : List Trm} {us : Nat → Value} {t : Trm} {o : Obj}
theorem OwnTs.push (h : OwnTs w B v L us) (ht : t.args = []) (hown : w2.ownsRow B 29 6 v' (L.length + 1) (tmsC L us ++ tmCell t (.slice none 0 0))) (hg : (w.alloc o).grownBy w2 v.ownBlock) :
    OwnTs w2 B v' (L ++ [t]) (fun k => if k = L.length then .slice none 0 0 else us k) := by
  refine ⟨?_, fun k hk => ?_, fun j k hj hk hne => ?_⟩
  · rw [tmsC_snoc, List.length_append]
    have e : tmsC L (fun k => if k = L.length then .slice none 0 0 else us k) = tmsC L us := tmsC_congr L fun k hk => if_neg (by omega)
    rw [e]; simpa using hown
  · rw [List.length_append] at hk
    by_cases e : k = L.length
    · subst e; rw [if_pos rfl, trmAt_new, ht]; exact World.ownsRow_nil _ _ _ _
    · rw [if_neg e, trmAt_old L t k (by simp at hk; omega)]
      have hk' : k < L.length := by simp at hk; omega
      exact ((h.args k hk').alloc o).kept hg (own_ne (h.args k hk') h.row (by decide))
  · rw [List.length_append] at hj hk
    by_cases e : j = L.length
    · subst e; rw [if_pos rfl]; exact .inl rfl
    · rw [if_neg e]
      by_cases e2 : k = L.length
      · rw [if_pos e2]
        rcases hb : (us j).ownBlock with _ | g
        · exact .inl rfl
        · exact .inr (by simp [Value.ownBlock])
      · rw [if_neg e2]; exact h.apart j k (by simp at hj; omega) (by simp at hk; omega) hne
theorem OwnTs.arg {g n cap : Nat} (h : OwnTs w B (.slice (some ⟨g, 0, none⟩) L.length cap) L us) {k : Nat} (hk : k < L.length) {m : Int}
    (hown : w2.ownsRow B 3 1 u' ((trmAt L k).args.length + 1) ((trmAt L k).args.map (Value.int .i64) ++ [.int .i64 m])) (hg : (w.alloc o).grownBy w2 (us k).ownBlock) (hw : u'.ownBlock = (us k).ownBlock ∨ u'.ownBlock = some (w.heap.size + 1)) :
    OwnTs (w2.setCell ⟨g, k * 6 + 5, none⟩ u') B (.slice (some ⟨g, 0, none⟩) L.length cap) (setA L k ((trmAt L k).args ++ [m])) (fun j => if j = k then u' else us j) := by
  have hrow2 := (h.row.alloc o).kept hg (own_ne h.row (h.args k hk) (by decide))
  have hst := World.ownsRow.stored hrow2 (k * 6 + 5) u'
  have hne : u'.ownBlock = none ∨ u'.ownBlock ≠ some g := by
    rcases own_ne hown hrow2 (by decide) with e | e
    · exact .inl e
    · exact .inr e
  refine ⟨?_, fun j hj => ?_, fun j i hj hi hji => ?_⟩
  · rw [setA_len, ← tmsC_set L us k u' _ hk]; exact hst.1
  · rw [setA_len] at hj
    by_cases e : j = k
    · subst e; rw [if_pos rfl, setA_at L j _ hk]
      simp only [List.length_append, List.length_cons, List.length_nil, List.map_append, List.map_cons, List.map_nil]
      exact hown.kept hst.2 hne
    · rw [if_neg e, setA_ne L k j _ e]
      have hj2 := ((h.args j hj).alloc o).kept hg (h.apart j k hj hk e)
      refine hj2.kept hst.2 ?_
      rcases own_ne hj2 hrow2 (by decide) with e' | e'
      · exact .inl e'
      · exact .inr e'
  · rw [setA_len] at hj hi
    have hlt : ∀ q, q < L.length → ∀ b, (us q).ownBlock = some b → b < w.heap.size := fun q hq b hb => ((h.args q hq).lt b hb).2
    by_cases e : j = k
    · subst e
      rw [if_pos rfl, if_neg (fun e => hji e.symm)]
      rcases hw with e' | e'
      · rw [e']; exact h.apart j i hj hi hji
      · rw [e']; right; intro e2; have := hlt i hi _ e2.symm; omega
    · rw [if_neg e]
      by_cases e2 : i = k
      · subst e2
        rw [if_pos rfl]
        rcases hw with e' | e'
        · rw [e']; exact h.apart j i hj hi hji
        · rw [e']
          rcases hb : (us j).ownBlock with _ | b
          · exact .inl rfl
          · right; intro e2; injection e2 with e2; have := hlt j hj b hb; omega
      · rw [if_neg e2]; exact h.apart j i hj hi hji
end
end Go.Proofs.YthfmmememdlekaaGreatDoor

/- Words: rows of numbers that are written in place. Words: rows that are made one by one, each with an array of its own; the reference's numbers of a row. -/
import Derived.Test.YtjfphobfikadlaaDoorN35
import Derived.Test.YtjfphobfikadlaaDoorN23
import Derived.Test.YtjfphobfikadlaaDoorN25
set_option linter.unusedVariables false
set_option linter.unusedSimpArgs false
namespace Go.Proofs.YtjfphobfikadlaaDoor
open Go.RowKit Num

/-- Rows, each of which has an array of its own. -/
structure RowsG (w : World) (B rb n : Nat) (M : List (List Int)) (gs cs : Nat → Nat) : Prop where
  len : M.length = n
  cell : ∀ k, k < n → w.cell? ⟨rb, k, none⟩ = some (.slice (some ⟨gs k, 0, none⟩) (M.getD k []).length (cs k))
  live : ∀ k, w.frozen? ⟨rb, k, none⟩ = false
  own : ∀ k, k < n → OwnI w B (.slice (some ⟨gs k, 0, none⟩) (M.getD k []).length (cs k)) (M.getD k [])
  apart : ∀ i k, i < n → k < n → i ≠ k → gs i ≠ gs k
  far : ∀ k, k < n → gs k ≠ rb
  lt : rb < w.heap.size
  base : B ≤ rb
section
variable {w w' : World} {B rb n : Nat} {M : List (List Int)} {gs cs : Nat → Nat}
theorem RowsG.kept {row : Option Nat} (h : RowsG w B rb n M gs cs) (hg : w.grownBy w' row) (h1 : some rb ≠ row) (h2 : ∀ k, k < n → some (gs k) ≠ row) : RowsG w' B rb n M gs cs where
  len := h.len
  cell := fun k hk => (World.cell?_of_block (a := ⟨rb, k, none⟩) (hg.block rb h.lt h1)).trans (h.cell k hk)
  live := fun k => (World.frozen?_of_block (a := ⟨rb, k, none⟩) (hg.block rb h.lt h1)).trans (h.live k)
  own := fun k hk => (h.own k hk).kept hg (.inr (h2 k hk))
  apart := h.apart
  far := h.far
  lt := Nat.lt_of_lt_of_le h.lt hg.size
  base := h.base
theorem RowsG.below (h : RowsG w B rb n M gs cs) (hb : Below w.heap.size w w') : RowsG w' B rb n M gs cs := h.kept (only_of_below hb none) (by simp) (fun k hk => by simp)
theorem RowsG.drew (h : RowsG w B rb n M gs cs) : RowsG w.drew B rb n M gs cs := ⟨h.len, h.cell, h.live, h.own, h.apart, h.far, h.lt, h.base⟩
theorem rowSet_other {k i : Nat} (M : List (List Int)) (x : List Int) (hk : k < M.length) (h : i ≠ k) : (M.set k x).getD i [] = M.getD i [] := by rw [getD_setR _ _ _ _ _ hk, if_neg h]
theorem rowSet_same {k : Nat} (M : List (List Int)) (x : List Int) (hk : k < M.length) : (M.set k x).getD k [] = x := by rw [getD_setR _ _ _ _ _ hk, if_pos rfl]
/-- A number of a row is written. -/
theorem RowsG.put (h : RowsG w B rb n M gs cs) {k : Nat} (hk : k < n) (j : Nat) (y : Int) : RowsG (w.setCell ⟨gs k, j, none⟩ (.int .i64 y)) B rb n (M.set k ((M.getD k []).set j y)) gs cs := by
  have hkM : k < M.length := by rw [h.len]; exact hk
  have hg : w.grownBy (w.setCell ⟨gs k, j, none⟩ (.int .i64 y)) (some (gs k)) := only_setCell (World.grownBy.refl w _) (p := ⟨gs k, j, none⟩) (.inl rfl) _
  have hl : ∀ i, ((M.set k ((M.getD k []).set j y)).getD i []).length = (M.getD i []).length := fun i => by
    by_cases e : i = k
    · subst e; rw [rowSet_same _ _ hkM]; simp
    · rw [rowSet_other _ _ hkM e]
  refine ⟨by rw [List.length_set]; exact h.len, fun i hi => ?_, fun i => ?_, fun i hi => ?_, h.apart, h.far, by have := h.lt; simpa [World.setCell] using this, h.base⟩
  · rw [hl]
    exact (World.cell?_of_block (a := ⟨rb, i, none⟩) (hg.block rb h.lt (by intro e; injection e with e; exact h.far k hk e.symm))).trans (h.cell i hi)
  · exact (World.frozen?_of_block (a := ⟨rb, i, none⟩) (hg.block rb h.lt (by intro e; injection e with e; exact h.far k hk e.symm))).trans (h.live i)
  · rw [hl]
    by_cases e : i = k
    · subst e
      rw [rowSet_same _ _ hkM]
      have := (h.own i hi).set j y
      exact this
    · rw [rowSet_other _ _ hkM e]
      exact (h.own i hi).kept hg (.inr (by simp [Value.ownBlock]; exact h.apart i k hi hk e))
/-- Two rows change their places. -/
theorem RowsG.swap (h : RowsG w B rb n M gs cs) {a b : Nat} (ha : a < n) (hb : b < n) :
    RowsG ((w.setCell ⟨rb, a, none⟩ (.slice (some ⟨gs b, 0, none⟩) (M.getD b []).length (cs b))).setCell ⟨rb, b, none⟩ (.slice (some ⟨gs a, 0, none⟩) (M.getD a []).length (cs a))) B rb n ((M.set a (M.getD b [])).set b (M.getD a []))
      (fun i => if i = b then gs a else if i = a then gs b else gs i) (fun i => if i = b then cs a else if i = a then cs b else cs i) := by
  have haM : a < M.length := by rw [h.len]; exact ha
  have hbM : b < (M.set a (M.getD b [])).length := by rw [List.length_set, h.len]; exact hb
  have gM : ∀ i, ((M.set a (M.getD b [])).set b (M.getD a [])).getD i [] = if i = b then M.getD a [] else if i = a then M.getD b [] else M.getD i [] := fun i => by
    rw [getD_setR _ _ _ _ _ hbM, getD_setR _ _ _ _ _ haM]
  have hg : w.grownBy ((w.setCell ⟨rb, a, none⟩ (.slice (some ⟨gs b, 0, none⟩) (M.getD b []).length (cs b))).setCell ⟨rb, b, none⟩ (.slice (some ⟨gs a, 0, none⟩) (M.getD a []).length (cs a))) (some rb) :=
    only_setCell (only_setCell (World.grownBy.refl w _) (p := ⟨rb, a, none⟩) (.inl rfl) _) (p := ⟨rb, b, none⟩) (.inl rfl) _
  have hkeep : ∀ i, i < n → OwnI ((w.setCell ⟨rb, a, none⟩ (.slice (some ⟨gs b, 0, none⟩) (M.getD b []).length (cs b))).setCell ⟨rb, b, none⟩ (.slice (some ⟨gs a, 0, none⟩) (M.getD a []).length (cs a))) B (.slice (some ⟨gs i, 0, none⟩) (M.getD i []).length (cs i)) (M.getD i []) := fun i hi =>
    (h.own i hi).kept hg (.inr (by simp [Value.ownBlock]; exact h.far i hi))
  have hlive : ∀ i, ((w.setCell ⟨rb, a, none⟩ (.slice (some ⟨gs b, 0, none⟩) (M.getD b []).length (cs b))).setCell ⟨rb, b, none⟩ (.slice (some ⟨gs a, 0, none⟩) (M.getD a []).length (cs a))).frozen? ⟨rb, i, none⟩ = false := fun i => by
    rw [World.frozen?_setCell, World.frozen?_setCell]; exact h.live i
  refine ⟨by rw [List.length_set, List.length_set]; exact h.len, fun i hi => ?_, hlive, fun i hi => ?_, fun i k hi hk hne => ?_, fun i hi => ?_, by have := h.lt; simpa [World.setCell] using this, h.base⟩
  · rw [gM]
    by_cases e1 : i = b
    · subst e1
      rw [if_pos rfl, if_pos rfl, if_pos rfl]
      exact World.cell?_setCell_same _ _ _ (by
        by_cases e : i = a
        · subst e
          exact World.cell?_setCell_same _ _ _ (h.cell i hi)
        · rw [World.cell?_setCell_other _ _ _ _ (fun e2 => by injection e2 with _ e2; exact e e2.symm)]
          exact h.cell i hi)
    · rw [if_neg e1, if_neg e1, if_neg e1, World.cell?_setCell_other _ _ _ _ (fun e2 => by injection e2 with _ e2; exact e1 e2.symm)]
      by_cases e2 : i = a
      · subst e2
        rw [if_pos rfl, if_pos rfl, if_pos rfl]
        exact World.cell?_setCell_same _ _ _ (h.cell i hi)
      · rw [if_neg e2, if_neg e2, if_neg e2, World.cell?_setCell_other _ _ _ _ (fun e3 => by injection e3 with _ e3; exact e2 e3.symm)]
        exact h.cell i hi
  · rw [gM]
    by_cases e1 : i = b
    · subst e1; rw [if_pos rfl, if_pos rfl, if_pos rfl]; exact hkeep a ha
    · rw [if_neg e1, if_neg e1, if_neg e1]
      by_cases e2 : i = a
      · subst e2; rw [if_pos rfl, if_pos rfl, if_pos rfl]; exact hkeep b hb
      · rw [if_neg e2, if_neg e2, if_neg e2]; exact hkeep i hi
  · by_cases i1 : i = b <;> by_cases i2 : i = a <;> by_cases k1 : k = b <;> by_cases k2 : k = a <;> simp only [i1, i2, k1, k2, if_true, if_false, ite_self] <;> first | (exfalso; omega) | (apply h.apart <;> omega) | (split <;> first | (exfalso; omega) | (apply h.apart <;> omega) | (split <;> first | (exfalso; omega) | (apply h.apart <;> omega)))
  · by_cases e1 : i = b
    · rw [if_pos e1]; exact h.far a ha
    · rw [if_neg e1]
      by_cases e2 : i = a
      · rw [if_pos e2]; exact h.far b hb
      · rw [if_neg e2]; exact h.far i hi
end
/-- A row the first numbers of which are new. -/
def mixL (a b : List Int) (j : Nat) : List Int := (List.range a.length).map fun i => if i < j then b.getD i 0 else a.getD i 0
theorem mixL_len (a b : List Int) (j : Nat) : (mixL a b j).length = a.length := by simp [mixL]
theorem mixL_get (a b : List Int) (j i : Nat) (h : i < a.length) : (mixL a b j).getD i 0 = if i < j then b.getD i 0 else a.getD i 0 := by
  unfold mixL
  rw [List.getD_eq_getElem?_getD, List.getElem?_map, List.getElem?_range h]; rfl
theorem mixL_zero (a b : List Int) : mixL a b 0 = a := getD_eq_of' (by rw [mixL_len]) fun i hi => by rw [mixL_len] at hi; rw [mixL_get _ _ _ _ hi, if_neg (by omega)]
theorem mixL_all (a b : List Int) (h : b.length = a.length) : mixL a b a.length = b := getD_eq_of' (by rw [mixL_len, h]) fun i hi => by rw [mixL_len] at hi; rw [mixL_get _ _ _ _ hi, if_pos hi]
theorem mixL_set (a b : List Int) (j : Nat) (h : j < a.length) : (mixL a b j).set j (b.getD j 0) = mixL a b (j + 1) := getD_eq_of' (by rw [List.length_set, mixL_len, mixL_len]) fun i hi => by
  rw [List.length_set, mixL_len] at hi
  rw [getD_set _ _ _ _ (by rw [mixL_len]; exact h), mixL_get _ _ _ _ hi, mixL_get _ _ _ _ hi]
  by_cases e : i = j
  · subst e; rw [if_pos rfl, if_pos (by omega)]
  · rw [if_neg e]
    by_cases e2 : i < j
    · rw [if_pos e2, if_pos (by omega)]
    · rw [if_neg e2, if_neg (by omega)]
end Go.Proofs.YtjfphobfikadlaaDoor
namespace Go.Proofs.YtjfphobfikadlaaDoor
open Go.RowKit Num

theorem Cg.same {p : Nat} {a b : Int} (h : Cg p a b) (a0 : 0 ≤ a) (a1 : a < p) (b0 : 0 ≤ b) (b1 : b < p) : a = b := by
  unfold Cg at h
  rwa [Int.emod_eq_of_lt a0 a1, Int.emod_eq_of_lt b0 b1] at h
/-- A power times a value is what the rows hold. -/
theorem pwr_mul {p : Nat} (x y : Int) (hp : 2 ≤ p) (h0 : 0 ≤ y) (h1 : y < p) (j : Nat) : pwr p 1 x j * y % (p : Int) = pwr p y x j := by
  have hb := pwr_bd (x := x) (by omega : 1 ≤ p) h0 h1 j
  have h := ((Cg.emod p (pwr p 1 x j * y)).trans ((pwr_cg p 1 x j).mul (Cg.refl p y))).trans ((show Cg p (1 * x ^ j * y) (y * x ^ j) by rw [Int.one_mul, Int.mul_comm]; exact Cg.refl _ _).trans (pwr_cg p y x j).symm)
  exact Cg.same h (Int.emod_nonneg _ (by omega)) (Int.emod_lt_of_pos _ (by omega)) hb.1 hb.2
/-- Rows of numbers, none yet or some, no two in one array. -/
def RowsU (W : World) (B : Nat) (v : Value) (M : List (List Int)) : Prop := ∃ us : List Value, W.ownsRow B 22 1 v M.length us ∧ (∀ k, k < M.length → OwnI W B (us.getD k (.slice none 0 0)) (M.getD k [])) ∧
  ∀ i k, i < k → k < M.length → (us.getD i (.slice none 0 0)).ownBlock ≠ (us.getD k (.slice none 0 0)).ownBlock
section
variable {W W' : World} {B : Nat} {v v' : Value} {M : List (List Int)}
theorem RowsU.nil (W : World) (B : Nat) : RowsU W B (.slice none 0 0) [] := ⟨[], World.ownsRow_nil _ _ _ _, fun k hk => absurd hk (Nat.not_lt_zero k), fun i k _ hk => absurd hk (Nat.not_lt_zero k)⟩
theorem RowsU.below (h : RowsU W B v M) (hb : Below W.heap.size W W') : RowsU W' B v M := by
  obtain ⟨us, h1, h2, h3⟩ := h
  exact ⟨us, h1.kept (only_of_below hb none) (by cases v.ownBlock <;> simp), fun k hk => (h2 k hk).below hb, h3⟩
theorem RowsU.snoc {us : List Value} {u : Value} {L : List Int} {B' : Nat} (h1 : W.ownsRow B 22 1 v M.length us) (h2 : ∀ k, k < M.length → OwnI W B (us.getD k (.slice none 0 0)) (M.getD k []))
    (h3 : ∀ i k, i < k → k < M.length → (us.getD i (.slice none 0 0)).ownBlock ≠ (us.getD k (.slice none 0 0)).ownBlock) (h4 : ∀ k, k < M.length → ∀ g, (us.getD k (.slice none 0 0)).ownBlock = some g → g < B')
    (hu : OwnI W B' u L) (hB : B ≤ B') (hL : 0 < L.length) (hg : W.grownBy W' v.ownBlock) (h5 : W'.ownsRow B 22 1 v' (M.length + 1) (us ++ [u])) : RowsU W' B v' (M ++ [L]) := by
  have hul : us.length = M.length := by have := h1.1; omega
  have hne : ∀ {x : Value} {K : List Int}, OwnI W B x K → OwnI W' B x K := fun {x K} hx => hx.kept hg (own_ne hx h1 (by decide))
  have hold : ∀ k, k < M.length → (us ++ [u]).getD k (.slice none 0 0) = us.getD k (.slice none 0 0) := fun k h => by
    rw [List.getD_eq_getElem?_getD, List.getElem?_append_left (by omega), ← List.getD_eq_getElem?_getD]
  have hnew : (us ++ [u]).getD M.length (.slice none 0 0) = u := by
    rw [List.getD_eq_getElem?_getD, List.getElem?_append_right (by omega), hul, Nat.sub_self]; rfl
  refine ⟨us ++ [u], by rw [List.length_append]; exact h5, fun k hk => ?_, fun i k hik hk => ?_⟩
  · rw [List.length_append] at hk
    have hk' : k < M.length + 1 := hk
    rcases Nat.lt_or_ge k M.length with h | h
    · rw [hold k h, List.getD_eq_getElem?_getD (l := M ++ [L]), List.getElem?_append_left h, ← List.getD_eq_getElem?_getD]
      exact hne (h2 k h)
    · have e : k = M.length := by omega
      subst e
      rw [hnew, List.getD_eq_getElem?_getD (l := M ++ [L]), List.getElem?_append_right (Nat.le_refl _), Nat.sub_self]
      exact hne (hu.mono hB)
  · rw [List.length_append] at hk
    have hk' : k < M.length + 1 := hk
    rcases Nat.lt_or_ge k M.length with h | h
    · rw [hold k h, hold i (by omega)]; exact h3 i k hik h
    · have e : k = M.length := by omega
      subst e
      rw [hnew, hold i hik]
      obtain ⟨g, cap, hv, hg1, _⟩ := World.ownsRow.form hu hL
      have hgu : u.ownBlock = some g := by rw [hv]; rfl
      have hgl := World.ownsRow.lt hu g hgu
      rw [hgu]
      intro e
      have := h4 i hik g e
      omega
theorem RowsU.rows (h : RowsU W B v M) (h0 : 0 < M.length) (hl : ∀ k, k < M.length → 0 < (M.getD k []).length) : ∃ rb cap gs cs, v = .slice (some ⟨rb, 0, none⟩) M.length cap ∧ M.length ≤ cap ∧ RowsG W B rb M.length M gs cs := by
  obtain ⟨us, h1, h2, h3⟩ := h
  obtain ⟨g, cap, hv, hcap, _⟩ := h1.form h0
  have hf : ∀ k, ∃ gk : Nat, ∃ ck : Nat, k < M.length → us.getD k (.slice none 0 0) = .slice (some ⟨gk, 0, none⟩) (M.getD k []).length ck := fun k => by
    rcases Nat.lt_or_ge k M.length with hk | hk
    · obtain ⟨gk, ck, hvk, _⟩ := World.ownsRow.form (h2 k hk) (hl k hk)
      exact ⟨gk, ck, fun _ => hvk⟩
    · exact ⟨0, 0, fun h => by omega⟩
  obtain ⟨gs, hf⟩ := Classical.skolem.1 hf
  obtain ⟨cs, hgs⟩ := Classical.skolem.1 hf
  subst hv
  have hul : us.length = M.length := by have := h1.1; omega
  have hroom : M.length ≤ cap := by
    rcases h1.2 with ⟨h', _⟩ | ⟨g', cap', cur, h', _, _, hnc, _⟩
    · cases h'
    · injection h' with _ h2 h3; omega
  have hlt := World.ownsRow.lt h1 g rfl
  refine ⟨g, cap, gs, cs, rfl, hroom, rfl, fun k hk => ?_, fun k => World.ownsRow.frozenAt h1 k, fun k hk => ?_, fun i k hi hk hne => ?_, fun k hk => ?_, hlt.2, hlt.1⟩
  · rw [← hgs k hk]
    have := World.ownsRow.cellAt h1 k (by omega)
    rw [this, List.getElem?_eq_getElem (by omega), List.getD_eq_getElem?_getD, List.getElem?_eq_getElem (by omega)]; rfl
  · rw [← hgs k hk]; exact h2 k hk
  · have key : ∀ i k, i < k → k < M.length → gs i ≠ gs k := fun i k hik hk e => by
      have := h3 i k hik hk
      rw [hgs k hk, hgs i (by omega)] at this
      exact this (by show some (gs i) = some (gs k); rw [e])
    rcases Nat.lt_or_ge i k with h | h
    · exact key i k h hk
    · exact (key k i (by omega) hi).symm
  · have hn := own_ne (h2 k hk) h1 (by decide)
    rw [hgs k hk] at hn
    intro e
    rcases hn with hn | hn
    · cases hn
    · exact hn (by show some (gs k) = some g; rw [e])
end
end Go.Proofs.YtjfphobfikadlaaDoor

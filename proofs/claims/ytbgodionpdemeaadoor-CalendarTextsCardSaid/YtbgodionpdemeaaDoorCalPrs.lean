/- Plain facts: which texts are days; reading numerals; cutting at dashes. No program stands in it. -/
import Derived.Test.YtbgodionpdemeaaDoorCalOrd
import Derived.Lib.AtoiAllCases
import Derived.Lib.Split
set_option linter.unusedVariables false
set_option linter.unusedSimpArgs false
namespace Go.Proofs.YtbgodionpdemeaaDoor.Cal
open Go

theorem less_irr (x : List UInt8) : Op.bytesLess x x = false := by
  induction x with
  | nil => rfl
  | cons a x ih => rw [less_cons, ih]; simp
theorem text_inj {a b : Int} (ha : okN a) (hb : okN b) (h : textN a = textN b) : a = b := by
  have h1 := text_less ha hb
  have h2 := text_less hb ha
  rw [h, less_irr] at h1
  rw [h, less_irr] at h2
  have := of_decide_eq_false h1.symm
  have := of_decide_eq_false h2.symm
  omega
def IsText (s : List UInt8) : Prop := ∃ n : Int, okN n ∧ textN n = s
open Classical in
noncomputable def prN (s : List UInt8) : Int := if h : IsText s then Classical.choose h else 0
open Classical in
noncomputable def prE (s : List UInt8) : Int := if IsText s then 0 else 10
theorem pr_t {s : List UInt8} {n : Int} (h : okN n) (ht : textN n = s) : prN s = n ∧ prE s = 0 := by
  have hs : IsText s := ⟨n, h, ht⟩
  refine ⟨?_, if_pos hs⟩
  unfold prN
  rw [dif_pos hs]
  have := Classical.choose_spec hs
  exact text_inj this.1 h (this.2.trans ht.symm)
theorem pr_f {s : List UInt8} (h : ¬ IsText s) : prN s = 0 ∧ prE s = 10 := ⟨dif_neg h, if_neg h⟩

/-! Digits. -/
theorem dg_range (n : Int) (k : Nat) : 48 ≤ (dg n k).toNat ∧ (dg n k).toNat ≤ 57 := by rw [dg_nat]; omega
theorem dg_ne (n : Int) (k : Nat) : dg n k ≠ 45 := fun h => by have := dg_range n k; rw [h] at this; revert this; decide
theorem parse_dg (n : Int) (k acc : Nat) (r : List UInt8) (ha : acc < 1000000000) : Lib.parseUint10 acc (dg n k :: r) = Lib.parseUint10 (acc * 10 + n.toNat / 10 ^ k % 10) r := by
  have h := dg_range n k
  have e : (dg n k).toNat - 48 = n.toNat / 10 ^ k % 10 := by rw [dg_nat]; omega
  rw [Lib.parseUint10, if_pos h, if_neg (by omega), e, if_neg (by omega)]
theorem atoi_dg (n : Int) (k : Nat) (r : List UInt8) : Lib.atoiAll (dg n k :: r) = Lib.signless (Lib.parseUint10 0 (dg n k :: r)) := by
  have h := dg_range n k
  rw [Lib.atoiAll_plain _ _ (by omega) (by omega)]
  rfl
theorem atoi_dig4 {n : Int} (h0 : 0 ≤ n) (h : n < 10000) : Lib.atoiAll (dig4 n) = .ok n := by
  unfold dig4
  rw [atoi_dg, parse_dg _ _ _ _ (by omega), parse_dg _ _ _ _ (by omega), parse_dg _ _ _ _ (by omega), parse_dg _ _ _ _ (by omega)]
  have e := digits4 n h0 h
  have e2 : (((0 * 10 + n.toNat / 10 ^ 3 % 10) * 10 + n.toNat / 10 ^ 2 % 10) * 10 + n.toNat / 10 ^ 1 % 10) * 10 + n.toNat / 10 ^ 0 % 10 = n.toNat := by omega
  rw [e2]
  simp only [Lib.parseUint10, Lib.signless]
  rw [if_neg (by omega)]
  congr 1; omega
theorem atoi_dig2 {n : Int} (h0 : 0 ≤ n) (h : n < 100) : Lib.atoiAll (dig2 n) = .ok n := by
  unfold dig2
  rw [atoi_dg, parse_dg _ _ _ _ (by omega), parse_dg _ _ _ _ (by omega)]
  have e2 : (0 * 10 + n.toNat / 10 ^ 1 % 10) * 10 + n.toNat / 10 ^ 0 % 10 = n.toNat := by omega
  rw [e2]
  simp only [Lib.parseUint10, Lib.signless]
  rw [if_neg (by omega)]
  congr 1; omega

/-! Cutting at dashes. -/
theorem index_hit (a r : List UInt8) (h : ∀ x ∈ a, x ≠ 45) : Lib.index (a ++ 45 :: r) [45] = a.length := by
  induction a with
  | nil => rfl
  | cons b a ih =>
    have hb : b ≠ 45 := h b (by simp)
    have ih := ih (fun x hx => h x (by simp [hx]))
    have e : ([45] : List UInt8).isPrefixOf (b :: (a ++ 45 :: r)) = false := by
      simp [List.isPrefixOf]; exact fun e => hb e.symm
    rw [List.cons_append, Lib.index, e, if_neg (by simp), ih, if_neg (by simp)]
    simp
theorem index_miss (a : List UInt8) (h : ∀ x ∈ a, x ≠ 45) : Lib.index a [45] = -1 := by
  induction a with
  | nil => rfl
  | cons b a ih =>
    have hb : b ≠ 45 := h b (by simp)
    have ih := ih (fun x hx => h x (by simp [hx]))
    have e : ([45] : List UInt8).isPrefixOf (b :: a) = false := by
      simp [List.isPrefixOf]; exact fun e => hb e.symm
    rw [Lib.index, e, if_neg (by simp), ih, if_pos (by simp)]
def dash : ByteArray := ⟨#[45]⟩
def ba (l : List UInt8) : ByteArray := ⟨l.toArray⟩
theorem ba_size (l : List UInt8) : (ba l).size = l.length := by simp [ba, ByteArray.size]
theorem ba_ext (l : List UInt8) (i j : Nat) : (ba l).extract i j = ba ((l.drop i).take (j - i)) := by
  apply ByteArray.ext
  apply Array.toList_inj.1
  rw [Lib.extract_data]
  rfl
theorem tail_of (a r : List UInt8) : ((a ++ 45 :: r).drop (a.length + dash.size)).take ((a ++ 45 :: r).length - (a.length + dash.size)) = r := by
  have e : (a ++ 45 :: r).drop (a.length + dash.size) = r := by
    rw [show a.length + dash.size = a.length + 1 from rfl, List.drop_append, List.drop_of_length_le (by omega)]
    simp
  rw [e, List.take_of_length_le]
  rw [show dash.size = 1 from rfl]; simp; omega
theorem split3 (a b c : List UInt8) (ha : ∀ x ∈ a, x ≠ 45) (hb : ∀ x ∈ b, x ≠ 45) (hc : ∀ x ∈ c, x ≠ 45) :
    Lib.countB (ba (a ++ 45 :: (b ++ 45 :: c))) dash = 2 ∧ Lib.splitB dash 0 2 (ba (a ++ 45 :: (b ++ 45 :: c))) = [ba a, ba b, ba c] := by
  have i1 : Lib.indexB (ba (a ++ 45 :: (b ++ 45 :: c))) dash = a.length := index_hit a _ ha
  have i2 : Lib.indexB (ba (b ++ 45 :: c)) dash = b.length := index_hit b _ hb
  have i3 : Lib.indexB (ba c) dash = -1 := index_miss c hc
  have d1 : (ba (a ++ 45 :: (b ++ 45 :: c))).extract (a.length + dash.size) (ba (a ++ 45 :: (b ++ 45 :: c))).size = ba (b ++ 45 :: c) := by
    rw [ba_ext, ba_size]
    congr 1
    exact tail_of a _
  have d2 : (ba (b ++ 45 :: c)).extract (b.length + dash.size) (ba (b ++ 45 :: c)).size = ba c := by
    rw [ba_ext, ba_size]
    congr 1
    exact tail_of b _
  have t1 : (ba (a ++ 45 :: (b ++ 45 :: c))).extract 0 (a.length + 0) = ba a := by rw [ba_ext]; simp
  have t2 : (ba (b ++ 45 :: c)).extract 0 (b.length + 0) = ba b := by rw [ba_ext]; simp
  constructor
  · rw [Lib.countB_hit _ _ _ (by decide) i1, d1, Lib.countB_hit _ _ _ (by decide) i2, d2, Lib.countB_miss _ _ i3]
  · rw [Lib.splitB_hit _ _ _ _ _ i1, d1, t1, Lib.splitB_hit _ _ _ _ _ i2, d2, t2]
    rfl
theorem text_split {n : Int} (h : okN n) : Lib.countB (ba (textN n)) dash = 2 ∧ Lib.splitB dash 0 2 (ba (textN n)) = [ba (dig4 (dtY n)), ba (dig2 (dtM n)), ba (dig2 (dtD n))] := by
  have e : textN n = dig4 (dtY n) ++ 45 :: (dig2 (dtM n) ++ 45 :: dig2 (dtD n)) := by
    rw [textN, if_pos h]; simp [textL]
  rw [e]
  apply split3
  · intro x hx; simp [dig4] at hx; rcases hx with rfl | rfl | rfl | rfl <;> exact dg_ne _ _
  · intro x hx; simp [dig2] at hx; rcases hx with rfl | rfl <;> exact dg_ne _ _
  · intro x hx; simp [dig2] at hx; rcases hx with rfl | rfl <;> exact dg_ne _ _
end Go.Proofs.YtbgodionpdemeaaDoor.Cal

/- Words for memory: trees as a reader makes them (no term has numbers of terms behind it). -/
import Derived.Test.YthfmmememdlekaaDoorFmGroM
set_option linter.unusedVariables false
set_option linter.unusedSimpArgs false
namespace Go.Proofs.YthfmmememdlekaaDoor
open Go.RowKit Num

def TermZ (w : World) (b : Nat) (t : Trm) : Prop := w.cell? ⟨b, 0, none⟩ = some (.int .i64 t.kind) ∧ w.cell? ⟨b, 1, none⟩ = some (.int .i64 t.num) ∧ w.cell? ⟨b, 2, none⟩ = some (.int .i64 t.yrs) ∧
  w.cell? ⟨b, 3, none⟩ = some (.string t.field) ∧ w.cell? ⟨b, 4, none⟩ = some (.string t.text) ∧ w.cell? ⟨b, 5, none⟩ = some (.slice none 0 0) ∧ t.args = []
theorem TermZ.keep {w w' : World} {b : Nat} {t : Trm} (h : TermZ w b t) (hb : w'.heap[b]? = w.heap[b]?) : TermZ w' b t := by
  obtain ⟨h0, h1, h2, h3, h4, h5, h6⟩ := h
  have e : ∀ o, w'.cell? ⟨b, o, none⟩ = w.cell? ⟨b, o, none⟩ := fun o => World.cell?_of_block hb
  exact ⟨(e _).trans h0, (e _).trans h1, (e _).trans h2, (e _).trans h3, (e _).trans h4, (e _).trans h5, h6⟩
def TreeZ (w : World) (S : Nat → Prop) : Nat → Value → Tree → Prop
  | 0, _, _ => False
  | d + 1, v, .node t xs => ∃ b, v = .pointer (some ⟨b, 0, none⟩) ∧ S b ∧ TermZ w b t ∧ ∃ A n c, w.cell? ⟨b, 6, none⟩ = some (.slice A n c) ∧ n = xs.length ∧ n ≤ c ∧
    (0 < n → ∃ g off, A = some ⟨g, off, none⟩ ∧ S g ∧ ∀ k x, xs[k]? = some x → ∃ p, w.cell? ⟨g, off + k, none⟩ = some p ∧ TreeZ w S d p x)
theorem TreeZ.keep {w w' : World} {S : Nat → Prop} (hk : ∀ b, S b → w'.heap[b]? = w.heap[b]?) : ∀ {d v T}, TreeZ w S d v T → TreeZ w' S d v T := by
  intro d
  induction d with
  | zero => intro v T h; exact h.elim
  | succ d ih =>
    intro v T h
    obtain ⟨t, xs⟩ := T
    obtain ⟨b, h1, h2, h3, A, n, c, h4, h5, h6, h7⟩ := h
    refine ⟨b, h1, h2, h3.keep (hk b h2), A, n, c, (World.cell?_of_block (hk b h2)).trans h4, h5, h6, fun hn => ?_⟩
    obtain ⟨g, off, hA, hg, hc⟩ := h7 hn
    refine ⟨g, off, hA, hg, fun k x hx => ?_⟩
    obtain ⟨p, hp, ht⟩ := hc k x hx
    exact ⟨p, (World.cell?_of_block (hk g hg)).trans hp, ih ht⟩
theorem TreeZ.mono {w : World} {S S' : Nat → Prop} {d : Nat} {v : Value} {T : Tree} (h : TreeZ w S d v T) (hk : ∀ b, S b → S' b) : TreeZ w S' d v T := by
  induction d generalizing v T with
  | zero => exact h.elim
  | succ d ih =>
    obtain ⟨t, xs⟩ := T
    obtain ⟨b, h1, h2, h3, A, n, c, h4, h5, h6, h7⟩ := h
    refine ⟨b, h1, hk b h2, h3, A, n, c, h4, h5, h6, fun hn => ?_⟩
    obtain ⟨g, off, hA, hg, hc⟩ := h7 hn
    refine ⟨g, off, hA, hk g hg, fun k x hx => ?_⟩
    obtain ⟨p, hp, ht⟩ := hc k x hx
    exact ⟨p, hp, ih ht⟩
theorem TreeZ.deeper {w : World} {S : Nat → Prop} {d f : Nat} {v : Value} {T : Tree} (h : TreeZ w S d v T) (hf : d ≤ f) : TreeZ w S f v T := by
  induction d generalizing f v T with
  | zero => exact h.elim
  | succ d ih =>
    obtain ⟨f, rfl⟩ : ∃ g, f = g + 1 := ⟨f - 1, by omega⟩
    obtain ⟨t, xs⟩ := T
    obtain ⟨b, h1, h2, h3, A, n, c, h4, h5, h6, h7⟩ := h
    refine ⟨b, h1, h2, h3, A, n, c, h4, h5, h6, fun hn => ?_⟩
    obtain ⟨g, off, hA, hg, hc⟩ := h7 hn
    refine ⟨g, off, hA, hg, fun k x hx => ?_⟩
    obtain ⟨p, hp, ht⟩ := hc k x hx
    exact ⟨p, hp, ih ht (by omega)⟩
theorem TreeZ.ptr {w : World} {S : Nat → Prop} {d : Nat} {v : Value} {T : Tree} (h : TreeZ w S d v T) : ∃ b, v = .pointer (some ⟨b, 0, none⟩) ∧ S b := by
  cases d with
  | zero => exact h.elim
  | succ d => obtain ⟨t, xs⟩ := T; obtain ⟨b, h1, h2, _⟩ := h; exact ⟨b, h1, h2⟩
def KidZ (w : World) (S : Nat → Prop) (d : Nat) (ps : List Value) (xs : List Tree) : Prop := ∀ (i : Nat) (x : Tree), xs[i]? = some x → ∃ p, ps[i]? = some p ∧ TreeZ w S d p x
theorem KidZ.keep {w w' : World} {S T : Nat → Prop} {d : Nat} {ps : List Value} {xs : List Tree} (h : KidZ w S d ps xs) (hk : ∀ b, S b → w'.heap[b]? = w.heap[b]?) (hm : ∀ b, S b → T b) : KidZ w' T d ps xs := by
  intro i x hx
  obtain ⟨p, hp, ht⟩ := h i x hx
  exact ⟨p, hp, (ht.keep hk).mono hm⟩
theorem KidZ.snoc {w : World} {S : Nat → Prop} {d : Nat} {ps : List Value} {xs : List Tree} {p : Value} {x : Tree} (h : KidZ w S d ps xs) (hl : ps.length = xs.length) (hx : TreeZ w S d p x) : KidZ w S d (ps ++ [p]) (xs ++ [x]) := by
  intro i y hy
  rcases Nat.lt_or_ge i xs.length with hi | hi
  · rw [List.getElem?_append_left hi] at hy
    obtain ⟨q, hq, ht⟩ := h i y hy
    exact ⟨q, by rw [List.getElem?_append_left (by omega)]; exact hq, ht⟩
  · rw [List.getElem?_append_right hi] at hy
    have h0 : i - xs.length = 0 := by
      rcases Nat.eq_zero_or_pos (i - xs.length) with h | h
      · exact h
      · rw [List.getElem?_eq_none (by simp; omega)] at hy; cases hy
    rw [h0] at hy
    injection hy with hy
    subst hy
    exact ⟨p, by rw [List.getElem?_append_right (by omega), show i - ps.length = 0 by omega]; rfl, hx⟩
end Go.Proofs.YthfmmememdlekaaDoor

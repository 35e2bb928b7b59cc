/- Words for memory: terms, lists of terms, trees. -/
import Derived.Test.YthfmmememdlekaaDoorFmBare
set_option linter.unusedVariables false
set_option linter.unusedSimpArgs false
namespace Go.Proofs.YthfmmememdlekaaDoor
open Go.RowKit Num

def trm0 : Trm := ⟨0, 0, 0, E0, E0, []⟩
def trmAt (L : List Trm) (k : Nat) : Trm := L.getD k trm0
def TermAt (w : World) (S : Nat → Prop) (b off : Nat) (t : Trm) : Prop := w.cell? ⟨b, off, none⟩ = some (.int .i64 t.kind) ∧ w.cell? ⟨b, off + 1, none⟩ = some (.int .i64 t.num) ∧ w.cell? ⟨b, off + 2, none⟩ = some (.int .i64 t.yrs) ∧
  w.cell? ⟨b, off + 3, none⟩ = some (.string t.field) ∧ w.cell? ⟨b, off + 4, none⟩ = some (.string t.text) ∧ ∃ u, w.cell? ⟨b, off + 5, none⟩ = some u ∧ IntsAt w S u t.args
def TermsAt (w : World) (S : Nat → Prop) (v : Value) (L : List Trm) : Prop :=
  ∃ (A : Option Addr) (n c : Nat), v = .slice A n c ∧ n = L.length ∧ n ≤ c ∧ (0 < n → ∃ b off, A = some ⟨b, off, none⟩ ∧ S b ∧ ∀ k, k < n → TermAt w S b (off + k * 6) (trmAt L k))
theorem TermAt.keep {w w' : World} {S : Nat → Prop} {b off : Nat} {t : Trm} (h : TermAt w S b off t) (hb : w'.heap[b]? = w.heap[b]?) (hk : ∀ b, S b → w'.heap[b]? = w.heap[b]?) : TermAt w' S b off t := by
  obtain ⟨h0, h1, h2, h3, h4, u, h5, h6⟩ := h
  have e : ∀ o, w'.cell? ⟨b, o, none⟩ = w.cell? ⟨b, o, none⟩ := fun o => World.cell?_of_block hb
  exact ⟨(e _).trans h0, (e _).trans h1, (e _).trans h2, (e _).trans h3, (e _).trans h4, u, (e _).trans h5, h6.keep hk⟩
theorem TermAt.mono {w : World} {S T : Nat → Prop} {b off : Nat} {t : Trm} (h : TermAt w S b off t) (hk : ∀ b, S b → T b) : TermAt w T b off t := by
  obtain ⟨h0, h1, h2, h3, h4, u, h5, h6⟩ := h
  exact ⟨h0, h1, h2, h3, h4, u, h5, h6.mono hk⟩
theorem TermsAt.keep {w w' : World} {S : Nat → Prop} {v : Value} {L : List Trm} (h : TermsAt w S v L) (hk : ∀ b, S b → w'.heap[b]? = w.heap[b]?) : TermsAt w' S v L := by
  obtain ⟨A, n, c, h1, h2, h3, h4⟩ := h
  refine ⟨A, n, c, h1, h2, h3, fun hn => ?_⟩
  obtain ⟨b, off, hA, hS, hc⟩ := h4 hn
  exact ⟨b, off, hA, hS, fun k hk' => (hc k hk').keep (hk b hS) hk⟩
theorem TermsAt.mono {w : World} {S T : Nat → Prop} {v : Value} {L : List Trm} (h : TermsAt w S v L) (hk : ∀ b, S b → T b) : TermsAt w T v L := by
  obtain ⟨A, n, c, h1, h2, h3, h4⟩ := h
  refine ⟨A, n, c, h1, h2, h3, fun hn => ?_⟩
  obtain ⟨b, off, hA, hS, hc⟩ := h4 hn
  exact ⟨b, off, hA, hk b hS, fun k hk' => (hc k hk').mono hk⟩
theorem TermsAt.below {w w' : World} {B : Nat} {v : Value} {L : List Trm} (h : TermsAt w (· < B) v L) (hb : Below B w w') : TermsAt w' (· < B) v L := h.keep fun b hB => hb.block b hB

def TreeAt (w : World) (S : Nat → Prop) : Nat → Value → Tree → Prop
  | 0, _, _ => False
  | d + 1, v, .node t xs => ∃ b, v = .pointer (some ⟨b, 0, none⟩) ∧ S b ∧ TermAt w S b 0 t ∧ ∃ A n c, w.cell? ⟨b, 6, none⟩ = some (.slice A n c) ∧ n = xs.length ∧ n ≤ c ∧
    (0 < n → ∃ g off, A = some ⟨g, off, none⟩ ∧ S g ∧ ∀ k x, xs[k]? = some x → ∃ p, w.cell? ⟨g, off + k, none⟩ = some p ∧ TreeAt w S d p x)
theorem TreeAt.keep {w w' : World} {S : Nat → Prop} (hk : ∀ b, S b → w'.heap[b]? = w.heap[b]?) : ∀ {d v T}, TreeAt w S d v T → TreeAt w' S d v T := by
  intro d
  induction d with
  | zero => intro v T h; exact h.elim
  | succ d ih =>
    intro v T h
    obtain ⟨t, xs⟩ := T
    obtain ⟨b, h1, h2, h3, A, n, c, h4, h5, h6, h7⟩ := h
    refine ⟨b, h1, h2, h3.keep (hk b h2) hk, A, n, c, (World.cell?_of_block (hk b h2)).trans h4, h5, h6, fun hn => ?_⟩
    obtain ⟨g, off, hA, hg, hc⟩ := h7 hn
    refine ⟨g, off, hA, hg, fun k x hx => ?_⟩
    obtain ⟨p, hp, ht⟩ := hc k x hx
    exact ⟨p, (World.cell?_of_block (hk g hg)).trans hp, ih ht⟩
theorem TreeAt.mono {w : World} {S S' : Nat → Prop} (hk : ∀ b, S b → S' b) : ∀ {d v T}, TreeAt w S d v T → TreeAt w S' d v T := by
  intro d
  induction d with
  | zero => intro v T h; exact h.elim
  | succ d ih =>
    intro v T h
    obtain ⟨t, xs⟩ := T
    obtain ⟨b, h1, h2, h3, A, n, c, h4, h5, h6, h7⟩ := h
    refine ⟨b, h1, hk b h2, h3.mono hk, A, n, c, h4, h5, h6, fun hn => ?_⟩
    obtain ⟨g, off, hA, hg, hc⟩ := h7 hn
    refine ⟨g, off, hA, hk g hg, fun k x hx => ?_⟩
    obtain ⟨p, hp, ht⟩ := hc k x hx
    exact ⟨p, hp, ih ht⟩
theorem TreeAt.deeper {w : World} {S : Nat → Prop} : ∀ {d f v T}, d ≤ f → TreeAt w S d v T → TreeAt w S f v T := by
  intro d
  induction d with
  | zero => intro f v T hf h; exact h.elim
  | succ d ih =>
    intro f v T hf h
    obtain ⟨f, rfl⟩ : ∃ g, f = g + 1 := ⟨f - 1, by omega⟩
    obtain ⟨t, xs⟩ := T
    obtain ⟨b, h1, h2, h3, A, n, c, h4, h5, h6, h7⟩ := h
    refine ⟨b, h1, h2, h3, A, n, c, h4, h5, h6, fun hn => ?_⟩
    obtain ⟨g, off, hA, hg, hc⟩ := h7 hn
    refine ⟨g, off, hA, hg, fun k x hx => ?_⟩
    obtain ⟨p, hp, ht⟩ := hc k x hx
    exact ⟨p, hp, ih (by omega) ht⟩
theorem TreeAt.ptr {w : World} {S : Nat → Prop} {d : Nat} {v : Value} {T : Tree} (h : TreeAt w S d v T) : ∃ b, v = .pointer (some ⟨b, 0, none⟩) ∧ S b := by
  cases d with
  | zero => exact h.elim
  | succ d => obtain ⟨t, xs⟩ := T; obtain ⟨b, h1, h2, _⟩ := h; exact ⟨b, h1, h2⟩
end Go.Proofs.YthfmmememdlekaaDoor

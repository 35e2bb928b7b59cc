/- Words for memory: a tree that grows in a loop. -/
import Derived.Test.YtgeahbmaeaoeeaaGreatDoorQ08
set_option linter.unusedVariables false
set_option linter.unusedSimpArgs false
namespace Go.Proofs.YtgeahbmaeaoeeaaGreatDoor
open Go.RowKit Num

theorem grown_setCell (w : World) (p : Addr) (v : Value) : w.grownBy (w.setCell p v) (some p.block) :=
  ⟨rfl, rfl, rfl, by simp [World.setCell], fun i _ hn => Below.heap_setCell w p v i (fun e => hn (by rw [e]))⟩
theorem Blk.below' {w w' : World} {g B : Nat} {t : TypeId} {cs : Array Value} (h : Blk w g t cs) (hb : Below B w w') (hg : g < B) : Blk w' g t cs := (hb.block g hg).trans h
theorem Blk.grown' {w w' : World} {g : Nat} {t : TypeId} {cs : Array Value} {row : Option Nat} (h : Blk w g t cs) (hb : w.grownBy w' row) (hg : some g ≠ row) : Blk w' g t cs := (hb.block g h.lt hg).trans h
def KidS (B bt : Nat) (u : Value) (w : World) (c : Nat) : Prop := c < B ∨ (bt < c ∧ c < w.heap.size ∧ u.ownBlock ≠ some c)
def Kids (w : World) (S : Nat → Prop) (d : Nat) (ps : List Value) (xs : List Tree) : Prop := ∀ (i : Nat) (x : Tree), xs[i]? = some x → ∃ p, ps[i]? = some p ∧ TreeAt w S d p x
theorem Kids.keep {w w' : World} {S T : Nat → Prop} {d : Nat} {ps : List Value} {xs : List Tree} (h : Kids w S d ps xs) (hk : ∀ b, S b → w'.heap[b]? = w.heap[b]?) (hm : ∀ b, S b → T b) : Kids w' T d ps xs := by
  intro i x hx
  obtain ⟨p, hp, ht⟩ := h i x hx
  exact ⟨p, hp, (ht.keep hk).mono hm⟩
theorem Kids.snoc {w : World} {S : Nat → Prop} {d : Nat} {ps : List Value} {xs : List Tree} {p : Value} {x : Tree} (h : Kids w S d ps xs) (hl : ps.length = xs.length) (hx : TreeAt w S d p x) : Kids w S d (ps ++ [p]) (xs ++ [x]) := by
  intro i y hy
  rcases Nat.lt_or_ge i xs.length with hi | hi
  · rw [List.getElem?_append_left hi] at hy
    obtain ⟨q, hq, ht⟩ := h i y hy
    exact ⟨q, by rw [List.getElem?_append_left (by omega)]; exact hq, ht⟩
  · rw [List.getElem?_append_right hi] at hy
    have h0 : i - xs.length = 0 := by
      rcases Nat.eq_zero_or_pos (i - xs.length) with h | h
      · exact h
      · rw [List.getElem?_eq_none (by simp; omega)] at hy; cases hy
    rw [h0] at hy
    injection hy with hy
    subst hy
    exact ⟨p, by rw [List.getElem?_append_right (by omega), show i - ps.length = 0 by omega]; rfl, hx⟩
abbrev tmC (t : Trm) (ta u : Value) : Array Value := #[.int .i64 t.kind, .int .i64 t.num, .int .i64 t.yrs, .string t.field, .string t.text, ta, u]
structure GrowK (w : World) (B bt : Nat) (t : Trm) (ta : Value) (d : Nat) (wr : World) (k : Nat) (xs : List Tree) (u : Value) (ps : List Value) : Prop where
  lo : w.heap.size ≤ bt
  hi : B ≤ w.heap.size
  bel : Below w.heap.size w wr
  blk : Blk wr bt 183 (tmC t ta u)
  args : IntsAt wr (· < B) ta t.args
  len : xs.length = k
  own : wr.ownsRow (bt + 1) 153 1 u k ps
  kids : Kids wr (KidS B bt u wr) d ps xs
section
variable {w wr w1 w2 : World} {B bt d k : Nat} {t : Trm} {ta u u' p : Value} {xs : List Tree} {ps : List Value} {x : Tree}
theorem GrowK.start {wk : World} (hb : Below w.heap.size w wk) (hB : B ≤ w.heap.size) (hi : IntsAt w (· < B) ta t.args) :
    GrowK w B wk.heap.size t ta d (wk.alloc (.cells (tmC t ta (.slice none 0 0)) 183)) 0 [] (.slice none 0 0) [] := by
  have hb2 : Below w.heap.size w (wk.alloc (.cells (tmC t ta (.slice none 0 0)) 183)) := hb.alloc hb.size _
  exact ⟨hb.size, hB, hb2, Blk.new _ _ _, hi.keep fun b hbB => hb2.block b (by omega), rfl, World.ownsRow_nil _ _ _ _, fun i x hx => by simp at hx⟩
theorem GrowK.call (h : GrowK w B bt t ta d wr k xs u ps) (hb : Below wr.heap.size wr w1) : GrowK w B bt t ta d w1 k xs u ps := by
  have hs := h.bel.size
  have hlt := h.blk.lt
  refine ⟨h.lo, h.hi, h.bel.trans (hb.mono hs), h.blk.below' hb hlt, h.args.keep fun b hbB => hb.block b (by have := h.hi; omega), h.len, ?_, ?_⟩
  · exact h.own.kept (only_of_below hb none) (by cases u.ownBlock <;> simp)
  · refine h.kids.keep (fun b hS => hb.block b ?_) (fun b hS => ?_)
    · rcases hS with h1 | ⟨h1, h2, _⟩
      · have := h.hi; omega
      · exact h2
    · rcases hS with h1 | ⟨h1, h2, h3⟩
      · exact .inl h1
      · exact .inr ⟨h1, Nat.lt_of_lt_of_le h2 hb.size, h3⟩
theorem GrowK.append (h : GrowK w B bt t ta d w1 k xs u ps) {s : Nat} (hs : bt < s) (hus : ∀ g, u.ownBlock = some g → g < s) (hx : TreeAt w1 (fun c => c < B ∨ (s ≤ c ∧ c < w1.heap.size)) d p x) {o : Obj}
    (hown : w2.ownsRow (bt + 1) 153 1 u' (k + 1) (ps ++ [p])) (hg : (w1.alloc o).grownBy w2 u.ownBlock) (hw : u'.ownBlock = u.ownBlock ∨ u'.ownBlock = some (w1.heap.size + 1)) :
    GrowK w B bt t ta d (w2.setCell ⟨bt, 6, none⟩ u') (k + 1) (xs ++ [x]) u' (ps ++ [p]) := by
  have hlt := h.blk.lt
  have hbl : ∀ g, u.ownBlock = some g → bt + 1 ≤ g ∧ g < w1.heap.size := h.own.lt
  have hne : some bt ≠ u.ownBlock := fun e => by have := (hbl bt e.symm).1; omega
  have hsz1 : (w1.alloc o).heap.size = w1.heap.size + 1 := by simp
  have hsz : w1.heap.size + 1 ≤ w2.heap.size := by rw [← hsz1]; exact hg.size
  have key : ∀ c, c < w1.heap.size → u.ownBlock ≠ some c → c ≠ bt → (w2.setCell ⟨bt, 6, none⟩ u').heap[c]? = w1.heap[c]? := fun c hc hn hb =>
    ((Below.heap_setCell w2 ⟨bt, 6, none⟩ u' c hb).trans (hg.block c (by omega) (fun e => hn e.symm))).trans (Below.heap_alloc w1 o c hc)
  have hb2 : Below w.heap.size w (w2.setCell ⟨bt, 6, none⟩ u') := by
    have hlo := h.lo
    exact ((h.bel.alloc (by have := h.bel.size; omega) o).grown hg (by rw [hsz1]; have := h.bel.size; omega) (fun g hg' => by have := (hbl g hg').1; omega)).setCell (p := ⟨bt, 6, none⟩) hlo u'
  have hsz3 : (w2.setCell ⟨bt, 6, none⟩ u').heap.size = w2.heap.size := by simp [World.setCell]
  refine ⟨h.lo, h.hi, hb2, ?_, ?_, by simp [h.len], ?_, ?_⟩
  · have := (Blk.grown' (h.blk.alloc o) hg hne).set_ 6 u'
    exact this
  · refine h.args.keep fun b hbB => key b ?_ ?_ ?_
    · have := h.hi; have := h.bel.size; omega
    · intro e; have := (hbl b e).1; have := h.hi; have := h.lo; omega
    · have := h.hi; have := h.lo; omega
  · refine hown.kept (grown_setCell w2 ⟨bt, 6, none⟩ u') ?_
    right
    intro e
    have := (hown.lt bt e).1
    omega
  · refine Kids.snoc (h.kids.keep (fun b hS => ?_) (fun b hS => ?_)) (by have := h.own.1; have := h.len; omega) ((hx.keep (fun b hS => ?_)).mono (fun b hS => ?_))
    · rcases hS with h1 | ⟨h1, h2, h3⟩
      · exact key b (by have := h.hi; have := h.bel.size; omega) (fun e => by have := (hbl b e).1; have := h.hi; have := h.lo; omega) (by have := h.hi; have := h.lo; omega)
      · exact key b h2 h3 (by omega)
    · rcases hS with h1 | ⟨h1, h2, h3⟩
      · exact .inl h1
      · refine .inr ⟨h1, by omega, ?_⟩
        rcases hw with e | e
        · rw [e]; exact h3
        · rw [e]; intro e'; injection e' with e'; omega
    · rcases hS with h1 | ⟨h1, h2⟩
      · exact key b (by have := h.hi; have := h.bel.size; omega) (fun e => by have := (hbl b e).1; have := h.hi; have := h.lo; omega) (by have := h.hi; have := h.lo; omega)
      · exact key b h2 (fun e => by have := hus b e; omega) (by omega)
    · rcases hS with h1 | ⟨h1, h2⟩
      · exact .inl h1
      · refine .inr ⟨by omega, by omega, ?_⟩
        rcases hw with e | e
        · rw [e]; intro e'; have := hus b e'; omega
        · rw [e]; intro e'; injection e' with e'; omega
/-- The grown tree. -/
theorem GrowK.tree (h : GrowK w B bt t ta d wr k xs u ps) : TreeAt wr (fun c => c < B ∨ (w.heap.size ≤ c ∧ c < wr.heap.size)) (d + 1) (.pointer (some ⟨bt, 0, none⟩)) (.node t xs) := by
  have hlt := h.blk.lt
  obtain ⟨A, n, c, rfl, hn, hc⟩ : ∃ A n c, u = .slice A n c ∧ n = k ∧ n ≤ c := by
    rcases h.own.2 with ⟨h1, h2⟩ | ⟨g, cap, cur, h1, _, _, h2, _⟩
    · exact ⟨_, _, _, h1, h2.symm, Nat.le_refl _⟩
    · exact ⟨_, _, _, h1, rfl, h2⟩
  refine ⟨bt, rfl, .inr ⟨h.lo, hlt⟩, ⟨h.blk.cell 0, h.blk.cell 1, h.blk.cell 2, h.blk.cell 3, h.blk.cell 4, ta, h.blk.cell 5, h.args.mono fun b hb => .inl hb⟩, A, n, c, h.blk.cell 6, by rw [h.len, hn], hc, fun hpos => ?_⟩
  obtain ⟨g, cap, hv, _⟩ := h.own.form (by omega)
  injection hv with h1 _ _
  subst h1
  have hg := h.own.lt g rfl
  refine ⟨g, 0, rfl, .inr ⟨by have := h.lo; omega, hg.2⟩, fun i x hx => ?_⟩
  obtain ⟨p, hp, ht⟩ := h.kids i x hx
  refine ⟨p, ?_, ht.mono fun b hS => ?_⟩
  · have := h.own.cells (g := g) rfl i p hp
    rw [Nat.zero_add]
    have ha : (⟨g, 0, none⟩ : Addr).add i = ⟨g, i, none⟩ := by unfold Addr.add; split <;> simp_all
    rwa [ha] at this
  · rcases hS with h1 | ⟨h1, h2, _⟩
    · exact .inl h1
    · exact .inr ⟨by have := h.lo; omega, h2⟩
end
theorem drop_getD (L : List Int) (j : Nat) (h : j < L.length) : L.drop j = L.getD j 0 :: L.drop (j + 1) := by
  rw [List.drop_eq_getElem_cons h]; simp [List.getD_eq_getElem?_getD, h]
def restA (g : Nat → Option (Tree × Nat)) (xs : List Tree) (ks : List Int) (nx : Nat) : Option (List Tree × Nat) := match growA g ks nx with
  | none => none
  | some (ys, n) => some (xs ++ ys, n)
section
variable {g : Nat → Option (Tree × Nat)} {xs : List Tree} {key : Int} {r : List Int} {nx af : Nat} {x : Tree}
theorem restA_nil : restA g xs [] nx = some (xs, nx) := by simp [restA, growA]
theorem restA_ne (h : ¬ key = (nx : Int)) : restA g xs (key :: r) nx = none := by simp [restA, growA, h]
theorem restA_none (h : key = (nx : Int)) (hg : g nx = none) : restA g xs (key :: r) nx = none := by simp [restA, growA, h, hg]
theorem restA_some (h : key = (nx : Int)) (hg : g nx = some (x, af)) : restA g xs (key :: r) nx = restA g (xs ++ [x]) r af := by
  unfold restA
  rw [growA, if_pos h, hg]
  simp only
  cases growA g r af <;> simp
end
theorem own_slice {w : World} {B : Nat} {e : TypeId} {s n : Nat} {v : Value} {xs : List Value} (h : w.ownsRow B e s v n xs) : ∃ A c, v = .slice A n c := by
  rcases h.2 with ⟨h1, h2⟩ | ⟨g, cap, cur, h1, _⟩
  · subst h2; exact ⟨_, _, h1⟩
  · exact ⟨_, _, h1⟩
end Go.Proofs.YtgeahbmaeaoeeaaGreatDoor

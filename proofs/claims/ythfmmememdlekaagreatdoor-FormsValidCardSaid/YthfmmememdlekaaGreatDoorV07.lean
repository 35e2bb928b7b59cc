/- Words for memory: forms. Plain facts: which forms are valid. Words for memory: a tree that grows in a loop. Words for memory: trees as a reader makes them (no term has numbers of terms behind it). -/
import Derived.Test.YthfmmememdlekaaGreatDoorV06
import Derived.Test.YthfmmememdlekaaGreatDoorV05
set_option linter.unusedVariables false
set_option linter.unusedSimpArgs false
namespace Go.Proofs.YthfmmememdlekaaGreatDoor
open Go.RowKit Num

/-- A field of a form. -/
structure Fld where
  name : ByteArray
  kind : Int
  need : Bool
  least : Int
  most : Int
  opts : List ByteArray
def fld0 : Fld := ⟨⟨#[]⟩, 0, false, 0, 0, []⟩
def fldAt (L : List Fld) (k : Nat) : Fld := L.getD k fld0
/-- Texts in memory. -/
def TxsAt (w : World) (S : Nat → Prop) (v : Value) (ss : List ByteArray) : Prop :=
  ∃ (A : Option Addr) (n c : Nat), v = .slice A n c ∧ n = ss.length ∧ n ≤ c ∧ (0 < n → ∃ b off, A = some ⟨b, off, none⟩ ∧ S b ∧ ∀ k, k < n → w.cell? ⟨b, off + k, none⟩ = some (.string (ss.getD k ⟨#[]⟩)))
theorem TxsAt.keep {w w' : World} {S : Nat → Prop} {v : Value} {ss : List ByteArray} (h : TxsAt w S v ss) (hk : ∀ b, S b → w'.heap[b]? = w.heap[b]?) : TxsAt w' S v ss := by
  obtain ⟨A, n, c, h1, h2, h3, h4⟩ := h
  refine ⟨A, n, c, h1, h2, h3, fun hn => ?_⟩
  obtain ⟨b, off, hA, hS, hc⟩ := h4 hn
  exact ⟨b, off, hA, hS, fun k hk' => (World.cell?_of_block (hk b hS)).trans (hc k hk')⟩
theorem TxsAt.mono {w : World} {S T : Nat → Prop} {v : Value} {ss : List ByteArray} (h : TxsAt w S v ss) (hk : ∀ b, S b → T b) : TxsAt w T v ss := by
  obtain ⟨A, n, c, h1, h2, h3, h4⟩ := h
  refine ⟨A, n, c, h1, h2, h3, fun hn => ?_⟩
  obtain ⟨b, off, hA, hS, hc⟩ := h4 hn
  exact ⟨b, off, hA, hk b hS, hc⟩
theorem TxsAt.of_own {w : World} {B : Nat} {v : Value} {n : Nat} {ss : List ByteArray} (h : w.ownsRow B 9 1 v n (ss.map Value.string)) : TxsAt w (fun b => B ≤ b ∧ b < w.heap.size) v ss := by
  have hl : n = ss.length := by have := h.1; simpa using this.symm
  rcases id h.2 with ⟨rfl, rfl⟩ | ⟨g, cap, cur, rfl, hB, hh, hnc, _⟩
  · exact ⟨none, 0, 0, rfl, hl, Nat.le_refl _, fun hn => absurd hn (Nat.lt_irrefl 0)⟩
  · refine ⟨_, n, cap, rfl, hl, hnc, fun hn => ⟨g, 0, rfl, ⟨hB, (Array.getElem?_eq_some_iff.1 hh).1⟩, fun k hk => ?_⟩⟩
    rw [Nat.zero_add, h.cellAt k (by omega), List.getElem?_map, List.getElem?_eq_getElem (by omega), List.getD_eq_getElem?_getD, List.getElem?_eq_getElem (by omega)]
    rfl
/-- A field in memory. -/
def FldAt (w : World) (S : Nat → Prop) (b off : Nat) (f : Fld) : Prop :=
  w.cell? ⟨b, off, none⟩ = some (.string f.name) ∧ w.cell? ⟨b, off + 1, none⟩ = some (.int .i64 f.kind) ∧ w.cell? ⟨b, off + 2, none⟩ = some (.bool f.need) ∧ w.cell? ⟨b, off + 3, none⟩ = some (.int .i64 f.least) ∧ w.cell? ⟨b, off + 4, none⟩ = some (.int .i64 f.most) ∧
    ∃ u, w.cell? ⟨b, off + 5, none⟩ = some u ∧ TxsAt w S u f.opts
def FldsAt (w : World) (S : Nat → Prop) (v : Value) (L : List Fld) : Prop :=
  ∃ (A : Option Addr) (n c : Nat), v = .slice A n c ∧ n = L.length ∧ n ≤ c ∧ (0 < n → ∃ b off, A = some ⟨b, off, none⟩ ∧ S b ∧ ∀ k, k < n → FldAt w S b (off + k * 6) (fldAt L k))
theorem FldAt.keep {w w' : World} {S : Nat → Prop} {b off : Nat} {f : Fld} (h : FldAt w S b off f) (hb : w'.heap[b]? = w.heap[b]?) (hk : ∀ b, S b → w'.heap[b]? = w.heap[b]?) : FldAt w' S b off f := by
  obtain ⟨h0, h1, h2, h3, h4, u, h5, h6⟩ := h
  have e : ∀ o, w'.cell? ⟨b, o, none⟩ = w.cell? ⟨b, o, none⟩ := fun o => World.cell?_of_block hb
  exact ⟨(e _).trans h0, (e _).trans h1, (e _).trans h2, (e _).trans h3, (e _).trans h4, u, (e _).trans h5, h6.keep hk⟩
theorem FldAt.mono {w : World} {S T : Nat → Prop} {b off : Nat} {f : Fld} (h : FldAt w S b off f) (hk : ∀ b, S b → T b) : FldAt w T b off f := by
  obtain ⟨h0, h1, h2, h3, h4, u, h5, h6⟩ := h
  exact ⟨h0, h1, h2, h3, h4, u, h5, h6.mono hk⟩
theorem FldsAt.keep {w w' : World} {S : Nat → Prop} {v : Value} {L : List Fld} (h : FldsAt w S v L) (hk : ∀ b, S b → w'.heap[b]? = w.heap[b]?) : FldsAt w' S v L := by
  obtain ⟨A, n, c, h1, h2, h3, h4⟩ := h
  refine ⟨A, n, c, h1, h2, h3, fun hn => ?_⟩
  obtain ⟨b, off, hA, hS, hc⟩ := h4 hn
  exact ⟨b, off, hA, hS, fun k hk' => (hc k hk').keep (hk b hS) hk⟩
theorem FldsAt.mono {w : World} {S T : Nat → Prop} {v : Value} {L : List Fld} (h : FldsAt w S v L) (hk : ∀ b, S b → T b) : FldsAt w T v L := by
  obtain ⟨A, n, c, h1, h2, h3, h4⟩ := h
  refine ⟨A, n, c, h1, h2, h3, fun hn => ?_⟩
  obtain ⟨b, off, hA, hS, hc⟩ := h4 hn
  exact ⟨b, off, hA, hk b hS, fun k hk' => (hc k hk').mono hk⟩
/-- What is small enough for the walks. -/
def FldOk (f : Fld) : Prop := f.name.size ≤ 4294967296 ∧ f.opts.length ≤ 1000000 ∧ -9223372036854775808 ≤ f.kind ∧ f.kind < 9223372036854775808 ∧ -9223372036854775808 ≤ f.least ∧ f.least < 9223372036854775808 ∧ -9223372036854775808 ≤ f.most ∧ f.most < 9223372036854775808 ∧ ∀ s ∈ f.opts, s.size ≤ 9223372036854775807
/-! ### Which forms are valid -/
def optGood (L : List ByteArray) (k : Nat) : Prop := ∀ i, i < k → 1 ≤ (L.getD i ⟨#[]⟩).size ∧ (L.getD i ⟨#[]⟩).size ≤ 256 ∧ ∀ j, j < i → L.getD j ⟨#[]⟩ ≠ L.getD i ⟨#[]⟩
noncomputable instance (L : List ByteArray) (k : Nat) : Decidable (optGood L k) := Classical.propDecidable _
noncomputable def optsB (L : List ByteArray) : Bool := decide (optGood L L.length ∧ 1 ≤ L.length ∧ L.length ≤ 16)
noncomputable def fldB (f : Fld) : Bool := nameB (blOf f.name) && decide (f.least ≤ f.most) && (decide (f.kind = 4) || decide (f.opts.length = 0)) &&
  (if f.kind = 1 then decide (0 ≤ f.least) && decide (f.most ≤ 16384) else if f.kind = 2 then true else if f.kind = 3 then decide (0 ≤ f.least) && decide (f.most ≤ 3652058) else if f.kind = 4 then decide (f.least = 0) && decide (f.most = 0) && optsB f.opts else false)
/-- The number of the first field with a name. -/
def findF (s : ByteArray) : List Fld → Nat → Option Nat
  | [], _ => none
  | f :: r, k => if blOf f.name = blOf s then some k else findF s r (k + 1)
end Go.Proofs.YthfmmememdlekaaGreatDoor
namespace Go.Proofs.YthfmmememdlekaaGreatDoor
open Go.RowKit Num

theorem grown_setCell (w : World) (p : Addr) (v : Value) : w.grownBy (w.setCell p v) (some p.block) :=
  ⟨rfl, rfl, rfl, by simp [World.setCell], fun i _ hn => Below.heap_setCell w p v i (fun e => hn (by rw [e]))⟩
theorem Blk.below' {w w' : World} {g B : Nat} {t : TypeId} {cs : Array Value} (h : Blk w g t cs) (hb : Below B w w') (hg : g < B) : Blk w' g t cs := (hb.block g hg).trans h
theorem Blk.grown' {w w' : World} {g : Nat} {t : TypeId} {cs : Array Value} {row : Option Nat} (h : Blk w g t cs) (hb : w.grownBy w' row) (hg : some g ≠ row) : Blk w' g t cs := (hb.block g h.lt hg).trans h
def KidS (B bt : Nat) (u : Value) (w : World) (c : Nat) : Prop := c < B ∨ (bt < c ∧ c < w.heap.size ∧ u.ownBlock ≠ some c)
def Kids (w : World) (S : Nat → Prop) (d : Nat) (ps : List Value) (xs : List Tree) : Prop := ∀ (i : Nat) (x : Tree), xs[i]? = some x → ∃ p, ps[i]? = some p ∧ TreeAt w S d p x
theorem Kids.keep {w w' : World} {S T : Nat → Prop} {d : Nat} {ps : List Value} {xs : List Tree} (h : Kids w S d ps xs) (hk : ∀ b, S b → w'.heap[b]? = w.heap[b]?) (hm : ∀ b, S b → T b) : Kids w' T d ps xs := by
  intro i x hx
  obtain ⟨p, hp, ht⟩ := h i x hx
  exact ⟨p, hp, (ht.keep hk).mono hm⟩
theorem Kids.snoc {w : World} {S : Nat → Prop} {d : Nat} {ps : List Value} {xs : List Tree} {p : Value} {x : Tree} (h : Kids w S d ps xs) (hl : ps.length = xs.length) (hx : TreeAt w S d p x) : Kids w S d (ps ++ [p]) (xs ++ [x]) := by
  intro i y hy
  rcases Nat.lt_or_ge i xs.length with hi | hi
  · rw [List.getElem?_append_left hi] at hy
    obtain ⟨q, hq, ht⟩ := h i y hy
    exact ⟨q, by rw [List.getElem?_append_left (by omega)]; exact hq, ht⟩
  · rw [List.getElem?_append_right hi] at hy
    have h0 : i - xs.length = 0 := by
      rcases Nat.eq_zero_or_pos (i - xs.length) with h | h
      · exact h
      · rw [List.getElem?_eq_none (by simp; omega)] at hy; cases hy
    rw [h0] at hy
    injection hy with hy
    subst hy
    exact ⟨p, by rw [List.getElem?_append_right (by omega), show i - ps.length = 0 by omega]; rfl, hx⟩
abbrev tmC (t : Trm) (ta u : Value) : Array Value := #[.int .i64 t.kind, .int .i64 t.num, .int .i64 t.yrs, .string t.field, .string t.text, ta, u]
structure GrowK (w : World) (B bt : Nat) (t : Trm) (ta : Value) (d : Nat) (wr : World) (k : Nat) (xs : List Tree) (u : Value) (ps : List Value) : Prop where
  lo : w.heap.size ≤ bt
  hi : B ≤ w.heap.size
  bel : Below w.heap.size w wr
  blk : Blk wr bt 115 (tmC t ta u)
  args : IntsAt wr (· < B) ta t.args
  len : xs.length = k
  own : wr.ownsRow (bt + 1) 75 1 u k ps
  kids : Kids wr (KidS B bt u wr) d ps xs
section
variable {w wr w1 w2 : World} {B bt d k : Nat} {t : Trm} {ta u u' p : Value} {xs : List Tree} {ps : List Value} {x : Tree}
theorem GrowK.start {wk : World} (hb : Below w.heap.size w wk) (hB : B ≤ w.heap.size) (hi : IntsAt w (· < B) ta t.args) :
    GrowK w B wk.heap.size t ta d (wk.alloc (.cells (tmC t ta (.slice none 0 0)) 115)) 0 [] (.slice none 0 0) [] := by
  have hb2 : Below w.heap.size w (wk.alloc (.cells (tmC t ta (.slice none 0 0)) 115)) := hb.alloc hb.size _
  exact ⟨hb.size, hB, hb2, Blk.new _ _ _, hi.keep fun b hbB => hb2.block b (by omega), rfl, World.ownsRow_nil _ _ _ _, fun i x hx => by simp at hx⟩
theorem GrowK.call (h : GrowK w B bt t ta d wr k xs u ps) (hb : Below wr.heap.size wr w1) : GrowK w B bt t ta d w1 k xs u ps := by
  have hs := h.bel.size
  have hlt := h.blk.lt
  refine ⟨h.lo, h.hi, h.bel.trans (hb.mono hs), h.blk.below' hb hlt, h.args.keep fun b hbB => hb.block b (by have := h.hi; omega), h.len, ?_, ?_⟩
  · exact h.own.kept (only_of_below hb none) (by cases u.ownBlock <;> simp)
  · refine h.kids.keep (fun b hS => hb.block b ?_) (fun b hS => ?_)
    · rcases hS with h1 | ⟨h1, h2, _⟩
      · have := h.hi; omega
      · exact h2
    · rcases hS with h1 | ⟨h1, h2, h3⟩
      · exact .inl h1
      · exact .inr ⟨h1, Nat.lt_of_lt_of_le h2 hb.size, h3⟩
theorem GrowK.append (h : GrowK w B bt t ta d w1 k xs u ps) {s : Nat} (hs : bt < s) (hus : ∀ g, u.ownBlock = some g → g < s) (hx : TreeAt w1 (fun c => c < B ∨ (s ≤ c ∧ c < w1.heap.size)) d p x) {o : Obj}
    (hown : w2.ownsRow (bt + 1) 75 1 u' (k + 1) (ps ++ [p])) (hg : (w1.alloc o).grownBy w2 u.ownBlock) (hw : u'.ownBlock = u.ownBlock ∨ u'.ownBlock = some (w1.heap.size + 1)) :
    GrowK w B bt t ta d (w2.setCell ⟨bt, 6, none⟩ u') (k + 1) (xs ++ [x]) u' (ps ++ [p]) := by
  have hlt := h.blk.lt
  have hbl : ∀ g, u.ownBlock = some g → bt + 1 ≤ g ∧ g < w1.heap.size := h.own.lt
  have hne : some bt ≠ u.ownBlock := fun e => by have := (hbl bt e.symm).1; omega
  have hsz1 : (w1.alloc o).heap.size = w1.heap.size + 1 := by simp
  have hsz : w1.heap.size + 1 ≤ w2.heap.size := by rw [← hsz1]; exact hg.size
  have key : ∀ c, c < w1.heap.size → u.ownBlock ≠ some c → c ≠ bt → (w2.setCell ⟨bt, 6, none⟩ u').heap[c]? = w1.heap[c]? := fun c hc hn hb =>
    ((Below.heap_setCell w2 ⟨bt, 6, none⟩ u' c hb).trans (hg.block c (by omega) (fun e => hn e.symm))).trans (Below.heap_alloc w1 o c hc)
  have hb2 : Below w.heap.size w (w2.setCell ⟨bt, 6, none⟩ u') := by
    have hlo := h.lo
    exact ((h.bel.alloc (by have := h.bel.size; omega) o).grown hg (by rw [hsz1]; have := h.bel.size; omega) (fun g hg' => by have := (hbl g hg').1; omega)).setCell (p := ⟨bt, 6, none⟩) hlo u'
  have hsz3 : (w2.setCell ⟨bt, 6, none⟩ u').heap.size = w2.heap.size := by simp [World.setCell]
  refine ⟨h.lo, h.hi, hb2, ?_, ?_, by simp [h.len], ?_, ?_⟩
  · have := (Blk.grown' (h.blk.alloc o) hg hne).set_ 6 u'
    exact this
  · refine h.args.keep fun b hbB => key b ?_ ?_ ?_
    · have := h.hi; have := h.bel.size; omega
    · intro e; have := (hbl b e).1; have := h.hi; have := h.lo; omega
    · have := h.hi; have := h.lo; omega
  · refine hown.kept (grown_setCell w2 ⟨bt, 6, none⟩ u') ?_
    right
    intro e
    have := (hown.lt bt e).1
    omega
  · refine Kids.snoc (h.kids.keep (fun b hS => ?_) (fun b hS => ?_)) (by have := h.own.1; have := h.len; omega) ((hx.keep (fun b hS => ?_)).mono (fun b hS => ?_))
    · rcases hS with h1 | ⟨h1, h2, h3⟩
      · exact key b (by have := h.hi; have := h.bel.size; omega) (fun e => by have := (hbl b e).1; have := h.hi; have := h.lo; omega) (by have := h.hi; have := h.lo; omega)
      · exact key b h2 h3 (by omega)
    · rcases hS with h1 | ⟨h1, h2, h3⟩
      · exact .inl h1
      · refine .inr ⟨h1, by omega, ?_⟩
        rcases hw with e | e
        · rw [e]; exact h3
        · rw [e]; intro e'; injection e' with e'; omega
    · rcases hS with h1 | ⟨h1, h2⟩
      · exact key b (by have := h.hi; have := h.bel.size; omega) (fun e => by have := (hbl b e).1; have := h.hi; have := h.lo; omega) (by have := h.hi; have := h.lo; omega)
      · exact key b h2 (fun e => by have := hus b e; omega) (by omega)
    · rcases hS with h1 | ⟨h1, h2⟩
      · exact .inl h1
      · refine .inr ⟨by omega, by omega, ?_⟩
        rcases hw with e | e
        · rw [e]; intro e'; have := hus b e'; omega
        · rw [e]; intro e'; injection e' with e'; omega
/-- The grown tree. -/
theorem GrowK.tree (h : GrowK w B bt t ta d wr k xs u ps) : TreeAt wr (fun c => c < B ∨ (w.heap.size ≤ c ∧ c < wr.heap.size)) (d + 1) (.pointer (some ⟨bt, 0, none⟩)) (.node t xs) := by
  have hlt := h.blk.lt
  obtain ⟨A, n, c, rfl, hn, hc⟩ : ∃ A n c, u = .slice A n c ∧ n = k ∧ n ≤ c := by
    rcases h.own.2 with ⟨h1, h2⟩ | ⟨g, cap, cur, h1, _, _, h2, _⟩
    · exact ⟨_, _, _, h1, h2.symm, Nat.le_refl _⟩
    · exact ⟨_, _, _, h1, rfl, h2⟩
  refine ⟨bt, rfl, .inr ⟨h.lo, hlt⟩, ⟨h.blk.cell 0, h.blk.cell 1, h.blk.cell 2, h.blk.cell 3, h.blk.cell 4, ta, h.blk.cell 5, h.args.mono fun b hb => .inl hb⟩, A, n, c, h.blk.cell 6, by rw [h.len, hn], hc, fun hpos => ?_⟩
  obtain ⟨g, cap, hv, _⟩ := h.own.form (by omega)
  injection hv with h1 _ _
  subst h1
  have hg := h.own.lt g rfl
  refine ⟨g, 0, rfl, .inr ⟨by have := h.lo; omega, hg.2⟩, fun i x hx => ?_⟩
  obtain ⟨p, hp, ht⟩ := h.kids i x hx
  refine ⟨p, ?_, ht.mono fun b hS => ?_⟩
  · have := h.own.cells (g := g) rfl i p hp
    rw [Nat.zero_add]
    have ha : (⟨g, 0, none⟩ : Addr).add i = ⟨g, i, none⟩ := by unfold Addr.add; split <;> simp_all
    rwa [ha] at this
  · rcases hS with h1 | ⟨h1, h2, _⟩
    · exact .inl h1
    · exact .inr ⟨by have := h.lo; omega, h2⟩
end
theorem drop_getD (L : List Int) (j : Nat) (h : j < L.length) : L.drop j = L.getD j 0 :: L.drop (j + 1) := by
  rw [List.drop_eq_getElem_cons h]; simp [List.getD_eq_getElem?_getD, h]
def restA (g : Nat → Option (Tree × Nat)) (xs : List Tree) (ks : List Int) (nx : Nat) : Option (List Tree × Nat) := match growA g ks nx with
  | none => none
  | some (ys, n) => some (xs ++ ys, n)
section
variable {g : Nat → Option (Tree × Nat)} {xs : List Tree} {key : Int} {r : List Int} {nx af : Nat} {x : Tree}
theorem restA_nil : restA g xs [] nx = some (xs, nx) := by simp [restA, growA]
theorem restA_ne (h : ¬ key = (nx : Int)) : restA g xs (key :: r) nx = none := by simp [restA, growA, h]
theorem restA_none (h : key = (nx : Int)) (hg : g nx = none) : restA g xs (key :: r) nx = none := by simp [restA, growA, h, hg]
theorem restA_some (h : key = (nx : Int)) (hg : g nx = some (x, af)) : restA g xs (key :: r) nx = restA g (xs ++ [x]) r af := by
  unfold restA
  rw [growA, if_pos h, hg]
  simp only
  cases growA g r af <;> simp
end
theorem own_slice {w : World} {B : Nat} {e : TypeId} {s n : Nat} {v : Value} {xs : List Value} (h : w.ownsRow B e s v n xs) : ∃ A c, v = .slice A n c := by
  rcases h.2 with ⟨h1, h2⟩ | ⟨g, cap, cur, h1, _⟩
  · subst h2; exact ⟨_, _, h1⟩
  · exact ⟨_, _, h1⟩
end Go.Proofs.YthfmmememdlekaaGreatDoor
namespace Go.Proofs.YthfmmememdlekaaGreatDoor
open Go.RowKit Num

def TermZ (w : World) (b : Nat) (t : Trm) : Prop := w.cell? ⟨b, 0, none⟩ = some (.int .i64 t.kind) ∧ w.cell? ⟨b, 1, none⟩ = some (.int .i64 t.num) ∧ w.cell? ⟨b, 2, none⟩ = some (.int .i64 t.yrs) ∧
  w.cell? ⟨b, 3, none⟩ = some (.string t.field) ∧ w.cell? ⟨b, 4, none⟩ = some (.string t.text) ∧ w.cell? ⟨b, 5, none⟩ = some (.slice none 0 0) ∧ t.args = []
theorem TermZ.keep {w w' : World} {b : Nat} {t : Trm} (h : TermZ w b t) (hb : w'.heap[b]? = w.heap[b]?) : TermZ w' b t := by
  obtain ⟨h0, h1, h2, h3, h4, h5, h6⟩ := h
  have e : ∀ o, w'.cell? ⟨b, o, none⟩ = w.cell? ⟨b, o, none⟩ := fun o => World.cell?_of_block hb
  exact ⟨(e _).trans h0, (e _).trans h1, (e _).trans h2, (e _).trans h3, (e _).trans h4, (e _).trans h5, h6⟩
def TreeZ (w : World) (S : Nat → Prop) : Nat → Value → Tree → Prop
  | 0, _, _ => False
  | d + 1, v, .node t xs => ∃ b, v = .pointer (some ⟨b, 0, none⟩) ∧ S b ∧ TermZ w b t ∧ ∃ A n c, w.cell? ⟨b, 6, none⟩ = some (.slice A n c) ∧ n = xs.length ∧ n ≤ c ∧
    (0 < n → ∃ g off, A = some ⟨g, off, none⟩ ∧ S g ∧ ∀ k x, xs[k]? = some x → ∃ p, w.cell? ⟨g, off + k, none⟩ = some p ∧ TreeZ w S d p x)
theorem TreeZ.keep {w w' : World} {S : Nat → Prop} (hk : ∀ b, S b → w'.heap[b]? = w.heap[b]?) : ∀ {d v T}, TreeZ w S d v T → TreeZ w' S d v T := by
  intro d
  induction d with
  | zero => intro v T h; exact h.elim
  | succ d ih =>
    intro v T h
    obtain ⟨t, xs⟩ := T
    obtain ⟨b, h1, h2, h3, A, n, c, h4, h5, h6, h7⟩ := h
    refine ⟨b, h1, h2, h3.keep (hk b h2), A, n, c, (World.cell?_of_block (hk b h2)).trans h4, h5, h6, fun hn => ?_⟩
    obtain ⟨g, off, hA, hg, hc⟩ := h7 hn
    refine ⟨g, off, hA, hg, fun k x hx => ?_⟩
    obtain ⟨p, hp, ht⟩ := hc k x hx
    exact ⟨p, (World.cell?_of_block (hk g hg)).trans hp, ih ht⟩
theorem TreeZ.mono {w : World} {S S' : Nat → Prop} {d : Nat} {v : Value} {T : Tree} (h : TreeZ w S d v T) (hk : ∀ b, S b → S' b) : TreeZ w S' d v T := by
  induction d generalizing v T with
  | zero => exact h.elim
  | succ d ih =>
    obtain ⟨t, xs⟩ := T
    obtain ⟨b, h1, h2, h3, A, n, c, h4, h5, h6, h7⟩ := h
    refine ⟨b, h1, hk b h2, h3, A, n, c, h4, h5, h6, fun hn => ?_⟩
    obtain ⟨g, off, hA, hg, hc⟩ := h7 hn
    refine ⟨g, off, hA, hk g hg, fun k x hx => ?_⟩
    obtain ⟨p, hp, ht⟩ := hc k x hx
    exact ⟨p, hp, ih ht⟩
theorem TreeZ.deeper {w : World} {S : Nat → Prop} {d f : Nat} {v : Value} {T : Tree} (h : TreeZ w S d v T) (hf : d ≤ f) : TreeZ w S f v T := by
  induction d generalizing f v T with
  | zero => exact h.elim
  | succ d ih =>
    obtain ⟨f, rfl⟩ : ∃ g, f = g + 1 := ⟨f - 1, by omega⟩
    obtain ⟨t, xs⟩ := T
    obtain ⟨b, h1, h2, h3, A, n, c, h4, h5, h6, h7⟩ := h
    refine ⟨b, h1, h2, h3, A, n, c, h4, h5, h6, fun hn => ?_⟩
    obtain ⟨g, off, hA, hg, hc⟩ := h7 hn
    refine ⟨g, off, hA, hg, fun k x hx => ?_⟩
    obtain ⟨p, hp, ht⟩ := hc k x hx
    exact ⟨p, hp, ih ht (by omega)⟩
theorem TreeZ.ptr {w : World} {S : Nat → Prop} {d : Nat} {v : Value} {T : Tree} (h : TreeZ w S d v T) : ∃ b, v = .pointer (some ⟨b, 0, none⟩) ∧ S b := by
  cases d with
  | zero => exact h.elim
  | succ d => obtain ⟨t, xs⟩ := T; obtain ⟨b, h1, h2, _⟩ := h; exact ⟨b, h1, h2⟩
def KidZ (w : World) (S : Nat → Prop) (d : Nat) (ps : List Value) (xs : List Tree) : Prop := ∀ (i : Nat) (x : Tree), xs[i]? = some x → ∃ p, ps[i]? = some p ∧ TreeZ w S d p x
theorem KidZ.keep {w w' : World} {S T : Nat → Prop} {d : Nat} {ps : List Value} {xs : List Tree} (h : KidZ w S d ps xs) (hk : ∀ b, S b → w'.heap[b]? = w.heap[b]?) (hm : ∀ b, S b → T b) : KidZ w' T d ps xs := by
  intro i x hx
  obtain ⟨p, hp, ht⟩ := h i x hx
  exact ⟨p, hp, (ht.keep hk).mono hm⟩
theorem KidZ.snoc {w : World} {S : Nat → Prop} {d : Nat} {ps : List Value} {xs : List Tree} {p : Value} {x : Tree} (h : KidZ w S d ps xs) (hl : ps.length = xs.length) (hx : TreeZ w S d p x) : KidZ w S d (ps ++ [p]) (xs ++ [x]) := by
  intro i y hy
  rcases Nat.lt_or_ge i xs.length with hi | hi
  · rw [List.getElem?_append_left hi] at hy
    obtain ⟨q, hq, ht⟩ := h i y hy
    exact ⟨q, by rw [List.getElem?_append_left (by omega)]; exact hq, ht⟩
  · rw [List.getElem?_append_right hi] at hy
    have h0 : i - xs.length = 0 := by
      rcases Nat.eq_zero_or_pos (i - xs.length) with h | h
      · exact h
      · rw [List.getElem?_eq_none (by simp; omega)] at hy; cases hy
    rw [h0] at hy
    injection hy with hy
    subst hy
    exact ⟨p, by rw [List.getElem?_append_right (by omega), show i - ps.length = 0 by omega]; rfl, hx⟩
end Go.Proofs.YthfmmememdlekaaGreatDoor

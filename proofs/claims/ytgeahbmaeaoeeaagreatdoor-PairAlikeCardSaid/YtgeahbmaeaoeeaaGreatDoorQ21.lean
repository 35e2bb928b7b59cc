/- Contracts: the terms of a tree. Words for memory: what a call changes of the blocks that were there; a term that is written whole into a list. -/
import Derived.Test.YtgeahbmaeaoeeaaGreatDoorQ20
set_option linter.unusedVariables false
set_option linter.unusedSimpArgs false
namespace Go.Proofs.YtgeahbmaeaoeeaaGreatDoor
open Go.RowKit Num

theorem flatA_snoc (g : Nat → Tree → List Trm) (x : Tree) : ∀ (xs : List Tree) (at_ : Nat), flatA g at_ (xs ++ [x]) = ((flatA g at_ xs).1 ++ [((at_ + (flatA g at_ xs).2.length : Nat) : Int)], (flatA g at_ xs).2 ++ g (at_ + (flatA g at_ xs).2.length) x) := by
  intro xs
  induction xs with
  | nil => intro at_; simp [flatA]
  | cons y ys ih =>
    intro at_
    simp only [List.cons_append, flatA]
    rw [ih]
    simp [Nat.add_assoc, List.append_assoc]
theorem flatA_len_le (g : Nat → Tree → List Trm) : ∀ (xs : List Tree) (at_ k : Nat), (flatA g at_ (xs.take k)).2.length ≤ (flatA g at_ xs).2.length := by
  intro xs
  induction xs with
  | nil => intro at_ k; simp
  | cons y ys ih =>
    intro at_ k
    cases k with
    | zero => simp [flatA]
    | succ k =>
      simp only [List.take_succ_cons, flatA, List.length_append]
      have := ih (at_ + (g at_ y).length) k
      omega
theorem flatA_ge (d : Nat) (hd : 1 ≤ d) : ∀ (xs : List Tree) (at_ : Nat), xs.length ≤ (flatA (flatT d) at_ xs).2.length := by
  obtain ⟨e, rfl⟩ : ∃ e, d = e + 1 := ⟨d - 1, by omega⟩
  intro xs
  induction xs with
  | nil => intro at_; simp
  | cons y ys ih =>
    intro at_
    have h1 : 1 ≤ (flatT (e + 1) at_ y).length := by obtain ⟨t, zs⟩ := y; simp [flatT]
    have := ih (at_ + (flatT (e + 1) at_ y).length)
    simp only [flatA, List.length_append, List.length_cons]; omega
theorem own_frozen {w : World} {B : Nat} {e : TypeId} {s n g cap : Nat} {xs : List Value} (h : w.ownsRow B e s (.slice (some ⟨g, 0, none⟩) n cap) n xs) (j : Nat) : w.frozen? ⟨g, j, none⟩ = false := by
  rcases h.2 with ⟨h1, _⟩ | ⟨g', cap', cur, h1, _, h2, _⟩
  · cases h1
  · injection h1 with h1 _ _; injection h1 with h1; injection h1 with h1
    subst h1
    simp [World.frozen?, h2]
theorem own_cell {w : World} {B : Nat} {e : TypeId} {s n g cap : Nat} {xs : List Value} (h : w.ownsRow B e s (.slice (some ⟨g, 0, none⟩) n cap) n xs) (j : Nat) (u : Value) (hj : xs[j]? = some u) : w.cell? ⟨g, j, none⟩ = some u := by
  have := h.cells (g := g) rfl j u hj
  have ha : (⟨g, 0, none⟩ : Addr).add j = ⟨g, j, none⟩ := by unfold Addr.add; split <;> simp_all
  rwa [ha] at this
theorem infoT : (Tryz.prog.info? 115).map (fun i => (i.zero, i.size, i.bytes)) = some (some (.agg #[.int .i64 0, .int .i64 0, .int .i64 0, .string ⟨#[]⟩, .string ⟨#[]⟩, .slice none 0 0]), 6, 80) := by kernel_rfl
theorem infoI' : (Tryz.prog.info? 3).map (fun i => (i.zero, i.size, i.bytes)) = some (some (.int .i64 0), 1, 8) := by kernel_rfl
def FlatPost (w : World) (B d : Nat) (T : Tree) (L : List Trm) (e : Ending) (w' : World) : Prop := ∃ v' us', e = .returned v' ∧ OwnTs w' B v' (L ++ flatT d L.length T) us' ∧ Below B w w'
theorem cell_six_new (w : World) (a b c d e f : Value) (t : TypeId) : ∀ j u, [a, b, c, d, e, f][j]? = some u → (w.alloc (.cells #[a, b, c, d, e, f] t)).cell? ((⟨w.heap.size, 0, none⟩ : Addr).add j) = some u := by
  intro j u hj
  have ha : (⟨w.heap.size, 0, none⟩ : Addr).add j = ⟨w.heap.size, j, none⟩ := by unfold Addr.add; split <;> simp_all
  rw [ha, World.cell?_alloc_new]
  simpa using hj
theorem setA_head (L R : List Trm) (t : Trm) (a : List Int) : setA (L ++ t :: R) L.length a = L ++ { t with args := a } :: R := by
  unfold setA
  have e : trmAt (L ++ t :: R) L.length = t := by unfold trmAt; rw [List.getD_eq_getElem?_getD, List.getElem?_append_right (Nat.le_refl _)]; simp
  rw [e, List.set_append_right _ _ (Nat.le_refl _)]; simp
theorem wr_in (k : Nat) (h : k < 1000000) : wrap64 ((k : Int) + 1) = (k : Int) + 1 := by unfold wrap64; omega
end Go.Proofs.YtgeahbmaeaoeeaaGreatDoor
namespace Go.Proofs.YtgeahbmaeaoeeaaGreatDoor
open Go.RowKit Num

/-- Of the blocks that were there only those in S were changed. -/
structure Chg (w w' : World) (S : Nat → Prop) : Prop where
  os : w'.os = w.os
  tape : w'.tape = w.tape
  output : w'.output = w.output
  size : w.heap.size ≤ w'.heap.size
  block : ∀ i, i < w.heap.size → ¬ S i → w'.heap[i]? = w.heap[i]?
section
variable {w w' a b c : World} {S T : Nat → Prop}
theorem Chg.refl (w : World) (S : Nat → Prop) : Chg w w S := ⟨rfl, rfl, rfl, Nat.le_refl _, fun _ _ _ => rfl⟩
theorem Chg.trans (h : Chg a b S) (k : Chg b c T) (hT : ∀ i, i < a.heap.size → T i → S i) : Chg a c S :=
  ⟨k.os.trans h.os, k.tape.trans h.tape, k.output.trans h.output, Nat.le_trans h.size k.size, fun i hi hn => (k.block i (Nat.lt_of_lt_of_le hi h.size) (fun ht => hn (hT i hi ht))).trans (h.block i hi hn)⟩
theorem Chg.mono (h : Chg a b S) (hT : ∀ i, i < a.heap.size → S i → T i) : Chg a b T := ⟨h.os, h.tape, h.output, h.size, fun i hi hn => h.block i hi fun hs => hn (hT i hi hs)⟩
theorem Chg.of_grown {row : Option Nat} (h : w.grownBy w' row) (hr : ∀ g, row = some g → g < w.heap.size → S g) : Chg w w' S :=
  ⟨h.os, h.tape, h.output, h.size, fun i hi hn => h.block i hi fun e => hn (hr i e.symm hi)⟩
theorem Chg.alloc (h : Chg a w S) (o : Obj) : Chg a (w.alloc o) S :=
  h.trans (T := fun _ => False) (Chg.of_grown (World.grownBy_alloc w o none) (fun g hg => by cases hg)) (fun _ _ hf => hf.elim)
theorem Chg.setCell (h : Chg a w S) (p : Addr) (hp : p.block < a.heap.size → S p.block) (u : Value) : Chg a (w.setCell p u) S :=
  h.trans (T := fun i => i = p.block) (Chg.of_grown (grown_setCell w p u) (fun g hg _ => by cases hg; rfl)) (fun i hi e => by subst e; exact hp hi)
theorem Chg.drew (h : Chg a w S) : Chg a w.drew S := ⟨h.os, h.tape, h.output, h.size, h.block⟩
theorem Chg.drewN (h : Chg a w S) (n : Nat) : Chg a (w.drewN n) S := ⟨h.os, h.tape, h.output, h.size, h.block⟩
theorem Chg.below (h : Chg w w' S) {B : Nat} (hS : ∀ i, i < B → ¬ S i) (hB : B ≤ w.heap.size) : Below B w w' := ⟨h.os, h.tape, h.output, h.size, fun i hi => h.block i (by omega) (hS i hi)⟩
theorem Chg.own (h : Chg w w' S) {B : Nat} {e : TypeId} {s n : Nat} {v : Value} {xs : List Value} (ho : w.ownsRow B e s v n xs) (hne : ∀ g, v.ownBlock = some g → ¬ S g) : w'.ownsRow B e s v n xs := by
  refine ⟨ho.1, ?_⟩
  rcases ho.2 with hn | ⟨g, cap, cur, rfl, hb, hgg, rest⟩
  · exact .inl hn
  · refine .inr ⟨g, cap, cur, rfl, hb, ?_, rest⟩
    rw [h.block g (Array.getElem?_eq_some_iff.1 hgg).1 (hne g rfl)]
    exact hgg
theorem Chg.blk (h : Chg w w' S) {g : Nat} {t : TypeId} {cs : Array Value} (hb : Blk w g t cs) (hg : ¬ S g) : Blk w' g t cs := (h.block g hb.lt hg).trans hb
theorem OwnTs.chg {B : Nat} {v : Value} {L : List Trm} {us : Nat → Value} (h : OwnTs w B v L us) (hc : Chg w w' S) (hv : ∀ g, v.ownBlock = some g → ¬ S g) (hu : ∀ k, k < L.length → ∀ g, (us k).ownBlock = some g → ¬ S g) : OwnTs w' B v L us :=
  ⟨hc.own h.row hv, fun k hk => hc.own (h.args k hk) (hu k hk), h.apart⟩
end
/-- A block of another type is no block of an own row. -/
theorem own_not {w : World} {B : Nat} {e t : TypeId} {s n g : Nat} {v : Value} {xs : List Value} {cs : Array Value} (h : w.ownsRow B e s v n xs) (hb : Blk w g t cs) (hne : t ≠ e) : ∀ k, v.ownBlock = some k → k ≠ g := by
  intro k hk hkg
  subst hkg
  rcases h.2 with ⟨rfl, _⟩ | ⟨g', cap, cur, rfl, _, hg, _⟩
  · simp [Value.ownBlock] at hk
  · simp [Value.ownBlock] at hk
    subst hk
    unfold Blk at hb
    rw [hb] at hg
    injection hg with hg
    injection hg with _ h2
    exact hne h2
/-! ### A term that is written whole -/
theorem tmsC_put (L : List Trm) (us : Nat → Value) (k : Nat) (t : Trm) (u : Value) (h : k < L.length) :
    ((((((tmsC L us).set (k * 6) (.int .i64 t.kind)).set (k * 6 + 1) (.int .i64 t.num)).set (k * 6 + 2) (.int .i64 t.yrs)).set (k * 6 + 3) (.string t.field)).set (k * 6 + 4) (.string t.text)).set (k * 6 + 5) u = tmsC (L.set k t) (fun j => if j = k then u else us j) := by
  apply List.ext_getElem?
  intro i
  have hlen : (L.set k t).length = L.length := List.length_set ..
  have hat : ∀ j, trmAt (L.set k t) j = if j = k then t else trmAt L j := by
    intro j
    unfold trmAt
    rw [List.getD_eq_getElem?_getD, List.getElem?_set]
    by_cases e : k = j
    · subst e; simp [h]
    · rw [if_neg e, if_neg (fun e' => e e'.symm), List.getD_eq_getElem?_getD]
  simp only [List.getElem?_set, List.length_set]
  rcases Nat.lt_or_ge i (6 * L.length) with hi | hi
  · rw [tmsC_get L us i hi, tmsC_get (L.set k t) (fun j => if j = k then u else us j) i (by rw [hlen]; exact hi), hat, tmsC_len]
    by_cases e : i / 6 = k
    · rw [if_pos e]
      simp only [e, if_true]
      obtain ⟨j, hj, hj6⟩ : ∃ j, i % 6 = j ∧ j < 6 := ⟨_, rfl, by omega⟩
      rw [hj]
      have hij : i = k * 6 + j := by omega
      match j, hj6 with
      | 0, _ => simp [tmCell, hij]; omega
      | 1, _ => simp [tmCell, hij]; omega
      | 2, _ => simp [tmCell, hij]; omega
      | 3, _ => simp [tmCell, hij]; omega
      | 4, _ => simp [tmCell, hij]; omega
      | 5, _ => simp [tmCell, hij]; omega
    · rw [if_neg e, if_neg e, if_neg (by omega), if_neg (by omega), if_neg (by omega), if_neg (by omega), if_neg (by omega), if_neg (by omega)]
  · rw [tmsC_none L us i hi, tmsC_none (L.set k t) (fun j => if j = k then u else us j) i (by rw [hlen]; exact hi), if_neg (by omega), if_neg (by omega), if_neg (by omega), if_neg (by omega), if_neg (by omega), if_neg (by omega)]
def put6 (w : World) (g k : Nat) (t : Trm) (u : Value) : World :=
  (((((w.setCell ⟨g, k * 6, none⟩ (.int .i64 t.kind)).setCell ⟨g, k * 6 + 1, none⟩ (.int .i64 t.num)).setCell ⟨g, k * 6 + 2, none⟩ (.int .i64 t.yrs)).setCell ⟨g, k * 6 + 3, none⟩ (.string t.field)).setCell ⟨g, k * 6 + 4, none⟩ (.string t.text)).setCell ⟨g, k * 6 + 5, none⟩ u
theorem put6_row {w : World} {B g n cap k : Nat} {e : TypeId} {s : Nat} {xs : List Value} (h : w.ownsRow B e s (.slice (some ⟨g, 0, none⟩) n cap) n xs) (t : Trm) (u : Value) :
    (put6 w g k t u).ownsRow B e s (.slice (some ⟨g, 0, none⟩) n cap) n ((((((xs.set (k * 6) (.int .i64 t.kind)).set (k * 6 + 1) (.int .i64 t.num)).set (k * 6 + 2) (.int .i64 t.yrs)).set (k * 6 + 3) (.string t.field)).set (k * 6 + 4) (.string t.text)).set (k * 6 + 5) u) ∧ w.grownBy (put6 w g k t u) (some g) := by
  have s0 := World.ownsRow.stored h (k * 6) (.int .i64 t.kind)
  have s1 := World.ownsRow.stored s0.1 (k * 6 + 1) (.int .i64 t.num)
  have s2 := World.ownsRow.stored s1.1 (k * 6 + 2) (.int .i64 t.yrs)
  have s3 := World.ownsRow.stored s2.1 (k * 6 + 3) (.string t.field)
  have s4 := World.ownsRow.stored s3.1 (k * 6 + 4) (.string t.text)
  have s5 := World.ownsRow.stored s4.1 (k * 6 + 5) u
  exact ⟨s5.1, gb_trans (gb_trans (gb_trans (gb_trans (gb_trans s0.2 s1.2) s2.2) s3.2) s4.2) s5.2⟩
theorem OwnTs.put {w : World} {B g cap : Nat} {L : List Trm} {us : Nat → Value} (h : OwnTs w B (.slice (some ⟨g, 0, none⟩) L.length cap) L us) {k : Nat} (hk : k < L.length) (t : Trm) (u : Value)
    (hu : w.ownsRow B 3 1 u t.args.length (t.args.map (Value.int .i64))) (hap : ∀ j, j < L.length → j ≠ k → (us j).ownBlock = none ∨ (us j).ownBlock ≠ u.ownBlock) :
    OwnTs (put6 w g k t u) B (.slice (some ⟨g, 0, none⟩) L.length cap) (L.set k t) (fun j => if j = k then u else us j) ∧ w.grownBy (put6 w g k t u) (some g) := by
  obtain ⟨h1, h2⟩ := put6_row (k := k) h.row t u
  have hlen : (L.set k t).length = L.length := List.length_set ..
  have hat : ∀ j, trmAt (L.set k t) j = if j = k then t else trmAt L j := by
    intro j
    unfold trmAt
    rw [List.getD_eq_getElem?_getD, List.getElem?_set]
    by_cases e : k = j
    · subst e; simp [hk]
    · rw [if_neg e, if_neg (fun e' => e e'.symm), List.getD_eq_getElem?_getD]
  refine ⟨⟨?_, fun j hj => ?_, fun j i hj hi hji => ?_⟩, h2⟩
  · rw [hlen, ← tmsC_put L us k t u hk]; exact h1
  · rw [hlen] at hj
    rw [hat]
    by_cases e : j = k
    · rw [if_pos e, if_pos e]
      exact hu.kept h2 (own_ne hu h.row (by decide))
    · rw [if_neg e, if_neg e]
      exact (h.args j hj).kept h2 (own_ne (h.args j hj) h.row (by decide))
  · rw [hlen] at hj hi
    by_cases e : j = k
    · rw [if_pos e]
      have e2 : i ≠ k := fun e2 => hji (e.trans e2.symm)
      rw [if_neg e2]
      rcases hap i hi e2 with e3 | e3
      · rcases hb : u.ownBlock with _ | q
        · exact .inl rfl
        · exact .inr (by rw [e3]; simp)
      · exact .inr fun e4 => e3 e4.symm
    · rw [if_neg e]
      by_cases e2 : i = k
      · rw [if_pos e2]; exact hap j hj e
      · rw [if_neg e2]; exact h.apart j i hj hi hji
end Go.Proofs.YtgeahbmaeaoeeaaGreatDoor

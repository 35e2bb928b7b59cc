/- Words for memory: what the statement OrderMade keeps. -/
import Derived.Test.YtgbhaaongmlpkaaGreatDoorX38
import Derived.Test.YtgbhaaongmlpkaaGreatDoorX22
set_option linter.unusedVariables false
set_option linter.unusedSimpArgs false
namespace Go.Proofs.YtgbhaaongmlpkaaGreatDoor
open Go.RowKit Num Go.Shelf Go.Sort Go.Lib

/-- The dice, and the raw pair in its box. -/
structure FoK (w : World) (n0 n1 : Int) (W : World) : Prop where
  dc : Dc W (w.heap.size + 1)
  old : Below w.heap.size w W
  box : Blk W w.heap.size 23 #[.int .i64 n0, .int .i64 n1]
section
variable {w W W' : World} {n0 n1 : Int}
theorem FoK.dice (h : FoK w n0 n1 W) (hd : Dc W' (w.heap.size + 1)) (hg : W.grownBy W' (some (w.heap.size + 1))) : FoK w n0 n1 W' :=
  ⟨hd, h.old.grown hg h.old.size (fun g hg => by injection hg with hg; omega), (hg.block _ h.box.lt (fun e => by injection e; omega)).trans h.box⟩
theorem FoK.alloc (h : FoK w n0 n1 W) (o : Obj) : FoK w n0 n1 (W.alloc o) := ⟨h.dc.alloc o, h.old.alloc h.old.size o, h.box.alloc o⟩
theorem FoK.drew (h : FoK w n0 n1 W) : FoK w n0 n1 W.drew := ⟨h.dc, h.old.drew, h.box⟩
theorem FoK.grown (h : FoK w n0 n1 W) {row : Option Nat} (hg : W.grownBy W' row) (hr : ∀ g, row = some g → w.heap.size + 2 ≤ g) : FoK w n0 n1 W' :=
  ⟨h.dc.keep fun q hq => hg.block q (by have := h.dc.lt; omega) (fun e => by have := hr q e.symm; omega), h.old.grown hg h.old.size (fun g hg => by have := hr g hg; omega), (hg.block _ h.box.lt (fun e => by have := hr _ e.symm; omega)).trans h.box⟩
theorem FoK.below (h : FoK w n0 n1 W) (hb : Below W.heap.size W W') : FoK w n0 n1 W' := h.grown (row := none) (only_of_below hb none) (fun g hg => by cases hg)
theorem FoK.lt (h : FoK w n0 n1 W) : w.heap.size + 2 ≤ W.heap.size := by have := h.dc.lt; omega
end
/-- The list that is made. -/
structure FoJ (w : World) (n0 n1 : Int) (v : Value) (L : List Stm) (W : World) : Prop where
  row : ∃ us, StsOwn W (w.heap.size + 2) 36 6 v L us fun _ => []
  k : FoK w n0 n1 W
  sm : ∀ s ∈ L, StmSm s
section
variable {w W W' W2 : World} {n0 n1 : Int} {v v' : Value} {L : List Stm}
theorem FoJ.dice (h : FoJ w n0 n1 v L W) (hd : Dc W' (w.heap.size + 1)) (hg : W.grownBy W' (some (w.heap.size + 1))) : FoJ w n0 n1 v L W' := by
  obtain ⟨us, hr⟩ := h.row
  exact ⟨⟨us, hr.keep hg (fun q hq => by injection hq; omega)⟩, h.k.dice hd hg, h.sm⟩
theorem FoJ.below (h : FoJ w n0 n1 v L W) (hb : Below W.heap.size W W') : FoJ w n0 n1 v L W' := by
  obtain ⟨us, hr⟩ := h.row
  exact ⟨⟨us, hr.below hb⟩, h.k.below hb, h.sm⟩
theorem FoJ.alloc (h : FoJ w n0 n1 v L W) (o : Obj) : FoJ w n0 n1 v L (W.alloc o) := h.below (below_al' W o)
theorem FoJ.drew (h : FoJ w n0 n1 v L W) : FoJ w n0 n1 v L W.drew := h.below (Below.refl _ _).drew
theorem FoJ.slice (h : FoJ w n0 n1 v L W) : ∃ A c, v = .slice A L.length c := by
  obtain ⟨us, hr⟩ := h.row
  exact own_slice hr.row
/-- The row itself. -/
theorem FoJ.own (h : FoJ w n0 n1 v L W) : ∃ xs, W.ownsRow (w.heap.size + 2) 36 6 v L.length xs ∧ (∀ (s : Stm) (u : V3) (v' : Value) (o : Obj) (W' : World), StmAt W (fun b => w.heap.size + 2 ≤ b ∧ b < W.heap.size ∧ v.ownBlock ≠ some b) u.a u.c u.s s → StmSm s → W'.ownsRow (w.heap.size + 2) 36 6 v' (L.length + 1) (xs ++ stmCell s u) → (W.alloc o).grownBy W' v.ownBlock → (v'.ownBlock = v.ownBlock ∨ v'.ownBlock = some (W.heap.size + 1)) → FoJ w n0 n1 v' (L ++ [s]) W') ∧
    (∀ k, k < L.length → ∃ g cap u, v = .slice (some ⟨g, 0, none⟩) L.length cap ∧ g < W.heap.size ∧ (∀ j, j < 6 → W.cell? ⟨g, k * 6 + j, none⟩ = some ((stmCell (stmL L k) u).getD j undef)) ∧ StmAt W (fun b => w.heap.size + 2 ≤ b ∧ b < W.heap.size ∧ v.ownBlock ≠ some b) u.a u.c u.s (stmL L k)) := by
  obtain ⟨us, hr⟩ := h.row
  refine ⟨_, hr.row, fun s u v' o W' hs hsm hown hg hat => ?_, fun k hk => ?_⟩
  · refine ⟨⟨_, StsOwn.push hr hs (by rw [List.append_nil]; exact hown) hg hat⟩, (h.k.alloc o).grown hg (fun g hg => (hr.row.lt g hg).1), fun x hx => ?_⟩
    rcases List.mem_append.1 hx with e | e
    · exact h.sm x e
    · rw [List.mem_singleton.1 e]; exact hsm
  · obtain ⟨g, cap, hv, hB, hg⟩ := hr.row.form (by omega)
    subst hv
    refine ⟨g, cap, us k, rfl, hg, fun j hj => ?_, hr.at_ k hk⟩
    have := hr.cells (fun _ => rfl) hk hj
    rw [List.append_nil] at this
    have hl : j < (stmCell (stmL L k) (us k)).length := hj
    rw [this, List.getD_eq_getElem?_getD, List.getElem?_eq_getElem hl]; rfl
theorem FoJ.stms (h : FoJ w n0 n1 v L W) : StmsAt W (· < W.heap.size) v L := by
  obtain ⟨us, hr⟩ := h.row
  exact hr.stms.mono fun b hb => hb.2
theorem FoJ.nil (h : FoK w n0 n1 W) : FoJ w n0 n1 (.slice none 0 0) [] W := ⟨⟨fun _ => nil3, StsOwn.nil _ _ _ _ _ _⟩, h, fun s hs => by cases hs⟩
theorem FoJ.oks (h : FoJ w n0 n1 v L W) : ∀ s ∈ L, StmOk s ∧ ∀ t ∈ s.cond, t.args.length ≤ 1000000 := fun s hs => (h.sm s hs).both
end
/-- A statement without lists. -/
theorem bare_at {W : World} {S : Nat → Prop} (r : ByteArray) : StmAt W S nil3.a nil3.c nil3.s ⟨r, 0, 0, [], [], []⟩ :=
  ⟨⟨none, 0, 0, rfl, rfl, Nat.le_refl _, fun h => absurd h (Nat.lt_irrefl 0)⟩, ⟨none, 0, 0, rfl, rfl, Nat.le_refl _, fun h => absurd h (Nat.lt_irrefl 0)⟩, ⟨none, 0, 0, rfl, rfl, Nat.le_refl _, fun h => absurd h (Nat.lt_irrefl 0)⟩⟩
theorem frst_bad : ∀ {L : List Stm} {s : Stm}, s ∈ L → bytZ s ≠ 0 → frst L ≠ 0
  | [], s, h, _ => by cases h
  | a :: L, s, h, hz => by
    show (if bytZ a = 0 then frst L else bytZ a) ≠ 0
    by_cases h0 : bytZ a = 0
    · rw [if_pos h0]
      rcases List.mem_cons.1 h with e | e
      · rw [e] at hz; exact absurd h0 hz
      · exact frst_bad e hz
    · rw [if_neg h0]; exact h0
/-- Few, or with one that has no bytes. -/
def FewOr (L : List Stm) : Prop := L.length ≤ 257 ∧ (L.length ≤ 7 ∨ ∃ s ∈ L, bytZ s ≠ 0)
theorem FewOr.few {L : List Stm} (h : FewOr L) : frst L = 0 → L.length < 20 := fun h0 => by
  rcases h.2 with e | ⟨s, hs, hz⟩
  · omega
  · exact absurd h0 (frst_bad hs hz)
/-- Two more statements are put behind the others. -/
theorem FoJ.push2 {w W W2 : World} {n0 n1 : Int} {v v' : Value} {L : List Stm} {s t : Stm} {u x : V3} {o : Obj} {us : Nat → V3} (hr : StsOwn W (w.heap.size + 2) 36 6 v L us fun _ => []) (hk : FoK w n0 n1 W) (hsm : ∀ s ∈ L, StmSm s) (hs : StmAt W (fun b => w.heap.size + 2 ≤ b ∧ b < W.heap.size ∧ v.ownBlock ≠ some b) u.a u.c u.s s) (ht : StmAt W (fun b => w.heap.size + 2 ≤ b ∧ b < W.heap.size ∧ v.ownBlock ≠ some b) x.a x.c x.s t) (ss : StmSm s) (st : StmSm t)
    (hown : W2.ownsRow (w.heap.size + 2) 36 6 v' (L.length + 2) (stsC L us (fun _ => []) ++ (stmCell s u ++ stmCell t x))) (hg : (W.alloc o).grownBy W2 v.ownBlock) (hat : v'.ownBlock = v.ownBlock ∨ v'.ownBlock = some (W.heap.size + 1)) : FoJ w n0 n1 v' (L ++ [s] ++ [t]) W2 := by
  have hkb : ∀ b, w.heap.size + 2 ≤ b ∧ b < W.heap.size ∧ v.ownBlock ≠ some b → W2.heap[b]? = W.heap[b]? := fun b hb => (hg.block b (by simp; omega) (fun e2 => hb.2.2 e2.symm)).trans (Below.heap_alloc W o b hb.2.1)
  have hsz := hg.size
  simp only [World.size_alloc] at hsz
  have hS : ∀ b, w.heap.size + 2 ≤ b ∧ b < W.heap.size ∧ v.ownBlock ≠ some b → w.heap.size + 2 ≤ b ∧ b < W2.heap.size ∧ v'.ownBlock ≠ some b := fun b hb => ⟨hb.1, by omega, by
    rcases hat with e2 | e2
    · rw [e2]; exact hb.2.2
    · rw [e2]; intro e3; injection e3; omega⟩
  have e1 := stsC_snoc L s us u (fun _ => [])
  have e2 := stsC_snoc (L ++ [s]) t (fun k => if k = L.length then u else us k) x (fun _ => [])
  rw [e1] at e2
  have hl : (L ++ [s] ++ [t]).length = L.length + 2 := by simp
  refine ⟨⟨_, ⟨by rw [e2, hl]; simpa using hown, fun k hk' => ?_⟩⟩, (hk.alloc o).grown hg (fun g hg => (hr.row.lt g hg).1), fun y hy => ?_⟩
  · rw [hl] at hk'
    have hl1 : (L ++ [s]).length = L.length + 1 := by simp
    by_cases k1 : k = L.length + 1
    · subst k1
      have : stmL (L ++ [s] ++ [t]) (L.length + 1) = t := by rw [← hl1]; exact stmL_new _ _
      rw [this, hl1, if_pos rfl]
      exact (ht.keep hkb).mono hS
    · rw [hl1, if_neg k1, stmL_old (L ++ [s]) t k (by omega)]
      by_cases k2 : k = L.length
      · subst k2
        rw [if_pos rfl, stmL_new]
        exact (hs.keep hkb).mono hS
      · rw [if_neg k2, stmL_old L s k (by omega)]
        exact ((hr.at_ k (by omega)).keep hkb).mono hS
  · rcases List.mem_append.1 hy with e | e
    · rcases List.mem_append.1 e with e | e
      · exact hsm y e
      · rw [List.mem_singleton.1 e]; exact ss
    · rw [List.mem_singleton.1 e]; exact st
end Go.Proofs.YtgbhaaongmlpkaaGreatDoor

/- Appending bytes, one by one, to what '[]byte(s)' gave. -/
import Derived.Test.YtmneokkdkgflkaaDoorRefBlk
import Derived.Test.YtmneokkdkgflkaaDoorCodInt
import Derived.ArgAppend
import Derived.Lib.ConvBytes
set_option linter.unusedVariables false
set_option linter.unusedSimpArgs false
namespace Go.Proofs.YtmneokkdkgflkaaDoor
open Go.RowKit Num

/-- A slice of one-cell elements in a block of the call's own, whose cells up to the capacity can be written. -/
def OwnB (w : World) (base : Nat) (v : Value) (xs : List Value) : Prop :=
  ∃ g cap, v = .slice (some ⟨g, 0, none⟩) xs.length cap ∧ base ≤ g ∧ g < w.heap.size ∧ xs.length ≤ cap ∧ (∀ j, j < cap → (w.cell? ⟨g, j, none⟩).isSome = true ∧ w.frozen? ⟨g, j, none⟩ = false) ∧ (∀ j u, xs[j]? = some u → w.cell? ⟨g, j, none⟩ = some u)
theorem addr_add (g j : Nat) : (⟨g, 0, none⟩ : Addr).add j = ⟨g, j, none⟩ := by unfold Addr.add; split <;> simp_all
theorem OwnB.of_block {w w' : World} {base : Nat} {v : Value} {xs : List Value} (h : OwnB w base v xs) (hb : ∀ g, g < w.heap.size → w'.heap[g]? = w.heap[g]?) (hs : w.heap.size ≤ w'.heap.size) : OwnB w' base v xs := by
  obtain ⟨g, cap, rfl, h1, h2, h3, h4, h5⟩ := h
  refine ⟨g, cap, rfl, h1, Nat.lt_of_lt_of_le h2 hs, h3, fun j hj => ?_, fun j u hu => ?_⟩
  · rw [World.cell?_of_block (a := ⟨g, j, none⟩) (hb g h2), World.frozen?_of_block (a := ⟨g, j, none⟩) (hb g h2)]; exact h4 j hj
  · rw [World.cell?_of_block (a := ⟨g, j, none⟩) (hb g h2)]; exact h5 j u hu
theorem OwnB.alloc {w : World} {base : Nat} {v : Value} {xs : List Value} (h : OwnB w base v xs) (o : Obj) : OwnB (w.alloc o) base v xs :=
  h.of_block (fun g hg => heap_alloc_old w o hg) (by simp)
theorem OwnB.of_row {w : World} {base : Nat} {e : TypeId} {v : Value} {xs : List Value} (h : w.ownsRow base e 1 v xs.length xs) (h0 : 0 < xs.length) : OwnB w base v xs := by
  rcases h.2 with ⟨_, hz⟩ | ⟨g, cap, cur, rfl, hb, hg, hn, _, hcs, ht⟩
  · omega
  · have hlt : g < w.heap.size := (Array.getElem?_eq_some_iff.1 hg).1
    refine ⟨g, cap, rfl, hb, hlt, hn, fun j hj => ⟨?_, ?_⟩, fun j u hu => ?_⟩
    · simp [World.cell?, hg, hcs, hj]
    · simp [World.frozen?, hg]
    · have := h.cells (g := g) rfl j u hu
      rwa [addr_add] at this
section
variable {P : Program}
theorem run_append_b (w : World) (base : Nat) (t ty e : TypeId) (i : TypeInfo) (z : Value) (ht : P.underlying t = some (.slice e)) (hi : P.info? e = some i) (hz : i.zero = some z)
    (hsize : i.size = 1) (hby : i.bytes = 1) (hzs : z.cells.size = 1) (v : Value) (xs : List Value) (hown : OwnB w base v xs)
    (ad : Addr) (c : Nat) (u : Value) (hu : w.cell? ad = some u) (h1 : u.oneCell' = true) (hlen : xs.length + 1 ≤ 140737488355328) (hbase : base ≤ w.heap.size) :
    ∃ v' w', (Builtin.append_ #[t, t] ty #[v, .slice (some ad) 1 c]).run P w = .ok v' w' ∧ OwnB w' base v' (xs ++ [u]) ∧ Below base w w' := by
  obtain ⟨g, cap, rfl, hb1, hb2, hb3, hb4, hb5⟩ := hown
  have hnews : ∀ j u', [u][j]? = some u' → w.cell? (ad.add j) = some u' := by
    intro j u' hj
    match j, hj with
    | 0, hj => simp at hj; subst hj; simpa [Addr.add] using hu
  by_cases hr : xs.length + 1 ≤ cap
  · have hrun := run_append_room_cells (P := P) w t ty e i ht hi g 0 xs.length cap ad 1 c [u] (by simp [hsize]) hnews (by intro x hx; simp at hx; subst hx; exact h1) hr
      (fun j hj => by simp at hj; subst hj; simp [hsize]; exact (hb4 _ (by omega)).1) (fun j hj => by simp at hj; subst hj; simp [hsize]; exact (hb4 _ (by omega)).2)
    have hsc : w.setCells g (0 + xs.length * i.size) [u] = w.setCell ⟨g, xs.length, none⟩ u := by simp [World.setCells, hsize]
    rw [hsc] at hrun
    obtain ⟨old, hold⟩ := Option.isSome_iff_exists.1 (hb4 xs.length (by omega)).1
    refine ⟨_, _, hrun, ⟨g, cap, by simp, hb1, by simp [World.setCell]; exact hb2, by simpa using hr, fun j hj => ⟨?_, ?_⟩, fun j x hx => ?_⟩, (Below.refl _ _).setCell (p := ⟨g, xs.length, none⟩) hb1 _⟩
    · by_cases hje : j = xs.length
      · subst hje; rw [World.cell?_setCell_same _ _ _ hold]; rfl
      · rw [World.cell?_setCell_other _ _ _ _ (by intro e; injection e with e1 e2; exact hje e2.symm)]; exact (hb4 j hj).1
    · rw [World.frozen?_setCell]; exact (hb4 j hj).2
    · by_cases hje : j = xs.length
      · subst hje; rw [World.cell?_setCell_same _ _ _ hold]; simpa using hx
      · rw [World.cell?_setCell_other _ _ _ _ (by intro e; injection e with e1 e2; exact hje e2.symm)]
        refine hb5 j x ?_
        have hj2 : j < (xs ++ [u]).length := (List.getElem?_eq_some_iff.1 hx).1
        rw [List.length_append, List.length_singleton] at hj2
        rwa [List.getElem?_append_left (by omega)] at hx
  · obtain ⟨v', w', hrun, ho, hg⟩ := run_append_arg_grows (P := P) w t ty e i z 1 1 ht hi hz hsize hby hzs (by omega) ⟨g, 0, none⟩ xs.length cap xs (by simp) (fun j x hx => by rw [addr_add]; exact hb5 j x hx) ad 1 c [u] (by simp) hnews (by omega) (by simp only [maxLen]; omega) (by omega)
    refine ⟨v', w', hrun, OwnB.of_row (e := e) ?_ (by simp), ?_⟩
    · have : w'.ownsRow base e 1 v' (xs.length + 1) (xs ++ [u]) := by
        refine ⟨ho.1, ?_⟩
        rcases ho.2 with hn | ⟨g', cap', cur, a1, a2, a3⟩
        · exact .inl hn
        · exact .inr ⟨g', cap', cur, a1, Nat.le_trans hbase a2, a3⟩
      simpa using this
    · exact (Below.refl _ _).grown hg hbase (fun r hr => by cases hr)
theorem wpList_append_b {w : World} {ops : Array Oper} {rest : List Oper} {o : Oper} {a : Act} {Q : Exit → Act → World → Prop} (hgd : o.guard = none) (s x : Operand) (t : TypeId)
    (ho : o.op = .call { callee := .builtin .append, args := #[s, x], argTypes := #[t, t] })
    (base : Nat) (e : TypeId) (i : TypeInfo) (z : Value) (ht : P.underlying t = some (.slice e)) (hi : P.info? e = some i) (hz : i.zero = some z)
    (hsize : i.size = 1) (hby : i.bytes = 1) (hzs : z.cells.size = 1) (v : Value) (xs : List Value) (hs : a.eval s = v) (hown : OwnB w base v xs)
    (ad : Addr) (c : Nat) (u : Value) (hx : a.eval x = .slice (some ad) 1 c) (hu : w.cell? ad = some u) (h1 : u.oneCell' = true) (hlen : xs.length + 1 ≤ 140737488355328) (hbase : base ≤ w.heap.size)
    (h : ∀ v' w', OwnB w' base v' (xs ++ [u]) → Below base w w' → wpList P ops Q rest (a.put o.dst v') w') : wpList P ops Q (o :: rest) a w := by
  refine wpList_plain hgd fun K hK => ?_
  obtain ⟨v', w', hr, h2, h3⟩ := run_append_b (P := P) w base t o.type e i z ht hi hz hsize hby hzs v xs hown ad c u hu h1 hlen hbase
  unfold Oper.wp execOp
  simp only [ho, resolve, invoke, builtin, Sem.run_bind, Sem.run_pure, Result.andThen_ok, List.map_toArray, List.map_cons, List.map_nil, hs, hx, hr]
  exact hK _ _ (h v' w' h2 h3)
end
theorem ownB_bytes (W : World) (s : ByteArray) (e : TypeId) : OwnB (Lib.bytesWorld W e s) W.heap.size (.slice (some ⟨W.heap.size, 0, none⟩) s.size (grownCap W s.size 0 e)) (Lib.byteCells s.data.toList) := by
  have hn := Lib.bytesWorld_at_new W e s
  have hge := grownCap_ge W s.size 0 e
  have hsz : (Lib.bytesCells W e s).size = grownCap W s.size 0 e := by
    have : s.data.size = s.size := rfl
    simp [Lib.bytesCells]; omega
  have hl : (Lib.byteCells s.data.toList).length = s.size := by simp [Lib.byteCells]
  refine ⟨W.heap.size, _, by rw [hl], Nat.le_refl _, by rw [Lib.bytesWorld_size]; omega, by rw [hl]; exact hge, fun j hj => ⟨?_, ?_⟩, fun j u hu => ?_⟩
  · simp [World.cell?, hn, hsz, hj]
  · simp [World.frozen?, hn]; omega
  · have hj : j < s.size := by rw [← hl]; exact (List.getElem?_eq_some_iff.1 hu).1
    rw [Lib.bytesWorld_cell W e s j hj]
    have hj2 : j < s.data.toList.length := by simpa using hj
    simp only [Lib.byteCells, List.getElem?_map, List.getElem?_eq_getElem hj2, Option.map_some] at hu
    rw [List.getD_eq_getElem?_getD, List.getElem?_eq_getElem hj2]
    exact hu
theorem below_bytes (W : World) (s : ByteArray) (e : TypeId) : Below W.heap.size W (Lib.bytesWorld W e s) :=
  ⟨rfl, rfl, rfl, by rw [Lib.bytesWorld_size]; omega, fun i hi => Lib.bytesWorld_at_old W e s i hi⟩
end Go.Proofs.YtmneokkdkgflkaaDoor

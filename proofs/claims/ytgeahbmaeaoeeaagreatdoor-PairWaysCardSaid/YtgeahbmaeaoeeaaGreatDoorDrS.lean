/- Words for regions that draw their order, turn dice and make memory: the blocks that have been made so far. -/
import Derived.Test.YtgeahbmaeaoeeaaGreatDoorKitDice
import Derived.Test.YtgeahbmaeaoeeaaGreatDoorRefDeal
import Derived.Deep.RegionHeld3
set_option linter.unusedVariables false
set_option linter.unusedSimpArgs false
namespace Go.Proofs.YtgeahbmaeaoeeaaGreatDoor
open Go.RowKit Num

section
variable {P : Program} {ops : Array Oper} {Q : Exit → Act → World → Prop} {md : Region.Mode} {S T : World → Prop}
/-- More may be asked of the world. -/
theorem wpAnyH_mono (h : ∀ W, T W → S W) : ∀ (fuel : Nat) (listed : Array Bool) (a : Act) (w : World), wpAnyH P md ops Q T fuel listed a w → wpAnyH P md ops Q S fuel listed a w
  | 0, _, _, _, h0 => h0
  | fuel + 1, _, _, _, h0 => ⟨h0.1, fun i hi => wpOp_mono (fun a' w' h' => ⟨h _ h'.1, wpAnyH_mono h fuel _ a' w' h'.2⟩) (h0.2 i hi)⟩
end
/-- A function that a call enters. -/
def EnterF (P : Program) (F : FuncId) : Prop := ∀ (args : Array Value) (w : World), (callFunc F args).run P w = .ok (.enter F args) w
theorem enterF_of {P : Program} {F : FuncId} {fn : Func} (h : P.funcs[F]? = some fn) (hn : (fn.name == "runtime.NumGoroutine") = false) (hb : fn.body.isNone = false) : EnterF P F := fun args w => by
  have hn' : ¬ fn.name = "runtime.NumGoroutine" := by simpa using hn
  have hb' : ¬ fn.body = none := fun e => by rw [e] at hb; cases hb
  unfold callFunc
  simp [go_sem, h, hn', hb']
section
variable {P : Program} {ops : Array Oper} {o : Oper} {a : Act} {w : World} {K : Act → World → Prop} {Q : Exit → Act → World → Prop} {E : Prop}
/-- A call of a Go function, in a drawn region. -/
theorem step_fn {F : FuncId} (hF : EnterF P F) {xs : Array Operand} {ts : Array TypeId} (vs : Array Value) (hw : Region.wanted o (yielded ops a.tmps) = true) (ho : o.op = .call { callee := .value (.func F), args := xs, argTypes := ts }) (hv : xs.map a.eval = vs)
    (h : Calls P F vs w fun e w' => ∃ v, e = .returned v ∧ K (a.put o.dst v) w') : if Region.wanted o (yielded ops a.tmps) = true then Oper.wp P o a w K Q else E := by
  rw [if_pos hw]
  unfold Oper.wp execOp
  simp only [ho, resolve]
  rw [hv, show a.eval (.func F) = .func (.func F) #[] #[] from rfl]
  have e : (do let d ← Deferred.ofValue (.func (.func F) #[] #[]) vs; invoke d.target d.args : Sem Next).run P w = .ok (.enter F vs) w := by
    simp [Deferred.ofValue, invoke, go_sem, hF vs w]
  rw [e]
  exact h.mono fun e w' ⟨v, he, hk⟩ => by subst he; exact hk
/-- An operation that gives a value. -/
theorem step_val (v : Value) (w' : World) (hw : Region.wanted o (yielded ops a.tmps) = true) (hr : (execOp a.eval o).run P w = .ok (.value v) w') (h : K (a.put o.dst v) w') : if Region.wanted o (yielded ops a.tmps) = true then Oper.wp P o a w K Q else E := by
  rw [if_pos hw]
  unfold Oper.wp
  rw [hr]
  exact h
theorem step_skipE (w' : World) (hw : Region.wanted o (yielded ops a.tmps) = true) (hr : (execOp a.eval o).run P w = .ok .skip w') (h : ∀ W, W = w' → K (a.put o.dst undef) W) : if Region.wanted o (yielded ops a.tmps) = true then Oper.wp P o a w K Q else E := by
  rw [if_pos hw]
  unfold Oper.wp
  rw [hr]
  exact h _ rfl
theorem step_skip (w' : World) (hw : Region.wanted o (yielded ops a.tmps) = true) (hr : (execOp a.eval o).run P w = .ok .skip w') (h : K (a.put o.dst undef) w') : if Region.wanted o (yielded ops a.tmps) = true then Oper.wp P o a w K Q else E := by
  rw [if_pos hw]
  unfold Oper.wp
  rw [hr]
  exact h
end
theorem en_next : EnterF Tryz.prog 8 := enterF_of Tryz.func8 (by kernel_rfl) (by kernel_rfl)
/-- What was made of memory since w, while the dice at d were turned: blocks that are known. -/
structure DrS (w W : World) (d : Nat) (B : List (Nat × TypeId × Array Value)) : Prop where
  dc : Dc W d
  old : w.grownBy W (some d)
  blk : ∀ x ∈ B, Blk W x.1 x.2.1 x.2.2 ∧ d < x.1
  ne : ∀ (i j : Nat) (x y : Nat × TypeId × Array Value), B[i]? = some x → B[j]? = some y → x.1 = y.1 → i = j
  new : ∀ x ∈ B, w.heap.size ≤ x.1
section
variable {w W W' : World} {d : Nat} {B : List (Nat × TypeId × Array Value)}
theorem DrS.start (hd : Dc w d) : DrS w w d [] := ⟨hd, World.grownBy.refl w _, (fun x hx => by cases hx), (fun i j x y hx => by simp at hx), (fun x hx => by cases hx)⟩
theorem DrS.drew (h : DrS w W d B) : DrS w W.drew d B := ⟨h.dc, only_drewN h.old 1, fun x hx => h.blk x hx, h.ne, h.new⟩
theorem DrS.call (h : DrS w W d B) (hd : Dc W' d) (hg : W.grownBy W' (some d)) : DrS w W' d B :=
  ⟨hd, gb_trans h.old hg, fun x hx => ⟨(h.blk x hx).1.grown hg (fun e => by have := (h.blk x hx).2; injection e with e; omega), (h.blk x hx).2⟩, h.ne, h.new⟩
theorem DrS.below (h : DrS w W d B) (hb : Below W.heap.size W W') : DrS w W' d B := h.call (h.dc.below hb h.dc.lt) (only_of_below hb _)
theorem DrS.al (h : DrS w W d B) (t : TypeId) (cs : Array Value) : DrS w (W.alloc (.cells cs t)) d ((W.heap.size, t, cs) :: B) :=
  ⟨h.dc.alloc _, gb_trans h.old (only_alloc (World.grownBy.refl W _) _), (fun x hx => by
    rcases List.mem_cons.1 hx with rfl | hx
    · exact ⟨Blk.new W t cs, h.dc.lt⟩
    · exact ⟨(h.blk x hx).1.alloc _, (h.blk x hx).2⟩), (fun i j x y hx hy e => by
    have lt : ∀ (k : Nat) (z : Nat × TypeId × Array Value), B[k]? = some z → z.1 < W.heap.size := fun k z hz => (h.blk z (List.mem_of_getElem? hz)).1.lt
    cases i with
    | zero =>
      cases j with
      | zero => rfl
      | succ j =>
        simp only [List.getElem?_cons_zero, List.getElem?_cons_succ] at hx hy
        injection hx with hx
        subst hx
        have := lt _ _ hy
        dsimp only at e
        omega
    | succ i =>
      cases j with
      | zero =>
        simp only [List.getElem?_cons_zero, List.getElem?_cons_succ] at hx hy
        injection hy with hy
        subst hy
        have := lt _ _ hx
        dsimp only at e
        omega
      | succ j =>
        simp only [List.getElem?_cons_succ] at hx hy
        rw [h.ne i j x y hx hy e]), (fun x hx => by
    rcases List.mem_cons.1 hx with rfl | hx
    · exact h.old.size
    · exact h.new x hx)⟩
theorem DrS.get (h : DrS w W d B) (i : Nat) {g : Nat} {t : TypeId} {cs : Array Value} (hi : B[i]? = some (g, t, cs)) : Blk W g t cs := (h.blk _ (List.mem_of_getElem? hi)).1
theorem DrS.far (h : DrS w W d B) (i : Nat) {g : Nat} {t : TypeId} {cs : Array Value} (hi : B[i]? = some (g, t, cs)) : d < g := (h.blk _ (List.mem_of_getElem? hi)).2
theorem DrS.isNew (h : DrS w W d B) (i : Nat) {g : Nat} {t : TypeId} {cs : Array Value} (hi : B[i]? = some (g, t, cs)) : w.heap.size ≤ g := h.new _ (List.mem_of_getElem? hi)
/-- A cell of a block of one's own is written. -/
theorem DrS.set (h : DrS w W d B) (i : Nat) {g : Nat} {t : TypeId} {cs : Array Value} (hi : B[i]? = some (g, t, cs)) (j : Nat) (v : Value) : DrS w (W.setCell ⟨g, j, none⟩ v) d (B.set i (g, t, cs.setIfInBounds j v)) := by
  have hil : i < B.length := (List.getElem?_eq_some_iff.1 hi).1
  have hgb := h.get i hi
  have hdg := h.far i hi
  refine ⟨h.dc.keep fun q hq => Below.heap_setCell _ _ _ _ (by show q ≠ g; omega), ⟨h.old.os, h.old.tape, h.old.output, by have := h.old.size; simpa using this, fun q hq hn => (Below.heap_setCell _ _ _ _ (by have := h.isNew i hi; show q ≠ g; omega)).trans (h.old.block q hq hn)⟩, fun x hx => ?_, fun a b x y hx hy e => ?_, fun x hx => ?_⟩
  · obtain ⟨k, hk, rfl⟩ := List.getElem_of_mem hx
    by_cases e : i = k
    · subst e
      rw [List.getElem_set_self]
      exact ⟨hgb.set_ j v, hdg⟩
    · rw [List.getElem_set_ne e]
      have hkl : k < B.length := by simpa using hk
      have hb := h.blk B[k] (List.getElem_mem hkl)
      refine ⟨hb.1.far (fun e2 => e ?_) v, hb.2⟩
      exact h.ne i k _ _ hi (List.getElem?_eq_getElem hkl) e2.symm
  · have hfst : ∀ (k : Nat) (z : Nat × TypeId × Array Value), (B.set i (g, t, cs.setIfInBounds j v))[k]? = some z → ∃ z' : Nat × TypeId × Array Value, B[k]? = some z' ∧ z'.1 = z.1 := fun k z hz => by
      by_cases e : i = k
      · subst e
        rw [List.getElem?_set_self hil] at hz
        injection hz with hz
        subst hz
        exact ⟨_, hi, rfl⟩
      · rw [List.getElem?_set_ne e] at hz
        exact ⟨z, hz, rfl⟩
    obtain ⟨x', hx', ex⟩ := hfst a x hx
    obtain ⟨y', hy', ey⟩ := hfst b y hy
    exact h.ne a b x' y' hx' hy' (by rw [ex, ey, e])
  · obtain ⟨k, hk, rfl⟩ := List.getElem_of_mem hx
    by_cases e : i = k
    · subst e
      rw [List.getElem_set_self]
      exact h.isNew i hi
    · rw [List.getElem_set_ne e]
      exact h.new _ (List.getElem_mem (by simpa using hk))
end
section
variable {P : Program} {ops : Array Oper} {o : Oper} {a : Act} {w : World} {K : Act → World → Prop} {Q : Exit → Act → World → Prop} {E : Prop}
/-- A block is made: it and the world behind get names of their own. -/
theorem step_alE {w0 : World} {d : Nat} {B : List (Nat × TypeId × Array Value)} {mk : Nat → Value} {t : TypeId} {cs : Array Value} (hD : DrS w0 w d B) (hw : Region.wanted o (yielded ops a.tmps) = true) (hr : (execOp a.eval o).run P w = .ok (.value (mk w.heap.size)) (w.alloc (.cells cs t)))
    (h : ∀ g W, DrS w0 W d ((g, t, cs) :: B) → Below w.heap.size w W → K (a.put o.dst (mk g)) W) : if Region.wanted o (yielded ops a.tmps) = true then Oper.wp P o a w K Q else E := by
  rw [if_pos hw]
  unfold Oper.wp
  rw [hr]
  exact h _ _ (hD.al t cs) ((Below.refl _ _).alloc (Nat.le_refl _) _)
end
end Go.Proofs.YtgeahbmaeaoeeaaGreatDoor

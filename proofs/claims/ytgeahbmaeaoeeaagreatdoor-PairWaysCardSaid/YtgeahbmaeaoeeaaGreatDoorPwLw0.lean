/- Words for the law PairWays. -/
import Derived.Test.YtgeahbmaeaoeeaaGreatDoorVwAw2
import Derived.Test.YtgeahbmaeaoeeaaGreatDoorVwRow
import Derived.Test.YtgeahbmaeaoeeaaGreatDoorDrS
import Derived.Test.YtgeahbmaeaoeeaaGreatDoorPwLnk
import Derived.Test.YtgeahbmaeaoeeaaGreatDoorMkFil
import Derived.Test.YtgeahbmaeaoeeaaGreatDoorDlSm
import Derived.Test.YtgeahbmaeaoeeaaGreatDoorSub
set_option linter.unusedVariables false
set_option linter.unusedSimpArgs false
namespace Go.Proofs.YtgeahbmaeaoeeaaGreatDoor
open Go.RowKit Num

theorem ShAt.oneP {w : World} {S : Nat → Prop} {A : Option Addr} {n c i : Nat} {L : List Sh} (h : ShAt w S (.slice A n c) L) (hi : i < n) : ShAt w S (.slice (subA A c i 2) 1 (c - i)) [shAt L i] := by
  obtain ⟨A', n', c', hv, h2, h3, h4⟩ := h
  injection hv with e1 e2 e3
  subst e1 e2 e3
  obtain ⟨b, off, rfl, hS, hc⟩ := h4 (by omega)
  refine ⟨_, 1, c - i, rfl, rfl, by omega, fun _ => ⟨b, off + i * 2, ?_, hS, fun k hk => ?_⟩⟩
  · unfold subA
    by_cases e : c = i
    · omega
    · rw [if_neg e]
      show some ((⟨b, off, none⟩ : Addr).add (i * 2)) = _
      unfold Addr.add; split <;> simp_all
  · obtain rfl : k = 0 := by omega
    obtain ⟨u, a, d, f⟩ := hc i hi
    exact ⟨u, by rw [Nat.zero_mul, Nat.add_zero]; exact a, by rw [Nat.zero_mul, Nat.add_zero]; exact d, f⟩
/-- The dice and the plan, while the law runs. -/
structure PwK (w W : World) (d tb p need hold : Nat) : Prop where
  dc : Dc W d
  pl : Blk W tb 29 #[.int .i64 (p : Int), .int .i64 (need : Int), .int .i64 (hold : Int)]
  lt : d < tb
  old : Below d w W
section
variable {w W W' : World} {d tb p need hold : Nat}
theorem PwK.grown (h : PwK w W d tb p need hold) {row : Option Nat} (hg : W.grownBy W' row) (hr : ∀ q, row = some q → tb < q ∧ q < W.heap.size) : PwK w W' d tb p need hold :=
  ⟨h.dc.grown hg (fun g hg2 => Nat.lt_trans h.lt (hr g hg2).1), h.pl.grown hg (fun e => Nat.lt_irrefl _ (hr tb e.symm).1), h.lt, h.old.grown hg (Nat.le_of_lt (Nat.lt_trans h.lt h.pl.lt)) (fun g hg2 => Nat.le_of_lt (Nat.lt_trans h.lt (hr g hg2).1))⟩
theorem PwK.dice (h : PwK w W d tb p need hold) (hd : Dc W' d) (hg : W.grownBy W' (some d)) : PwK w W' d tb p need hold :=
  ⟨hd, h.pl.grown hg (fun e => by injection e with e; have := h.lt; omega), h.lt, h.old.grown hg (Nat.le_of_lt (Nat.lt_trans h.lt h.pl.lt)) (fun g hg2 => by injection hg2 with e; omega)⟩
theorem PwK.below (h : PwK w W d tb p need hold) (hb : Below W.heap.size W W') : PwK w W' d tb p need hold := h.grown (only_of_below hb none) (fun q hq => by cases hq)
theorem PwK.alloc (h : PwK w W d tb p need hold) (o : Obj) : PwK w (W.alloc o) d tb p need hold := h.below ((Below.refl _ _).alloc (Nat.le_refl _) o)
theorem PwK.drew (h : PwK w W d tb p need hold) : PwK w W.drew d tb p need hold := ⟨h.dc, h.pl, h.lt, h.old.drew⟩
theorem PwK.set (h : PwK w W d tb p need hold) (n : Nat) : PwK w (W.setCell ⟨tb, 1, none⟩ (.int .i64 (n : Int))) d tb p n hold :=
  ⟨h.dc.keep fun i hi => Below.heap_setCell _ _ _ _ (by have := h.lt; show i ≠ tb; omega), h.pl.set_ 1 _, h.lt, h.old.setCell (p := ⟨tb, 1, none⟩) (Nat.le_of_lt h.lt) _⟩
theorem PwK.c0 (h : PwK w W d tb p need hold) : W.cell? ⟨tb, 0, none⟩ = some (.int .i64 (p : Int)) := (h.pl.cell 0).trans rfl
theorem PwK.c1 (h : PwK w W d tb p need hold) : W.cell? ⟨tb, 1, none⟩ = some (.int .i64 (need : Int)) := (h.pl.cell 1).trans rfl
theorem PwK.c2 (h : PwK w W d tb p need hold) : W.cell? ⟨tb, 2, none⟩ = some (.int .i64 (hold : Int)) := (h.pl.cell 2).trans rfl
theorem PwK.f1 (h : PwK w W d tb p need hold) : W.frozen? ⟨tb, 1, none⟩ = false := h.pl.frozen 1
end
def p3 (r : Nat) : Nat := if r = 0 then 5 else if r = 1 then 7 else 11
theorem p3_cell {W : World} {g r : Nat} (h : Blk W g 3 #[.int .i64 5, .int .i64 7, .int .i64 11]) (hr : r < 3) : W.cell? ⟨g, r, none⟩ = some (.int .i64 ((p3 r : Nat) : Int)) := by
  rw [h.cell r]
  rcases (show r = 0 ∨ r = 1 ∨ r = 2 by omega) with rfl | rfl | rfl <;> rfl
theorem p3_or {r : Nat} (hr : r < 3) : p3 r = 5 ∨ p3 r = 7 ∨ p3 r = 11 := by
  rcases (show r = 0 ∨ r = 1 ∨ r = 2 by omega) with rfl | rfl | rfl
  · exact .inl rfl
  · exact .inr (.inl rfl)
  · exact .inr (.inr rfl)
/-- Behind the plan's drawing. -/
def PwA (w : World) (d : Nat) (x : Value) (W : World) : Prop := ∃ tb p b c : Nat, x = .pointer (some ⟨tb, 0, none⟩) ∧ (p = 5 ∨ p = 7 ∨ p = 11) ∧ b < 2 ∧ c < 2 ∧ PwK w W d tb p (2 + b) (3 + c)
theorem pwA_end {w w1 W : World} {d g r0 r1 r2 : Nat} {B : List (Nat × TypeId × Array Value)} (hold : Below d w w1) (hdl : d ≤ w1.heap.size) (h : DrS w1 W d B) (i : Nat) (hi : B[i]? = some (g, 29, #[.int .i64 ((p3 r0 : Nat) : Int), .int .i64 (2 + (r1 : Int)), .int .i64 (3 + (r2 : Int))])) (h0 : r0 < 3) (h1 : r1 < 2) (h2 : r2 < 2) : PwA w d (.pointer (some ⟨g, 0, none⟩)) W := by
  refine ⟨g, p3 r0, r1, r2, rfl, p3_or h0, h1, h2, h.dc, ?_, h.far i hi, hold.grown h.old hdl (fun q hq => by injection hq with hq; omega)⟩
  · have := h.get i hi
    rw [show ((2 + r1 : Nat) : Int) = 2 + (r1 : Int) by omega, show ((3 + r2 : Nat) : Int) = 3 + (r2 : Int) by omega]
    exact this
section
variable {o : Oper} {a : Act} {w : World}
theorem bs_p3 (ho : o.op = .buildSlice 22 3 #[(0, .const (.int .i64 5)), (1, .const (.int .i64 7)), (2, .const (.int .i64 11))]) : (execOp a.eval o).run Tryz.prog w = .ok (.value (.slice (some ⟨w.heap.size, 0, none⟩) 3 3)) (w.alloc (.cells #[.int .i64 5, .int .i64 7, .int .i64 11] 3)) := by
  unfold execOp
  simp only [ho]
  go_simp
theorem al_plan (ho : o.op = .alloc 29) : (execOp a.eval o).run Tryz.prog w = .ok (.value (.pointer (some ⟨w.heap.size, 0, none⟩))) (w.alloc (.cells #[.int .i64 0, .int .i64 0, .int .i64 0] 29)) := by
  unfold execOp
  simp only [ho]
  go_simp
theorem st_plan {x y : Operand} {g : Nat} {p q r : Int} (ho : o.op = .store 29 x y) (hx : a.eval x = .pointer (some ⟨g, 0, none⟩)) (hy : a.eval y = .agg #[.int .i64 p, .int .i64 q, .int .i64 r]) (hb : Blk w g 29 #[.int .i64 0, .int .i64 0, .int .i64 0]) :
    (execOp a.eval o).run Tryz.prog w = .ok .skip (((w.setCell ⟨g, 0, none⟩ (.int .i64 p)).setCell ⟨g, 1, none⟩ (.int .i64 q)).setCell ⟨g, 2, none⟩ (.int .i64 r)) := by
  have c0 := (hb.cell 0).trans (show _ = some (Value.int .i64 0) from rfl)
  have c1 := (hb.cell 1).trans (show _ = some (Value.int .i64 0) from rfl)
  have c2 := (hb.cell 2).trans (show _ = some (Value.int .i64 0) from rfl)
  have f0 := hb.frozen 0
  have f1 := hb.frozen 1
  have f2 := hb.frozen 2
  unfold execOp
  simp only [ho, hx, hy]
  go_simp
end
/-- Behind the change for the greatest field. -/
def PwB (w : World) (d : Nat) (x : Value) (W : World) : Prop := ∃ tb p k hold : Nat, x = .pointer (some ⟨tb, 0, none⟩) ∧ PwP p k ∧ (hold = 3 ∨ hold = 4) ∧ PwK w W d tb p (k + 1) hold
/-- Holders that are picked: so many, ascending. -/
def PwH (hold sz : Nat) (H : List Int) : Prop := H.length ≤ sz ∧ ∀ i, i < H.length → 1 ≤ H.getD i 0 ∧ H.getD i 0 ≤ ((i + 1 : Nat) : Int) + ((i + 1 : Nat) : Int) * (((hold - sz) / 2 : Nat) : Int) ∧ (0 < i → H.getD (i - 1) 0 < H.getD i 0)
/-- Where the search goes on. -/
def nextH (H : List Int) : Int := if H.length = 0 then 1 else H.getD (H.length - 1) 0 + 1
theorem PwA.plan {w : World} {d : Nat} {x : Value} {W : World} (h : PwA w d x W) : True := trivial
theorem PwP.lt {p k : Nat} (h : PwP p k) : 5 ≤ p ∧ p ≤ 11 ∧ 1 ≤ k ∧ k ≤ 2 := by
  obtain ⟨h1, h2, h3⟩ := h
  omega
theorem PwP.prm {p k : Nat} (h : PwP p k) : Prm p := by
  rcases h.1 with rfl | rfl | rfl
  · exact prm5
  · exact prm7
  · exact prm11
theorem PwH.nil (hold sz : Nat) : PwH hold sz [] := ⟨Nat.zero_le _, fun i hi => absurd hi (Nat.not_lt_zero i)⟩
theorem getD_snoc_lt {H : List Int} {v : Int} {i : Nat} (h : i < H.length) : (H ++ [v]).getD i 0 = H.getD i 0 := by
  rw [List.getD_eq_getElem?_getD, List.getD_eq_getElem?_getD, List.getElem?_append_left h]
theorem getD_snoc_eq {H : List Int} {v : Int} : (H ++ [v]).getD H.length 0 = v := by
  rw [List.getD_eq_getElem?_getD, List.getElem?_append_right (Nat.le_refl _)]; simp
theorem nextH_bd {hold sz : Nat} {H : List Int} (h : PwH hold sz H) : 1 ≤ nextH H ∧ nextH H ≤ ((H.length + 1 : Nat) : Int) + (H.length : Int) * (((hold - sz) / 2 : Nat) : Int) := by
  unfold nextH
  split
  · rename_i h0
    rw [h0]; simp
  · rename_i h0
    have := h.2 (H.length - 1) (by omega)
    rw [show H.length - 1 + 1 = H.length by omega] at this
    obtain ⟨h1, h2, -⟩ := this
    omega
theorem PwH.snoc {hold sz : Nat} {H : List Int} (h : PwH hold sz H) (hl : H.length < sz) {f : Nat} (hf : f ≤ (hold - sz) / 2) : PwH hold sz (H ++ [nextH H + (f : Int)]) ∧ nextH (H ++ [nextH H + (f : Int)]) = nextH H + (f : Int) + 1 := by
  have hb := nextH_bd h
  refine ⟨⟨by rw [List.length_append, List.length_singleton]; omega, fun i hi => ?_⟩, ?_⟩
  · rw [List.length_append, List.length_singleton] at hi
    by_cases e : i = H.length
    · subst e
      rw [getD_snoc_eq]
      have e2 : (((H.length + 1 : Nat) : Int)) * (((hold - sz) / 2 : Nat) : Int) = (H.length : Int) * (((hold - sz) / 2 : Nat) : Int) + (((hold - sz) / 2 : Nat) : Int) := by
        rw [Int.natCast_succ, Int.add_mul, Int.one_mul]
      rw [e2]
      refine ⟨by omega, by omega, fun h0 => ?_⟩
      rw [getD_snoc_lt (by omega)]
      unfold nextH
      rw [if_neg (by omega)]
      omega
    · rw [getD_snoc_lt (by omega)]
      obtain ⟨h1, h2, h3⟩ := h.2 i (by omega)
      exact ⟨h1, h2, fun h0 => by rw [getD_snoc_lt (by omega)]; exact h3 h0⟩
  · have e : nextH (H ++ [nextH H + (f : Int)]) = (H ++ [nextH H + (f : Int)]).getD H.length 0 + 1 := by
      conv => lhs; unfold nextH
      rw [List.length_append, List.length_singleton, if_neg (by omega)]
      rfl
    rw [e, getD_snoc_eq]
/-- The holders are some of all. -/
theorem PwH.all {hold sz : Nat} {H : List Int} (h : PwH hold sz H) (hh : hold = 3 ∨ hold = 4) (hs : sz ≤ 2) : ∀ i, i < H.length → 1 ≤ H.getD i 0 ∧ H.getD i 0 ≤ (hold : Int) := fun i hi => by
  obtain ⟨h1, h2, -⟩ := h.2 i hi
  have hl := h.1
  refine ⟨h1, ?_⟩
  have hi2 : i = 0 ∨ i = 1 := by omega
  rcases hh with rfl | rfl
  · rcases (show sz = 1 ∨ sz = 2 by omega) with rfl | rfl <;> rcases hi2 with rfl | rfl <;> generalize H.getD _ 0 = a at * <;> simp at h2 <;> omega
  · rcases (show sz = 1 ∨ sz = 2 by omega) with rfl | rfl <;> rcases hi2 with rfl | rfl <;> generalize H.getD _ 0 = a at * <;> simp at h2 <;> omega
theorem PwH.ris {hold sz : Nat} {H : List Int} (h : PwH hold sz H) (hh : hold = 3 ∨ hold = 4) (hs : sz ≤ 2) : RisP H 1 (hold : Int) := fun i hi => ⟨h.all hh hs i hi, (h.2 i hi).2.2⟩
def vlen : Value → Nat
  | .slice _ n _ => n
  | _ => 0
/-- The holders' row, while they are picked. -/
structure PwR (W : World) (tb : Nat) (x : Value) (H : List Int) : Prop where
  row : W.ownsRow (tb + 1) 3 1 x H.length (H.map (Value.int .i64))
section
variable {W W' : World} {tb : Nat} {x : Value} {H : List Int}
theorem PwR.form (h : PwR W tb x H) : ∃ A c, x = .slice A H.length c ∧ H.length ≤ c := by
  rcases h.row.2 with ⟨rfl, h0⟩ | ⟨g, cap, cur, rfl, _, _, hnc, _⟩
  · exact ⟨none, 0, by rw [h0], by omega⟩
  · exact ⟨_, cap, rfl, hnc⟩
theorem PwR.dice {d : Nat} (h : PwR W tb x H) (hg : W.grownBy W' (some d)) (hd : d ≤ tb) : PwR W' tb x H := ⟨h.row.kept hg (by
  rcases hv : x.ownBlock with _ | g
  · exact .inl rfl
  · right; have := (h.row.lt g hv).1; intro e; injection e; omega)⟩
theorem PwR.below (h : PwR W tb x H) (hb : Below W.heap.size W W') : PwR W' tb x H := ⟨h.row.kept (only_of_below hb none) (by cases x.ownBlock <;> simp)⟩
theorem PwR.at_ (h : PwR W tb x H) : IntsAt W (fun b => tb < b ∧ b < W.heap.size) x H := (IntsAt.of_own h.row).mono fun b hb => ⟨hb.1, hb.2⟩
end
theorem PwK.c1k {w W : World} {d tb p k hold : Nat} (h : PwK w W d tb p (k + 1) hold) : W.cell? ⟨tb, 1, none⟩ = some (.int .i64 ((k : Int) + 1)) := h.c1
/-- Behind the dealing. -/
def PwC (w : World) (d tb p k hold : Nat) (xH : Value) (H : List Int) (x8 x9 : Value) (W : World) : Prop :=
  ∃ (x0 : Int) (R : List Int), x9 = .int .i64 0 ∧ 0 ≤ x0 ∧ x0 < (p : Int) ∧ R.length = k ∧ ShAt W (fun b => tb < b ∧ b < W.heap.size) x8 (dealL p k [x0] R hold) ∧ PwR W tb xH H ∧ PwK w W d tb p (k + 1) hold
theorem pwC_end {w wr W W' : World} {d tb p k hold : Nat} {xH v : Value} {H : List Int} {B : List (Nat × TypeId × Array Value)} {x0 : Nat} {R : List Int} (hx : x0 < p) (hR : R.length = k) (hr : PwR wr tb xH H) (hk : PwK w W d tb p (k + 1) hold) (hD : DrS wr W d B) (ho : OwnSh W' W.heap.size v (dealL p k [(x0 : Int)] R hold)) (hb : Below W.heap.size W W') : PwC w d tb p k hold xH H v (.int .i64 0) W' :=
  ⟨x0, R, rfl, by omega, by omega, hR, ho.at_.mono (fun b hb2 => ⟨Nat.lt_of_lt_of_le hk.pl.lt hb2.1, hb2.2⟩), (hr.dice hD.old (Nat.le_of_lt hk.lt)).below hb, hk.below hb⟩
section
variable {o : Oper} {a : Act} {w : World}
theorem bs_one {y : Operand} {x : Int} (ho : o.op = .buildSlice 22 1 #[(0, y)]) (hy : a.eval y = .int .i64 x) : (execOp a.eval o).run Tryz.prog w = .ok (.value (.slice (some ⟨w.heap.size, 0, none⟩) 1 1)) (w.alloc (.cells #[.int .i64 x] 3)) := by
  generalize a.eval = r at *
  unfold execOp
  simp only [ho]
  go_simp
end
theorem en_fill : EnterF Tryz.prog 10 := enterF_of Tryz.func10 (by kernel_rfl) (by kernel_rfl)
theorem en_deal : EnterF Tryz.prog 9 := enterF_of Tryz.func9 (by kernel_rfl) (by kernel_rfl)
theorem inF_one {p x : Nat} (h : x < p) : InF p [(x : Int)] := fun i hi => by
  have hi1 : i < 1 := hi
  obtain rfl : i = 0 := by omega
  show (0 : Int) ≤ (x : Int) ∧ (x : Int) < (p : Int)
  omega
theorem below_al2 (w : World) (o : Obj) : Below w.heap.size w (w.alloc o) := (Below.refl _ _).alloc (Nat.le_refl _) o
theorem ints_below {w W : World} {v : Value} {xs : List Int} (h : IntsAt W (fun b => w.heap.size ≤ b ∧ b < W.heap.size) v xs) : IntsAt W (· < W.heap.size) v xs := h.mono fun b hb => hb.2
theorem DrS.fromDrew {w W : World} {d : Nat} {B : List (Nat × TypeId × Array Value)} (h : DrS w W d B) : DrS w W d B := h
end Go.Proofs.YtgeahbmaeaoeeaaGreatDoor

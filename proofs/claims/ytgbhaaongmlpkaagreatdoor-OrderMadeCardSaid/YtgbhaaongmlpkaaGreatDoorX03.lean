/- Contracts of the reference's field, polynomials and plans. Words for memory: slices that read as lists; rows of the call's own. Plain: conditions, their trees and texts, and a reader of texts. No program stands in it. -/
import Derived.Test.YtgbhaaongmlpkaaGreatDoorX01
import Derived.Test.YtgbhaaongmlpkaaGreatDoorX02
import Derived.Maps.AppendAt
import Derived.Deep.AppendLies
import Derived.Deep.RegionHeld3
import Derived.RegionTactic
import Derived.OwnWalk
import Derived.Laws.OwnMore
import Derived.Lib.ItoaNum
import Derived.Lib.AtoiAll
import Derived.Lib.Join
set_option linter.unusedVariables false
set_option linter.unusedSimpArgs false
namespace Go.Proofs.YtgbhaaongmlpkaaGreatDoor
open Go.RowKit Num

/-- A slice of numbers, its cells in a block of S. -/
def IntsAt (w : World) (S : Nat → Prop) (v : Value) (xs : List Int) : Prop :=
  ∃ (A : Option Addr) (n c : Nat), v = .slice A n c ∧ n = xs.length ∧ n ≤ c ∧ (0 < n → ∃ b off, A = some ⟨b, off, none⟩ ∧ S b ∧ ∀ k, k < n → w.cell? ⟨b, off + k, none⟩ = some (.int .i64 (xs.getD k 0)))
theorem IntsAt.keep {w w' : World} {S : Nat → Prop} {v : Value} {xs : List Int} (h : IntsAt w S v xs) (hk : ∀ b, S b → w'.heap[b]? = w.heap[b]?) : IntsAt w' S v xs := by
  obtain ⟨A, n, c, h1, h2, h3, h4⟩ := h
  refine ⟨A, n, c, h1, h2, h3, fun hn => ?_⟩
  obtain ⟨b, off, hA, hS, hc⟩ := h4 hn
  exact ⟨b, off, hA, hS, fun k hk' => (World.cell?_of_block (hk b hS)).trans (hc k hk')⟩
theorem IntsAt.mono {w : World} {S T : Nat → Prop} {v : Value} {xs : List Int} (h : IntsAt w S v xs) (hk : ∀ b, S b → T b) : IntsAt w T v xs := by
  obtain ⟨A, n, c, h1, h2, h3, h4⟩ := h
  refine ⟨A, n, c, h1, h2, h3, fun hn => ?_⟩
  obtain ⟨b, off, hA, hS, hc⟩ := h4 hn
  exact ⟨b, off, hA, hk b hS, hc⟩
/-- The blocks of a world. -/
def Old (w : World) (b : Nat) : Prop := b < w.heap.size
theorem IntsAt.below {w w' : World} {B : Nat} {v : Value} {xs : List Int} (h : IntsAt w (· < B) v xs) (hb : Below B w w') : IntsAt w' (· < B) v xs := h.keep fun b hB => hb.block b hB
theorem IntsAt.of_own {w : World} {B : Nat} {v : Value} {n : Nat} {xs : List Int} (h : w.ownsRow B 3 1 v n (xs.map (Value.int .i64))) : IntsAt w (fun b => B ≤ b ∧ b < w.heap.size) v xs := by
  have hl : n = xs.length := by have := h.1; simp at this; omega
  rcases h.2 with ⟨rfl, h0⟩ | ⟨g, cap, cur, rfl, hB, hh, hnc, hm, hs, ht⟩
  · exact ⟨none, 0, 0, rfl, by omega, Nat.le_refl _, fun h => by omega⟩
  · refine ⟨_, n, cap, rfl, hl, hnc, fun hn => ⟨g, 0, rfl, ⟨hB, (Array.getElem?_eq_some_iff.1 hh).1⟩, fun k hk => ?_⟩⟩
    have hc := h.cells (g := g) rfl k (.int .i64 (xs.getD k 0)) (by rw [List.getElem?_map, List.getElem?_eq_getElem (show k < xs.length by omega), List.getD_eq_getElem?_getD, List.getElem?_eq_getElem (show k < xs.length by omega)]; rfl)
    have ha : (⟨g, 0, none⟩ : Addr).add k = ⟨g, 0 + k, none⟩ := by unfold Addr.add; split <;> simp_all
    rwa [ha] at hc

/-- All are elements. -/
def InF (p : Nat) (xs : List Int) : Prop := ∀ k, k < xs.length → 0 ≤ xs.getD k 0 ∧ xs.getD k 0 < p

/-- A polynomial's value by Horner's way, modulo p at each step. -/
def evH (p x : Int) : List Int → Int
  | [] => 0
  | c :: l => (evH p x l * x + c) % p
theorem evH_cg (p x : Int) : ∀ l, Cg p (evH p x l) (ev l x) := by
  intro l
  induction l with
  | nil => exact Cg.refl _ _
  | cons c l ih =>
    show Cg p ((evH p x l * x + c) % p) (c + x * ev l x)
    have := (ih.mul (Cg.refl p x)).add (Cg.refl p c)
    rw [Int.mul_comm (ev l x), Int.add_comm (x * ev l x)] at this
    exact Cg.of_emod this
theorem evH_bd (p : Nat) (x : Int) (hp : 1 ≤ p) : ∀ l, 0 ≤ evH p x l ∧ evH p x l < p := by
  intro l
  cases l with
  | nil => exact ⟨Int.le_refl _, by show (0 : Int) < p; omega⟩
  | cons c l => exact ⟨Int.emod_nonneg _ (by omega), Int.emod_lt_of_pos _ (by omega)⟩
theorem drop_get (l : List Int) (k : Nat) (h : k < l.length) : l.drop k = l.getD k 0 :: l.drop (k + 1) := by
  rw [List.drop_eq_getElem_cons h, List.getD_eq_getElem?_getD, List.getElem?_eq_getElem h]; rfl
/-- A plan as a value; it is valid over a prime. -/
def planV (p need hold : Nat) : Value := .agg #[.int .i64 (p : Int), .int .i64 (need : Int), .int .i64 (hold : Int)]
end Go.Proofs.YtgbhaaongmlpkaaGreatDoor
namespace Go.Proofs.YtgbhaaongmlpkaaGreatDoor
open Go.RowKit Num
theorem block_of_add (a : Addr) (n : Nat) : (a.add n).block = a.block := by unfold Addr.add; split <;> rfl
theorem add_of_add (a : Addr) (i j : Nat) : (a.add i).add j = a.add (i + j) := by
  unfold Addr.add
  by_cases hi : i = 0 <;> by_cases hj : j = 0 <;> simp [hi, hj, Nat.add_assoc]

def Reads (w : World) (B size : Nat) (A : Option Addr) (n : Nat) (xs : List Value) : Prop :=
  xs.length = n * size ∧ (0 < n → ∃ ad, A = some ad ∧ ad.block < B ∧ ∀ j u, xs[j]? = some u → w.cell? (ad.add j) = some u)

section
variable {w w' : World} {B B' size n : Nat} {A : Option Addr} {xs : List Value}
theorem Reads.none_ : Reads w B size A 0 [] := ⟨by simp, fun h => absurd h (by omega)⟩
theorem Reads.at_ {k : Nat} (h : Reads w B 1 A n xs) (hk : k < n) : ∃ ad u, A = some ad ∧ ad.block < B ∧ xs[k]? = some u ∧ w.cell? (ad.add k) = some u := by
  obtain ⟨ad, e, hb, hc⟩ := h.2 (by omega)
  have hl : k < xs.length := by have := h.1; omega
  exact ⟨ad, xs[k], e, hb, List.getElem?_eq_getElem hl, hc k _ (List.getElem?_eq_getElem hl)⟩
theorem Reads.keep (h : Reads w B size A n xs) (hk : ∀ p : Addr, p.block < B → w'.cell? p = w.cell? p) : Reads w' B size A n xs :=
  ⟨h.1, fun hn => by
    obtain ⟨ad, e, hb, hc⟩ := h.2 hn
    exact ⟨ad, e, hb, fun j u hu => (hk _ (by rw [block_of_add]; exact hb)).trans (hc j u hu)⟩⟩
theorem Reads.more (h : Reads w B size A n xs) (hB : B ≤ B') : Reads w B' size A n xs :=
  ⟨h.1, fun hn => by
    obtain ⟨ad, e, hb, hc⟩ := h.2 hn
    exact ⟨ad, e, by omega, hc⟩⟩
theorem Reads.below (h : Reads w B size A n xs) (hb : Below B w w') : Reads w' B size A n xs := h.keep fun _ hp => hb.cell hp
theorem Reads.drew (h : Reads w B size A n xs) : Reads w.drew B size A n xs := h
theorem Reads.drewN (h : Reads w B size A n xs) (k : Nat) : Reads (w.drewN k) B size A n xs := h
theorem Reads.alloc (h : Reads w B size A n xs) (hB : B ≤ w.heap.size) (o : Obj) : Reads (w.alloc o) B size A n xs := h.keep fun p hp => World.cell?_alloc_lt w o p (by omega)
theorem Reads.setCell (h : Reads w B size A n xs) {p : Addr} (hB : B ≤ p.block) (u : Value) : Reads (w.setCell p u) B size A n xs :=
  h.keep fun q hq => World.cell?_setCell_other w p q u (fun e => by subst e; omega)
theorem Reads.grown (h : Reads w B size A n xs) {row : Option Nat} (hg : w.grownBy w' row) (hB : B ≤ w.heap.size) (hr : ∀ g, row = some g → B ≤ g) : Reads w' B size A n xs :=
  h.keep fun p hp => World.cell?_of_block (hg.block p.block (by omega) (fun e => by have := hr _ e.symm; omega))
theorem Reads.cut (h : Reads w B size A n xs) {k cap : Nat} (hk : k ≤ n) (hc : n ≤ cap) :
    Reads w B size (if cap = k then A else A.map (·.add (k * size))) (n - k) (xs.drop (k * size)) := by
  refine ⟨by rw [List.length_drop, h.1, Nat.sub_mul], fun hn => ?_⟩
  obtain ⟨ad, rfl, hb, hcell⟩ := h.2 (by omega)
  rw [if_neg (by omega)]
  refine ⟨ad.add (k * size), rfl, by rw [block_of_add]; exact hb, fun j u hu => ?_⟩
  rw [add_of_add]
  exact hcell _ u (by rw [← hu, List.getElem?_drop])
theorem Reads.of_own {base : Nat} {e : TypeId} {c : Nat} (h : w.ownsRow base e size (.slice A n c) n xs) : Reads w w.heap.size size A n xs := by
  refine ⟨h.1, fun hn => ?_⟩
  obtain ⟨g, cap, hv, _, hlt⟩ := h.form hn
  have hA : A = some ⟨g, 0, none⟩ := by injection hv
  subst hA
  exact ⟨_, rfl, hlt, h.cells (g := g) rfl⟩
end
section
variable {P : Program} (w : World)

theorem run_append_of_nil (base : Nat) (t ty e : TypeId) (i : TypeInfo) (size : Nat) (ht : P.underlying t = some (.slice e)) (hi : P.info? e = some i)
    (v : Value) (n : Nat) (xs : List Value) (hown : w.ownsRow base e size v n xs) (c : Nat) : (Builtin.append_ #[t, t] ty #[v, .slice none 0 c]).run P w = .ok v w := by
  rcases hown.2 with ⟨rfl, rfl⟩ | ⟨g, cap, cur, rfl, _, _, hnc, _⟩
  · simp [Builtin.append_, run_underlying ht, sizeOf, typeInfo, hi, Builtin.lenOf, Builtin.firstCells]
  · simp [Builtin.append_, run_underlying ht, sizeOf, typeInfo, hi, Builtin.lenOf, Builtin.firstCells, hnc, storeCells]

theorem run_append_any (base : Nat) (t ty e : TypeId) (i : TypeInfo) (z : Value) (size bytes : Nat) (ht : P.underlying t = some (.slice e)) (hi : P.info? e = some i) (hz : i.zero = some z)
    (hsize : i.size = size) (hby : i.bytes = bytes) (hzs : z.cells.size = size) (hsz : 0 < size)
    (v : Value) (n : Nat) (xs : List Value) (hown : w.ownsRow base e size v n xs)
    (B : Nat) (A : Option Addr) (m c : Nat) (news : List Value) (hr : Reads w B size A m news) (h1 : ∀ u ∈ news, u.oneCell' = true)
    (h63 : n + m ≤ maxLen) (hbytes : (n + m) * bytes ≤ 140737488355328) (hbase : base ≤ w.heap.size) :
    ∃ v' w', (Builtin.append_ #[t, t] ty #[v, .slice A m c]).run P w = .ok v' w' ∧ w'.ownsRow base e size v' (n + m) (xs ++ news) ∧ w.grownBy w' v.ownBlock ∧
      (v'.ownBlock = v.ownBlock ∨ v'.ownBlock = some w.heap.size) := by
  rcases A with _ | ad
  · have hm : m = 0 := by
      rcases Nat.eq_zero_or_pos m with h0 | h0
      · exact h0
      · obtain ⟨ad, h, _⟩ := hr.2 h0
        cases h
    subst hm
    have hn : news = [] := List.eq_nil_of_length_eq_zero (by simpa using hr.1)
    subst hn
    exact ⟨v, w, run_append_of_nil w base t ty e i size ht hi v n xs hown c, by simpa using hown, World.grownBy.refl w _, .inl rfl⟩
  · have hcells : ∀ j u, news[j]? = some u → w.cell? (ad.add j) = some u := by
      intro j u hu
      rcases Nat.eq_zero_or_pos m with h0 | h0
      · subst h0
        have hn : news = [] := List.eq_nil_of_length_eq_zero (by simpa using hr.1)
        subst hn
        simp at hu
      · obtain ⟨ad', h, _, hc⟩ := hr.2 h0
        injection h with h
        subst h
        exact hc j u hu
    obtain ⟨v', w', hrun, h2, h3, _, h5⟩ := run_append_own_at (P := P) w base t ty e i z size bytes ht hi hz hsize hby hzs hsz v n xs hown ad m c news hr.1 hcells h1 h63 hbytes hbase
    exact ⟨v', w', hrun, h2, h3, h5⟩

theorem wp_append_any {o : Oper} {a : Act} {K : Act → World → Prop} {Q : Exit → Act → World → Prop} (s x : Operand) (t : TypeId)
    (ho : o.op = .call { callee := .builtin .append, args := #[s, x], argTypes := #[t, t] })
    (base : Nat) (e : TypeId) (i : TypeInfo) (z : Value) (size bytes : Nat) (ht : P.underlying t = some (.slice e)) (hi : P.info? e = some i) (hz : i.zero = some z)
    (hsize : i.size = size) (hby : i.bytes = bytes) (hzs : z.cells.size = size) (hsz : 0 < size)
    (v : Value) (n : Nat) (xs : List Value) (hs : a.eval s = v) (hown : w.ownsRow base e size v n xs)
    (B : Nat) (A : Option Addr) (m c : Nat) (news : List Value) (hx : a.eval x = .slice A m c) (hr : Reads w B size A m news) (h1 : ∀ u ∈ news, u.oneCell' = true)
    (h63 : n + m ≤ maxLen) (hbytes : (n + m) * bytes ≤ 140737488355328) (hbase : base ≤ w.heap.size)
    (h : ∀ v' w', w'.ownsRow base e size v' (n + m) (xs ++ news) → w.grownBy w' v.ownBlock → (v'.ownBlock = v.ownBlock ∨ v'.ownBlock = some w.heap.size) → K (a.put o.dst v') w') : o.wp P a w K Q := by
  obtain ⟨v', w', hrun, h2, h3, h4⟩ := run_append_any (P := P) w base t o.type e i z size bytes ht hi hz hsize hby hzs hsz v n xs hown B A m c news hr h1 h63 hbytes hbase
  unfold Oper.wp execOp
  simp only [ho, resolve, invoke, builtin, Sem.run_bind, Sem.run_pure, Result.andThen_ok, List.map_toArray, List.map_cons, List.map_nil, hs, hx, hrun]
  exact h v' w' h2 h3 h4

theorem wpList_append_any {ops : Array Oper} {rest : List Oper} {o : Oper} {a : Act} {Q : Exit → Act → World → Prop} (hgd : o.guard = none) (s x : Operand) (t : TypeId)
    (ho : o.op = .call { callee := .builtin .append, args := #[s, x], argTypes := #[t, t] })
    (base : Nat) (e : TypeId) (i : TypeInfo) (z : Value) (size bytes : Nat) (ht : P.underlying t = some (.slice e)) (hi : P.info? e = some i) (hz : i.zero = some z)
    (hsize : i.size = size) (hby : i.bytes = bytes) (hzs : z.cells.size = size) (hsz : 0 < size)
    (v : Value) (n : Nat) (xs : List Value) (hs : a.eval s = v) (hown : w.ownsRow base e size v n xs)
    (B : Nat) (A : Option Addr) (m c : Nat) (news : List Value) (hx : a.eval x = .slice A m c) (hr : Reads w B size A m news) (h1 : ∀ u ∈ news, u.oneCell' = true)
    (h63 : n + m ≤ maxLen) (hbytes : (n + m) * bytes ≤ 140737488355328) (hbase : base ≤ w.heap.size)
    (h : ∀ v' w', w'.ownsRow base e size v' (n + m) (xs ++ news) → w.grownBy w' v.ownBlock → (v'.ownBlock = v.ownBlock ∨ v'.ownBlock = some w.heap.size) → wpList P ops Q rest (a.put o.dst v') w') : wpList P ops Q (o :: rest) a w :=
  wpList_plain hgd fun _ hK => wp_append_any w s x t ho base e i z size bytes ht hi hz hsize hby hzs hsz v n xs hs hown B A m c news hx hr h1 h63 hbytes hbase fun v' w' h2 h3 h4 => hK _ _ (h v' w' h2 h3 h4)

theorem step_append_any {ops : Array Oper} {o : Oper} {a : Act} {K : Act → World → Prop} {Q : Exit → Act → World → Prop} {E : Prop} (hgd : o.guard = none) (s x : Operand) (t : TypeId)
    (ho : o.op = .call { callee := .builtin .append, args := #[s, x], argTypes := #[t, t] })
    (base : Nat) (e : TypeId) (i : TypeInfo) (z : Value) (size bytes : Nat) (ht : P.underlying t = some (.slice e)) (hi : P.info? e = some i) (hz : i.zero = some z)
    (hsize : i.size = size) (hby : i.bytes = bytes) (hzs : z.cells.size = size) (hsz : 0 < size)
    (v : Value) (n : Nat) (xs : List Value) (hs : a.eval s = v) (hown : w.ownsRow base e size v n xs)
    (B : Nat) (A : Option Addr) (m c : Nat) (news : List Value) (hx : a.eval x = .slice A m c) (hr : Reads w B size A m news) (h1 : ∀ u ∈ news, u.oneCell' = true)
    (h63 : n + m ≤ maxLen) (hbytes : (n + m) * bytes ≤ 140737488355328) (hbase : base ≤ w.heap.size)
    (h : ∀ v' w', w'.ownsRow base e size v' (n + m) (xs ++ news) → w.grownBy w' v.ownBlock → (v'.ownBlock = v.ownBlock ∨ v'.ownBlock = some w.heap.size) → K (a.put o.dst v') w') :
    if Region.wanted o (yielded ops a.tmps) = true then Oper.wp P o a w K Q else E := by
  have hw : Region.wanted o (yielded ops a.tmps) = true := by simp [Region.wanted, hgd]
  rw [if_pos hw]
  exact wp_append_any w s x t ho base e i z size bytes ht hi hz hsize hby hzs hsz v n xs hs hown B A m c news hx hr h1 h63 hbytes hbase h
end

theorem IntsAt.reads {w : World} {S : Nat → Prop} {B : Nat} {A : Option Addr} {n c : Nat} {xs : List Int} (h : IntsAt w S (.slice A n c) xs) (hS : ∀ b, S b → b < B) : Reads w B 1 A n (xs.map (Value.int .i64)) := by
  obtain ⟨A', n', c', hv, h2, h3, h4⟩ := h
  injection hv with e1 e2 e3
  subst e1 e2 e3
  refine ⟨by simp; omega, fun hn => ?_⟩
  obtain ⟨b, off, rfl, hb, hc⟩ := h4 hn
  refine ⟨_, rfl, hS b hb, fun j u hu => ?_⟩
  have hj : j < xs.length := by
    rcases Nat.lt_or_ge j xs.length with h | h
    · exact h
    · rw [List.getElem?_eq_none (by simpa using h)] at hu; cases hu
  have ha : (⟨b, off, none⟩ : Addr).add j = ⟨b, off + j, none⟩ := by unfold Addr.add; split <;> simp_all
  rw [ha, hc j (by omega)]
  rw [List.getElem?_map, List.getElem?_eq_getElem hj] at hu
  rw [List.getD_eq_getElem?_getD, List.getElem?_eq_getElem hj]
  exact hu
/-- Rows of different kinds lie in different blocks. -/
theorem own_ne {w : World} {B B' : Nat} {e e' : TypeId} {s s' n n' : Nat} {v v' : Value} {xs xs' : List Value} (h : w.ownsRow B e s v n xs) (h' : w.ownsRow B' e' s' v' n' xs') (hne : e ≠ e') : v.ownBlock = none ∨ v.ownBlock ≠ v'.ownBlock := by
  rcases h.2 with ⟨rfl, _⟩ | ⟨g, cap, cur, rfl, _, hh, _⟩
  · exact .inl rfl
  · right
    rcases h'.2 with ⟨rfl, _⟩ | ⟨g', cap', cur', rfl, _, hh', _⟩
    · simp [Value.ownBlock]
    · intro he
      have : g = g' := by simpa [Value.ownBlock] using he
      subst this
      rw [hh] at hh'
      injection hh' with hh'
      injection hh' with _ ht
      exact hne ht
theorem own_lt {w : World} {B : Nat} {e : TypeId} {s n : Nat} {v : Value} {xs : List Value} (h : w.ownsRow B e s v n xs) : v.ownBlock = none ∨ v.ownBlock ≠ some w.heap.size := by
  rcases hv : v.ownBlock with _ | g
  · exact .inl rfl
  · right; have := (h.lt g hv).2; intro e; injection e; omega
theorem own_one {w : World} {B : Nat} {e : TypeId} {s n : Nat} {v : Value} {xs : List Value} (h : w.ownsRow B e s v n xs) : v.oneCell' = true := by
  rcases h.2 with ⟨rfl, _⟩ | ⟨g, cap, cur, rfl, _⟩ <;> rfl
theorem grown_past {w w' : World} {o : Obj} {row : Option Nat} (h : (w.alloc o).grownBy w' row) : w.grownBy w' row :=
  ⟨h.os, h.tape, h.output, Nat.le_trans (by simp) h.size, fun i hi hn => (h.block i (by simp; omega) hn).trans (Below.heap_alloc w o i hi)⟩
/-- A share: its holder and its values. -/
abbrev Sh := Int × List Int
def shAt (L : List Sh) (k : Nat) : Sh := L.getD k (0, [])
theorem shAt_snoc_old (L : List Sh) (x : Sh) (k : Nat) (h : k < L.length) : shAt (L ++ [x]) k = shAt L k := by
  unfold shAt; rw [List.getD_eq_getElem?_getD, List.getD_eq_getElem?_getD, List.getElem?_append_left h]
theorem shAt_snoc_new (L : List Sh) (x : Sh) : shAt (L ++ [x]) L.length = x := by
  unfold shAt; rw [List.getD_eq_getElem?_getD, List.getElem?_append_right (Nat.le_refl _)]; simp
end Go.Proofs.YtgbhaaongmlpkaaGreatDoor
namespace Go.Proofs.YtgbhaaongmlpkaaGreatDoor
open Go

/-- A term of a condition. -/
structure Trm where
  kind : Int
  num : Int
  yrs : Int
  field : ByteArray
  text : ByteArray
  args : List Int
inductive Tree where
  | node (t : Trm) (xs : List Tree)
def mkT (k n y : Int) (f x : ByteArray) : Trm := ⟨k, n, y, f, x, []⟩
def bsOf (l : List UInt8) : ByteArray := ⟨l.toArray⟩
abbrev blOf (s : ByteArray) : List UInt8 := s.data.toList
theorem blOf_bsOf (l : List UInt8) : blOf (bsOf l) = l := rfl
theorem bsOf_blOf (s : ByteArray) : bsOf (blOf s) = s := by cases s; simp [bsOf, blOf]
theorem blOf_inj {s t : ByteArray} (h : blOf s = blOf t) : s = t := by rw [← bsOf_blOf s, ← bsOf_blOf t, h]

/-! ### Bytes and words -/
def lowB (c : UInt8) : Bool := decide (97 ≤ c.toNat) && decide (c.toNat ≤ 122)
def inWB (c : UInt8) : Bool := lowB c || (decide (48 ≤ c.toNat) && decide (c.toNat ≤ 57)) || c == 95
def spB (c : UInt8) : Bool := c == 32 || c == 10
def signB (c : UInt8) : Bool := c == 40 || c == 41 || c == 44
/-- The words of the language with which terms begin. -/
def nmB : List (List UInt8) := [[], [97,108,108], [97,110,121], [114,101,112,111,114,116,101,114,115], [100,101,112,97,114,116,109,101,110,116,115], [121,101,97,114,115], [110,111,116,102,105,114,115,116], [115,97,121,115], [97,108,119,97,121,115]]
def ofB : List UInt8 := [111, 102]
def resB : List (List UInt8) := [[97,108,108], [97,110,121], [114,101,112,111,114,116,101,114,115], [100,101,112,97,114,116,109,101,110,116,115], [121,101,97,114,115], [119,105,116,104,105,110], [110,111,116,102,105,114,115,116], [115,97,121,115], [97,108,119,97,121,115], [111,102]]
def nameB (l : List UInt8) : Bool := decide (1 ≤ l.length) && decide (l.length ≤ 32) && lowB (l.headD 0) && !resB.contains l && l.all inWB
def idxB (w : List UInt8) : List (List UInt8) → Int
  | [] => -1
  | x :: r => if x = w then 0 else if idxB w r = -1 then -1 else idxB w r + 1
def kindB (w : List UInt8) : Int := idxB w nmB
def severalB (k : Int) : Bool := decide (k = 1 ∨ k = 2)
def betwB (n top : Int) : Bool := decide (1 ≤ n ∧ n ≤ top)
def bareB (t : Trm) : Bool :=
  if t.kind = 1 ∨ t.kind = 2 ∨ t.kind = 6 ∨ t.kind = 8 then decide (t.num = 0 ∧ t.yrs = 0 ∧ t.field.size = 0 ∧ t.text.size = 0)
  else if t.kind = 3 ∨ t.kind = 4 then betwB t.num 64 && decide (t.yrs = 0 ∧ t.field.size = 0 ∧ t.text.size = 0)
  else if t.kind = 5 then betwB t.num 64 && decide (0 ≤ t.yrs ∧ t.yrs ≤ 100 ∧ t.field.size = 0 ∧ t.text.size = 0)
  else if t.kind = 7 then betwB t.num 64 && nameB (blOf t.field) && betwB t.text.size 256 && !(blOf t.text).contains 34 && decide (t.yrs = 0)
  else false
def argsOk (t : Trm) : Bool := severalB t.kind == decide (0 < t.args.length) && decide (t.args.length ≠ 1)

/-! ### Trees of terms -/
def growA (g : Nat → Option (Tree × Nat)) : List Int → Nat → Option (List Tree × Nat)
  | [], nx => some ([], nx)
  | k :: ks, nx => if k = (nx : Int) then (match g nx with
    | none => none
    | some (x, af) => match growA g ks af with
      | none => none
      | some (xs, n) => some (x :: xs, n)) else none
def growF (l : List Trm) : Nat → Nat → Option (Tree × Nat)
  | 0, _ => none
  | d + 1, at_ => match l[at_]? with
    | none => none
    | some t => if bareB t && argsOk t then (match growA (growF l d) t.args (at_ + 1) with
      | none => none
      | some (xs, n) => some (.node t xs, n)) else none
/-- The tree of a valid condition. -/
def rootF (l : List Trm) : Option Tree := if l.length ≤ 24 then (match growF l 6 0 with
  | none => none
  | some (t, n) => if n = l.length then some t else none) else none
def GoodT : Nat → Tree → Prop
  | 0, _ => False
  | d + 1, .node t xs => bareB t = true ∧ severalB t.kind = decide (0 < xs.length) ∧ xs.length ≠ 1 ∧ ∀ x ∈ xs, GoodT d x

theorem growA_len {g : Nat → Option (Tree × Nat)} : ∀ {ks nx xs n}, growA g ks nx = some (xs, n) → xs.length = ks.length := by
  intro ks
  induction ks with
  | nil => intro nx xs n h; simp [growA] at h; obtain ⟨rfl, _⟩ := h; rfl
  | cons k ks ih =>
    intro nx xs n h
    unfold growA at h
    split at h
    · split at h
      · cases h
      · rename_i x af hg
        split at h
        · cases h
        · rename_i xs' n' ha
          injection h with h; injection h with h1 h2; subst h1
          simp [ih ha]
    · cases h
theorem growA_good {g : Nat → Option (Tree × Nat)} {G : Tree → Prop} (hg : ∀ nx x af, g nx = some (x, af) → G x) : ∀ {ks nx xs n}, growA g ks nx = some (xs, n) → ∀ x ∈ xs, G x := by
  intro ks
  induction ks with
  | nil => intro nx xs n h; simp [growA] at h; obtain ⟨rfl, _⟩ := h; simp
  | cons k ks ih =>
    intro nx xs n h
    unfold growA at h
    split at h
    · split at h
      · cases h
      · rename_i x af hx
        split at h
        · cases h
        · rename_i xs' n' ha
          injection h with h; injection h with h1 h2; subst h1
          intro y hy
          rcases List.mem_cons.1 hy with rfl | hy
          · exact hg _ _ _ hx
          · exact ih ha y hy
    · cases h
theorem grow_good {l : List Trm} : ∀ d {at_ T n}, growF l d at_ = some (T, n) → GoodT d T := by
  intro d
  induction d with
  | zero => intro at_ T n h; simp [growF] at h
  | succ d ih =>
    intro at_ T n h
    unfold growF at h
    split at h
    · cases h
    · rename_i t ht
      split at h
      · rename_i hb
        split at h
        · cases h
        · rename_i xs n' ha
          injection h with h; injection h with h1 h2; subst h1
          rw [Bool.and_eq_true] at hb
          obtain ⟨hb1, hb2⟩ := hb
          unfold argsOk at hb2
          rw [Bool.and_eq_true] at hb2
          have hl := growA_len ha
          refine ⟨hb1, ?_, ?_, growA_good (fun _ _ _ h => ih h) ha⟩
          · rw [hl]; simpa using hb2.1
          · rw [hl]; simpa using hb2.2
      · cases h

/-! ### The terms of a tree -/
def flatA (g : Nat → Tree → List Trm) : Nat → List Tree → List Int × List Trm
  | _, [] => ([], [])
  | at_, x :: xs => ((at_ : Int) :: (flatA g (at_ + (g at_ x).length) xs).1, g at_ x ++ (flatA g (at_ + (g at_ x).length) xs).2)
def flatT : Nat → Nat → Tree → List Trm
  | 0, _, _ => []
  | d + 1, at_, .node t xs => { t with args := t.args ++ (flatA (flatT d) (at_ + 1) xs).1 } :: (flatA (flatT d) (at_ + 1) xs).2
/-- The tree as a reader makes it: without the numbers of the terms behind. -/
def eraseF : Nat → Tree → Tree
  | 0, T => T
  | d + 1, .node t xs => .node { t with args := [] } (xs.map (eraseF d))

theorem drop_take_app {α : Type} (l : List α) (a b c : Nat) (h1 : a ≤ b) (h2 : b ≤ c) : (l.drop a).take (c - a) = (l.drop a).take (b - a) ++ (l.drop b).take (c - b) := by
  rw [show c - a = (b - a) + (c - b) by omega, List.take_add, List.drop_drop, show a + (b - a) = b by omega]
theorem slice_len {α : Type} (l : List α) (a n : Nat) (h1 : a ≤ n) (h2 : n ≤ l.length) : ((l.drop a).take (n - a)).length = n - a := by
  rw [List.length_take, List.length_drop]; omega
theorem flatA_grow {l : List Trm} {d : Nat} (hd : ∀ {at_ T n}, growF l d at_ = some (T, n) → flatT d at_ (eraseF d T) = (l.drop at_).take (n - at_) ∧ at_ < n ∧ n ≤ l.length) :
    ∀ {ks nx xs n}, nx ≤ l.length → growA (growF l d) ks nx = some (xs, n) → (flatA (flatT d) nx (xs.map (eraseF d))).1 = ks ∧ (flatA (flatT d) nx (xs.map (eraseF d))).2 = (l.drop nx).take (n - nx) ∧ nx ≤ n ∧ n ≤ l.length := by
  intro ks
  induction ks with
  | nil => intro nx xs n hn h; simp [growA] at h; obtain ⟨rfl, rfl⟩ := h; simp [flatA]; exact hn
  | cons k ks ih =>
    intro nx xs n hn h
    unfold growA at h
    split at h
    · rename_i hk
      split at h
      · cases h
      · rename_i x af hx
        split at h
        · cases h
        · rename_i xs' n' ha
          injection h with h; injection h with h1 h2; subst h1; subst h2
          obtain ⟨e1, e2, e3⟩ := hd hx
          obtain ⟨f1, f2, f3, f4⟩ := ih e3 ha
          have hl : (flatT d nx (eraseF d x)).length = af - nx := by rw [e1]; exact slice_len l nx af (by omega) e3
          simp only [List.map_cons, flatA]
          rw [hl, show nx + (af - nx) = af by omega]
          refine ⟨by rw [f1, hk], ?_, by omega, f4⟩
          rw [e1, f2]
          exact (drop_take_app l nx af _ (by omega) f3).symm
    · cases h
/-- What is read of the terms is them again. -/
theorem flat_grow {l : List Trm} : ∀ d {at_ T n}, growF l d at_ = some (T, n) → flatT d at_ (eraseF d T) = (l.drop at_).take (n - at_) ∧ at_ < n ∧ n ≤ l.length := by
  intro d
  induction d with
  | zero => intro at_ T n h; simp [growF] at h
  | succ d ih =>
    intro at_ T n h
    unfold growF at h
    split at h
    · cases h
    · rename_i t ht
      have hlt : at_ < l.length := by
        rcases Nat.lt_or_ge at_ l.length with h | h
        · exact h
        · rw [List.getElem?_eq_none h] at ht; cases ht
      split at h
      · split at h
        · cases h
        · rename_i xs n' ha
          injection h with h; injection h with h1 h2; subst h1; subst h2
          obtain ⟨f1, f2, f3, f4⟩ := flatA_grow ih (by omega) ha
          refine ⟨?_, by omega, f4⟩
          simp only [eraseF, flatT, List.nil_append]
          rw [f1, f2, show n' - at_ = (n' - (at_ + 1)) + 1 by omega, List.drop_eq_getElem_cons hlt, List.take_succ_cons]
          rw [List.getElem?_eq_getElem hlt] at ht
          injection ht with ht
          rw [ht]
      · cases h
theorem flatA_congr {g g' : Nat → Tree → List Trm} : ∀ {xs ys : List Tree} {at_ : Nat}, xs.length = ys.length → (∀ (i : Nat) (x y : Tree), xs[i]? = some x → ys[i]? = some y → ∀ a, g a x = g' a y) → flatA g at_ xs = flatA g' at_ ys := by
  intro xs
  induction xs with
  | nil => intro ys at_ hl h; cases ys with | nil => rfl | cons y ys => simp at hl
  | cons x xs ih =>
    intro ys at_ hl h
    cases ys with
    | nil => simp at hl
    | cons y ys =>
      have h0 := h 0 x y rfl rfl
      simp only [flatA]
      rw [h0 at_, ih (by simpa using hl) (fun i a b h1 h2 => h (i + 1) a b (by simpa using h1) (by simpa using h2))]
theorem flat_mono : ∀ d f {T at_}, GoodT d T → d ≤ f → flatT f at_ (eraseF f T) = flatT d at_ (eraseF d T) := by
  intro d
  induction d with
  | zero => intro f T at_ h; exact h.elim
  | succ d ih =>
    intro f T at_ h hf
    obtain ⟨f, rfl⟩ : ∃ g, f = g + 1 := ⟨f - 1, by omega⟩
    obtain ⟨t, xs⟩ := T
    obtain ⟨_, _, _, hx⟩ := h
    have e : flatA (flatT f) (at_ + 1) (xs.map (eraseF f)) = flatA (flatT d) (at_ + 1) (xs.map (eraseF d)) := by
      refine flatA_congr (by simp) (fun i a b h1 h2 n => ?_)
      rw [List.getElem?_map] at h1 h2
      obtain ⟨x, hx1, rfl⟩ := Option.map_eq_some_iff.1 h1
      rw [hx1] at h2
      injection h2 with h2
      rw [← h2]
      exact ih f (hx x (List.mem_of_getElem? hx1)) (by omega)
    simp only [eraseF, flatT]
    rw [e]
theorem erase_mono : ∀ d f {T}, GoodT d T → d ≤ f → eraseF f T = eraseF d T := by
  intro d
  induction d with
  | zero => intro f T h; exact h.elim
  | succ d ih =>
    intro f T h hf
    obtain ⟨f, rfl⟩ : ∃ g, f = g + 1 := ⟨f - 1, by omega⟩
    obtain ⟨t, xs⟩ := T
    obtain ⟨_, _, _, hx⟩ := h
    simp only [eraseF]
    congr 1
    apply List.map_congr_left
    intro x hm
    exact ih f (hx x hm) (by omega)
end Go.Proofs.YtgbhaaongmlpkaaGreatDoor

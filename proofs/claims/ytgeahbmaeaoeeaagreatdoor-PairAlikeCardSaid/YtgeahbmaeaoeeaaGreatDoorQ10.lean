/- A region that draws its order, and whose last operation waits for all others: it is walked without that one first. The reference's sum: a block. The reference's sum: a block. Contracts: numbers of sums, the square of a text, an element, the bytes of a number. -/
import Derived.Test.YtgeahbmaeaoeeaaGreatDoorQ01
import Derived.Deep.RegionHeld3
import Derived.Test.YtgeahbmaeaoeeaaGreatDoorQ09
import Derived.BigRegion
import Derived.Test.YtgeahbmaeaoeeaaGreatDoorQ04
import Derived.Lib.ConvBytes
set_option linter.unusedVariables false
set_option linter.unusedSimpArgs false
namespace Go.Proofs.YtgeahbmaeaoeeaaGreatDoor

section
variable {P : Program} {Q : Exit → Act → World → Prop}
/-- The region without its last operation: behind it that one comes up. -/
def LastQ (P : Program) (ops : Array Oper) (n : Nat) (Q : Exit → Act → World → Prop) : Exit → Act → World → Prop
  | .normal, a, w => wpOp P ops Q n (Q .normal) a w
  | e, a, w => Q e a w
theorem Oper.wp_lastQ {ops : Array Oper} {n : Nat} {o : Oper} {a : Act} {w : World} {K : Act → World → Prop} (h : o.wp P a w K (LastQ P ops n Q)) : o.wp P a w K Q := by
  unfold Oper.wp at *
  generalize (execOp a.eval o).run P w = r at *
  cases r with
  | ok m w' =>
    cases m <;> simp only [Oper.upon] at h ⊢ <;>
      first
        | exact h
        | exact Calls.mono h (fun e w'' he => by cases e <;> exact he)
  | halt x w' => cases x <;> simp only [Oper.upon] at h ⊢ <;> exact h
/-- What is asked of the operations: each waits for earlier ones alone, and the last one for all. -/
def lastB (l : List Oper) (o : Oper) : Bool :=
  (l.zipIdx.all fun (x, i) => x.after.all fun e => !Region.binds .any e || decide (e.on < i)) &&
  (o.after.all fun e => !Region.binds .any e || decide (e.on < l.length)) &&
  ((List.range l.length).all fun j => o.after.any fun e => Region.binds .any e && e.on == j) &&
  (l.all fun x => match x.guard with | none => true | some (j, _) => decide (j < l.length))
variable {l : List Oper} {o : Oper}
theorem last_get {i : Nat} (h : i < l.length) : ((l ++ [o]).toArray)[i]? = l.toArray[i]? := by
  simp [List.getElem?_append_left h]
theorem last_get_n : ((l ++ [o]).toArray)[l.length]? = some o := by simp
structure LastOk (l : List Oper) (o : Oper) : Prop where
  lt : ∀ i x, l[i]? = some x → ∀ e ∈ x.after, Region.binds .any e = true → e.on < i
  on : ∀ e ∈ o.after, Region.binds .any e = true → e.on < l.length
  all : ∀ j, j < l.length → ∃ e ∈ o.after, Region.binds .any e = true ∧ e.on = j
  guard : ∀ x ∈ l, ∀ j b, x.guard = some (j, b) → j < l.length
theorem lastB_spec (h : lastB l o = true) : LastOk l o := by
  unfold lastB at h
  simp only [Bool.and_eq_true] at h
  obtain ⟨⟨⟨h1, h2⟩, h3⟩, h4⟩ := h
  refine ⟨fun i x hx e he hb => ?_, fun e he hb => ?_, fun j hj => ?_, fun x hx j b hg => ?_⟩
  · rw [List.all_eq_true] at h1
    have hm : (x, i) ∈ l.zipIdx := by
      rw [List.mem_zipIdx_iff_getElem?]; exact hx
    have := h1 _ hm
    simp only [Array.all_eq_true'] at this
    have := this e he
    simpa [hb] using this
  · rw [Array.all_eq_true'] at h2
    have := h2 e he
    simpa [hb] using this
  · rw [List.all_eq_true] at h3
    have := h3 j (List.mem_range.2 hj)
    rw [Array.any_eq_true'] at this
    obtain ⟨e, he, hb⟩ := this
    simp only [Bool.and_eq_true, beq_iff_eq] at hb
    exact ⟨e, he, hb.1, hb.2⟩
  · rw [List.all_eq_true] at h4
    have := h4 x hx
    rw [hg] at this
    simpa using this
/-- The same marks on the first ones; the last one not yet. -/
def Fits (n : Nat) (A B : Array Bool) : Prop := (∀ j, j < n → A.getD j true = B.getD j true ∧ A.getD j false = B.getD j false) ∧ A.size = n + 1 ∧ B.size = n
theorem getD_two {A : Array Bool} {j : Nat} (h : j < A.size) : A.getD j true = A.getD j false := by simp [h]
theorem Fits.set {n i : Nat} {A B : Array Bool} (h : Fits n A B) (hi : i < n) : Fits n (A.setIfInBounds i true) (B.setIfInBounds i true) := by
  refine ⟨fun j hj => ?_, by simp [h.2.1], by simp [h.2.2]⟩
  by_cases e : i = j
  · subst e
    simp [Array.getElem?_setIfInBounds, h.2.1, h.2.2, hj, show i < n + 1 by omega]
  · rw [getD_set_ne true e, getD_set_ne true e, getD_set_ne false e, getD_set_ne false e]; exact h.1 j hj
theorem ready_lt {A B : Array Bool} (ok : LastOk l o) (hf : Fits l.length A B) {i : Nat} (hi : i < l.length) :
    i ∈ Region.ready .any (l ++ [o]).toArray A ↔ i ∈ Region.ready .any l.toArray B := by
  rw [mem_ready, mem_ready, (hf.1 i hi).1, last_get hi]
  refine and_congr Iff.rfl ⟨fun ⟨x, hx, h⟩ => ⟨x, hx, fun e he hb => ?_⟩, fun ⟨x, hx, h⟩ => ⟨x, hx, fun e he hb => ?_⟩⟩
  · have hx' : l[i]? = some x := by simpa using hx
    have hlt := ok.lt i x hx' e he hb
    rw [← (hf.1 e.on (by omega)).2]; exact h e he hb
  · have hx' : l[i]? = some x := by simpa using hx
    have hlt := ok.lt i x hx' e he hb
    rw [(hf.1 e.on (by omega)).2]; exact h e he hb
/-- Nothing more may come up: all have. -/
theorem all_listed {B : Array Bool} (ok : LastOk l o) (hB : B.size = l.length) (h : Region.ready .any l.toArray B = []) : ∀ j, j < l.length → B.getD j false = true := by
  intro j
  induction j using Nat.strongRecOn with
  | _ j ih =>
    intro hj
    cases hb : B.getD j false with
    | true => rfl
    | false =>
      exfalso
      have : j ∈ Region.ready .any l.toArray B := by
        rw [mem_ready]
        refine ⟨by rw [getD_two (by omega)]; exact hb, l[j], by simp [hj], fun e he hbd => ?_⟩
        have := ok.lt j l[j] (List.getElem?_eq_getElem hj) e he hbd
        exact ih e.on this (by omega)
      rw [h] at this; cases this
theorem ready_done {A : Array Bool} {n : Nat} (hn : n = l.length) (hA : A.size = n + 1) (h : ∀ j, j < n + 1 → A.getD j false = true) : Region.ready .any (l ++ [o]).toArray A = [] := by
  apply List.eq_nil_iff_forall_not_mem.2
  intro i hi
  rw [mem_ready] at hi
  obtain ⟨h0, x, hx, _⟩ := hi
  have hil : i < n + 1 := by
    have := (Array.getElem?_eq_some_iff.1 hx).1
    simp at this; omega
  have := h i hil
  rw [← getD_two (by omega), h0] at this
  cases this
theorem wpAny_done' {A : Array Bool} {ops : Array Oper} (hr : Region.ready .any ops A = []) {a : Act} {w : World} (h : Q .normal a w) : ∀ fuel, wpAny P .any ops Q fuel A a w
  | 0 => ⟨hr, h⟩
  | _ + 1 => ⟨fun _ => h, by rw [hr]; simp⟩
theorem wpAny_end {A B : Array Bool} (ok : LastOk l o) (hf : Fits l.length A B) (hn : A.getD l.length true = false) (h0 : Region.ready .any l.toArray B = []) {a : Act} {w : World}
    (h : wpOp P (l ++ [o]).toArray Q l.length (Q .normal) a w) (fuel : Nat) : wpAny P .any (l ++ [o]).toArray Q (fuel + 1) A a w := by
  have hall := all_listed ok hf.2.2 h0
  have hA : ∀ j, j < l.length → A.getD j false = true := fun j hj => by rw [(hf.1 j hj).2]; exact hall j hj
  have hnr : l.length ∈ Region.ready .any (l ++ [o]).toArray A := by
    rw [mem_ready]
    exact ⟨hn, o, last_get_n, fun e he hb => hA e.on (ok.on e he hb)⟩
  refine ⟨fun h => (by rw [h] at hnr; cases hnr), fun i hi => ?_⟩
  have hin : i = l.length := by
    rcases Nat.lt_or_ge i l.length with hlt | hge
    · have := (ready_lt ok hf hlt).1 hi
      rw [h0] at this; cases this
    · obtain ⟨_, x, hx, _⟩ := mem_ready.1 hi
      have := (Array.getElem?_eq_some_iff.1 hx).1
      simp at this; omega
  subst hin
  refine wpOp_mono (fun a' w' hq => wpAny_done' (ready_done (n := l.length) rfl (by simp [hf.2.1]) (fun j hj => ?_)) hq fuel) h
  by_cases e : l.length = j
  · subst e; simp [Array.getElem?_setIfInBounds, hf.2.1]
  · rw [getD_set_ne false e]; exact hA j (by omega)
theorem wpAny_last (ok : LastOk l o) : ∀ (fuel : Nat) (A B : Array Bool) (a : Act) (w : World), Fits l.length A B → A.getD l.length true = false →
    wpAny P .any l.toArray (LastQ P (l ++ [o]).toArray l.length Q) fuel B a w → wpAny P .any (l ++ [o]).toArray Q (fuel + 1) A a w := by
  intro fuel
  induction fuel with
  | zero =>
    intro A B a w hf hn h
    exact wpAny_end ok hf hn h.1 h.2 0
  | succ fuel ih =>
    intro A B a w hf hn h
    by_cases h0 : Region.ready .any l.toArray B = []
    · exact wpAny_end ok hf hn h0 (h.1 h0) (fuel + 1)
    · refine ⟨fun hr => ?_, fun i hi => ?_⟩
      · exfalso
        obtain ⟨i, hi⟩ := List.exists_mem_of_ne_nil _ h0
        have hil : i < l.length := by
          obtain ⟨_, x, hx, _⟩ := mem_ready.1 hi
          simpa using (Array.getElem?_eq_some_iff.1 hx).1
        have := (ready_lt ok hf hil).2 hi
        rw [hr] at this; cases this
      · rcases Nat.lt_or_ge i l.length with hlt | hge
        · have h2 := h.2 i ((ready_lt ok hf hlt).1 hi)
          have h3 : wpOp P (l ++ [o]).toArray Q i (wpAny P .any l.toArray (LastQ P (l ++ [o]).toArray l.length Q) fuel (B.setIfInBounds i true)) a w := by
            have hlt' : i < l.toArray.size := by simpa using hlt
            unfold wpOp at h2 ⊢
            rw [last_get hlt]
            have hg : l.toArray[i]? = some l[i] := by simp [hlt]
            rw [hg] at h2 ⊢
            dsimp only at h2 ⊢
            have hy : ∀ g, Region.wanted l[i] (yielded (l ++ [o]).toArray g) = Region.wanted l[i] (yielded l.toArray g) := fun g => by
              unfold Region.wanted
              cases hgd : l[i].guard with
              | none => rfl
              | some jb =>
                obtain ⟨j, b⟩ := jb
                have := ok.guard l[i] (List.getElem_mem hlt) j b hgd
                dsimp only
                unfold yielded
                rw [last_get this]
            rw [hy]
            split
            · rename_i hw
              rw [if_pos hw] at h2
              rcases h2 with h2 | ⟨h2, h4⟩
              · exact .inl (Oper.wp_lastQ h2)
              · exact .inr ⟨h2, h4⟩
            · rename_i hw
              rw [if_neg hw] at h2
              exact h2
          refine wpOp_mono (fun a' w' hk => ih _ _ _ _ (hf.set hlt) (by rw [getD_set_ne true (by omega)]; exact hn) hk) h3
        · exfalso
          have hin : i = l.length := by
            obtain ⟨_, x, hx, _⟩ := mem_ready.1 hi
            have := (Array.getElem?_eq_some_iff.1 hx).1
            simp at this; omega
          subst hin
          obtain ⟨_, x, hx, hall⟩ := mem_ready.1 hi
          rw [last_get_n] at hx
          injection hx with hx; subst hx
          have : Region.ready .any l.toArray B = [] := by
            apply List.eq_nil_iff_forall_not_mem.2
            intro j hj
            obtain ⟨h5, y, hy, _⟩ := mem_ready.1 hj
            have hjl : j < l.length := by simpa using (Array.getElem?_eq_some_iff.1 hy).1
            obtain ⟨e, he, hb, rfl⟩ := ok.all j hjl
            have := hall e he hb
            rw [(hf.1 e.on hjl).2, ← getD_two (by rw [hf.2.2]; exact hjl), h5] at this
            cases this
          exact h0 this
/-- **A REGION THAT DRAWS ITS ORDER, ITS LAST OPERATION WAITING FOR ALL OTHERS.** -/
theorem wp_region_last {id : Nat} {a : Act} {w : World} (hm : P.follows .mixedOrders = true) (hB : lastB l o = true)
    (h : wpAny P .any l.toArray (LastQ P (l ++ [o]).toArray l.length Q) l.length (Array.replicate l.length false) a w.drew) : (Code.region id (l ++ [o]).toArray true).wp P Q a w := by
  refine wp_region_any hm ?_
  have e : (l ++ [o]).toArray.size = l.length + 1 := by simp
  rw [e]
  refine wpAny_last (lastB_spec hB) l.length _ _ a _ ⟨fun j hj => ?_, by simp, by simp⟩ (by simp) h
  simp [hj, show j < l.length + 1 by omega]
/-- The same, walked under a condition on the world that the last operation may break. -/
theorem wp_region_last_held {id : Nat} {a : Act} {w : World} (S : World → Prop) (hm : P.follows .mixedOrders = true) (hB : lastB l o = true) (hS : S w.drew)
    (h : S w.drew → wpAnyH P .any l.toArray (LastQ P (l ++ [o]).toArray l.length Q) S l.length (Array.replicate l.length false) a w.drew) : (Code.region id (l ++ [o]).toArray true).wp P Q a w :=
  wp_region_last hm hB (wpAny_of_held _ _ _ _ (h hS))
/-- As the walk meets it: the operations written out. -/
theorem wp_region_last_lit {id : Nat} {a : Act} {w : World} (L : List Oper) (o : Oper) (S : World → Prop) (hm : P.follows .mixedOrders = true) (hL : L.dropLast ++ [o] = L) (hB : lastB L.dropLast o = true) (hS : S w.drew)
    (h : S w.drew → wpAnyH P .any L.dropLast.toArray (LastQ P L.toArray L.dropLast.length Q) S L.dropLast.length (Array.replicate L.dropLast.length false) a w.drew) : (Code.region id L.toArray true).wp P Q a w := by
  have := wp_region_last_held (P := P) (Q := Q) (l := L.dropLast) (o := o) (id := id) (a := a) (w := w) S hm hB hS (by rw [hL]; exact h)
  rwa [hL] at this
theorem wpOp_step {ops : Array Oper} {i : Nat} {o : Oper} {K : Act → World → Prop} {a : Act} {w : World} (ho : ops[i]? = some o) (hg : o.guard = none) (h : o.wp P a w K Q) : wpOp P ops Q i K a w := by
  unfold wpOp
  rw [ho]
  dsimp only
  rw [if_pos (by simp [Region.wanted, hg])]
  exact .inl h
theorem lastQ_step {ops : Array Oper} {n : Nat} {o : Oper} {a : Act} {w : World} (ho : ops[n]? = some o) (hg : o.guard = none) (h : o.wp P a w (Q .normal) Q) : LastQ P ops n Q .normal a w := wpOp_step ho hg h
end
end Go.Proofs.YtgeahbmaeaoeeaaGreatDoor
namespace Go.Proofs.YtgeahbmaeaoeeaaGreatDoor
open Go.RowKit Num

theorem or_comm32 (a b : Int) : bits .or .u32 a b = bits .or .u32 b a := by
  show IntKind.u32.wrap ((BitVec.ofInt 32 a ||| BitVec.ofInt 32 b).toNat : Int) = IntKind.u32.wrap ((BitVec.ofInt 32 b ||| BitVec.ofInt 32 a).toNat : Int)
  rw [BitVec.or_comm]

end Go.Proofs.YtgeahbmaeaoeeaaGreatDoor
namespace Go.Proofs.YtgeahbmaeaoeeaaGreatDoor
open Go.RowKit Num

theorem allocK_arr (w : World) (K : Nat → Int) (n : Nat) (KC : Array Value) (h : ∀ i, i < n → KC[i]? = some (.int .u32 (K i))) (T : TypeId) : Arr (w.alloc (.cells KC T)) w.heap.size n K := by
  refine ⟨fun i hi => ?_, fun i hi => World.frozen?_alloc_new _ _ _ _⟩
  rw [World.cell?_alloc_new]
  exact h i hi
theorem alloc0_arr (w : World) (n : Nat) (T : TypeId) : Arr (w.alloc (.cells (Array.replicate n (.int .u32 0)) T)) w.heap.size n (fun _ => 0) :=
  allocK_arr w _ n _ (fun i hi => by rw [Array.getElem?_eq_getElem (by simp; exact hi)]; simp) T

theorem Arr.at {w : World} {B C n : Nat} {f : Nat → Int} (h : Arr w B n f) (e : B = C) : Arr w C n f := e ▸ h

/-- What was reckoned and the old state, added place by place, so many of them. -/
def finR (v r : Nat → Int) (t : Nat) : Nat → Int := fun i => if i < t then (v i + r i) % 4294967296 else r i
theorem finR_8 (v r : Nat → Int) (i : Nat) (h : i < 8) : finR v r 8 i = fin v r 8 i := by unfold finR fin; rw [if_pos h, if_pos h]

end Go.Proofs.YtgeahbmaeaoeeaaGreatDoor
namespace Go.Proofs.YtgeahbmaeaoeeaaGreatDoor
open Go.RowKit Num

/-- The number of the first bytes of a string. -/
def numB (s : ByteArray) : Nat → Int
  | 0 => 0
  | k + 1 => numB s k * 256 + byteAt s k
theorem numB_bd (s : ByteArray) : ∀ k, 0 ≤ numB s k ∧ numB s k < ((256 ^ k : Nat) : Int) := by
  intro k
  induction k with
  | zero => exact ⟨by simp [numB], by simp [numB]⟩
  | succ k ih =>
    have := byteAt_bd s k
    show 0 ≤ numB s k * 256 + byteAt s k ∧ numB s k * 256 + byteAt s k < _
    have e : ((256 ^ (k + 1) : Nat) : Int) = ((256 ^ k : Nat) : Int) * 256 := by rw [Nat.pow_succ]; exact Int.natCast_mul _ _
    omega
theorem numB_le (s : ByteArray) (k : Nat) (h : k ≤ 7) : numB s k < 72057594037927936 := by
  have := (numB_bd s k).2
  have : (256 ^ k : Nat) ≤ 256 ^ 7 := Nat.pow_le_pow_right (by decide) h
  have e : (256 : Nat) ^ 7 = 72057594037927936 := by decide
  omega
theorem numB_le6 (s : ByteArray) (k : Nat) (h : k < 7) : numB s k < 281474976710656 := by
  have := (numB_bd s k).2
  have : (256 ^ k : Nat) ≤ 256 ^ 6 := Nat.pow_le_pow_right (by decide) (by omega)
  have e : (256 : Nat) ^ 6 = 281474976710656 := by decide
  omega
theorem ofInt_i64 (a : Nat) (ha : a < 9223372036854775808) : (BitVec.ofInt 64 (a : Int)).toNat = a := by
  rw [BitVec.ofInt_natCast, BitVec.toNat_ofNat]; exact Nat.mod_eq_of_lt (by omega)
theorem i64_or_nat (a b : Nat) (ha : a < 9223372036854775808) (hb : b < 9223372036854775808) : bits .or .i64 (a : Int) (b : Int) = ((a ||| b : Nat) : Int) := by
  have hx : a ||| b < 2 ^ 63 := Nat.or_lt_two_pow (by omega) (by omega)
  show IntKind.i64.wrap ((BitVec.ofInt 64 (a : Int) ||| BitVec.ofInt 64 (b : Int)).toNat : Int) = _
  rw [BitVec.toNat_or, ofInt_i64 a ha, ofInt_i64 b hb, IntKind.wrap_i64]
  omega
theorem or_byte (a b : Int) (ha : 0 ≤ a) (ha' : a < 281474976710656) (hb : 0 ≤ b) (hb' : b < 256) : bits .or .i64 (a * 256) b = a * 256 + b := by
  obtain ⟨x, rfl⟩ := Int.eq_ofNat_of_zero_le ha
  obtain ⟨y, rfl⟩ := Int.eq_ofNat_of_zero_le hb
  have e : (x : Int) * 256 = ((x * 256 : Nat) : Int) := (Int.natCast_mul x 256).symm
  rw [e, i64_or_nat _ _ (by omega) (by omega)]
  have h1 := Nat.shiftLeft_add_eq_or_of_lt (show y < 2 ^ 8 by omega) x
  rw [Nat.shiftLeft_eq] at h1
  rw [← h1]; simp
end Go.Proofs.YtgeahbmaeaoeeaaGreatDoor

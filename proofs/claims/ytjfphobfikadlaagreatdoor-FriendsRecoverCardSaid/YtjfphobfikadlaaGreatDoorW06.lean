/- A region that draws its order, and whose last operation waits for all others: it is walked without that one first. A region that draws its order, in a round of a range over a function: it is walked as a plain one, its last operation last. Contracts: a polynomial's value and its degree. Contracts: a polynomial's degree, a copy of a slice, a short polynomial. Values in a row of cells. -/
import Derived.Test.YtjfphobfikadlaaGreatDoorW01
import Derived.Deep.RegionHeld3
import Derived.OrdersIn
import Derived.TacticsIn
import Derived.RangeFuncCalls
import Derived.Test.YtjfphobfikadlaaGreatDoorW05
import Derived.Test.YtjfphobfikadlaaGreatDoorW02
set_option linter.unusedVariables false
set_option linter.unusedSimpArgs false
namespace Go.Proofs.YtjfphobfikadlaaGreatDoor

section
variable {P : Program} {Q : Exit → Act → World → Prop}
/-- The region without its last operation: behind it that one comes up. -/
def LastQ (P : Program) (ops : Array Oper) (n : Nat) (Q : Exit → Act → World → Prop) : Exit → Act → World → Prop
  | .normal, a, w => wpOp P ops Q n (Q .normal) a w
  | e, a, w => Q e a w
theorem Oper.wp_lastQ {ops : Array Oper} {n : Nat} {o : Oper} {a : Act} {w : World} {K : Act → World → Prop} (h : o.wp P a w K (LastQ P ops n Q)) : o.wp P a w K Q := by
  unfold Oper.wp at *
  generalize (execOp a.eval o).run P w = r at *
  cases r with
  | ok m w' =>
    cases m <;> simp only [Oper.upon] at h ⊢ <;>
      first
        | exact h
        | exact Calls.mono h (fun e w'' he => by cases e <;> exact he)
  | halt x w' => cases x <;> simp only [Oper.upon] at h ⊢ <;> exact h
/-- What is asked of the operations: each waits for earlier ones alone, and the last one for all. -/
def lastB (l : List Oper) (o : Oper) : Bool :=
  (l.zipIdx.all fun (x, i) => x.after.all fun e => !Region.binds .any e || decide (e.on < i)) &&
  (o.after.all fun e => !Region.binds .any e || decide (e.on < l.length)) &&
  ((List.range l.length).all fun j => o.after.any fun e => Region.binds .any e && e.on == j) &&
  (l.all fun x => match x.guard with | none => true | some (j, _) => decide (j < l.length))
variable {l : List Oper} {o : Oper}
theorem last_get {i : Nat} (h : i < l.length) : ((l ++ [o]).toArray)[i]? = l.toArray[i]? := by
  simp [List.getElem?_append_left h]
theorem last_get_n : ((l ++ [o]).toArray)[l.length]? = some o := by simp
structure LastOk (l : List Oper) (o : Oper) : Prop where
  lt : ∀ i x, l[i]? = some x → ∀ e ∈ x.after, Region.binds .any e = true → e.on < i
  on : ∀ e ∈ o.after, Region.binds .any e = true → e.on < l.length
  all : ∀ j, j < l.length → ∃ e ∈ o.after, Region.binds .any e = true ∧ e.on = j
  guard : ∀ x ∈ l, ∀ j b, x.guard = some (j, b) → j < l.length
theorem lastB_spec (h : lastB l o = true) : LastOk l o := by
  unfold lastB at h
  simp only [Bool.and_eq_true] at h
  obtain ⟨⟨⟨h1, h2⟩, h3⟩, h4⟩ := h
  refine ⟨fun i x hx e he hb => ?_, fun e he hb => ?_, fun j hj => ?_, fun x hx j b hg => ?_⟩
  · rw [List.all_eq_true] at h1
    have hm : (x, i) ∈ l.zipIdx := by
      rw [List.mem_zipIdx_iff_getElem?]; exact hx
    have := h1 _ hm
    simp only [Array.all_eq_true'] at this
    have := this e he
    simpa [hb] using this
  · rw [Array.all_eq_true'] at h2
    have := h2 e he
    simpa [hb] using this
  · rw [List.all_eq_true] at h3
    have := h3 j (List.mem_range.2 hj)
    rw [Array.any_eq_true'] at this
    obtain ⟨e, he, hb⟩ := this
    simp only [Bool.and_eq_true, beq_iff_eq] at hb
    exact ⟨e, he, hb.1, hb.2⟩
  · rw [List.all_eq_true] at h4
    have := h4 x hx
    rw [hg] at this
    simpa using this
/-- The same marks on the first ones; the last one not yet. -/
def Fits (n : Nat) (A B : Array Bool) : Prop := (∀ j, j < n → A.getD j true = B.getD j true ∧ A.getD j false = B.getD j false) ∧ A.size = n + 1 ∧ B.size = n
theorem getD_two {A : Array Bool} {j : Nat} (h : j < A.size) : A.getD j true = A.getD j false := by simp [h]
theorem Fits.set {n i : Nat} {A B : Array Bool} (h : Fits n A B) (hi : i < n) : Fits n (A.setIfInBounds i true) (B.setIfInBounds i true) := by
  refine ⟨fun j hj => ?_, by simp [h.2.1], by simp [h.2.2]⟩
  by_cases e : i = j
  · subst e
    simp [Array.getElem?_setIfInBounds, h.2.1, h.2.2, hj, show i < n + 1 by omega]
  · rw [getD_set_ne true e, getD_set_ne true e, getD_set_ne false e, getD_set_ne false e]; exact h.1 j hj
theorem ready_lt {A B : Array Bool} (ok : LastOk l o) (hf : Fits l.length A B) {i : Nat} (hi : i < l.length) :
    i ∈ Region.ready .any (l ++ [o]).toArray A ↔ i ∈ Region.ready .any l.toArray B := by
  rw [mem_ready, mem_ready, (hf.1 i hi).1, last_get hi]
  refine and_congr Iff.rfl ⟨fun ⟨x, hx, h⟩ => ⟨x, hx, fun e he hb => ?_⟩, fun ⟨x, hx, h⟩ => ⟨x, hx, fun e he hb => ?_⟩⟩
  · have hx' : l[i]? = some x := by simpa using hx
    have hlt := ok.lt i x hx' e he hb
    rw [← (hf.1 e.on (by omega)).2]; exact h e he hb
  · have hx' : l[i]? = some x := by simpa using hx
    have hlt := ok.lt i x hx' e he hb
    rw [(hf.1 e.on (by omega)).2]; exact h e he hb
/-- Nothing more may come up: all have. -/
theorem all_listed {B : Array Bool} (ok : LastOk l o) (hB : B.size = l.length) (h : Region.ready .any l.toArray B = []) : ∀ j, j < l.length → B.getD j false = true := by
  intro j
  induction j using Nat.strongRecOn with
  | _ j ih =>
    intro hj
    cases hb : B.getD j false with
    | true => rfl
    | false =>
      exfalso
      have : j ∈ Region.ready .any l.toArray B := by
        rw [mem_ready]
        refine ⟨by rw [getD_two (by omega)]; exact hb, l[j], by simp [hj], fun e he hbd => ?_⟩
        have := ok.lt j l[j] (List.getElem?_eq_getElem hj) e he hbd
        exact ih e.on this (by omega)
      rw [h] at this; cases this
theorem ready_done {A : Array Bool} {n : Nat} (hn : n = l.length) (hA : A.size = n + 1) (h : ∀ j, j < n + 1 → A.getD j false = true) : Region.ready .any (l ++ [o]).toArray A = [] := by
  apply List.eq_nil_iff_forall_not_mem.2
  intro i hi
  rw [mem_ready] at hi
  obtain ⟨h0, x, hx, _⟩ := hi
  have hil : i < n + 1 := by
    have := (Array.getElem?_eq_some_iff.1 hx).1
    simp at this; omega
  have := h i hil
  rw [← getD_two (by omega), h0] at this
  cases this
theorem wpAny_done' {A : Array Bool} {ops : Array Oper} (hr : Region.ready .any ops A = []) {a : Act} {w : World} (h : Q .normal a w) : ∀ fuel, wpAny P .any ops Q fuel A a w
  | 0 => ⟨hr, h⟩
  | _ + 1 => ⟨fun _ => h, by rw [hr]; simp⟩
theorem wpAny_end {A B : Array Bool} (ok : LastOk l o) (hf : Fits l.length A B) (hn : A.getD l.length true = false) (h0 : Region.ready .any l.toArray B = []) {a : Act} {w : World}
    (h : wpOp P (l ++ [o]).toArray Q l.length (Q .normal) a w) (fuel : Nat) : wpAny P .any (l ++ [o]).toArray Q (fuel + 1) A a w := by
  have hall := all_listed ok hf.2.2 h0
  have hA : ∀ j, j < l.length → A.getD j false = true := fun j hj => by rw [(hf.1 j hj).2]; exact hall j hj
  have hnr : l.length ∈ Region.ready .any (l ++ [o]).toArray A := by
    rw [mem_ready]
    exact ⟨hn, o, last_get_n, fun e he hb => hA e.on (ok.on e he hb)⟩
  refine ⟨fun h => (by rw [h] at hnr; cases hnr), fun i hi => ?_⟩
  have hin : i = l.length := by
    rcases Nat.lt_or_ge i l.length with hlt | hge
    · have := (ready_lt ok hf hlt).1 hi
      rw [h0] at this; cases this
    · obtain ⟨_, x, hx, _⟩ := mem_ready.1 hi
      have := (Array.getElem?_eq_some_iff.1 hx).1
      simp at this; omega
  subst hin
  refine wpOp_mono (fun a' w' hq => wpAny_done' (ready_done (n := l.length) rfl (by simp [hf.2.1]) (fun j hj => ?_)) hq fuel) h
  by_cases e : l.length = j
  · subst e; simp [Array.getElem?_setIfInBounds, hf.2.1]
  · rw [getD_set_ne false e]; exact hA j (by omega)
theorem wpAny_last (ok : LastOk l o) : ∀ (fuel : Nat) (A B : Array Bool) (a : Act) (w : World), Fits l.length A B → A.getD l.length true = false →
    wpAny P .any l.toArray (LastQ P (l ++ [o]).toArray l.length Q) fuel B a w → wpAny P .any (l ++ [o]).toArray Q (fuel + 1) A a w := by
  intro fuel
  induction fuel with
  | zero =>
    intro A B a w hf hn h
    exact wpAny_end ok hf hn h.1 h.2 0
  | succ fuel ih =>
    intro A B a w hf hn h
    by_cases h0 : Region.ready .any l.toArray B = []
    · exact wpAny_end ok hf hn h0 (h.1 h0) (fuel + 1)
    · refine ⟨fun hr => ?_, fun i hi => ?_⟩
      · exfalso
        obtain ⟨i, hi⟩ := List.exists_mem_of_ne_nil _ h0
        have hil : i < l.length := by
          obtain ⟨_, x, hx, _⟩ := mem_ready.1 hi
          simpa using (Array.getElem?_eq_some_iff.1 hx).1
        have := (ready_lt ok hf hil).2 hi
        rw [hr] at this; cases this
      · rcases Nat.lt_or_ge i l.length with hlt | hge
        · have h2 := h.2 i ((ready_lt ok hf hlt).1 hi)
          have h3 : wpOp P (l ++ [o]).toArray Q i (wpAny P .any l.toArray (LastQ P (l ++ [o]).toArray l.length Q) fuel (B.setIfInBounds i true)) a w := by
            have hlt' : i < l.toArray.size := by simpa using hlt
            unfold wpOp at h2 ⊢
            rw [last_get hlt]
            have hg : l.toArray[i]? = some l[i] := by simp [hlt]
            rw [hg] at h2 ⊢
            dsimp only at h2 ⊢
            have hy : ∀ g, Region.wanted l[i] (yielded (l ++ [o]).toArray g) = Region.wanted l[i] (yielded l.toArray g) := fun g => by
              unfold Region.wanted
              cases hgd : l[i].guard with
              | none => rfl
              | some jb =>
                obtain ⟨j, b⟩ := jb
                have := ok.guard l[i] (List.getElem_mem hlt) j b hgd
                dsimp only
                unfold yielded
                rw [last_get this]
            rw [hy]
            split
            · rename_i hw
              rw [if_pos hw] at h2
              rcases h2 with h2 | ⟨h2, h4⟩
              · exact .inl (Oper.wp_lastQ h2)
              · exact .inr ⟨h2, h4⟩
            · rename_i hw
              rw [if_neg hw] at h2
              exact h2
          refine wpOp_mono (fun a' w' hk => ih _ _ _ _ (hf.set hlt) (by rw [getD_set_ne true (by omega)]; exact hn) hk) h3
        · exfalso
          have hin : i = l.length := by
            obtain ⟨_, x, hx, _⟩ := mem_ready.1 hi
            have := (Array.getElem?_eq_some_iff.1 hx).1
            simp at this; omega
          subst hin
          obtain ⟨_, x, hx, hall⟩ := mem_ready.1 hi
          rw [last_get_n] at hx
          injection hx with hx; subst hx
          have : Region.ready .any l.toArray B = [] := by
            apply List.eq_nil_iff_forall_not_mem.2
            intro j hj
            obtain ⟨h5, y, hy, _⟩ := mem_ready.1 hj
            have hjl : j < l.length := by simpa using (Array.getElem?_eq_some_iff.1 hy).1
            obtain ⟨e, he, hb, rfl⟩ := ok.all j hjl
            have := hall e he hb
            rw [(hf.1 e.on hjl).2, ← getD_two (by rw [hf.2.2]; exact hjl), h5] at this
            cases this
          exact h0 this
/-- **A REGION THAT DRAWS ITS ORDER, ITS LAST OPERATION WAITING FOR ALL OTHERS.** -/
theorem wp_region_last {id : Nat} {a : Act} {w : World} (hm : P.follows .mixedOrders = true) (hB : lastB l o = true)
    (h : wpAny P .any l.toArray (LastQ P (l ++ [o]).toArray l.length Q) l.length (Array.replicate l.length false) a w.drew) : (Code.region id (l ++ [o]).toArray true).wp P Q a w := by
  refine wp_region_any hm ?_
  have e : (l ++ [o]).toArray.size = l.length + 1 := by simp
  rw [e]
  refine wpAny_last (lastB_spec hB) l.length _ _ a _ ⟨fun j hj => ?_, by simp, by simp⟩ (by simp) h
  simp [hj, show j < l.length + 1 by omega]
/-- The same, walked under a condition on the world that the last operation may break. -/
theorem wp_region_last_held {id : Nat} {a : Act} {w : World} (S : World → Prop) (hm : P.follows .mixedOrders = true) (hB : lastB l o = true) (hS : S w.drew)
    (h : S w.drew → wpAnyH P .any l.toArray (LastQ P (l ++ [o]).toArray l.length Q) S l.length (Array.replicate l.length false) a w.drew) : (Code.region id (l ++ [o]).toArray true).wp P Q a w :=
  wp_region_last hm hB (wpAny_of_held _ _ _ _ (h hS))
/-- As the walk meets it: the operations written out. -/
theorem wp_region_last_lit {id : Nat} {a : Act} {w : World} (L : List Oper) (o : Oper) (S : World → Prop) (hm : P.follows .mixedOrders = true) (hL : L.dropLast ++ [o] = L) (hB : lastB L.dropLast o = true) (hS : S w.drew)
    (h : S w.drew → wpAnyH P .any L.dropLast.toArray (LastQ P L.toArray L.dropLast.length Q) S L.dropLast.length (Array.replicate L.dropLast.length false) a w.drew) : (Code.region id L.toArray true).wp P Q a w := by
  have := wp_region_last_held (P := P) (Q := Q) (l := L.dropLast) (o := o) (id := id) (a := a) (w := w) S hm hB hS (by rw [hL]; exact h)
  rwa [hL] at this
theorem wpOp_step {ops : Array Oper} {i : Nat} {o : Oper} {K : Act → World → Prop} {a : Act} {w : World} (ho : ops[i]? = some o) (hg : o.guard = none) (h : o.wp P a w K Q) : wpOp P ops Q i K a w := by
  unfold wpOp
  rw [ho]
  dsimp only
  rw [if_pos (by simp [Region.wanted, hg])]
  exact .inl h
theorem lastQ_step {ops : Array Oper} {n : Nat} {o : Oper} {a : Act} {w : World} (ho : ops[n]? = some o) (hg : o.guard = none) (h : o.wp P a w (Q .normal) Q) : LastQ P ops n Q .normal a w := wpOp_step ho hg h
end
end Go.Proofs.YtjfphobfikadlaaGreatDoor
namespace Go.Proofs.YtjfphobfikadlaaGreatDoor

section
variable {P : Program} {Q : Exit → Act → World → Prop} {md : Region.Mode} {ops : Array Oper}
/-- The normal way out alone. -/
def NoOut (Q : Exit → Act → World → Prop) : Exit → Act → World → Prop
  | .normal, a, w => Q .normal a w
  | _, _, _ => False
theorem noOut_lets : ¬ LetsOut (NoOut Q) := fun ⟨_, _, h⟩ => h
theorem rows_wide {n : Nat} {row : String} {args : Array Value} {w : World} {R : Value → World → Prop} (h : Rows P row args w R) : RowsIn Fence.wide n P row args w R :=
  fun c cs _ => let ⟨v, w', r, s⟩ := h c cs; ⟨v, w', r, stepsIn_wide.2 s⟩
theorem upon_round {l n : Nat} {o : Oper} {a : Act} {K : Act → World → Prop} {r : Result Next} (h : o.upon P a K (NoOut Q) r) : o.uponIn (Fence.wide.inRound l) n P a K Q r := by
  cases r with
  | ok x w' =>
    cases x with
    | value v => exact h
    | skip => exact h
    | defer d => exact h
    | enter f args =>
      refine ⟨fun e => (by cases e), ?_⟩
      refine CallsIn.inRound l ((callsIn_wide.2 h).mono fun e w'' he => ?_)
      cases e with
      | returned v => exact he
      | panicked c => exact he.elim
      | outgrown => exact (noOut_lets he).elim
    | row row args => exact ⟨fun e => (by cases e), rows_wide h⟩
    | _ => exact (h : False).elim
  | halt x w' =>
    cases x <;> exact (h : False).elim
theorem wp_round {l n : Nat} {o : Oper} {a : Act} {w : World} {K : Act → World → Prop} (hd : ∀ c, o.op ≠ .defer c) (h : o.wp P a w K (NoOut Q)) : o.wpIn (Fence.wide.inRound l) n P a w K Q := by
  refine ⟨fun _ _ => trivial, ?_⟩
  rw [show (Fence.wide.inRound l).round = some l from rfl, Oper.semAt_some l _ _ hd]
  exact upon_round h
theorem wpAny_round {l n : Nat} (hd : ∀ (i : Nat) (o : Oper), ops[i]? = some o → ∀ c, o.op ≠ .defer c) : ∀ (fuel : Nat) (listed : Array Bool) (a : Act) (w : World), wpAny P md ops (NoOut Q) fuel listed a w → wpAnyIn (Fence.wide.inRound l) n P md ops Q fuel listed a w := by
  intro fuel
  induction fuel with
  | zero => intro listed a w h; exact ⟨h.1, h.2⟩
  | succ fuel ih =>
    intro listed a w h
    refine ⟨fun e => h.1 e, fun i hi => ?_⟩
    have h2 := h.2 i hi
    unfold wpOp at h2
    unfold wpOpIn
    cases ho : ops[i]? with
    | none => rw [ho] at h2; exact ih _ _ _ h2
    | some o =>
      rw [ho] at h2
      dsimp only at h2 ⊢
      by_cases hw : Region.wanted o (yielded ops a.tmps) = true
      · rw [if_pos hw] at h2 ⊢
        rcases h2 with h2 | ⟨_, h3⟩
        · exact Oper.wpIn_mono (fun a' w' hk => ih _ _ _ hk) (wp_round (hd i o ho) h2)
        · exact (noOut_lets h3).elim
      · rw [if_neg hw] at h2 ⊢
        exact ⟨fun _ _ => trivial, ih _ _ _ h2⟩
def noDeferB (L : List Oper) : Bool := L.all fun o => match o.op with | .defer _ => false | _ => true
theorem noDefer {L : List Oper} (h : noDeferB L = true) (i : Nat) (o : Oper) (ho : L.toArray[i]? = some o) (c : _) : o.op ≠ .defer c := by
  intro e
  have hm : o ∈ L := by
    have : L[i]? = some o := by simpa using ho
    exact List.mem_of_getElem? this
  have := List.all_eq_true.1 h o hm
  rw [e] at this
  cases this
/-- **THE REGION IN A ROUND, ITS LAST OPERATION LAST.** -/
theorem region_round_last {id l n : Nat} {a : Act} {w : World} (L : List Oper) (o : Oper) (S : World → Prop) (hm : P.follows .mixedOrders = true) (hd : noDeferB L = true) (hL : L.dropLast ++ [o] = L) (hB : lastB L.dropLast o = true) (hS : S w.drew)
    (h : S w.drew → wpAnyH P .any L.dropLast.toArray (LastQ P L.toArray L.dropLast.length (NoOut Q)) S L.dropLast.length (Array.replicate L.dropLast.length false) a w.drew) : (Code.region id L.toArray true).wpIn (Fence.wide.inRound l) n P Q a w := by
  refine wpIn_region_any hm (wpAny_round (fun i x hx => noDefer hd i x hx) _ _ _ _ ?_)
  have key0 := wpAny_of_held _ _ _ _ (h hS)
  have hl : L.length = L.dropLast.length + 1 := by have := congrArg List.length hL; rw [List.length_append] at this; exact this.symm
  have key : wpAny P .any (L.dropLast ++ [o]).toArray (NoOut Q) (L.dropLast.length + 1) (Array.replicate (L.dropLast.length + 1) false) a w.drew := by
    have key1 : wpAny P .any L.dropLast.toArray (LastQ P (L.dropLast ++ [o]).toArray L.dropLast.length (NoOut Q)) L.dropLast.length (Array.replicate L.dropLast.length false) a w.drew := by rw [hL]; exact key0
    have hB' := lastB_spec hB
    generalize L.dropLast = l' at *
    exact wpAny_last hB' l'.length _ (Array.replicate l'.length false) a _ ⟨fun j hj => by simp [hj, show j < l'.length + 1 by omega], by simp, by simp⟩ (by simp) key1
  rw [hL] at key
  rw [show L.toArray.size = L.dropLast.length + 1 by rw [List.size_toArray]; exact hl]
  exact key
end
end Go.Proofs.YtjfphobfikadlaaGreatDoor
namespace Go.Proofs.YtjfphobfikadlaaGreatDoor
open Go.RowKit Go.Shelf Num

attribute [local go_sem] Oper.semAt_some

theorem f_AddI (p : Nat) (a b : Int) (w : World) (h1 : 1 ≤ p) (h2 : p ≤ 2147483648) (ha0 : 0 ≤ a) (ha : a < 2147483648) (hb0 : 0 ≤ b) (hb : b < 2147483648) :
    Calls Tryz.prog 137 #[.int .i64 (p : Int), .int .i64 a, .int .i64 b] w fun e w' => e = .returned (.int .i64 ((a + b) % p)) ∧ w = w' := by
  obtain ⟨x, rfl⟩ := Int.eq_ofNat_of_zero_le ha0
  obtain ⟨y, rfl⟩ := Int.eq_ofNat_of_zero_le hb0
  refine (f_Add p x y w h1 h2 (by omega) (by omega)).mono ?_
  rintro e w' ⟨rfl, rfl⟩
  exact ⟨ret_int (by rw [Int.natCast_emod, Int.natCast_add]), rfl⟩
def IntB (n : Int) (w : World) (e : Ending) (w' : World) : Prop := e = .returned (.int .i64 n) ∧ Below w.heap.size w w'
/-- An element with its place. -/
abbrev El (p : Nat) := Nat × { c : Int // 0 ≤ c ∧ c < (p : Int) }
def elF (p : Nat) (hp : 1 ≤ p) (zs : List Int) (k : Nat) : El p := (zs.length - 1 - k, if h : 0 ≤ zs.getD (zs.length - 1 - k) 0 ∧ zs.getD (zs.length - 1 - k) 0 < (p : Int) then ⟨zs.getD (zs.length - 1 - k) 0, h⟩ else ⟨0, Int.le_refl 0, by omega⟩)
theorem elF_at (p : Nat) (hp : 1 ≤ p) (zs : List Int) (hin : InF p zs) (k : Nat) (hk : k < zs.length) : (elF p hp zs k).1 = zs.length - 1 - k ∧ (elF p hp zs k).2.1 = zs.getD (zs.length - 1 - k) 0 := by
  refine ⟨rfl, ?_⟩
  unfold elF
  simp only
  rw [dif_pos (hin (zs.length - 1 - k) (by omega))]
/-- Horner's way over what has come. -/
def hor (p : Nat) (x : Int) (pre : List (El p)) : Int := pre.foldl (fun v c => (c.2.1 + v * x) % p) 0
theorem hor_snoc (p : Nat) (x : Int) (pre : List (El p)) (c : El p) : hor p x (pre ++ [c]) = (c.2.1 + hor p x pre * x) % p := by simp [hor]
theorem hor_step (p : Nat) (x : Int) (pre : List (El p)) (c : El p) : hor p x (pre ++ [c]) = ((hor p x pre * x) % p + c.2.1) % p := by
  rw [hor_snoc, Int.add_comm, Int.emod_add_emod]
theorem hor_bd (p : Nat) (x : Int) (hp : 1 ≤ p) (pre : List (El p)) : 0 ≤ hor p x pre ∧ hor p x pre < p := by
  rcases List.eq_nil_or_concat pre with rfl | ⟨l, c, rfl⟩
  · exact ⟨Int.le_refl 0, by show (0 : Int) < p; omega⟩
  · rw [List.concat_eq_append, hor_snoc]
    exact ⟨Int.emod_nonneg _ (by omega), Int.emod_lt_of_pos _ (by omega)⟩
theorem hor_dn (p : Nat) (hp : 1 ≤ p) (x : Int) (zs : List Int) (hin : InF p zs) : ∀ k, k ≤ zs.length → Cg p (hor p x (upF (elF p hp zs) k)) (ev (zs.drop (zs.length - k)) x) := by
  intro k
  induction k with
  | zero => intro _; rw [show zs.length - 0 = zs.length by omega, List.drop_length]; exact Cg.refl _ _
  | succ k ih =>
    intro hk
    rw [upF_succ, hor_snoc, (elF_at p hp zs hin k (by omega)).2, drop_get zs (zs.length - (k + 1)) (by omega), show zs.length - (k + 1) + 1 = zs.length - k by omega, show zs.length - 1 - k = zs.length - (k + 1) by omega]
    show Cg p _ (zs.getD (zs.length - (k + 1)) 0 + x * ev (zs.drop (zs.length - k)) x)
    refine Cg.of_emod ((Cg.refl p _).add ?_)
    rw [Int.mul_comm x]
    exact (ih (by omega)).mul (Cg.refl p x)
theorem hor_all (p : Nat) (x : Int) (hp : 1 ≤ p) (zs : List Int) (hin : InF p zs) : hor p x (upF (elF p hp zs) zs.length) = ev zs x % p := by
  have h1 := hor_dn p hp x zs hin zs.length (Nat.le_refl _)
  rw [Nat.sub_self, List.drop_zero] at h1
  have h2 := hor_bd p x hp (upF (elF p hp zs) zs.length)
  have h3 : hor p x (upF (elF p hp zs) zs.length) % (p : Int) = ev zs x % p := h1
  rwa [Int.emod_eq_of_lt h2.1 h2.2] at h3

set_option maxRecDepth 100000 in
set_option maxHeartbeats 4000000 in
theorem p_Eval_in (p : Nat) (x : Int) (len cap : Nat) (A : Option Addr) (zs : List Int) (w : World) (hp1 : 1 ≤ p) (h2 : p ≤ 1073741824) (hx0 : 0 ≤ x) (hx1 : x < 2147483648) (hlen : len = zs.length) (hl : len ≤ 1000000) (hin : InF p zs)
    (hc : 0 < len → ∃ b off, A = some ⟨b, off, none⟩ ∧ b < w.heap.size ∧ ∀ j, j < len → w.cell? ⟨b, off + j, none⟩ = some (.int .i64 (zs.getD j 0))) :
    CallsIn Fence.wide 3 Tryz.prog 97 #[.int .i64 (p : Int), .slice A len cap, .int .i64 x] w fun e W' => e = .returned (.int .i64 (hor p x (upF (elF p hp1 zs) len))) ∧ Below w.heap.size w W' := by
  have h1 : 1 ≤ 3 := by omega
  have hro : Fence.wide.round = none := rfl
  refine callsIn_of_wp_marks Tryz.func97 rfl trivial ?_ hro
  simp only [Tryz.ntmps97, List.size_toArray, List.length_cons, List.length_nil, Nat.reduceAdd, Nat.reduceSub, Array.replicate_succ, Array.replicate_zero, List.push_toArray, List.append_toArray, List.nil_append, List.cons_append]
  have HL := Lib.hid hlen
  clear hlen
  have c0 := Boxed.new w 3 (.int .i64 (p : Int))
  have c1 := Boxed.new (w.alloc (.cells #[.int .i64 (p : Int)] 3)) 3 (.int .i64 x)
  have c2 := Boxed.new ((w.alloc (.cells #[.int .i64 (p : Int)] 3)).alloc (.cells #[.int .i64 x] 3)) 3 (.int .i64 0)
  have c3 := Boxed.new (((w.alloc (.cells #[.int .i64 (p : Int)] 3)).alloc (.cells #[.int .i64 x] 3)).alloc (.cells #[.int .i64 0] 3)) 24 (.slice A len cap)
  simp only [World.size_alloc] at c1 c2 c3
  have hB3 : Below w.heap.size w (((w.alloc (.cells #[.int .i64 (p : Int)] 3)).alloc (.cells #[.int .i64 x] 3)).alloc (.cells #[.int .i64 0] 3)) := (((Below.refl _ w).alloc (Nat.le_refl _) _).alloc (by simp) _).alloc (by simp; omega) _
  have d0 := ((c0.alloc (.cells #[.int .i64 x] 3)).alloc (.cells #[.int .i64 0] 3)).alloc (.cells #[.slice A len cap] 24)
  have d1 := (c1.alloc (.cells #[.int .i64 0] 3)).alloc (.cells #[.slice A len cap] 24)
  have d2 := c2.alloc (.cells #[.slice A len cap] 24)
  have hB4 := hB3.alloc (by simp; omega) (.cells #[.slice A len cap] 24)
  have hsz : ((((w.alloc (.cells #[.int .i64 (p : Int)] 3)).alloc (.cells #[.int .i64 x] 3)).alloc (.cells #[.int .i64 0] 3)).alloc (.cells #[.slice A len cap] 24)).heap.size = w.heap.size + 4 := by simp
  gi_wp2
  refine ⟨trivial, ?_⟩
  refine (back_in Fence.wide 2 trivial hro _ _ _ _).mono ?_
  rintro e w' ⟨rfl, rfl⟩
  gi_wp2
  have hcs : 0 < len → ∃ b off, A = some ⟨b, off, none⟩ ∧ b < w.heap.size ∧ ∀ j, j < len → ((((w.alloc (.cells #[.int .i64 (p : Int)] 3)).alloc (.cells #[.int .i64 x] 3)).alloc (.cells #[.int .i64 0] 3)).alloc (.cells #[.slice A len cap] 24)).cell? ⟨b, off + j, none⟩ = some (.int .i64 (zs.getD j 0)) := fun h => by
    obtain ⟨b, off, e, hb, hcc⟩ := hc h
    exact ⟨b, off, e, hb, fun j hj => (hB4.cell (p := ⟨b, off + j, none⟩) hb).trans (hcc j hj)⟩
  have hfs : ∀ k, k < len → (elF p hp1 zs k).1 = len - 1 - k ∧ (elF p hp1 zs k).2.1 = zs.getD (len - 1 - k) 0 := fun k hk => by
    have := elF_at p hp1 zs hin k (by have := HL.out; omega)
    rwa [← HL.out] at this
  have hst := back_stops (α := El p) (fun c => c.1) (fun c => c.2.1) (elF p hp1 zs) Fence.wide 2 trivial hro (by omega) (w.heap.size + 1 + 1 + 1) w.heap.size len cap A zs hl HL.out hfs _ (by rw [hsz]; omega) (by rw [hsz]; omega) c3.cell hcs
  generalize ((((w.alloc (.cells #[.int .i64 (p : Int)] 3)).alloc (.cells #[.int .i64 x] 3)).alloc (.cells #[.int .i64 0] 3)).alloc (.cells #[.slice A len cap] 24)) = w4 at *
  have hmx : Tryz.prog.follows .mixedOrders = true := by kernel_rfl
  refine wpIn_rangeFunc_ownG hro h1 (gf := 172) (lb := #[.pointer (some ⟨w.heap.size + 1 + 1 + 1, 0, none⟩)]) rfl trivial (enters_of Tryz.func172 (by kernel_rfl) rfl)
    hst (fun h k => BKp.trans h k) (bkp_b (by rw [hsz]; omega) (by rw [hsz]; omega)) (Below.refl _ _) (fun _ => rfl)
    (fun pre W => (Boxed W w.heap.size 3 (.int .i64 (p : Int)) ∧ Boxed W (w.heap.size + 1) 3 (.int .i64 x) ∧ Boxed W (w.heap.size + 1 + 1) 3 (.int .i64 (hor p x pre))) ∧ Below w.heap.size w W)
    (fun _ _ _ => False)
    (OwnFrom.and (Own.from (fun s X Y row hs hg hr => ⟨boxed_own _ _ (fun _ => _) s X Y row hs.1 hg hr, boxed_own _ _ (fun _ => _) s X Y row hs.2.1 hg hr, boxed_own _ _ (fun s => .int .i64 (hor p x s)) s X Y row hs.2.2 hg hr⟩) _) (ownFrom_below (Nat.le_refl _) (by rw [hsz]; omega)))
    (fun _ _ _ _ _ hs _ _ => hs)
    ⟨⟨d0, d1, d2⟩, hB4⟩
    (fun c => { tmps := #[.int .i64 (p : Int), .slice A len cap, .int .i64 x, .pointer (some ⟨w.heap.size, 0, none⟩), undef, .pointer (some ⟨w.heap.size + 1, 0, none⟩), .int .i64 0, .pointer (some ⟨w.heap.size + 1 + 1, 0, none⟩), undef, .int .i64 c.2.1, .slice A len cap, .func (.func 172) #[] #[.pointer (some ⟨w.heap.size + 1 + 1 + 1, 0, none⟩)], .int .i64 (c.1 : Int), .int .i64 c.2.1, undef, undef, undef, undef, undef, undef, undef, undef], defers := [] }) ?assign ?body ?done ?stop
  case assign =>
    intro l c W K hK
    gi_wp2
    exact hK
  case body =>
    rintro l pre ⟨ci, cv, cv0, cv1⟩ W ⟨⟨b0, b1, b2⟩, hB⟩ _
    have hbd := hor_bd p x hp1 pre
    have hb2' := Int.emod_nonneg (hor p x pre * x) (show (p : Int) ≠ 0 by omega)
    have hb3' := Int.emod_lt_of_pos (hor p x pre * x) (show (0 : Int) < p by omega)
    have hse := hor_step p x pre (ci, ⟨cv, cv0, cv1⟩)
    generalize hor p x pre = v at *
    have HSE := Lib.hid hse
    clear hse
    dsimp only
    have k0 := b0.cell
    have k1 := b1.cell
    have k2 := b2.cell
    have f2 := b2.frozen
    gi_wp2
    refine region_round_last _ _ (fun W' => W'.cell? ⟨w.heap.size, 0, none⟩ = some (.int .i64 (p : Int)) ∧ W'.cell? ⟨w.heap.size + 1, 0, none⟩ = some (.int .i64 x) ∧ W'.cell? ⟨w.heap.size + 1 + 1, 0, none⟩ = some (.int .i64 v)) hmx (by kernel_rfl) rfl (by kernel_rfl) ⟨k0, k1, k2⟩ (fun hS => ?_)
    simp only [List.dropLast]
    refine wpAnyH_take (i := 0) (v := ?_) rfl (by kernel_rfl) (by kernel_rfl) (by kernel_rfl) (fun _ _ _ h => h) (Or.inl ⟨by rfl, ?_⟩) (by assumption) ?_
    rotate_left
    · (intro w hSw; (try dsimp only at hSw); go_simp; try (with_reducible rfl))
    try simp only [Act.put, List.setIfInBounds_toArray, List.set_cons_zero, List.set_cons_succ]
    refine wpAnyH_take (i := 1) (v := ?_) rfl (by kernel_rfl) (by kernel_rfl) (by kernel_rfl) (fun _ _ _ h => h) (Or.inl ⟨by rfl, ?_⟩) (by assumption) ?_
    rotate_left
    · (intro w hSw; (try dsimp only at hSw); go_simp; try (with_reducible rfl))
    try simp only [Act.put, List.setIfInBounds_toArray, List.set_cons_zero, List.set_cons_succ]
    refine wpAnyH_take (i := 2) (v := ?_) rfl (by kernel_rfl) (by kernel_rfl) (by kernel_rfl) (fun _ _ _ h => h) (Or.inl ⟨by rfl, ?_⟩) (by assumption) ?_
    rotate_left
    · (intro w hSw; (try dsimp only at hSw); go_simp; try (with_reducible rfl))
    try simp only [Act.put, List.setIfInBounds_toArray, List.set_cons_zero, List.set_cons_succ]
    refine wpAnyH_take (i := 3) (v := ?_) rfl (by kernel_rfl) (by kernel_rfl) (by kernel_rfl) (fun _ _ _ h => h) (Or.inl ⟨by rfl, ?_⟩) (by assumption) ?_
    rotate_left
    · (intro w hSw; (try dsimp only at hSw); go_simp; try (with_reducible rfl))
    try simp only [Act.put, List.setIfInBounds_toArray, List.set_cons_zero, List.set_cons_succ]
    refine wpAnyH_take (i := 5) (v := ?_) rfl (by kernel_rfl) (by kernel_rfl) (by kernel_rfl) (fun _ _ _ h => h) (Or.inl ⟨by rfl, ?_⟩) (by assumption) ?_
    rotate_left
    · (intro w hSw; (try dsimp only at hSw); go_simp; try (with_reducible rfl))
    try simp only [Act.put, List.setIfInBounds_toArray, List.set_cons_zero, List.set_cons_succ]
    refine wpAnyH_ready (rs := [4]) (by kernel_rfl) (by simp) ?_
    refine AllReadyH.cons rfl (fun K hK => ?_) AllReadyH.nil
    go_simp
    refine (f_MulZ p v x _ hp1 (by omega) (by omega) (by omega) hx0 hx1).mono ?_
    rintro e w' ⟨rfl, rfl⟩
    refine hK.out _ _ (hS) (fun hHeld => ?_)
    clear hK K
    try simp only [Act.put, List.setIfInBounds_toArray, List.set_cons_zero, List.set_cons_succ]
    refine wpAnyH_ready (rs := [6]) (by kernel_rfl) (by simp) ?_
    refine AllReadyH.cons rfl (fun K hK => ?_) AllReadyH.nil
    go_simp
    refine (f_AddI p _ _ _ hp1 (by omega) (by omega) (by omega) (by omega) (by omega)).mono ?_
    rintro e w' ⟨rfl, rfl⟩
    refine hK.out _ _ (hS) (fun hHeld => ?_)
    clear hK K
    try simp only [Act.put, List.setIfInBounds_toArray, List.set_cons_zero, List.set_cons_succ]
    refine wpAnyH_done (by kernel_rfl) ?_ _
    refine lastQ_step (by rfl) (by rfl) ?_
    go_simp
    unfold NoOut
    gi_wp2
    rw [← Int.emod_add_emod, ← HSE.out]
    refine ⟨((KeepsOthers.setCell W ⟨w.heap.size + 1 + 1, 0, none⟩ (.int .i64 (hor p x (pre ++ [(ci, ⟨cv, cv0, cv1⟩)])))).trans (KeepsOthers.drew _)).from _, ⟨((Below.refl w.heap.size W).setCell (p := ⟨w.heap.size + 1 + 1, 0, none⟩) (by show w.heap.size ≤ w.heap.size + 1 + 1; omega) _).drew, Below.heap_setCell W ⟨w.heap.size + 1 + 1, 0, none⟩ _ (w.heap.size + 1 + 1 + 1) (by simp)⟩, ⟨?_, ?_, ?_⟩, (hB.setCell (p := ⟨w.heap.size + 1 + 1, 0, none⟩) (by show w.heap.size ≤ w.heap.size + 1 + 1; omega) _).drew⟩
    · exact (Below.heap_setCell W ⟨w.heap.size + 1 + 1, 0, none⟩ _ w.heap.size (by simp; omega)).trans b0
    · exact (Below.heap_setCell W ⟨w.heap.size + 1 + 1, 0, none⟩ _ (w.heap.size + 1) (by simp)).trans b1
    · exact b2.set _
  case done =>
    rintro D ys W hD rfl ⟨⟨b0, b1, b2⟩, hB⟩ hK
    have k2 := b2.cell
    gi_wp2
    refine ⟨by simp, .inl ⟨_, _, rfl, run_takeDeferred hK, ?_⟩⟩
    exact ⟨_, results_tmp rfl _ _ _, rfl, hB.trans (belowK_b (w := w) (Nat.le_refl _) W D _ _ (by omega) hK rfl rfl)⟩
  case stop =>
    rintro D c pre W _ _ h _
    exact h.elim
/-- The contract: a polynomial's value. -/
theorem p_Eval (p : Nat) (x : Int) (v : Value) (zs : List Int) (S : Nat → Prop) (w : World) (hp1 : 1 ≤ p) (h2 : p ≤ 1073741824) (hx0 : 0 ≤ x) (hx1 : x < 2147483648) (hv : IntsAt w S v zs) (hS : ∀ b, S b → b < w.heap.size) (hl : zs.length ≤ 1000000) (hin : InF p zs) :
    Calls Tryz.prog 97 #[.int .i64 (p : Int), v, .int .i64 x] w (IntB (ev zs x % p) w) := by
  obtain ⟨A, n, c, rfl, hn, hnc, hcc⟩ := hv
  refine callsIn_wide.1 ((p_Eval_in p x n c A zs w hp1 h2 hx0 hx1 hn (by omega) hin (fun h => ?_)).mono ?_)
  · obtain ⟨b, off, hA, hSb, hcell⟩ := hcc h
    exact ⟨b, off, hA, hS b hSb, hcell⟩
  · rintro e w' ⟨rfl, hb⟩
    refine ⟨?_, hb⟩
    rw [hn, hor_all p x hp1 zs hin]
end Go.Proofs.YtjfphobfikadlaaGreatDoor
namespace Go.Proofs.YtjfphobfikadlaaGreatDoor
open Go.RowKit Go.Shelf Num

attribute [local go_sem] Oper.semAt_some

theorem degN_all : ∀ zs : List Int, (∀ j, j < zs.length → zs.getD j 0 = 0) → degN zs = 0 := by
  intro zs
  induction zs with
  | nil => intro _; rfl
  | cons c l ih =>
    intro h
    have h1 := ih fun j hj => by have := h (j + 1) (by simp; omega); simpa using this
    have h2 : c = 0 := by have := h 0 (by simp); simpa using this
    rw [degN, if_neg (by omega), if_pos h2]
theorem degN_of : ∀ (zs : List Int) (m : Nat), m < zs.length → zs.getD m 0 ≠ 0 → (∀ j, m < j → j < zs.length → zs.getD j 0 = 0) → degN zs = m + 1 := by
  intro zs
  induction zs with
  | nil => intro m h; simp at h
  | cons c l ih =>
    intro m hm h0 h1
    cases m with
    | zero =>
      have h2 := degN_all l fun j hj => by have := h1 (j + 1) (by omega) (by simp; omega); simpa using this
      rw [degN, if_neg (by omega), if_neg (by simpa using h0)]
    | succ m =>
      have h2 := ih m (by simpa using hm) (by simpa using h0) fun j hj hl => by have := h1 (j + 1) (by omega) (by simp; omega); simpa using this
      rw [degN, if_pos (by omega), h2]
def plF (zs : List Int) (k : Nat) : Nat × Int := (zs.length - 1 - k, zs.getD (zs.length - 1 - k) 0)
theorem upF_get {α : Type} (f : Nat → α) (k j : Nat) (h : j < k) : f j ∈ upF f k := by
  unfold upF; exact List.mem_map.2 ⟨j, List.mem_range.2 h, rfl⟩

set_option maxRecDepth 100000 in
set_option maxHeartbeats 4000000 in
theorem p_Degree_in (len cap : Nat) (A : Option Addr) (zs : List Int) (w : World) (hlen : len = zs.length) (hl : len ≤ 1000000)
    (hc : 0 < len → ∃ b off, A = some ⟨b, off, none⟩ ∧ b < w.heap.size ∧ ∀ j, j < len → w.cell? ⟨b, off + j, none⟩ = some (.int .i64 (zs.getD j 0))) :
    CallsIn Fence.wide 3 Tryz.prog 198 #[.slice A len cap] w fun e W' => e = .returned (.int .i64 ((degN zs : Int) - 1)) ∧ Below w.heap.size w W' := by
  have h1 : 1 ≤ 3 := by omega
  have hro : Fence.wide.round = none := rfl
  refine callsIn_of_wp_marks Tryz.func198 rfl trivial ?_ hro
  simp only [Tryz.ntmps198, List.size_toArray, List.length_cons, List.length_nil, Nat.reduceAdd, Nat.reduceSub, Array.replicate_succ, Array.replicate_zero, List.push_toArray, List.append_toArray, List.nil_append, List.cons_append]
  have HL := Lib.hid hlen
  clear hlen
  have bR := Boxed.new w 3 (.int .i64 0)
  have c3 := Boxed.new (w.alloc (.cells #[.int .i64 0] 3)) 24 (.slice A len cap)
  simp only [World.size_alloc] at c3
  have d0 := bR.alloc (.cells #[.slice A len cap] 24)
  have hB0 : Below w.heap.size w ((w.alloc (.cells #[.int .i64 0] 3)).alloc (.cells #[.slice A len cap] 24)) := ((Below.refl _ w).alloc (Nat.le_refl _) _).alloc (by simp) _
  have hsz : ((w.alloc (.cells #[.int .i64 0] 3)).alloc (.cells #[.slice A len cap] 24)).heap.size = w.heap.size + 2 := by simp
  gi_wp2
  refine ⟨trivial, ?_⟩
  refine (back_in Fence.wide 2 trivial hro _ _ _ _).mono ?_
  rintro e w' ⟨rfl, rfl⟩
  gi_wp2
  have hcs : 0 < len → ∃ b off, A = some ⟨b, off, none⟩ ∧ b < w.heap.size ∧ ∀ j, j < len → ((w.alloc (.cells #[.int .i64 0] 3)).alloc (.cells #[.slice A len cap] 24)).cell? ⟨b, off + j, none⟩ = some (.int .i64 (zs.getD j 0)) := fun h => by
    obtain ⟨b, off, e, hb, hcc⟩ := hc h
    exact ⟨b, off, e, hb, fun j hj => (hB0.cell (p := ⟨b, off + j, none⟩) hb).trans (hcc j hj)⟩
  have hfs : ∀ k, k < len → (plF zs k).1 = len - 1 - k ∧ (plF zs k).2 = zs.getD (len - 1 - k) 0 := fun k hk => by
    rw [HL.out]; exact ⟨rfl, rfl⟩
  have hst := back_stops (α := Nat × Int) (fun c => c.1) (fun c => c.2) (plF zs) Fence.wide 2 trivial hro (by omega) (w.heap.size + 1) w.heap.size len cap A zs hl HL.out hfs _ (by rw [hsz]; omega) (by rw [hsz]; omega) c3.cell hcs
  generalize ((w.alloc (.cells #[.int .i64 0] 3)).alloc (.cells #[.slice A len cap] 24)) = w4 at *
  refine wpIn_rangeFunc_ownG hro h1 (gf := 172) (lb := #[.pointer (some ⟨w.heap.size + 1, 0, none⟩)]) rfl trivial (enters_of Tryz.func172 (by kernel_rfl) rfl)
    hst (fun h k => BKp.trans h k) (bkp_b (by rw [hsz]; omega) (by rw [hsz]; omega)) (Below.refl _ _) (fun _ => rfl)
    (fun pre W => ((∀ q ∈ pre, q.2 = 0) ∧ W.cell? ⟨w.heap.size, 0, none⟩ = some (.int .i64 0) ∧ W.frozen? ⟨w.heap.size, 0, none⟩ = false) ∧ Below w.heap.size w W)
    (fun c pre W => (c = .ret ∧ ∃ ini last, pre = ini ++ [last] ∧ (∀ q ∈ ini, q.2 = 0) ∧ last.2 ≠ 0 ∧ W.cell? ⟨w.heap.size, 0, none⟩ = some (.int .i64 (last.1 : Int))) ∧ Below w.heap.size w W)
    (OwnFrom.and (Own.from (fun s A B row hs hg hr => ⟨hs.1, cell_kept hs.2.1 hg hr, (frozen_kept hs.2.1 hg hr).trans hs.2.2⟩) _) (ownFrom_below (Nat.le_refl _) (by rw [hsz]; omega)))
    (fun c => OwnFrom.and (Own.from (fun s A B row hs hg hr => by obtain ⟨hc, ini, last, e1, e2, e3, e4⟩ := hs; exact ⟨hc, ini, last, e1, e2, e3, cell_kept e4 hg hr⟩) _) (ownFrom_below (Nat.le_refl _) (by rw [hsz]; omega)))
    ⟨⟨fun q hq => (by cases hq), d0.cell, d0.frozen⟩, hB0⟩
    (fun x => { tmps := #[.slice A len cap, undef, .pointer (some ⟨w.heap.size, 0, none⟩), .int .i64 (x.1 : Int), .int .i64 x.2, .slice A len cap, .func (.func 172) #[] #[.pointer (some ⟨w.heap.size + 1, 0, none⟩)], .int .i64 (x.1 : Int), .int .i64 x.2, undef, undef, undef], defers := [] }) ?assign ?body ?done ?stop
  case assign =>
    intro l x W K hK
    gi_wp2
    exact hK
  case body =>
    rintro l pre ⟨xi, xv⟩ W ⟨⟨hp, hcr, hfr⟩, hB⟩ _
    dsimp only
    by_cases hx : xv = 0
    · have t0 : (xv != 0) = false := by rw [hx]; rfl
      have hpn : ∀ q ∈ pre ++ [(xi, xv)], q.2 = 0 := fun q hq => (List.mem_append.1 hq).elim (hp q) (fun e => by simp at e; subst e; exact hx)
      clear hx hp
      gi_wp2
      exact ⟨KeepsFrom.refl _ _, ⟨Below.refl _ _, rfl⟩, ⟨hpn, hcr, hfr⟩, hB⟩
    · have t0 : (xv != 0) = true := by simpa using hx
      gi_wp2
      exact ⟨(KeepsOthers.setCell _ _ _).from _, ⟨rfl, pre, (xi, xv), rfl, hp, hx, World.cell?_setCell_same' _ _ _ (by rw [hcr]; rfl)⟩, hB.setCell (p := ⟨w.heap.size, 0, none⟩) (Nat.le_refl _) _⟩
  case done =>
    rintro D ys W hD rfl ⟨⟨hne, hcr, hfr⟩, hB⟩ hK
    gi_wp2
    have hK' := (KeepsOthers.setCell W ⟨w.heap.size, 0, none⟩ (.int .i64 (-1))).same D _ hK rfl
    refine ⟨by simp, .inl ⟨_, _, rfl, run_takeDeferred hK', ?_⟩⟩
    have hc5 := cell_kept (World.cell?_setCell_same' W ⟨w.heap.size, 0, none⟩ (.int .i64 (-1)) (by rw [hcr]; rfl)) (grownBy_putObj' _ D (.deferred none)) (fun r e => by cases e; exact ⟨_, hK', rfl⟩)
    have hdz : degN zs = 0 := degN_all zs fun j hj => by
      have := hne (plF zs (zs.length - 1 - j)) (upF_get _ _ _ (by have := HL.out; omega))
      unfold plF at this
      rwa [show zs.length - 1 - (zs.length - 1 - j) = j by omega] at this
    refine ⟨.int .i64 (-1), ?_, by rw [hdz]; rfl, (hB.setCell (p := ⟨w.heap.size, 0, none⟩) (Nat.le_refl _) _).trans (belowK_b (w := w) (Nat.le_refl _) _ D _ _ (by omega) hK' rfl rfl)⟩
    simp [results, Tryz.f198, go_sem, hc5]
  case stop =>
    rintro D c pre W hD ⟨k, hk, rfl⟩ ⟨⟨rfl, ini, last, e1, e2, e3, hcr⟩, hB⟩ hK
    gi_wp2
    refine ⟨by simp, .inl ⟨_, _, rfl, run_takeDeferred hK, ?_⟩⟩
    have hc5 := cell_kept hcr (grownBy_putObj' _ D (.deferred none)) (fun r e => by cases e; exact ⟨_, hK, rfl⟩)
    obtain ⟨k', rfl⟩ : ∃ k', k = k' + 1 := by
      cases k with
      | zero => simp [upF] at e1
      | succ k' => exact ⟨k', rfl⟩
    rw [upF_succ] at e1
    obtain ⟨rfl, e5⟩ := List.append_inj' e1 rfl
    obtain rfl : plF zs k' = last := by simpa using e5
    have hkl : k' < zs.length := by have := HL.out; omega
    have hdz : degN zs = zs.length - 1 - k' + 1 := degN_of zs (zs.length - 1 - k') (by omega) e3 fun j hj hjl => by
      have := e2 (plF zs (zs.length - 1 - j)) (upF_get _ _ _ (by omega))
      unfold plF at this
      rwa [show zs.length - 1 - (zs.length - 1 - j) = j by omega] at this
    refine ⟨.int .i64 ((plF zs k').1 : Int), ?_, ?_, hB.trans (belowK_b (w := w) (Nat.le_refl _) W D _ _ (by omega) hK rfl rfl)⟩
    · simp [results, Tryz.f198, go_sem, hc5]
    · rw [hdz]
      show Ending.returned (.int .i64 ((zs.length - 1 - k' : Nat) : Int)) = _
      congr 2; omega
/-- The contract: the degree. -/
theorem p_Degree (v : Value) (zs : List Int) (S : Nat → Prop) (w : World) (hv : IntsAt w S v zs) (hS : ∀ b, S b → b < w.heap.size) (hl : zs.length ≤ 1000000) :
    Calls Tryz.prog 198 #[v] w (IntB ((degN zs : Int) - 1) w) := by
  obtain ⟨A, n, c, rfl, hn, hnc, hcc⟩ := hv
  refine callsIn_wide.1 (p_Degree_in n c A zs w hn (by omega) (fun h => ?_))
  obtain ⟨b, off, hA, hSb, hcell⟩ := hcc h
  exact ⟨b, off, hA, hS b hSb, hcell⟩
end Go.Proofs.YtjfphobfikadlaaGreatDoor
namespace Go.Proofs.YtjfphobfikadlaaGreatDoor
open Go.RowKit Num

/-- Values in a row of cells. -/
structure ArrV (w : World) (B n : Nat) (f : Nat → Value) : Prop where
  cell : ∀ i, i < n → w.cell? ⟨B, i, none⟩ = some (f i)
  live : ∀ i, i < n → w.frozen? ⟨B, i, none⟩ = false
def updV (f : Nat → Value) (i : Nat) (v : Value) : Nat → Value := fun j => if j = i then v else f j
theorem ArrV.upd {w : World} {B n : Nat} {f : Nat → Value} (h : ArrV w B n f) {i : Nat} (v : Value) (hi : i < n) : ArrV (w.setCell ⟨B, i, none⟩ v) B n (updV f i v) := by
  refine ⟨fun j hj => ?_, fun j hj => ?_⟩
  · by_cases hji : j = i
    · subst hji; rw [World.cell?_setCell_same _ _ _ (h.cell j hj)]; unfold updV; rw [if_pos rfl]
    · rw [World.cell?_setCell_other _ _ _ _ (by intro e; injection e with e1 e2; exact hji e2.symm), h.cell j hj]; unfold updV; rw [if_neg hji]
  · rw [World.frozen?_setCell]; exact h.live j hj
theorem ArrV.congr {w : World} {B n : Nat} {f g : Nat → Value} (h : ArrV w B n f) (e : ∀ i, i < n → f i = g i) : ArrV w B n g :=
  ⟨fun i hi => by rw [h.cell i hi, e i hi], h.live⟩
theorem ArrV.drew {w : World} {B n : Nat} {f : Nat → Value} (h : ArrV w B n f) : ArrV w.drew B n f := ⟨h.cell, h.live⟩
end Go.Proofs.YtjfphobfikadlaaGreatDoor

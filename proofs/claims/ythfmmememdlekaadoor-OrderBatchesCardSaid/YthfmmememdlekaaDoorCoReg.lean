/- A region that draws its order, in a round of a range over a function: it is walked as a plain one, its last operation last. -/
import Derived.Test.YthfmmememdlekaaDoorRegLast
import Derived.OrdersIn
import Derived.TacticsIn
import Derived.RangeFuncCalls
set_option linter.unusedVariables false
set_option linter.unusedSimpArgs false
namespace Go.Proofs.YthfmmememdlekaaDoor

section
variable {P : Program} {Q : Exit → Act → World → Prop} {md : Region.Mode} {ops : Array Oper}
/-- The normal way out alone. -/
def NoOut (Q : Exit → Act → World → Prop) : Exit → Act → World → Prop
  | .normal, a, w => Q .normal a w
  | _, _, _ => False
theorem noOut_lets : ¬ LetsOut (NoOut Q) := fun ⟨_, _, h⟩ => h
theorem rows_wide {n : Nat} {row : String} {args : Array Value} {w : World} {R : Value → World → Prop} (h : Rows P row args w R) : RowsIn Fence.wide n P row args w R :=
  fun c cs _ => let ⟨v, w', r, s⟩ := h c cs; ⟨v, w', r, stepsIn_wide.2 s⟩
theorem upon_round {l n : Nat} {o : Oper} {a : Act} {K : Act → World → Prop} {r : Result Next} (h : o.upon P a K (NoOut Q) r) : o.uponIn (Fence.wide.inRound l) n P a K Q r := by
  cases r with
  | ok x w' =>
    cases x with
    | value v => exact h
    | skip => exact h
    | defer d => exact h
    | enter f args =>
      refine ⟨fun e => (by cases e), ?_⟩
      refine CallsIn.inRound l ((callsIn_wide.2 h).mono fun e w'' he => ?_)
      cases e with
      | returned v => exact he
      | panicked c => exact he.elim
      | outgrown => exact (noOut_lets he).elim
    | row row args => exact ⟨fun e => (by cases e), rows_wide h⟩
    | _ => exact (h : False).elim
  | halt x w' =>
    cases x <;> exact (h : False).elim
theorem wp_round {l n : Nat} {o : Oper} {a : Act} {w : World} {K : Act → World → Prop} (hd : ∀ c, o.op ≠ .defer c) (h : o.wp P a w K (NoOut Q)) : o.wpIn (Fence.wide.inRound l) n P a w K Q := by
  refine ⟨fun _ _ => trivial, ?_⟩
  rw [show (Fence.wide.inRound l).round = some l from rfl, Oper.semAt_some l _ _ hd]
  exact upon_round h
theorem wpAny_round {l n : Nat} (hd : ∀ (i : Nat) (o : Oper), ops[i]? = some o → ∀ c, o.op ≠ .defer c) : ∀ (fuel : Nat) (listed : Array Bool) (a : Act) (w : World), wpAny P md ops (NoOut Q) fuel listed a w → wpAnyIn (Fence.wide.inRound l) n P md ops Q fuel listed a w := by
  intro fuel
  induction fuel with
  | zero => intro listed a w h; exact ⟨h.1, h.2⟩
  | succ fuel ih =>
    intro listed a w h
    refine ⟨fun e => h.1 e, fun i hi => ?_⟩
    have h2 := h.2 i hi
    unfold wpOp at h2
    unfold wpOpIn
    cases ho : ops[i]? with
    | none => rw [ho] at h2; exact ih _ _ _ h2
    | some o =>
      rw [ho] at h2
      dsimp only at h2 ⊢
      by_cases hw : Region.wanted o (yielded ops a.tmps) = true
      · rw [if_pos hw] at h2 ⊢
        rcases h2 with h2 | ⟨_, h3⟩
        · exact Oper.wpIn_mono (fun a' w' hk => ih _ _ _ hk) (wp_round (hd i o ho) h2)
        · exact (noOut_lets h3).elim
      · rw [if_neg hw] at h2 ⊢
        exact ⟨fun _ _ => trivial, ih _ _ _ h2⟩
def noDeferB (L : List Oper) : Bool := L.all fun o => match o.op with | .defer _ => false | _ => true
theorem noDefer {L : List Oper} (h : noDeferB L = true) (i : Nat) (o : Oper) (ho : L.toArray[i]? = some o) (c : _) : o.op ≠ .defer c := by
  intro e
  have hm : o ∈ L := by
    have : L[i]? = some o := by simpa using ho
    exact List.mem_of_getElem? this
  have := List.all_eq_true.1 h o hm
  rw [e] at this
  cases this
/-- **THE REGION IN A ROUND, ITS LAST OPERATION LAST.** -/
theorem region_round_last {id l n : Nat} {a : Act} {w : World} (L : List Oper) (o : Oper) (S : World → Prop) (hm : P.follows .mixedOrders = true) (hd : noDeferB L = true) (hL : L.dropLast ++ [o] = L) (hB : lastB L.dropLast o = true) (hS : S w.drew)
    (h : S w.drew → wpAnyH P .any L.dropLast.toArray (LastQ P L.toArray L.dropLast.length (NoOut Q)) S L.dropLast.length (Array.replicate L.dropLast.length false) a w.drew) : (Code.region id L.toArray true).wpIn (Fence.wide.inRound l) n P Q a w := by
  refine wpIn_region_any hm (wpAny_round (fun i x hx => noDefer hd i x hx) _ _ _ _ ?_)
  have key0 := wpAny_of_held _ _ _ _ (h hS)
  have hl : L.length = L.dropLast.length + 1 := by have := congrArg List.length hL; rw [List.length_append] at this; exact this.symm
  have key : wpAny P .any (L.dropLast ++ [o]).toArray (NoOut Q) (L.dropLast.length + 1) (Array.replicate (L.dropLast.length + 1) false) a w.drew := by
    have key1 : wpAny P .any L.dropLast.toArray (LastQ P (L.dropLast ++ [o]).toArray L.dropLast.length (NoOut Q)) L.dropLast.length (Array.replicate L.dropLast.length false) a w.drew := by rw [hL]; exact key0
    have hB' := lastB_spec hB
    generalize L.dropLast = l' at *
    exact wpAny_last hB' l'.length _ (Array.replicate l'.length false) a _ ⟨fun j hj => by simp [hj, show j < l'.length + 1 by omega], by simp, by simp⟩ (by simp) key1
  rw [hL] at key
  rw [show L.toArray.size = L.dropLast.length + 1 by rw [List.size_toArray]; exact hl]
  exact key
end
end Go.Proofs.YthfmmememdlekaaDoor

/- Plain law: shares that were dealt, turned and lied about; what the laws keep. -/
import Derived.Test.YtjfphobfikadlaaDoorCoLie
import Derived.Test.YtjfphobfikadlaaDoorCoAwk
import Derived.Test.YtjfphobfikadlaaDoorKitWord
set_option linter.unusedVariables false
set_option linter.unusedSimpArgs false
namespace Go.Proofs.YtjfphobfikadlaaDoor
open Go.RowKit Num

theorem deal_at (p k : Nat) (sec rnd : List Int) (n j : Nat) (h : j < n) : shAt (dealL p k sec rnd n) j = (((j + 1 : Nat) : Int), (List.range sec.length).map (dealV p k (j + 1) sec rnd)) := by
  unfold dealL shAt
  rw [List.getD_eq_getElem?_getD, List.getElem?_map, List.getElem?_range h]; rfl
theorem dealt_len (p k : Nat) (sec rnd : List Int) (n : Nat) : (dealL p k sec rnd n).length = n := by simp [dealL]
/-- The polynomial of an element. -/
def polD (k : Nat) (sec rnd : List Int) (i : Nat) : List Int := sec.getD i 0 :: (rnd.drop (i * k)).take k
/-- Shares that are values of polynomials. -/
structure FromDeal (p hold m : Nat) (P : Nat → List Int) (L : List Sh) : Prop where
  good : GoodSh p hold m L
  val : ∀ i k, i < m → k < L.length → (shAt L k).2.getD i 0 = evH p (shAt L k).1 (P i)
theorem FromDeal.deal {p k hold : Nat} {sec rnd : List Int} (hp : 1 ≤ p) : FromDeal p hold sec.length (polD k sec rnd) (dealL p k sec rnd hold) where
  good := {
    holder := fun j hj => by rw [dealt_len] at hj; rw [deal_at _ _ _ _ _ _ hj]; show (1 : Int) ≤ ((j + 1 : Nat) : Int) ∧ _; constructor <;> omega
    once := fun i j hi hj hne => by rw [dealt_len] at hi hj; rw [deal_at _ _ _ _ _ _ hi, deal_at _ _ _ _ _ _ hj]; show ((i + 1 : Nat) : Int) ≠ ((j + 1 : Nat) : Int); omega
    len := fun j hj => by rw [dealt_len] at hj; rw [deal_at _ _ _ _ _ _ hj]; simp
    inF := fun j hj => by
      rw [dealt_len] at hj
      rw [deal_at _ _ _ _ _ _ hj]
      intro i hi
      have hi' : i < sec.length := by simpa using hi
      have e : ((List.range sec.length).map (dealV p k (j + 1) sec rnd)).getD i 0 = dealV p k (j + 1) sec rnd i := by rw [List.getD_eq_getElem?_getD, List.getElem?_map, List.getElem?_range hi']; rfl
      rw [e]
      exact evH_bd p _ hp _ }
  val := fun i j hi hj => by
    rw [dealt_len] at hj
    rw [deal_at _ _ _ _ _ _ hj]
    show ((List.range sec.length).map (dealV p k (j + 1) sec rnd)).getD i 0 = _
    rw [List.getD_eq_getElem?_getD, List.getElem?_map, List.getElem?_range hi]; rfl
theorem FromDeal.some {p hold m : Nat} {P : Nat → List Int} {L L' : List Sh} (h : FromDeal p hold m P L) (hs : Some_ L L') : FromDeal p hold m P L' := by
  obtain ⟨σ, h1, h2⟩ := hs
  refine ⟨⟨fun k hk => ?_, fun i j hi hj hne => ?_, fun k hk => ?_, fun k hk => ?_⟩, fun i k hi hk => ?_⟩
  · rw [(h1 k hk).2]; exact h.good.holder _ (h1 k hk).1
  · rw [(h1 i hi).2, (h1 j hj).2]; exact h.good.once _ _ (h1 i hi).1 (h1 j hj).1 (h2 i j hi hj hne)
  · rw [(h1 k hk).2]; exact h.good.len _ (h1 k hk).1
  · rw [(h1 k hk).2]; exact h.good.inF _ (h1 k hk).1
  · rw [(h1 k hk).2]; exact h.val i _ hi (h1 k hk).1
section
variable {p hold need m many : Nat} {P : Nat → List Int} {L L' : List Sh}
theorem ev_trimD {p : Nat} (hp : 1 ≤ p) (h : Int) (l : List Int) : ev (trim l) h % p = evH p h l := by
  rw [trim_ev]
  have e := evH_cg (p : Int) h l
  have b := evH_bd p h hp l
  have := e.symm
  unfold Cg at this
  rw [this, Int.emod_eq_of_lt b.1 b.2]
theorem FromDeal.good' (h : FromDeal p hold m P L) (hl : LieI p m L L' many) : GoodSh p hold m L' where
  holder := fun k hk => by rw [hl.len] at hk; rw [hl.holder k hk]; exact h.good.holder k hk
  once := fun i j hi hj hne => by rw [hl.len] at hi hj; rw [hl.holder i hi, hl.holder j hj]; exact h.good.once i j hi hj hne
  len := fun k hk => by rw [hl.len] at hk; exact hl.vlen k hk
  inF := fun k hk => by rw [hl.len] at hk; exact hl.inF k hk
theorem FromDeal.lied (h : FromDeal p hold m P L) (hp : 1 ≤ p) (hm : 0 < m) (hl : LieI p m L L' many) (hP : ∀ i, i < m → (∀ c ∈ P i, 0 ≤ c ∧ c < (p : Int)) ∧ (P i).length ≤ need) :
    LiedSh p need m (fun k => decide (k < many)) (fun i => trim (P i)) L' where
  can := fun i hi => ⟨can_trim (hP i hi).1, by rw [trim_len]; exact Nat.le_trans (degN_le _) (hP i hi).2⟩
  val := fun i k hi hk hb => by
    rw [hl.len] at hk
    have hge : many ≤ k := by simpa using hb
    show ev (trim (P i)) _ % _ = _
    rw [hl.same k hge hk, ev_trimD hp, ← h.val i k hi hk]
  wrong := fun k hk hb => by
    rw [hl.len] at hk
    have hlt : k < many := by simpa using hb
    show ev (trim (P 0)) _ % _ ≠ _
    rw [hl.holder k hk, ev_trimD hp, ← h.val 0 k hm hk]
    exact fun e => hl.wrong k hlt hk e.symm
theorem many_filter (n : Nat) : ((List.range n).filter fun k => decide (k < many)).length ≤ many := by
  have : ∀ n, ((List.range n).filter fun k => decide (k < many)).length ≤ many ∧ ((List.range n).filter fun k => decide (k < many)).length ≤ n := by
    intro n
    induction n with
    | zero => simp
    | succ n ih =>
      rw [List.range_succ, List.filter_append, List.length_append]
      by_cases h : n < many
      · simp [h]; omega
      · simp [h]; omega
  exact (this n).1
theorem liars_asc (L : List Sh) (many : Nat) : (liarsL L many).Pairwise (· < ·) := by
  unfold liarsL
  rw [List.pairwise_map]
  refine (List.Pairwise.sublist List.filter_sublist List.pairwise_lt_range).imp fun h => ?_
  simpa using h
theorem liars_mem (hg : GoodSh p hold m L) (hh : hold ≤ 16) (hm : many ≤ L.length) (a : Int) : a ∈ liarsL L many ↔ ∃ k, k < many ∧ (shAt L k).1 = a := by
  unfold liarsL
  rw [List.mem_map]
  constructor
  · rintro ⟨h, hh', rfl⟩
    have := (List.mem_filter.1 hh').2
    obtain ⟨i, hi, e⟩ := of_decide_eq_true this
    exact ⟨i, hi, e⟩
  · rintro ⟨i, hi, rfl⟩
    have hb := hg.holder i (by omega)
    refine ⟨(shAt L i).1.toNat, List.mem_filter.2 ⟨List.mem_range.2 (by omega), decide_eq_true ⟨i, hi, by omega⟩⟩, ?_⟩
    show ((shAt L i).1.toNat : Int) = _
    omega
theorem liars_mem' (hg : GoodSh p hold m L) (hh : hold ≤ 16) (hm : many ≤ L.length) (hl : LieI p m L L' many) (a : Int) : a ∈ liarsL L many ↔ ∃ k, k < L'.length ∧ decide (k < many) = true ∧ (shAt L' k).1 = a := by
  rw [liars_mem hg hh hm, hl.len]
  constructor
  · rintro ⟨k, hk, rfl⟩; exact ⟨k, by omega, decide_eq_true hk, hl.holder k (by omega)⟩
  · rintro ⟨k, hk, hd, rfl⟩; exact ⟨k, of_decide_eq_true hd, (hl.holder k hk).symm⟩
/-- As many holders are named as have lied. -/
theorem liars_many (hg : GoodSh p hold m L) (hh : hold ≤ 16) (hm : many ≤ L.length) : many ≤ (liarsL L many).length := by
  have := nodup_len ((List.range many).map fun k => (shAt L k).1) (liarsL L many) (by
    refine List.pairwise_map.2 ((List.nodup_range (n := many)).imp_of_mem fun {a b} ha hb hne => ?_)
    have := List.mem_range.1 ha
    have := List.mem_range.1 hb
    exact hg.once a b (by omega) (by omega) hne) (fun a ha => by
    obtain ⟨k, hk, rfl⟩ := List.mem_map.1 ha
    exact (liars_mem hg hh hm _).2 ⟨k, List.mem_range.1 hk, rfl⟩)
  simpa using this
end
theorem polD_ok {p k m : Nat} {sec rnd : List Int} (hp : 1 ≤ p) (hs : InF p sec) (hr : InF p rnd) (hl : rnd.length = sec.length * k) (hm : sec.length = m) (i : Nat) (hi : i < m) : (∀ c ∈ polD k sec rnd i, 0 ≤ c ∧ c < (p : Int)) ∧ (polD k sec rnd i).length ≤ k + 1 := by
  refine ⟨fun c hc => ?_, ?_⟩
  · unfold polD at hc
    rcases List.mem_cons.1 hc with rfl | hc
    · exact hs i (by omega)
    · exact hr.mem c (List.mem_of_mem_drop (List.mem_of_mem_take hc))
  · unfold polD
    simp [List.length_take]; omega
/-- What the polynomials give at 0 is the secret. -/
theorem sec_back {p k m : Nat} {sec rnd : List Int} (hp : 1 ≤ p) (hs : InF p sec) (hm : sec.length = m) : ((List.range m).map fun i => ev (trim (polD k sec rnd i)) 0 % (p : Int)) = sec := by
  refine getD_eq_of (by simpa using hm.symm) fun i hi => ?_
  have hi' : i < m := by simpa using hi
  rw [List.getD_eq_getElem?_getD, List.getElem?_map, List.getElem?_range hi']
  show ev (trim (polD k sec rnd i)) 0 % (p : Int) = _
  rw [trim_ev]
  show (sec.getD i 0 + 0 * _) % (p : Int) = _
  have := hs i (by omega)
  rw [Int.zero_mul, Int.add_zero, Int.emod_eq_of_lt this.1 this.2]

/-! ### What is kept while only the dice turn. -/
section
variable {d : Nat} {W W' : World}
theorem IntsAt.gd {v : Value} {xs : List Int} (h : IntsAt W (fun b => d < b ∧ b < W.heap.size) v xs) (hg : W.grownBy W' (some d)) : IntsAt W' (fun b => d < b ∧ b < W'.heap.size) v xs :=
  (h.keep fun b hb => hg.block b hb.2 (by intro e; injection e; omega)).mono fun b hb => ⟨hb.1, Nat.lt_of_lt_of_le hb.2 hg.size⟩
theorem ShAt.gd {v : Value} {L : List Sh} (h : ShAt W (fun b => d < b ∧ b < W.heap.size) v L) (hg : W.grownBy W' (some d)) : ShAt W' (fun b => d < b ∧ b < W'.heap.size) v L :=
  (h.keep fun b hb => hg.block b hb.2 (by intro e; injection e; omega)).mono fun b hb => ⟨hb.1, Nat.lt_of_lt_of_le hb.2 hg.size⟩
/-- The dice, the plan, and what lay there before. -/
structure St (d pb p need hold : Nat) (w W : World) : Prop where
  dice : Dc W d
  plan : Blk W pb 28 #[.int .i64 (p : Int), .int .i64 (need : Int), .int .i64 (hold : Int)]
  old : Below d w W
  lt : d < pb
theorem St.step {pb p need hold : Nat} {w : World} (h : St d pb p need hold w W) (hg : W.grownBy W' (some d)) (hd : Dc W' d) : St d pb p need hold w W' :=
  ⟨hd, h.plan.grown hg (by intro e; injection e; have := h.lt; omega), h.old.grown hg (by have := h.dice.lt; omega) (fun g hg => by injection hg; omega), h.lt⟩
theorem St.below {pb p need hold : Nat} {w : World} (h : St d pb p need hold w W) (hb : Below W.heap.size W W') : St d pb p need hold w W' := h.step (only_of_below hb _) (h.dice.below hb h.dice.lt)
end
end Go.Proofs.YtjfphobfikadlaaDoor

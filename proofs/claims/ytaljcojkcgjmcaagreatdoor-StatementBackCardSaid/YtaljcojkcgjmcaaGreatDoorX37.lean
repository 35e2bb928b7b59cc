/- Plain: a statement that is read is small. Contracts: the reference's text of a term without parts (printed by gen_fmrx.py). Contracts: the reference's bytes of words and names of fields. Plain: the reference's reading of a condition is the program's: its test of a term, its walk over the terms, its text. Contracts: the reference's test of a term (printed by gen_fmrt.py). Plain: the trees of a term's arguments, by their numbers. Contracts: the reference's walk over the terms of a condition. Contracts: whether a condition is valid, as the reference says it. Contracts: the reference's text of a condition, of terms with parts too. Contracts: the reference's Print. -/
import Derived.Test.YtaljcojkcgjmcaaGreatDoorX34
import Derived.Test.YtaljcojkcgjmcaaGreatDoorX31
import Derived.Test.YtaljcojkcgjmcaaGreatDoorX20
import Derived.Test.YtaljcojkcgjmcaaGreatDoorX16
import Derived.Lib.Fields
import Derived.Test.YtaljcojkcgjmcaaGreatDoorX05
import Derived.Test.YtaljcojkcgjmcaaGreatDoorShelfF
import Derived.Test.YtaljcojkcgjmcaaGreatDoorX04
import Derived.Test.YtaljcojkcgjmcaaGreatDoorX10
import Derived.Test.YtaljcojkcgjmcaaGreatDoorX14
set_option linter.unusedVariables false
set_option linter.unusedSimpArgs false
namespace Go.Proofs.YtaljcojkcgjmcaaGreatDoor
open Go.RowKit Num

theorem txtR_size {l x : List UInt8} {m : Nat} (h : txtR l = .ok (x, m)) : x.length ≤ l.length := by
  unfold txtR at h
  rcases hr : numR 0 0 l with y | ⟨U, k⟩
  · rw [hr] at h; cases h
  · rw [hr] at h
    dsimp only at h
    by_cases h1 : unz U < 0
    · rw [if_pos h1] at h; cases h
    · rw [if_neg h1] at h
      by_cases h2 : ((l.length - k : Nat) : Int) < unz U
      · rw [if_pos h2] at h; cases h
      · rw [if_neg h2] at h
        injection h with h
        injection h with h3 h4
        rw [← h3, List.length_take, List.length_drop]; omega
theorem rdT_size (s : RS) : (rdT s).1.size ≤ s.rest.length ∧ (rdT s).2.rest.length ≤ s.rest.length := by
  unfold rdT
  by_cases h : s.bad = true
  · rw [if_pos h]; exact ⟨Nat.zero_le _, Nat.le_refl _⟩
  · rw [if_neg h]
    rcases hr : txtR s.rest with z | ⟨x, m⟩
    · exact ⟨Nat.zero_le _, Nat.le_refl _⟩
    · refine ⟨?_, ?_⟩
      · have := txtR_size hr
        show x.toArray.size ≤ _
        rw [List.size_toArray]; exact this
      · show (s.rest.drop m).length ≤ _
        rw [List.length_drop]; omega
theorem rdI_rest (s : RS) : (rdI s).2.rest.length ≤ s.rest.length := by
  unfold rdI
  by_cases h : s.bad = true
  · rw [if_pos h]; exact Nat.le_refl _
  · rw [if_neg h]
    rcases hr : numR 0 0 s.rest with z | ⟨U, m⟩
    · exact Nat.le_refl _
    · show (s.rest.drop m).length ≤ _
      rw [List.length_drop]; omega
def AnsOk (N : Nat) (a : Ans) : Prop := a.field.size ≤ N ∧ a.text.size ≤ N ∧ In64' a.num
def ShwOk (N : Nat) (a : Shw) : Prop := a.field.size ≤ N ∧ a.role.size ≤ N
theorem rdAns_ok {N : Nat} (s : RS) (h : s.rest.length ≤ N) : AnsOk N (rdAns s).1 ∧ (rdAns s).2.rest.length ≤ N := by
  have h1 := rdT_size s
  have h2 := rdT_size (rdT s).2
  have h3 := rdI_rest (rdT (rdT s).2).2
  exact ⟨⟨by show (rdT s).1.size ≤ N; omega, by show (rdT (rdT s).2).1.size ≤ N; omega, rdI_in _⟩, by show (rdI (rdT (rdT s).2).2).2.rest.length ≤ N; omega⟩
theorem rdShw_ok {N : Nat} (s : RS) (h : s.rest.length ≤ N) : ShwOk N (rdShw s).1 ∧ (rdShw s).2.rest.length ≤ N := by
  have h1 := rdT_size s
  have h2 := rdT_size (rdT s).2
  exact ⟨⟨by show (rdT s).1.size ≤ N; omega, by show (rdT (rdT s).2).1.size ≤ N; omega⟩, by show (rdT (rdT s).2).2.rest.length ≤ N; omega⟩
theorem timesR_ok {α : Type} {item : RS → α × RS} {P : α → Prop} {N : Nat} (hi : ∀ s, s.rest.length ≤ N → P (item s).1 ∧ (item s).2.rest.length ≤ N) : ∀ (n : Nat) (s : RS), s.rest.length ≤ N → (timesR item n s).1.length ≤ n ∧ (∀ a ∈ (timesR item n s).1, P a) ∧ (timesR item n s).2.rest.length ≤ N
  | 0, s, h => ⟨Nat.le_refl _, (fun a ha => by cases ha), h⟩
  | n + 1, s, h => by
    by_cases hb : s.bad = true
    · rw [show timesR item (n + 1) s = ([], s) from if_pos hb]
      exact ⟨Nat.zero_le _, (fun a ha => by cases ha), h⟩
    · rw [show timesR item (n + 1) s = _ from if_neg hb]
      obtain ⟨h1, h2⟩ := hi s h
      obtain ⟨a1, a2, a3⟩ := timesR_ok hi n (item s).2 h2
      refine ⟨by show (timesR item n (item s).2).1.length + 1 ≤ n + 1; omega, fun a ha => ?_, a3⟩
      rcases List.mem_cons.1 ha with e | e
      · rw [e]; exact h1
      · exact a2 a e
theorem rdTimes_ok {α : Type} {item : RS → α × RS} {P : α → Prop} {N : Nat} (hi : ∀ s, s.rest.length ≤ N → P (item s).1 ∧ (item s).2.rest.length ≤ N) (s : RS) (h : s.rest.length ≤ N) : (rdTimes item s).1.length ≤ 256 ∧ (∀ a ∈ (rdTimes item s).1, P a) ∧ (rdTimes item s).2.rest.length ≤ N := by
  have hr := rdI_rest s
  unfold rdTimes
  by_cases hb : (rdI s).1 < 0 ∨ 256 < (rdI s).1
  · rw [if_pos hb]; exact ⟨Nat.zero_le _, (fun a ha => by cases ha), by show (rdI s).2.rest.length ≤ N; omega⟩
  · rw [if_neg hb]
    obtain ⟨a1, a2, a3⟩ := timesR_ok hi (rdI s).1.toNat (rdI s).2 (by omega)
    exact ⟨by omega, a2, a3⟩
theorem parseC_ok (s : List UInt8) : (parseC s).1.length ≤ 4096 ∧ ∀ t ∈ (parseC s).1, TrmLe 4096 t := by
  unfold parseC
  by_cases h : 4096 < s.length
  · rw [if_pos h]; exact ⟨Nat.zero_le _, fun t ht => by cases ht⟩
  · rw [if_neg h]
    rcases hp : parseF s with T | k
    · dsimp only
      by_cases hr : rightB (flatT (s.length + 1) 0 T) = true
      · rw [if_pos hr]
        refine ⟨Nat.le_trans (parseF_terms hp _ _) (by omega), fun t ht => ?_⟩
        have := parseF_tame hp _ _ t ht
        unfold TrmLe at this ⊢
        exact ⟨by omega, by omega, by omega⟩
      · rw [if_neg hr]; exact ⟨Nat.zero_le _, fun t ht => by cases ht⟩
    · exact ⟨Nat.zero_le _, fun t ht => by cases ht⟩
theorem rsS_ok (b : ByteArray) (hb : b.size ≤ 16384) : StmOk (rsS b) := by
  have h0 : (⟨blOf b, false⟩ : RS).rest.length ≤ 16384 := by show (blOf b).length ≤ _; rw [blOf_len]; exact hb
  have h1 : (rs1 b).1.size ≤ 16384 ∧ (rs1 b).2.rest.length ≤ 16384 := by
    have := rdT_size ⟨blOf b, false⟩
    exact ⟨Nat.le_trans this.1 h0, Nat.le_trans this.2 h0⟩
  have h2 : (rs2 b).2.rest.length ≤ 16384 := Nat.le_trans (rdI_rest _) h1.2
  have h3 : (rs3 b).2.rest.length ≤ 16384 := Nat.le_trans (rdI_rest _) h2
  obtain ⟨a1, a2, a3⟩ := rdTimes_ok (N := 16384) (fun s h => rdAns_ok s h) (rs3 b).2 h3
  have h5 : (rs5 b).2.rest.length ≤ 16384 := Nat.le_trans (rdT_size _).2 a3
  obtain ⟨c1, c2, c3⟩ := rdTimes_ok (N := 16384) (fun s h => rdShw_ok s h) (rs5 b).2 h5
  obtain ⟨p1, p2⟩ := parseC_ok (blOf (rs5 b).1)
  refine ⟨by show (rs1 b).1.size ≤ _; omega, rdI_in _, rdI_in _, by show (rs4 b).1.length ≤ _; exact Nat.le_trans a1 (by omega), fun k hk => ?_, by show (rs6 b).1.length ≤ _; exact Nat.le_trans c1 (by omega), fun k hk => ?_, by show (parseC (blOf (rs5 b).1)).1.length ≤ _; omega, fun t ht => ?_⟩
  · obtain ⟨x, y, z⟩ := a2 _ (ansAt_mem hk)
    exact ⟨Nat.le_trans x (by omega), Nat.le_trans y (by omega), z⟩
  · obtain ⟨x, y⟩ := c2 _ (shwAt_mem hk)
    exact ⟨Nat.le_trans x (by omega), Nat.le_trans y (by omega)⟩
  · obtain ⟨x, y, z⟩ := p2 t ht
    exact ⟨by omega, by omega, by omega⟩
end Go.Proofs.YtaljcojkcgjmcaaGreatDoor
namespace Go.Proofs.YtaljcojkcgjmcaaGreatDoor
open Go.RowKit Num

end Go.Proofs.YtaljcojkcgjmcaaGreatDoor
namespace Go.Proofs.YtaljcojkcgjmcaaGreatDoor
open Go.RowKit Num

/-- Go's table of spaces is as the library lays it. -/
def SpcOk (w : World) : Prop := Lib.TabIs Tryz.prog w "strings.asciiSpace" .u8 Lib.asciiSpaceTab
def resT : List UInt8 := [97, 108, 108, 32, 97, 110, 121, 32, 114, 101, 112, 111, 114, 116, 101, 114, 115, 32, 100, 101, 112, 97, 114, 116, 109, 101, 110, 116, 115, 32, 121, 101, 97, 114, 115, 32, 119, 105, 116, 104, 105, 110, 32, 110, 111, 116, 102, 105, 114, 115, 116, 32, 115, 97, 121, 115, 32, 97, 108, 119, 97, 121, 115, 32, 111, 102]
theorem res_fields : Lib.fields resT = resB := by decide
theorem res_ascii : ∀ (j : Nat) b, resT[j]? = some b → b.toNat < 128 := by
  intro j b h
  have : ∀ b ∈ resT, b.toNat < 128 := by decide
  exact this b (List.mem_of_getElem? h)
end Go.Proofs.YtaljcojkcgjmcaaGreatDoor
namespace Go.Proofs.YtaljcojkcgjmcaaGreatDoor
open Go.RowKit Num

/-- The reference's test of a term. -/
def rtermB (t : Trm) : Bool :=
  let counted := betwB t.num 64
  let plain := decide (t.yrs = 0 ∧ t.field.size = 0 ∧ t.text.size = 0)
  if t.kind = 1 ∨ t.kind = 2 then decide (2 ≤ t.args.length) && decide (t.num = 0) && plain
  else if t.kind = 3 ∨ t.kind = 4 then decide (t.args.length = 0) && counted && plain
  else if t.kind = 5 then decide (t.args.length = 0) && counted && decide (0 ≤ t.yrs ∧ t.yrs ≤ 100) && decide (t.field.size = 0 ∧ t.text.size = 0)
  else if t.kind = 6 ∨ t.kind = 8 then decide (t.args.length = 0) && decide (t.num = 0) && plain
  else if t.kind = 7 then decide (t.args.length = 0) && counted && decide (t.yrs = 0) && nameB (blOf t.field) && betwB t.text.size 256 && !(blOf t.text).contains 34
  else false
theorem rterm_eq (t : Trm) : rtermB t = (bareB t && argsOk t) := by
  have hsev : severalB t.kind = decide (t.kind = 1 ∨ t.kind = 2) := rfl
  rw [Bool.eq_iff_iff]
  unfold rtermB bareB argsOk
  rw [hsev]
  simp only
  by_cases c1 : t.kind = 1 ∨ t.kind = 2
  · have c1' : t.kind = 1 ∨ t.kind = 2 ∨ t.kind = 6 ∨ t.kind = 8 := by omega
    rw [if_pos c1, if_pos c1']
    simp only [c1, Bool.and_eq_true, decide_eq_true_eq, decide_true, beq_iff_eq, ne_eq]
    constructor
    · rintro ⟨⟨h1, h2⟩, h3, h4, h5⟩
      exact ⟨⟨h2, h3, h4, h5⟩, (decide_eq_true (by omega : 0 < t.args.length)).symm, by omega⟩
    · rintro ⟨⟨h2, h3, h4, h5⟩, h6, h7⟩
      have := of_decide_eq_true h6.symm
      exact ⟨⟨by omega, h2⟩, h3, h4, h5⟩
  · rw [if_neg c1]
    have hs : decide (t.kind = 1 ∨ t.kind = 2) = false := decide_eq_false c1
    rw [hs]
    have harg : ((false == decide (0 < t.args.length)) && decide (t.args.length ≠ 1)) = true ↔ t.args.length = 0 := by
      simp only [Bool.and_eq_true, beq_iff_eq, decide_eq_true_eq]
      constructor
      · rintro ⟨h1, _⟩
        have := of_decide_eq_false h1.symm
        omega
      · intro h
        exact ⟨(decide_eq_false (by omega)).symm, by omega⟩
    rw [Bool.and_eq_true, harg]
    by_cases c3 : t.kind = 3 ∨ t.kind = 4
    · rw [if_pos c3, if_neg (by omega), if_pos c3]
      simp only [Bool.and_eq_true, decide_eq_true_eq]
      constructor
      · rintro ⟨⟨h1, h2⟩, h3⟩; exact ⟨⟨h2, h3⟩, h1⟩
      · rintro ⟨⟨h2, h3⟩, h1⟩; exact ⟨⟨h1, h2⟩, h3⟩
    · rw [if_neg c3]
      by_cases c5 : t.kind = 5
      · rw [if_pos c5, if_neg (by omega), if_neg c3, if_pos c5]
        simp only [Bool.and_eq_true, decide_eq_true_eq]
        constructor
        · rintro ⟨⟨⟨h1, h2⟩, h3⟩, h4⟩; exact ⟨⟨h2, h3.1, h3.2, h4.1, h4.2⟩, h1⟩
        · rintro ⟨⟨h2, h3, h4, h5, h6⟩, h1⟩; exact ⟨⟨⟨h1, h2⟩, h3, h4⟩, h5, h6⟩
      · rw [if_neg c5]
        by_cases c6 : t.kind = 6 ∨ t.kind = 8
        · rw [if_pos c6, if_pos (by omega)]
          simp only [Bool.and_eq_true, decide_eq_true_eq]
          constructor
          · rintro ⟨⟨h1, h2⟩, h3⟩; exact ⟨⟨h2, h3⟩, h1⟩
          · rintro ⟨⟨h2, h3⟩, h1⟩; exact ⟨⟨h1, h2⟩, h3⟩
        · rw [if_neg c6]
          by_cases c7 : t.kind = 7
          · rw [if_pos c7, if_neg (by omega), if_neg c3, if_neg c5, if_pos c7]
            simp only [Bool.and_eq_true, decide_eq_true_eq]
            constructor
            · rintro ⟨⟨⟨⟨⟨h1, h2⟩, h3⟩, h4⟩, h5⟩, h6⟩; exact ⟨⟨⟨⟨⟨h2, h4⟩, h5⟩, h6⟩, h3⟩, h1⟩
            · rintro ⟨⟨⟨⟨⟨h2, h4⟩, h5⟩, h6⟩, h3⟩, h1⟩; exact ⟨⟨⟨⟨⟨h1, h2⟩, h3⟩, h4⟩, h5⟩, h6⟩
          · rw [if_neg c7, if_neg (by omega), if_neg c3, if_neg c5, if_neg c7]
            simp
/-- What the reference's walk gives: the number of the term behind, or -1. -/
def walkI (o : Option (Tree × Nat)) : Int := match o with
  | none => -1
  | some (_, n) => (n : Int)
theorem walk_whole {L : List Trm} : (decide (1 ≤ L.length) && decide (L.length ≤ 24) && decide (walkI (growF L 6 0) = (L.length : Int))) = (rootF L).isSome := by
  unfold rootF
  by_cases h24 : L.length ≤ 24
  · rw [if_pos h24]
    rcases hg : growF L 6 0 with _ | ⟨T, n⟩
    · have e : walkI (none : Option (Tree × Nat)) = -1 := rfl
      rw [e]
      have : ¬ (-1 : Int) = (L.length : Int) := by omega
      simp [this]
    · have e : walkI (some (T, n)) = (n : Int) := rfl
      rw [e]
      have h1 := (flat_grow 6 hg).2
      by_cases hn : n = L.length
      · simp only [hn, if_true]
        have : 1 ≤ L.length := by omega
        simp [h24, this]
      · simp only [if_neg hn]
        have : ¬ (n : Int) = (L.length : Int) := by omega
        simp [this]
  · rw [if_neg h24]
    simp [h24]
end Go.Proofs.YtaljcojkcgjmcaaGreatDoor
namespace Go.Proofs.YtaljcojkcgjmcaaGreatDoor
open Go.RowKit Num

/-- No years, no field, no text. -/
def plainB (y : Int) (f x : ByteArray) : Bool := decide (y = 0 ∧ f.size = 0 ∧ x.size = 0)
theorem ne_empty {s : ByteArray} (h : s.size ≠ 0) : (s.toList == []) = false ∧ ¬ s.toList = [] ∧ (!s.toList.isEmpty) = true := by
  rw [ByteArray.toList_eq]
  cases hl : s.data.toList with
  | nil => exact absurd (by rw [← blOf_len]; show s.data.toList.length = 0; rw [hl]; rfl) h
  | cons a r => exact ⟨rfl, by simp, rfl⟩
theorem eq_empty {s : ByteArray} (h : s.size = 0) : s = ⟨#[]⟩ := blOf_inj (List.eq_nil_of_length_eq_zero (by rw [blOf_len]; exact h))
end Go.Proofs.YtaljcojkcgjmcaaGreatDoor
namespace Go.Proofs.YtaljcojkcgjmcaaGreatDoor
open Go.RowKit Num

theorem growA_at {l : List Trm} {d : Nat} : ∀ {ks : List Int} {nx : Nat} {xs : List Tree} {n : Nat}, growA (growF l d) ks nx = some (xs, n) → ∀ (j : Nat) (a : Int), ks[j]? = some a → ∃ (k : Nat) (x : Tree) (m : Nat), a = (k : Int) ∧ growF l d k = some (x, m) ∧ xs[j]? = some x := by
  intro ks
  induction ks with
  | nil => intro nx xs n h j a ha; simp at ha
  | cons k ks ih =>
    intro nx xs n h j a ha
    unfold growA at h
    split at h
    · rename_i hk
      split at h
      · cases h
      · rename_i x af hx
        split at h
        · cases h
        · rename_i xs' n' hr
          injection h with h; injection h with h1 h2; subst h1
          cases j with
          | zero =>
            simp at ha
            exact ⟨nx, x, af, by rw [← ha]; exact hk, hx, rfl⟩
          | succ j =>
            simp at ha
            obtain ⟨k', x', m', e1, e2, e3⟩ := ih hr j a ha
            exact ⟨k', x', m', e1, e2, by simpa using e3⟩
    · cases h
/-- The arguments' texts, in their order. -/
theorem growA_txts {l : List Trm} {d : Nat} {ks : List Int} {nx : Nat} {xs : List Tree} {n : Nat} (h : growA (growF l d) ks nx = some (xs, n)) : xs.length = ks.length := growA_len h
end Go.Proofs.YtaljcojkcgjmcaaGreatDoor
namespace Go.Proofs.YtaljcojkcgjmcaaGreatDoor
open Go.RowKit Num

def walkR (o : Option (List Tree × Nat)) : Int := match o with
  | none => -1
  | some (_, n) => (n : Int)
theorem walkR_cons (g : Nat → Option (Tree × Nat)) (a : Int) (r : List Int) (nx : Nat) :
    walkR (growA g (a :: r) nx) = if a = (nx : Int) then (match g nx with | none => -1 | some (_, af) => walkR (growA g r af)) else -1 := by
  conv => lhs; unfold growA
  by_cases h : a = (nx : Int)
  · rw [if_pos h, if_pos h]
    cases g nx with
    | none => rfl
    | some p =>
      obtain ⟨x, af⟩ := p
      simp only
      cases growA g r af with
      | none => rfl
      | some q => obtain ⟨xs, n⟩ := q; rfl
  · rw [if_neg h, if_neg h]; rfl
theorem walkI_growF {l : List Trm} {d k : Nat} {t : Trm} (h : l[k]? = some t) : walkI (growF l (d + 1) k) = if rtermB t then walkR (growA (growF l d) t.args (k + 1)) else -1 := by
  unfold growF
  rw [h, rterm_eq]
  simp only
  split
  · cases growA (growF l d) t.args (k + 1) with
    | none => rfl
    | some q => obtain ⟨xs, n⟩ := q; rfl
  · rfl
theorem growF_after {l : List Trm} : ∀ {d k : Nat} {T : Tree} {n : Nat}, growF l d k = some (T, n) → n ≤ l.length := by
  intro d k T n h
  have := (flat_grow d h).2
  omega
theorem LibOk_of {w w' : World} {N : Nat} (h : LibOk w) (hb : Below N w w') (hN : N = w.heap.size) : LibOk w' := by subst hN; exact h.later hb
end Go.Proofs.YtaljcojkcgjmcaaGreatDoor
namespace Go.Proofs.YtaljcojkcgjmcaaGreatDoor
open Go.RowKit Num

end Go.Proofs.YtaljcojkcgjmcaaGreatDoor
namespace Go.Proofs.YtaljcojkcgjmcaaGreatDoor
open Go.RowKit Num

theorem blk_second (w : World) (o1 : Obj) (T : TypeId) (ys : Array Value) : Blk ((w.alloc o1).alloc (.cells ys T)) (w.heap.size + 1) T ys := by
  have := Blk.new (w.alloc o1) T ys
  rwa [World.size_alloc] at this
end Go.Proofs.YtaljcojkcgjmcaaGreatDoor
namespace Go.Proofs.YtaljcojkcgjmcaaGreatDoor
open Go.RowKit Num

theorem growF_split {L : List Trm} {d k : Nat} {T : Tree} {m : Nat} (h : growF L (d + 1) k = some (T, m)) : ∃ t xs, L[k]? = some t ∧ T = .node t xs ∧ rtermB t = true ∧ growA (growF L d) t.args (k + 1) = some (xs, m) := by
  unfold growF at h
  split at h
  · cases h
  · rename_i t ht
    split at h
    · rename_i hc
      split at h
      · cases h
      · rename_i xs n hx
        injection h with h; injection h with h1 h2
        exact ⟨t, xs, ht, h1.symm, by rw [rterm_eq]; exact hc, by rw [hx, h2]⟩
    · cases h
theorem rterm_kind {t : Trm} (h : rtermB t = true) : ((t.kind = 1 ∨ t.kind = 2) ∧ t.num = 0 ∧ 2 ≤ t.args.length) ∨ ((t.kind = 3 ∨ t.kind = 4) ∧ 0 ≤ t.num ∧ t.num ≤ 100) ∨ (t.kind = 5 ∧ 0 ≤ t.num ∧ t.num ≤ 100 ∧ 0 ≤ t.yrs ∧ t.yrs ≤ 100) ∨ ((t.kind = 6 ∨ t.kind = 8) ∧ t.num = 0) ∨
    (t.kind = 7 ∧ 0 ≤ t.num ∧ t.num ≤ 100 ∧ t.field.size ≤ 1000 ∧ t.text.size ≤ 1000) := by
  unfold rtermB at h
  simp only at h
  by_cases c1 : t.kind = 1 ∨ t.kind = 2
  · rw [if_pos c1] at h
    simp only [Bool.and_eq_true, decide_eq_true_eq] at h
    exact .inl ⟨c1, h.1.2, h.1.1⟩
  · rw [if_neg c1] at h
    by_cases c3 : t.kind = 3 ∨ t.kind = 4
    · rw [if_pos c3] at h
      simp only [Bool.and_eq_true, decide_eq_true_eq, betwB] at h
      exact .inr (.inl ⟨c3, by omega, by omega⟩)
    · rw [if_neg c3] at h
      by_cases c5 : t.kind = 5
      · rw [if_pos c5] at h
        simp only [Bool.and_eq_true, decide_eq_true_eq, betwB] at h
        exact .inr (.inr (.inl ⟨c5, by omega, by omega, by omega, by omega⟩))
      · rw [if_neg c5] at h
        by_cases c6 : t.kind = 6 ∨ t.kind = 8
        · rw [if_pos c6] at h
          simp only [Bool.and_eq_true, decide_eq_true_eq] at h
          exact .inr (.inr (.inr (.inl ⟨c6, by omega⟩)))
        · rw [if_neg c6] at h
          by_cases c7 : t.kind = 7
          · rw [if_pos c7] at h
            simp only [Bool.and_eq_true, decide_eq_true_eq, betwB] at h
            have hn := name_len h.1.1.2
            rw [blOf_len] at hn
            exact .inr (.inr (.inr (.inr ⟨c7, by omega, by omega, by omega, by omega⟩)))
          · rw [if_neg c7] at h; cases h
end Go.Proofs.YtaljcojkcgjmcaaGreatDoor

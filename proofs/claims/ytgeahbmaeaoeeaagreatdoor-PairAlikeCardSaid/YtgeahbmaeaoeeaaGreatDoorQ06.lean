/- Plain: conditions, their trees and texts, and a reader of texts. No program stands in it. Plain: the reader of conditions, and that it reads what was printed. No program stands in it. -/
import Derived.Lib.ItoaNum
import Derived.Lib.AtoiAll
import Derived.Lib.Join
set_option linter.unusedVariables false
set_option linter.unusedSimpArgs false
namespace Go.Proofs.YtgeahbmaeaoeeaaGreatDoor
open Go

/-- A term of a condition. -/
structure Trm where
  kind : Int
  num : Int
  yrs : Int
  field : ByteArray
  text : ByteArray
  args : List Int
inductive Tree where
  | node (t : Trm) (xs : List Tree)
def mkT (k n y : Int) (f x : ByteArray) : Trm := ⟨k, n, y, f, x, []⟩
def bsOf (l : List UInt8) : ByteArray := ⟨l.toArray⟩
abbrev blOf (s : ByteArray) : List UInt8 := s.data.toList
theorem blOf_bsOf (l : List UInt8) : blOf (bsOf l) = l := rfl
theorem bsOf_blOf (s : ByteArray) : bsOf (blOf s) = s := by cases s; simp [bsOf, blOf]
theorem blOf_inj {s t : ByteArray} (h : blOf s = blOf t) : s = t := by rw [← bsOf_blOf s, ← bsOf_blOf t, h]

/-! ### Bytes and words -/
def lowB (c : UInt8) : Bool := decide (97 ≤ c.toNat) && decide (c.toNat ≤ 122)
def inWB (c : UInt8) : Bool := lowB c || (decide (48 ≤ c.toNat) && decide (c.toNat ≤ 57)) || c == 95
def spB (c : UInt8) : Bool := c == 32 || c == 10
def signB (c : UInt8) : Bool := c == 40 || c == 41 || c == 44
/-- The words of the language with which terms begin. -/
def nmB : List (List UInt8) := [[], [97,108,108], [97,110,121], [114,101,112,111,114,116,101,114,115], [100,101,112,97,114,116,109,101,110,116,115], [121,101,97,114,115], [110,111,116,102,105,114,115,116], [115,97,121,115], [97,108,119,97,121,115]]
def ofB : List UInt8 := [111, 102]
def resB : List (List UInt8) := [[97,108,108], [97,110,121], [114,101,112,111,114,116,101,114,115], [100,101,112,97,114,116,109,101,110,116,115], [121,101,97,114,115], [119,105,116,104,105,110], [110,111,116,102,105,114,115,116], [115,97,121,115], [97,108,119,97,121,115], [111,102]]
def nameB (l : List UInt8) : Bool := decide (1 ≤ l.length) && decide (l.length ≤ 32) && lowB (l.headD 0) && !resB.contains l && l.all inWB
def idxB (w : List UInt8) : List (List UInt8) → Int
  | [] => -1
  | x :: r => if x = w then 0 else if idxB w r = -1 then -1 else idxB w r + 1
def kindB (w : List UInt8) : Int := idxB w nmB
def severalB (k : Int) : Bool := decide (k = 1 ∨ k = 2)
def betwB (n top : Int) : Bool := decide (1 ≤ n ∧ n ≤ top)
def bareB (t : Trm) : Bool :=
  if t.kind = 1 ∨ t.kind = 2 ∨ t.kind = 6 ∨ t.kind = 8 then decide (t.num = 0 ∧ t.yrs = 0 ∧ t.field.size = 0 ∧ t.text.size = 0)
  else if t.kind = 3 ∨ t.kind = 4 then betwB t.num 64 && decide (t.yrs = 0 ∧ t.field.size = 0 ∧ t.text.size = 0)
  else if t.kind = 5 then betwB t.num 64 && decide (0 ≤ t.yrs ∧ t.yrs ≤ 100 ∧ t.field.size = 0 ∧ t.text.size = 0)
  else if t.kind = 7 then betwB t.num 64 && nameB (blOf t.field) && betwB t.text.size 256 && !(blOf t.text).contains 34 && decide (t.yrs = 0)
  else false
def argsOk (t : Trm) : Bool := severalB t.kind == decide (0 < t.args.length) && decide (t.args.length ≠ 1)

/-! ### Trees of terms -/
def growA (g : Nat → Option (Tree × Nat)) : List Int → Nat → Option (List Tree × Nat)
  | [], nx => some ([], nx)
  | k :: ks, nx => if k = (nx : Int) then (match g nx with
    | none => none
    | some (x, af) => match growA g ks af with
      | none => none
      | some (xs, n) => some (x :: xs, n)) else none
def growF (l : List Trm) : Nat → Nat → Option (Tree × Nat)
  | 0, _ => none
  | d + 1, at_ => match l[at_]? with
    | none => none
    | some t => if bareB t && argsOk t then (match growA (growF l d) t.args (at_ + 1) with
      | none => none
      | some (xs, n) => some (.node t xs, n)) else none
/-- The tree of a valid condition. -/
def rootF (l : List Trm) : Option Tree := if l.length ≤ 24 then (match growF l 6 0 with
  | none => none
  | some (t, n) => if n = l.length then some t else none) else none
def GoodT : Nat → Tree → Prop
  | 0, _ => False
  | d + 1, .node t xs => bareB t = true ∧ severalB t.kind = decide (0 < xs.length) ∧ xs.length ≠ 1 ∧ ∀ x ∈ xs, GoodT d x

theorem growA_len {g : Nat → Option (Tree × Nat)} : ∀ {ks nx xs n}, growA g ks nx = some (xs, n) → xs.length = ks.length := by
  intro ks
  induction ks with
  | nil => intro nx xs n h; simp [growA] at h; obtain ⟨rfl, _⟩ := h; rfl
  | cons k ks ih =>
    intro nx xs n h
    unfold growA at h
    split at h
    · split at h
      · cases h
      · rename_i x af hg
        split at h
        · cases h
        · rename_i xs' n' ha
          injection h with h; injection h with h1 h2; subst h1
          simp [ih ha]
    · cases h
theorem growA_good {g : Nat → Option (Tree × Nat)} {G : Tree → Prop} (hg : ∀ nx x af, g nx = some (x, af) → G x) : ∀ {ks nx xs n}, growA g ks nx = some (xs, n) → ∀ x ∈ xs, G x := by
  intro ks
  induction ks with
  | nil => intro nx xs n h; simp [growA] at h; obtain ⟨rfl, _⟩ := h; simp
  | cons k ks ih =>
    intro nx xs n h
    unfold growA at h
    split at h
    · split at h
      · cases h
      · rename_i x af hx
        split at h
        · cases h
        · rename_i xs' n' ha
          injection h with h; injection h with h1 h2; subst h1
          intro y hy
          rcases List.mem_cons.1 hy with rfl | hy
          · exact hg _ _ _ hx
          · exact ih ha y hy
    · cases h
theorem grow_good {l : List Trm} : ∀ d {at_ T n}, growF l d at_ = some (T, n) → GoodT d T := by
  intro d
  induction d with
  | zero => intro at_ T n h; simp [growF] at h
  | succ d ih =>
    intro at_ T n h
    unfold growF at h
    split at h
    · cases h
    · rename_i t ht
      split at h
      · rename_i hb
        split at h
        · cases h
        · rename_i xs n' ha
          injection h with h; injection h with h1 h2; subst h1
          rw [Bool.and_eq_true] at hb
          obtain ⟨hb1, hb2⟩ := hb
          unfold argsOk at hb2
          rw [Bool.and_eq_true] at hb2
          have hl := growA_len ha
          refine ⟨hb1, ?_, ?_, growA_good (fun _ _ _ h => ih h) ha⟩
          · rw [hl]; simpa using hb2.1
          · rw [hl]; simpa using hb2.2
      · cases h

/-! ### The terms of a tree -/
def flatA (g : Nat → Tree → List Trm) : Nat → List Tree → List Int × List Trm
  | _, [] => ([], [])
  | at_, x :: xs => ((at_ : Int) :: (flatA g (at_ + (g at_ x).length) xs).1, g at_ x ++ (flatA g (at_ + (g at_ x).length) xs).2)
def flatT : Nat → Nat → Tree → List Trm
  | 0, _, _ => []
  | d + 1, at_, .node t xs => { t with args := t.args ++ (flatA (flatT d) (at_ + 1) xs).1 } :: (flatA (flatT d) (at_ + 1) xs).2
/-- The tree as a reader makes it: without the numbers of the terms behind. -/
def eraseF : Nat → Tree → Tree
  | 0, T => T
  | d + 1, .node t xs => .node { t with args := [] } (xs.map (eraseF d))

theorem drop_take_app {α : Type} (l : List α) (a b c : Nat) (h1 : a ≤ b) (h2 : b ≤ c) : (l.drop a).take (c - a) = (l.drop a).take (b - a) ++ (l.drop b).take (c - b) := by
  rw [show c - a = (b - a) + (c - b) by omega, List.take_add, List.drop_drop, show a + (b - a) = b by omega]
theorem slice_len {α : Type} (l : List α) (a n : Nat) (h1 : a ≤ n) (h2 : n ≤ l.length) : ((l.drop a).take (n - a)).length = n - a := by
  rw [List.length_take, List.length_drop]; omega
theorem flatA_grow {l : List Trm} {d : Nat} (hd : ∀ {at_ T n}, growF l d at_ = some (T, n) → flatT d at_ (eraseF d T) = (l.drop at_).take (n - at_) ∧ at_ < n ∧ n ≤ l.length) :
    ∀ {ks nx xs n}, nx ≤ l.length → growA (growF l d) ks nx = some (xs, n) → (flatA (flatT d) nx (xs.map (eraseF d))).1 = ks ∧ (flatA (flatT d) nx (xs.map (eraseF d))).2 = (l.drop nx).take (n - nx) ∧ nx ≤ n ∧ n ≤ l.length := by
  intro ks
  induction ks with
  | nil => intro nx xs n hn h; simp [growA] at h; obtain ⟨rfl, rfl⟩ := h; simp [flatA]; exact hn
  | cons k ks ih =>
    intro nx xs n hn h
    unfold growA at h
    split at h
    · rename_i hk
      split at h
      · cases h
      · rename_i x af hx
        split at h
        · cases h
        · rename_i xs' n' ha
          injection h with h; injection h with h1 h2; subst h1; subst h2
          obtain ⟨e1, e2, e3⟩ := hd hx
          obtain ⟨f1, f2, f3, f4⟩ := ih e3 ha
          have hl : (flatT d nx (eraseF d x)).length = af - nx := by rw [e1]; exact slice_len l nx af (by omega) e3
          simp only [List.map_cons, flatA]
          rw [hl, show nx + (af - nx) = af by omega]
          refine ⟨by rw [f1, hk], ?_, by omega, f4⟩
          rw [e1, f2]
          exact (drop_take_app l nx af _ (by omega) f3).symm
    · cases h
/-- What is read of the terms is them again. -/
theorem flat_grow {l : List Trm} : ∀ d {at_ T n}, growF l d at_ = some (T, n) → flatT d at_ (eraseF d T) = (l.drop at_).take (n - at_) ∧ at_ < n ∧ n ≤ l.length := by
  intro d
  induction d with
  | zero => intro at_ T n h; simp [growF] at h
  | succ d ih =>
    intro at_ T n h
    unfold growF at h
    split at h
    · cases h
    · rename_i t ht
      have hlt : at_ < l.length := by
        rcases Nat.lt_or_ge at_ l.length with h | h
        · exact h
        · rw [List.getElem?_eq_none h] at ht; cases ht
      split at h
      · split at h
        · cases h
        · rename_i xs n' ha
          injection h with h; injection h with h1 h2; subst h1; subst h2
          obtain ⟨f1, f2, f3, f4⟩ := flatA_grow ih (by omega) ha
          refine ⟨?_, by omega, f4⟩
          simp only [eraseF, flatT, List.nil_append]
          rw [f1, f2, show n' - at_ = (n' - (at_ + 1)) + 1 by omega, List.drop_eq_getElem_cons hlt, List.take_succ_cons]
          rw [List.getElem?_eq_getElem hlt] at ht
          injection ht with ht
          rw [ht]
      · cases h
theorem flatA_congr {g g' : Nat → Tree → List Trm} : ∀ {xs ys : List Tree} {at_ : Nat}, xs.length = ys.length → (∀ (i : Nat) (x y : Tree), xs[i]? = some x → ys[i]? = some y → ∀ a, g a x = g' a y) → flatA g at_ xs = flatA g' at_ ys := by
  intro xs
  induction xs with
  | nil => intro ys at_ hl h; cases ys with | nil => rfl | cons y ys => simp at hl
  | cons x xs ih =>
    intro ys at_ hl h
    cases ys with
    | nil => simp at hl
    | cons y ys =>
      have h0 := h 0 x y rfl rfl
      simp only [flatA]
      rw [h0 at_, ih (by simpa using hl) (fun i a b h1 h2 => h (i + 1) a b (by simpa using h1) (by simpa using h2))]
theorem flat_mono : ∀ d f {T at_}, GoodT d T → d ≤ f → flatT f at_ (eraseF f T) = flatT d at_ (eraseF d T) := by
  intro d
  induction d with
  | zero => intro f T at_ h; exact h.elim
  | succ d ih =>
    intro f T at_ h hf
    obtain ⟨f, rfl⟩ : ∃ g, f = g + 1 := ⟨f - 1, by omega⟩
    obtain ⟨t, xs⟩ := T
    obtain ⟨_, _, _, hx⟩ := h
    have e : flatA (flatT f) (at_ + 1) (xs.map (eraseF f)) = flatA (flatT d) (at_ + 1) (xs.map (eraseF d)) := by
      refine flatA_congr (by simp) (fun i a b h1 h2 n => ?_)
      rw [List.getElem?_map] at h1 h2
      obtain ⟨x, hx1, rfl⟩ := Option.map_eq_some_iff.1 h1
      rw [hx1] at h2
      injection h2 with h2
      rw [← h2]
      exact ih f (hx x (List.mem_of_getElem? hx1)) (by omega)
    simp only [eraseF, flatT]
    rw [e]
theorem erase_mono : ∀ d f {T}, GoodT d T → d ≤ f → eraseF f T = eraseF d T := by
  intro d
  induction d with
  | zero => intro f T h; exact h.elim
  | succ d ih =>
    intro f T h hf
    obtain ⟨f, rfl⟩ : ∃ g, f = g + 1 := ⟨f - 1, by omega⟩
    obtain ⟨t, xs⟩ := T
    obtain ⟨_, _, _, hx⟩ := h
    simp only [eraseF]
    congr 1
    apply List.map_congr_left
    intro x hm
    exact ih f (hx x hm) (by omega)
end Go.Proofs.YtgeahbmaeaoeeaaGreatDoor
namespace Go.Proofs.YtgeahbmaeaoeeaaGreatDoor
open Go

def spaceB (r : List UInt8) : List UInt8 := r.dropWhile spB
def wordB : List UInt8 → List UInt8
  | [] => []
  | c :: cs => if signB c then [c] else if c = 34 then (if 34 ∈ cs then 34 :: (cs.takeWhile (· ≠ 34) ++ [34]) else []) else (c :: cs).takeWhile inWB
theorem wordB_cons (c : UInt8) (cs : List UInt8) : wordB (c :: cs) = if signB c then [c] else if c = 34 then (if 34 ∈ cs then 34 :: (cs.takeWhile (· ≠ 34) ++ [34]) else []) else (c :: cs).takeWhile inWB := rfl
def takeB (p : List UInt8 → Bool) (r : List UInt8) : Option (List UInt8 × List UInt8) :=
  if wordB r ≠ [] ∧ p (wordB r) = true then some (wordB r, spaceB (r.drop (wordB r).length)) else none
def isNumB (w : List UInt8) : Option Int := match Lib.atoiAll w with
  | .ok n => if w.length ≤ 3 ∧ Lib.itoa n = w then some n else none
  | _ => none
def numB' (w : List UInt8) : Bool := (isNumB w).isSome
def numF (r : List UInt8) : Option (Int × List UInt8) := match takeB numB' r with
  | none => none
  | some (w, q) => match isNumB w with
    | none => none
    | some n => some (n, q)

inductive PR where
  | ok (xs : List Tree) (r : List UInt8)
  | bad (r : List UInt8)
inductive Md where
  | cond
  | args
  | more (acc : List Tree)
def E0 : ByteArray := ⟨#[]⟩
def PF : Nat → Md → List UInt8 → PR
  | 0, _, r => .bad r
  | f + 1, .cond, r => match takeB (fun w => decide (0 < kindB w)) r with
    | none => .bad r
    | some (w, r1) =>
      if kindB w = 1 ∨ kindB w = 2 then (match PF f .args r1 with
        | .bad q => .bad q
        | .ok xs q => .ok [.node (mkT (kindB w) 0 0 E0 E0) xs] q)
      else if kindB w = 3 ∨ kindB w = 4 then (match numF r1 with
        | none => .bad r1
        | some (n, q) => .ok [.node (mkT (kindB w) n 0 E0 E0) []] q)
      else if kindB w = 5 then (match numF r1 with
        | none => .bad r1
        | some (y, r2) => match takeB (· == ofB) r2 with
          | none => .bad r2
          | some (_, r3) => match numF r3 with
            | none => .bad r3
            | some (n, q) => .ok [.node (mkT 5 n y E0 E0) []] q)
      else if kindB w = 7 then (match takeB nameB r1 with
        | none => .bad r1
        | some (fd, r2) => match takeB (fun x => x.headD 0 == 34) r2 with
          | none => .bad r2
          | some (tx, r3) => match takeB (· == ofB) r3 with
            | none => .bad r3
            | some (_, r4) => match numF r4 with
              | none => .bad r4
              | some (n, q) => .ok [.node (mkT 7 n 0 (bsOf fd) (bsOf ((tx.drop 1).take (tx.length - 2)))) []] q)
      else .ok [.node (mkT (kindB w) 0 0 E0 E0) []] r1
  | f + 1, .args, r => match takeB (· == [40]) r with
    | none => .bad r
    | some (_, r1) => match PF f .cond r1 with
      | .bad q => .bad q
      | .ok xs r2 => match takeB (· == [44]) r2 with
        | none => .bad r2
        | some (_, r3) => match PF f .cond r3 with
          | .bad q => .bad q
          | .ok ys r4 => PF f (.more (xs ++ ys)) r4
  | f + 1, .more acc, r => if wordB r = [44] then (match takeB (· == [44]) r with
      | none => .bad r
      | some (_, r1) => match PF f .cond r1 with
        | .bad q => .bad q
        | .ok xs r2 => PF f (.more (acc ++ xs)) r2)
    else (match takeB (· == [41]) r with
      | none => .bad r
      | some (_, r1) => .ok acc r1)
/-- What the reader makes of a text: a tree, or the place where it fails. -/
def parseF (s : List UInt8) : Tree ⊕ Nat := match PF (s.length + 1) .cond (spaceB s) with
  | .bad q => .inr (s.length - q.length)
  | .ok (t :: _) [] => .inl t
  | .ok _ q => .inr (s.length - q.length)

/-! ### The text of a tree; each sign with spaces about it -/
def joinS (sep : List UInt8) : List (List UInt8) → List UInt8
  | [] => []
  | a :: r => a ++ Lib.joinTail sep r
def nmK (k : Int) : List UInt8 := nmB.getD k.toNat []
def textG (pre post : List UInt8) : Nat → Tree → List UInt8
  | 0, _ => []
  | d + 1, .node t xs =>
    if t.kind = 1 ∨ t.kind = 2 then nmK t.kind ++ (pre ++ [40] ++ post) ++ joinS (pre ++ [44] ++ post ++ [32]) (xs.map (textG pre post d)) ++ (pre ++ [41] ++ post)
    else if t.kind = 3 ∨ t.kind = 4 then nmK t.kind ++ [32] ++ Lib.itoa t.num
    else if t.kind = 5 then nmK 5 ++ [32] ++ Lib.itoa t.yrs ++ [32] ++ ofB ++ [32] ++ Lib.itoa t.num
    else if t.kind = 7 then nmK 7 ++ [32] ++ blOf t.field ++ [32, 34] ++ blOf t.text ++ [34, 32] ++ ofB ++ [32] ++ Lib.itoa t.num
    else nmK t.kind

/-! ### Reading words -/
def Bnd (q : List UInt8) : Prop := q = [] ∨ inWB (q.headD 0) = false
theorem sp_not_in {c : UInt8} (h : spB c = true) : inWB c = false := by
  unfold spB at h; simp at h; rcases h with rfl | rfl <;> decide
theorem sign_not_in {c : UInt8} (h : signB c = true) : inWB c = false := by
  unfold signB at h; simp at h; rcases h with (rfl | rfl) | rfl <;> decide
theorem in_not_sign {c : UInt8} (h : inWB c = true) : signB c = false ∧ c ≠ 34 ∧ spB c = false := by
  refine ⟨?_, ?_, ?_⟩
  · cases e : signB c
    · rfl
    · rw [sign_not_in e] at h; cases h
  · rintro rfl; revert h; decide
  · cases e : spB c
    · rfl
    · rw [sp_not_in e] at h; cases h
theorem takeWhile_app {p : UInt8 → Bool} {a q : List UInt8} (h : ∀ c ∈ a, p c = true) (hq : q = [] ∨ p (q.headD 0) = false) : (a ++ q).takeWhile p = a := by
  induction a with
  | nil => rcases hq with rfl | h
           · rfl
           · cases q with
             | nil => rfl
             | cons c q => simp at h; simp [h]
  | cons c a ih =>
    rw [List.cons_append, List.takeWhile_cons, if_pos (h c (by simp)), ih (fun d hd => h d (by simp [hd]))]
theorem word_in {a q : List UInt8} (h0 : a ≠ []) (h : ∀ c ∈ a, inWB c = true) (hq : Bnd q) : wordB (a ++ q) = a := by
  cases a with
  | nil => exact absurd rfl h0
  | cons c a =>
    obtain ⟨h1, h2, _⟩ := in_not_sign (h c (by simp))
    rw [List.cons_append, wordB_cons, if_neg (by rw [h1]; decide), if_neg h2]
    exact takeWhile_app h hq
theorem word_sign {c : UInt8} {q : List UInt8} (h : signB c = true) : wordB (c :: q) = [c] := by rw [wordB_cons, if_pos h]
theorem word_quote {a q : List UInt8} (h : a.contains 34 = false) : wordB (34 :: (a ++ 34 :: q)) = 34 :: (a ++ [34]) := by
  rw [wordB_cons, if_neg (by decide), if_pos rfl, if_pos (by simp)]
  congr 2
  have h2 : ∀ c ∈ a, (decide (c ≠ 34)) = true := by
    intro c hc; simp; rintro rfl
    have : a.contains 34 = true := by simpa using hc
    rw [this] at h; cases h
  have := takeWhile_app (p := fun c => decide (c ≠ 34)) (q := 34 :: q) h2 (.inr (by simp))
  simpa using this
theorem space_app {a q : List UInt8} (h : ∀ c ∈ a, spB c = true) : spaceB (a ++ q) = spaceB q := by
  induction a with
  | nil => rfl
  | cons c a ih => rw [List.cons_append]; unfold spaceB; rw [List.dropWhile_cons, if_pos (h c (by simp))]; exact ih fun d hd => h d (by simp [hd])
theorem space_stop {q : List UInt8} (h : q = [] ∨ spB (q.headD 0) = false) : spaceB q = q := by
  rcases h with rfl | h
  · rfl
  · cases q with
    | nil => rfl
    | cons c q => simp at h; unfold spaceB; rw [List.dropWhile_cons, if_neg (by simp [h])]
theorem space_idem (q : List UInt8) : spaceB (spaceB q) = spaceB q := by
  induction q with
  | nil => rfl
  | cons c q ih =>
    unfold spaceB at *
    rw [List.dropWhile_cons]
    split
    · exact ih
    · rename_i h; rw [List.dropWhile_cons, if_neg h]
theorem space_len (q : List UInt8) : (spaceB q).length ≤ q.length := by
  induction q with
  | nil => simp [spaceB]
  | cons c q ih =>
    unfold spaceB at *
    rw [List.dropWhile_cons]
    split
    · simp; omega
    · simp
/-- A word is taken: it is read, and what follows without spaces. -/
theorem take_in {p : List UInt8 → Bool} {a q : List UInt8} (h0 : a ≠ []) (h : ∀ c ∈ a, inWB c = true) (hq : Bnd q) (hp : p a = true) : takeB p (a ++ q) = some (a, spaceB q) := by
  unfold takeB
  rw [word_in h0 h hq, if_pos ⟨h0, hp⟩, List.drop_left]
theorem take_sign {p : List UInt8 → Bool} {c : UInt8} {q : List UInt8} (h : signB c = true) (hp : p [c] = true) : takeB p (c :: q) = some ([c], spaceB q) := by
  unfold takeB
  rw [word_sign h, if_pos ⟨by simp, hp⟩]; rfl
theorem take_quote {p : List UInt8 → Bool} {a q : List UInt8} (h : a.contains 34 = false) (hp : p (34 :: (a ++ [34])) = true) : takeB p (34 :: (a ++ 34 :: q)) = some (34 :: (a ++ [34]), spaceB q) := by
  unfold takeB
  rw [word_quote h, if_pos ⟨by simp, hp⟩]
  congr 2
  have e : 34 :: (a ++ 34 :: q) = (34 :: (a ++ [34])) ++ q := by simp
  rw [e, List.drop_left]
theorem take_sp {p : List UInt8 → Bool} {a q : List UInt8} {w r : List UInt8} (h : takeB p q = some (w, r)) : (wordB q ≠ [] ∧ w = wordB q ∧ p w = true ∧ r = spaceB (q.drop w.length)) := by
  unfold takeB at h
  split at h
  · rename_i hc
    injection h with h; injection h with h1 h2
    subst h1
    exact ⟨hc.1, rfl, hc.2, h2.symm⟩
  · cases h
theorem takeWhile_len (p : UInt8 → Bool) (l : List UInt8) : (l.takeWhile p).length ≤ l.length := by
  induction l with
  | nil => simp
  | cons c l ih => rw [List.takeWhile_cons]; split <;> simp; omega
theorem word_len (r : List UInt8) : (wordB r).length ≤ r.length := by
  cases r with
  | nil => simp [wordB]
  | cons c cs =>
    rw [wordB_cons]
    split
    · simp
    · split
      · split
        · rename_i h
          have : ∀ l : List UInt8, 34 ∈ l → (l.takeWhile (· ≠ 34)).length < l.length := by
            intro l
            induction l with
            | nil => intro h; cases h
            | cons d l ih =>
              intro hm
              rw [List.takeWhile_cons]
              split
              · rename_i hd
                simp at hd
                rcases List.mem_cons.1 hm with e | e
                · exact absurd e.symm hd
                · simpa using ih e
              · simp
          have := this cs h
          simp only [List.length_cons, List.length_append, List.length_nil]; omega
        · simp
      · exact takeWhile_len _ _
/-- What is taken makes the rest shorter. -/
theorem take_len {p : List UInt8 → Bool} {q w r : List UInt8} (h : takeB p q = some (w, r)) : r.length < q.length := by
  obtain ⟨h1, rfl, _, rfl⟩ := take_sp (a := []) h
  have h2 := space_len (q.drop (wordB q).length)
  have h3 := word_len q
  rw [List.length_drop] at h2
  have : 0 < (wordB q).length := List.length_pos_iff.2 h1
  omega
theorem num_len {q r : List UInt8} {n : Int} (h : numF q = some (n, r)) : r.length < q.length := by
  unfold numF at h
  split at h
  · cases h
  · rename_i w q' ht
    split at h
    · cases h
    · injection h with h; injection h with h1 h2; subst h2; exact take_len ht
end Go.Proofs.YtgeahbmaeaoeeaaGreatDoor

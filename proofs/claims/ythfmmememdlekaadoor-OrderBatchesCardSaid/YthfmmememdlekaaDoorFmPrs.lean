/- Plain: the reader of conditions, and that it reads what was printed. No program stands in it. -/
import Derived.Test.YthfmmememdlekaaDoorFmPln
set_option linter.unusedVariables false
set_option linter.unusedSimpArgs false
namespace Go.Proofs.YthfmmememdlekaaDoor
open Go

def spaceB (r : List UInt8) : List UInt8 := r.dropWhile spB
def wordB : List UInt8 → List UInt8
  | [] => []
  | c :: cs => if signB c then [c] else if c = 34 then (if 34 ∈ cs then 34 :: (cs.takeWhile (· ≠ 34) ++ [34]) else []) else (c :: cs).takeWhile inWB
theorem wordB_cons (c : UInt8) (cs : List UInt8) : wordB (c :: cs) = if signB c then [c] else if c = 34 then (if 34 ∈ cs then 34 :: (cs.takeWhile (· ≠ 34) ++ [34]) else []) else (c :: cs).takeWhile inWB := rfl
def takeB (p : List UInt8 → Bool) (r : List UInt8) : Option (List UInt8 × List UInt8) :=
  if wordB r ≠ [] ∧ p (wordB r) = true then some (wordB r, spaceB (r.drop (wordB r).length)) else none
def isNumB (w : List UInt8) : Option Int := match Lib.atoiAll w with
  | .ok n => if w.length ≤ 3 ∧ Lib.itoa n = w then some n else none
  | _ => none
def numB' (w : List UInt8) : Bool := (isNumB w).isSome
def numF (r : List UInt8) : Option (Int × List UInt8) := match takeB numB' r with
  | none => none
  | some (w, q) => match isNumB w with
    | none => none
    | some n => some (n, q)

inductive PR where
  | ok (xs : List Tree) (r : List UInt8)
  | bad (r : List UInt8)
inductive Md where
  | cond
  | args
  | more (acc : List Tree)
def E0 : ByteArray := ⟨#[]⟩
def PF : Nat → Md → List UInt8 → PR
  | 0, _, r => .bad r
  | f + 1, .cond, r => match takeB (fun w => decide (0 < kindB w)) r with
    | none => .bad r
    | some (w, r1) =>
      if kindB w = 1 ∨ kindB w = 2 then (match PF f .args r1 with
        | .bad q => .bad q
        | .ok xs q => .ok [.node (mkT (kindB w) 0 0 E0 E0) xs] q)
      else if kindB w = 3 ∨ kindB w = 4 then (match numF r1 with
        | none => .bad r1
        | some (n, q) => .ok [.node (mkT (kindB w) n 0 E0 E0) []] q)
      else if kindB w = 5 then (match numF r1 with
        | none => .bad r1
        | some (y, r2) => match takeB (· == ofB) r2 with
          | none => .bad r2
          | some (_, r3) => match numF r3 with
            | none => .bad r3
            | some (n, q) => .ok [.node (mkT 5 n y E0 E0) []] q)
      else if kindB w = 7 then (match takeB nameB r1 with
        | none => .bad r1
        | some (fd, r2) => match takeB (fun x => x.headD 0 == 34) r2 with
          | none => .bad r2
          | some (tx, r3) => match takeB (· == ofB) r3 with
            | none => .bad r3
            | some (_, r4) => match numF r4 with
              | none => .bad r4
              | some (n, q) => .ok [.node (mkT 7 n 0 (bsOf fd) (bsOf ((tx.drop 1).take (tx.length - 2)))) []] q)
      else .ok [.node (mkT (kindB w) 0 0 E0 E0) []] r1
  | f + 1, .args, r => match takeB (· == [40]) r with
    | none => .bad r
    | some (_, r1) => match PF f .cond r1 with
      | .bad q => .bad q
      | .ok xs r2 => match takeB (· == [44]) r2 with
        | none => .bad r2
        | some (_, r3) => match PF f .cond r3 with
          | .bad q => .bad q
          | .ok ys r4 => PF f (.more (xs ++ ys)) r4
  | f + 1, .more acc, r => if wordB r = [44] then (match takeB (· == [44]) r with
      | none => .bad r
      | some (_, r1) => match PF f .cond r1 with
        | .bad q => .bad q
        | .ok xs r2 => PF f (.more (acc ++ xs)) r2)
    else (match takeB (· == [41]) r with
      | none => .bad r
      | some (_, r1) => .ok acc r1)
/-- What the reader makes of a text: a tree, or the place where it fails. -/
def parseF (s : List UInt8) : Tree ⊕ Nat := match PF (s.length + 1) .cond (spaceB s) with
  | .bad q => .inr (s.length - q.length)
  | .ok (t :: _) [] => .inl t
  | .ok _ q => .inr (s.length - q.length)

/-! ### The text of a tree; each sign with spaces about it -/
def joinS (sep : List UInt8) : List (List UInt8) → List UInt8
  | [] => []
  | a :: r => a ++ Lib.joinTail sep r
def nmK (k : Int) : List UInt8 := nmB.getD k.toNat []
def textG (pre post : List UInt8) : Nat → Tree → List UInt8
  | 0, _ => []
  | d + 1, .node t xs =>
    if t.kind = 1 ∨ t.kind = 2 then nmK t.kind ++ (pre ++ [40] ++ post) ++ joinS (pre ++ [44] ++ post ++ [32]) (xs.map (textG pre post d)) ++ (pre ++ [41] ++ post)
    else if t.kind = 3 ∨ t.kind = 4 then nmK t.kind ++ [32] ++ Lib.itoa t.num
    else if t.kind = 5 then nmK 5 ++ [32] ++ Lib.itoa t.yrs ++ [32] ++ ofB ++ [32] ++ Lib.itoa t.num
    else if t.kind = 7 then nmK 7 ++ [32] ++ blOf t.field ++ [32, 34] ++ blOf t.text ++ [34, 32] ++ ofB ++ [32] ++ Lib.itoa t.num
    else nmK t.kind

/-! ### Reading words -/
def Bnd (q : List UInt8) : Prop := q = [] ∨ inWB (q.headD 0) = false
theorem sp_not_in {c : UInt8} (h : spB c = true) : inWB c = false := by
  unfold spB at h; simp at h; rcases h with rfl | rfl <;> decide
theorem sign_not_in {c : UInt8} (h : signB c = true) : inWB c = false := by
  unfold signB at h; simp at h; rcases h with (rfl | rfl) | rfl <;> decide
theorem in_not_sign {c : UInt8} (h : inWB c = true) : signB c = false ∧ c ≠ 34 ∧ spB c = false := by
  refine ⟨?_, ?_, ?_⟩
  · cases e : signB c
    · rfl
    · rw [sign_not_in e] at h; cases h
  · rintro rfl; revert h; decide
  · cases e : spB c
    · rfl
    · rw [sp_not_in e] at h; cases h
theorem takeWhile_app {p : UInt8 → Bool} {a q : List UInt8} (h : ∀ c ∈ a, p c = true) (hq : q = [] ∨ p (q.headD 0) = false) : (a ++ q).takeWhile p = a := by
  induction a with
  | nil => rcases hq with rfl | h
           · rfl
           · cases q with
             | nil => rfl
             | cons c q => simp at h; simp [h]
  | cons c a ih =>
    rw [List.cons_append, List.takeWhile_cons, if_pos (h c (by simp)), ih (fun d hd => h d (by simp [hd]))]
theorem word_in {a q : List UInt8} (h0 : a ≠ []) (h : ∀ c ∈ a, inWB c = true) (hq : Bnd q) : wordB (a ++ q) = a := by
  cases a with
  | nil => exact absurd rfl h0
  | cons c a =>
    obtain ⟨h1, h2, _⟩ := in_not_sign (h c (by simp))
    rw [List.cons_append, wordB_cons, if_neg (by rw [h1]; decide), if_neg h2]
    exact takeWhile_app h hq
theorem word_sign {c : UInt8} {q : List UInt8} (h : signB c = true) : wordB (c :: q) = [c] := by rw [wordB_cons, if_pos h]
theorem word_quote {a q : List UInt8} (h : a.contains 34 = false) : wordB (34 :: (a ++ 34 :: q)) = 34 :: (a ++ [34]) := by
  rw [wordB_cons, if_neg (by decide), if_pos rfl, if_pos (by simp)]
  congr 2
  have h2 : ∀ c ∈ a, (decide (c ≠ 34)) = true := by
    intro c hc; simp; rintro rfl
    have : a.contains 34 = true := by simpa using hc
    rw [this] at h; cases h
  have := takeWhile_app (p := fun c => decide (c ≠ 34)) (q := 34 :: q) h2 (.inr (by simp))
  simpa using this
theorem space_app {a q : List UInt8} (h : ∀ c ∈ a, spB c = true) : spaceB (a ++ q) = spaceB q := by
  induction a with
  | nil => rfl
  | cons c a ih => rw [List.cons_append]; unfold spaceB; rw [List.dropWhile_cons, if_pos (h c (by simp))]; exact ih fun d hd => h d (by simp [hd])
theorem space_stop {q : List UInt8} (h : q = [] ∨ spB (q.headD 0) = false) : spaceB q = q := by
  rcases h with rfl | h
  · rfl
  · cases q with
    | nil => rfl
    | cons c q => simp at h; unfold spaceB; rw [List.dropWhile_cons, if_neg (by simp [h])]
theorem space_idem (q : List UInt8) : spaceB (spaceB q) = spaceB q := by
  induction q with
  | nil => rfl
  | cons c q ih =>
    unfold spaceB at *
    rw [List.dropWhile_cons]
    split
    · exact ih
    · rename_i h; rw [List.dropWhile_cons, if_neg h]
theorem space_len (q : List UInt8) : (spaceB q).length ≤ q.length := by
  induction q with
  | nil => simp [spaceB]
  | cons c q ih =>
    unfold spaceB at *
    rw [List.dropWhile_cons]
    split
    · simp; omega
    · simp
/-- A word is taken: it is read, and what follows without spaces. -/
theorem take_in {p : List UInt8 → Bool} {a q : List UInt8} (h0 : a ≠ []) (h : ∀ c ∈ a, inWB c = true) (hq : Bnd q) (hp : p a = true) : takeB p (a ++ q) = some (a, spaceB q) := by
  unfold takeB
  rw [word_in h0 h hq, if_pos ⟨h0, hp⟩, List.drop_left]
theorem take_sign {p : List UInt8 → Bool} {c : UInt8} {q : List UInt8} (h : signB c = true) (hp : p [c] = true) : takeB p (c :: q) = some ([c], spaceB q) := by
  unfold takeB
  rw [word_sign h, if_pos ⟨by simp, hp⟩]; rfl
theorem take_quote {p : List UInt8 → Bool} {a q : List UInt8} (h : a.contains 34 = false) (hp : p (34 :: (a ++ [34])) = true) : takeB p (34 :: (a ++ 34 :: q)) = some (34 :: (a ++ [34]), spaceB q) := by
  unfold takeB
  rw [word_quote h, if_pos ⟨by simp, hp⟩]
  congr 2
  have e : 34 :: (a ++ 34 :: q) = (34 :: (a ++ [34])) ++ q := by simp
  rw [e, List.drop_left]
theorem take_sp {p : List UInt8 → Bool} {a q : List UInt8} {w r : List UInt8} (h : takeB p q = some (w, r)) : (wordB q ≠ [] ∧ w = wordB q ∧ p w = true ∧ r = spaceB (q.drop w.length)) := by
  unfold takeB at h
  split at h
  · rename_i hc
    injection h with h; injection h with h1 h2
    subst h1
    exact ⟨hc.1, rfl, hc.2, h2.symm⟩
  · cases h
theorem takeWhile_len (p : UInt8 → Bool) (l : List UInt8) : (l.takeWhile p).length ≤ l.length := by
  induction l with
  | nil => simp
  | cons c l ih => rw [List.takeWhile_cons]; split <;> simp; omega
theorem word_len (r : List UInt8) : (wordB r).length ≤ r.length := by
  cases r with
  | nil => simp [wordB]
  | cons c cs =>
    rw [wordB_cons]
    split
    · simp
    · split
      · split
        · rename_i h
          have : ∀ l : List UInt8, 34 ∈ l → (l.takeWhile (· ≠ 34)).length < l.length := by
            intro l
            induction l with
            | nil => intro h; cases h
            | cons d l ih =>
              intro hm
              rw [List.takeWhile_cons]
              split
              · rename_i hd
                simp at hd
                rcases List.mem_cons.1 hm with e | e
                · exact absurd e.symm hd
                · simpa using ih e
              · simp
          have := this cs h
          simp only [List.length_cons, List.length_append, List.length_nil]; omega
        · simp
      · exact takeWhile_len _ _
/-- What is taken makes the rest shorter. -/
theorem take_len {p : List UInt8 → Bool} {q w r : List UInt8} (h : takeB p q = some (w, r)) : r.length < q.length := by
  obtain ⟨h1, rfl, _, rfl⟩ := take_sp (a := []) h
  have h2 := space_len (q.drop (wordB q).length)
  have h3 := word_len q
  rw [List.length_drop] at h2
  have : 0 < (wordB q).length := List.length_pos_iff.2 h1
  omega
theorem num_len {q r : List UInt8} {n : Int} (h : numF q = some (n, r)) : r.length < q.length := by
  unfold numF at h
  split at h
  · cases h
  · rename_i w q' ht
    split at h
    · cases h
    · injection h with h; injection h with h1 h2; subst h2; exact take_len ht
end Go.Proofs.YthfmmememdlekaaDoor

/- Plain: for each secret equally many random numbers lead to a coalition's shares (over the small fields that PairWays draws): counted by the kernel. -/
import Derived.Test.YtgeahbmaeaoeeaaGreatDoorHanNum
set_option linter.unusedVariables false
set_option linter.unusedSimpArgs false
namespace Go.Proofs.YtgeahbmaeaoeeaaGreatDoor

/-- A polynomial's value, in Nat. -/
def evN (p h : Nat) : List Nat → Nat
  | [] => 0
  | c :: r => Nat.mod (Nat.add (Nat.mul (evN p h r) h) c) p
/-- The random numbers with a number. -/
def rndN (p k r : Nat) : List Nat := if k = 1 then [Nat.mod r p] else [Nat.mod r p, Nat.div r p]
def hitN (p k s r : Nat) : List (Nat × Nat) → Bool
  | [] => true
  | (h, y) :: l => Nat.beq (evN p h (s :: rndN p k r)) y && hitN p k s r l
def cntN (p k s : Nat) (l : List (Nat × Nat)) : Nat → Nat
  | 0 => 0
  | r + 1 => Nat.add (cntN p k s l r) (if hitN p k s r l then 1 else 0)
def allB (n : Nat) (f : Nat → Bool) : Bool := Nat.rec true (fun i b => b && f i) n
theorem allB_spec {n : Nat} {f : Nat → Bool} (h : allB n f = true) : ∀ i, i < n → f i = true := by
  induction n with
  | zero => intro i hi; omega
  | succ n ih =>
    intro i hi
    have h' : (allB n f && f n) = true := h
    rw [Bool.and_eq_true] at h'
    by_cases e : i = n
    · subst e; exact h'.2
    · exact ih h'.1 i (by omega)
/-- Nobody's shares, one holder's, two holders'. -/
def zeroB (p k : Nat) : Bool := allB p fun s => Nat.beq (cntN p k s [] (p ^ k)) (p ^ k)
def oneB (p k : Nat) : Bool := allB p fun s => allB 4 fun h => allB p fun y => Nat.beq (cntN p k s [(h + 1, y)] (p ^ k)) (p ^ (k - 1))
def twoB (p k : Nat) : Bool := allB p fun s => allB 4 fun h => allB h fun g => allB p fun y => allB p fun z => Nat.beq (cntN p k s [(g + 1, z), (h + 1, y)] (p ^ k)) 1
theorem zero_5_1 : zeroB 5 1 = true := by decide +kernel
theorem zero_5_2 : zeroB 5 2 = true := by decide +kernel
theorem zero_7_1 : zeroB 7 1 = true := by decide +kernel
theorem zero_7_2 : zeroB 7 2 = true := by decide +kernel
theorem zero_11_1 : zeroB 11 1 = true := by decide +kernel
theorem one_5_1 : oneB 5 1 = true := by decide +kernel
theorem one_5_2 : oneB 5 2 = true := by decide +kernel
theorem one_7_1 : oneB 7 1 = true := by decide +kernel
theorem one_7_2 : oneB 7 2 = true := by decide +kernel
theorem one_11_1 : oneB 11 1 = true := by decide +kernel
theorem two_5_2 : twoB 5 2 = true := by decide +kernel
theorem two_7_2 : twoB 7 2 = true := by decide +kernel
end Go.Proofs.YtgeahbmaeaoeeaaGreatDoor

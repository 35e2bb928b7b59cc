/- Plain: a statement that is read is small. Contracts: the reference's text of a term without parts (printed by gen_fmrx.py). Contracts: the reference's bytes of words and names of fields. Plain: the reference's reading of a condition is the program's: its test of a term, its walk over the terms, its text. Contracts: the reference's test of a term (printed by gen_fmrt.py). Plain: the trees of a term's arguments, by their numbers. Contracts: the reference's walk over the terms of a condition. Contracts: whether a condition is valid, as the reference says it. Contracts: the reference's text of a condition, of terms with parts too. Contracts: the reference's Print. -/
import Derived.Test.YthibelndhcnifaaGreatDoorX34
import Derived.Test.YthibelndhcnifaaGreatDoorX31
import Derived.Test.YthibelndhcnifaaGreatDoorX19
import Derived.Test.YthibelndhcnifaaGreatDoorX13
import Derived.Lib.Fields
import Derived.Test.YthibelndhcnifaaGreatDoorX03
import Derived.Test.YthibelndhcnifaaGreatDoorShelfF
import Derived.Test.YthibelndhcnifaaGreatDoorX07
import Derived.Test.YthibelndhcnifaaGreatDoorX11
set_option linter.unusedVariables false
set_option linter.unusedSimpArgs false
namespace Go.Proofs.YthibelndhcnifaaGreatDoor
open Go.RowKit Num

theorem txtR_size {l x : List UInt8} {m : Nat} (h : txtR l = .ok (x, m)) : x.length ≤ l.length := by
  unfold txtR at h
  rcases hr : numR 0 0 l with y | ⟨U, k⟩
  · rw [hr] at h; cases h
  · rw [hr] at h
    dsimp only at h
    by_cases h1 : unz U < 0
    · rw [if_pos h1] at h; cases h
    · rw [if_neg h1] at h
      by_cases h2 : ((l.length - k : Nat) : Int) < unz U
      · rw [if_pos h2] at h; cases h
      · rw [if_neg h2] at h
        injection h with h
        injection h with h3 h4
        rw [← h3, List.length_take, List.length_drop]; omega
theorem rdT_size (s : RS) : (rdT s).1.size ≤ s.rest.length ∧ (rdT s).2.rest.length ≤ s.rest.length := by
  unfold rdT
  by_cases h : s.bad = true
  · rw [if_pos h]; exact ⟨Nat.zero_le _, Nat.le_refl _⟩
  · rw [if_neg h]
    rcases hr : txtR s.rest with z | ⟨x, m⟩
    · exact ⟨Nat.zero_le _, Nat.le_refl _⟩
    · refine ⟨?_, ?_⟩
      · have := txtR_size hr
        show x.toArray.size ≤ _
        rw [List.size_toArray]; exact this
      · show (s.rest.drop m).length ≤ _
        rw [List.length_drop]; omega
theorem rdI_rest (s : RS) : (rdI s).2.rest.length ≤ s.rest.length := by
  unfold rdI
  by_cases h : s.bad = true
  · rw [if_pos h]; exact Nat.le_refl _
  · rw [if_neg h]
    rcases hr : numR 0 0 s.rest with z | ⟨U, m⟩
    · exact Nat.le_refl _
    · show (s.rest.drop m).length ≤ _
      rw [List.length_drop]; omega
def AnsOk (N : Nat) (a : Ans) : Prop := a.field.size ≤ N ∧ a.text.size ≤ N ∧ In64' a.num
def ShwOk (N : Nat) (a : Shw) : Prop := a.field.size ≤ N ∧ a.role.size ≤ N
theorem rdAns_ok {N : Nat} (s : RS) (h : s.rest.length ≤ N) : AnsOk N (rdAns s).1 ∧ (rdAns s).2.rest.length ≤ N := by
  have h1 := rdT_size s
  have h2 := rdT_size (rdT s).2
  have h3 := rdI_rest (rdT (rdT s).2).2
  exact ⟨⟨by show (rdT s).1.size ≤ N; omega, by show (rdT (rdT s).2).1.size ≤ N; omega, rdI_in _⟩, by show (rdI (rdT (rdT s).2).2).2.rest.length ≤ N; omega⟩
theorem rdShw_ok {N : Nat} (s : RS) (h : s.rest.length ≤ N) : ShwOk N (rdShw s).1 ∧ (rdShw s).2.rest.length ≤ N := by
  have h1 := rdT_size s
  have h2 := rdT_size (rdT s).2
  exact ⟨⟨by show (rdT s).1.size ≤ N; omega, by show (rdT (rdT s).2).1.size ≤ N; omega⟩, by show (rdT (rdT s).2).2.rest.length ≤ N; omega⟩
theorem timesR_ok {α : Type} {item : RS → α × RS} {P : α → Prop} {N : Nat} (hi : ∀ s, s.rest.length ≤ N → P (item s).1 ∧ (item s).2.rest.length ≤ N) : ∀ (n : Nat) (s : RS), s.rest.length ≤ N → (timesR item n s).1.length ≤ n ∧ (∀ a ∈ (timesR item n s).1, P a) ∧ (timesR item n s).2.rest.length ≤ N
  | 0, s, h => ⟨Nat.le_refl _, (fun a ha => by cases ha), h⟩
  | n + 1, s, h => by
    by_cases hb : s.bad = true
    · rw [show timesR item (n + 1) s = ([], s) from if_pos hb]
      exact ⟨Nat.zero_le _, (fun a ha => by cases ha), h⟩
    · rw [show timesR item (n + 1) s = _ from if_neg hb]
      obtain ⟨h1, h2⟩ := hi s h
      obtain ⟨a1, a2, a3⟩ := timesR_ok hi n (item s).2 h2
      refine ⟨by show (timesR item n (item s).2).1.length + 1 ≤ n + 1; omega, fun a ha => ?_, a3⟩
      rcases List.mem_cons.1 ha with e | e
      · rw [e]; exact h1
      · exact a2 a e
theorem rdTimes_ok {α : Type} {item : RS → α × RS} {P : α → Prop} {N : Nat} (hi : ∀ s, s.rest.length ≤ N → P (item s).1 ∧ (item s).2.rest.length ≤ N) (s : RS) (h : s.rest.length ≤ N) : (rdTimes item s).1.length ≤ 256 ∧ (∀ a ∈ (rdTimes item s).1, P a) ∧ (rdTimes item s).2.rest.length ≤ N := by
  have hr := rdI_rest s
  unfold rdTimes
  by_cases hb : (rdI s).1 < 0 ∨ 256 < (rdI s).1
  · rw [if_pos hb]; exact ⟨Nat.zero_le _, (fun a ha => by cases ha), by show (rdI s).2.rest.length ≤ N; omega⟩
  · rw [if_neg hb]
    obtain ⟨a1, a2, a3⟩ := timesR_ok hi (rdI s).1.toNat (rdI s).2 (by omega)
    exact ⟨by omega, a2, a3⟩
theorem parseC_ok (s : List UInt8) : (parseC s).1.length ≤ 4096 ∧ ∀ t ∈ (parseC s).1, TrmLe 4096 t := by
  unfold parseC
  by_cases h : 4096 < s.length
  · rw [if_pos h]; exact ⟨Nat.zero_le _, fun t ht => by cases ht⟩
  · rw [if_neg h]
    rcases hp : parseF s with T | k
    · dsimp only
      by_cases hr : rightB (flatT (s.length + 1) 0 T) = true
      · rw [if_pos hr]
        refine ⟨Nat.le_trans (parseF_terms hp _ _) (by omega), fun t ht => ?_⟩
        have := parseF_tame hp _ _ t ht
        unfold TrmLe at this ⊢
        exact ⟨by omega, by omega, by omega⟩
      · rw [if_neg hr]; exact ⟨Nat.zero_le _, fun t ht => by cases ht⟩
    · exact ⟨Nat.zero_le _, fun t ht => by cases ht⟩
theorem rsS_ok (b : ByteArray) (hb : b.size ≤ 16384) : StmOk (rsS b) := by
  have h0 : (⟨blOf b, false⟩ : RS).rest.length ≤ 16384 := by show (blOf b).length ≤ _; rw [blOf_len]; exact hb
  have h1 : (rs1 b).1.size ≤ 16384 ∧ (rs1 b).2.rest.length ≤ 16384 := by
    have := rdT_size ⟨blOf b, false⟩
    exact ⟨Nat.le_trans this.1 h0, Nat.le_trans this.2 h0⟩
  have h2 : (rs2 b).2.rest.length ≤ 16384 := Nat.le_trans (rdI_rest _) h1.2
  have h3 : (rs3 b).2.rest.length ≤ 16384 := Nat.le_trans (rdI_rest _) h2
  obtain ⟨a1, a2, a3⟩ := rdTimes_ok (N := 16384) (fun s h => rdAns_ok s h) (rs3 b).2 h3
  have h5 : (rs5 b).2.rest.length ≤ 16384 := Nat.le_trans (rdT_size _).2 a3
  obtain ⟨c1, c2, c3⟩ := rdTimes_ok (N := 16384) (fun s h => rdShw_ok s h) (rs5 b).2 h5
  obtain ⟨p1, p2⟩ := parseC_ok (blOf (rs5 b).1)
  refine ⟨by show (rs1 b).1.size ≤ _; omega, rdI_in _, rdI_in _, by show (rs4 b).1.length ≤ _; exact Nat.le_trans a1 (by omega), fun k hk => ?_, by show (rs6 b).1.length ≤ _; exact Nat.le_trans c1 (by omega), fun k hk => ?_, by show (parseC (blOf (rs5 b).1)).1.length ≤ _; omega, fun t ht => ?_⟩
  · obtain ⟨x, y, z⟩ := a2 _ (ansAt_mem hk)
    exact ⟨Nat.le_trans x (by omega), Nat.le_trans y (by omega), z⟩
  · obtain ⟨x, y⟩ := c2 _ (shwAt_mem hk)
    exact ⟨Nat.le_trans x (by omega), Nat.le_trans y (by omega)⟩
  · obtain ⟨x, y, z⟩ := p2 t ht
    exact ⟨by omega, by omega, by omega⟩
end Go.Proofs.YthibelndhcnifaaGreatDoor
namespace Go.Proofs.YthibelndhcnifaaGreatDoor
open Go.RowKit Num

end Go.Proofs.YthibelndhcnifaaGreatDoor
namespace Go.Proofs.YthibelndhcnifaaGreatDoor
open Go.RowKit Num

end Go.Proofs.YthibelndhcnifaaGreatDoor
namespace Go.Proofs.YthibelndhcnifaaGreatDoor
open Go.RowKit Num

end Go.Proofs.YthibelndhcnifaaGreatDoor
namespace Go.Proofs.YthibelndhcnifaaGreatDoor
open Go.RowKit Num

end Go.Proofs.YthibelndhcnifaaGreatDoor
namespace Go.Proofs.YthibelndhcnifaaGreatDoor
open Go.RowKit Num

end Go.Proofs.YthibelndhcnifaaGreatDoor
namespace Go.Proofs.YthibelndhcnifaaGreatDoor
open Go.RowKit Num

end Go.Proofs.YthibelndhcnifaaGreatDoor
namespace Go.Proofs.YthibelndhcnifaaGreatDoor
open Go.RowKit Num

end Go.Proofs.YthibelndhcnifaaGreatDoor
namespace Go.Proofs.YthibelndhcnifaaGreatDoor
open Go.RowKit Num

end Go.Proofs.YthibelndhcnifaaGreatDoor
namespace Go.Proofs.YthibelndhcnifaaGreatDoor
open Go.RowKit Num

end Go.Proofs.YthibelndhcnifaaGreatDoor

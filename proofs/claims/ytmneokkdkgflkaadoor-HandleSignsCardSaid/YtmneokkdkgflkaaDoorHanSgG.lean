/- Contracts: signatures at any numbers, the program's and the reference's. -/
import Derived.Test.YtmneokkdkgflkaaDoorRefSgn
set_option linter.unusedVariables false
set_option linter.unusedSimpArgs false
namespace Go.Proofs.YtmneokkdkgflkaaDoor
open Go.RowKit Num Classical

def SignOk (p key nonce : Int) : Prop := SafeI p ∧ 1 ≤ key ∧ key < p ∧ 1 ≤ nonce ∧ nonce < p
noncomputable def sgR (p key nonce : Int) : Int := if SignOk p key nonce then (pw (2 * p.toNat + 1) 4 nonce.toNat : Int) else 0
noncomputable def sgS (p key nonce : Int) (text : ByteArray) : Int := if SignOk p key nonce then (sigS p.toNat key.toNat nonce.toNat text : Int) else 0
noncomputable def sgE (p key nonce : Int) : Int := if SignOk p key nonce then 0 else 2
def SgnPost (p key nonce : Int) (text : ByteArray) (w : World) (e : Ending) (w' : World) : Prop :=
  e = .returned (.tuple #[.agg #[.int .i64 (sgR p key nonce), .int .i64 (sgS p key nonce text)], .int .i64 (sgE p key nonce)]) ∧ Below w.heap.size w w'
theorem sgn_yes {p key nonce : Int} (h : SignOk p key nonce) (text : ByteArray) : sgR p key nonce = (pw (2 * p.toNat + 1) 4 nonce.toNat : Int) ∧ sgS p key nonce text = (sigS p.toNat key.toNat nonce.toNat text : Int) ∧ sgE p key nonce = 0 := by
  unfold sgR sgS sgE
  rw [if_pos h, if_pos h, if_pos h]; exact ⟨rfl, rfl, rfl⟩
theorem sgn_no {p key nonce : Int} (h : ¬ SignOk p key nonce) (text : ByteArray) : sgR p key nonce = 0 ∧ sgS p key nonce text = 0 ∧ sgE p key nonce = 2 := by
  unfold sgR sgS sgE
  rw [if_neg h, if_neg h, if_neg h]; exact ⟨rfl, rfl, rfl⟩
theorem sgn_split {p key nonce : Int} (h : ¬ SignOk p key nonce) : ¬ SafeI p ∨ SafeI p ∧ (decide (key < 1) = true ∨ decide (key < 1) = false ∧ (decide (p ≤ key) = true ∨ decide (p ≤ key) = false ∧ (decide (nonce < 1) = true ∨ decide (nonce < 1) = false ∧ decide (p ≤ nonce) = true))) := by
  by_cases h1 : SafeI p
  · refine Or.inr ⟨h1, ?_⟩
    by_cases h2 : key < 1
    · exact Or.inl (decide_eq_true h2)
    refine Or.inr ⟨decide_eq_false h2, ?_⟩
    by_cases h3 : p ≤ key
    · exact Or.inl (decide_eq_true h3)
    refine Or.inr ⟨decide_eq_false h3, ?_⟩
    by_cases h4 : nonce < 1
    · exact Or.inl (decide_eq_true h4)
    refine Or.inr ⟨decide_eq_false h4, decide_eq_true ?_⟩
    apply Classical.byContradiction
    intro h5
    exact h ⟨h1, by omega, by omega, by omega, by omega⟩
  · exact Or.inl h1
set_option maxHeartbeats 1000000 in
theorem h_SignG (p key nonce : Int) (text : ByteArray) (w : World) (hw : BasesOk w) (hr : IntR p) (ht : text.size < 2147483648) :
    Calls Tryd.prog 35 #[.int .i64 p, .int .i64 key, .int .i64 nonce, .string text] w (SgnPost p key nonce text w) := by
  by_cases hs : SignOk p key nonce
  · obtain ⟨e1, e2, e3⟩ := sgn_yes hs text
    unfold SgnPost
    rw [e1, e2, e3]
    obtain ⟨h1, h2, h3, h4, h5⟩ := hs
    obtain ⟨h6, h7⟩ := h1.sprm
    have := h_Sign p.toNat key.toNat nonce.toNat text w hw h6 (by omega) (by omega) (by omega) (by omega) ht
    rw [h7, show ((key.toNat : Nat) : Int) = key by omega, show ((nonce.toNat : Nat) : Int) = nonce by omega] at this
    exact this
  · obtain ⟨e1, e2, e3⟩ := sgn_no hs text
    unfold SgnPost
    rw [e1, e2, e3]
    have hm := h_ModulusG p (w.alloc (.cells #[.int .i64 0, .int .i64 0] 53)) (hw.alloc _) hr
    unfold ModPost at hm
    rcases sgn_split hs with h | ⟨h, t1 | ⟨t1, t2 | ⟨t2, t3 | ⟨t3, t4⟩⟩⟩⟩
    all_goals
      obtain ⟨f1, f2⟩ := (by first | exact mod_no h | exact mod_yes h : modI p = _ ∧ isSafe p = _)
      rw [f1, f2] at hm
      have HM := Lib.hid hm
      clear hm h hs f1 f2 hw hr e1 e2 e3
      go_enter Tryd.func35, Tryd.ntmps35
      go_wp2_with fail
      refine (HM.out).mono ?_
      rintro e w1 ⟨rfl, rfl⟩
      go_wp2_with fail
      refine bodyPost_ret (v := .tuple #[.agg #[.int .i64 0, .int .i64 0], .int .i64 2]) (by simp [results, Tryd.results35, go_sem]) rfl ⟨rfl, ?_⟩
      exact (Below.refl _ _).alloc (Nat.le_refl _) _
set_option maxHeartbeats 1000000 in
theorem r_SignG (p key nonce : Int) (text : ByteArray) (w : World) (ht : text.size < 2147483648) :
    Calls Tryd.prog 36 #[.int .i64 p, .int .i64 key, .int .i64 nonce, .string text] w (SgnPost p key nonce text w) := by
  by_cases hs : SignOk p key nonce
  · obtain ⟨e1, e2, e3⟩ := sgn_yes hs text
    unfold SgnPost
    rw [e1, e2, e3]
    obtain ⟨h1, h2, h3, h4, h5⟩ := hs
    obtain ⟨h6, h7⟩ := h1.sprm
    have := r_Sign p.toNat key.toNat nonce.toNat text w (by rw [h7]; exact h1) (by omega) (by omega) (by omega) (by omega) ht
    rw [h7, show ((key.toNat : Nat) : Int) = key by omega, show ((nonce.toNat : Nat) : Int) = nonce by omega] at this
    exact this
  · obtain ⟨e1, e2, e3⟩ := sgn_no hs text
    unfold SgnPost
    rw [e1, e2, e3]
    have hm := fun W => r_ModulusG p W
    unfold ModPost at hm
    rcases sgn_split hs with h | ⟨h, t1 | ⟨t1, t2 | ⟨t2, t3 | ⟨t3, t4⟩⟩⟩⟩
    all_goals
      obtain ⟨f1, f2⟩ := (by first | exact mod_no h | exact mod_yes h : modI p = _ ∧ isSafe p = _)
      rw [f1, f2] at hm
      have HM := Lib.hid hm
      clear hm h hs f1 f2 e1 e2 e3
      go_enter Tryd.func36, Tryd.ntmps36
      go_wp2_with fail
      refine (HM.out _).mono ?_
      rintro e w1 ⟨rfl, rfl⟩
      go_wp2_with fail
      refine bodyPost_ret (v := .tuple #[.agg #[.int .i64 0, .int .i64 0], .int .i64 2]) (by simp [results, Tryd.results36, go_sem]) rfl ⟨rfl, ?_⟩
      exact (Below.refl _ _).alloc (Nat.le_refl _) _
end Go.Proofs.YtmneokkdkgflkaaDoor

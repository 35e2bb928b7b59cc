/- The plain law: what the holders give together is the square to the power of the key. -/
import Derived.Test.YtmneokkdkgflkaaDoorHanLawV
import Derived.Test.YtmneokkdkgflkaaDoorKitTurn2
set_option linter.unusedVariables false
set_option linter.unusedSimpArgs false
namespace Go.Proofs.YtmneokkdkgflkaaDoor
open Go.RowKit Num

theorem wsum_cg {p : Int} {ws ws' ys ys' : Nat → Int} : ∀ k, (∀ i, i < k → Cg p (ws i) (ws' i)) → (∀ i, i < k → Cg p (ys i) (ys' i)) → Cg p (wsum ws ys k) (wsum ws' ys' k) := by
  intro k
  induction k with
  | zero => intro _ _; exact Cg.refl _ _
  | succ k ih =>
    intro h1 h2
    exact (ih (fun i hi => h1 i (by omega)) (fun i hi => h2 i (by omega))).add ((h1 k (by omega)).mul (h2 k (by omega)))
/-- Lagrange with the program's weights. -/
theorem wt_lagrange {p : Nat} (hp : Prm p) {n : Nat} (h1 : 1 ≤ n) (xs : Nat → Int) (hA : ApartN p xs n) (co : List Int) (hco : co.length ≤ n) (ys : Nat → Int) (hy : ∀ i, i < n → Cg p (ys i) (ev co (xs i))) (x : Int) :
    Cg p (wsum (fun i => wt p xs n i x) ys n) (ev co x) := by
  have h2 := hp.1
  have hinv : ∀ i, i < n → Cg p (pbut xs i (xs i) n * invP p (wA p xs i (xs i) n)) 1 := fun i hi => by
    have hne := pbut_ne hp xs i (xs i) n fun j hj hne hd => hA i j hi hj (Ne.symm hne) hd
    have hcg := wA_cg p xs i (xs i) n
    have h0 := (wA_bd p xs i (xs i) (by omega) n).1
    have hnd : ¬ (p : Int) ∣ wA p xs i (xs i) n := fun hd => hne (Cg.zero_iff.1 (hcg.symm.trans (Cg.zero_iff.2 hd)))
    exact (hcg.symm.mul (Cg.refl _ _)).trans (invP_cg hp h0 hnd)
  have hl := lagrange hp h1 xs (fun i => invP p (wA p xs i (xs i) n)) hA hinv (f := fun x => ev co x) ⟨co, hco, fun _ => rfl⟩ x
  refine Cg.trans (wsum_cg n (fun i hi => ?_) hy) hl
  exact Cg.of_emod ((wA_cg p xs i x n).mul (Cg.refl _ _))
/-- The exponent of what is given together. -/
def expo (ws vs : Nat → Int) : Nat → Nat
  | 0 => 0
  | k + 1 => expo ws vs k + (ws k).toNat * (vs k).toNat
theorem expo_int (ws vs : Nat → Int) : ∀ k, (∀ i, i < k → 0 ≤ ws i) → (∀ i, i < k → 0 ≤ vs i) → ((expo ws vs k : Nat) : Int) = wsum ws vs k := by
  intro k
  induction k with
  | zero => intro _ _; rfl
  | succ k ih =>
    intro h1 h2
    show ((expo ws vs k + (ws k).toNat * (vs k).toNat : Nat) : Int) = wsum ws vs k + ws k * vs k
    rw [Int.natCast_add, Int.natCast_mul, ih (fun i hi => h1 i (by omega)) (fun i hi => h2 i (by omega)), Int.toNat_of_nonneg (h1 k (by omega)), Int.toNat_of_nonneg (h2 k (by omega))]
theorem hAt_expo {p x n : Nat} (hp : 1 ≤ p) (P : List Sh) (vs : Nat → Int) (hv : ∀ i, i < n → vOf P i = pw (2 * p + 1) x (vs i).toNat) (z : Int) : ∀ k, k ≤ n → hAt p P z k = pw (2 * p + 1) x (expo (fun i => wt p (fOf (hsOf P)) P.length i z) vs k) := by
  intro k
  induction k with
  | zero => intro _; show 1 = pw (2 * p + 1) x 0; rw [pw_zero, Nat.mod_eq_of_lt (by omega)]
  | succ k ih =>
    intro hk
    show hAt p P z k * pw (2 * p + 1) (vOf P k) (wt p (fOf (hsOf P)) P.length k z).toNat % (2 * p + 1) = _
    rw [ih (by omega), hv k (by omega), pw_pw, pw_add, Nat.mul_comm (vs k).toNat]
    rfl
/-- Shares of a key: each is the polynomial's value at its holder. -/
structure OfKey (p hold : Nat) (co : List Int) (L : List Sh) : Prop where
  ok : KeyOk p hold L
  val : ∀ k, k < L.length → (shAt L k).2.getD 0 0 = evH p (shAt L k).1 co
theorem OfKey.some_ {p hold : Nat} {co : List Int} {L L' : List Sh} (h : OfKey p hold co L) (hs : Some_ L L') : OfKey p hold co L' := by
  obtain ⟨σ, h1, h2⟩ := hs
  refine ⟨⟨fun k hk => ?_, fun i j hi hj hne => ?_, fun k hk => ?_, fun k hk => ?_⟩, fun k hk => ?_⟩
  · rw [(h1 k hk).2]; exact h.ok.holder _ (h1 k hk).1
  · rw [(h1 i hi).2, (h1 j hj).2]; exact h.ok.once _ _ (h1 i hi).1 (h1 j hj).1 (h2 i j hi hj hne)
  · rw [(h1 k hk).2]; exact h.ok.one _ (h1 k hk).1
  · rw [(h1 k hk).2]; exact h.ok.elem _ (h1 k hk).1
  · rw [(h1 k hk).2]; exact h.val _ (h1 k hk).1
theorem deal_len (p k : Nat) (sec rnd : List Int) (n : Nat) : (dealL p k sec rnd n).length = n := by simp [dealL]
theorem deal_at (p k : Nat) (key : Int) (rnd : List Int) (n j : Nat) (h : j < n) : shAt (dealL p k [key] rnd n) j = (((j + 1 : Nat) : Int), [evH p ((j + 1 : Nat) : Int) (key :: rnd.take k)]) := by
  unfold dealL shAt
  rw [List.getD_eq_getElem?_getD, List.getElem?_map, List.getElem?_range h]
  simp [dealV]
theorem OfKey.deal {p : Nat} (hp : SPrm p) (k : Nat) (key : Int) (rnd : List Int) (hold : Nat) (hh : hold < p) : OfKey p hold (key :: rnd.take k) (dealL p k [key] rnd hold) := by
  have h3 := hp.2.2.1
  refine ⟨⟨fun j hj => ?_, fun i j hi hj hne => ?_, fun j hj => ?_, fun j hj => ?_⟩, fun j hj => ?_⟩
  · rw [deal_len] at hj; rw [deal_at p k key rnd hold j hj]; show 1 ≤ ((j + 1 : Nat) : Int) ∧ ((j + 1 : Nat) : Int) ≤ hold; omega
  · rw [deal_len] at hi hj; rw [deal_at p k key rnd hold i hi, deal_at p k key rnd hold j hj]; show ((i + 1 : Nat) : Int) ≠ ((j + 1 : Nat) : Int); omega
  · rw [deal_len] at hj; rw [deal_at p k key rnd hold j hj]; rfl
  · rw [deal_len] at hj; rw [deal_at p k key rnd hold j hj]; exact evH_bd p _ (by omega) _
  · rw [deal_len] at hj; rw [deal_at p k key rnd hold j hj]; rfl
/-- Whichever of the holders work together: the square to the power of the key. -/
theorem hAt_key {p hold need x : Nat} (hp : SPrm p) (hh : hold < p) (h1 : 1 ≤ need) (hx : inG p (2 * p + 1) (x : Int) = true) (key : Int) (k0 : 0 ≤ key) (k1 : key < p) (rest : List Int) (hr : rest.length + 1 ≤ need) {L : List Sh} (hL : OfKey p hold (key :: rest) L) (hn : need ≤ L.length) :
    hAt p ((ptL p x L).take need) 0 need = pw (2 * p + 1) x key.toNat := by
  have h3 := hp.2.2.1
  have hl : ((ptL p x L).take need).length = need := by rw [List.length_take]; simp [ptL]; omega
  have hat : ∀ k, k < need → shAt ((ptL p x L).take need) k = ((shAt L k).1, [(pw (2 * p + 1) x ((shAt L k).2.getD 0 0).toNat : Int)]) := fun k hk => by
    rw [← ptL_at p x L k (by omega)]
    unfold shAt; rw [List.getD_eq_getElem?_getD, List.getD_eq_getElem?_getD, List.getElem?_take, if_pos hk]
  have hxs : ∀ k, k < need → fOf (hsOf ((ptL p x L).take need)) k = (shAt L k).1 := fun k hk => by
    rw [hsOf_get _ k (by omega), hat k hk]
  have e1 := hAt_expo (p := p) (x := x) (n := need) (by omega) ((ptL p x L).take need) (fun k => (shAt L k).2.getD 0 0) (fun i hi => by
    unfold vOf; rw [hat i hi]; exact Int.toNat_natCast _) 0 need (Nat.le_refl _)
  rw [hl] at e1
  have hA : ApartN p (fOf (hsOf ((ptL p x L).take need))) need := fun i j hi hj hne hd => by
    rw [hxs i hi, hxs j hj] at hd
    have b1 := hL.ok.holder i (by omega)
    have b2 := hL.ok.holder j (by omega)
    have b3 := hL.ok.once i j (by omega) (by omega) hne
    obtain ⟨c, hc⟩ := hd
    rcases Int.lt_trichotomy c 0 with h | h | h
    · have : (p : Int) * c ≤ (p : Int) * (-1) := Int.mul_le_mul_of_nonneg_left (by omega) (by omega)
      omega
    · subst h; omega
    · have : (p : Int) * 1 ≤ (p : Int) * c := Int.mul_le_mul_of_nonneg_left (by omega) (by omega)
      omega
  have hlg := wt_lagrange hp.1 h1 _ hA (key :: rest) (by simpa using hr) (fun k => (shAt L k).2.getD 0 0) (fun i hi => by
    show Cg p ((shAt L i).2.getD 0 0) _
    rw [hL.val i (by omega), hxs i hi]; exact evH_cg p _ _) 0
  have hev : ev (key :: rest) 0 = key := by simp [ev]
  rw [hev, ← expo_int _ _ need (fun i _ => (wt_bd p _ _ _ _ (by omega)).1) (fun i hi => (hL.ok.elem i (by omega)).1)] at hlg
  rw [e1, ← pw_mod_exp (m := 2 * p + 1) (by omega) (grp_one hx)]
  congr 1
  unfold Cg at hlg
  rw [Int.emod_eq_of_lt k0 k1, ← Int.natCast_emod] at hlg
  omega
/-- The same power of two squares: the same square. -/
theorem pw_root {p x z key : Nat} (hp : SPrm p) (hx : inG p (2 * p + 1) (x : Int) = true) (hz : inG p (2 * p + 1) (z : Int) = true) (k1 : 1 ≤ key) (k2 : key < p) : decide (pw (2 * p + 1) x key = pw (2 * p + 1) z key) = decide (x = z) := by
  by_cases h : x = z
  · rw [h]; simp
  · rw [decide_eq_false h, decide_eq_false]
    intro he
    have hb : ∀ y : Nat, inG p (2 * p + 1) (y : Int) = true → pw (2 * p + 1) (pw (2 * p + 1) y key) (pw p key (p - 2)) = y := fun y hy => by
      have h3 := hp.2.2.1
      have hl : y < 2 * p + 1 := by simp only [inG, decide_eq_true_eq] at hy; omega
      have e := inv_pow hp.1 (a := key) (fun h => by have := Nat.le_of_dvd k1 h; omega)
      have e2 : key * pw p key (p - 2) % p = 1 := by
        unfold Cg at e
        have e3 : ((key : Int) * ((key ^ (p - 2) % p : Nat) : Int)) = ((key * pw p key (p - 2) : Nat) : Int) := by unfold pw; rw [Int.natCast_mul]
        rw [e3, ← Int.natCast_emod] at e
        have e4 : (1 : Int) % (p : Int) = 1 := Int.emod_eq_of_lt (by omega) (by omega)
        rw [e4] at e
        exact_mod_cast e
      rw [pw_pw, ← pw_mod_exp (m := 2 * p + 1) (by omega) (grp_one hy), e2]
      unfold pw; rw [Nat.pow_one, Nat.mod_eq_of_lt hl]
    have a := hb x hx
    rw [he, hb z hz] at a
    exact h a.symm
end Go.Proofs.YtmneokkdkgflkaaDoor

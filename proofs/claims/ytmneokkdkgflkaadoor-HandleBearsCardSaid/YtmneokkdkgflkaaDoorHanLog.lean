/- The plain law: few enough wrong parts change nothing. -/
import Derived.Test.YtmneokkdkgflkaaDoorHanKey
import Derived.Test.YtmneokkdkgflkaaDoorHanPw
import Derived.Test.YtmneokkdkgflkaaDoorHanCho2
set_option linter.unusedVariables false
set_option linter.unusedSimpArgs false
namespace Go.Proofs.YtmneokkdkgflkaaDoor
open Go.RowKit Num

theorem ev_pow (x : Int) : ∀ k, ev (List.replicate k 0 ++ [1]) x = x ^ k := by
  intro k
  induction k with
  | zero => simp [ev]
  | succ k ih =>
    rw [List.replicate_succ, List.cons_append]
    show 0 + x * ev _ x = _
    rw [ih, Int.pow_succ, Int.zero_add, Int.mul_comm]
theorem cg_small {m a b : Nat} (ha : a < m) (hb : b < m) (h : (m : Int) ∣ (a : Int) - b) : a = b := by
  have := Cg.eq (Cg.iff_dvd.2 h) (by omega) (by omega) (by omega) (by omega)
  omega
/-- Each element of the group is a power of 4. -/
theorem grp_log {p y : Nat} (hp : SPrm p) (hy : inG p (2 * p + 1) (y : Int) = true) : ∃ e, e < p ∧ pw (2 * p + 1) 4 e = y := by
  have h3 := hp.2.2.1
  have hyl := in_grp hy
  apply Classical.byContradiction
  intro hno
  have hall : ∀ e, e < p → pw (2 * p + 1) 4 e ≠ y := fun e he h => hno ⟨e, he, h⟩
  have hm : ∀ z : Nat, inG p (2 * p + 1) (z : Int) = true → ((2 * p + 1 : Nat) : Int) ∣ ev ((-1) :: (List.replicate (p - 1) 0 ++ [1])) (z : Int) := fun z hz => by
    have e := grp_one hz
    show _ ∣ -1 + (z : Int) * ev _ _
    rw [ev_pow, Int.mul_comm, ← Int.pow_succ, show (p - 1).succ = p by omega]
    unfold pw at e
    refine ⟨((z ^ p / (2 * p + 1) : Nat) : Int), ?_⟩
    have h1 := Nat.div_add_mod (z ^ p) (2 * p + 1)
    rw [e] at h1
    have h2 : ((2 * p + 1 : Nat) : Int) * ((z ^ p / (2 * p + 1) : Nat) : Int) + 1 = ((z ^ p : Nat) : Int) := by exact_mod_cast h1
    rw [show ((z : Int) ^ p) = ((z ^ p : Nat) : Int) by simp, ← h2]
    omega
  have hlt : ∀ e, pw (2 * p + 1) 4 e < 2 * p + 1 := fun e => pw_lt (by omega) 4 e
  have := roots hp.2.1 ((y : Int) :: (List.range p).map fun e => (pw (2 * p + 1) 4 e : Int)) ((-1) :: (List.replicate (p - 1) 0 ++ [1])) (by simp; omega)
    ⟨fun z hz => by
      obtain ⟨e, he, rfl⟩ := List.mem_map.1 hz
      intro hd
      exact hall e (List.mem_range.1 he) (cg_small (hlt e) hyl.2 hd),
     apart_map _ _ List.nodup_range fun i hi j hj hne hd => hne (pw_inj4 hp (List.mem_range.1 hi) (List.mem_range.1 hj) (cg_small (hlt i) (hlt j) hd))⟩
    (fun z hz => by
      rcases List.mem_cons.1 hz with rfl | hz
      · exact hm y hy
      · obtain ⟨e, he, rfl⟩ := List.mem_map.1 hz
        exact hm _ (pw_grp hp (base_grp hp))) 0
  have h0 : ((2 * p + 1 : Nat) : Int) ∣ -1 := by
    have e : ev ((-1) :: (List.replicate (p - 1) 0 ++ [1])) 0 = -1 := by show -1 + 0 * _ = (-1 : Int); simp
    rwa [e] at this
  obtain ⟨c, hc⟩ := h0
  rcases Int.lt_trichotomy c 0 with h | h | h
  · have : ((2 * p + 1 : Nat) : Int) * c ≤ ((2 * p + 1 : Nat) : Int) * (-1) := Int.mul_le_mul_of_nonneg_left (by omega) (by omega)
    omega
  · subst h; omega
  · have : ((2 * p + 1 : Nat) : Int) * 1 ≤ ((2 * p + 1 : Nat) : Int) * c := Int.mul_le_mul_of_nonneg_left (by omega) (by omega)
    omega
theorem cg_toNat {p : Nat} (hp : 1 ≤ p) {a : Int} {t : Nat} (h : Cg p a (t : Int)) : (a % p).toNat = t % p := by
  unfold Cg at h
  rw [h, ← Int.natCast_emod, Int.toNat_natCast]
theorem toNat_cg {p : Nat} (hp : 1 ≤ p) {a : Int} {t : Nat} (h : (a % p).toNat = t % p) : Cg p a (t : Int) := by
  unfold Cg
  have := Int.emod_nonneg a (show (p : Int) ≠ 0 by omega)
  rw [← Int.natCast_emod, ← h]; omega
/-- The weights are those of a polynomial. -/
theorem wt_poly {p : Nat} (hp : Prm p) {n : Nat} (h1 : 1 ≤ n) (xs : Nat → Int) (vs : Nat → Int) : ∃ g, IsP n g ∧ ∀ z, Cg p (wsum (fun i => wt p xs n i z) vs n) (g z) := by
  have hW : ∀ i, i < n → IsP n (fun x => pbut xs i x n * invP p (wA p xs i (xs i) n)) := fun i hi => by
    have := pbut_isP xs i n
    rw [if_pos hi] at this
    obtain ⟨l, hl, hg⟩ := this.smul (invP p (wA p xs i (xs i) n))
    exact ⟨l, hl, fun x => by rw [← hg]; exact Int.mul_comm _ _⟩
  refine ⟨_, wsum_isP (fun i x => pbut xs i x n * invP p (wA p xs i (xs i) n)) vs n hW h1, fun z => wsum_cg n (fun i hi => ?_) fun i _ => Cg.refl _ _⟩
  exact Cg.of_emod ((wA_cg p xs i z n).mul (Cg.refl _ _))
/-- What parts give at any place is 4 to the power of a polynomial. -/
theorem hAt_poly {p hold need : Nat} (hp : SPrm p) (h1 : 1 ≤ need) {P : List Sh} (hP : P.length = need) (ho : PartsOk p hold P) :
    ∃ g : Int → Int, IsP need g ∧ ∀ z, hAt p P z need = pw (2 * p + 1) 4 (g z % p).toNat := by
  have h3 := hp.2.2.1
  have hv : ∀ k, k < need → ∃ e, e < p ∧ pw (2 * p + 1) 4 e = vOf P k := fun k hk => by
    have hg := ho.grp k (by omega)
    have hb := inG_bd hg
    refine grp_log hp ?_
    have : ((vOf P k : Nat) : Int) = (shAt P k).2.getD 0 0 := by unfold vOf; omega
    rw [this]; exact hg
  have hvs : ∃ vs : Nat → Nat, ∀ k, k < need → vs k < p ∧ pw (2 * p + 1) 4 (vs k) = vOf P k :=
    ⟨fun k => if hk : k < need then (hv k hk).choose else 0, fun k hk => by
      show (dite (k < need) _ _) < p ∧ pw _ 4 (dite (k < need) _ _) = _
      rw [dif_pos hk]; exact (hv k hk).choose_spec⟩
  obtain ⟨vs, hvs⟩ := hvs
  obtain ⟨g, hg1, hg2⟩ := wt_poly hp.1 h1 (fOf (hsOf P)) (fun k => (vs k : Int))
  refine ⟨g, hg1, fun z => ?_⟩
  have e1 := hAt_expo (p := p) (x := 4) (n := need) (by omega) P (fun k => (vs k : Int)) (fun i hi => by rw [Int.toNat_natCast]; exact (hvs i hi).2.symm) z need (Nat.le_refl _)
  rw [hP] at e1
  rw [e1, ← pw_mod_exp (m := 2 * p + 1) (by omega) (grp_one (base_grp hp))]
  congr 1
  have e2 := hg2 z
  rw [← expo_int _ _ need (fun i _ => (wt_bd p _ _ _ _ (by omega)).1) (fun i _ => by omega)] at e2
  exact (cg_toNat (by omega) e2.symm).symm
theorem parts_apart {p hold : Nat} {l : List Sh} (hl : PartsOk p hold l) (hh : hold < p) (I : List Nat) (hI : I.Nodup) (hIl : ∀ i ∈ I, i < l.length) : Apart p (I.map fun i => (shAt l i).1) := by
  have hA := hl.apart hh
  have hll : (hsOf l).length = l.length := by simp [hsOf]
  refine apart_map _ I hI fun i hi j hj hne hd => ?_
  have := hA i j (by rw [hll]; exact hIl i hi) (by rw [hll]; exact hIl j hj) hne
  rw [hsOf_get l i (hIl i hi), hsOf_get l j (hIl j hj)] at this
  exact this hd
/-- Parts that agree with enough right ones are right everywhere. -/
theorem hAt_right {p hold need x : Nat} (hp : SPrm p) (hh : hold < p) (h1 : 1 ≤ need) (hx : inG p (2 * p + 1) (x : Int) = true) (co : List Int) (hco : co.length ≤ need) {l P : List Sh} (hl : PartsOk p hold l) (hP : PartsOk p hold P) (hPl : P.length = need)
    (I : List Nat) (hI : I.Nodup) (hIl : ∀ i ∈ I, i < l.length) (hIn : need ≤ I.length) (hgood : ∀ i ∈ I, vOf l i = pw (2 * p + 1) x (evH p (shAt l i).1 co).toNat) (hag : ∀ i ∈ I, hAt p P (shAt l i).1 need = vOf l i) (z : Int) :
    hAt p P z need = pw (2 * p + 1) x (evH p z co).toNat := by
  have h3 := hp.2.2.1
  obtain ⟨g, hg1, hg2⟩ := hAt_poly hp h1 hPl hP
  obtain ⟨ex, hex, rfl⟩ := grp_log hp hx
  have key : ∀ y, pw (2 * p + 1) (pw (2 * p + 1) 4 ex) (evH p y co).toNat = pw (2 * p + 1) 4 (ex * (evH p y co).toNat % p) := fun y => by
    rw [pw_pw, pw_mod_exp (m := 2 * p + 1) (by omega) (grp_one (base_grp hp))]
  have lnk : ∀ y, Cg p (((ex * (evH p y co).toNat : Nat) : Int)) ((ex : Int) * ev co y) := fun y => by
    have hb := evH_bd p y (by omega) co
    rw [Int.natCast_mul, Int.toNat_of_nonneg hb.1]
    exact (Cg.refl _ _).mul (evH_cg p y co)
  have hF : IsP need fun y => (ex : Int) * ev co y := IsP.smul (ex : Int) ⟨co, hco, fun _ => rfl⟩
  have hs := same_poly hp.1 hg1 hF (I.map fun i => (shAt l i).1) (by simpa using hIn) (parts_apart hl hh I hI hIl) (fun y hy => by
    obtain ⟨i, hi, rfl⟩ := List.mem_map.1 hy
    have e := hag i hi
    rw [hg2, hgood i hi, key] at e
    have e2 := pw_inj4 hp (by have := Int.emod_lt_of_pos (g (shAt l i).1) (show (0 : Int) < p by omega); have := Int.emod_nonneg (g (shAt l i).1) (show (p : Int) ≠ 0 by omega); omega) (Nat.mod_lt _ (by omega)) e
    exact (toNat_cg (by omega) e2).trans (lnk _)) z
  rw [hg2, key]
  congr 1
  exact cg_toNat (by omega) (hs.trans (lnk z).symm)
/-- Right parts alone are right everywhere. -/
theorem hAt_all {p hold need x : Nat} (hp : SPrm p) (hh : hold < p) (h1 : 1 ≤ need) (hx : inG p (2 * p + 1) (x : Int) = true) (co : List Int) (hco : co.length ≤ need) {P : List Sh} (hP : PartsOk p hold P) (hPl : P.length = need)
    (hgood : ∀ k, k < need → vOf P k = pw (2 * p + 1) x (evH p (shAt P k).1 co).toNat) (z : Int) :
    hAt p P z need = pw (2 * p + 1) x (evH p z co).toNat := by
  have h3 := hp.2.2.1
  have hxs : ∀ k, k < need → fOf (hsOf P) k = (shAt P k).1 := fun k hk => hsOf_get _ k (by omega)
  have e1 := hAt_expo (p := p) (x := x) (n := need) (by omega) P (fun k => evH p (shAt P k).1 co) hgood z need (Nat.le_refl _)
  rw [hPl] at e1
  have hA := hP.apart hh
  rw [show (hsOf P).length = need by simp [hsOf, hPl]] at hA
  have hlg := wt_lagrange hp.1 h1 _ hA co hco (fun k => evH p (shAt P k).1 co) (fun i hi => by
    show Cg p (evH p (shAt P i).1 co) _
    rw [hxs i hi]; exact evH_cg p _ _) z
  rw [← expo_int _ _ need (fun i _ => (wt_bd p _ _ _ _ (by omega)).1) (fun i hi => (evH_bd p _ (by omega) co).1)] at hlg
  rw [e1, ← pw_mod_exp (m := 2 * p + 1) (by omega) (grp_one hx)]
  congr 1
  have hb := evH_bd p z (by omega) co
  have e3 := hlg.trans (evH_cg p z co).symm
  have e4 := cg_toNat (t := (evH p z co).toNat) (by omega) (show Cg p _ ((((evH p z co).toNat : Nat)) : Int) by rw [Int.toNat_of_nonneg hb.1]; exact e3)
  rw [Nat.mod_eq_of_lt (by omega), ← Int.natCast_emod, Int.toNat_natCast] at e4
  exact e4
/-- Those whose parts are wrong. -/
def badL (p x : Nat) (co : List Int) (l : List Sh) : List Int := (l.filter fun s => decide (((pw (2 * p + 1) x (evH p s.1 co).toNat : Nat) : Int) ≠ s.2.getD 0 0)).map (·.1)
theorem wrL_bad {p x need : Nat} (co : List Int) (l P : List Sh) (hP : P.length = need) (h : ∀ z, hAt p P z need = pw (2 * p + 1) x (evH p z co).toNat) : wrL p P l = badL p x co l := by
  unfold wrL badL
  simp only [hP, h]
theorem count2 {α : Type} (a b : α → Bool) : ∀ L : List α, L.length ≤ (L.filter fun i => !a i).length + (L.filter fun i => !b i).length + (L.filter fun i => a i && b i).length := by
  intro L
  induction L with
  | nil => simp
  | cons x L ih =>
    simp only [List.filter_cons, List.length_cons]
    cases a x <;> cases b x <;> simp <;> omega
theorem count1 {α : Type} (a : α → Bool) : ∀ L : List α, L.length = (L.filter fun i => !a i).length + (L.filter fun i => a i).length := by
  intro L
  induction L with
  | nil => simp
  | cons x L ih =>
    simp only [List.filter_cons, List.length_cons]
    cases a x <;> simp <;> omega
theorem list_shAt (l : List Sh) : l = (List.range l.length).map (shAt l) := by
  apply List.ext_getElem
  · simp
  · intro i h1 h2
    simp [shAt_lt l i h1]
theorem filter_idx (l : List Sh) (f : Sh → Bool) : (l.filter f).length = ((List.range l.length).filter fun i => f (shAt l i)).length := by
  conv => lhs; rw [list_shAt l]
  rw [List.filter_map, List.length_map]; rfl
theorem asc_of {n : Nat} {ns : List Nat} (h1 : ∀ i ∈ ns, i < n) (h2 : ns.Pairwise (· < ·)) : Asc n ns := by
  have hg : ∀ k (h : k < ns.length), ns.getD k 0 = ns[k] := fun k h => by rw [List.getD_eq_getElem?_getD, List.getElem?_eq_getElem h]; rfl
  refine ⟨fun k hk => by rw [hg k hk]; exact h1 _ (List.getElem_mem hk), fun i j hij hj => ?_⟩
  rw [hg i (by omega), hg j hj]
  exact List.pairwise_iff_getElem.1 h2 i j (by omega) hj hij
section
variable {sm : List Nat → Bool} {n : Nat}
theorem rob_some : ∀ (d : Nat) (ch r : List Nat), rob sm n d ch = some r → sm r = true ∧ r.length = ch.length + d ∧ (Asc n ch → Asc n r) := by
  intro d
  induction d with
  | zero =>
    intro ch r h
    unfold rob at h
    split at h
    · injection h with h; subst h; exact ⟨by assumption, rfl, id⟩
    · cases h
  | succ d ih =>
    intro ch r h
    unfold rob at h
    obtain ⟨i, hi, hr⟩ := List.exists_of_findSome?_eq_some h
    obtain ⟨g1, g2, g3⟩ := ih _ _ hr
    have hm := List.mem_range'_1.1 hi
    refine ⟨g1, by rw [g2, List.length_append]; simp; omega, fun ha => g3 (ha.snoc hm.1 (by omega))⟩
theorem rob_none : ∀ (d : Nat) (ch : List Nat), rob sm n d ch = none → ∀ ext : List Nat, ext.length = d → Asc n (ch ++ ext) → sm (ch ++ ext) = false := by
  intro d
  induction d with
  | zero =>
    intro ch h ext he ha
    obtain rfl := List.eq_nil_of_length_eq_zero he
    unfold rob at h
    split at h
    · cases h
    · rename_i hs; simpa using hs
  | succ d ih =>
    intro ch h ext he ha
    cases ext with
    | nil => cases he
    | cons i ext =>
      unfold rob at h
      rw [List.findSome?_eq_none_iff] at h
      have e : ch ++ i :: ext = (ch ++ [i]) ++ ext := by simp
      rw [e] at ha ⊢
      have hi : (ch ++ [i] ++ ext).getD ch.length 0 = i := by simp [List.getD_eq_getElem?_getD]
      have hn : i < n := by have := ha.1 ch.length (by simp); rwa [hi] at this
      have hx : nextOf ch ≤ i := by
        rw [nextOf_eq]
        split
        · omega
        · have := ha.2 (ch.length - 1) ch.length (by omega) (by simp)
          rw [hi] at this
          have e2 : (ch ++ [i] ++ ext).getD (ch.length - 1) 0 = ch.getD (ch.length - 1) 0 := by
            rw [List.getD_eq_getElem?_getD, List.append_assoc, List.getElem?_append_left (by omega), ← List.getD_eq_getElem?_getD]
          rw [e2] at this; omega
      exact ih _ (h i (List.mem_range'_1.2 ⟨hx, by omega⟩)) ext (by simpa using he) ha
end
/-- Few enough wrong parts: the choice that is found gives the right handle, and just the wrong ones do not agree with it. -/
theorem rob_found {p hold need x : Nat} (hp : SPrm p) (hh : hold < p) (h1 : 1 ≤ need) (hx : inG p (2 * p + 1) (x : Int) = true) (co : List Int) (hco : co.length ≤ need) {l : List Sh} (hl : PartsOk p hold l) (hn : need ≤ l.length)
    (hbad : (badL p x co l).length ≤ (l.length - need) / 2) : ∃ r, rob (small p need l) l.length need [] = some r ∧ r.length = need ∧ hAt p (pickN l r) 0 need = pw (2 * p + 1) x (evH p 0 co).toNat ∧ wrL p (pickN l r) l = badL p x co l := by
  have h3 := hp.2.2.1
  have hval : ∀ i, i < l.length → ((vOf l i : Nat) : Int) = (shAt l i).2.getD 0 0 := fun i hi => by
    have := inG_bd (hl.grp i hi); unfold vOf; omega
  have hbc : (badL p x co l).length = ((List.range l.length).filter fun i => !decide (((pw (2 * p + 1) x (evH p (shAt l i).1 co).toNat : Nat) : Int) = (shAt l i).2.getD 0 0)).length := by
    unfold badL
    rw [List.length_map, filter_idx]
    simp
  cases hr : rob (small p need l) l.length need [] with
  | none =>
    exfalso
    have hc := count1 (fun i => decide (((pw (2 * p + 1) x (evH p (shAt l i).1 co).toNat : Nat) : Int) = (shAt l i).2.getD 0 0)) (List.range l.length)
    rw [← hbc, List.length_range] at hc
    obtain ⟨G, hG⟩ : ∃ G, ((List.range l.length).filter fun i => decide (((pw (2 * p + 1) x (evH p (shAt l i).1 co).toNat : Nat) : Int) = (shAt l i).2.getD 0 0)).take need = G := ⟨_, rfl⟩
    have hGl : G.length = need := by rw [← hG, List.length_take]; omega
    have hsub : G.Sublist (List.range l.length) := by rw [← hG]; exact (List.take_sublist _ _).trans List.filter_sublist
    have hGm : ∀ i ∈ G, i < l.length ∧ ((pw (2 * p + 1) x (evH p (shAt l i).1 co).toNat : Nat) : Int) = (shAt l i).2.getD 0 0 := fun i hi => by
      rw [← hG] at hi
      have := List.mem_filter.1 (List.mem_of_mem_take hi)
      exact ⟨List.mem_range.1 this.1, by simpa using this.2⟩
    have hA : Asc l.length G := asc_of (fun i hi => (hGm i hi).1) (List.Pairwise.sublist hsub List.pairwise_lt_range)
    have hget : ∀ k, k < G.length → G.getD k 0 ∈ G := fun k hk => by
      rw [List.getD_eq_getElem?_getD, List.getElem?_eq_getElem hk]; exact List.getElem_mem hk
    have hno := rob_none need [] hr G hGl (by simpa using hA)
    rw [List.nil_append] at hno
    have hP := hl.pickN G (fun k hk => hA.1 k hk) hA.ne
    have hall := hAt_all hp hh h1 hx co hco hP (by rw [pickN_len, hGl]) (fun k hk => by
      have hm := hGm _ (hget k (by omega))
      unfold vOf
      rw [pickN_at l G k (by omega), ← hm.2]; simp)
    have hw := wrL_bad co l (pickN l G) (by rw [pickN_len, hGl]) hall
    unfold small at hno
    rw [hw] at hno
    simp at hno
    omega
  | some r =>
    obtain ⟨g1, g2, g3⟩ := rob_some need [] r hr
    have hA := g3 ⟨fun k hk => absurd hk (by simp), fun i j _ hj => absurd hj (by simp)⟩
    have hrl : r.length = need := by simpa using g2
    have hP := hl.pickN r (fun k hk => hA.1 k hk) hA.ne
    have hPl : (pickN l r).length = need := by rw [pickN_len, hrl]
    have hcnt := count2 (fun i => decide (((pw (2 * p + 1) x (evH p (shAt l i).1 co).toNat : Nat) : Int) = (shAt l i).2.getD 0 0)) (fun i => decide ((hAt p (pickN l r) (shAt l i).1 (pickN l r).length : Int) = (shAt l i).2.getD 0 0)) (List.range l.length)
    have hwc : (wrL p (pickN l r) l).length = ((List.range l.length).filter fun i => !decide ((hAt p (pickN l r) (shAt l i).1 (pickN l r).length : Int) = (shAt l i).2.getD 0 0)).length := by
      unfold wrL
      rw [List.length_map, filter_idx]
      simp
    rw [← hbc, ← hwc, List.length_range] at hcnt
    have hsm : (wrL p (pickN l r) l).length ≤ (l.length - need) / 2 := by unfold small at g1; simpa using g1
    have hall := hAt_right hp hh h1 hx co hco hl hP hPl _ (List.Pairwise.sublist List.filter_sublist List.nodup_range : ((List.range l.length).filter fun i => decide (((pw (2 * p + 1) x (evH p (shAt l i).1 co).toNat : Nat) : Int) = (shAt l i).2.getD 0 0) && decide ((hAt p (pickN l r) (shAt l i).1 (pickN l r).length : Int) = (shAt l i).2.getD 0 0)).Nodup)
      (fun i hi => List.mem_range.1 (List.mem_filter.1 hi).1) (by omega) (fun i hi => by
        have hm := List.mem_filter.1 hi
        have hil := List.mem_range.1 hm.1
        simp only [Bool.and_eq_true, decide_eq_true_eq] at hm
        have := hval i hil
        omega) (fun i hi => by
        have hm := List.mem_filter.1 hi
        have hil := List.mem_range.1 hm.1
        simp only [Bool.and_eq_true, decide_eq_true_eq] at hm
        have := hval i hil
        rw [hPl] at hm
        omega)
    exact ⟨r, rfl, hrl, hall 0, wrL_bad co l _ hPl hall⟩
end Go.Proofs.YtmneokkdkgflkaaDoor

/- Contracts: division of polynomials. Contracts: how many points a polynomial has; whether numbers differ. -/
import Derived.Test.YtjfphobfikadlaaGreatDoorW08
import Derived.Deep.RegionHeld3
set_option linter.unusedVariables false
set_option linter.unusedSimpArgs false
namespace Go.Proofs.YtjfphobfikadlaaGreatDoor
open Go.RowKit Num

theorem degN_get (l : List Int) (h : 0 < degN l) : l.getD (degN l - 1) 0 ≠ 0 := by
  have h1 := degN_last (trim l) (by rw [degN_trim, trim_len]) (by rw [trim_len]; exact h)
  rw [trim_len] at h1
  unfold trim at h1
  rwa [List.getD_eq_getElem?_getD, List.getElem?_take, if_pos (by omega), ← List.getD_eq_getElem?_getD] at h1
theorem degN_le_of (l : List Int) (d : Nat) (h : ∀ j, d ≤ j → j < l.length → l.getD j 0 = 0) : degN l ≤ d := by
  rcases Nat.lt_or_ge d (degN l) with h1 | h1
  · exact absurd (h (degN l - 1) (by omega) (by have := degN_le l; omega)) (degN_get l (by omega))
  · exact h1
/-- What is left behind k steps of one round. -/
structure DivIn (p : Nat) (R R' b : List Int) (c : Int) (o k : Nat) : Prop where
  len : R'.length = R.length
  inF : InF p R'
  same : ∀ j, o + k ≤ j → R'.getD j 0 = R.getD j 0
  val : ∀ x, Cg p (ev R x) (ev R' x + x ^ o * (c * ev (b.take k) x))
theorem DivIn.start {p : Nat} {R b : List Int} {c : Int} {o : Nat} (hR : InF p R) : DivIn p R R b c o 0 :=
  ⟨rfl, hR, fun _ _ => rfl, fun x => by simp [ev]; exact Cg.refl _ _⟩
theorem ring4 (E X c T K y r n : Int) (h : r = n + c * y) : E + X * (c * T) = E + X * K * (n - r) + X * (c * (T + K * y)) := by
  subst h
  have e1 : n - (n + c * y) = -(c * y) := by omega
  rw [e1, Int.mul_add c, Int.mul_add X, Int.mul_neg]
  have e2 : X * (c * (K * y)) = X * K * (c * y) := by
    rw [← Int.mul_assoc c, Int.mul_comm c K, Int.mul_assoc K, ← Int.mul_assoc]
  rw [e2]; omega
theorem DivIn.step {p : Nat} {R R' b : List Int} {c : Int} {o k : Nat} (h : DivIn p R R' b c o k) (hk : o + k < R.length) (hb : k < b.length) {y r cy nw : Int} (hy : b.getD k 0 = y) (hr : R'.getD (o + k) 0 = r) (hc : c * y % (p : Int) = cy) (hn : (r - cy) % (p : Int) = nw)
    (n0 : 0 ≤ nw) (n1 : nw < p) : DivIn p R (R'.set (o + k) nw) b c o (k + 1) := by
  have hl : o + k < R'.length := by rw [h.len]; exact hk
  refine ⟨by rw [List.length_set]; exact h.len, h.inF.set _ _ n0 n1, fun j hj => ?_, fun x => ?_⟩
  · rw [getD_set _ _ _ _ hl, if_neg (by omega)]; exact h.same j (by omega)
  · rw [ev_set _ _ _ _ hl, hr, ev_take_succ _ _ _ hb, hy, Int.pow_add]
    have hcg : Cg p r (nw + c * y) := by
      have h1 : Cg p nw (r - cy) := by rw [← hn]; exact Cg.emod _ _
      have h2 : Cg p cy (c * y) := by rw [← hc]; exact Cg.emod _ _
      have h3 := (h1.add h2.symm).symm
      rwa [show r - cy + cy = r by omega] at h3
    refine (h.val x).trans ?_
    have h4 : Cg p (x ^ o * x ^ k * (nw - r)) (x ^ o * x ^ k * (nw - (nw + c * y))) := (Cg.refl p _).mul ((Cg.refl p nw).sub hcg)
    have h5 := ((Cg.refl p (ev R' x)).add h4).add (Cg.refl p (x ^ o * (c * (ev (b.take k) x + x ^ k * y))))
    have e := ring4 (ev R' x) (x ^ o) c (ev (b.take k) x) (x ^ k) y (nw + c * y) nw rfl
    rw [← e] at h5
    exact h5.symm
/-- What is kept from round to round: m coefficients of the rest are still to be looked at. -/
structure DivO (p : Nat) (a b Q R : List Int) (d m : Nat) : Prop where
  lenR : R.length = a.length
  lenQ : Q.length = a.length - d
  inR : InF p R
  inQ : InF p Q
  gone : ∀ j, m ≤ j → R.getD j 0 = 0
  free : ∀ j, j + d < m → Q.getD j 0 = 0
  val : ∀ x, Cg p (ev a x) (ev Q x * ev b x + ev R x)
theorem DivO.round {p : Nat} {a b Q R R' : List Int} {d m : Nat} (h : DivO p a b Q R d (m + 1)) (hdm : d ≤ m) (hm : m < a.length) (hb : d + 1 = degN b) {c v : Int} (hv : Cg p (b.getD d 0 * v) 1) (hc : R.getD m 0 * v % (p : Int) = c) (c0 : 0 ≤ c) (c1 : c < p) (hp : 1 ≤ p)
    (hi : DivIn p R R' b c (m - d) (d + 1)) (hl : R'.getD m 0 = (R.getD m 0 - c * b.getD d 0 % p) % p) : DivO p a b (Q.set (m - d) c) R' d m := by
  have hq : m - d < Q.length := by rw [h.lenQ]; omega
  have hz : R'.getD m 0 = 0 := by
    rw [hl]
    have h1 : Cg p (c * b.getD d 0) (R.getD m 0) := by
      have h2 : Cg p c (R.getD m 0 * v) := by rw [← hc]; exact Cg.emod _ _
      have h3 := h2.mul (Cg.refl p (b.getD d 0))
      have h4 := (Cg.refl p (R.getD m 0)).mul hv
      rw [Int.mul_one] at h4
      refine h3.trans ?_
      rwa [Int.mul_assoc, Int.mul_comm v]
    have h5 := (Cg.refl p (R.getD m 0)).sub ((Cg.emod p (c * b.getD d 0)).trans h1)
    rw [Int.sub_self] at h5
    have h6 : (R.getD m 0 - c * b.getD d 0 % (p : Int)) % (p : Int) = 0 % (p : Int) := h5
    rw [h6, Int.zero_emod]
  refine ⟨hi.len.trans h.lenR, by rw [List.length_set]; exact h.lenQ, hi.inF, h.inQ.set _ _ c0 c1, fun j hj => ?_, fun j hj => ?_, fun x => ?_⟩
  · rcases Nat.eq_or_lt_of_le hj with e | e
    · rw [← e]; exact hz
    · rw [hi.same j (by omega)]; exact h.gone j (by omega)
  · rw [getD_set _ _ _ _ hq, if_neg (by omega)]; exact h.free j (by omega)
  · rw [ev_set _ _ _ _ hq, h.free (m - d) (by omega), Int.sub_zero]
    have h1 := hi.val x
    have e1 : ev (b.take (d + 1)) x = ev b x := by rw [hb]; exact trim_ev x b
    rw [e1] at h1
    refine (h.val x).trans ?_
    have h2 := (Cg.refl p (ev Q x * ev b x)).add h1
    have e2 : ev Q x * ev b x + (ev R' x + x ^ (m - d) * (c * ev b x)) = (ev Q x + x ^ (m - d) * c) * ev b x + ev R' x := by
      rw [Int.add_mul, Int.mul_assoc]; omega
    rwa [e2] at h2
def DivPost (p : Nat) (a b : List Int) (d : Nat) (w : World) (e : Ending) (w' : World) : Prop := ∃ (Q R : List Int) (vq vr : Value), Num.Can p Q ∧ Num.Can p R ∧ Q.length ≤ a.length - d ∧ R.length ≤ d ∧ (∀ x, Cg p (ev a x) (ev Q x * ev b x + ev R x)) ∧
  e = .returned (.tuple #[vq, vr, .int .i64 0]) ∧ OwnI w' w.heap.size vq Q ∧ OwnI w' w.heap.size vr R ∧ Below w.heap.size w w'

set_option maxRecDepth 100000 in
set_option maxHeartbeats 1000000 in
theorem p_Divide (p : Nat) (va vb : Value) (a b : List Int) (d : Nat) (S T : Nat → Prop) (w : World) (hp : Prm p) (h2 : p ≤ 1073741824)
    (ha : IntsAt w S va a) (hS : ∀ b, S b → b < w.heap.size) (hb : IntsAt w T vb b) (hT : ∀ b, T b → b < w.heap.size) (la : a.length ≤ 10000) (lb : b.length ≤ 10000) (hd : d + 1 = degN b) (hda : d ≤ a.length) (l0 : 0 < a.length) (fa : InF p a) (fb : InF p b) :
    Calls Tryz.prog 171 #[.int .i64 (p : Int), va, vb] w (DivPost p a b d w) := by
  have hp2 := hp.1
  have hp1 : 1 ≤ p := by omega
  obtain ⟨i0, hi, hz0, hz1, hz2⟩ := info_parts infoI
  obtain ⟨A, n, ca, rfl, hn, hnc, hcc⟩ := id ha
  obtain ⟨B, m, cb, rfl, hm, hmc, hcd⟩ := id hb
  have hn1 : n ≤ 10000 := by omega
  have hm1 : m ≤ 10000 := by omega
  have hle := degN_le b
  have hdm : d < m := by omega
  have hdn : d ≤ n := by omega
  have hmx : Tryz.prog.follows .mixedOrders = true := by kernel_rfl
  have fbd := fb d (by omega)
  have hbd0 := degN_get b (by omega)
  rw [← hd, Nat.add_sub_cancel] at hbd0
  have hdeg := p_Degree (.slice B m cb) b T w hb hT (by omega)
  rw [← hd, show ((d + 1 : Nat) : Int) - 1 = (d : Int) by omega] at hdeg
  obtain ⟨bb, ob, rfl, hTb, hcb⟩ := hcd (by omega)
  have ckd := hcb d (by omega)
  have hcl := fun W' (h : Below w.heap.size w W') => s_Clone (.slice A n ca) a S W' (ha.keep fun q hq => h.block q (hS q hq)) (fun q hq => by have := hS q hq; have := h.size; omega) (by omega)
  have hsl := fun (W : World) => run_slice_hi (P := Tryz.prog) W 24 3 i0 Tryz.underlying24 hi (some ⟨bb, ob, none⟩) m cb (d + 1) (by omega) ((d : Int) + 1) (by omega)
  have hN : ((n : Int) - (d : Int)) = ((n - d : Nat) : Int) := by omega
  have hN0 : (0 : Int) ≤ (n : Int) - (d : Int) := by omega
  have hmk := fun (W : World) => run_make (P := Tryz.prog) W 24 3 i0 (.int .i64 0) Tryz.underlying24 hi hz0 .i64 .i64 (n - d) (n - d) (by omega) (by omega) (by rw [hz2]; omega) (by omega)
  simp only [Int.toNat_natCast, hz1, Nat.mul_one, ← hN] at hmk
  have hinv := invP_cg hp (a := b.getD d 0) fbd.1 (fun h => by have h3 := Int.le_of_dvd (by have := fbd.1; omega) h; have := fbd.2; omega)
  have hvb := invP_bd p (b.getD d 0) hp2
  have hfi := fun W => f_Inverse p (b.getD d 0) W hp2 (by omega) (by have := fbd.1; omega) (by have := fbd.2; omega)
  obtain ⟨bd, hbd⟩ : ∃ bd, b.getD d 0 = bd := ⟨_, rfl⟩
  rw [hbd] at ckd hinv hvb fbd
  simp only [hbd] at hfi
  generalize invP p bd = v at *
  have HFI := Lib.hid hfi
  have HINV := Lib.hid hinv
  have HCL := Lib.hid hcl
  have HDEG := Lib.hid hdeg
  have HB := Lib.hid hb
  have HA := Lib.hid ha
  have HN := Lib.hid hn
  have HMM := Lib.hid hm
  have HD := Lib.hid hd
  have HBD := Lib.hid hbd
  have HCB := Lib.hid hcb
  have qd : (d : Int) < (m : Int) := by omega
  have qd0 : (0 : Int) ≤ (d : Int) := by omega
  have qd1 : ¬ (d : Int) < 0 := by omega
  clear hfi hinv hcl hdeg hb ha hn hm hd hbd hcb hcc hcd hle hbd0 hN
  go_enter Tryz.func171, Tryz.ntmps171
  go_wp2_with fail
  refine HDEG.out.mono ?_
  rintro e w1 ⟨rfl, hb1⟩
  have ck1 := (hb1.cell (p := ⟨bb, ob + d, none⟩) (hT bb hTb)).trans ckd
  go_wp2_with fail
  refine (HFI.out _).mono ?_
  rintro e w' ⟨rfl, rfl⟩
  go_wp2_with fail
  refine (HCL.out _ hb1).mono ?_
  rintro e w2 ⟨vr, rfl, ho2, hb2⟩
  have hbw2 := hb1.trans (hb2.mono hb1.size)
  rcases ho2.form with ⟨_, hae⟩ | ⟨g, cap, rfl, hcap⟩
  · subst hae; simp at l0
  rw [← HN.out] at ho2 hcap ⊢
  have hgl := ho2.lt
  have HO2 := Lib.hid (ho2.mono hb1.size)
  have HBW := Lib.hid hbw2
  have hq2 := OwnI.made (B := w.heap.size) w2 (n - d) hbw2.size (by omega)
  have ho3 := (ho2.mono hb1.size).alloc (.cells (madeCells #[Value.int .i64 0] (n - d)) 3)
  have hbw3 := hbw2.alloc hbw2.size (.cells (madeCells #[Value.int .i64 0] (n - d)) 3)
  have hs3 : w2.heap.size < (w2.alloc (.cells (madeCells #[Value.int .i64 0] (n - d)) 3)).heap.size := by simp
  have hw2s := hbw2.size
  clear ho2 hbw2 hb2 hb1 ck1 ckd HCL HDEG HFI HO2 HBW
  go_wp2_with fail
  obtain ⟨g2, hg2⟩ : ∃ g2, w2.heap.size = g2 := ⟨_, rfl⟩
  rw [hg2] at hq2 hs3 hw2s hgl ⊢
  have hne : g ≠ g2 := by have := hgl.2; omega
  have HQ := Lib.hid hq2
  have HO3 := Lib.hid ho3
  have HBW3 := Lib.hid hbw3
  clear hq2 ho3 hbw3
  generalize (w2.alloc (.cells (madeCells #[Value.int .i64 0] (n - d)) 3)) = w3 at *
  go_loopw [14] (fun t wr => ∃ (i : Nat) (Q R : List Int), d ≤ i ∧ i ≤ n ∧ t = .int .i64 ((i : Int) - 1) ∧ OwnI wr w.heap.size (.slice (some ⟨g, 0, none⟩) n cap) R ∧ OwnI wr w.heap.size (.slice (some ⟨g2, 0, none⟩) (n - d) (n - d)) Q ∧ DivO p a b Q R d i ∧ Below w.heap.size w wr) (fun t _ => (intOf t + 1).toNat)
  case atStart =>
    refine ⟨n, List.replicate (n - d) 0, a, by omega, by omega, rfl, HO3.out, HQ.out, ?_, HBW3.out⟩
    have hN := HN.out
    refine ⟨rfl, by rw [List.length_replicate, hN], fa, InF.zeros p _ hp1, fun j hj => getD_none a j (by omega), fun j hj => ?_, fun x => by rw [ev_zeros]; simp; exact Cg.refl _ _⟩
    rw [List.getD_eq_getElem?_getD, List.getElem?_replicate]; split <;> rfl
  case round =>
    obtain ⟨i', Q, R, hdi, hin, rfl, ho, hq, hdv, hbl⟩ := hrel
    have HO := Lib.hid ho
    have HQQ := Lib.hid hq
    have HDV := Lib.hid hdv
    have HBL := Lib.hid hbl
    by_cases hlt : d < i'
    · obtain ⟨i, rfl⟩ : ∃ i, i' = i + 1 := ⟨i' - 1, by omega⟩
      have q0 : ((i + 1 : Nat) : Int) - 1 = (i : Int) := by omega
      rw [q0]
      have hlR : R.length = n := by have := hdv.lenR; have := HN.out; omega
      have ckr := ho.cell i (by omega)
      have frr := hdv.inR i (by omega)
      have cq := fun y => hq.set (i - d) y
      have fq := hq.frozen (i - d)
      have okq := fun u => ho.kept (only_setCell (World.grownBy.refl wr (some g2)) (p := ⟨g2, i - d, none⟩) (.inl rfl) u) (.inr (by simp [Value.ownBlock]; exact hne))
      have hckq := hq.cell (i - d) (by have := hdv.lenQ; have := HN.out; omega)
      obtain ⟨r, hr⟩ : ∃ r, R.getD i 0 = r := ⟨_, rfl⟩
      rw [hr] at ckr frr
      have HR := Lib.hid hr
      have HCQ := Lib.hid cq
      have HOKQ := Lib.hid okq
      have qi : (i : Int) < (n : Int) := by omega
      have qi0 : (0 : Int) ≤ (i : Int) := by omega
      have qi1 : (d : Int) ≤ (i : Int) := by omega
      have wi : IntKind.i64.wrap ((i : Int) - (d : Int)) = (i : Int) - (d : Int) := IntWalk.i64_in _ ⟨by omega, by omega⟩
      have qd2 : (0 : Int) ≤ (i : Int) - (d : Int) := by omega
      have qd3 : (i : Int) - (d : Int) < ((n - d : Nat) : Int) := by omega
      have qd4 : ((i : Int) - (d : Int)).toNat = i - d := by omega
      have c0 := Int.emod_nonneg (r * v) (show (p : Int) ≠ 0 by omega)
      have c1 := Int.emod_lt_of_pos (r * v) (show (0 : Int) < p by omega)
      clear hr ho hq hdv hbl cq okq q0
      go_wp2_with fail
      refine (f_MulZ p r v _ hp1 (by omega) (by omega) (by omega) (by omega) (by omega)).mono ?_
      rintro e w' ⟨rfl, rfl⟩
      obtain ⟨c, hc⟩ : ∃ c, r * v % (p : Int) = c := ⟨_, rfl⟩
      rw [hc] at c0 c1 ⊢
      have HC := Lib.hid hc
      clear hc
      go_wp2_with fail
      have hq4 := HCQ.out c
      have ho4 := HOKQ.out (.int .i64 c)
      have hb4 := HBL.out.setCell (p := ⟨g2, i - d, none⟩) hw2s (.int .i64 c)
      have HQ4 := Lib.hid hq4
      have HO4 := Lib.hid ho4
      have HB4 := Lib.hid hb4
      clear hq4 ho4 hb4 HCQ HOKQ hckq fq ckr
      generalize (wr.setCell ⟨g2, i - d, none⟩ (.int .i64 c)) = w4 at *
      go_loopw [65] (fun t wq => ∃ (k : Nat) (R' : List Int), k ≤ d + 1 ∧ t = .int .i64 k ∧ OwnI wq w.heap.size (.slice (some ⟨g, 0, none⟩) n cap) R' ∧ OwnI wq w.heap.size (.slice (some ⟨g2, 0, none⟩) (n - d) (n - d)) (Q.set (i - d) c) ∧ DivIn p R R' b c (i - d) k ∧ (d < k → R'.getD i 0 = (r - c * bd % p) % p) ∧ Below w.heap.size w wq) (fun t _ => d + 1 - (intOf t).toNat)
      case atStart => exact ⟨0, R, by omega, rfl, HO4.out, HQ4.out, DivIn.start HDV.out.inR, fun h => absurd h (Nat.not_lt_zero d), HB4.out⟩
      case round =>
        obtain ⟨k, R', hk, rfl, ho, hq, hdi2, htop, hbl⟩ := hrel
        have HO5 := Lib.hid ho
        have HQ5 := Lib.hid hq
        have HD5 := Lib.hid hdi2
        have HT5 := Lib.hid htop
        have HB5 := Lib.hid hbl
        by_cases hlt2 : k < d + 1
        · have hkm : k < m := by omega
          have hkn : i - d + k < n := by omega
          have ckb := (hbl.cell (p := ⟨bb, ob + k, none⟩) (hT bb hTb)).trans (HCB.out k hkm)
          have fbk := fb k (by have := HMM.out; omega)
          obtain ⟨y, hy⟩ : ∃ y, b.getD k 0 = y := ⟨_, rfl⟩
          rw [hy] at ckb fbk
          have hlR' : R'.length = n := by rw [hdi2.len]; exact hlR
          have ckr := ho.cell (i - d + k) (by omega)
          have fkr := ho.frozen (i - d + k)
          have frk := hdi2.inF (i - d + k) (by omega)
          have hst := fun u => ho.set (i - d + k) u
          have hoq := fun u => hq.kept (only_setCell (World.grownBy.refl wr (some g)) (p := ⟨g, i - d + k, none⟩) (.inl rfl) u) (.inr (by simp [Value.ownBlock]; exact fun e => hne e.symm))
          obtain ⟨rk, hrk⟩ : ∃ rk, R'.getD (i - d + k) 0 = rk := ⟨_, rfl⟩
          rw [hrk] at ckr frk
          have HRK := Lib.hid hrk
          have HY := Lib.hid hy
          have HST := Lib.hid hst
          have HOQ := Lib.hid hoq
          have qk : (k : Int) < (d : Int) + 1 := by omega
          have qk0 : (0 : Int) ≤ (k : Int) := by omega
          have qs : ((i : Int) - (d : Int) + (k : Int)) = ((i - d + k : Nat) : Int) := by omega
          have qs0 : (0 : Int) ≤ (i : Int) - (d : Int) + (k : Int) := by omega
          have qs1 : (i : Int) - (d : Int) + (k : Int) < (n : Int) := by omega
          have qs2 : ((i : Int) - (d : Int) + (k : Int)).toNat = i - d + k := by omega
          have wk : IntKind.i64.wrap ((i : Int) - (d : Int) + (k : Int)) = (i : Int) - (d : Int) + (k : Int) := IntWalk.i64_in _ ⟨by omega, by omega⟩
          clear hy hrk ho hq hdi2 htop hbl hst hoq qs
          go_wp2_with fail
          refine wp_region_last_lit _ _ (fun W => W.cell? ⟨g, i - d + k, none⟩ = some (.int .i64 rk)) hmx rfl (by kernel_rfl) ckr (fun hS => ?_)
          simp only [List.dropLast]
          refine wpAnyH_take (i := 0) (v := ?_) rfl (by kernel_rfl) (by kernel_rfl) (by kernel_rfl) (fun _ _ _ h => h) (Or.inl ⟨by rfl, ?_⟩) (by assumption) ?_
          rotate_left
          · (intro w hSw; (try dsimp only at hSw); go_simp; try (with_reducible rfl))
          try simp only [Act.put, List.setIfInBounds_toArray, List.set_cons_zero, List.set_cons_succ]
          refine wpAnyH_take (i := 1) (v := ?_) rfl (by kernel_rfl) (by kernel_rfl) (by kernel_rfl) (fun _ _ _ h => h) (Or.inl ⟨by rfl, ?_⟩) (by assumption) ?_
          rotate_left
          · (intro w hSw; (try dsimp only at hSw); go_simp; try (with_reducible rfl))
          try simp only [Act.put, List.setIfInBounds_toArray, List.set_cons_zero, List.set_cons_succ]
          refine wpAnyH_take (i := 2) (v := ?_) rfl (by kernel_rfl) (by kernel_rfl) (by kernel_rfl) (fun _ _ _ h => h) (Or.inl ⟨by rfl, ?_⟩) (by assumption) ?_
          rotate_left
          · (intro w hSw; (try dsimp only at hSw); go_simp; try (with_reducible rfl))
          try simp only [Act.put, List.setIfInBounds_toArray, List.set_cons_zero, List.set_cons_succ]
          refine wpAnyH_take (i := 3) (v := ?_) rfl (by kernel_rfl) (by kernel_rfl) (by kernel_rfl) (fun _ _ _ h => h) (Or.inl ⟨by rfl, ?_⟩) (by assumption) ?_
          rotate_left
          · (intro w hSw; (try dsimp only at hSw); go_simp; try (with_reducible rfl))
          try simp only [Act.put, List.setIfInBounds_toArray, List.set_cons_zero, List.set_cons_succ]
          refine wpAnyH_take (i := 4) (v := ?_) rfl (by kernel_rfl) (by kernel_rfl) (by kernel_rfl) (fun _ _ _ h => h) (Or.inl ⟨by rfl, ?_⟩) (by assumption) ?_
          rotate_left
          · (intro w hSw; (try dsimp only at hSw); go_simp; try (with_reducible rfl))
          try simp only [Act.put, List.setIfInBounds_toArray, List.set_cons_zero, List.set_cons_succ]
          refine wpAnyH_take (i := 5) (v := ?_) rfl (by kernel_rfl) (by kernel_rfl) (by kernel_rfl) (fun _ _ _ h => h) (Or.inl ⟨by rfl, ?_⟩) (by assumption) ?_
          rotate_left
          · (intro w hSw; (try dsimp only at hSw); go_simp; try (with_reducible rfl))
          try simp only [Act.put, List.setIfInBounds_toArray, List.set_cons_zero, List.set_cons_succ]
          refine wpAnyH_take (i := 6) (v := ?_) rfl (by kernel_rfl) (by kernel_rfl) (by kernel_rfl) (fun _ _ _ h => h) (Or.inl ⟨by rfl, ?_⟩) (by assumption) ?_
          rotate_left
          · (intro w hSw; (try dsimp only at hSw); go_simp; try (with_reducible rfl))
          try simp only [Act.put, List.setIfInBounds_toArray, List.set_cons_zero, List.set_cons_succ]
          refine wpAnyH_take (i := 7) (v := ?_) rfl (by kernel_rfl) (by kernel_rfl) (by kernel_rfl) (fun _ _ _ h => h) (Or.inl ⟨by rfl, ?_⟩) (by assumption) ?_
          rotate_left
          · (intro w hSw; (try dsimp only at hSw); go_simp; try (with_reducible rfl))
          try simp only [Act.put, List.setIfInBounds_toArray, List.set_cons_zero, List.set_cons_succ]
          refine wpAnyH_take (i := 8) (v := ?_) rfl (by kernel_rfl) (by kernel_rfl) (by kernel_rfl) (fun _ _ _ h => h) (Or.inl ⟨by rfl, ?_⟩) (by assumption) ?_
          rotate_left
          · (intro w hSw; (try dsimp only at hSw); go_simp; try (with_reducible rfl))
          try simp only [Act.put, List.setIfInBounds_toArray, List.set_cons_zero, List.set_cons_succ]
          refine wpAnyH_take (i := 9) (v := ?_) rfl (by kernel_rfl) (by kernel_rfl) (by kernel_rfl) (fun _ _ _ h => h) (Or.inl ⟨by rfl, ?_⟩) (by assumption) ?_
          rotate_left
          · (intro w hSw; (try dsimp only at hSw); go_simp; try (with_reducible rfl))
          try simp only [Act.put, List.setIfInBounds_toArray, List.set_cons_zero, List.set_cons_succ]
          refine wpAnyH_take (i := 10) (v := ?_) rfl (by kernel_rfl) (by kernel_rfl) (by kernel_rfl) (fun _ _ _ h => h) (Or.inl ⟨by rfl, ?_⟩) (by assumption) ?_
          rotate_left
          · (intro w hSw; (try dsimp only at hSw); go_simp; try (with_reducible rfl))
          try simp only [Act.put, List.setIfInBounds_toArray, List.set_cons_zero, List.set_cons_succ]
          refine wpAnyH_take (i := 11) (v := ?_) rfl (by kernel_rfl) (by kernel_rfl) (by kernel_rfl) (fun _ _ _ h => h) (Or.inl ⟨by rfl, ?_⟩) (by assumption) ?_
          rotate_left
          · (intro w hSw; (try dsimp only at hSw); go_simp; try (with_reducible rfl))
          try simp only [Act.put, List.setIfInBounds_toArray, List.set_cons_zero, List.set_cons_succ]
          refine wpAnyH_take (i := 12) (v := ?_) rfl (by kernel_rfl) (by kernel_rfl) (by kernel_rfl) (fun _ _ _ h => h) (Or.inl ⟨by rfl, ?_⟩) (by assumption) ?_
          rotate_left
          · (intro w hSw; (try dsimp only at hSw); go_simp; try (with_reducible rfl))
          try simp only [Act.put, List.setIfInBounds_toArray, List.set_cons_zero, List.set_cons_succ]
          refine wpAnyH_take (i := 13) (v := ?_) rfl (by kernel_rfl) (by kernel_rfl) (by kernel_rfl) (fun _ _ _ h => h) (Or.inl ⟨by rfl, ?_⟩) (by assumption) ?_
          rotate_left
          · (intro w hSw; (try dsimp only at hSw); go_simp; try (with_reducible rfl))
          try simp only [Act.put, List.setIfInBounds_toArray, List.set_cons_zero, List.set_cons_succ]
          refine wpAnyH_take (i := 14) (v := ?_) rfl (by kernel_rfl) (by kernel_rfl) (by kernel_rfl) (fun _ _ _ h => h) (Or.inl ⟨by rfl, ?_⟩) (by assumption) ?_
          rotate_left
          · (intro w hSw; (try dsimp only at hSw); go_simp; try (with_reducible rfl))
          try simp only [Act.put, List.setIfInBounds_toArray, List.set_cons_zero, List.set_cons_succ]
          refine wpAnyH_take (i := 15) (v := ?_) rfl (by kernel_rfl) (by kernel_rfl) (by kernel_rfl) (fun _ _ _ h => h) (Or.inl ⟨by rfl, ?_⟩) (by assumption) ?_
          rotate_left
          · (intro w hSw; (try dsimp only at hSw); go_simp; try (with_reducible rfl))
          try simp only [Act.put, List.setIfInBounds_toArray, List.set_cons_zero, List.set_cons_succ]
          refine wpAnyH_take (i := 16) (v := ?_) rfl (by kernel_rfl) (by kernel_rfl) (by kernel_rfl) (fun _ _ _ h => h) (Or.inl ⟨by rfl, ?_⟩) (by assumption) ?_
          rotate_left
          · (intro w hSw; (try dsimp only at hSw); go_simp; try (with_reducible rfl))
          try simp only [Act.put, List.setIfInBounds_toArray, List.set_cons_zero, List.set_cons_succ]
          refine wpAnyH_take (i := 17) (v := ?_) rfl (by kernel_rfl) (by kernel_rfl) (by kernel_rfl) (fun _ _ _ h => h) (Or.inl ⟨by rfl, ?_⟩) (by assumption) ?_
          rotate_left
          · (intro w hSw; (try dsimp only at hSw); go_simp; try (with_reducible rfl))
          try simp only [Act.put, List.setIfInBounds_toArray, List.set_cons_zero, List.set_cons_succ]
          refine wpAnyH_ready (rs := [18]) (by kernel_rfl) (by simp) ?_
          refine AllReadyH.cons rfl (fun K hK => ?_) AllReadyH.nil
          go_simp
          refine (f_MulZ p c y _ hp1 (by omega) (by omega) (by omega) (by omega) (by omega)).mono ?_
          rintro e w' ⟨rfl, rfl⟩
          have es0 := Int.emod_nonneg (c * y) (show (p : Int) ≠ 0 by omega)
          have es1 := Int.emod_lt_of_pos (c * y) (show (0 : Int) < p by omega)
          obtain ⟨cy, hcy⟩ : ∃ cy, c * y % (p : Int) = cy := ⟨_, rfl⟩
          rw [hcy] at es0 es1 ⊢
          have HCY := Lib.hid hcy
          clear hcy
          refine hK.out _ _ (hS) (fun hHeld => ?_)
          clear hK K
          try simp only [Act.put, List.setIfInBounds_toArray, List.set_cons_zero, List.set_cons_succ]
          refine wpAnyH_ready (rs := [19]) (by kernel_rfl) (by simp) ?_
          refine AllReadyH.cons rfl (fun K hK => ?_) AllReadyH.nil
          go_simp
          refine (f_Sub p rk cy _ hp1 (by omega) (by omega) (by omega) (by omega) (by omega)).mono ?_
          rintro e w' ⟨rfl, rfl⟩
          have s0 := Int.emod_nonneg (rk - cy) (show (p : Int) ≠ 0 by omega)
          have s1 := Int.emod_lt_of_pos (rk - cy) (show (0 : Int) < p by omega)
          obtain ⟨nw, hnw⟩ : ∃ nw, (rk - cy) % (p : Int) = nw := ⟨_, rfl⟩
          rw [hnw] at s0 s1 ⊢
          have HNW := Lib.hid hnw
          clear hnw
          refine hK.out _ _ (hS) (fun hHeld => ?_)
          clear hK K
          try simp only [Act.put, List.setIfInBounds_toArray, List.set_cons_zero, List.set_cons_succ]
          refine wpAnyH_take (i := 20) (v := ?_) rfl (by kernel_rfl) (by kernel_rfl) (by kernel_rfl) (fun _ _ _ h => h) (Or.inl ⟨by rfl, ?_⟩) (by assumption) ?_
          rotate_left
          · (intro w hSw; (try dsimp only at hSw); go_simp; try (with_reducible rfl))
          try simp only [Act.put, List.setIfInBounds_toArray, List.set_cons_zero, List.set_cons_succ]
          refine wpAnyH_done (by kernel_rfl) ?_ _
          refine lastQ_step (by rfl) (by rfl) ?_
          go_simp
          go_wp2_with fail
          go_roundw
          case measure => simp [intOf]; omega
          case rel =>
            refine ⟨k + 1, R'.set (i - d + k) nw, by omega, by go_num, HST.out _, HOQ.out _, HD5.out.step (by rw [hlR]; exact hkn) (by have := HMM.out; omega) HY.out HRK.out HCY.out HNW.out s0 s1, fun hdk => ?_, (HB5.out.setCell (p := ⟨g, i - d + k, none⟩) (by show w.heap.size ≤ g; have := HO5.out.lt; omega) _).drew⟩
            have hkd : k = d := by omega
            have hR' := HD5.out.len
            rw [show i - d + k = i by omega, getD_set _ _ _ _ (by rw [hR', hlR]; omega), if_pos rfl, ← HNW.out, ← HCY.out]
            have h1 := HD5.out.same i (by omega)
            have h2 := HRK.out
            rw [show i - d + k = i by omega, h1, HR.out] at h2
            rw [← h2]
            have h3 := HY.out
            rw [hkd, HBD.out] at h3
            rw [← h3]
        · have hkd : k = d + 1 := by omega
          subst hkd
          clear ho hq hdi2 htop hbl
          go_wp2_with fail
          go_roundw
          case measure => simp [intOf]
          case rel =>
            refine ⟨i, Q.set (i - d) c, R', by omega, by omega, rfl, HO5.out, HQ5.out, ?_, HB5.out⟩
            refine HDV.out.round (v := v) (by omega) (by have := HN.out; omega) HD.out (by rw [HBD.out]; exact HINV.out) (by rw [HR.out]; exact HC.out) c0 c1 hp1 HD5.out ?_
            rw [HBD.out, HR.out]
            exact HT5.out (by omega)
    · have hi' : i' = d := by omega
      subst hi'
      have lR := hdv.lenR
      have lQ := hdv.lenQ
      have hN := HN.out
      clear ho hq hdv hbl
      have HLR := Lib.hid lR
      have HLQ := Lib.hid lQ
      clear lR lQ hN
      go_wp2_with fail
      refine (p_short _ Q _ _ HQQ.out.ints (fun q hq => hq.2) (by have := HLQ.out; omega)).mono ?_
      rintro e w5 ⟨vq, rfl, hoq5, hb5⟩
      have ho5 := HO.out.below hb5
      have hbl5 := HBL.out.trans (hb5.mono HBL.out.size)
      have h1q := own_one hoq5
      have HOQ5 := Lib.hid (hoq5.mono HBL.out.size)
      have HO5 := Lib.hid ho5
      have HB5 := Lib.hid hbl5
      clear hoq5 hb5 ho5 hbl5
      go_wp2_with fail
      refine (p_short _ R _ _ HO5.out.ints (fun q hq => hq.2) (by have := HLR.out; omega)).mono ?_
      rintro e w6 ⟨vr2, rfl, hor6, hb6⟩
      have h1r := own_one hor6
      have hoq6 := HOQ5.out.below hb6
      go_wp2_with fail
      refine bodyPost_ret (v := .tuple #[vq, vr2, .int .i64 0]) (by simp [results, Tryz.results171, go_sem]) rfl ?_
      refine ⟨trim Q, trim R, vq, vr2, can_trim HDV.out.inQ.mem, can_trim HDV.out.inR.mem, by rw [trim_len]; have := degN_le Q; have := HLQ.out; omega, by rw [trim_len]; exact degN_le_of R _ (fun j hj _ => HDV.out.gone j hj), fun x => ?_, rfl, hoq6, hor6.mono HB5.out.size, HB5.out.trans (hb6.mono HB5.out.size)⟩
      rw [trim_ev, trim_ev]
      exact HDV.out.val x
end Go.Proofs.YtjfphobfikadlaaGreatDoor
namespace Go.Proofs.YtjfphobfikadlaaGreatDoor
open Go.RowKit Num

set_option maxRecDepth 100000 in
set_option maxHeartbeats 1000000 in
theorem c_agree (p : Nat) (vf vx vy : Value) (F X Y : List Int) (S T U : Nat → Prop) (w : World) (hp1 : 1 ≤ p) (h2 : p ≤ 1073741824)
    (hf : IntsAt w S vf F) (hS : ∀ b, S b → b < w.heap.size) (hx : IntsAt w T vx X) (hT : ∀ b, T b → b < w.heap.size) (hy : IntsAt w U vy Y) (hU : ∀ b, U b → b < w.heap.size)
    (lf : F.length ≤ 10000) (lx : X.length ≤ 1000) (ly : Y.length = X.length) (ff : InF p F) (fx : InF p X) :
    Calls Tryz.prog 134 #[.int .i64 (p : Int), vf, vx, vy] w (IntB (agr p F (fOf X) (fOf Y) X.length : Int) w) := by
  obtain ⟨A, n, ca, rfl, hn, hnc, hcc⟩ := id hx
  obtain ⟨B, m, cb, rfl, hm, hmc, hcd⟩ := id hy
  have hmn : m = n := by omega
  subst hmn
  have hn1 : m ≤ 1000 := by omega
  have hle := agr_le p F (fOf X) (fOf Y)
  have HF := Lib.hid hf
  have HX := Lib.hid hx
  have HY := Lib.hid hy
  have HN := Lib.hid hn
  have HLE := Lib.hid hle
  clear hf hx hy hn hm hcc hcd ly hle
  go_enter Tryz.func134, Tryz.ntmps134
  go_wp2_with fail
  go_loopw [14, 9] (fun t c wr => ∃ i : Nat, i ≤ m ∧ t = .int .i64 i ∧ c = .int .i64 (agr p F (fOf X) (fOf Y) i : Int) ∧ Below w.heap.size w wr) (fun t _ _ => m - (intOf t).toNat)
  case atStart => exact ⟨0, by omega, rfl, rfl, Below.refl _ _⟩
  case round =>
    obtain ⟨i, him, rfl, rfl, hbl⟩ := hrel
    have HBL := Lib.hid hbl
    by_cases hlt : i < m
    · have hir := HX.out.keep (w' := wr) fun q hq => hbl.block q (hT q hq)
      obtain ⟨A', n', c', hv', e2, e3, hcs⟩ := hir
      injection hv' with v1 v2 v3
      subst v1 v2 v3
      obtain ⟨ba, oa, rfl, hTa, hca⟩ := hcs (by omega)
      have cka := hca i hlt
      have fai := fx i (by have := HN.out; omega)
      have hjr := HY.out.keep (w' := wr) fun q hq => hbl.block q (hU q hq)
      obtain ⟨B', m', c'', hv', e2', e3', hcs'⟩ := hjr
      injection hv' with v1 v2 v3
      subst v1 v2 v3
      obtain ⟨bb, ob, rfl, hUb, hcb⟩ := hcs' (by omega)
      have ckb := hcb i hlt
      have hbb : bb < wr.heap.size := by have := hU bb hUb; have := hbl.size; omega
      have hag : agr p F (fOf X) (fOf Y) (i + 1) = agr p F (fOf X) (fOf Y) i + (if ev F (fOf X i) % (p : Int) = fOf Y i then 1 else 0) := rfl
      have hvx : X.getD i 0 = fOf X i := rfl
      have hvy : Y.getD i 0 = fOf Y i := rfl
      rw [hvx] at cka fai
      rw [hvy] at ckb
      have hle := HLE.out i
      generalize fOf X i = x at *
      generalize fOf Y i = y at *
      have hev := fun (W : World) (hb : Below w.heap.size w W) => p_Eval p x vf F S W hp1 h2 (by omega) (by omega) (HF.out.keep fun q hq => hb.block q (hS q hq)) (fun q hq => by have := hS q hq; have := hb.size; omega) (by omega) ff
      generalize ev F x % (p : Int) = ex at *
      have HEV := Lib.hid hev
      have HAG := Lib.hid hag
      have qi : (i : Int) < (m : Int) := by omega
      have qi0 : (0 : Int) ≤ (i : Int) := by omega
      have HBD := HBL.out.drew
      have hbbw : w.heap.size ≤ wr.heap.size := hbl.size
      have ckbd : wr.drew.cell? ⟨bb, ob + i, none⟩ = some (.int .i64 y) := ckb
      generalize agr p F (fOf X) (fOf Y) i = ag at *
      clear hag hev hbl hca hcs hcb hcs' e2 e2' hvx hvy
      go_wp2_with fail
      go_region_held3 (fun w' => w'.cell? ⟨bb, ob + i, none⟩ = some (.int .i64 y) ∧ Below w.heap.size w w')
        (first
          | exact ⟨ckbd, HBD⟩
          | (go_split_ands
             refine ⟨?_, ?_⟩
             · (rw [hbk.cell (by first | exact hbb | (show bb < wr.drew.heap.size; exact hbb))]; assumption)
             · exact Below.trans ‹Below w.heap.size w _› (hbk.mono (by first | exact hbbw | (show w.heap.size ≤ wr.drew.heap.size; exact hbbw)))))
        (first
          | (go_at_call 97; ((with_reducible refine (HEV.out _ (by assumption)).mono ?_); rintro e wk ⟨rfl, hbk⟩)))
      all_goals
        go_split_ands
        by_cases hxy : ex = y
        · have t0 : (ex == y) = true := by simpa using hxy
          have t1 : (y == ex) = true := by simpa using hxy.symm
          have ha1 : agr p F (fOf X) (fOf Y) (i + 1) = ag + 1 := by rw [HAG.out, if_pos hxy]
          have HA1 := Lib.hid ha1
          clear ha1 hxy
          go_wp2_with fail
          go_roundw
          case measure => simp [intOf]; omega
          case rel => exact ⟨i + 1, by omega, by go_num, by rw [HA1.out]; go_num, by assumption⟩
        · have t0 : (ex == y) = false := by simpa using hxy
          have t1 : (y == ex) = false := by simp only [beq_eq_false_iff_ne]; exact fun h => hxy h.symm
          have ha1 : agr p F (fOf X) (fOf Y) (i + 1) = ag := by rw [HAG.out, if_neg hxy]; rfl
          have HA1 := Lib.hid ha1
          clear ha1 hxy
          go_wp2_with fail
          go_roundw
          case measure => simp [intOf]; omega
          case rel => exact ⟨i + 1, by omega, by go_num, by rw [HA1.out], by assumption⟩
    · have hi' : i = m := by omega
      subst hi'
      clear hbl
      go_wp2_with fail
      go_ret
      exact ⟨(by rw [← HN.out]; rfl), HBL.out⟩

/-! ### Rows of numbers -/
/-- The block of a value, if it has one, is among some. -/
def Among (S : Nat → Prop) (v : Value) : Prop := ∀ g, v.ownBlock = some g → S g
theorem Among.new {w : World} {B : Nat} {v : Value} {L : List Int} {S : Nat → Prop} (h : OwnI w B v L) (hS : ∀ b, B ≤ b → S b) : Among S v := by
  intro g hg
  exact hS g (World.ownsRow.lt h g hg).1
/-- Rows of numbers of the call's own, their blocks among some. -/
def RowsI (w : World) (B : Nat) (S : Nat → Prop) (rb n cap : Nat) (M : List (List Int)) : Prop := ∃ us : List Value, w.ownsRow B 24 1 (.slice (some ⟨rb, 0, none⟩) n cap) n us ∧ M.length = n ∧ ∀ k, k < n → OwnI w B (us.getD k (.slice none 0 0)) (M.getD k []) ∧ Among S (us.getD k (.slice none 0 0))
section
variable {w w' : World} {B rb n cap : Nat} {S T : Nat → Prop} {M : List (List Int)}
theorem RowsI.us_len {us : List Value} (h : w.ownsRow B 24 1 (.slice (some ⟨rb, 0, none⟩) n cap) n us) : us.length = n := by have := h.1; omega
theorem RowsI.at_ (h : RowsI w B S rb n cap M) {k : Nat} (hk : k < n) : ∃ u, w.cell? ⟨rb, k, none⟩ = some u ∧ OwnI w B u (M.getD k []) ∧ Among S u := by
  obtain ⟨us, h1, h2, h3⟩ := h
  have hl := RowsI.us_len h1
  refine ⟨us.getD k (.slice none 0 0), ?_, h3 k hk⟩
  have := World.ownsRow.cellAt h1 k (by omega)
  rw [this, List.getElem?_eq_getElem (by omega), List.getD_eq_getElem?_getD, List.getElem?_eq_getElem (by omega)]; rfl
theorem RowsI.frozen (h : RowsI w B S rb n cap M) (k : Nat) : w.frozen? ⟨rb, k, none⟩ = false := by
  obtain ⟨us, h1, h2, h3⟩ := h
  exact World.ownsRow.frozenAt h1 k
theorem RowsI.len (h : RowsI w B S rb n cap M) : M.length = n := by obtain ⟨us, h1, h2, h3⟩ := h; exact h2
theorem RowsI.lt (h : RowsI w B S rb n cap M) : B ≤ rb ∧ rb < w.heap.size := by
  obtain ⟨us, h1, h2, h3⟩ := h
  exact World.ownsRow.lt h1 rb rfl
theorem RowsI.room (h : RowsI w B S rb n cap M) : n ≤ cap := by
  obtain ⟨us, h1, _⟩ := h
  rcases h1.2 with ⟨h', _⟩ | ⟨g', cap', cur, h', _, _, hnc, _⟩
  · cases h'
  · injection h' with _ h2 h3; omega
/-- The blocks are others than one that has grown. -/
theorem RowsI.kept {row : Option Nat} (h : RowsI w B S rb n cap M) (hg : w.grownBy w' row) (hv : row ≠ some rb) (hu : ∀ g, row = some g → ¬ S g) : RowsI w' B S rb n cap M := by
  obtain ⟨us, h1, h2, h3⟩ := h
  refine ⟨us, h1.kept hg (.inr fun e => hv e.symm), h2, fun k hk => ⟨(h3 k hk).1.kept hg ?_, (h3 k hk).2⟩⟩
  cases ho : (us.getD k (.slice none 0 0)).ownBlock with
  | none => exact .inl rfl
  | some g => exact .inr fun e => hu g e.symm ((h3 k hk).2 g ho)
theorem RowsI.below (h : RowsI w B S rb n cap M) (hb : Below w.heap.size w w') : RowsI w' B S rb n cap M :=
  h.kept (only_of_below hb none) (by simp) (fun g e => by cases e)
theorem RowsI.drew (h : RowsI w B S rb n cap M) : RowsI w.drew B S rb n cap M := h
theorem RowsI.mono (h : RowsI w B S rb n cap M) (hST : ∀ b, b < w.heap.size → S b → T b) : RowsI w B T rb n cap M := by
  obtain ⟨us, h1, h2, h3⟩ := h
  exact ⟨us, h1, h2, fun k hk => ⟨(h3 k hk).1, fun g hg => hST g (World.ownsRow.lt (h3 k hk).1 g hg).2 ((h3 k hk).2 g hg)⟩⟩
/-- A row of numbers is no row of rows. -/
theorem OwnI.not_rows {u : Value} {L : List Int} (h : OwnI w B u L) {us : List Value} (h1 : w.ownsRow B 24 1 (.slice (some ⟨rb, 0, none⟩) n cap) n us) : u.ownBlock = none ∨ u.ownBlock ≠ some rb := own_ne h h1 (by decide)
theorem RowsI.apart (h : RowsI w B S rb n cap M) {u : Value} {L : List Int} (hu : OwnI w B u L) : u.ownBlock = none ∨ u.ownBlock ≠ some rb := by
  obtain ⟨us, h1, h2, h3⟩ := h
  exact hu.not_rows h1
theorem getD_setR {α : Type} (l : List α) (k i : Nat) (y d : α) (hk : k < l.length) : (l.set k y).getD i d = if i = k then y else l.getD i d := by
  rw [List.getD_eq_getElem?_getD, List.getD_eq_getElem?_getD, List.getElem?_set]
  by_cases h : k = i
  · subst h; rw [if_pos rfl, if_pos hk, if_pos rfl]; rfl
  · rw [if_neg h, if_neg (fun e => h e.symm)]
/-- Another row is put into a place. -/
theorem RowsI.put (h : RowsI w B S rb n cap M) {k : Nat} (hk : k < n) {u : Value} {L : List Int} (hu : OwnI w B u L) (hs : Among S u) : RowsI (w.setCell ⟨rb, k, none⟩ u) B S rb n cap (M.set k L) ∧ w.grownBy (w.setCell ⟨rb, k, none⟩ u) (some rb) := by
  obtain ⟨us, h1, h2, h3⟩ := h
  have hl := RowsI.us_len h1
  obtain ⟨h4, h5⟩ := World.ownsRow.stored h1 k u
  refine ⟨⟨us.set k u, h4, by rw [List.length_set]; exact h2, fun j hj => ?_⟩, h5⟩
  rw [getD_setR _ _ _ _ _ (by omega), getD_setR _ _ _ _ _ (by omega)]
  by_cases hjk : j = k
  · rw [if_pos hjk, if_pos hjk]; exact ⟨hu.kept h5 (hu.not_rows h1), hs⟩
  · rw [if_neg hjk, if_neg hjk]; exact ⟨(h3 j hj).1.kept h5 ((h3 j hj).1.not_rows h1), (h3 j hj).2⟩
end
end Go.Proofs.YtjfphobfikadlaaGreatDoor

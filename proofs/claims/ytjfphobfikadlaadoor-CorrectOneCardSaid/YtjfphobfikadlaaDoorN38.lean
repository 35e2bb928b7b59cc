/- The contract of the reference's division. -/
import Derived.Test.YtjfphobfikadlaaDoorN35
import Derived.Test.YtjfphobfikadlaaDoorN36
set_option linter.unusedVariables false
set_option linter.unusedSimpArgs false
namespace Go.Proofs.YtjfphobfikadlaaDoor
open Go.RowKit Num

/-- What is kept from round to round: m coefficients of the rest are still to be looked at. -/
structure DivR (p : Nat) (a b Q R : List Int) (d m : Nat) : Prop where
  lenR : R.length = a.length
  lenQ : Q.length = a.length
  inR : InF p R
  inQ : InF p Q
  gone : ∀ j, m ≤ j → R.getD j 0 = 0
  free : ∀ j, j + d < m → Q.getD j 0 = 0
  top : ∀ j, a.length ≤ j + d → Q.getD j 0 = 0
  val : ∀ x, Cg p (ev a x) (ev Q x * ev b x + ev R x)
theorem DivR.less {p : Nat} {a b Q R : List Int} {d m m' : Nat} (h : DivR p a b Q R d m) (hm : m' ≤ m) (hg : ∀ j, m' ≤ j → R.getD j 0 = 0) : DivR p a b Q R d m' :=
  ⟨h.lenR, h.lenQ, h.inR, h.inQ, hg, fun j hj => h.free j (by omega), h.top, h.val⟩
theorem DivR.round {p : Nat} {a b Q R R' : List Int} {d m : Nat} (h : DivR p a b Q R d (m + 1)) (hdm : d ≤ m) (hm : m < a.length) (hb : d + 1 = degN b) {c v : Int} (hv : Cg p (b.getD d 0 * v) 1) (hc : R.getD m 0 * v % (p : Int) = c) (c0 : 0 ≤ c) (c1 : c < p) (hp : 1 ≤ p)
    (hi : DivIn p R R' b c (m - d) (d + 1)) (hl : R'.getD m 0 = (R.getD m 0 - c * b.getD d 0 % p) % p) : DivR p a b (Q.set (m - d) c) R' d m := by
  have hq : m - d < Q.length := by rw [h.lenQ]; omega
  have hz : R'.getD m 0 = 0 := by
    rw [hl]
    have h1 : Cg p (c * b.getD d 0) (R.getD m 0) := by
      have h2 : Cg p c (R.getD m 0 * v) := by rw [← hc]; exact Cg.emod _ _
      have h3 := h2.mul (Cg.refl p (b.getD d 0))
      have h4 := (Cg.refl p (R.getD m 0)).mul hv
      rw [Int.mul_one] at h4
      refine h3.trans ?_
      rwa [Int.mul_assoc, Int.mul_comm v]
    have h5 := (Cg.refl p (R.getD m 0)).sub ((Cg.emod p (c * b.getD d 0)).trans h1)
    rw [Int.sub_self] at h5
    have h6 : (R.getD m 0 - c * b.getD d 0 % (p : Int)) % (p : Int) = 0 % (p : Int) := h5
    rw [h6, Int.zero_emod]
  refine ⟨hi.len.trans h.lenR, by rw [List.length_set]; exact h.lenQ, hi.inF, h.inQ.set _ _ c0 c1, fun j hj => ?_, fun j hj => ?_, fun j hj => ?_, fun x => ?_⟩
  · rcases Nat.eq_or_lt_of_le hj with e | e
    · rw [← e]; exact hz
    · rw [hi.same j (by omega)]; exact h.gone j (by omega)
  · rw [getD_set _ _ _ _ hq, if_neg (by omega)]; exact h.free j (by omega)
  · rw [getD_set _ _ _ _ hq, if_neg (by omega)]; exact h.top j hj
  · rw [ev_set _ _ _ _ hq, h.free (m - d) (by omega), Int.sub_zero]
    have h1 := hi.val x
    have e1 : ev (b.take (d + 1)) x = ev b x := by rw [hb]; exact trim_ev x b
    rw [e1] at h1
    refine (h.val x).trans ?_
    have h2 := (Cg.refl p (ev Q x * ev b x)).add h1
    have e2 : ev Q x * ev b x + (ev R' x + x ^ (m - d) * (c * ev b x)) = (ev Q x + x ^ (m - d) * c) * ev b x + ev R' x := by
      rw [Int.add_mul, Int.mul_assoc]; omega
    rwa [e2] at h2
theorem degN_above : ∀ (l : List Int) (j : Nat), degN l ≤ j → l.getD j 0 = 0 := by
  intro l
  induction l with
  | nil => intro j _; rfl
  | cons c l ih =>
    intro j hj
    unfold degN at hj
    cases j with
    | zero =>
      split at hj
      · omega
      · split at hj
        · next h => simpa using h
        · omega
    | succ j =>
      rw [List.getD_cons_succ]
      refine ih j ?_
      split at hj
      · omega
      · omega
theorem degN_gone (l : List Int) (j : Nat) (h : degN l ≤ j) : l.getD j 0 = 0 := degN_above l j h
theorem repl_get (n j : Nat) : (List.replicate n (0 : Int)).getD j 0 = 0 := by
  rw [List.getD_eq_getElem?_getD, List.getElem?_replicate]; split <;> rfl
theorem mulI_bd' {x y : Int} (x0 : 0 ≤ x) (x1 : x < 1073741824) (y0 : 0 ≤ y) (y1 : y < 1073741824) : 0 ≤ x * y ∧ x * y < 1152921504606846976 := by
  refine ⟨Int.mul_nonneg x0 y0, ?_⟩
  have h1 : x * y ≤ 1073741823 * 1073741823 := Int.mul_le_mul (by omega) (by omega) y0 (by omega)
  omega
set_option maxRecDepth 100000 in
set_option maxHeartbeats 8000000 in
theorem r_Divide (p : Nat) (va vb : Value) (a b : List Int) (d : Nat) (S T : Nat → Prop) (w : World) (hp : Prm p) (h2 : p ≤ 1073741824)
    (ha : IntsAt w S va a) (hS : ∀ b, S b → b < w.heap.size) (hb : IntsAt w T vb b) (hT : ∀ b, T b → b < w.heap.size) (la : a.length ≤ 10000) (lb : b.length ≤ 10000) (hd : d + 1 = degN b) (l0 : 0 < a.length) (fa : InF p a) (fb : InF p b) :
    Calls Tryd.prog 41 #[.int .i64 (p : Int), va, vb] w (DivPost p a b d w) := by
  have p2 := hp.1
  have hp1 : 1 ≤ p := by omega
  have hmx : Tryd.prog.follows .mixedOrders = true := by kernel_rfl
  obtain ⟨i0, hi, hz0, hz1, hz2⟩ := info_parts infoI
  have hdl : d < b.length := by have := degN_le b; omega
  have hbd := fb d hdl
  have hbn : b.getD d 0 ≠ 0 := by
    have := degN_get b (by omega)
    rwa [← hd, Nat.add_sub_cancel] at this
  have hvc : Cg p (b.getD d 0 * invP p (b.getD d 0)) 1 := invP_cg hp hbd.1 (fun hdv => hbn (Int.eq_zero_of_dvd_of_natAbs_lt_natAbs hdv (by omega)))
  have hvb := invP_bd p (b.getD d 0) p2
  have hdg := r_Degree vb b T w hb (by omega)
  rw [← hd, show (((d + 1 : Nat) : Int) - 1) = (d : Int) by omega] at hdg
  have hinv := r_Inverse p (b.getD d 0) w p2 h2 (by omega) hbd.2
  obtain ⟨A, n, ca, rfl, hn, hnc, hcc⟩ := id ha
  obtain ⟨Bb, mb, cb, rfl, hm, hmc, hcd⟩ := id hb
  obtain ⟨bb, ob, rfl, hTb, hcb⟩ := hcd (by omega)
  have hbl : bb < w.heap.size := hT bb hTb
  obtain ⟨v, hv⟩ : ∃ v, invP p (b.getD d 0) = v := ⟨_, rfl⟩
  rw [hv] at hvc hvb hinv
  have cbd := hcb d (by omega)
  obtain ⟨bd, hbd'⟩ : ∃ bd, b.getD d 0 = bd := ⟨_, rfl⟩
  rw [hbd'] at hinv cbd hbd
  have hrd := ha.reads (B := w.heap.size) hS
  have hmk := fun (W : World) => run_make (P := Tryd.prog) W 22 3 i0 (.int .i64 0) Tryd.underlying22 hi hz0 .i64 .i64 n n (by omega) (by omega) (by rw [hz2]; omega) (by omega)
  simp only [Int.toNat_natCast, hz1, Nat.mul_one] at hmk
  rw [← hn] at la l0
  have qd : (d : Int) < (mb : Int) := by omega
  have qd0 : (0 : Int) ≤ (d : Int) := by omega
  have hdm : d < mb := by omega
  have n1 : n ≤ 10000 := la
  have d1 : d ≤ 10000 := by omega
  have HDG := Lib.hid hdg
  have HINV := Lib.hid hinv
  have HVC := Lib.hid hvc
  have HRD := Lib.hid hrd
  have HN := Lib.hid hn
  have HMB := Lib.hid hm
  have HD := Lib.hid hd
  have HCB := Lib.hid hcb
  have HBD := Lib.hid hbd'
  have HFB := Lib.hid fb
  have HFA := Lib.hid fa
  clear ha hb hn hm hcc hcd hcb hd hdg hinv hvc hrd hbn hv hbd' fb fa hdl hp
  go_enter Tryd.func41, Tryd.ntmps41
  go_wp2_with fail
  refine HDG.out.mono ?_
  rintro e w' ⟨rfl, rfl⟩
  go_wp2_with fail
  refine HINV.out.mono ?_
  rintro e w' ⟨rfl, rfl⟩
  clear cbd
  go_wp2_with (at_builtin; refine wpList_append_any _ rfl _ _ 22 rfl w.heap.size 3 i0 (.int .i64 0) 1 8 Tryd.underlying22 hi hz0 hz1 hz2 rfl (by decide) (.slice none 0 0) 0 [] rfl (World.ownsRow_nil _ _ _ _) w.heap.size A n ca (a.map (Value.int .i64)) rfl HRD.out (ints_oneCell .i64 _) (by simp only [maxLen]; omega) (by omega) (Nat.le_refl _) ?_)
  intro v3 w3 hown3 hgrow3 _
  have ho3 : OwnI w3 w.heap.size v3 a := by
    unfold OwnI
    rw [← HN.out]
    simpa using hown3
  have hb3 : Below w.heap.size w w3 := (Below.refl w.heap.size w).grown hgrow3 (Nat.le_refl _) (fun g hg => by simp [Value.ownBlock] at hg)
  obtain ⟨g, cap, hv3, hcap⟩ := ho3.form.resolve_left (fun h => by have := HN.out; rw [h.2] at this; simp at this; omega)
  rw [← HN.out] at hv3
  subst hv3
  have hg3 := ho3.lt
  have hq3 := OwnI.made (B := w3.heap.size) w3 n (Nat.le_refl _) (by omega)
  have ho4 := ho3.alloc (.cells (madeCells #[Value.int .i64 0] n) 3)
  have hb4 := hb3.alloc (by have := hb3.size; omega) (.cells (madeCells #[Value.int .i64 0] n) 3)
  have hs3 := hb3.size
  have hdv : DivR p a b (List.replicate n 0) a d (degN a) := by
    refine ⟨rfl, by rw [List.length_replicate]; exact HN.out, HFA.out, fun k hk => ?_, fun j hj => degN_gone a j hj, fun j _ => ?_, fun j _ => ?_, fun x => ?_⟩
    · rw [repl_get]; exact ⟨Int.le_refl _, by omega⟩
    · exact repl_get n j
    · exact repl_get n j
    · rw [ev_zeros, Int.zero_mul, Int.zero_add]; exact Cg.refl _ _
  have HO4 := Lib.hid ho4
  have HQ4 := Lib.hid hq3
  have HB4 := Lib.hid hb4
  have HDV := Lib.hid hdv
  have hdga := fun (W : World) (R : List Int) (h : OwnI W w.heap.size (.slice (some ⟨g, 0, none⟩) n cap) R) (hl : R.length ≤ 10000) => r_Degree (.slice (some ⟨g, 0, none⟩) n cap) R _ W h.ints (by omega)
  have HDGA := Lib.hid hdga
  clear hown3 hgrow3 ho3 hb3 hcap hq3 ho4 hb4 hdv hdga
  go_wp2_with fail
  generalize (w3.alloc (.cells (madeCells #[Value.int .i64 0] n) 3)) = w4 at *
  refine (HDGA.out w4 a HO4.out (by rw [← HN.out]; exact n1)).mono ?_
  rintro e w' ⟨rfl, rfl⟩
  go_wp2_with fail
  go_loopw [14] (fun t wr => ∃ (Q R : List Int), t = .int .i64 ((degN R : Int) - 1) ∧ OwnI wr w.heap.size (.slice (some ⟨g, 0, none⟩) n cap) R ∧ OwnI wr w3.heap.size (.slice (some ⟨w3.heap.size, 0, none⟩) n n) Q ∧ DivR p a b Q R d (degN R) ∧ Below w.heap.size w wr) (fun t _ => ((Go.RowKit.intOf t) + 1).toNat)
  case atStart => exact ⟨_, a, rfl, HO4.out, HQ4.out, HDV.out, HB4.out⟩
  case round =>
    rename World => wo
    obtain ⟨Q, R, rfl, ho, hq, hdv, hbw⟩ := hrel
    obtain ⟨dn, hdn⟩ : ∃ dn, degN R = dn := ⟨_, rfl⟩
    have hlR := hdv.lenR
    have hdnl : dn ≤ n := by have := degN_le R; have := HN.out; omega
    rw [hdn] at hdv ⊢
    have HO := Lib.hid ho
    have HQ := Lib.hid hq
    have HDVR := Lib.hid hdv
    have HBW := Lib.hid hbw
    have HDN := Lib.hid hdn
    have HLR := Lib.hid hlR
    clear ho hq hdv hbw hdn hlR
    by_cases hgo : d + 1 ≤ dn
    · obtain ⟨m, rfl⟩ : ∃ m, dn = m + 1 := ⟨dn - 1, by omega⟩
      rw [show (((m + 1 : Nat) : Int) - 1) = (m : Int) by omega]
      have hdm2 : d ≤ m := by omega
      have hmn : m < n := by omega
      have hmR : m < R.length := by rw [HLR.out, ← HN.out]; exact hmn
      have cr := HO.out.cell m hmR
      have rb := HDVR.out.inR m hmR
      obtain ⟨r, hr⟩ : ∃ r, R.getD m 0 = r := ⟨_, rfl⟩
      rw [hr] at cr rb
      obtain ⟨c, hc⟩ : ∃ c, r * v % (p : Int) = c := ⟨_, rfl⟩
      have c0 : 0 ≤ c := by rw [← hc]; exact Int.emod_nonneg _ (by omega)
      have c1 : c < p := by rw [← hc]; exact Int.emod_lt_of_pos _ (by omega)
      have hmb := mulI_bd' rb.1 (show r < 1073741824 by omega) hvb.1 (show v < 1073741824 by omega)
      have wm : IntKind.i64.wrap (r * v) = r * v := IntWalk.i64_in _ ⟨by omega, by omega⟩
      have tm : (r * v).tmod (p : Int) = c := by rw [Int.tmod_eq_emod_of_nonneg hmb.1]; exact hc
      have hp0 : ¬ p = 0 := by omega
      have hp0' : ¬ (p : Int) = 0 := by omega
      have cq := HQ.out.cell (m - d) (by rw [HDVR.out.lenQ, ← HN.out]; omega)
      have fq := HQ.out.frozen (m - d)
      obtain ⟨qo, hqo⟩ : ∃ qo, Q.getD (m - d) 0 = qo := ⟨_, rfl⟩
      rw [hqo] at cq
      have hqs := HQ.out.set (m - d) c
      have hos := HO.out.kept (only_setCell (World.grownBy.refl wo (some w3.heap.size)) (p := ⟨w3.heap.size, m - d, none⟩) (.inl rfl) (.int .i64 c)) (.inr (by simp [Value.ownBlock]; omega))
      have hbs := HBW.out.setCell (p := ⟨w3.heap.size, m - d, none⟩) (by show w.heap.size ≤ w3.heap.size; omega) (.int .i64 c)
      have t1 : decide ((d : Int) ≤ (m : Int)) = true := decide_eq_true (by omega)
      have t1' : decide (d ≤ m) = true := decide_eq_true hdm2
      have s1 : (m : Int) - (d : Int) < (n : Int) := by omega
      have s2 : (0 : Int) ≤ (m : Int) - (d : Int) := by omega
      have s3 : ((m : Int) - (d : Int)).toNat = m - d := by omega
      have qm : (m : Int) < (n : Int) := by omega
      have qm0 : (0 : Int) ≤ (m : Int) := by omega
      have HR := Lib.hid hr
      have HC := Lib.hid hc
      have HQS := Lib.hid hqs
      have HOS := Lib.hid hos
      have HBS := Lib.hid hbs
      clear hr hc hqo hqs hos hbs hmR
      go_wp2_with fail
      clear cr cq fq wm tm t1 t1'
      generalize (wo.setCell ⟨w3.heap.size, m - d, none⟩ (.int .i64 c)) = w5 at *
      go_loopw [58] (fun t wr => ∃ (k : Nat) (R' : List Int), k ≤ d + 1 ∧ t = .int .i64 (k : Int) ∧ OwnI wr w.heap.size (.slice (some ⟨g, 0, none⟩) n cap) R' ∧ OwnI wr w3.heap.size (.slice (some ⟨w3.heap.size, 0, none⟩) n n) (Q.set (m - d) c) ∧ DivIn p R R' b c (m - d) k ∧ (k = d + 1 → R'.getD m 0 = (R.getD m 0 - c * b.getD d 0 % p) % p) ∧ Below w.heap.size w wr) (fun t _ => d + 1 - (Go.RowKit.intOf t).toNat)
      case atStart => exact ⟨0, R, by omega, rfl, HOS.out, HQS.out, DivIn.start HDVR.out.inR, fun h => absurd h (by omega), HBS.out⟩
      case round =>
        obtain ⟨k, R', hk, rfl, ho, hq, hdi, htop, hbw⟩ := hrel
        have HO2 := Lib.hid ho
        have HQ2 := Lib.hid hq
        have HDI := Lib.hid hdi
        have HTOP := Lib.hid htop
        have HBW2 := Lib.hid hbw
        have hlR' : R'.length = n := by rw [hdi.len, HLR.out, ← HN.out]
        clear ho hq hdi htop hbw
        by_cases hkd : k < d + 1
        · have ckb := (HBW2.out.cell (p := ⟨bb, ob + k, none⟩) hbl).trans (HCB.out k (by omega))
          have bkb := HFB.out k (by rw [← HMB.out]; omega)
          have ckr := HO2.out.cell (m - d + k) (by omega)
          have fkr := HO2.out.frozen (m - d + k)
          have rkb := HDI.out.inF (m - d + k) (by omega)
          obtain ⟨y, hy⟩ : ∃ y, b.getD k 0 = y := ⟨_, rfl⟩
          obtain ⟨rk, hrk⟩ : ∃ rk, R'.getD (m - d + k) 0 = rk := ⟨_, rfl⟩
          rw [hy] at ckb bkb
          rw [hrk] at ckr rkb
          have hmb2 := mulI_bd' c0 (show c < 1073741824 by omega) bkb.1 (show y < 1073741824 by omega)
          obtain ⟨cy, hcy⟩ : ∃ cy, c * y % (p : Int) = cy := ⟨_, rfl⟩
          have cyb : 0 ≤ cy ∧ cy < p := by rw [← hcy]; exact ⟨Int.emod_nonneg _ (by omega), Int.emod_lt_of_pos _ (by omega)⟩
          have wm : IntKind.i64.wrap (c * y) = c * y := IntWalk.i64_in _ ⟨by omega, by omega⟩
          have tm : (c * y).tmod (p : Int) = cy := by rw [Int.tmod_eq_emod_of_nonneg hmb2.1]; exact hcy
          obtain ⟨nw, hnw⟩ : ∃ nw, (rk - cy) % (p : Int) = nw := ⟨_, rfl⟩
          have nwb : 0 ≤ nw ∧ nw < p := by rw [← hnw]; exact ⟨Int.emod_nonneg _ (by omega), Int.emod_lt_of_pos _ (by omega)⟩
          have hsub := fun W => r_SubI p rk cy W hp1 h2 rkb.1 rkb.2 cyb.1 cyb.2
          rw [hnw] at hsub
          have hstep := HDI.out.step (by rw [HLR.out, ← HN.out]; omega) (by rw [← HMB.out]; omega) hy hrk hcy hnw nwb.1 nwb.2
          have htp : k + 1 = d + 1 → (R'.set (m - d + k) nw).getD m 0 = (R.getD m 0 - c * b.getD d 0 % p) % p := fun e => by
            have ek : k = d := by omega
            subst ek
            have e2 : m - k + k = m := by omega
            rw [e2, getD_set _ _ _ _ (by omega), if_pos rfl, ← hnw, ← hcy, ← hrk, ← hy, e2, HDI.out.same m (by omega)]
          have hset := fun u => OwnI.set (show OwnI wr.drew w.heap.size (.slice (some ⟨g, 0, none⟩) n cap) R' from HO2.out.drew) (m - d + k) u
          have hqk := fun u => OwnI.kept (show OwnI wr.drew w3.heap.size (.slice (some ⟨w3.heap.size, 0, none⟩) n n) (Q.set (m - d) c) from HQ2.out.drew) (only_setCell (World.grownBy.refl wr.drew (some g)) (p := ⟨g, m - d + k, none⟩) (.inl rfl) u) (.inr (by simp [Value.ownBlock]; omega))
          have hbk := fun u => HBW2.out.drew.setCell (p := ⟨g, m - d + k, none⟩) hg3.1 u
          have HSUB := Lib.hid hsub
          have HSTEP := Lib.hid hstep
          have HTP := Lib.hid htp
          have HSET := Lib.hid hset
          have HQK := Lib.hid hqk
          have HBK := Lib.hid hbk
          have qk : (k : Int) < (d : Int) + 1 := by omega
          have qk0 : (0 : Int) ≤ (k : Int) := by omega
          have qkm : (k : Int) < (mb : Int) := by omega
          have qs0 : (0 : Int) ≤ (m : Int) - (d : Int) + (k : Int) := by omega
          have qs1 : (m : Int) - (d : Int) + (k : Int) < (n : Int) := by omega
          have qs2 : ((m : Int) - (d : Int) + (k : Int)).toNat = m - d + k := by omega
          have wd : IntKind.i64.wrap ((m : Int) - (d : Int)) = (m : Int) - (d : Int) := IntWalk.i64_in _ ⟨by omega, by omega⟩
          have wk : IntKind.i64.wrap ((m : Int) - (d : Int) + (k : Int)) = (m : Int) - (d : Int) + (k : Int) := IntWalk.i64_in _ ⟨by omega, by omega⟩
          clear hy hrk hcy hnw hsub hstep htp hset hqk hbk
          go_wp2_with fail
          refine wp_region_last_lit _ _ (fun W => W.cell? ⟨g, m - d + k, none⟩ = some (.int .i64 rk) ∧ W.cell? ⟨bb, ob + k, none⟩ = some (.int .i64 y) ∧ W.frozen? ⟨g, m - d + k, none⟩ = false) hmx rfl (by kernel_rfl) ⟨ckr, ckb, fkr⟩ (fun hS => ?_)
          simp only [List.dropLast]
          refine wpAnyH_take (i := 0) (v := ?_) rfl (by kernel_rfl) (by kernel_rfl) (by kernel_rfl) (fun _ _ _ h => h) (Or.inl ⟨by rfl, ?_⟩) (by assumption) ?_
          rotate_left
          · (intro w hSw; (try dsimp only at hSw); go_simp; try (with_reducible rfl))
          try simp only [Act.put, List.setIfInBounds_toArray, List.set_cons_zero, List.set_cons_succ]
          refine wpAnyH_take (i := 1) (v := ?_) rfl (by kernel_rfl) (by kernel_rfl) (by kernel_rfl) (fun _ _ _ h => h) (Or.inl ⟨by rfl, ?_⟩) (by assumption) ?_
          rotate_left
          · (intro w hSw; (try dsimp only at hSw); go_simp; try (with_reducible rfl))
          try simp only [Act.put, List.setIfInBounds_toArray, List.set_cons_zero, List.set_cons_succ]
          refine wpAnyH_take (i := 2) (v := ?_) rfl (by kernel_rfl) (by kernel_rfl) (by kernel_rfl) (fun _ _ _ h => h) (Or.inl ⟨by rfl, ?_⟩) (by assumption) ?_
          rotate_left
          · (intro w hSw; (try dsimp only at hSw); go_simp; try (with_reducible rfl))
          try simp only [Act.put, List.setIfInBounds_toArray, List.set_cons_zero, List.set_cons_succ]
          refine wpAnyH_take (i := 3) (v := ?_) rfl (by kernel_rfl) (by kernel_rfl) (by kernel_rfl) (fun _ _ _ h => h) (Or.inl ⟨by rfl, ?_⟩) (by assumption) ?_
          rotate_left
          · (intro w hSw; (try dsimp only at hSw); go_simp; try (with_reducible rfl))
          try simp only [Act.put, List.setIfInBounds_toArray, List.set_cons_zero, List.set_cons_succ]
          refine wpAnyH_take (i := 4) (v := ?_) rfl (by kernel_rfl) (by kernel_rfl) (by kernel_rfl) (fun _ _ _ h => h) (Or.inl ⟨by rfl, ?_⟩) (by assumption) ?_
          rotate_left
          · (intro w hSw; (try dsimp only at hSw); go_simp; try (with_reducible rfl))
          try simp only [Act.put, List.setIfInBounds_toArray, List.set_cons_zero, List.set_cons_succ]
          refine wpAnyH_take (i := 5) (v := ?_) rfl (by kernel_rfl) (by kernel_rfl) (by kernel_rfl) (fun _ _ _ h => h) (Or.inl ⟨by rfl, ?_⟩) (by assumption) ?_
          rotate_left
          · (intro w hSw; (try dsimp only at hSw); go_simp; try (with_reducible rfl))
          try simp only [Act.put, List.setIfInBounds_toArray, List.set_cons_zero, List.set_cons_succ]
          refine wpAnyH_take (i := 6) (v := ?_) rfl (by kernel_rfl) (by kernel_rfl) (by kernel_rfl) (fun _ _ _ h => h) (Or.inl ⟨by rfl, ?_⟩) (by assumption) ?_
          rotate_left
          · (intro w hSw; (try dsimp only at hSw); go_simp; try (with_reducible rfl))
          try simp only [Act.put, List.setIfInBounds_toArray, List.set_cons_zero, List.set_cons_succ]
          refine wpAnyH_take (i := 7) (v := ?_) rfl (by kernel_rfl) (by kernel_rfl) (by kernel_rfl) (fun _ _ _ h => h) (Or.inl ⟨by rfl, ?_⟩) (by assumption) ?_
          rotate_left
          · (intro w hSw; (try dsimp only at hSw); go_simp; try (with_reducible rfl))
          try simp only [Act.put, List.setIfInBounds_toArray, List.set_cons_zero, List.set_cons_succ]
          refine wpAnyH_take (i := 8) (v := ?_) rfl (by kernel_rfl) (by kernel_rfl) (by kernel_rfl) (fun _ _ _ h => h) (Or.inl ⟨by rfl, ?_⟩) (by assumption) ?_
          rotate_left
          · (intro w hSw; (try dsimp only at hSw); go_simp; try (with_reducible rfl))
          try simp only [Act.put, List.setIfInBounds_toArray, List.set_cons_zero, List.set_cons_succ]
          refine wpAnyH_take (i := 9) (v := ?_) rfl (by kernel_rfl) (by kernel_rfl) (by kernel_rfl) (fun _ _ _ h => h) (Or.inl ⟨by rfl, ?_⟩) (by assumption) ?_
          rotate_left
          · (intro w hSw; (try dsimp only at hSw); go_simp; try (with_reducible rfl))
          try simp only [Act.put, List.setIfInBounds_toArray, List.set_cons_zero, List.set_cons_succ]
          refine wpAnyH_take (i := 10) (v := ?_) rfl (by kernel_rfl) (by kernel_rfl) (by kernel_rfl) (fun _ _ _ h => h) (Or.inl ⟨by rfl, ?_⟩) (by assumption) ?_
          rotate_left
          · (intro w hSw; (try dsimp only at hSw); go_simp; try (with_reducible rfl))
          try simp only [Act.put, List.setIfInBounds_toArray, List.set_cons_zero, List.set_cons_succ]
          refine wpAnyH_take (i := 11) (v := ?_) rfl (by kernel_rfl) (by kernel_rfl) (by kernel_rfl) (fun _ _ _ h => h) (Or.inl ⟨by rfl, ?_⟩) (by assumption) ?_
          rotate_left
          · (intro w hSw; (try dsimp only at hSw); go_simp; try (with_reducible rfl))
          try simp only [Act.put, List.setIfInBounds_toArray, List.set_cons_zero, List.set_cons_succ]
          refine wpAnyH_take (i := 12) (v := ?_) rfl (by kernel_rfl) (by kernel_rfl) (by kernel_rfl) (fun _ _ _ h => h) (Or.inl ⟨by rfl, ?_⟩) (by assumption) ?_
          rotate_left
          · (intro w hSw; (try dsimp only at hSw); go_simp; try (with_reducible rfl))
          try simp only [Act.put, List.setIfInBounds_toArray, List.set_cons_zero, List.set_cons_succ]
          refine wpAnyH_take (i := 13) (v := ?_) rfl (by kernel_rfl) (by kernel_rfl) (by kernel_rfl) (fun _ _ _ h => h) (Or.inl ⟨by rfl, ?_⟩) (by assumption) ?_
          rotate_left
          · (intro w hSw; (try dsimp only at hSw); go_simp; try (with_reducible rfl))
          try simp only [Act.put, List.setIfInBounds_toArray, List.set_cons_zero, List.set_cons_succ]
          refine wpAnyH_take (i := 14) (v := ?_) rfl (by kernel_rfl) (by kernel_rfl) (by kernel_rfl) (fun _ _ _ h => h) (Or.inl ⟨by rfl, ?_⟩) (by assumption) ?_
          rotate_left
          · (intro w hSw; (try dsimp only at hSw); go_simp; try (with_reducible rfl))
          try simp only [Act.put, List.setIfInBounds_toArray, List.set_cons_zero, List.set_cons_succ]
          refine wpAnyH_take (i := 15) (v := ?_) rfl (by kernel_rfl) (by kernel_rfl) (by kernel_rfl) (fun _ _ _ h => h) (Or.inl ⟨by rfl, ?_⟩) (by assumption) ?_
          rotate_left
          · (intro w hSw; (try dsimp only at hSw); go_simp; try (with_reducible rfl))
          try simp only [Act.put, List.setIfInBounds_toArray, List.set_cons_zero, List.set_cons_succ]
          refine wpAnyH_take (i := 16) (v := ?_) rfl (by kernel_rfl) (by kernel_rfl) (by kernel_rfl) (fun _ _ _ h => h) (Or.inl ⟨by rfl, ?_⟩) (by assumption) ?_
          rotate_left
          · (intro w hSw; (try dsimp only at hSw); go_simp; try (with_reducible rfl))
          try simp only [Act.put, List.setIfInBounds_toArray, List.set_cons_zero, List.set_cons_succ]
          refine wpAnyH_take (i := 17) (v := ?_) rfl (by kernel_rfl) (by kernel_rfl) (by kernel_rfl) (fun _ _ _ h => h) (Or.inl ⟨by rfl, ?_⟩) (by assumption) ?_
          rotate_left
          · (intro w hSw; (try dsimp only at hSw); go_simp; try (with_reducible rfl))
          try simp only [Act.put, List.setIfInBounds_toArray, List.set_cons_zero, List.set_cons_succ]
          refine wpAnyH_take (i := 18) (v := ?_) rfl (by kernel_rfl) (by kernel_rfl) (by kernel_rfl) (fun _ _ _ h => h) (Or.inl ⟨by rfl, ?_⟩) (by assumption) ?_
          rotate_left
          · (intro w hSw; (try dsimp only at hSw); go_simp; try (with_reducible rfl))
          try simp only [Act.put, List.setIfInBounds_toArray, List.set_cons_zero, List.set_cons_succ]
          refine wpAnyH_take (i := 19) (v := ?_) rfl (by kernel_rfl) (by kernel_rfl) (by kernel_rfl) (fun _ _ _ h => h) (Or.inl ⟨by rfl, ?_⟩) (by assumption) ?_
          rotate_left
          · (intro w hSw; (try dsimp only at hSw); go_simp; try (with_reducible rfl))
          try simp only [Act.put, List.setIfInBounds_toArray, List.set_cons_zero, List.set_cons_succ]
          refine wpAnyH_take (i := 20) (v := ?_) rfl (by kernel_rfl) (by kernel_rfl) (by kernel_rfl) (fun _ _ _ h => h) (Or.inl ⟨by rfl, ?_⟩) (by assumption) ?_
          rotate_left
          · (intro w hSw; (try dsimp only at hSw); go_simp; try (with_reducible rfl))
          try simp only [Act.put, List.setIfInBounds_toArray, List.set_cons_zero, List.set_cons_succ]
          refine wpAnyH_take (i := 21) (v := ?_) rfl (by kernel_rfl) (by kernel_rfl) (by kernel_rfl) (fun _ _ _ h => h) (Or.inl ⟨by rfl, ?_⟩) (by assumption) ?_
          rotate_left
          · (intro w hSw; (try dsimp only at hSw); go_simp; try (with_reducible rfl))
          try simp only [Act.put, List.setIfInBounds_toArray, List.set_cons_zero, List.set_cons_succ]
          refine wpAnyH_take (i := 22) (v := ?_) rfl (by kernel_rfl) (by kernel_rfl) (by kernel_rfl) (fun _ _ _ h => h) (Or.inl ⟨by rfl, ?_⟩) (by assumption) ?_
          rotate_left
          · (intro w hSw; (try dsimp only at hSw); go_simp; try (with_reducible rfl))
          try simp only [Act.put, List.setIfInBounds_toArray, List.set_cons_zero, List.set_cons_succ]
          refine wpAnyH_ready (rs := [23]) (by kernel_rfl) (by simp) ?_
          refine AllReadyH.cons rfl (fun K hK => ?_) AllReadyH.nil
          go_simp
          refine (HSUB.out _).mono ?_
          rintro e w' ⟨rfl, rfl⟩
          refine hK.out _ _ (hS) (fun hHeld => ?_)
          clear hK K
          try simp only [Act.put, List.setIfInBounds_toArray, List.set_cons_zero, List.set_cons_succ]
          refine wpAnyH_take (i := 24) (v := ?_) rfl (by kernel_rfl) (by kernel_rfl) (by kernel_rfl) (fun _ _ _ h => h) (Or.inl ⟨by rfl, ?_⟩) (by assumption) ?_
          rotate_left
          · (intro w hSw; (try dsimp only at hSw); go_simp; try (with_reducible rfl))
          try simp only [Act.put, List.setIfInBounds_toArray, List.set_cons_zero, List.set_cons_succ]
          refine wpAnyH_done (by kernel_rfl) ?_ _
          refine lastQ_step (by rfl) (by rfl) ?_
          go_simp
          clear ckb ckr fkr wm tm wd wk hS
          go_wp2_with fail
          go_roundw
          case measure => simp [Go.RowKit.intOf]; omega
          case rel => first | exact ⟨k + 1, _, by omega, by go_num, HSET.out nw, HQK.out _, HSTEP.out, HTP.out, HBK.out _⟩ | ((repeat apply Exists.intro); exact ⟨⟨k + 1, _, by omega, by go_num, HSET.out nw, HQK.out _, HSTEP.out, HTP.out, HBK.out _⟩, rfl⟩)
        · have hkd' : k = d + 1 := by omega
          subst hkd'
          have hdg2 := HDGA.out wr R' HO2.out (by omega)
          have hrnd := HDVR.out.round hdm2 (by rw [← HN.out]; exact hmn) HD.out HVC.out (by rw [HR.out]; exact HC.out) c0 c1 hp1 HDI.out (HTOP.out rfl)
          have hle : degN R' ≤ m := degN_le_of R' m fun j h1 h3 => hrnd.gone j h1
          have hnew := hrnd.less hle (fun j hj => degN_gone R' j hj)
          have HDG2 := Lib.hid hdg2
          have HNEW := Lib.hid hnew
          clear hdg2 hrnd hnew
          go_wp2_with fail
          refine HDG2.out.mono ?_
          rintro e w' ⟨rfl, rfl⟩
          go_wp2_with fail
          go_roundw
          case measure => simp [Go.RowKit.intOf]; omega
          case rel => first | exact ⟨_, R', rfl, HO2.out, HQ2.out, HNEW.out, HBW2.out⟩ | ((repeat apply Exists.intro); exact ⟨⟨_, R', rfl, HO2.out, HQ2.out, HNEW.out, HBW2.out⟩, rfl⟩)
    · have t1 : decide ((d : Int) ≤ (dn : Int) - 1) = false := decide_eq_false (by omega)
      have t2 : decide ((d : Int) + 1 ≤ (dn : Int)) = false := decide_eq_false (by omega)
      have t3 : decide ((d : Int) < (dn : Int)) = false := decide_eq_false (by omega)
      have hs1 := HBW.out.size
      have hsq := r_short (.slice (some ⟨w3.heap.size, 0, none⟩) n n) Q _ wo HQ.out.ints (fun b hb => hb.2) (by rw [HDVR.out.lenQ, ← HN.out]; omega)
      have HSQ := Lib.hid hsq
      have hlq : degN Q ≤ a.length - d := degN_le_of Q _ fun j h1 h3 => HDVR.out.top j (by omega)
      have HLQ := Lib.hid hlq
      clear hsq hlq
      go_wp2_with fail
      refine HSQ.out.mono ?_
      rintro e w6 ⟨vq, rfl, hoq, hb6⟩
      have hR6 := HO.out.below hb6
      have hs6 := hb6.size
      have hsr := r_short (.slice (some ⟨g, 0, none⟩) n cap) R _ w6 hR6.ints (fun b hb => hb.2) (by rw [HLR.out, ← HN.out]; omega)
      have HSR := Lib.hid hsr
      have HOQ := Lib.hid hoq
      have hb06 := HBW.out.trans (hb6.mono hs1)
      have HB06 := Lib.hid hb06
      clear hsr hoq hR6 hb6 hb06
      go_wp2_with fail
      refine HSR.out.mono ?_
      rintro e w7 ⟨vr, rfl, hor, hb7⟩
      have hoq7 := HOQ.out.below hb7
      have hs06 := HB06.out.size
      have hb07 := HB06.out.trans (hb7.mono hs06)
      have HOQ7 := Lib.hid (hoq7.mono hs1)
      have HOR := Lib.hid (hor.mono hs06)
      have HB07 := Lib.hid hb07
      clear hor hb7 hoq7 hb07
      go_wp2_with fail
      go_ret3
      exact ⟨trim Q, trim R, _, _, can_trim HDVR.out.inQ.mem, can_trim HDVR.out.inR.mem, by rw [trim_len]; exact HLQ.out, by rw [trim_len, HDN.out]; omega, fun x => by rw [trim_ev, trim_ev]; exact HDVR.out.val x, rfl, HOQ7.out, HOR.out, HB07.out⟩
end Go.Proofs.YtjfphobfikadlaaDoor

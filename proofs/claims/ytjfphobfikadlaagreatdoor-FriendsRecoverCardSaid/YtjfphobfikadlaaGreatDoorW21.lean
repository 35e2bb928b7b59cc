/- Contracts: the secret that shares give. Contracts: the secret that good shares give, walked. Contracts: the key of a circle is recovered, or there are too few shares. -/
import Derived.Test.YtjfphobfikadlaaGreatDoorW11
import Derived.Test.YtjfphobfikadlaaGreatDoorW06
import Derived.Test.YtjfphobfikadlaaGreatDoorW10
import Derived.BigRegion
import Derived.Test.YtjfphobfikadlaaGreatDoorW20
set_option linter.unusedVariables false
set_option linter.unusedSimpArgs false
namespace Go.Proofs.YtjfphobfikadlaaGreatDoor
open Go.RowKit Num

theorem wsum_cgM {p : Int} {ws ws' ys ys' : Nat → Int} : ∀ k, (∀ i, i < k → Cg p (ws i) (ws' i)) → (∀ i, i < k → Cg p (ys i) (ys' i)) → Cg p (wsum ws ys k) (wsum ws' ys' k) := by
  intro k
  induction k with
  | zero => intro _ _; exact Cg.refl _ _
  | succ k ih =>
    intro h1 h2
    exact (ih (fun i hi => h1 i (by omega)) (fun i hi => h2 i (by omega))).add ((h1 k (by omega)).mul (h2 k (by omega)))
/-- Lagrange with the program's weights. -/
theorem wt_lagrangeM {p : Nat} (hp : Prm p) {n : Nat} (h1 : 1 ≤ n) (xs : Nat → Int) (hA : ApartN p xs n) (co : List Int) (hco : co.length ≤ n) (ys : Nat → Int) (hy : ∀ i, i < n → Cg p (ys i) (ev co (xs i))) (x : Int) :
    Cg p (wsum (fun i => wt p xs n i x) ys n) (ev co x) := by
  have h2 := hp.1
  have hinv : ∀ i, i < n → Cg p (pbut xs i (xs i) n * invP p (wA p xs i (xs i) n)) 1 := fun i hi => by
    have hne := pbut_ne hp xs i (xs i) n fun j hj hne hd => hA i j hi hj (Ne.symm hne) hd
    have hcg := wA_cg p xs i (xs i) n
    have h0 := (wA_bd p xs i (xs i) (by omega) n).1
    have hnd : ¬ (p : Int) ∣ wA p xs i (xs i) n := fun hd => hne (Cg.zero_iff.1 (hcg.symm.trans (Cg.zero_iff.2 hd)))
    exact (hcg.symm.mul (Cg.refl _ _)).trans (invP_cg hp h0 hnd)
  have hl := lagrange hp h1 xs (fun i => invP p (wA p xs i (xs i) n)) hA hinv (f := fun x => ev co x) ⟨co, hco, fun _ => rfl⟩ x
  refine Cg.trans (wsum_cgM n (fun i hi => ?_) hy) hl
  exact Cg.of_emod ((wA_cg p xs i x n).mul (Cg.refl _ _))
theorem wsum_congrM {ws ws' ys : Nat → Int} : ∀ k, (∀ i, i < k → ws i = ws' i) → wsum ws ys k = wsum ws' ys k := by
  intro k
  induction k with
  | zero => intro _; rfl
  | succ k ih =>
    intro h1
    show wsum ws ys k + ws k * ys k = wsum ws' ys k + ws' k * ys k
    rw [ih (fun i hi => h1 i (by omega)), h1 k (by omega)]
theorem wsum_step (p : Int) (ws ys : Nat → Int) (k : Nat) : (wsum ws ys k % p + ws k * ys k % p) % p = wsum ws ys (k + 1) % p := by
  show _ = (wsum ws ys k + ws k * ys k) % p
  rw [← Int.add_emod]
set_option maxRecDepth 100000 in
set_option maxHeartbeats 1000000 in
theorem p_Weigh (p : Nat) (vw vy : Value) (ws ys : List Int) (S T : Nat → Prop) (w : World) (hp1 : 1 ≤ p) (h2 : p ≤ 1073741824) (hvw : IntsAt w S vw ws) (hvy : IntsAt w T vy ys) (hl : ws.length ≤ 1000) (hll : ws.length = ys.length) (hws : InF p ws) (hys : InF p ys) :
    Calls Tryz.prog 128 #[.int .i64 (p : Int), vw, vy] w fun e w' => e = .returned (.int .i64 (wsum (fOf ws) (fOf ys) ws.length % (p : Int))) ∧ w = w' := by
  obtain ⟨A, n, c, rfl, hn, hnc, hcc⟩ := hvw
  obtain ⟨A2, n2, c2, rfl, hn2, hnc2, hcc2⟩ := hvy
  have hnn : n2 = n := by omega
  subst hnn
  have hn1 : n2 ≤ 1000 := by omega
  have HN := Lib.hid hn
  have HN2 := Lib.hid hn2
  have HCC := Lib.hid hcc
  have HCC2 := Lib.hid hcc2
  have HW := Lib.hid hws
  have HY := Lib.hid hys
  clear hn hn2 hcc hcc2 hws hys hl hll
  go_enter Tryz.func128, Tryz.ntmps128
  go_wp2_with fail
  go_loopw [7, 12] (fun v t wr => ∃ k : Nat, k ≤ n2 ∧ t = .int .i64 (k : Int) ∧ v = .int .i64 (wsum (fOf ws) (fOf ys) k % (p : Int)) ∧ w = wr) (fun _ t _ => n2 - (intOf t).toNat)
  case atStart => exact ⟨0, by omega, rfl, by show _ = Value.int .i64 (0 % (p : Int)); rw [Int.zero_emod], rfl⟩
  case round =>
    obtain ⟨k, hk, rfl, rfl, rfl⟩ := hrel
    by_cases hlt : k < n2
    · obtain ⟨b, off, rfl, _, hcell⟩ := HCC.out (by omega)
      obtain ⟨b2, off2, rfl, _, hcell2⟩ := HCC2.out (by omega)
      have c1 := hcell k hlt
      have c2' := hcell2 k hlt
      have bx := HW.out k (by have := HN.out; omega)
      have byy := HY.out k (by have := HN2.out; omega)
      have hstep := wsum_step (p : Int) (fOf ws) (fOf ys) k
      have hv0 := Int.emod_nonneg (wsum (fOf ws) (fOf ys) k) (show (p : Int) ≠ 0 by omega)
      have hv1 := Int.emod_lt_of_pos (wsum (fOf ws) (fOf ys) k) (show (0 : Int) < p by omega)
      rw [show fOf ws k = ws.getD k 0 from rfl, show fOf ys k = ys.getD k 0 from rfl] at hstep
      obtain ⟨x, hx⟩ : ∃ x, ws.getD k 0 = x := ⟨_, rfl⟩
      obtain ⟨y, hy⟩ : ∃ y, ys.getD k 0 = y := ⟨_, rfl⟩
      obtain ⟨v, hv⟩ : ∃ v, wsum (fOf ws) (fOf ys) k % (p : Int) = v := ⟨_, rfl⟩
      rw [hx] at c1 bx hstep
      rw [hy] at c2' byy hstep
      rw [hv] at hv0 hv1 hstep ⊢
      have hm := fun W => f_MulZ p x y W (by omega) (by omega) bx.1 (by omega) byy.1 (by omega)
      have hz0 := Int.emod_nonneg (x * y) (show (p : Int) ≠ 0 by omega)
      have hz1 := Int.emod_lt_of_pos (x * y) (show (0 : Int) < p by omega)
      obtain ⟨z, hz⟩ : ∃ z, x * y % (p : Int) = z := ⟨_, rfl⟩
      rw [hz] at hm hz0 hz1 hstep
      have ha := fun W => f_AddI p v z W (by omega) (by omega) hv0 (by omega) hz0 (by omega)
      rw [hstep] at ha
      have HM := Lib.hid hm
      have HA := Lib.hid ha
      have qk : (k : Int) < (n2 : Int) := by omega
      clear hx hy hv hz hcell hcell2 hstep hm ha bx byy hv0 hv1 hz0 hz1
      go_wp2_with fail
      refine (HM.out _).mono ?_
      rintro e w' ⟨rfl, rfl⟩
      go_wp2_with fail
      refine (HA.out _).mono ?_
      rintro e w' ⟨rfl, rfl⟩
      go_wp2_with fail
      go_roundw
      case measure => simp [intOf]; omega
      case rel => exact ⟨k + 1, by omega, by go_num, rfl, by first | rfl | trivial⟩
    · have hkn : k = n2 := by omega
      subst hkn
      go_wp2_with fail
      go_ret
      exact ⟨by rw [HN.out]; rfl, rfl⟩
/-- What shares give, element by element. -/
def combL (p need : Nat) (L : List Sh) (m : Nat) : List Int := (List.range m).map fun i => wsum (fun j => wt p (fOf (hsOf (L.take need))) need j 0) (fOf (colY (L.take need) i)) need % (p : Int)
theorem combL_len (p need : Nat) (L : List Sh) (m : Nat) : (combL p need L m).length = m := by simp [combL]
theorem combL_succ (p need : Nat) (L : List Sh) (m : Nat) : combL p need L (m + 1) = combL p need L m ++ [wsum (fun j => wt p (fOf (hsOf (L.take need))) need j 0) (fOf (colY (L.take need) m)) need % (p : Int)] := by
  unfold combL; rw [List.range_succ, List.map_append]; rfl
theorem GoodSh.take {p hold m : Nat} {L : List Sh} (h : GoodSh p hold m L) (n : Nat) : GoodSh p hold m (L.take n) := by
  have hl : (L.take n).length ≤ L.length := by rw [List.length_take]; omega
  have hm : (L.take n).length ≤ n := by rw [List.length_take]; omega
  refine ⟨fun k hk => ?_, fun i j hi hj hne => ?_, fun k hk => ?_, fun k hk => ?_⟩
  · rw [shAt_take L n k (by omega)]; exact h.holder k (by omega)
  · rw [shAt_take L n i (by omega), shAt_take L n j (by omega)]; exact h.once i j (by omega) (by omega) hne
  · rw [shAt_take L n k (by omega)]; exact h.len k (by omega)
  · rw [shAt_take L n k (by omega)]; exact h.inF k (by omega)
/-- Shares on polynomials give what these are at 0. -/
theorem comb_back {p need hold m : Nat} {P : Nat → List Int} {L : List Sh} (hp : Prm p) (hh : hold < p) (hg : GoodSh p hold m L) (n1 : 1 ≤ need) (hn : need ≤ L.length)
    (hP : ∀ i, i < m → (P i).length ≤ need) (hv : ∀ i k, i < m → k < L.length → (shAt L k).2.getD i 0 = ev (P i) (shAt L k).1 % (p : Int)) :
    combL p need L m = (List.range m).map fun i => ev (P i) 0 % (p : Int) := by
  unfold combL
  refine List.map_congr_left fun i hi => ?_
  rw [List.mem_range] at hi
  have hg2 := hg.take need
  have hle : (L.take need).length = need := by rw [List.length_take]; omega
  have hA := hg2.apart hh
  rw [hsOf_len, hle] at hA
  refine wt_lagrangeM hp n1 _ hA (P i) (hP i hi) _ (fun k hk => ?_) 0
  show Cg p ((colY (L.take need) i).getD k 0) (ev (P i) (fOf (hsOf (L.take need)) k))
  rw [colY_get _ _ _ (by omega), hsOf_get _ _ (by omega), shAt_take L need k hk, hv i k hi (by omega)]
  exact Cg.emod _ _
end Go.Proofs.YtjfphobfikadlaaGreatDoor
namespace Go.Proofs.YtjfphobfikadlaaGreatDoor
open Go.RowKit Num

def IntB0M (w : World) (e : Ending) (w' : World) : Prop := e = .returned (.int .i64 0) ∧ Below w.heap.size w w'
set_option maxHeartbeats 1000000 in
theorem s_checkM (p need hold m : Nat) (v : Value) (L : List Sh) (S : Nat → Prop) (w : World) (hw : BasesOk w) (hp : Prm p) (h2 : p ≤ 1073741824) (n1 : 1 ≤ need) (n2 : need ≤ hold) (n3 : hold ≤ 16) (n4 : hold < p)
    (hv : ShAt w S v L) (hS : ∀ b, S b → b < w.heap.size) (hnl : need ≤ L.length) (hl : L.length ≤ 16) (hm : m ≤ 2048) (ho : GoodSh p hold m L) :
    Calls Tryz.prog 126 #[.agg #[.int .i64 (p : Int), .int .i64 (need : Int), .int .i64 (hold : Int)], v] w (IntB0M w) := by
  obtain ⟨A, n, c, rfl, hn, hnc, hc⟩ := id hv
  have t1 : decide ((n : Int) < (need : Int)) = false := decide_eq_false (by omega)
  have t1' : decide (n < need) = false := decide_eq_false (by omega)
  have hval := s_Valid p need hold _ (hw.alloc (.cells #[.int .i64 (p : Int), .int .i64 (need : Int), .int .i64 (hold : Int)] 34)) hp h2 n1 n2 n3 n4
  have hgd := fun (W : World) (hb : Below w.heap.size w W) => s_Good p need hold m (.slice A n c) L S W n3 (hv.keep fun b hb' => hb.block b (hS b hb')) (fun b hb' => Nat.lt_of_lt_of_le (hS b hb') hb.size) hl hm ho
  have kp : Blk (w.alloc (.cells #[.int .i64 (p : Int), .int .i64 (need : Int), .int .i64 (hold : Int)] 34)) w.heap.size 34 #[.int .i64 (p : Int), .int .i64 (need : Int), .int .i64 (hold : Int)] := Blk.new w _ _
  have hb0 : Below w.heap.size w (w.alloc (.cells #[.int .i64 (p : Int), .int .i64 (need : Int), .int .i64 (hold : Int)] 34)) := (Below.refl _ _).alloc (Nat.le_refl _) _
  have HVAL := Lib.hid hval
  have HGD := Lib.hid hgd
  have KP := Lib.hid kp
  have HB0 := Lib.hid hb0
  clear hw hv hn hc hp ho hval hgd kp hb0
  go_enter Tryz.func126, Tryz.ntmps126
  go_wp2_with fail
  refine HVAL.out.mono ?_
  rintro e w2 ⟨rfl, hb2⟩
  have kp2 := KP.out.below hb2 KP.out.lt
  have hb := HB0.out.trans (hb2.mono HB0.out.size)
  have r0 : w2.cell? ⟨w.heap.size, 0, none⟩ = some (.int .i64 (p : Int)) := kp2.cell 0
  have r1 : w2.cell? ⟨w.heap.size, 1, none⟩ = some (.int .i64 (need : Int)) := kp2.cell 1
  have r2 : w2.cell? ⟨w.heap.size, 2, none⟩ = some (.int .i64 (hold : Int)) := kp2.cell 2
  have hg := HGD.out w2 hb
  have HG := Lib.hid hg
  have KP2 := Lib.hid kp2
  have HB := Lib.hid hb
  clear hg kp2 hb hb2
  go_wp2_with fail
  refine HG.out.mono ?_
  rintro e w3 ⟨rfl, hb3⟩
  have kp3 := KP2.out.below hb3 KP2.out.lt
  have hb := HB.out.trans (hb3.mono HB.out.size)
  have s1 : w3.cell? ⟨w.heap.size, 1, none⟩ = some (.int .i64 (need : Int)) := kp3.cell 1
  have HB3 := Lib.hid hb
  clear kp3 hb hb3 r0 r1 r2
  go_wp2_with fail
  go_ret
  exact ⟨rfl, HB3.out⟩
theorem gb_trM {a b c : World} {r : Option Nat} (h : a.grownBy b r) (k : b.grownBy c r) : a.grownBy c r :=
  ⟨k.os.trans h.os, k.tape.trans h.tape, k.output.trans h.output, Nat.le_trans h.size k.size, fun i hi hn => (k.block i (Nat.lt_of_lt_of_le hi h.size) hn).trans (h.block i hi hn)⟩
set_option maxRecDepth 100000 in
set_option maxHeartbeats 4000000 in
theorem s_Combine (p need hold m : Nat) (v : Value) (L : List Sh) (S : Nat → Prop) (w : World) (hw : BasesOk w) (hp : Prm p) (h2 : p ≤ 1073741824) (n1 : 1 ≤ need) (n2 : need ≤ hold) (n3 : hold ≤ 16) (n4 : hold < p)
    (hv : ShAt w S v L) (hS : ∀ b, S b → b < w.heap.size) (hnl : need ≤ L.length) (hl : L.length ≤ 16) (hm : m ≤ 2048) (ho : GoodSh p hold m L) :
    Calls Tryz.prog 72 #[planV p need hold, v] w (IntsPost2 (combL p need L m) w) := by
  unfold planV
  obtain ⟨A, n, c, rfl, hn, hnc, hc⟩ := id hv
  obtain ⟨i0, hi, hz0, hz1, hz2⟩ := info_parts infoI
  obtain ⟨j0, hj, hy0, hy1, hy2⟩ := info_parts infoS
  have hnn : need ≤ n := by omega
  have hsl := fun (W : World) => run_slice_hi (P := Tryz.prog) W 41 49 j0 Tryz.underlying41 hj A n c need (by omega) (need : Int) rfl
  have kp : Blk (w.alloc (.cells #[.int .i64 (p : Int), .int .i64 (need : Int), .int .i64 (hold : Int)] 34)) w.heap.size 34 #[.int .i64 (p : Int), .int .i64 (need : Int), .int .i64 (hold : Int)] := Blk.new w _ _
  have hb0 : Below w.heap.size w (w.alloc (.cells #[.int .i64 (p : Int), .int .i64 (need : Int), .int .i64 (hold : Int)] 34)) := (Below.refl _ _).alloc (Nat.le_refl _) _
  have hck := s_checkM p need hold m (.slice A n c) L S _ (hw.alloc (.cells #[.int .i64 (p : Int), .int .i64 (need : Int), .int .i64 (hold : Int)] 34)) hp h2 n1 n2 n3 n4 (hv.keep fun b hb => hb0.block b (hS b hb)) (fun b hb => Nat.lt_of_lt_of_le (hS b hb) hb0.size) hnl hl hm ho
  have htk : ∀ W, Below w.heap.size w W → ShAt W S (.slice A need c) (L.take need) := fun W hW => (hv.take hnn).keep fun b hb => hW.block b (hS b hb)
  have hg := ho.take need
  have hle : (L.take need).length = need := by rw [List.length_take]; omega
  generalize hLT : L.take need = LT at *
  have hsf := hg.hsF n4
  have hap := hg.apart n4
  have hhl : (hsOf LT).length = need := by rw [hsOf_len, hle]
  have hhold : ∀ W, Below w.heap.size w W → Calls Tryz.prog 94 #[.slice A need c] W (IntsPost (hsOf LT) W) := fun W hW => s_Holders _ LT S W (htk W hW) (fun b hb => Nat.lt_of_lt_of_le (hS b hb) hW.size) (by omega)
  have hwts : ∀ W vh T, IntsAt W T vh (hsOf LT) → (∀ b, T b → b < W.heap.size) → Calls Tryz.prog 127 #[.int .i64 (p : Int), vh, .int .i64 0] W (IntsPost2 (wts p (hsOf LT) 0) W) := fun W vh T h hT =>
    p_Weights p vh (hsOf LT) T 0 W hp h2 h hT (by omega) (by omega) (by omega) (by omega) (fun k hk => by have := hsf k hk; unfold fOf; omega) hap
  have hval : ∀ W i, i < m → Below w.heap.size w W → Calls Tryz.prog 95 #[.slice A need c, .int .i64 (i : Int)] W (IntsPost (colY LT i) W) := fun W i him hW => c_Values _ LT i S W (htk W hW) (fun b hb => Nat.lt_of_lt_of_le (hS b hb) hW.size) (by omega) (fun k hk => by rw [hg.len k hk]; exact him)
  have hwf : InF p (wts p (hsOf LT) 0) := by
    intro k hk
    have hk' : k < (hsOf LT).length := by simpa [wts] using hk
    rw [wts_get _ _ _ _ hk']
    unfold wt
    exact ⟨Int.emod_nonneg _ (by omega), Int.emod_lt_of_pos _ (by omega)⟩
  have hwl : (wts p (hsOf LT) 0).length = need := by simp [wts, hhl]
  have hwg : ∀ W vw vy i T U, i < m → IntsAt W T vw (wts p (hsOf LT) 0) → IntsAt W U vy (colY LT i) → Calls Tryz.prog 128 #[.int .i64 (p : Int), vw, vy] W fun e w' => e = .returned (.int .i64 (wsum (fOf (wts p (hsOf LT) 0)) (fOf (colY LT i)) need % (p : Int))) ∧ W = w' := fun W vw vy i T U him h1 h3 => by
    have := p_Weigh p vw vy _ _ T U W (by omega) h2 h1 h3 (by omega) (by rw [hwl, colY_len, hle]) hwf (hg.colF i him)
    rwa [hwl] at this
  have hcs : ∀ i, combL p need L (i + 1) = combL p need L i ++ [wsum (fOf (wts p (hsOf LT) 0)) (fOf (colY LT i)) need % (p : Int)] := fun i => by
    rw [combL_succ, hLT]
    congr 3
    refine wsum_congrM need fun k hk => ?_
    rw [show fOf (wts p (hsOf LT) 0) k = (wts p (hsOf LT) 0).getD k 0 from rfl, wts_get _ _ _ _ (by omega), hhl]
  have hlen0 := hg.len 0 (by omega)
  have HV := Lib.hid (htk)
  have HCK := Lib.hid hck
  have HH := Lib.hid hhold
  have HWT := Lib.hid hwts
  have HVL := Lib.hid hval
  have HWG := Lib.hid hwg
  have HCS := Lib.hid hcs
  have HB0 := Lib.hid hb0
  have KP := Lib.hid kp
  have HL0 := Lib.hid hlen0
  have HN := Lib.hid hn
  clear hv hc hck htk hg hle hsf hap hhl hhold hwts hval hwf hwl hwg hcs hb0 kp hw ho hlen0 hn hLT
  go_enter Tryz.func72, Tryz.ntmps72
  go_wp2_with fail
  refine HCK.out.mono ?_
  rintro e w1 ⟨rfl, hb1⟩
  have kp1 := KP.out.below hb1 KP.out.lt
  have hb := HB0.out.trans (hb1.mono HB0.out.size)
  have s0 : w1.cell? ⟨w.heap.size, 0, none⟩ = some (.int .i64 (p : Int)) := kp1.cell 0
  have s1 : w1.cell? ⟨w.heap.size, 1, none⟩ = some (.int .i64 (need : Int)) := kp1.cell 1
  have HB1 := Lib.hid hb
  have hz := kp1.lt
  clear kp1 hb hb1
  go_wp2_with fail
  have hba := HB1.out
  go_region_held3 (fun W => W.cell? ⟨w.heap.size, 0, none⟩ = some (.int .i64 (p : Int)) ∧ Below w.heap.size w W)
    (first
      | exact ⟨s0, hba.drew⟩
      | (go_split_ands
         refine ⟨?_, ?_⟩
         · (rw [hbk.cell (World.block_lt_of_cell? _ _ ‹_›)]; assumption)
         · exact Below.trans ‹Below w.heap.size w _› (hbk.mono (‹Below w.heap.size w _›).size)))
    (first
      | (go_at_call 94; ((with_reducible refine (HH.out _ (by go_split_ands; assumption)).mono ?_); rintro e wk ⟨vh, rfl, hvh, hbk⟩))
      | (go_at_call 127; ((with_reducible refine (HWT.out _ _ _ hvh (fun b hb => hb.2)).mono ?_); rintro e wk2 ⟨vw, rfl, hvw, hbk⟩)))
  all_goals
    go_split_ands
    have s0' : wk2.cell? ⟨w.heap.size, 0, none⟩ = some (.int .i64 (p : Int)) := by assumption
    have hb2 : Below w.heap.size w wk2 := by assumption
    have zz2' := hb2.size
    have zz2 : w.heap.size < wk2.heap.size := World.block_lt_of_cell? _ _ s0'
    obtain ⟨A1, n1', c1, hv1, e1, e2, hcs⟩ := HV.out wk2 hb2
    injection hv1 with v1 v2 v3
    subst v1 v2 v3
    obtain ⟨b, off, rfl, hSb, hcell⟩ := hcs (by omega)
    obtain ⟨u0, _, m1, hu0⟩ := hcell 0 (by omega)
    rw [Nat.zero_mul, Nat.add_zero] at m1
    obtain ⟨Au, nu, cu, rfl, f1, f2, f3⟩ := id hu0
    have hnu : nu = m := by rw [f1, HL0.out]
    subst hnu
    have HB2 := Lib.hid hb2
    have HVW := Lib.hid hvw
    have q0n : (0 : Int) < (need : Int) := by omega
    clear hb2 hvw hvh hcell hu0 f1 f2 f3 hcs e1 e2 hba
    go_wp2_with fail
    go_loopw [9, 34] (fun o t wr => ∃ k : Nat, k ≤ nu ∧ t = .int .i64 (k : Int) ∧ wr.ownsRow wk2.heap.size 3 1 o k ((combL p need L k).map (Value.int .i64)) ∧ Below wk2.heap.size wk2 wr) (fun _ t _ => nu - (intOf t).toNat)
    case atStart => exact ⟨0, by omega, rfl, World.ownsRow_nil _ _ _ _, Below.refl _ _⟩
    case round =>
      obtain ⟨k, hk, rfl, hown, hbl⟩ := hrel
      have hsz := hbl.size
      by_cases hlt : k < nu
      · have qk : (k : Int) < (nu : Int) := by omega
        have c0 := (hbl.cell (p := ⟨w.heap.size, 0, none⟩) zz2).trans s0'
        have hbw : Below w.heap.size w wr := HB2.out.trans (hbl.mono (by omega))
        have hvwr := HVW.out.keep (w' := wr) fun b hb => hbl.block b hb.2
        have hwg := fun (W : World) (hW : Below wr.heap.size wr W) vy U => HWG.out W vw vy k _ U hlt (hvwr.keep fun b hb => hW.block b (by have := hb.2; omega))
        have hvl := fun (W : World) (hW : Below wr.heap.size wr W) => HVL.out W k hlt (hbw.trans (hW.mono (by have := hbw.size; omega)))
        have hcs := HCS.out k
        obtain ⟨z, hzz⟩ : ∃ z, wsum (fOf (wts p (hsOf LT) 0)) (fOf (colY LT k)) need % (p : Int) = z := ⟨_, rfl⟩
        rw [hzz] at hwg hcs
        have HWG' := Lib.hid hwg
        have HVL' := Lib.hid hvl
        have HCS' := Lib.hid hcs
        have HOWN := Lib.hid hown
        have HBL := Lib.hid hbl
        have zw : w.heap.size < wr.heap.size := by omega
        clear hvwr hwg hvl hcs hzz hown hbl hbw
        go_wp2_with fail
        go_region_law (first
          | (go_simp; go_at_call 95; ((with_reducible refine (HVL'.out _ ((Below.refl _ _).drew)).mono ?_); rintro e wk ⟨vy, rfl, hvy, hbk⟩; have hbk' : Below wr.heap.size wr wk := ((Below.refl wr.heap.size wr).drew).trans hbk; have hskk := hbk'.size; have e0 := (hbk'.cell (p := ⟨w.heap.size, 0, none⟩) zw).trans c0; have e4 := HOWN.out.kept (only_of_below hbk' none) (by cases (u9 : Value).ownBlock <;> simp); have E4 := Lib.hid e4; have HBK := Lib.hid hbk'; have HVY := Lib.hid hvy; clear e4 hbk hbk' hvy; go_simp))
          | (go_simp; go_at_call 128; ((with_reducible refine (HWG'.out _ HBK.out _ _ HVY.out).mono ?_); rintro e w' ⟨rfl, rfl⟩; go_simp))
          | (refine step_append_lies _ (by rfl) _ _ _ (by rfl) wk2.heap.size 3 i0 _ 1 8 Tryz.underlying24 hi hz0 hz1 hz2 rfl (by omega) _ k _ (by rfl) (E4.out.alloc _) ⟨wk.heap.size, 0, none⟩ 1 1 [.int .i64 z] (by rfl) (by rfl) (cell_one_new _ _ _) (ints_oneCell .i64 [_]) (by omega) (by simp only [maxLen]; omega) (by omega) (by simp; omega) (wk.heap.size + 1) (by simp) ?_; intro gg cap4 w4 hown4 hgrow4 hat4 hlt4))
        all_goals
          have hg1 := grown_past hgrow4
          have hgT : wr.grownBy w4 (u9 : Value).ownBlock := gb_trM (only_of_below HBK.out _) hg1
          have hul : ∀ b, (u9 : Value).ownBlock = some b → wk2.heap.size ≤ b := fun b hb => (HOWN.out.lt b hb).1
          have hb4 := HBL.out.grown hgT (by omega) hul
          have HB4 := Lib.hid hb4
          have HO4 : Hid (w4.ownsRow wk2.heap.size 3 1 (.slice (some ⟨gg, 0, none⟩) (k + 1) cap4) (k + 1) ((combL p need L (k + 1)).map (Value.int .i64))) := Lib.hid (by rw [HCS'.out, List.map_append]; exact hown4)
          clear hgrow4 hown4 hg1 hgT hul hb4 hat4
          go_wp2_with fail
          go_roundw
          case measure => simp [intOf]; omega
          case rel => exact ⟨k + 1, by omega, by go_num, HO4.out, HB4.out⟩
      · have hkn : k = nu := by omega
        subst hkn
        have HBL := Lib.hid hbl
        have HOWN := Lib.hid hown
        clear hown hbl
        go_wp2_with fail
        go_ret2
        exact ⟨_, rfl, (IntsAt.of_own HOWN.out).mono fun b hb => ⟨by have := hb.1; have := HB2.out.size; omega, hb.2⟩, HB2.out.trans (HBL.out.mono HB2.out.size)⟩
end Go.Proofs.YtjfphobfikadlaaGreatDoor
namespace Go.Proofs.YtjfphobfikadlaaGreatDoor
open Go.RowKit Num

set_option maxRecDepth 100000 in
set_option maxHeartbeats 1000000 in
theorem p_Unpack3 (p : Nat) (v : Value) (bl : List UInt8) (S : Nat → Prop) (w : World) (hw : BasesOk w) (hp : Prm p) (h1 : 16777216 ≤ p) (h2 : p ≤ 1073741824) (hv : IntsAt w S v (pack3 bl)) (hS : ∀ b, S b → b < w.heap.size) (hb : bl.length = 16) :
    Calls Tryz.prog 73 #[.int .i64 (p : Int), v, .int .i64 16] w fun e w' => e = .returned (.tuple #[.string ⟨bl.toArray⟩, .int .i64 0]) ∧ Below w.heap.size w w' := by
  obtain ⟨A, n, c, rfl, hn, -⟩ := id hv
  have hn6 : n = 6 := by rw [hn, pack3_len, hb]
  subst hn6
  have hvl := f_Valid p w hw hp h2
  have hwid := fun W => p_Width p W h2
  rw [wid3 h1] at hwid
  have hcnt := fun W => p_Count p W h2
  rw [cnt3 h1] at hcnt
  have hbb := fun (W : World) (hW : Below w.heap.size w W) => p_byBytes (.slice A 6 c) bl S W (hv.keep fun b hb => hW.block b (hS b hb)) (fun b hb => Nat.lt_of_lt_of_le (hS b hb) hW.size) hb
  have HV := Lib.hid hvl
  have HWID := Lib.hid hwid
  have HCNT := Lib.hid hcnt
  have HBB := Lib.hid hbb
  clear hvl hwid hcnt hbb hv hn hb hw
  go_enter Tryz.func73, Tryz.ntmps73
  go_wp2_with fail
  refine HV.out.mono ?_
  rintro e w' ⟨rfl, rfl⟩
  go_wp2_with fail
  refine (HCNT.out _).mono ?_
  rintro e w1 ⟨rfl, hb1⟩
  have HB1 := Lib.hid hb1
  clear hb1
  go_wp2_with fail
  refine (HWID.out _).mono ?_
  rintro e w' ⟨rfl, rfl⟩
  go_wp2_with fail
  refine (HBB.out _ HB1.out).mono ?_
  rintro e w2 ⟨rfl, hb2⟩
  have HB2 := Lib.hid (HB1.out.trans (hb2.mono HB1.out.size))
  clear hb2
  go_wp2_with fail
  go_ret2
  exact ⟨rfl, HB2.out⟩
def RecPost (need : Nat) (L : List Sh) (key : ByteArray) (w : World) (e : Ending) (w' : World) : Prop :=
  e = .returned (.tuple #[.string (if L.length < need then ⟨#[]⟩ else key), .int .i64 (if L.length < need then 5 else 0)]) ∧ Below w.heap.size w w'
set_option maxRecDepth 100000 in
set_option maxHeartbeats 2000000 in
theorem f_Recover (p need hold : Nat) (vm v : Value) (L : List Sh) (ss : List ByteArray) (key : ByteArray) (S T : Nat → Prop) (w : World) (hw : BasesOk w) (hp : Prm p) (hp1 : 16777216 ≤ p) (h2 : p ≤ 1073741824) (n1 : 1 ≤ need) (n2 : need ≤ hold) (n3 : hold ≤ 12)
    (hv : ShAt w S v L) (hS : ∀ b, S b → b < w.heap.size) (hl : L.length ≤ 16) (h0 : 0 < L.length)
    (hm : StrsAt w T vm ss) (hT : ∀ b, T b → b < w.heap.size) (hml : ss.length = hold) (hx : ∀ k, k < ss.length → (ss.getD k ⟨#[]⟩).size = 32) (hf : Fit ss L) (ho : GoodSh p hold 6 L) (hk : key.size = 16)
    (hc : need ≤ L.length → combL p need L 6 = pack3 key.data.toList) :
    Calls Tryz.prog 27 #[circV p need hold 0 vm (shaOf key), v] w (RecPost need L key w) := by
  unfold RecPost circV
  obtain ⟨R, hR⟩ : ∃ R : ByteArray, (if L.length < need then ⟨#[]⟩ else key) = R := ⟨_, rfl⟩
  obtain ⟨E, hE⟩ : ∃ E : Int, (if L.length < need then 5 else 0) = E := ⟨_, rfl⟩
  rw [hR, hE]
  have HR := Lib.hid hR
  have HE := Lib.hid hE
  clear hR hE
  have n4 : hold < p := by omega
  obtain ⟨A, n, c, rfl, hn, -⟩ := id hv
  obtain ⟨Am, nm, cm, rfl, -⟩ := id hm
  have kp : Blk (w.alloc (.cells #[.int .i64 (p : Int), .int .i64 (need : Int), .int .i64 (hold : Int), .int .i64 0, .slice Am nm cm, .string (shaOf key)] 40)) w.heap.size 40 #[.int .i64 (p : Int), .int .i64 (need : Int), .int .i64 (hold : Int), .int .i64 0, .slice Am nm cm, .string (shaOf key)] := Blk.new w _ _
  have hba := (Below.refl w.heap.size w).alloc (Nat.le_refl _) (.cells #[.int .i64 (p : Int), .int .i64 (need : Int), .int .i64 (hold : Int), .int .i64 0, .slice Am nm cm, .string (shaOf key)] 40)
  have hck := fun (W : World) (hW : Below w.heap.size w W) => f_Check p need hold (.slice Am nm cm) ss (shaOf key) T W (hw.below hW) hp h2 n1 n2 n3 n4 (hm.keep fun b hb => hW.block b (hT b hb)) (fun b hb => Nat.lt_of_lt_of_le (hT b hb) hW.size) hml hx (shaOf_size key)
  have hft := fun (W : World) (hW : Below w.heap.size w W) => f_fitting p need hold 0 (.slice Am nm cm) (.slice A n c) L ss (shaOf key) S T W (hv.keep fun b hb => hW.block b (hS b hb)) (fun b hb => Nat.lt_of_lt_of_le (hS b hb) hW.size) (by omega) h0
    (hm.keep fun b hb => hW.block b (hT b hb)) (fun b hb => Nat.lt_of_lt_of_le (hT b hb) hW.size) (by omega) hf ho.once
  have hcb := fun (W : World) (hW : Below w.heap.size w W) (u : Value) (U : Nat → Prop) (hu : ShAt W U u L) (hU : ∀ b, U b → b < W.heap.size) (hnl : need ≤ L.length) => s_Combine p need hold 6 u L U W (hw.below hW) hp h2 n1 n2 (by omega) n4 hu hU hnl hl (by decide) ho
  have hup := fun (W : World) (hW : Below w.heap.size w W) (u : Value) (U : Nat → Prop) (hu : IntsAt W U u (pack3 key.data.toList)) (hU : ∀ b, U b → b < W.heap.size) => p_Unpack3 p u key.data.toList U W (hw.below hW) hp hp1 h2 hu hU (by simpa using hk)
  have hlk := fun (W : World) => f_Lock key W (by omega)
  unfold circV at hck hft
  unfold planV at hcb
  have ekey : (⟨key.data.toList.toArray⟩ : ByteArray) = key := by apply ByteArray.ext; simp
  rw [ekey] at hup
  have KP := Lib.hid kp
  have HBA := Lib.hid hba
  have HCK := Lib.hid hck
  have HFT := Lib.hid hft
  have HCB := Lib.hid hcb
  have HUP := Lib.hid hup
  have HLK := Lib.hid hlk
  have HC := Lib.hid hc
  have HN := Lib.hid hn
  have hl16 : n ≤ 16 := by omega
  clear kp hba hck hft hcb hup hlk hc hn hv hm hml hx hf ho ekey hw h0 hl hk
  go_enter Tryz.func27, Tryz.ntmps27
  go_wp2_with fail
  refine (HCK.out _ HBA.out).mono ?_
  rintro e w1 ⟨rfl, hb1⟩
  have k1 := KP.out.below hb1 KP.out.lt
  have hq1 := HBA.out.trans (hb1.mono HBA.out.size)
  have s0 : w1.cell? ⟨w.heap.size, 0, none⟩ = some (.int .i64 (p : Int)) := k1.cell 0
  have s1 : w1.cell? ⟨w.heap.size, 1, none⟩ = some (.int .i64 (need : Int)) := k1.cell 1
  have s2 : w1.cell? ⟨w.heap.size, 2, none⟩ = some (.int .i64 (hold : Int)) := k1.cell 2
  have s3 : w1.cell? ⟨w.heap.size, 3, none⟩ = some (.int .i64 0) := k1.cell 3
  have s4 : w1.cell? ⟨w.heap.size, 4, none⟩ = some (.slice Am nm cm) := k1.cell 4
  have s5 : w1.cell? ⟨w.heap.size, 5, none⟩ = some (.string (shaOf key)) := k1.cell 5
  have K1 := Lib.hid k1
  have HB1 := Lib.hid hq1
  clear k1 hq1 hb1
  go_wp2_with fail
  refine (HFT.out _ HB1.out).mono ?_
  rintro e w2 ⟨v2, rfl, hv2, hb2⟩
  have k2 := K1.out.below hb2 K1.out.lt
  have hq2 := HB1.out.trans (hb2.mono HB1.out.size)
  have t0 : w2.cell? ⟨w.heap.size, 0, none⟩ = some (.int .i64 (p : Int)) := k2.cell 0
  have t1 : w2.cell? ⟨w.heap.size, 1, none⟩ = some (.int .i64 (need : Int)) := k2.cell 1
  have t2 : w2.cell? ⟨w.heap.size, 2, none⟩ = some (.int .i64 (hold : Int)) := k2.cell 2
  have hsh := hv2.at_
  obtain ⟨A2, n2', c2, rfl, hn2', -⟩ := id hsh
  have hnn : n2' = n := by rw [hn2', HN.out]
  subst hnn
  have HSH := Lib.hid hsh
  have K2 := Lib.hid k2
  have HB2 := Lib.hid hq2
  clear k2 hq2 hb2 hv2 hsh s0 s1 s2 s3 s4 s5 hn2'
  by_cases hfew : n2' < need
  · have d1 : decide ((n2' : Int) < (need : Int)) = true := decide_eq_true (by omega)
    have d2 : decide (n2' < need) = true := decide_eq_true hfew
    have e1 : L.length < need := by rw [← HN.out]; exact hfew
    have r1 : R = ⟨#[]⟩ := by rw [← HR.out, if_pos e1]
    have r2 : E = 5 := by rw [← HE.out, if_pos e1]
    have R1 := Lib.hid r1
    have R2 := Lib.hid r2
    clear e1 hfew r1 r2
    go_wp2_with fail
    go_ret2
    exact ⟨by rw [R1.out, R2.out]; rfl, HB2.out⟩
  · have d1 : decide ((n2' : Int) < (need : Int)) = false := decide_eq_false (by omega)
    have d2 : decide (n2' < need) = false := decide_eq_false hfew
    have e1 : ¬ L.length < need := by rw [← HN.out]; exact hfew
    have hnl : need ≤ L.length := by omega
    have r1 : R = key := by rw [← HR.out, if_neg e1]
    have r2 : E = 0 := by rw [← HE.out, if_neg e1]
    have R1 := Lib.hid r1
    have R2 := Lib.hid r2
    clear r1 r2
    have hcb2 := HCB.out w2 HB2.out _ _ HSH.out (fun b hb => hb.2) hnl
    rw [HC.out hnl] at hcb2
    have HCB2 := Lib.hid hcb2
    clear e1 hfew hnl hcb2
    go_wp2_with fail
    refine HCB2.out.mono ?_
    rintro e w3 ⟨v3, rfl, hv3, hb3⟩
    have k3 := K2.out.below hb3 K2.out.lt
    have hq3 := HB2.out.trans (hb3.mono HB2.out.size)
    have s0 : w3.cell? ⟨w.heap.size, 0, none⟩ = some (.int .i64 (p : Int)) := k3.cell 0
    have hup := HUP.out w3 hq3 v3 _ hv3 (fun b hb => hb.2)
    have HUP3 := Lib.hid hup
    have K3 := Lib.hid k3
    have HB3 := Lib.hid hq3
    clear k3 hq3 hb3 hv3 hup t0 t1 t2
    go_wp2_with fail
    refine HUP3.out.mono ?_
    rintro e w4 ⟨rfl, hb4⟩
    have k4 := K3.out.below hb4 K3.out.lt
    have hq4 := HB3.out.trans (hb4.mono HB3.out.size)
    have t5 : w4.cell? ⟨w.heap.size, 5, none⟩ = some (.string (shaOf key)) := k4.cell 5
    clear s0 hb4 k4
    go_wp2_with fail
    go_region_held3 (fun W => W.cell? ⟨w.heap.size, 5, none⟩ = some (.string (shaOf key)) ∧ Below w.heap.size w W)
      (first
        | exact ⟨t5, hq4.drew⟩
        | (go_split_ands
           refine ⟨?_, ?_⟩
           · (rw [hbk.cell (World.block_lt_of_cell? _ _ ‹_›)]; assumption)
           · exact Below.trans ‹Below w.heap.size w _› (hbk.mono (‹Below w.heap.size w _›).size)))
      (first
        | (go_at_call 14; ((with_reducible refine (HLK.out _).mono ?_); rintro e wk ⟨rfl, hbk⟩)))
    all_goals
      go_split_ands
      have hbf : Below w.heap.size w wk := by assumption
      go_wp2_with fail
      go_ret2
      exact ⟨by rw [R1.out, R2.out]; rfl, hbf⟩
end Go.Proofs.YtjfphobfikadlaaGreatDoor

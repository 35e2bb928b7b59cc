/- Contracts: products of polynomials. Contracts: the polynomial through points: a polynomial of the field with no more coefficients than points. -/
import Derived.Test.YtjfphobfikadlaaGreatDoorW07
import Derived.Test.YtjfphobfikadlaaGreatDoorW06
set_option linter.unusedVariables false
set_option linter.unusedSimpArgs false
namespace Go.Proofs.YtjfphobfikadlaaGreatDoor
open Go.RowKit Num

theorem ev_set (x y : Int) : ∀ (l : List Int) (k : Nat), k < l.length → ev (l.set k y) x = ev l x + x ^ k * (y - l.getD k 0) := by
  intro l
  induction l with
  | nil => intro k h; simp at h
  | cons c l ih =>
    intro k h
    cases k with
    | zero => simp [ev]; omega
    | succ k =>
      have := ih k (by simpa using h)
      show c + x * ev (l.set k y) x = c + x * ev l x + x ^ (k + 1) * (y - (c :: l).getD (k + 1) 0)
      rw [this, Int.mul_add, Int.pow_succ, Int.mul_comm (x ^ k) x, Int.mul_assoc, Int.add_assoc]; simp
theorem ev_take_succ (x : Int) (l : List Int) (k : Nat) (h : k < l.length) : ev (l.take (k + 1)) x = ev (l.take k) x + x ^ k * l.getD k 0 := by
  rw [List.take_succ_eq_append_getElem h, ev_snoc, List.length_take, Nat.min_eq_left (by omega), List.getD_eq_getElem?_getD, List.getElem?_eq_getElem h]; rfl
theorem ring3 (T B X Y b y e r q : Int) (h : b = r - e) : T * B + X * (y * q) + (X * Y) * b = (T * B + X * (y * q)) + (X * Y) * (r - e) := by rw [h]
/-- One product more. -/
theorem mul_step {p : Nat} {L : List Int} {T B q x y : Int} {i k : Nat} (z : Int) (hk : i + k < L.length) (h : Cg p (ev L z) (T * B + z ^ i * (x * q))) :
    Cg p (ev (L.set (i + k) ((L.getD (i + k) 0 + x * y % p) % p)) z) (T * B + z ^ i * (x * (q + z ^ k * y))) := by
  rw [ev_set _ _ _ _ hk]
  have h1 : Cg p ((L.getD (i + k) 0 + x * y % p) % p - L.getD (i + k) 0) (x * y) := by
    have h2 : Cg p ((L.getD (i + k) 0 + x * y % p) % p) (L.getD (i + k) 0 + x * y) := Cg.of_emod ((Cg.refl p _).add (Cg.emod p _))
    have h3 := h2.sub (Cg.refl p (L.getD (i + k) 0))
    rwa [show L.getD (i + k) 0 + x * y - L.getD (i + k) 0 = x * y by omega] at h3
  have h4 := h.add ((Cg.refl p (z ^ (i + k))).mul h1)
  have e : T * B + z ^ i * (x * q) + z ^ (i + k) * (x * y) = T * B + z ^ i * (x * (q + z ^ k * y)) := by
    rw [Int.pow_add, Int.mul_add x, Int.mul_add (z ^ i), ← Int.add_assoc]
    congr 1
    rw [Int.mul_assoc]
    congr 1
    rw [← Int.mul_assoc, Int.mul_comm (z ^ k) x, Int.mul_assoc]
  rwa [e] at h4
theorem InF.set {p : Nat} {L : List Int} (h : InF p L) (j : Nat) (y : Int) (h0 : 0 ≤ y) (h1 : y < p) : InF p (L.set j y) := by
  intro k hk
  rw [List.length_set] at hk
  by_cases hj : j < L.length
  · rw [getD_set _ _ _ _ hj]; split
    · exact ⟨h0, h1⟩
    · exact h k hk
  · rw [List.set_eq_of_length_le (by omega)]; exact h k hk
theorem InF.zeros (p n : Nat) (hp : 1 ≤ p) : InF p (List.replicate n 0) := by
  intro k hk
  rw [List.length_replicate] at hk
  rw [List.getD_eq_getElem?_getD, List.getElem?_replicate, if_pos hk]
  exact ⟨Int.le_refl 0, by show (0 : Int) < p; omega⟩
theorem ev_zeros (x : Int) (n : Nat) : ev (List.replicate n 0) x = 0 := by
  have := ev_pad x [] n
  simpa [ev] using this
def MulPost (p : Nat) (a b : List Int) (w : World) (e : Ending) (w' : World) : Prop :=
  ∃ L : List Int, InF p L ∧ L.length = a.length + b.length - 1 ∧ (∀ x, Cg p (ev L x) (ev a x * ev b x)) ∧ OwnPost (trim L) w e w'

set_option maxRecDepth 100000 in
set_option maxHeartbeats 2000000 in
theorem p_Mul (p : Nat) (va vb : Value) (a b : List Int) (S T : Nat → Prop) (w : World) (hp1 : 1 ≤ p) (h2 : p ≤ 1073741824)
    (ha : IntsAt w S va a) (hS : ∀ b, S b → b < w.heap.size) (hb : IntsAt w T vb b) (hT : ∀ b, T b → b < w.heap.size) (la : a.length ≤ 10000) (lb : b.length ≤ 10000) (la0 : 0 < a.length) (lb0 : 0 < b.length) (fa : InF p a) (fb : InF p b) :
    Calls Tryz.prog 168 #[.int .i64 (p : Int), va, vb] w (MulPost p a b w) := by
  obtain ⟨i0, hi, hz0, hz1, hz2⟩ := info_parts infoI
  obtain ⟨A, n, ca, rfl, hn, hnc, hcc⟩ := id ha
  obtain ⟨B, m, cb, rfl, hm, hmc, hcd⟩ := id hb
  have hn1 : n ≤ 10000 := by omega
  have hm1 : m ≤ 10000 := by omega
  have hn0 : 0 < n := by omega
  have hm0 : 0 < m := by omega
  have hnz : ((n : Int) == 0) = false := by simp only [beq_eq_false_iff_ne]; omega
  have hmz : ((m : Int) == 0) = false := by simp only [beq_eq_false_iff_ne]; omega
  have hmx : Tryz.prog.follows .mixedOrders = true := by kernel_rfl
  obtain ⟨M, hM⟩ : ∃ M, n + m - 1 = M := ⟨_, rfl⟩
  have hMi : (n : Int) + (m : Int) - 1 = (M : Int) := by omega
  have hM1 : M ≤ 20000 := by omega
  have hmk := fun (W : World) => run_make (P := Tryz.prog) W 24 3 i0 (.int .i64 0) Tryz.underlying24 hi hz0 .i64 .i64 M M (by omega) (by omega) (by rw [hz2]; omega) (by omega)
  simp only [Int.toNat_natCast, hz1, Nat.mul_one] at hmk
  have hmk2 : ∀ W : World, Sem.run Tryz.prog (Instr.makeSlice 24 (Value.int .i64 ((n : Int) + (m : Int) - 1)) (Value.int .i64 ((n : Int) + (m : Int) - 1))) W = Result.ok (Value.slice (some { block := W.heap.size, off := 0 }) M M) (W.alloc (Obj.cells (madeCells (Value.int .i64 0).cells M) 3)) := fun W => by rw [hMi]; exact hmk W
  have hown := OwnI.made (B := w.heap.size) w M (Nat.le_refl _) (by omega)
  have HOWN := Lib.hid hown
  have HA := Lib.hid ha
  have HB := Lib.hid hb
  have HN := Lib.hid hn
  have HMM := Lib.hid hm
  have HM := Lib.hid hM
  clear ha hb hn hm hM hown hcc hcd hMi hmk
  go_enter Tryz.func168, Tryz.ntmps168
  go_wp2_with fail
  obtain ⟨g, hg⟩ : ∃ g, w.heap.size = g := ⟨_, rfl⟩
  rw [hg]
  have HG := Lib.hid hg
  have hbw0 : Below w.heap.size w (w.alloc (.cells (madeCells #[Value.int .i64 0] M) 3)) := (Below.refl _ _).alloc (Nat.le_refl _) _
  rw [hg] at HOWN
  have HBW0 := Lib.hid hbw0
  clear hbw0 hg
  generalize (w.alloc (.cells (madeCells #[Value.int .i64 0] M) 3)) = w1 at *
  go_loopw [29] (fun t wr => ∃ (i : Nat) (L : List Int), i ≤ n ∧ t = .int .i64 i ∧ OwnI wr g (.slice (some ⟨g, 0, none⟩) M M) L ∧ InF p L ∧ L.length = M ∧ (∀ z, Cg p (ev L z) (ev (a.take i) z * ev b z)) ∧ Below w.heap.size w wr) (fun t _ => n - (intOf t).toNat)
  case atStart => exact ⟨0, List.replicate M 0, by omega, rfl, HOWN.out, InF.zeros p M hp1, by simp, fun z => by rw [ev_zeros]; simp [ev, Cg], HBW0.out⟩
  case round =>
    obtain ⟨i, L, hin, rfl, ho, hf, hl, hcg, hbl⟩ := hrel
    have HO := Lib.hid ho
    have HF := Lib.hid hf
    have HL := Lib.hid hl
    have HCG := Lib.hid hcg
    have HBL := Lib.hid hbl
    by_cases hlt : i < n
    · have hir := HA.out.keep (w' := wr) fun q hq => hbl.block q (hS q hq)
      obtain ⟨A', n', c', hv', e2, e3, hcs⟩ := hir
      injection hv' with v1 v2 v3
      subst v1 v2 v3
      obtain ⟨ba, oa, rfl, _, hca⟩ := hcs hn0
      have cka := hca i hlt
      have fai := fa i (by have := HN.out; omega)
      have hts : ∀ z, ev (a.take (i + 1)) z = ev (a.take i) z + z ^ i * a.getD i 0 := fun z => ev_take_succ z a i (by have := HN.out; omega)
      obtain ⟨x, hx⟩ : ∃ x, a.getD i 0 = x := ⟨_, rfl⟩
      rw [hx] at cka fai
      simp only [hx] at hts
      have HTS := Lib.hid hts
      have qi : (i : Int) < (n : Int) := by omega
      have qi0 : (0 : Int) ≤ (i : Int) := by omega
      clear hx hts ho hf hl hcg hbl hca hcs e2
      go_wp2_with fail
      obtain ⟨wo, hwo⟩ : ∃ wo, wo = wr := ⟨wr, rfl⟩
      subst hwo
      go_loopw [36] (fun t wr => ∃ (k : Nat) (L : List Int), k ≤ m ∧ t = .int .i64 k ∧ OwnI wr g (.slice (some ⟨g, 0, none⟩) M M) L ∧ InF p L ∧ L.length = M ∧ (∀ z, Cg p (ev L z) (ev (a.take i) z * ev b z + z ^ i * (x * ev (b.take k) z))) ∧ Below w.heap.size w wr) (fun t _ => m - (intOf t).toNat)
      case atStart => exact ⟨0, L, by omega, rfl, HO.out, HF.out, HL.out, fun z => by have := HCG.out z; simpa [ev] using this, HBL.out⟩
      case round =>
        obtain ⟨k, L', hkm, rfl, ho, hf, hl, hcg, hbl⟩ := hrel
        have HO := Lib.hid ho
        have HF := Lib.hid hf
        have HL := Lib.hid hl
        have HCG := Lib.hid hcg
        have HBL := Lib.hid hbl
        by_cases hlt2 : k < m
        · have hik : i + k < M := by have := HM.out; omega
          have hir := HB.out.keep (w' := wr) fun q hq => hbl.block q (hT q hq)
          obtain ⟨B', m', c', hv', e2, e3', hcs⟩ := hir
          injection hv' with v1 v2 v3
          subst v1 v2 v3
          obtain ⟨bb, ob, rfl, _, hcb⟩ := hcs hm0
          have ckb := hcb k hlt2
          have fbk := fb k (by have := HMM.out; omega)
          have hts2 : ∀ z, ev (b.take (k + 1)) z = ev (b.take k) z + z ^ k * b.getD k 0 := fun z => ev_take_succ z b k (by have := HMM.out; omega)
          obtain ⟨y, hy⟩ : ∃ y, b.getD k 0 = y := ⟨_, rfl⟩
          rw [hy] at ckb fbk
          simp only [hy] at hts2
          have ckr := ho.cell (i + k) (by rw [hl]; exact hik)
          have fkr := ho.frozen (i + k)
          have frr := hf (i + k) (by rw [hl]; exact hik)
          have hst := fun v => ho.set (i + k) v
          have hsf := fun v h0 h1 => hf.set (i + k) v h0 h1
          have hnew := fun z => mul_step (x := x) (y := y) z (by rw [hl]; exact hik) (hcg z)
          obtain ⟨r, hr⟩ : ∃ r, L'.getD (i + k) 0 = r := ⟨_, rfl⟩
          rw [hr] at ckr frr
          have e0 : (r + x * y % (p : Int)) % (p : Int) = (r + x * y) % (p : Int) := by simp
          simp only [hr, e0] at hnew
          clear e0
          have HTS2 := Lib.hid hts2
          have HST := Lib.hid hst
          have HSF := Lib.hid hsf
          have HNEW := Lib.hid hnew
          have qk : (k : Int) < (m : Int) := by omega
          have qk0 : (0 : Int) ≤ (k : Int) := by omega
          have qs0 : (0 : Int) ≤ (i : Int) + (k : Int) := by omega
          have qs1 : (i : Int) + (k : Int) < (M : Int) := by omega
          have qs2 : ((i : Int) + (k : Int)).toNat = i + k := by omega
          have wik : IntKind.i64.wrap ((i : Int) + (k : Int)) = (i : Int) + (k : Int) := IntWalk.i64_in _ ⟨by omega, by omega⟩
          have m0 := Int.emod_nonneg (x * y) (show (p : Int) ≠ 0 by omega)
          have m1 := Int.emod_lt_of_pos (x * y) (show (0 : Int) < p by omega)
          have s0 := Int.emod_nonneg (r + x * y) (show (p : Int) ≠ 0 by omega)
          have s1 := Int.emod_lt_of_pos (r + x * y) (show (0 : Int) < p by omega)
          clear hy hts2 ho hf hl hcg hbl hcb hcs e2 hr hst hsf hnew
          go_wp2_with fail
          refine wp_region_last_lit _ _ (fun W => W.cell? ⟨g, i + k, none⟩ = some (.int .i64 r)) hmx rfl (by kernel_rfl) ckr (fun hS => ?_)
          simp only [List.dropLast]
          refine wpAnyH_take (i := 0) (v := ?_) rfl (by kernel_rfl) (by kernel_rfl) (by kernel_rfl) (fun _ _ _ h => h) (Or.inl ⟨by rfl, ?_⟩) (by assumption) ?_
          rotate_left
          · (intro w hSw; (try dsimp only at hSw); go_simp; try (with_reducible rfl))
          try simp only [Act.put, List.setIfInBounds_toArray, List.set_cons_zero, List.set_cons_succ]
          refine wpAnyH_take (i := 1) (v := ?_) rfl (by kernel_rfl) (by kernel_rfl) (by kernel_rfl) (fun _ _ _ h => h) (Or.inl ⟨by rfl, ?_⟩) (by assumption) ?_
          rotate_left
          · (intro w hSw; (try dsimp only at hSw); go_simp; try (with_reducible rfl))
          try simp only [Act.put, List.setIfInBounds_toArray, List.set_cons_zero, List.set_cons_succ]
          refine wpAnyH_take (i := 2) (v := ?_) rfl (by kernel_rfl) (by kernel_rfl) (by kernel_rfl) (fun _ _ _ h => h) (Or.inl ⟨by rfl, ?_⟩) (by assumption) ?_
          rotate_left
          · (intro w hSw; (try dsimp only at hSw); go_simp; try (with_reducible rfl))
          try simp only [Act.put, List.setIfInBounds_toArray, List.set_cons_zero, List.set_cons_succ]
          refine wpAnyH_take (i := 3) (v := ?_) rfl (by kernel_rfl) (by kernel_rfl) (by kernel_rfl) (fun _ _ _ h => h) (Or.inl ⟨by rfl, ?_⟩) (by assumption) ?_
          rotate_left
          · (intro w hSw; (try dsimp only at hSw); go_simp; try (with_reducible rfl))
          try simp only [Act.put, List.setIfInBounds_toArray, List.set_cons_zero, List.set_cons_succ]
          refine wpAnyH_take (i := 4) (v := ?_) rfl (by kernel_rfl) (by kernel_rfl) (by kernel_rfl) (fun _ _ _ h => h) (Or.inl ⟨by rfl, ?_⟩) (by assumption) ?_
          rotate_left
          · (intro w hSw; (try dsimp only at hSw); go_simp; try (with_reducible rfl))
          try simp only [Act.put, List.setIfInBounds_toArray, List.set_cons_zero, List.set_cons_succ]
          refine wpAnyH_take (i := 5) (v := ?_) rfl (by kernel_rfl) (by kernel_rfl) (by kernel_rfl) (fun _ _ _ h => h) (Or.inl ⟨by rfl, ?_⟩) (by assumption) ?_
          rotate_left
          · (intro w hSw; (try dsimp only at hSw); go_simp; try (with_reducible rfl))
          try simp only [Act.put, List.setIfInBounds_toArray, List.set_cons_zero, List.set_cons_succ]
          refine wpAnyH_take (i := 6) (v := ?_) rfl (by kernel_rfl) (by kernel_rfl) (by kernel_rfl) (fun _ _ _ h => h) (Or.inl ⟨by rfl, ?_⟩) (by assumption) ?_
          rotate_left
          · (intro w hSw; (try dsimp only at hSw); go_simp; try (with_reducible rfl))
          try simp only [Act.put, List.setIfInBounds_toArray, List.set_cons_zero, List.set_cons_succ]
          refine wpAnyH_take (i := 7) (v := ?_) rfl (by kernel_rfl) (by kernel_rfl) (by kernel_rfl) (fun _ _ _ h => h) (Or.inl ⟨by rfl, ?_⟩) (by assumption) ?_
          rotate_left
          · (intro w hSw; (try dsimp only at hSw); go_simp; try (with_reducible rfl))
          try simp only [Act.put, List.setIfInBounds_toArray, List.set_cons_zero, List.set_cons_succ]
          refine wpAnyH_take (i := 8) (v := ?_) rfl (by kernel_rfl) (by kernel_rfl) (by kernel_rfl) (fun _ _ _ h => h) (Or.inl ⟨by rfl, ?_⟩) (by assumption) ?_
          rotate_left
          · (intro w hSw; (try dsimp only at hSw); go_simp; try (with_reducible rfl))
          try simp only [Act.put, List.setIfInBounds_toArray, List.set_cons_zero, List.set_cons_succ]
          refine wpAnyH_take (i := 9) (v := ?_) rfl (by kernel_rfl) (by kernel_rfl) (by kernel_rfl) (fun _ _ _ h => h) (Or.inl ⟨by rfl, ?_⟩) (by assumption) ?_
          rotate_left
          · (intro w hSw; (try dsimp only at hSw); go_simp; try (with_reducible rfl))
          try simp only [Act.put, List.setIfInBounds_toArray, List.set_cons_zero, List.set_cons_succ]
          refine wpAnyH_take (i := 10) (v := ?_) rfl (by kernel_rfl) (by kernel_rfl) (by kernel_rfl) (fun _ _ _ h => h) (Or.inl ⟨by rfl, ?_⟩) (by assumption) ?_
          rotate_left
          · (intro w hSw; (try dsimp only at hSw); go_simp; try (with_reducible rfl))
          try simp only [Act.put, List.setIfInBounds_toArray, List.set_cons_zero, List.set_cons_succ]
          refine wpAnyH_take (i := 11) (v := ?_) rfl (by kernel_rfl) (by kernel_rfl) (by kernel_rfl) (fun _ _ _ h => h) (Or.inl ⟨by rfl, ?_⟩) (by assumption) ?_
          rotate_left
          · (intro w hSw; (try dsimp only at hSw); go_simp; try (with_reducible rfl))
          try simp only [Act.put, List.setIfInBounds_toArray, List.set_cons_zero, List.set_cons_succ]
          refine wpAnyH_take (i := 12) (v := ?_) rfl (by kernel_rfl) (by kernel_rfl) (by kernel_rfl) (fun _ _ _ h => h) (Or.inl ⟨by rfl, ?_⟩) (by assumption) ?_
          rotate_left
          · (intro w hSw; (try dsimp only at hSw); go_simp; try (with_reducible rfl))
          try simp only [Act.put, List.setIfInBounds_toArray, List.set_cons_zero, List.set_cons_succ]
          refine wpAnyH_take (i := 13) (v := ?_) rfl (by kernel_rfl) (by kernel_rfl) (by kernel_rfl) (fun _ _ _ h => h) (Or.inl ⟨by rfl, ?_⟩) (by assumption) ?_
          rotate_left
          · (intro w hSw; (try dsimp only at hSw); go_simp; try (with_reducible rfl))
          try simp only [Act.put, List.setIfInBounds_toArray, List.set_cons_zero, List.set_cons_succ]
          refine wpAnyH_ready (rs := [14]) (by kernel_rfl) (by simp) ?_
          refine AllReadyH.cons rfl (fun K hK => ?_) AllReadyH.nil
          go_simp
          refine (f_MulZ p x y _ hp1 (by omega) (by omega) (by omega) (by omega) (by omega)).mono ?_
          rintro e w' ⟨rfl, rfl⟩
          refine hK.out _ _ (hS) (fun hHeld => ?_)
          clear hK K
          try simp only [Act.put, List.setIfInBounds_toArray, List.set_cons_zero, List.set_cons_succ]
          refine wpAnyH_ready (rs := [15]) (by kernel_rfl) (by simp) ?_
          refine AllReadyH.cons rfl (fun K hK => ?_) AllReadyH.nil
          go_simp
          refine (f_AddI p r _ _ hp1 (by omega) (by omega) (by omega) (by omega) (by omega)).mono ?_
          rintro e w' ⟨rfl, rfl⟩
          refine hK.out _ _ (hS) (fun hHeld => ?_)
          clear hK K
          try simp only [Act.put, List.setIfInBounds_toArray, List.set_cons_zero, List.set_cons_succ]
          refine wpAnyH_take (i := 16) (v := ?_) rfl (by kernel_rfl) (by kernel_rfl) (by kernel_rfl) (fun _ _ _ h => h) (Or.inl ⟨by rfl, ?_⟩) (by assumption) ?_
          rotate_left
          · (intro w hSw; (try dsimp only at hSw); go_simp; try (with_reducible rfl))
          try simp only [Act.put, List.setIfInBounds_toArray, List.set_cons_zero, List.set_cons_succ]
          refine wpAnyH_done (by kernel_rfl) ?_ _
          refine lastQ_step (by rfl) (by rfl) ?_
          go_simp
          go_wp2_with fail
          go_roundw
          case measure => simp [intOf]; omega
          case rel => exact ⟨k + 1, L'.set (i + k) ((r + x * y) % p), by omega, by go_num, HST.out _, HSF.out _ s0 s1, by rw [List.length_set]; exact HL.out, fun z => by rw [HTS2.out]; exact HNEW.out z, (HBL.out.setCell (p := ⟨g, i + k, none⟩) (by rw [HG.out]; exact Nat.le_refl g) _).drew⟩
        · have hk' : k = m := by omega
          subst hk'
          clear ho hf hl hcg hbl
          go_wp2_with fail
          go_roundw
          case measure => simp [intOf]; omega
          case rel =>
            refine ⟨i + 1, L', by omega, by go_num, HO.out, HF.out, HL.out, fun z => ?_, HBL.out⟩
            have h := HCG.out z
            rw [show b.take k = b from List.take_of_length_le (by have := HMM.out; omega)] at h
            rw [HTS.out, Int.add_mul, Int.mul_assoc]
            exact h
    · have hi' : i = n := by omega
      subst hi'
      clear ho hf hl hcg hbl
      go_wp2_with fail
      refine (p_short _ L _ _ HO.out.ints (fun q hq => hq.2) (by have := HL.out; omega)).mono ?_
      rintro e w2 ⟨v2, rfl, ho2, hb2⟩
      have h1c := own_one ho2
      go_wp2_with fail
      go_ret
      refine ⟨L, HF.out, by rw [HL.out, ← HN.out, ← HMM.out]; exact HM.out.symm, fun z => ?_, _, rfl, ho2.mono HBL.out.size, HBL.out.trans (hb2.mono HBL.out.size)⟩
      have h := HCG.out z
      rwa [List.take_of_length_le (by have := HN.out; omega)] at h
end Go.Proofs.YtjfphobfikadlaaGreatDoor
namespace Go.Proofs.YtjfphobfikadlaaGreatDoor
open Go.RowKit Num

def InvPost (p : Nat) (w : World) (e : Ending) (w' : World) : Prop := ∃ v k : Int, 0 ≤ v ∧ v < p ∧ e = .returned (.tuple #[.int .i64 v, .int .i64 k]) ∧ w = w'
theorem f_InverseG (p : Nat) (a : Int) (w : World) (hp : 2 ≤ p) (h2 : p ≤ 2147483648) (ha0 : 0 ≤ a) (ha : a < 2147483648) :
    Calls Tryz.prog 165 #[.int .i64 (p : Int), .int .i64 a] w (InvPost p w) := by
  by_cases h : a = 0
  · subst h
    go_enter Tryz.func165, Tryz.ntmps165
    go_wp2_with fail
    go_ret2
    exact ⟨0, 7, Int.le_refl 0, by omega, rfl, rfl⟩
  · refine (f_Inverse p a w hp h2 (by omega) ha).mono ?_
    rintro e w' ⟨rfl, rfl⟩
    exact ⟨_, _, (invP_bd p a hp).1, (invP_bd p a hp).2, rfl, rfl⟩
theorem InF.nil (p : Nat) : InF p [] := fun k hk => by simp at hk
theorem InF.one1 {p : Nat} (hp : 2 ≤ p) : InF p [1] := fun k hk => by
  have : k = 0 := by simp at hk; omega
  subst this
  show (0 : Int) ≤ 1 ∧ (1 : Int) < p
  omega
def MulPost' (p : Nat) (a b : List Int) (w : World) (e : Ending) (w' : World) : Prop := ∃ L : List Int, InF p L ∧ L.length ≤ a.length + b.length - 1 ∧ OwnPost L w e w'
set_option maxHeartbeats 400000 in
theorem p_Mul' (p : Nat) (va vb : Value) (a b : List Int) (S T : Nat → Prop) (w : World) (hp1 : 1 ≤ p) (h2 : p ≤ 1073741824)
    (ha : IntsAt w S va a) (hS : ∀ b, S b → b < w.heap.size) (hb : IntsAt w T vb b) (hT : ∀ b, T b → b < w.heap.size) (la : a.length ≤ 10000) (lb : b.length ≤ 10000) (lb0 : 0 < b.length) (fa : InF p a) (fb : InF p b) :
    Calls Tryz.prog 168 #[.int .i64 (p : Int), va, vb] w (MulPost' p a b w) := by
  by_cases h : 0 < a.length
  · refine (p_Mul p va vb a b S T w hp1 h2 ha hS hb hT la lb h lb0 fa fb).mono ?_
    rintro e w' ⟨L, hf, hl, _, ho⟩
    exact ⟨trim L, InF.of_mem (can_trim hf.mem).1, by rw [trim_len]; have := degN_le L; omega, ho⟩
  · obtain ⟨A, n, ca, rfl, hn, hnc, hcc⟩ := ha
    obtain ⟨B, m, cb, rfl, hm, hmc, hcd⟩ := hb
    have hn0 : n = 0 := by omega
    subst hn0
    clear hn hm hcc hcd h
    go_enter Tryz.func168, Tryz.ntmps168
    go_wp2_with fail
    go_ret
    exact ⟨[], InF.nil p, by simp, _, rfl, OwnI.nil _ _, Below.refl _ _⟩
theorem own1 (w : World) (B : Nat) (x : Int) (hB : B ≤ w.heap.size) : OwnI (w.alloc (.cells #[.int .i64 x] 3)) B (.slice (some ⟨w.heap.size, 0, none⟩) 1 1) [x] := own_built w B 3 _ hB
theorem own2 (w : World) (B : Nat) (x y : Int) (hB : B ≤ w.heap.size) : OwnI (w.alloc (.cells #[.int .i64 x, .int .i64 y] 3)) B (.slice (some ⟨w.heap.size, 0, none⟩) 2 2) [x, y] :=
  World.ownsRow_lit (base := B) (e := 3) (size := 1) w #[.int .i64 x, .int .i64 y] 2 hB (by simp only [maxLen]; omega) rfl
def ThrPost (p n : Nat) (w : World) (e : Ending) (w' : World) : Prop := ∃ (F : List Int) (v : Value), Num.Can p F ∧ F.length ≤ n ∧ e = .returned (.tuple #[v, .int .i64 0]) ∧ OwnI w' w.heap.size v F ∧ Below w.heap.size w w'

set_option maxRecDepth 100000 in
set_option maxHeartbeats 1000000 in
theorem p_Through (p : Nat) (va vb : Value) (X Y : List Int) (S T : Nat → Prop) (w : World) (hp2 : 2 ≤ p) (h2 : p ≤ 1073741824)
    (ha : IntsAt w S va X) (hS : ∀ b, S b → b < w.heap.size) (hb : IntsAt w T vb Y) (hT : ∀ b, T b → b < w.heap.size) (la : X.length ≤ 1000) (lb : Y.length = X.length) (l0 : 0 < X.length) (fa : InF p X) (fb : InF p Y)
    (hd : ∀ i j, i < X.length → j < X.length → i ≠ j → X.getD i 0 ≠ X.getD j 0) :
    Calls Tryz.prog 133 #[.int .i64 (p : Int), va, vb] w (ThrPost p X.length w) := by
  have hp1 : 1 ≤ p := by omega
  obtain ⟨A, n, ca, rfl, hn, hnc, hcc⟩ := id ha
  obtain ⟨B, m, cb, rfl, hm, hmc, hcd⟩ := id hb
  have hmn : m = n := by omega
  subst hmn
  have hn1 : m ≤ 1000 := by omega
  have hn0 : 0 < m := by omega
  have hmx : Tryz.prog.follows .mixedOrders = true := by kernel_rfl
  have hchk := p_check (.slice A m ca) X S w ha hS l0 la (fun k hk => ⟨(fa k hk).1, by have := (fa k hk).2; show X.getD k 0 < _; omega⟩) hd
  have HCHK := Lib.hid hchk
  have HA := Lib.hid ha
  have HB := Lib.hid hb
  have HN := Lib.hid hn
  have h1p : (1 : Int) % (p : Int) = 1 := Int.emod_eq_of_lt (by omega) (by omega)
  have H1P := Lib.hid h1p
  clear ha hb hn hm hcc hcd hchk hd lb h1p
  go_enter Tryz.func133, Tryz.ntmps133
  go_wp2_with fail
  refine HCHK.out.mono ?_
  rintro e w1 ⟨rfl, hb1⟩
  go_wp2_with fail
  refine (f_Element p 1 _ hp1 (by omega)).mono ?_
  rintro e w' ⟨rfl, rfl⟩
  rw [H1P.out]
  go_wp2_with fail
  have hz := own1 w1 w.heap.size 1 hb1.size
  have hbw := hb1.alloc hb1.size (.cells #[.int .i64 1] 3)
  have HZ := Lib.hid hz
  have HBW := Lib.hid hbw
  clear hz hbw hb1
  generalize (.slice (some ⟨w1.heap.size, 0, none⟩) 1 1 : Value) = vz0 at *
  generalize (w1.alloc (.cells #[.int .i64 1] 3)) = w2 at *
  go_loopw [30, 9, 10] (fun t vo vz wr => ∃ (i : Nat) (O Z : List Int), i ≤ m ∧ t = .int .i64 i ∧ OwnI wr w.heap.size vo O ∧ OwnI wr w.heap.size vz Z ∧ InF p O ∧ InF p Z ∧ O.length ≤ i ∧ Z.length ≤ i + 1 ∧ Below w.heap.size w wr) (fun t _ _ _ => m - (intOf t).toNat)
  case atStart => exact ⟨0, [], [1], by omega, rfl, OwnI.nil _ _, HZ.out, InF.nil p, InF.one1 hp2, by simp, by simp, HBW.out⟩
  case round =>
    obtain ⟨i, O, Z, him, rfl, ho, hz, fo, fz, lo, lz, hbl⟩ := hrel
    have HO := Lib.hid ho
    have HZZ := Lib.hid hz
    have FO := Lib.hid fo
    have FZ := Lib.hid fz
    have HBL := Lib.hid hbl
    have h1o := own_one ho
    have h1z := own_one hz
    by_cases hlt : i < m
    · have hir := HA.out.keep (w' := wr) fun q hq => hbl.block q (hS q hq)
      obtain ⟨A', n', c', hv', e2, e3, hcs⟩ := hir
      injection hv' with v1 v2 v3
      subst v1 v2 v3
      obtain ⟨ba, oa, rfl, _, hca⟩ := hcs hn0
      have cka := hca i hlt
      have fai := fa i (by have := HN.out; omega)
      obtain ⟨x, hx⟩ : ∃ x, X.getD i 0 = x := ⟨_, rfl⟩
      rw [hx] at cka fai
      have qi : (i : Int) < (m : Int) := by omega
      have qi0 : (0 : Int) ≤ (i : Int) := by omega
      clear hx ho hz fo fz hbl hca hcs e2 HBW HZ
      go_wp2_with fail
      refine (p_Eval p x u10 Z _ wr hp1 h2 (by omega) (by omega) HZZ.out.ints (fun q hq => hq.2) (by omega) FZ.out).mono ?_
      rintro e w2' ⟨rfl, hb2⟩
      have ez0 := Int.emod_nonneg (ev Z x) (show (p : Int) ≠ 0 by omega)
      have ez1 := Int.emod_lt_of_pos (ev Z x) (show (0 : Int) < p by omega)
      generalize ev Z x % (p : Int) = ez at *
      go_wp2_with fail
      refine (f_InverseG p ez _ hp2 (by omega) ez0 (by omega)).mono ?_
      rintro e w' ⟨iv, ie, iv0, iv1, rfl, rfl⟩
      have ho2 := HO.out.below hb2
      have hz2 := HZZ.out.below hb2
      have hbl2 := HBL.out.trans (hb2.mono HBL.out.size)
      have HO2 := Lib.hid ho2
      have HZ2 := Lib.hid hz2
      have HBL2 := Lib.hid hbl2
      have hir := HB.out.keep (w' := w2') fun q hq => hbl2.block q (hT q hq)
      obtain ⟨B', m', c', hv', e2, e3', hcs⟩ := hir
      injection hv' with v1 v2 v3
      subst v1 v2 v3
      obtain ⟨bb, ob, rfl, hTb, hcb⟩ := hcs hn0
      have ckb := hcb i hlt
      have hbb : bb < w2'.heap.size := by have := hT bb hTb; have := hbl2.size; omega
      have fbi := fb i (by omega)
      obtain ⟨y, hy⟩ : ∃ y, Y.getD i 0 = y := ⟨_, rfl⟩
      rw [hy] at ckb fbi
      have eo0 := Int.emod_nonneg (ev O x) (show (p : Int) ≠ 0 by omega)
      have eo1 := Int.emod_lt_of_pos (ev O x) (show (0 : Int) < p by omega)
      have hlin : ∀ c : Int, 0 ≤ c → c < p → ∀ W : World, Below w2'.heap.size w2' W → Calls Tryz.prog 166 #[.int .i64 (p : Int), u9, u10, .int .i64 c] W (OwnPost (linL p c O Z) W) := fun c c0 c1 W hb =>
        f_Linear p u9 u10 O Z c _ _ W hp1 h2 c0 (by omega) (HO2.out.below hb).ints (fun q hq => hq.2) (HZ2.out.below hb).ints (fun q hq => hq.2) (by omega) (by omega) FO.out FZ.out
      have HLIN := Lib.hid hlin
      have ho3 : OwnI w2'.drew w.heap.size u9 O := HO2.out
      have hev := p_Eval p x u9 O _ w2'.drew hp1 h2 (by omega) (by omega) ho3.ints (fun q hq => hq.2) (by omega) FO.out
      generalize ev O x % (p : Int) = eo at *
      have HEV := Lib.hid hev
      clear ho3 hev
      clear hy hb2 ho2 hz2 hbl2 hcb hcs e2 hlin
      go_wp2_with fail
      refine wp_region_last_lit _ _ (fun W => W.cell? ⟨bb, ob + i, none⟩ = some (.int .i64 y)) hmx rfl (by kernel_rfl) ckb (fun hS => ?_)
      simp only [List.dropLast]
      refine wpAnyH_take (i := 0) (v := ?_) rfl (by kernel_rfl) (by kernel_rfl) (by kernel_rfl) (fun _ _ _ h => h) (Or.inl ⟨by rfl, ?_⟩) (by assumption) ?_
      rotate_left
      · (intro w hSw; (try dsimp only at hSw); go_simp; try (with_reducible rfl))
      try simp only [Act.put, List.setIfInBounds_toArray, List.set_cons_zero, List.set_cons_succ]
      refine wpAnyH_take (i := 1) (v := ?_) rfl (by kernel_rfl) (by kernel_rfl) (by kernel_rfl) (fun _ _ _ h => h) (Or.inl ⟨by rfl, ?_⟩) (by assumption) ?_
      rotate_left
      · (intro w hSw; (try dsimp only at hSw); go_simp; try (with_reducible rfl))
      try simp only [Act.put, List.setIfInBounds_toArray, List.set_cons_zero, List.set_cons_succ]
      refine wpAnyH_take (i := 2) (v := ?_) rfl (by kernel_rfl) (by kernel_rfl) (by kernel_rfl) (fun _ _ _ h => h) (Or.inl ⟨by rfl, ?_⟩) (by assumption) ?_
      rotate_left
      · (intro w hSw; (try dsimp only at hSw); go_simp; try (with_reducible rfl))
      try simp only [Act.put, List.setIfInBounds_toArray, List.set_cons_zero, List.set_cons_succ]
      refine wpAnyH_take (i := 3) (v := ?_) rfl (by kernel_rfl) (by kernel_rfl) (by kernel_rfl) (fun _ _ _ h => h) (Or.inl ⟨by rfl, ?_⟩) (by assumption) ?_
      rotate_left
      · (intro w hSw; (try dsimp only at hSw); go_simp; try (with_reducible rfl))
      try simp only [Act.put, List.setIfInBounds_toArray, List.set_cons_zero, List.set_cons_succ]
      refine wpAnyH_take (i := 4) (v := ?_) rfl (by kernel_rfl) (by kernel_rfl) (by kernel_rfl) (fun _ _ _ h => h) (Or.inl ⟨by rfl, ?_⟩) (by assumption) ?_
      rotate_left
      · (intro w hSw; (try dsimp only at hSw); go_simp; try (with_reducible rfl))
      try simp only [Act.put, List.setIfInBounds_toArray, List.set_cons_zero, List.set_cons_succ]
      refine wpAnyH_take (i := 5) (v := ?_) rfl (by kernel_rfl) (by kernel_rfl) (by kernel_rfl) (fun _ _ _ h => h) (Or.inl ⟨by rfl, ?_⟩) (by assumption) ?_
      rotate_left
      · (intro w hSw; (try dsimp only at hSw); go_simp; try (with_reducible rfl))
      try simp only [Act.put, List.setIfInBounds_toArray, List.set_cons_zero, List.set_cons_succ]
      refine wpAnyH_take (i := 6) (v := ?_) rfl (by kernel_rfl) (by kernel_rfl) (by kernel_rfl) (fun _ _ _ h => h) (Or.inl ⟨by rfl, ?_⟩) (by assumption) ?_
      rotate_left
      · (intro w hSw; (try dsimp only at hSw); go_simp; try (with_reducible rfl))
      try simp only [Act.put, List.setIfInBounds_toArray, List.set_cons_zero, List.set_cons_succ]
      refine wpAnyH_take (i := 7) (v := ?_) rfl (by kernel_rfl) (by kernel_rfl) (by kernel_rfl) (fun _ _ _ h => h) (Or.inl ⟨by rfl, ?_⟩) (by assumption) ?_
      rotate_left
      · (intro w hSw; (try dsimp only at hSw); go_simp; try (with_reducible rfl))
      try simp only [Act.put, List.setIfInBounds_toArray, List.set_cons_zero, List.set_cons_succ]
      refine wpAnyH_take (i := 8) (v := ?_) rfl (by kernel_rfl) (by kernel_rfl) (by kernel_rfl) (fun _ _ _ h => h) (Or.inl ⟨by rfl, ?_⟩) (by assumption) ?_
      rotate_left
      · (intro w hSw; (try dsimp only at hSw); go_simp; try (with_reducible rfl))
      try simp only [Act.put, List.setIfInBounds_toArray, List.set_cons_zero, List.set_cons_succ]
      refine wpAnyH_take (i := 9) (v := ?_) rfl (by kernel_rfl) (by kernel_rfl) (by kernel_rfl) (fun _ _ _ h => h) (Or.inl ⟨by rfl, ?_⟩) (by assumption) ?_
      rotate_left
      · (intro w hSw; (try dsimp only at hSw); go_simp; try (with_reducible rfl))
      try simp only [Act.put, List.setIfInBounds_toArray, List.set_cons_zero, List.set_cons_succ]
      refine wpAnyH_take (i := 10) (v := ?_) rfl (by kernel_rfl) (by kernel_rfl) (by kernel_rfl) (fun _ _ _ h => h) (Or.inl ⟨by rfl, ?_⟩) (by assumption) ?_
      rotate_left
      · (intro w hSw; (try dsimp only at hSw); go_simp; try (with_reducible rfl))
      try simp only [Act.put, List.setIfInBounds_toArray, List.set_cons_zero, List.set_cons_succ]
      refine wpAnyH_take (i := 11) (v := ?_) rfl (by kernel_rfl) (by kernel_rfl) (by kernel_rfl) (fun _ _ _ h => h) (Or.inl ⟨by rfl, ?_⟩) (by assumption) ?_
      rotate_left
      · (intro w hSw; (try dsimp only at hSw); go_simp; try (with_reducible rfl))
      try simp only [Act.put, List.setIfInBounds_toArray, List.set_cons_zero, List.set_cons_succ]
      refine wpAnyH_take (i := 14) (v := ?_) rfl (by kernel_rfl) (by kernel_rfl) (by kernel_rfl) (fun _ _ _ h => h) (Or.inl ⟨by rfl, ?_⟩) (by assumption) ?_
      rotate_left
      · (intro w hSw; (try dsimp only at hSw); go_simp; try (with_reducible rfl))
      try simp only [Act.put, List.setIfInBounds_toArray, List.set_cons_zero, List.set_cons_succ]
      refine wpAnyH_ready (rs := [12]) (by kernel_rfl) (by simp) ?_
      refine AllReadyH.cons rfl (fun K hK => ?_) AllReadyH.nil
      go_simp
      refine HEV.out.mono ?_
      rintro e w3 ⟨rfl, hb3⟩
      have ckb3 := (hb3.cell (p := ⟨bb, ob + i, none⟩) hbb).trans hS
      have hb3' := ((Below.refl w2'.heap.size w2').drew).trans hb3
      have HB3 := Lib.hid hb3'
      clear hb3 hb3'
      refine hK.out _ _ (ckb3) (fun hHeld => ?_)
      clear hK K
      try simp only [Act.put, List.setIfInBounds_toArray, List.set_cons_zero, List.set_cons_succ]
      refine wpAnyH_ready (rs := [13]) (by kernel_rfl) (by simp) ?_
      refine AllReadyH.cons rfl (fun K hK => ?_) AllReadyH.nil
      go_simp
      refine (f_Sub p y eo _ hp1 (by omega) (by omega) (by omega) (by omega) (by omega)).mono ?_
      rintro e w' ⟨rfl, rfl⟩
      have es0 := Int.emod_nonneg (y - eo) (show (p : Int) ≠ 0 by omega)
      have es1 := Int.emod_lt_of_pos (y - eo) (show (0 : Int) < p by omega)
      generalize (y - eo) % (p : Int) = es at *
      refine hK.out _ _ (ckb3) (fun hHeld => ?_)
      clear hK K
      try simp only [Act.put, List.setIfInBounds_toArray, List.set_cons_zero, List.set_cons_succ]
      refine wpAnyH_ready (rs := [15]) (by kernel_rfl) (by simp) ?_
      refine AllReadyH.cons rfl (fun K hK => ?_) AllReadyH.nil
      go_simp
      refine (f_MulZ p es iv _ hp1 (by omega) (by omega) (by omega) (by omega) (by omega)).mono ?_
      rintro e w' ⟨rfl, rfl⟩
      have em0 := Int.emod_nonneg (es * iv) (show (p : Int) ≠ 0 by omega)
      have em1 := Int.emod_lt_of_pos (es * iv) (show (0 : Int) < p by omega)
      generalize es * iv % (p : Int) = em at *
      refine hK.out _ _ (ckb3) (fun hHeld => ?_)
      clear hK K
      try simp only [Act.put, List.setIfInBounds_toArray, List.set_cons_zero, List.set_cons_succ]
      refine wpAnyH_ready (rs := [16]) (by kernel_rfl) (by simp) ?_
      refine AllReadyH.cons rfl (fun K hK => ?_) AllReadyH.nil
      go_simp
      refine (HLIN.out em em0 em1 w3 HB3.out).mono ?_
      rintro e w4 ⟨v4, rfl, ho4, hb4⟩
      have hs3 := HB3.out.size
      have HO4 := Lib.hid ho4
      have HB4 := Lib.hid hb4
      have ckb4 := (hb4.cell (p := ⟨bb, ob + i, none⟩) (show bb < w3.heap.size by omega)).trans ckb3
      clear ho4 hb4
      refine hK.out _ _ (ckb4) (fun hHeld => ?_)
      clear hK K
      try simp only [Act.put, List.setIfInBounds_toArray, List.set_cons_zero, List.set_cons_succ]
      refine wpAnyH_done (by kernel_rfl) ?_ _
      refine lastQ_step (by rfl) (by rfl) ?_
      go_simp
      have hbT : Below w2'.heap.size w2' w4 := HB3.out.trans (HB4.out.mono HB3.out.size)
      have hbW : Below w.heap.size w w4 := HBL2.out.trans (hbT.mono HBL2.out.size)
      have hO4 : OwnI w4 w.heap.size v4 (linL p em O Z) := HO4.out.mono (by have := HBL2.out.size; omega)
      have hZ4 := HZ2.out.below hbT
      have fl := InF.of_mem (linL_bd p em O Z hp1)
      have ll := linL_len p em O Z
      have ll2 : (linL p em O Z).length ≤ i + 1 := by omega
      have HBW4 := Lib.hid hbW
      have HOL := Lib.hid hO4
      have HZ4 := Lib.hid hZ4
      have HFL := Lib.hid fl
      clear hbT hbW hO4 hZ4 fl HO4 HB4 HB3 HO2 HZ2 HBL2 HEV HLIN ckb4 ckb3 hHeld hS ll
      generalize linL p em O Z = O' at *
      have h1v := own_one HOL.out
      go_wp2_with fail
      refine (f_Sub p 0 x _ hp1 (by omega) (by omega) (by omega) (by omega) (by omega)).mono ?_
      rintro e w' ⟨rfl, rfl⟩
      have ex0 := Int.emod_nonneg (0 - x) (show (p : Int) ≠ 0 by omega)
      have ex1 := Int.emod_lt_of_pos (0 - x) (show (0 : Int) < p by omega)
      generalize (0 - x) % (p : Int) = nx at *
      go_wp2_with fail
      refine (f_Element p 1 _ hp1 (by omega)).mono ?_
      rintro e w' ⟨rfl, rfl⟩
      rw [H1P.out]
      go_wp2_with fail
      have hfx : InF p [nx, 1] := fun k hk => by
        have : k = 0 ∨ k = 1 := by simp at hk; omega
        rcases this with rfl | rfl
        · exact ⟨ex0, ex1⟩
        · show (0 : Int) ≤ 1 ∧ (1 : Int) < p; omega
      refine (p_Mul' p u10 _ Z [nx, 1] _ _ _ hp1 h2 (HZ4.out.alloc (.cells #[.int .i64 nx, .int .i64 1] 3)).ints (fun q hq => hq.2) (own2 w4 w.heap.size nx 1 HBW4.out.size).ints (fun q hq => hq.2) (by omega) (by simp) (by simp) FZ.out hfx).mono ?_
      rintro e w5 ⟨Z', fz', lz', v5, rfl, ho5, hb5⟩
      have hb6 : Below w4.heap.size w4 w5 := ((Below.refl _ _).alloc (Nat.le_refl _) _).trans (hb5.mono (by simp))
      have ho6 := HOL.out.below hb6
      have hbW5 := HBW4.out.trans (hb6.mono HBW4.out.size)
      have h1v5 := own_one ho5
      have HO5 := Lib.hid (ho5.mono (show w.heap.size ≤ _ by simp; have := HBW4.out.size; omega))
      have HO6 := Lib.hid ho6
      have HB5 := Lib.hid hbW5
      have lz2 : Z'.length ≤ i + 1 + 1 := by simp at lz'; omega
      clear ho5 hb5 hb6 ho6 hbW5 lz'
      go_wp2_with fail
      go_roundw
      case measure => simp [intOf]; omega
      case rel => exact ⟨i + 1, O', Z', by omega, by go_num, HO6.out, HO5.out, HFL.out, fz', ll2, lz2, HB5.out⟩
    · have hi' : i = m := by omega
      subst hi'
      clear ho hz fo fz hbl
      go_wp2_with fail
      refine (p_short _ O _ _ HO.out.ints (fun q hq => hq.2) (by omega)).mono ?_
      rintro e w3 ⟨v2, rfl, ho2, hb2⟩
      have h1c := own_one ho2
      go_wp2_with fail
      go_ret2
      exact ⟨trim O, v2, can_trim FO.out.mem, by rw [trim_len]; have := degN_le O; have := HN.out; omega, rfl, ho2.mono HBL.out.size, HBL.out.trans (hb2.mono HBL.out.size)⟩
end Go.Proofs.YtjfphobfikadlaaGreatDoor

/- Contracts: products of polynomials. -/
import Derived.Test.YtjfphobfikadlaaGreatDoorX10
import Derived.Test.YtjfphobfikadlaaGreatDoorX08
set_option linter.unusedVariables false
set_option linter.unusedSimpArgs false
namespace Go.Proofs.YtjfphobfikadlaaGreatDoor
open Go.RowKit Num

theorem ev_set (x y : Int) : ∀ (l : List Int) (k : Nat), k < l.length → ev (l.set k y) x = ev l x + x ^ k * (y - l.getD k 0) := by
  intro l
  induction l with
  | nil => intro k h; simp at h
  | cons c l ih =>
    intro k h
    cases k with
    | zero => simp [ev]; omega
    | succ k =>
      have := ih k (by simpa using h)
      show c + x * ev (l.set k y) x = c + x * ev l x + x ^ (k + 1) * (y - (c :: l).getD (k + 1) 0)
      rw [this, Int.mul_add, Int.pow_succ, Int.mul_comm (x ^ k) x, Int.mul_assoc, Int.add_assoc]; simp
theorem ev_take_succ (x : Int) (l : List Int) (k : Nat) (h : k < l.length) : ev (l.take (k + 1)) x = ev (l.take k) x + x ^ k * l.getD k 0 := by
  rw [List.take_succ_eq_append_getElem h, ev_snoc, List.length_take, Nat.min_eq_left (by omega), List.getD_eq_getElem?_getD, List.getElem?_eq_getElem h]; rfl
theorem ring3 (T B X Y b y e r q : Int) (h : b = r - e) : T * B + X * (y * q) + (X * Y) * b = (T * B + X * (y * q)) + (X * Y) * (r - e) := by rw [h]
/-- One product more. -/
theorem mul_step {p : Nat} {L : List Int} {T B q x y : Int} {i k : Nat} (z : Int) (hk : i + k < L.length) (h : Cg p (ev L z) (T * B + z ^ i * (x * q))) :
    Cg p (ev (L.set (i + k) ((L.getD (i + k) 0 + x * y % p) % p)) z) (T * B + z ^ i * (x * (q + z ^ k * y))) := by
  rw [ev_set _ _ _ _ hk]
  have h1 : Cg p ((L.getD (i + k) 0 + x * y % p) % p - L.getD (i + k) 0) (x * y) := by
    have h2 : Cg p ((L.getD (i + k) 0 + x * y % p) % p) (L.getD (i + k) 0 + x * y) := Cg.of_emod ((Cg.refl p _).add (Cg.emod p _))
    have h3 := h2.sub (Cg.refl p (L.getD (i + k) 0))
    rwa [show L.getD (i + k) 0 + x * y - L.getD (i + k) 0 = x * y by omega] at h3
  have h4 := h.add ((Cg.refl p (z ^ (i + k))).mul h1)
  have e : T * B + z ^ i * (x * q) + z ^ (i + k) * (x * y) = T * B + z ^ i * (x * (q + z ^ k * y)) := by
    rw [Int.pow_add, Int.mul_add x, Int.mul_add (z ^ i), ← Int.add_assoc]
    congr 1
    rw [Int.mul_assoc]
    congr 1
    rw [← Int.mul_assoc, Int.mul_comm (z ^ k) x, Int.mul_assoc]
  rwa [e] at h4
theorem InF.set {p : Nat} {L : List Int} (h : InF p L) (j : Nat) (y : Int) (h0 : 0 ≤ y) (h1 : y < p) : InF p (L.set j y) := by
  intro k hk
  rw [List.length_set] at hk
  by_cases hj : j < L.length
  · rw [getD_set _ _ _ _ hj]; split
    · exact ⟨h0, h1⟩
    · exact h k hk
  · rw [List.set_eq_of_length_le (by omega)]; exact h k hk
theorem InF.zeros (p n : Nat) (hp : 1 ≤ p) : InF p (List.replicate n 0) := by
  intro k hk
  rw [List.length_replicate] at hk
  rw [List.getD_eq_getElem?_getD, List.getElem?_replicate, if_pos hk]
  exact ⟨Int.le_refl 0, by show (0 : Int) < p; omega⟩
theorem ev_zeros (x : Int) (n : Nat) : ev (List.replicate n 0) x = 0 := by
  have := ev_pad x [] n
  simpa [ev] using this
def MulPost (p : Nat) (a b : List Int) (w : World) (e : Ending) (w' : World) : Prop :=
  ∃ L : List Int, InF p L ∧ L.length = a.length + b.length - 1 ∧ (∀ x, Cg p (ev L x) (ev a x * ev b x)) ∧ OwnPost (trim L) w e w'

set_option maxRecDepth 100000 in
set_option maxHeartbeats 2000000 in
theorem p_Mul (p : Nat) (va vb : Value) (a b : List Int) (S T : Nat → Prop) (w : World) (hp1 : 1 ≤ p) (h2 : p ≤ 1073741824)
    (ha : IntsAt w S va a) (hS : ∀ b, S b → b < w.heap.size) (hb : IntsAt w T vb b) (hT : ∀ b, T b → b < w.heap.size) (la : a.length ≤ 10000) (lb : b.length ≤ 10000) (la0 : 0 < a.length) (lb0 : 0 < b.length) (fa : InF p a) (fb : InF p b) :
    Calls Tryz.prog 168 #[.int .i64 (p : Int), va, vb] w (MulPost p a b w) := by
  obtain ⟨i0, hi, hz0, hz1, hz2⟩ := info_parts infoI
  obtain ⟨A, n, ca, rfl, hn, hnc, hcc⟩ := id ha
  obtain ⟨B, m, cb, rfl, hm, hmc, hcd⟩ := id hb
  have hn1 : n ≤ 10000 := by omega
  have hm1 : m ≤ 10000 := by omega
  have hn0 : 0 < n := by omega
  have hm0 : 0 < m := by omega
  have hnz : ((n : Int) == 0) = false := by simp only [beq_eq_false_iff_ne]; omega
  have hmz : ((m : Int) == 0) = false := by simp only [beq_eq_false_iff_ne]; omega
  have hmx : Tryz.prog.follows .mixedOrders = true := by kernel_rfl
  obtain ⟨M, hM⟩ : ∃ M, n + m - 1 = M := ⟨_, rfl⟩
  have hMi : (n : Int) + (m : Int) - 1 = (M : Int) := by omega
  have hM1 : M ≤ 20000 := by omega
  have hmk := fun (W : World) => run_make (P := Tryz.prog) W 24 3 i0 (.int .i64 0) Tryz.underlying24 hi hz0 .i64 .i64 M M (by omega) (by omega) (by rw [hz2]; omega) (by omega)
  simp only [Int.toNat_natCast, hz1, Nat.mul_one] at hmk
  have hmk2 : ∀ W : World, Sem.run Tryz.prog (Instr.makeSlice 24 (Value.int .i64 ((n : Int) + (m : Int) - 1)) (Value.int .i64 ((n : Int) + (m : Int) - 1))) W = Result.ok (Value.slice (some { block := W.heap.size, off := 0 }) M M) (W.alloc (Obj.cells (madeCells (Value.int .i64 0).cells M) 3)) := fun W => by rw [hMi]; exact hmk W
  have hown := OwnI.made (B := w.heap.size) w M (Nat.le_refl _) (by omega)
  have HOWN := Lib.hid hown
  have HA := Lib.hid ha
  have HB := Lib.hid hb
  have HN := Lib.hid hn
  have HMM := Lib.hid hm
  have HM := Lib.hid hM
  clear ha hb hn hm hM hown hcc hcd hMi hmk
  go_enter Tryz.func168, Tryz.ntmps168
  go_wp2_with fail
  obtain ⟨g, hg⟩ : ∃ g, w.heap.size = g := ⟨_, rfl⟩
  rw [hg]
  have HG := Lib.hid hg
  have hbw0 : Below w.heap.size w (w.alloc (.cells (madeCells #[Value.int .i64 0] M) 3)) := (Below.refl _ _).alloc (Nat.le_refl _) _
  rw [hg] at HOWN
  have HBW0 := Lib.hid hbw0
  clear hbw0 hg
  generalize (w.alloc (.cells (madeCells #[Value.int .i64 0] M) 3)) = w1 at *
  go_loopw [29] (fun t wr => ∃ (i : Nat) (L : List Int), i ≤ n ∧ t = .int .i64 i ∧ OwnI wr g (.slice (some ⟨g, 0, none⟩) M M) L ∧ InF p L ∧ L.length = M ∧ (∀ z, Cg p (ev L z) (ev (a.take i) z * ev b z)) ∧ Below w.heap.size w wr) (fun t _ => n - (intOf t).toNat)
  case atStart => exact ⟨0, List.replicate M 0, by omega, rfl, HOWN.out, InF.zeros p M hp1, by simp, fun z => by rw [ev_zeros]; simp [ev, Cg], HBW0.out⟩
  case round =>
    obtain ⟨i, L, hin, rfl, ho, hf, hl, hcg, hbl⟩ := hrel
    have HO := Lib.hid ho
    have HF := Lib.hid hf
    have HL := Lib.hid hl
    have HCG := Lib.hid hcg
    have HBL := Lib.hid hbl
    by_cases hlt : i < n
    · have hir := HA.out.keep (w' := wr) fun q hq => hbl.block q (hS q hq)
      obtain ⟨A', n', c', hv', e2, e3, hcs⟩ := hir
      injection hv' with v1 v2 v3
      subst v1 v2 v3
      obtain ⟨ba, oa, rfl, _, hca⟩ := hcs hn0
      have cka := hca i hlt
      have fai := fa i (by have := HN.out; omega)
      have hts : ∀ z, ev (a.take (i + 1)) z = ev (a.take i) z + z ^ i * a.getD i 0 := fun z => ev_take_succ z a i (by have := HN.out; omega)
      obtain ⟨x, hx⟩ : ∃ x, a.getD i 0 = x := ⟨_, rfl⟩
      rw [hx] at cka fai
      simp only [hx] at hts
      have HTS := Lib.hid hts
      have qi : (i : Int) < (n : Int) := by omega
      have qi0 : (0 : Int) ≤ (i : Int) := by omega
      clear hx hts ho hf hl hcg hbl hca hcs e2
      go_wp2_with fail
      obtain ⟨wo, hwo⟩ : ∃ wo, wo = wr := ⟨wr, rfl⟩
      subst hwo
      go_loopw [36] (fun t wr => ∃ (k : Nat) (L : List Int), k ≤ m ∧ t = .int .i64 k ∧ OwnI wr g (.slice (some ⟨g, 0, none⟩) M M) L ∧ InF p L ∧ L.length = M ∧ (∀ z, Cg p (ev L z) (ev (a.take i) z * ev b z + z ^ i * (x * ev (b.take k) z))) ∧ Below w.heap.size w wr) (fun t _ => m - (intOf t).toNat)
      case atStart => exact ⟨0, L, by omega, rfl, HO.out, HF.out, HL.out, fun z => by have := HCG.out z; simpa [ev] using this, HBL.out⟩
      case round =>
        obtain ⟨k, L', hkm, rfl, ho, hf, hl, hcg, hbl⟩ := hrel
        have HO := Lib.hid ho
        have HF := Lib.hid hf
        have HL := Lib.hid hl
        have HCG := Lib.hid hcg
        have HBL := Lib.hid hbl
        by_cases hlt2 : k < m
        · have hik : i + k < M := by have := HM.out; omega
          have hir := HB.out.keep (w' := wr) fun q hq => hbl.block q (hT q hq)
          obtain ⟨B', m', c', hv', e2, e3', hcs⟩ := hir
          injection hv' with v1 v2 v3
          subst v1 v2 v3
          obtain ⟨bb, ob, rfl, _, hcb⟩ := hcs hm0
          have ckb := hcb k hlt2
          have fbk := fb k (by have := HMM.out; omega)
          have hts2 : ∀ z, ev (b.take (k + 1)) z = ev (b.take k) z + z ^ k * b.getD k 0 := fun z => ev_take_succ z b k (by have := HMM.out; omega)
          obtain ⟨y, hy⟩ : ∃ y, b.getD k 0 = y := ⟨_, rfl⟩
          rw [hy] at ckb fbk
          simp only [hy] at hts2
          have ckr := ho.cell (i + k) (by rw [hl]; exact hik)
          have fkr := ho.frozen (i + k)
          have frr := hf (i + k) (by rw [hl]; exact hik)
          have hst := fun v => ho.set (i + k) v
          have hsf := fun v h0 h1 => hf.set (i + k) v h0 h1
          have hnew := fun z => mul_step (x := x) (y := y) z (by rw [hl]; exact hik) (hcg z)
          obtain ⟨r, hr⟩ : ∃ r, L'.getD (i + k) 0 = r := ⟨_, rfl⟩
          rw [hr] at ckr frr
          have e0 : (r + x * y % (p : Int)) % (p : Int) = (r + x * y) % (p : Int) := by simp
          simp only [hr, e0] at hnew
          clear e0
          have HTS2 := Lib.hid hts2
          have HST := Lib.hid hst
          have HSF := Lib.hid hsf
          have HNEW := Lib.hid hnew
          have qk : (k : Int) < (m : Int) := by omega
          have qk0 : (0 : Int) ≤ (k : Int) := by omega
          have qs0 : (0 : Int) ≤ (i : Int) + (k : Int) := by omega
          have qs1 : (i : Int) + (k : Int) < (M : Int) := by omega
          have qs2 : ((i : Int) + (k : Int)).toNat = i + k := by omega
          have wik : IntKind.i64.wrap ((i : Int) + (k : Int)) = (i : Int) + (k : Int) := IntWalk.i64_in _ ⟨by omega, by omega⟩
          have m0 := Int.emod_nonneg (x * y) (show (p : Int) ≠ 0 by omega)
          have m1 := Int.emod_lt_of_pos (x * y) (show (0 : Int) < p by omega)
          have s0 := Int.emod_nonneg (r + x * y) (show (p : Int) ≠ 0 by omega)
          have s1 := Int.emod_lt_of_pos (r + x * y) (show (0 : Int) < p by omega)
          clear hy hts2 ho hf hl hcg hbl hcb hcs e2 hr hst hsf hnew
          go_wp2_with fail
          refine wp_region_last_lit _ _ (fun W => W.cell? ⟨g, i + k, none⟩ = some (.int .i64 r)) hmx rfl (by kernel_rfl) ckr (fun hS => ?_)
          simp only [List.dropLast]
          refine wpAnyH_take (i := 0) (v := ?_) rfl (by kernel_rfl) (by kernel_rfl) (by kernel_rfl) (fun _ _ _ h => h) (Or.inl ⟨by rfl, ?_⟩) (by assumption) ?_
          rotate_left
          · (intro w hSw; (try dsimp only at hSw); go_simp; try (with_reducible rfl))
          try simp only [Act.put, List.setIfInBounds_toArray, List.set_cons_zero, List.set_cons_succ]
          refine wpAnyH_take (i := 1) (v := ?_) rfl (by kernel_rfl) (by kernel_rfl) (by kernel_rfl) (fun _ _ _ h => h) (Or.inl ⟨by rfl, ?_⟩) (by assumption) ?_
          rotate_left
          · (intro w hSw; (try dsimp only at hSw); go_simp; try (with_reducible rfl))
          try simp only [Act.put, List.setIfInBounds_toArray, List.set_cons_zero, List.set_cons_succ]
          refine wpAnyH_take (i := 2) (v := ?_) rfl (by kernel_rfl) (by kernel_rfl) (by kernel_rfl) (fun _ _ _ h => h) (Or.inl ⟨by rfl, ?_⟩) (by assumption) ?_
          rotate_left
          · (intro w hSw; (try dsimp only at hSw); go_simp; try (with_reducible rfl))
          try simp only [Act.put, List.setIfInBounds_toArray, List.set_cons_zero, List.set_cons_succ]
          refine wpAnyH_take (i := 3) (v := ?_) rfl (by kernel_rfl) (by kernel_rfl) (by kernel_rfl) (fun _ _ _ h => h) (Or.inl ⟨by rfl, ?_⟩) (by assumption) ?_
          rotate_left
          · (intro w hSw; (try dsimp only at hSw); go_simp; try (with_reducible rfl))
          try simp only [Act.put, List.setIfInBounds_toArray, List.set_cons_zero, List.set_cons_succ]
          refine wpAnyH_take (i := 4) (v := ?_) rfl (by kernel_rfl) (by kernel_rfl) (by kernel_rfl) (fun _ _ _ h => h) (Or.inl ⟨by rfl, ?_⟩) (by assumption) ?_
          rotate_left
          · (intro w hSw; (try dsimp only at hSw); go_simp; try (with_reducible rfl))
          try simp only [Act.put, List.setIfInBounds_toArray, List.set_cons_zero, List.set_cons_succ]
          refine wpAnyH_take (i := 5) (v := ?_) rfl (by kernel_rfl) (by kernel_rfl) (by kernel_rfl) (fun _ _ _ h => h) (Or.inl ⟨by rfl, ?_⟩) (by assumption) ?_
          rotate_left
          · (intro w hSw; (try dsimp only at hSw); go_simp; try (with_reducible rfl))
          try simp only [Act.put, List.setIfInBounds_toArray, List.set_cons_zero, List.set_cons_succ]
          refine wpAnyH_take (i := 6) (v := ?_) rfl (by kernel_rfl) (by kernel_rfl) (by kernel_rfl) (fun _ _ _ h => h) (Or.inl ⟨by rfl, ?_⟩) (by assumption) ?_
          rotate_left
          · (intro w hSw; (try dsimp only at hSw); go_simp; try (with_reducible rfl))
          try simp only [Act.put, List.setIfInBounds_toArray, List.set_cons_zero, List.set_cons_succ]
          refine wpAnyH_take (i := 7) (v := ?_) rfl (by kernel_rfl) (by kernel_rfl) (by kernel_rfl) (fun _ _ _ h => h) (Or.inl ⟨by rfl, ?_⟩) (by assumption) ?_
          rotate_left
          · (intro w hSw; (try dsimp only at hSw); go_simp; try (with_reducible rfl))
          try simp only [Act.put, List.setIfInBounds_toArray, List.set_cons_zero, List.set_cons_succ]
          refine wpAnyH_take (i := 8) (v := ?_) rfl (by kernel_rfl) (by kernel_rfl) (by kernel_rfl) (fun _ _ _ h => h) (Or.inl ⟨by rfl, ?_⟩) (by assumption) ?_
          rotate_left
          · (intro w hSw; (try dsimp only at hSw); go_simp; try (with_reducible rfl))
          try simp only [Act.put, List.setIfInBounds_toArray, List.set_cons_zero, List.set_cons_succ]
          refine wpAnyH_take (i := 9) (v := ?_) rfl (by kernel_rfl) (by kernel_rfl) (by kernel_rfl) (fun _ _ _ h => h) (Or.inl ⟨by rfl, ?_⟩) (by assumption) ?_
          rotate_left
          · (intro w hSw; (try dsimp only at hSw); go_simp; try (with_reducible rfl))
          try simp only [Act.put, List.setIfInBounds_toArray, List.set_cons_zero, List.set_cons_succ]
          refine wpAnyH_take (i := 10) (v := ?_) rfl (by kernel_rfl) (by kernel_rfl) (by kernel_rfl) (fun _ _ _ h => h) (Or.inl ⟨by rfl, ?_⟩) (by assumption) ?_
          rotate_left
          · (intro w hSw; (try dsimp only at hSw); go_simp; try (with_reducible rfl))
          try simp only [Act.put, List.setIfInBounds_toArray, List.set_cons_zero, List.set_cons_succ]
          refine wpAnyH_take (i := 11) (v := ?_) rfl (by kernel_rfl) (by kernel_rfl) (by kernel_rfl) (fun _ _ _ h => h) (Or.inl ⟨by rfl, ?_⟩) (by assumption) ?_
          rotate_left
          · (intro w hSw; (try dsimp only at hSw); go_simp; try (with_reducible rfl))
          try simp only [Act.put, List.setIfInBounds_toArray, List.set_cons_zero, List.set_cons_succ]
          refine wpAnyH_take (i := 12) (v := ?_) rfl (by kernel_rfl) (by kernel_rfl) (by kernel_rfl) (fun _ _ _ h => h) (Or.inl ⟨by rfl, ?_⟩) (by assumption) ?_
          rotate_left
          · (intro w hSw; (try dsimp only at hSw); go_simp; try (with_reducible rfl))
          try simp only [Act.put, List.setIfInBounds_toArray, List.set_cons_zero, List.set_cons_succ]
          refine wpAnyH_take (i := 13) (v := ?_) rfl (by kernel_rfl) (by kernel_rfl) (by kernel_rfl) (fun _ _ _ h => h) (Or.inl ⟨by rfl, ?_⟩) (by assumption) ?_
          rotate_left
          · (intro w hSw; (try dsimp only at hSw); go_simp; try (with_reducible rfl))
          try simp only [Act.put, List.setIfInBounds_toArray, List.set_cons_zero, List.set_cons_succ]
          refine wpAnyH_ready (rs := [14]) (by kernel_rfl) (by simp) ?_
          refine AllReadyH.cons rfl (fun K hK => ?_) AllReadyH.nil
          go_simp
          refine (f_MulZ p x y _ hp1 (by omega) (by omega) (by omega) (by omega) (by omega)).mono ?_
          rintro e w' ⟨rfl, rfl⟩
          refine hK.out _ _ (hS) (fun hHeld => ?_)
          clear hK K
          try simp only [Act.put, List.setIfInBounds_toArray, List.set_cons_zero, List.set_cons_succ]
          refine wpAnyH_ready (rs := [15]) (by kernel_rfl) (by simp) ?_
          refine AllReadyH.cons rfl (fun K hK => ?_) AllReadyH.nil
          go_simp
          refine (f_AddI p r _ _ hp1 (by omega) (by omega) (by omega) (by omega) (by omega)).mono ?_
          rintro e w' ⟨rfl, rfl⟩
          refine hK.out _ _ (hS) (fun hHeld => ?_)
          clear hK K
          try simp only [Act.put, List.setIfInBounds_toArray, List.set_cons_zero, List.set_cons_succ]
          refine wpAnyH_take (i := 16) (v := ?_) rfl (by kernel_rfl) (by kernel_rfl) (by kernel_rfl) (fun _ _ _ h => h) (Or.inl ⟨by rfl, ?_⟩) (by assumption) ?_
          rotate_left
          · (intro w hSw; (try dsimp only at hSw); go_simp; try (with_reducible rfl))
          try simp only [Act.put, List.setIfInBounds_toArray, List.set_cons_zero, List.set_cons_succ]
          refine wpAnyH_done (by kernel_rfl) ?_ _
          refine lastQ_step (by rfl) (by rfl) ?_
          go_simp
          go_wp2_with fail
          go_roundw
          case measure => simp [intOf]; omega
          case rel => exact ⟨k + 1, L'.set (i + k) ((r + x * y) % p), by omega, by go_num, HST.out _, HSF.out _ s0 s1, by rw [List.length_set]; exact HL.out, fun z => by rw [HTS2.out]; exact HNEW.out z, (HBL.out.setCell (p := ⟨g, i + k, none⟩) (by rw [HG.out]; exact Nat.le_refl g) _).drew⟩
        · have hk' : k = m := by omega
          subst hk'
          clear ho hf hl hcg hbl
          go_wp2_with fail
          go_roundw
          case measure => simp [intOf]; omega
          case rel =>
            refine ⟨i + 1, L', by omega, by go_num, HO.out, HF.out, HL.out, fun z => ?_, HBL.out⟩
            have h := HCG.out z
            rw [show b.take k = b from List.take_of_length_le (by have := HMM.out; omega)] at h
            rw [HTS.out, Int.add_mul, Int.mul_assoc]
            exact h
    · have hi' : i = n := by omega
      subst hi'
      clear ho hf hl hcg hbl
      go_wp2_with fail
      refine (p_short _ L _ _ HO.out.ints (fun q hq => hq.2) (by have := HL.out; omega)).mono ?_
      rintro e w2 ⟨v2, rfl, ho2, hb2⟩
      have h1c := own_one ho2
      go_wp2_with fail
      go_ret
      refine ⟨L, HF.out, by rw [HL.out, ← HN.out, ← HMM.out]; exact HM.out.symm, fun z => ?_, _, rfl, ho2.mono HBL.out.size, HBL.out.trans (hb2.mono HBL.out.size)⟩
      have h := HCG.out z
      rwa [List.take_of_length_le (by have := HN.out; omega)] at h
end Go.Proofs.YtjfphobfikadlaaGreatDoor

/- Contracts: the statement OrderBatches. -/
import Derived.Test.YthfmmememdlekaaDoorOrAwk
set_option linter.unusedVariables false
set_option linter.unusedSimpArgs false
namespace Go.Proofs.YthfmmememdlekaaDoor
open Go.RowKit Num

theorem o_BatchesI (zi : Int) (A : Option Addr) (b off len cap z : Nat) (ds : Nat → Int) (w : World) (hzi : zi = (z : Int)) (hz : 1 ≤ z) (hz2 : z ≤ 256) (hlen : len ≤ 256) (hlc : len ≤ cap) (hA : 0 < len → A = some ⟨b, off, none⟩) (hb : b < w.heap.size) (hst : ∀ i, i < len → StmAt w b (off + i * 6) (ds i)) :
    Calls Tryd.prog 13 #[.slice A len cap, .int .i64 zi] w (BatE len z ds w) := by
  subst hzi
  exact o_Batches A b off len cap z ds w hz hz2 hlen hlc hA hb hst
def dayC (k : Nat) : List Value := [.string ⟨#[]⟩, .int .i64 0, .int .i64 (k : Int), .slice none 0 0, .slice none 0 0, .slice none 0 0]
def daysC (n : Nat) : List Value := ((List.range n).map dayC).flatten
theorem daysC_succ (n : Nat) : daysC (n + 1) = daysC n ++ dayC n := by simp [daysC, List.range_succ]
theorem daysC_len (n : Nat) : (daysC n).length = n * 6 := by
  induction n with
  | zero => rfl
  | succ n ih => rw [daysC_succ, List.length_append, ih]; simp [dayC]; omega
theorem daysC_get (n k j : Nat) (hk : k < n) (hj : j < 6) : (daysC n)[k * 6 + j]? = (dayC k)[j]? := by
  induction n with
  | zero => omega
  | succ n ih =>
    rw [daysC_succ]
    by_cases e : k < n
    · rw [List.getElem?_append_left (by rw [daysC_len]; omega)]; exact ih e
    · obtain rfl : k = n := by omega
      rw [List.getElem?_append_right (by rw [daysC_len]; omega), daysC_len, show k * 6 + j - k * 6 = j by omega]
theorem own_cap {W : World} {B : Nat} {e : TypeId} {s n c : Nat} {A : Option Addr} {xs : List Value} (h : W.ownsRow B e s (.slice A n c) n xs) : n ≤ c := by
  rcases h.2 with ⟨h, _⟩ | ⟨g, cap, cur, h, _, _, hc, _⟩
  · injection h with _ h1 h2; omega
  · injection h with _ _ h; omega
set_option maxRecDepth 100000 in
set_option maxHeartbeats 4000000 in
theorem f_batches (n sz : Nat) (w : World) (hn : n < 256) (hsz : sz < 256) (h6 : 0 < w.heap.size) : Calls Tryd.prog 6 #[.int .u8 (n : Int), .int .u8 (sz : Int)] w (AwkO w) := by
  obtain ⟨i0, hi, hz0, hz1, hz2⟩ := info_parts infoSt
  go_enter Tryd.func6, Tryd.ntmps6
  go_wp2_with fail
  go_loopw [5, 6] (fun v5 v6 wr => ∃ (i : Nat) (A : Option Addr) (c : Nat), i ≤ n ∧ v6 = .int .i64 (i : Int) ∧ v5 = .slice A i c ∧ wr.ownsRow w.heap.size 44 6 v5 i (daysC i) ∧ Below w.heap.size w wr) (fun _ v6 _ => n - (intOf v6).toNat)
  case atStart => exact ⟨0, none, 0, by omega, rfl, rfl, World.ownsRow_nil _ _ _ _, Below.refl _ _⟩
  case round =>
    obtain ⟨i, A, c, hin, rfl, rfl, ho, hb⟩ := hrel
    have HO := Lib.hid ho
    have HB := Lib.hid hb
    have hs := hb.size
    clear ho hb
    by_cases hlt : i < n
    · have zi : (i : Int) < (n : Int) := by omega
      go_wp2_with (at_builtin; refine wpList_append_own_at _ rfl _ _ 40 rfl w.heap.size 44 i0 (.agg #[.string ⟨#[]⟩, .int .i64 0, .int .i64 0, .slice none 0 0, .slice none 0 0, .slice none 0 0]) 6 104 Tryd.underlying40 hi hz0 hz1 hz2 rfl (by decide) _ _ _ rfl (HO.out.alloc _) ⟨wr.heap.size, 0, none⟩ 1 1 (dayC i) rfl rfl (by exact cell_six_new _ _ _ _ _ _ _ _) (by intro u hu; simp [dayC] at hu; rcases hu with rfl | rfl | rfl | rfl | rfl | rfl <;> rfl) (by unfold maxLen; omega) (by omega) (by simp; omega) ?_)
      intro v2 w2 hown2 hgrow2 _ _
      obtain ⟨A6, c6, rfl⟩ := own_slice hown2
      have hb3 : Below w.heap.size w w2 := HB.out.trans (((Below.refl w.heap.size wr).alloc hs _).grown hgrow2 (by simp; omega) (fun g hg => (HO.out.lt g hg).1))
      rw [← daysC_succ] at hown2
      have HO2 := Lib.hid hown2
      have HB3 := Lib.hid hb3
      clear hown2 hgrow2 hb3
      go_wp2_with fail
      go_roundw
      case measure => simp [intOf]; omega
      case rel => exact ⟨i + 1, A6, c6, by omega, by go_num, rfl, HO2.out, HB3.out⟩
    · obtain rfl : i = n := by omega
      have zi : ¬ (i : Int) < (i : Int) := by omega
      have hcap := own_cap HO.out
      obtain ⟨b, hbl, hA, hst⟩ : ∃ b, b < wr.heap.size ∧ (0 < i → A = some ⟨b, 0, none⟩) ∧ ∀ k, k < i → StmAt wr b (0 + k * 6) (k : Int) := by
        rcases Nat.eq_zero_or_pos i with h0 | h0
        · exact ⟨0, by omega, fun h => absurd h (by omega), fun k hk => absurd hk (by omega)⟩
        · obtain ⟨g, gc, hA, hg, hgl⟩ := World.ownsRow.form HO.out h0
          injection hA with hA _ _
          subst hA
          refine ⟨g, hgl, fun _ => rfl, fun k hk => ?_⟩
          rw [Nat.zero_add]
          have cc := fun (j : Nat) (hj : j < 6) (u : Value) (hu : (dayC k)[j]? = some u) => own_cell HO.out (k * 6 + j) u (by rw [daysC_get _ _ _ hk hj]; exact hu)
          exact ⟨⟨#[]⟩, 0, none, 0, 0, cc 0 (by omega) _ rfl, cc 1 (by omega) _ rfl, cc 2 (by omega) _ rfl, cc 3 (by omega) _ rfl, cc 4 (by omega) _ rfl, cc 5 (by omega) _ rfl, fun h => absurd h (by omega), by omega⟩
      have HST := Lib.hid hst
      have HA := Lib.hid hA
      clear hst hA zi
      go_wp2_with fail
      refine (o_BatchesI _ A b 0 i c (1 + sz) (fun k => (k : Int)) wr (by omega) (by omega) (by omega) (by omega) hcap HA.out hbl HST.out).mono ?_
      rintro e w2 ⟨v, outs, xs, rfl, hv, hx, hb2⟩
      obtain ⟨Av, cv, rfl⟩ := own_slice hv
      have HV := Lib.hid hv
      have HX := Lib.hid hx
      have HB2 := Lib.hid (HB.out.trans (hb2.mono hs))
      clear hv hx hb2 HST HA HO HB hbl
      obtain ⟨q, hq⟩ : ∃ q, chQ i (1 + sz) = q := ⟨_, rfl⟩
      rw [hq] at HV HX ⊢
      have hqk : ∀ k, k < q ↔ k * (1 + sz) < i := fun k => by rw [← hq]; exact chQ_lt (by omega)
      have HQK := Lib.hid hqk
      clear hqk hq
      have hq256 : q ≤ 256 := by
        rcases Nat.lt_or_ge 256 q with h | h
        · have h1 := (HQK.out 256).1 h
          rw [Nat.mul_add] at h1
          omega
        · exact h
      go_wp2_with fail
      go_loopw [9, 10, 11] (fun v9 v10 _ wq => ∃ j : Nat, j ≤ q ∧ v10 = .int .i64 (j : Int) ∧ v9 = .int .i64 ((min (j * (1 + sz)) i : Nat) : Int) ∧ w2 = wq) (fun _ v10 _ _ => q - (intOf v10).toNat)
      case atStart => exact ⟨0, by omega, rfl, by simp, rfl⟩
      case round =>
        obtain ⟨j, hj, rfl, rfl, rfl⟩ := hrel
        by_cases hjq : j < q
        · have hji := (HQK.out j).1 hjq
          obtain ⟨a, ha⟩ : ∃ a, j * (1 + sz) = a := ⟨_, rfl⟩
          have hsucc : (j + 1) * (1 + sz) = a + (1 + sz) := by rw [Nat.succ_mul, ha]
          rw [ha] at hji
          obtain ⟨m, hm⟩ : ∃ m, chM i (1 + sz) j = m := ⟨_, rfl⟩
          have hmm : m = min (1 + sz) (i - a) := by rw [← hm]; unfold chM; rw [ha]
          obtain ⟨hrow, hday⟩ := HX.out j hjq
          rw [hm] at hrow hday
          obtain ⟨g, gc, ho1, hgl1, hgl2⟩ := World.ownsRow.form hrow (by omega)
          obtain ⟨gv, gvc, hA1, hgv1, hgv2⟩ := World.ownsRow.form HV.out (by omega)
          injection hA1 with hA1 _ _
          have HV2 := HV.out
          rw [hA1] at HV2
          have k0 := own_cell HV2 j (outs j) (by rw [List.getElem?_map, List.getElem?_range hjq]; rfl)
          rw [ho1] at k0
          rw [ho1] at hrow
          have hmin : min a i = a := by omega
          have hlast : j + 1 < q → m = 1 + sz := fun h => by
            have h1 := (HQK.out (j + 1)).1 h
            omega
          have hnext : min ((j + 1) * (1 + sz)) i = a + m := by rw [hsucc]; omega
          have dc : ∀ k, k < m → w2.cell? ⟨g, k * 6 + 2, none⟩ = some (.int .i64 ((a : Int) + (k : Int))) := fun k hk => by
            have h1 := own_cell hrow (k * 6 + 2) _ (hday k hk)
            rw [h1, ha]; congr 2 <;> omega
          have m1 : 1 ≤ m := by omega
          have m2 : m ≤ 1 + sz := by omega
          have ha9 : a ≤ 256 := by omega
          have HDC := Lib.hid dc
          have HNXT := Lib.hid hnext
          have HLAST := Lib.hid hlast
          subst hA1
          rw [ha, hmin]
          have z1 : (j : Int) < (q : Int) := by omega
          have z0 : (0 : Int) ≤ (j : Int) := by omega
          have b1 : ((m : Int) == 0) = false := by rw [beq_eq_false_iff_ne]; omega
          have b2 : ¬ (m : Int) = 0 := by omega
          have b3 : ¬ (1 + (sz : Int)) < (m : Int) := by omega
          clear hsucc hmm hrow hday ho1 hgl1 hgl2 hgv1 hgv2 HV2 hmin hlast hnext dc ha hm hji
          by_cases hj1 : j + 1 < q
          · have e1 : ((j : Int) + 1) < (q : Int) := by omega
            have hme := HLAST.out hj1
            have b4 : ((m : Int) != 1 + (sz : Int)) = false := by simp; omega
            clear hj1
            have HME := Lib.hid hme
            clear hme
            go_wp2_with fail
            go_loopw [9, 11] (fun v9 v11 wq => ∃ k : Nat, k ≤ m ∧ v11 = .int .i64 (k : Int) ∧ v9 = .int .i64 ((a : Int) + (k : Int)) ∧ w2 = wq) (fun _ v11 _ => m - (intOf v11).toNat)
            case atStart => exact ⟨0, by omega, rfl, by simp, rfl⟩
            case round =>
              obtain ⟨k, hk, rfl, rfl, rfl⟩ := hrel
              by_cases hkm : k < m
              · have d0 := HDC.out k hkm
                have z2 : (k : Int) < (m : Int) := by omega
                have z3 : (0 : Int) ≤ (k : Int) := by omega
                go_wp2_with fail
                go_roundw
                case measure => simp [intOf]; omega
                case rel => exact ⟨k + 1, by omega, by go_num, by first | (congr 1; done) | (congr 1; omega), by first | rfl | trivial⟩
              · have hkm2 : k = m := by omega
                have z2 : ¬ (k : Int) < (m : Int) := by omega
                have HKM := Lib.hid hkm2
                clear hkm2
                go_wp2_with fail
                go_roundw
                case measure => simp [intOf]; omega
                case rel =>
                  refine ⟨_, .int .i64 ((a : Int) + (k : Int)), .int .i64 ((j : Int) + 1), ⟨j + 1, by omega, by go_num, ?_⟩, rfl, rfl, rfl⟩
                  rw [HNXT.out, HKM.out]; first | rfl | (congr 1; done) | (congr 1; omega)
          · have e1 : ¬ ((j : Int) + 1) < (q : Int) := by omega
            go_wp2_with fail
            go_loopw [9, 11] (fun v9 v11 wq => ∃ k : Nat, k ≤ m ∧ v11 = .int .i64 (k : Int) ∧ v9 = .int .i64 ((a : Int) + (k : Int)) ∧ w2 = wq) (fun _ v11 _ => m - (intOf v11).toNat)
            case atStart => exact ⟨0, by omega, rfl, by simp, rfl⟩
            case round =>
              obtain ⟨k, hk, rfl, rfl, rfl⟩ := hrel
              by_cases hkm : k < m
              · have d0 := HDC.out k hkm
                have z2 : (k : Int) < (m : Int) := by omega
                have z3 : (0 : Int) ≤ (k : Int) := by omega
                go_wp2_with fail
                go_roundw
                case measure => simp [intOf]; omega
                case rel => exact ⟨k + 1, by omega, by go_num, by first | (congr 1; done) | (congr 1; omega), by first | rfl | trivial⟩
              · have hkm2 : k = m := by omega
                have z2 : ¬ (k : Int) < (m : Int) := by omega
                have HKM := Lib.hid hkm2
                clear hkm2
                go_wp2_with fail
                go_roundw
                case measure => simp [intOf]; omega
                case rel =>
                  refine ⟨_, .int .i64 ((a : Int) + (k : Int)), .int .i64 ((j : Int) + 1), ⟨j + 1, by omega, by go_num, ?_⟩, rfl, rfl, rfl⟩
                  rw [HNXT.out, HKM.out]; first | rfl | (congr 1; done) | (congr 1; omega)
        · obtain rfl : j = q := by omega
          have z1 : ¬ (j : Int) < (j : Int) := by omega
          have hend : min (j * (1 + sz)) i = i := by
            have h9 : ¬ j * (1 + sz) < i := fun h => absurd ((HQK.out j).2 h) (by omega)
            omega
          rw [hend]
          have HEND := Lib.hid hend
          clear hend
          go_wp2_with fail
          refine (o_awake _).mono ?_
          rintro e w3 ⟨rfl, hb3⟩
          have HB3 := Lib.hid (HB2.out.trans (hb3.mono HB2.out.size))
          clear hb3
          go_wp2_with fail
          go_ret
          exact ⟨rfl, HB3.out⟩
end Go.Proofs.YthfmmememdlekaaDoor

/- The contract of the kit's Lie for any number of liars: no more than there are shares. -/
import Derived.Test.YtjfphobfikadlaaDoorN20
set_option linter.unusedVariables false
set_option linter.unusedSimpArgs false
namespace Go.Proofs.YtjfphobfikadlaaDoor
open Go.RowKit Num

set_option maxRecDepth 100000 in
set_option maxHeartbeats 8000000 in
theorem k_LieM (d p m mny many : Nat) (v : Value) (L : List Sh) (S : Nat → Prop) (w : World) (hd : Dc w d) (p2 : 2 ≤ p) (h2 : p ≤ 1073741824) (hv : ShAt w S v L) (hS : ∀ b, S b → b < w.heap.size) (l0 : 0 < L.length) (l1 : L.length ≤ 16) (m0 : 0 < m) (m1 : m ≤ 1000) (hmy0 : many = min mny L.length)
    (hh : ∀ k, k < L.length → 0 ≤ (shAt L k).1 ∧ (shAt L k).1 ≤ 16) (hvl : ∀ k, k < L.length → (shAt L k).2.length = m) (hin : ∀ k, k < L.length → InF p (shAt L k).2) :
    Calls Tryd.prog 15 #[.pointer (some ⟨d, 0, none⟩), .int .i64 (p : Int), v, .int .i64 (mny : Int)] w (LiePost d p m many L w) := by
  have hmx : Tryd.prog.follows .mixedOrders = true := by kernel_rfl
  obtain ⟨i0, hi0, hz0, hz1, hz2⟩ := info_parts infoI
  have hlt := hd.lt
  have hcp := r_CopyA v L S w hv hS (by omega) (fun k hk => by rw [hvl k hk]; omega)
  obtain ⟨n, hn⟩ : ∃ n, L.length = n := ⟨_, rfl⟩
  have hI0 : LieI p m L L 0 := ⟨rfl, fun _ _ => rfl, hvl, hin, fun _ _ _ => rfl, fun k hk => absurd hk (Nat.not_lt_zero k)⟩
  rw [hn] at l0 l1 hmy0 hh
  have hmany : many ≤ n := by omega
  have HMY := Lib.hid hmy0
  clear hmy0
  have HCP := Lib.hid hcp
  have HD := Lib.hid hd
  have HH := Lib.hid hh
  have HN := Lib.hid hn
  have HI0 := Lib.hid hI0
  have hn2 := fun (W : World) (h : Dc W d) => k_Next d 2 W h (by omega) (by omega)
  have hnp : ∀ (W : World), Dc W d → Calls Tryd.prog 16 #[.pointer (some ⟨d, 0, none⟩), .int .i64 ((p : Int) - 1)] W (NextPost d (p - 1) W) := fun W h => by
    have := k_Next d (p - 1) W h (by omega) (by omega)
    rwa [show ((p - 1 : Nat) : Int) = (p : Int) - 1 by omega] at this
  have HN2 := Lib.hid hn2
  have HNP := Lib.hid hnp
  clear hcp hd hh hn hI0 hv hS hvl hin hn2 hnp
  go_enter Tryd.func15, Tryd.ntmps15
  go_wp2_with fail
  refine HCP.out.mono ?_
  rintro e w1 ⟨v1, rfl, ⟨cells, gs, cs, hv⟩, hb1⟩
  change OwnShG w1 _ v1 L cells gs cs at hv
  have hs1 := hb1.size
  obtain ⟨g, cap, hveq, hcap, hBg, hgl, _⟩ := hv.form (by rw [HN.out]; exact l0)
  rw [HN.out] at hveq hcap
  subst hveq
  have hgsl : ∀ k, k < n → gs k < w1.heap.size ∧ w.heap.size ≤ gs k := fun k hk => by have := (hv.2 k (by rw [HN.out]; exact hk)).2.2.1.lt; omega
  have hg1 : w.grownBy w1 (some d) := only_of_below hb1 _
  have hd1 := HD.out.below hb1 hlt
  have HV := Lib.hid hv
  have HGS := Lib.hid hgsl
  have HG1 := Lib.hid hg1
  have HD1 := Lib.hid hd1
  clear hv hgsl hg1 hd1 hb1 HCP
  go_wp2_with fail
  go_loopw [11] (fun t wr => ∃ (i : Nat) (L' : List Sh), i ≤ many ∧ t = .int .i64 (i : Int) ∧ LieI p m L L' i ∧ OwnShG wr w.heap.size (.slice (some ⟨g, 0, none⟩) n cap) L' cells gs cs ∧ ArrV wr w1.heap.size 17 (seenV L (min i many)) ∧ Dc wr d ∧ w.grownBy wr (some d) ∧ w1.heap.size < wr.heap.size) (fun t _ => many - (Go.RowKit.intOf t).toNat)
  case atStart =>
    refine ⟨0, L, by omega, rfl, HI0.out, HV.out.below ((Below.refl _ _).alloc (Nat.le_refl _) _), ⟨fun j hj => ?_, fun j hj => World.frozen?_alloc_new _ _ _ _⟩, HD1.out.alloc _, HG1.out.trans (World.grownBy_alloc w1 _ _), by simp⟩
    rw [World.cell?_alloc_new, Nat.zero_min]
    have e : seenV L 0 j = .bool false := by unfold seenV; exact congrArg Value.bool (decide_eq_false (fun ⟨i, hi, _⟩ => Nat.not_lt_zero i hi))
    rw [e]
    have : ∀ j : Nat, j < 17 → (Array.replicate 17 (Value.bool false))[j]? = some (.bool false) := fun j hj => by rw [Array.getElem?_eq_getElem (by simp; exact hj)]; simp
    exact this j hj
  case round =>
    rename World => wo
    obtain ⟨i, L', him, rfl, hI, hO, hA, hD, hG, hsz⟩ := hrel
    have HI := Lib.hid hI
    have HO := Lib.hid hO
    have HA := Lib.hid hA
    have HDO := Lib.hid hD
    have HGO := Lib.hid hG
    clear hI hO hA hD hG
    by_cases hlm : i < many
    · have qi : (i : Int) < (mny : Int) := by have := HMY.out; omega
      have qi1 : i < mny := by omega
      have qn : (i : Int) < (n : Int) := by omega
      have qi0 : (0 : Int) ≤ (i : Int) := by omega
      have hin : i < n := by omega
      have hiL : i < L.length := by rw [HN.out]; exact hin
      have hc1 := (HO.out.hdr (k := i) (by rw [HI.out.len]; exact hiL)).2
      rw [HI.out.vlen i hiL] at hc1
      have HIL := Lib.hid hiL
      clear hiL
      go_wp2_with fail
      clear hc1
      go_loopw [35] (fun t wr => ∃ (q : Nat) (LJ : List Sh), q ≤ m ∧ t = .int .i64 (q : Int) ∧ LieJ p m L LJ i q ∧ OwnShG wr w.heap.size (.slice (some ⟨g, 0, none⟩) n cap) LJ cells gs cs ∧ ArrV wr w1.heap.size 17 (seenV L (min i many)) ∧ Dc wr d ∧ w.grownBy wr (some d) ∧ w1.heap.size < wr.heap.size) (fun t _ => m - (Go.RowKit.intOf t).toNat)
      case atStart => exact ⟨0, L', by omega, rfl, HI.out.toJ HIL.out, HO.out, HA.out, HDO.out, HGO.out, hsz⟩
      case round =>
        obtain ⟨q, LJ, hqm, rfl, hJ, hO2, hA2, hD2, hG2, hsz2⟩ := hrel
        have HJ := Lib.hid hJ
        have HO2 := Lib.hid hO2
        have HA2 := Lib.hid hA2
        have HD2 := Lib.hid hD2
        have HG2 := Lib.hid hG2
        clear hJ hO2 hA2 hD2 hG2
        by_cases hlq : q < m
        · have qq : (q : Int) < (m : Int) := by omega
          have qq0 : (0 : Int) ≤ (q : Int) := by omega
          by_cases hq0 : q = 0
          case pos =>
            have t0 : ((q : Int) == 0) = true := by simp; omega
            have HQ0 := Lib.hid hq0
            clear hq0
            go_wp2_with fail
            rename World => w5
            have HO5 := HO2
            have HA5 := HA2
            have HD5 := HD2
            have HG5 := HG2
            have hsz5 := hsz2
            clear HO2 HA2 HD2 HG2
            have hiL := HIL.out
            have hiLJ : i < LJ.length := by rw [HJ.out.len]; exact hiL
            have hc1 := (HO5.out.hdr hiLJ).2
            rw [HJ.out.vlen i hiL] at hc1
            have hov := (HO5.out.2 i hiLJ).2.2.1
            have hvb := HJ.out.inF i hiL q (by rw [HJ.out.vlen i hiL]; exact hlq)
            have hcv := hov.cell q (by rw [HJ.out.vlen i hiL]; exact hlq)
            have hfv := hov.frozen q
            have hgi := HGS.out i hin
            obtain ⟨V0, hV0⟩ : ∃ V0, (shAt LJ i).2.getD q 0 = V0 := ⟨_, rfl⟩
            rw [hV0] at hcv hvb
            have mk : ∀ W : World, Dc W d → w5.grownBy W (some d) → W.cell? ⟨g, i * 2 + 1, none⟩ = some (.slice (some ⟨gs i, 0, none⟩) m (cs i)) ∧ W.cell? ⟨gs i, q, none⟩ = some (.int .i64 V0) ∧ W.frozen? ⟨gs i, q, none⟩ = false ∧ Hid (Dc W d ∧ w5.grownBy W (some d)) := fun W h1 h2 =>
              ⟨(World.cell?_of_block (a := ⟨g, i * 2 + 1, none⟩) (h2.block g (by omega) (by simp; omega))).trans hc1, (World.cell?_of_block (a := ⟨gs i, q, none⟩) (h2.block (gs i) (by omega) (by simp; omega))).trans hcv, (World.frozen?_of_block (a := ⟨gs i, q, none⟩) (h2.block (gs i) (by omega) (by simp; omega))).trans hfv, Lib.hid ⟨h1, h2⟩⟩
            have MK := Lib.hid mk
            have HV0 := Lib.hid hV0
            have wv1 : IntKind.i64.wrap (V0 + 1) = V0 + 1 := IntWalk.i64_in _ ⟨by omega, by omega⟩
            have wp1 : IntKind.i64.wrap ((p : Int) - 1) = (p : Int) - 1 := IntWalk.i64_in _ ⟨by omega, by omega⟩
            have hp0 : ¬ p = 0 := by omega
            have hp0' : ¬ (p : Int) = 0 := by omega
            have hgi1 := hgi.1
            have hgi2 := hgi.2
            clear hiL hiLJ hc1 hov hcv hfv hgi hV0 mk
            refine wp_region_last_lit _ _ (fun W => W.cell? ⟨g, i * 2 + 1, none⟩ = some (.slice (some ⟨gs i, 0, none⟩) m (cs i)) ∧ W.cell? ⟨gs i, q, none⟩ = some (.int .i64 V0) ∧ W.frozen? ⟨gs i, q, none⟩ = false ∧ Hid (Dc W d ∧ w5.grownBy W (some d))) hmx rfl (by kernel_rfl) (MK.out _ HD5.out.drew (only_drewN (World.grownBy.refl w5 _) 1)) (fun hS => ?_)
            simp only [List.dropLast]
            refine wpAnyH_take (i := 0) (v := ?_) rfl (by kernel_rfl) (by kernel_rfl) (by kernel_rfl) (fun _ _ _ h => h) (Or.inl ⟨by rfl, ?_⟩) (by assumption) ?_
            rotate_left
            · (intro w hSw; (try dsimp only at hSw); go_simp; try (with_reducible rfl))
            try simp only [Act.put, List.setIfInBounds_toArray, List.set_cons_zero, List.set_cons_succ]
            refine wpAnyH_take (i := 1) (v := ?_) rfl (by kernel_rfl) (by kernel_rfl) (by kernel_rfl) (fun _ _ _ h => h) (Or.inl ⟨by rfl, ?_⟩) (by assumption) ?_
            rotate_left
            · (intro w hSw; (try dsimp only at hSw); go_simp; try (with_reducible rfl))
            try simp only [Act.put, List.setIfInBounds_toArray, List.set_cons_zero, List.set_cons_succ]
            refine wpAnyH_take (i := 2) (v := ?_) rfl (by kernel_rfl) (by kernel_rfl) (by kernel_rfl) (fun _ _ _ h => h) (Or.inl ⟨by rfl, ?_⟩) (by assumption) ?_
            rotate_left
            · (intro w hSw; (try dsimp only at hSw); go_simp; try (with_reducible rfl))
            try simp only [Act.put, List.setIfInBounds_toArray, List.set_cons_zero, List.set_cons_succ]
            refine wpAnyH_take (i := 3) (v := ?_) rfl (by kernel_rfl) (by kernel_rfl) (by kernel_rfl) (fun _ _ _ h => h) (Or.inl ⟨by rfl, ?_⟩) (by assumption) ?_
            rotate_left
            · (intro w hSw; (try dsimp only at hSw); go_simp; try (with_reducible rfl))
            try simp only [Act.put, List.setIfInBounds_toArray, List.set_cons_zero, List.set_cons_succ]
            refine wpAnyH_take (i := 4) (v := ?_) rfl (by kernel_rfl) (by kernel_rfl) (by kernel_rfl) (fun _ _ _ h => h) (Or.inl ⟨by rfl, ?_⟩) (by assumption) ?_
            rotate_left
            · (intro w hSw; (try dsimp only at hSw); go_simp; try (with_reducible rfl))
            try simp only [Act.put, List.setIfInBounds_toArray, List.set_cons_zero, List.set_cons_succ]
            refine wpAnyH_take (i := 5) (v := ?_) rfl (by kernel_rfl) (by kernel_rfl) (by kernel_rfl) (fun _ _ _ h => h) (Or.inl ⟨by rfl, ?_⟩) (by assumption) ?_
            rotate_left
            · (intro w hSw; (try dsimp only at hSw); go_simp; try (with_reducible rfl))
            try simp only [Act.put, List.setIfInBounds_toArray, List.set_cons_zero, List.set_cons_succ]
            refine wpAnyH_take (i := 6) (v := ?_) rfl (by kernel_rfl) (by kernel_rfl) (by kernel_rfl) (fun _ _ _ h => h) (Or.inl ⟨by rfl, ?_⟩) (by assumption) ?_
            rotate_left
            · (intro w hSw; (try dsimp only at hSw); go_simp; try (with_reducible rfl))
            try simp only [Act.put, List.setIfInBounds_toArray, List.set_cons_zero, List.set_cons_succ]
            refine wpAnyH_take (i := 7) (v := ?_) rfl (by kernel_rfl) (by kernel_rfl) (by kernel_rfl) (fun _ _ _ h => h) (Or.inl ⟨by rfl, ?_⟩) (by assumption) ?_
            rotate_left
            · (intro w hSw; (try dsimp only at hSw); go_simp; try (with_reducible rfl))
            try simp only [Act.put, List.setIfInBounds_toArray, List.set_cons_zero, List.set_cons_succ]
            refine wpAnyH_take (i := 8) (v := ?_) rfl (by kernel_rfl) (by kernel_rfl) (by kernel_rfl) (fun _ _ _ h => h) (Or.inl ⟨by rfl, ?_⟩) (by assumption) ?_
            rotate_left
            · (intro w hSw; (try dsimp only at hSw); go_simp; try (with_reducible rfl))
            try simp only [Act.put, List.setIfInBounds_toArray, List.set_cons_zero, List.set_cons_succ]
            refine wpAnyH_take (i := 9) (v := ?_) rfl (by kernel_rfl) (by kernel_rfl) (by kernel_rfl) (fun _ _ _ h => h) (Or.inl ⟨by rfl, ?_⟩) (by assumption) ?_
            rotate_left
            · (intro w hSw; (try dsimp only at hSw); go_simp; try (with_reducible rfl))
            try simp only [Act.put, List.setIfInBounds_toArray, List.set_cons_zero, List.set_cons_succ]
            refine wpAnyH_take (i := 10) (v := ?_) rfl (by kernel_rfl) (by kernel_rfl) (by kernel_rfl) (fun _ _ _ h => h) (Or.inl ⟨by rfl, ?_⟩) (by assumption) ?_
            rotate_left
            · (intro w hSw; (try dsimp only at hSw); go_simp; try (with_reducible rfl))
            try simp only [Act.put, List.setIfInBounds_toArray, List.set_cons_zero, List.set_cons_succ]
            refine wpAnyH_take (i := 11) (v := ?_) rfl (by kernel_rfl) (by kernel_rfl) (by kernel_rfl) (fun _ _ _ h => h) (Or.inl ⟨by rfl, ?_⟩) (by assumption) ?_
            rotate_left
            · (intro w hSw; (try dsimp only at hSw); go_simp; try (with_reducible rfl))
            try simp only [Act.put, List.setIfInBounds_toArray, List.set_cons_zero, List.set_cons_succ]
            refine wpAnyH_take (i := 12) (v := ?_) rfl (by kernel_rfl) (by kernel_rfl) (by kernel_rfl) (fun _ _ _ h => h) (Or.inl ⟨by rfl, ?_⟩) (by assumption) ?_
            rotate_left
            · (intro w hSw; (try dsimp only at hSw); go_simp; try (with_reducible rfl))
            try simp only [Act.put, List.setIfInBounds_toArray, List.set_cons_zero, List.set_cons_succ]
            refine wpAnyH_take (i := 13) (v := ?_) rfl (by kernel_rfl) (by kernel_rfl) (by kernel_rfl) (fun _ _ _ h => h) (Or.inl ⟨by rfl, ?_⟩) (by assumption) ?_
            rotate_left
            · (intro w hSw; (try dsimp only at hSw); go_simp; try (with_reducible rfl))
            try simp only [Act.put, List.setIfInBounds_toArray, List.set_cons_zero, List.set_cons_succ]
            refine wpAnyH_take (i := 14) (v := ?_) rfl (by kernel_rfl) (by kernel_rfl) (by kernel_rfl) (fun _ _ _ h => h) (Or.inl ⟨by rfl, ?_⟩) (by assumption) ?_
            rotate_left
            · (intro w hSw; (try dsimp only at hSw); go_simp; try (with_reducible rfl))
            try simp only [Act.put, List.setIfInBounds_toArray, List.set_cons_zero, List.set_cons_succ]
            refine wpAnyH_take (i := 15) (v := ?_) rfl (by kernel_rfl) (by kernel_rfl) (by kernel_rfl) (fun _ _ _ h => h) (Or.inl ⟨by rfl, ?_⟩) (by assumption) ?_
            rotate_left
            · (intro w hSw; (try dsimp only at hSw); go_simp; try (with_reducible rfl))
            try simp only [Act.put, List.setIfInBounds_toArray, List.set_cons_zero, List.set_cons_succ]
            refine wpAnyH_take (i := 16) (v := ?_) rfl (by kernel_rfl) (by kernel_rfl) (by kernel_rfl) (fun _ _ _ h => h) (Or.inl ⟨by rfl, ?_⟩) (by assumption) ?_
            rotate_left
            · (intro w hSw; (try dsimp only at hSw); go_simp; try (with_reducible rfl))
            try simp only [Act.put, List.setIfInBounds_toArray, List.set_cons_zero, List.set_cons_succ]
            refine wpAnyH_take (i := 17) (v := ?_) rfl (by kernel_rfl) (by kernel_rfl) (by kernel_rfl) (fun _ _ _ h => h) (Or.inl ⟨by rfl, ?_⟩) (by assumption) ?_
            rotate_left
            · (intro w hSw; (try dsimp only at hSw); go_simp; try (with_reducible rfl))
            try simp only [Act.put, List.setIfInBounds_toArray, List.set_cons_zero, List.set_cons_succ]
            refine wpAnyH_take (i := 20) (v := ?_) rfl (by kernel_rfl) (by kernel_rfl) (by kernel_rfl) (fun _ _ _ h => h) (Or.inl ⟨by rfl, ?_⟩) (by assumption) ?_
            rotate_left
            · (intro w hSw; (try dsimp only at hSw); go_simp; try (with_reducible rfl))
            try simp only [Act.put, List.setIfInBounds_toArray, List.set_cons_zero, List.set_cons_succ]
            refine wpAnyH_ready (rs := [18]) (by kernel_rfl) (by simp) ?_
            refine AllReadyH.cons rfl (fun K hK => ?_) AllReadyH.nil
            go_simp
            refine (HNP.out _ hS.2.2.2.out.1).mono ?_
            rintro e w6 ⟨r, hr, rfl, hd6, hg6⟩
            have kS := MK.out w6 hd6 (hS.2.2.2.out.2.trans hg6)
            have hw2 : IntKind.i64.wrap (V0 + 1 + (r : Int)) = V0 + 1 + (r : Int) := IntWalk.i64_in _ ⟨by omega, by omega⟩
            obtain ⟨Z, hZ⟩ : ∃ Z, (V0 + 1 + (r : Int)) % (p : Int) = Z := ⟨_, rfl⟩
            have htm : (V0 + 1 + (r : Int)).tmod (p : Int) = Z := by rw [Int.tmod_eq_emod_of_nonneg (by omega)]; exact hZ
            have hZb : 0 ≤ Z ∧ Z < p := by rw [← hZ]; exact ⟨Int.emod_nonneg _ (by omega), Int.emod_lt_of_pos _ (by omega)⟩
            have hZn : Z ≠ V0 := by rw [← hZ]; exact lie_ne (by omega) (by omega) (by omega) hr
            have HZB := Lib.hid hZb
            have HZN := Lib.hid hZn
            clear hZ hZb hZn hr hd6 hg6
            refine hK.out _ _ (kS) (fun hHeld => ?_)
            clear hK K
            try simp only [Act.put, List.setIfInBounds_toArray, List.set_cons_zero, List.set_cons_succ]
            refine wpAnyH_take (i := 19) (v := ?_) rfl (by kernel_rfl) (by kernel_rfl) (by kernel_rfl) (fun _ _ _ h => h) (Or.inl ⟨by rfl, ?_⟩) (by assumption) ?_
            rotate_left
            · (intro w hSw; (try dsimp only at hSw); go_simp; try (with_reducible rfl))
            try simp only [Act.put, List.setIfInBounds_toArray, List.set_cons_zero, List.set_cons_succ]
            refine wpAnyH_take (i := 21) (v := ?_) rfl (by kernel_rfl) (by kernel_rfl) (by kernel_rfl) (fun _ _ _ h => h) (Or.inl ⟨by rfl, ?_⟩) (by assumption) ?_
            rotate_left
            · (intro w hSw; (try dsimp only at hSw); go_simp; try (with_reducible rfl))
            try simp only [Act.put, List.setIfInBounds_toArray, List.set_cons_zero, List.set_cons_succ]
            refine wpAnyH_take (i := 22) (v := ?_) rfl (by kernel_rfl) (by kernel_rfl) (by kernel_rfl) (fun _ _ _ h => h) (Or.inl ⟨by rfl, ?_⟩) (by assumption) ?_
            rotate_left
            · (intro w hSw; (try dsimp only at hSw); go_simp; try (with_reducible rfl))
            try simp only [Act.put, List.setIfInBounds_toArray, List.set_cons_zero, List.set_cons_succ]
            refine wpAnyH_done (by kernel_rfl) ?_ _
            refine lastQ_step (by rfl) (by rfl) ?_
            go_simp
            have hd6 := kS.2.2.2.out.1
            have hg6 := kS.2.2.2.out.2
            have hs6 := hg6.size
            have ho6 := HO5.out.kept hg6 (by simp [Value.ownBlock]; omega) (fun k hk => by have := HGS.out k (by rw [← HN.out, ← HJ.out.len]; exact hk); simp; omega)
            have ha6 := HA5.out.keepB (hg6.block w1.heap.size hsz5 (by simp; omega))
            have hgw6 := HG5.out.trans hg6
            obtain ⟨hput, _⟩ := ho6.put (by rw [HJ.out.len]; exact HIL.out : i < LJ.length) q Z
            have haf : ArrV (w6.setCell ⟨gs i, q, none⟩ (.int .i64 Z)) w1.heap.size 17 (seenV L (min i many)) := ha6.keepB (Below.heap_setCell _ _ _ _ (by simp; omega))
            have hdf : Dc (w6.setCell ⟨gs i, q, none⟩ (.int .i64 Z)) d := hd6.keep fun x hx => Below.heap_setCell _ _ _ x (by simp; omega)
            have hgf : w.grownBy (w6.setCell ⟨gs i, q, none⟩ (.int .i64 Z)) (some d) := only_setCell hgw6 (p := ⟨gs i, q, none⟩) (.inr hgi2) _
            have hjf := HJ.out.put HIL.out hlq HZB.out.1 HZB.out.2 (by rw [HV0.out]; exact HZN.out)
            have HPUT := Lib.hid hput
            have HAF := Lib.hid haf
            have HDF := Lib.hid hdf
            have HGF := Lib.hid hgf
            have HJF := Lib.hid hjf
            clear wv1 wp1 htm hw2 hd6 hg6 ho6 ha6 hgw6 hput haf hdf hgf hjf kS hS hHeld
            go_wp2_with fail
            go_roundw
            case measure => simp [Go.RowKit.intOf]; omega
            case rel => exact ⟨q + 1, _, by omega, by go_num, HJF.out, HPUT.out, HAF.out, HDF.out, HGF.out, by simp; omega⟩

          case neg =>
            have t0 : ((q : Int) == 0) = false := by simp; omega
            go_wp2_with fail
            refine (HN2.out _ HD2.out).mono ?_
            rintro e w5 ⟨r0, hr0, rfl, hd5, hg5⟩
            have hs5 := hg5.size
            have ho5 := HO2.out.kept hg5 (by simp [Value.ownBlock]; omega) (fun k hk => by have := HGS.out k (by rw [← HN.out, ← HJ.out.len]; exact hk); simp; omega)
            have ha5 := HA2.out.keepB (hg5.block w1.heap.size hsz2 (by simp; omega))
            have hg5' := HG2.out.trans hg5
            have HO5 := Lib.hid ho5
            have HA5 := Lib.hid ha5
            have HD5 := Lib.hid hd5
            have HG5 := Lib.hid hg5'
            have hsz5 : w1.heap.size < w5.heap.size := by omega
            have HQ0 := Lib.hid hq0
            clear ho5 ha5 hd5 hg5 hg5' hs5 hq0
            rcases (show r0 = 0 ∨ r0 = 1 by omega) with rfl | rfl
            · go_wp2_with fail
              have hiL := HIL.out
              have hiLJ : i < LJ.length := by rw [HJ.out.len]; exact hiL
              have hc1 := (HO5.out.hdr hiLJ).2
              rw [HJ.out.vlen i hiL] at hc1
              have hov := (HO5.out.2 i hiLJ).2.2.1
              have hvb := HJ.out.inF i hiL q (by rw [HJ.out.vlen i hiL]; exact hlq)
              have hcv := hov.cell q (by rw [HJ.out.vlen i hiL]; exact hlq)
              have hfv := hov.frozen q
              have hgi := HGS.out i hin
              obtain ⟨V0, hV0⟩ : ∃ V0, (shAt LJ i).2.getD q 0 = V0 := ⟨_, rfl⟩
              rw [hV0] at hcv hvb
              have mk : ∀ W : World, Dc W d → w5.grownBy W (some d) → W.cell? ⟨g, i * 2 + 1, none⟩ = some (.slice (some ⟨gs i, 0, none⟩) m (cs i)) ∧ W.cell? ⟨gs i, q, none⟩ = some (.int .i64 V0) ∧ W.frozen? ⟨gs i, q, none⟩ = false ∧ Hid (Dc W d ∧ w5.grownBy W (some d)) := fun W h1 h2 =>
                ⟨(World.cell?_of_block (a := ⟨g, i * 2 + 1, none⟩) (h2.block g (by omega) (by simp; omega))).trans hc1, (World.cell?_of_block (a := ⟨gs i, q, none⟩) (h2.block (gs i) (by omega) (by simp; omega))).trans hcv, (World.frozen?_of_block (a := ⟨gs i, q, none⟩) (h2.block (gs i) (by omega) (by simp; omega))).trans hfv, Lib.hid ⟨h1, h2⟩⟩
              have MK := Lib.hid mk
              have HV0 := Lib.hid hV0
              have wv1 : IntKind.i64.wrap (V0 + 1) = V0 + 1 := IntWalk.i64_in _ ⟨by omega, by omega⟩
              have wp1 : IntKind.i64.wrap ((p : Int) - 1) = (p : Int) - 1 := IntWalk.i64_in _ ⟨by omega, by omega⟩
              have hp0 : ¬ p = 0 := by omega
              have hp0' : ¬ (p : Int) = 0 := by omega
              have hgi1 := hgi.1
              have hgi2 := hgi.2
              clear hiL hiLJ hc1 hov hcv hfv hgi hV0 mk
              refine wp_region_last_lit _ _ (fun W => W.cell? ⟨g, i * 2 + 1, none⟩ = some (.slice (some ⟨gs i, 0, none⟩) m (cs i)) ∧ W.cell? ⟨gs i, q, none⟩ = some (.int .i64 V0) ∧ W.frozen? ⟨gs i, q, none⟩ = false ∧ Hid (Dc W d ∧ w5.grownBy W (some d))) hmx rfl (by kernel_rfl) (MK.out _ HD5.out.drew (only_drewN (World.grownBy.refl w5 _) 1)) (fun hS => ?_)
              simp only [List.dropLast]
              refine wpAnyH_take (i := 0) (v := ?_) rfl (by kernel_rfl) (by kernel_rfl) (by kernel_rfl) (fun _ _ _ h => h) (Or.inl ⟨by rfl, ?_⟩) (by assumption) ?_
              rotate_left
              · (intro w hSw; (try dsimp only at hSw); go_simp; try (with_reducible rfl))
              try simp only [Act.put, List.setIfInBounds_toArray, List.set_cons_zero, List.set_cons_succ]
              refine wpAnyH_take (i := 1) (v := ?_) rfl (by kernel_rfl) (by kernel_rfl) (by kernel_rfl) (fun _ _ _ h => h) (Or.inl ⟨by rfl, ?_⟩) (by assumption) ?_
              rotate_left
              · (intro w hSw; (try dsimp only at hSw); go_simp; try (with_reducible rfl))
              try simp only [Act.put, List.setIfInBounds_toArray, List.set_cons_zero, List.set_cons_succ]
              refine wpAnyH_take (i := 2) (v := ?_) rfl (by kernel_rfl) (by kernel_rfl) (by kernel_rfl) (fun _ _ _ h => h) (Or.inl ⟨by rfl, ?_⟩) (by assumption) ?_
              rotate_left
              · (intro w hSw; (try dsimp only at hSw); go_simp; try (with_reducible rfl))
              try simp only [Act.put, List.setIfInBounds_toArray, List.set_cons_zero, List.set_cons_succ]
              refine wpAnyH_take (i := 3) (v := ?_) rfl (by kernel_rfl) (by kernel_rfl) (by kernel_rfl) (fun _ _ _ h => h) (Or.inl ⟨by rfl, ?_⟩) (by assumption) ?_
              rotate_left
              · (intro w hSw; (try dsimp only at hSw); go_simp; try (with_reducible rfl))
              try simp only [Act.put, List.setIfInBounds_toArray, List.set_cons_zero, List.set_cons_succ]
              refine wpAnyH_take (i := 4) (v := ?_) rfl (by kernel_rfl) (by kernel_rfl) (by kernel_rfl) (fun _ _ _ h => h) (Or.inl ⟨by rfl, ?_⟩) (by assumption) ?_
              rotate_left
              · (intro w hSw; (try dsimp only at hSw); go_simp; try (with_reducible rfl))
              try simp only [Act.put, List.setIfInBounds_toArray, List.set_cons_zero, List.set_cons_succ]
              refine wpAnyH_take (i := 5) (v := ?_) rfl (by kernel_rfl) (by kernel_rfl) (by kernel_rfl) (fun _ _ _ h => h) (Or.inl ⟨by rfl, ?_⟩) (by assumption) ?_
              rotate_left
              · (intro w hSw; (try dsimp only at hSw); go_simp; try (with_reducible rfl))
              try simp only [Act.put, List.setIfInBounds_toArray, List.set_cons_zero, List.set_cons_succ]
              refine wpAnyH_take (i := 6) (v := ?_) rfl (by kernel_rfl) (by kernel_rfl) (by kernel_rfl) (fun _ _ _ h => h) (Or.inl ⟨by rfl, ?_⟩) (by assumption) ?_
              rotate_left
              · (intro w hSw; (try dsimp only at hSw); go_simp; try (with_reducible rfl))
              try simp only [Act.put, List.setIfInBounds_toArray, List.set_cons_zero, List.set_cons_succ]
              refine wpAnyH_take (i := 7) (v := ?_) rfl (by kernel_rfl) (by kernel_rfl) (by kernel_rfl) (fun _ _ _ h => h) (Or.inl ⟨by rfl, ?_⟩) (by assumption) ?_
              rotate_left
              · (intro w hSw; (try dsimp only at hSw); go_simp; try (with_reducible rfl))
              try simp only [Act.put, List.setIfInBounds_toArray, List.set_cons_zero, List.set_cons_succ]
              refine wpAnyH_take (i := 8) (v := ?_) rfl (by kernel_rfl) (by kernel_rfl) (by kernel_rfl) (fun _ _ _ h => h) (Or.inl ⟨by rfl, ?_⟩) (by assumption) ?_
              rotate_left
              · (intro w hSw; (try dsimp only at hSw); go_simp; try (with_reducible rfl))
              try simp only [Act.put, List.setIfInBounds_toArray, List.set_cons_zero, List.set_cons_succ]
              refine wpAnyH_take (i := 9) (v := ?_) rfl (by kernel_rfl) (by kernel_rfl) (by kernel_rfl) (fun _ _ _ h => h) (Or.inl ⟨by rfl, ?_⟩) (by assumption) ?_
              rotate_left
              · (intro w hSw; (try dsimp only at hSw); go_simp; try (with_reducible rfl))
              try simp only [Act.put, List.setIfInBounds_toArray, List.set_cons_zero, List.set_cons_succ]
              refine wpAnyH_take (i := 10) (v := ?_) rfl (by kernel_rfl) (by kernel_rfl) (by kernel_rfl) (fun _ _ _ h => h) (Or.inl ⟨by rfl, ?_⟩) (by assumption) ?_
              rotate_left
              · (intro w hSw; (try dsimp only at hSw); go_simp; try (with_reducible rfl))
              try simp only [Act.put, List.setIfInBounds_toArray, List.set_cons_zero, List.set_cons_succ]
              refine wpAnyH_take (i := 11) (v := ?_) rfl (by kernel_rfl) (by kernel_rfl) (by kernel_rfl) (fun _ _ _ h => h) (Or.inl ⟨by rfl, ?_⟩) (by assumption) ?_
              rotate_left
              · (intro w hSw; (try dsimp only at hSw); go_simp; try (with_reducible rfl))
              try simp only [Act.put, List.setIfInBounds_toArray, List.set_cons_zero, List.set_cons_succ]
              refine wpAnyH_take (i := 12) (v := ?_) rfl (by kernel_rfl) (by kernel_rfl) (by kernel_rfl) (fun _ _ _ h => h) (Or.inl ⟨by rfl, ?_⟩) (by assumption) ?_
              rotate_left
              · (intro w hSw; (try dsimp only at hSw); go_simp; try (with_reducible rfl))
              try simp only [Act.put, List.setIfInBounds_toArray, List.set_cons_zero, List.set_cons_succ]
              refine wpAnyH_take (i := 13) (v := ?_) rfl (by kernel_rfl) (by kernel_rfl) (by kernel_rfl) (fun _ _ _ h => h) (Or.inl ⟨by rfl, ?_⟩) (by assumption) ?_
              rotate_left
              · (intro w hSw; (try dsimp only at hSw); go_simp; try (with_reducible rfl))
              try simp only [Act.put, List.setIfInBounds_toArray, List.set_cons_zero, List.set_cons_succ]
              refine wpAnyH_take (i := 14) (v := ?_) rfl (by kernel_rfl) (by kernel_rfl) (by kernel_rfl) (fun _ _ _ h => h) (Or.inl ⟨by rfl, ?_⟩) (by assumption) ?_
              rotate_left
              · (intro w hSw; (try dsimp only at hSw); go_simp; try (with_reducible rfl))
              try simp only [Act.put, List.setIfInBounds_toArray, List.set_cons_zero, List.set_cons_succ]
              refine wpAnyH_take (i := 15) (v := ?_) rfl (by kernel_rfl) (by kernel_rfl) (by kernel_rfl) (fun _ _ _ h => h) (Or.inl ⟨by rfl, ?_⟩) (by assumption) ?_
              rotate_left
              · (intro w hSw; (try dsimp only at hSw); go_simp; try (with_reducible rfl))
              try simp only [Act.put, List.setIfInBounds_toArray, List.set_cons_zero, List.set_cons_succ]
              refine wpAnyH_take (i := 16) (v := ?_) rfl (by kernel_rfl) (by kernel_rfl) (by kernel_rfl) (fun _ _ _ h => h) (Or.inl ⟨by rfl, ?_⟩) (by assumption) ?_
              rotate_left
              · (intro w hSw; (try dsimp only at hSw); go_simp; try (with_reducible rfl))
              try simp only [Act.put, List.setIfInBounds_toArray, List.set_cons_zero, List.set_cons_succ]
              refine wpAnyH_take (i := 17) (v := ?_) rfl (by kernel_rfl) (by kernel_rfl) (by kernel_rfl) (fun _ _ _ h => h) (Or.inl ⟨by rfl, ?_⟩) (by assumption) ?_
              rotate_left
              · (intro w hSw; (try dsimp only at hSw); go_simp; try (with_reducible rfl))
              try simp only [Act.put, List.setIfInBounds_toArray, List.set_cons_zero, List.set_cons_succ]
              refine wpAnyH_take (i := 20) (v := ?_) rfl (by kernel_rfl) (by kernel_rfl) (by kernel_rfl) (fun _ _ _ h => h) (Or.inl ⟨by rfl, ?_⟩) (by assumption) ?_
              rotate_left
              · (intro w hSw; (try dsimp only at hSw); go_simp; try (with_reducible rfl))
              try simp only [Act.put, List.setIfInBounds_toArray, List.set_cons_zero, List.set_cons_succ]
              refine wpAnyH_ready (rs := [18]) (by kernel_rfl) (by simp) ?_
              refine AllReadyH.cons rfl (fun K hK => ?_) AllReadyH.nil
              go_simp
              refine (HNP.out _ hS.2.2.2.out.1).mono ?_
              rintro e w6 ⟨r, hr, rfl, hd6, hg6⟩
              have kS := MK.out w6 hd6 (hS.2.2.2.out.2.trans hg6)
              have hw2 : IntKind.i64.wrap (V0 + 1 + (r : Int)) = V0 + 1 + (r : Int) := IntWalk.i64_in _ ⟨by omega, by omega⟩
              obtain ⟨Z, hZ⟩ : ∃ Z, (V0 + 1 + (r : Int)) % (p : Int) = Z := ⟨_, rfl⟩
              have htm : (V0 + 1 + (r : Int)).tmod (p : Int) = Z := by rw [Int.tmod_eq_emod_of_nonneg (by omega)]; exact hZ
              have hZb : 0 ≤ Z ∧ Z < p := by rw [← hZ]; exact ⟨Int.emod_nonneg _ (by omega), Int.emod_lt_of_pos _ (by omega)⟩
              have hZn : Z ≠ V0 := by rw [← hZ]; exact lie_ne (by omega) (by omega) (by omega) hr
              have HZB := Lib.hid hZb
              have HZN := Lib.hid hZn
              clear hZ hZb hZn hr hd6 hg6
              refine hK.out _ _ (kS) (fun hHeld => ?_)
              clear hK K
              try simp only [Act.put, List.setIfInBounds_toArray, List.set_cons_zero, List.set_cons_succ]
              refine wpAnyH_take (i := 19) (v := ?_) rfl (by kernel_rfl) (by kernel_rfl) (by kernel_rfl) (fun _ _ _ h => h) (Or.inl ⟨by rfl, ?_⟩) (by assumption) ?_
              rotate_left
              · (intro w hSw; (try dsimp only at hSw); go_simp; try (with_reducible rfl))
              try simp only [Act.put, List.setIfInBounds_toArray, List.set_cons_zero, List.set_cons_succ]
              refine wpAnyH_take (i := 21) (v := ?_) rfl (by kernel_rfl) (by kernel_rfl) (by kernel_rfl) (fun _ _ _ h => h) (Or.inl ⟨by rfl, ?_⟩) (by assumption) ?_
              rotate_left
              · (intro w hSw; (try dsimp only at hSw); go_simp; try (with_reducible rfl))
              try simp only [Act.put, List.setIfInBounds_toArray, List.set_cons_zero, List.set_cons_succ]
              refine wpAnyH_take (i := 22) (v := ?_) rfl (by kernel_rfl) (by kernel_rfl) (by kernel_rfl) (fun _ _ _ h => h) (Or.inl ⟨by rfl, ?_⟩) (by assumption) ?_
              rotate_left
              · (intro w hSw; (try dsimp only at hSw); go_simp; try (with_reducible rfl))
              try simp only [Act.put, List.setIfInBounds_toArray, List.set_cons_zero, List.set_cons_succ]
              refine wpAnyH_done (by kernel_rfl) ?_ _
              refine lastQ_step (by rfl) (by rfl) ?_
              go_simp
              have hd6 := kS.2.2.2.out.1
              have hg6 := kS.2.2.2.out.2
              have hs6 := hg6.size
              have ho6 := HO5.out.kept hg6 (by simp [Value.ownBlock]; omega) (fun k hk => by have := HGS.out k (by rw [← HN.out, ← HJ.out.len]; exact hk); simp; omega)
              have ha6 := HA5.out.keepB (hg6.block w1.heap.size hsz5 (by simp; omega))
              have hgw6 := HG5.out.trans hg6
              obtain ⟨hput, _⟩ := ho6.put (by rw [HJ.out.len]; exact HIL.out : i < LJ.length) q Z
              have haf : ArrV (w6.setCell ⟨gs i, q, none⟩ (.int .i64 Z)) w1.heap.size 17 (seenV L (min i many)) := ha6.keepB (Below.heap_setCell _ _ _ _ (by simp; omega))
              have hdf : Dc (w6.setCell ⟨gs i, q, none⟩ (.int .i64 Z)) d := hd6.keep fun x hx => Below.heap_setCell _ _ _ x (by simp; omega)
              have hgf : w.grownBy (w6.setCell ⟨gs i, q, none⟩ (.int .i64 Z)) (some d) := only_setCell hgw6 (p := ⟨gs i, q, none⟩) (.inr hgi2) _
              have hjf := HJ.out.put HIL.out hlq HZB.out.1 HZB.out.2 (by rw [HV0.out]; exact HZN.out)
              have HPUT := Lib.hid hput
              have HAF := Lib.hid haf
              have HDF := Lib.hid hdf
              have HGF := Lib.hid hgf
              have HJF := Lib.hid hjf
              clear wv1 wp1 htm hw2 hd6 hg6 ho6 ha6 hgw6 hput haf hdf hgf hjf kS hS hHeld
              go_wp2_with fail
              go_roundw
              case measure => simp [Go.RowKit.intOf]; omega
              case rel => exact ⟨q + 1, _, by omega, by go_num, HJF.out, HPUT.out, HAF.out, HDF.out, HGF.out, by simp; omega⟩

            · go_wp2_with fail
              go_roundw
              case measure => simp [Go.RowKit.intOf]; omega
              case rel => exact ⟨q + 1, LJ, by omega, by go_num, HJ.out.skip (by have := HQ0.out; omega), HO5.out, HA5.out, HD5.out, HG5.out, hsz5⟩
        · have hqm' : q = m := by omega
          subst hqm'
          have hiL := HIL.out
          have hiLJ : i < LJ.length := by rw [HJ.out.len]; exact hiL
          have hc0 := (HO2.out.hdr hiLJ).1
          have hc1 := (HO2.out.hdr hiLJ).2
          rw [HJ.out.vlen i hiL] at hc1
          rw [HJ.out.holder i hiL] at hc0
          have hhb := HH.out i hin
          obtain ⟨h, hhe⟩ := Int.eq_ofNat_of_zero_le hhb.1
          rw [hhe] at hc0 hhb
          have h17 : h < 17 := by omega
          have hca := HA2.out.cell h h17
          obtain ⟨b, hb⟩ : ∃ b, seenV L (min i many) h = .bool b := ⟨_, rfl⟩
          rw [hb] at hca
          have hfa := HA2.out.live h h17
          have q17 : (h : Int) < 17 := by omega
          have q170 : (0 : Int) ≤ (h : Int) := by omega
          have qm0 : decide ((0 : Int) < (q : Int)) = true := decide_eq_true (by omega)
          have HHE := Lib.hid hhe
          clear hb hhe hhb hiL hiLJ
          go_wp2_with fail
          go_roundw
          case measure => simp [Go.RowKit.intOf]; omega
          case rel =>
            refine ⟨i + 1, LJ, by omega, by go_num, HJ.out.toI m0, ?_, (HA2.out.upd (.bool true) h17).congr fun j hj => seenV_step L i many h hlm HHE.out j, ?_, ?_, by simp; omega⟩
            · refine HO2.out.kept (row := some w1.heap.size) (only_setCell (World.grownBy.refl wr _) (p := ⟨w1.heap.size, h, none⟩) (.inl rfl) _) (by simp [Value.ownBlock]; omega) (fun k hk => by have := HGS.out k (by rw [← HN.out, ← HJ.out.len]; exact hk); simp; omega)
            · exact HD2.out.keep fun x hx => Below.heap_setCell _ _ _ x (by simp; omega)
            · exact only_setCell HG2.out (p := ⟨w1.heap.size, h, none⟩) (.inr (by show w.heap.size ≤ w1.heap.size; omega)) _
    · have him' : i = many := by omega
      subst him'
      have harr := HA.out
      rw [Nat.min_self] at harr
      obtain ⟨CS, hCS, hcs⟩ : ∃ CS : List Value, CS.length = 17 ∧ ∀ j, j < 17 → CS[j]? = some (seenV L i j) := ⟨(List.range 17).map (seenV L i), by simp, fun j hj => by simp [hj]⟩
      have hrng : wo.rangeAt w1.heap.size 0 CS := fun j v hv => by
        have hj := (List.getElem?_eq_some_iff.1 hv).1
        rw [hCS] at hj
        rw [hcs j hj] at hv
        injection hv with hv
        subst hv
        have := harr.cell j hj
        simpa using this
      have hidx : ∀ (m : Nat) (W : World), m < 17 → (Instr.index 59 (.agg CS.toArray) (.int .i64 (m : Int))).run Tryd.prog W = .ok (.bool (decide (∃ k, k < i ∧ (shAt L k).1 = (m : Int)))) W := fun m W hm => run_index_bools CS _ hCS hcs m W hm
      have HIDX := Lib.hid hidx
      have HRNG := Lib.hid hrng
      have HCS := Lib.hid hCS
      clear hcs hCS harr hidx hrng
      have hcase : ¬ i < mny ∨ (i < mny ∧ ¬ i < n) := by have := HMY.out; omega
      rcases hcase with h1 | ⟨h1, h2⟩
      · have t1 : decide ((i : Int) < (mny : Int)) = false := decide_eq_false (by omega)
        have t1' : decide (i < mny) = false := decide_eq_false h1
        clear h1
        go_upto_region 15 with (fail)
        apply wp_region_lit
        refine wpList_plain rfl (fun K hK => ?_)
        refine wp_load_mid _ _ rfl _ _ rfl CS _ HRNG.out Tryd.underlying59 rfl (by rw [HCS.out]; kernel_rfl) (hK _ _ ?_)
        clear hK K
        simp only [Act.put, List.setIfInBounds_toArray, List.set_cons_zero, List.set_cons_succ]
        generalize CS.toArray = CV at *
        clear HRNG HCS
        go_wp2_with fail
        go_loopw [13, 83] (fun o t wq => ∃ z : Nat, z ≤ 17 ∧ t = .int .i64 (z : Int) ∧ wq.ownsRow wo.heap.size 3 1 o (liarsM L i z).length ((liarsM L i z).map (Value.int .i64)) ∧ Below wo.heap.size wo wq) (fun _ t _ => 17 - (Go.RowKit.intOf t).toNat)
        case atStart => exact ⟨0, by omega, rfl, World.ownsRow_nil _ _ _ _, Below.refl _ _⟩
        case round =>
          obtain ⟨z, hz, rfl, hown, hbl⟩ := hrel
          by_cases hlt2 : z < 17
          · have qm : (z : Int) < 17 := by omega
            have hlen := liarsM_len L i z
            obtain ⟨y, hy⟩ : ∃ y, (liarsM L i z).length = y := ⟨_, rfl⟩
            rw [hy] at hown hlen
            have HOW := Lib.hid hown
            have HBL := Lib.hid hbl
            have HY := Lib.hid hy
            have hix := fun W => HIDX.out z W hlt2
            rcases hb : decide (∃ k, k < i ∧ (shAt L k).1 = (z : Int)) with _ | _
            · rw [hb] at hix
              have e1 := liarsM_no hb
              have E1 := Lib.hid e1
              clear hb e1 hown hbl hy
              go_wp2_with fail
              go_roundw
              case measure => simp [Go.RowKit.intOf]; omega
              case rel => exact ⟨z + 1, by omega, by go_num, by rw [E1.out, HY.out]; exact HOW.out, HBL.out⟩
            · rw [hb] at hix
              have e1 := liarsM_yes hb
              have E1 := Lib.hid e1
              have hsq := hbl.size
              clear hb e1 hown hbl hy
              go_wp2_with (at_builtin; refine wpList_append_own _ rfl _ _ 22 rfl wo.heap.size 3 i0 (.int .i64 0) 1 8 Tryd.underlying22 hi0 hz0 hz1 hz2 rfl (by decide) _ _ _ rfl (HOW.out.alloc _) ⟨wr.heap.size, 0, none⟩ 1 1 [.int .i64 (z : Int)] rfl rfl (fun j u hj => by have := cell_one_new wr (.int .i64 (z : Int)) 3 j u hj; simpa using this) (ints_oneCell .i64 [_]) (by unfold maxLen; omega) (by omega) (by simp; omega) ?_)
              intro v6 w6 hown6 hgrow6 _
              have hg6 := grown_past hgrow6
              have hul : ∀ x, u13.ownBlock = some x → wo.heap.size ≤ x := fun x hx => (HOW.out.lt x hx).1
              have hb6 := HBL.out.grown hg6 hsq hul
              have HO6 := Lib.hid hown6
              have HB6 := Lib.hid hb6
              clear hown6 hgrow6 hg6 hul hb6
              go_wp2_with fail
              go_roundw
              case measure => simp [Go.RowKit.intOf]; omega
              case rel => exact ⟨z + 1, by omega, by go_num, by rw [E1.out, List.length_append, HY.out, List.map_append]; exact HO6.out, HB6.out⟩
          · have hm17 : z = 17 := by omega
            subst hm17
            have hsq := hbl.size
            have hls := HGO.out.size
            have hli : IntsAt wr (fun b => w.heap.size ≤ b ∧ b < wr.heap.size) u13 (liarsL L i) := (IntsAt.of_own (by rw [← liarsM_17]; exact hown)).mono fun b hb => ⟨by omega, hb.2⟩
            have hsh : ShAt wr (fun b => w.heap.size ≤ b ∧ b < wr.heap.size) (.slice (some ⟨g, 0, none⟩) n cap) L' := (HO.out.below hbl).a.sh.at_
            have hdf := HDO.out.below hbl HDO.out.lt
            have hgf := HGO.out.trans (only_of_below hbl (some d))
            have HLI := Lib.hid hli
            have HSH := Lib.hid hsh
            have HDF := Lib.hid hdf
            have HGF := Lib.hid hgf
            clear hli hsh hdf hgf hown hbl
            go_wp2_with fail
            go_ret2
            exact ⟨_, _, L', rfl, HI.out, HSH.out, HLI.out, HDF.out, HGF.out⟩
      · have t1 : decide ((i : Int) < (mny : Int)) = true := decide_eq_true (by omega)
        have t1' : decide (i < mny) = true := decide_eq_true h1
        have t2 : decide ((i : Int) < (n : Int)) = false := decide_eq_false (by omega)
        have t2' : decide (i < n) = false := decide_eq_false h2
        clear h1 h2
        go_upto_region 15 with (fail)
        apply wp_region_lit
        refine wpList_plain rfl (fun K hK => ?_)
        refine wp_load_mid _ _ rfl _ _ rfl CS _ HRNG.out Tryd.underlying59 rfl (by rw [HCS.out]; kernel_rfl) (hK _ _ ?_)
        clear hK K
        simp only [Act.put, List.setIfInBounds_toArray, List.set_cons_zero, List.set_cons_succ]
        generalize CS.toArray = CV at *
        clear HRNG HCS
        go_wp2_with fail
        go_loopw [13, 83] (fun o t wq => ∃ z : Nat, z ≤ 17 ∧ t = .int .i64 (z : Int) ∧ wq.ownsRow wo.heap.size 3 1 o (liarsM L i z).length ((liarsM L i z).map (Value.int .i64)) ∧ Below wo.heap.size wo wq) (fun _ t _ => 17 - (Go.RowKit.intOf t).toNat)
        case atStart => exact ⟨0, by omega, rfl, World.ownsRow_nil _ _ _ _, Below.refl _ _⟩
        case round =>
          obtain ⟨z, hz, rfl, hown, hbl⟩ := hrel
          by_cases hlt2 : z < 17
          · have qm : (z : Int) < 17 := by omega
            have hlen := liarsM_len L i z
            obtain ⟨y, hy⟩ : ∃ y, (liarsM L i z).length = y := ⟨_, rfl⟩
            rw [hy] at hown hlen
            have HOW := Lib.hid hown
            have HBL := Lib.hid hbl
            have HY := Lib.hid hy
            have hix := fun W => HIDX.out z W hlt2
            rcases hb : decide (∃ k, k < i ∧ (shAt L k).1 = (z : Int)) with _ | _
            · rw [hb] at hix
              have e1 := liarsM_no hb
              have E1 := Lib.hid e1
              clear hb e1 hown hbl hy
              go_wp2_with fail
              go_roundw
              case measure => simp [Go.RowKit.intOf]; omega
              case rel => exact ⟨z + 1, by omega, by go_num, by rw [E1.out, HY.out]; exact HOW.out, HBL.out⟩
            · rw [hb] at hix
              have e1 := liarsM_yes hb
              have E1 := Lib.hid e1
              have hsq := hbl.size
              clear hb e1 hown hbl hy
              go_wp2_with (at_builtin; refine wpList_append_own _ rfl _ _ 22 rfl wo.heap.size 3 i0 (.int .i64 0) 1 8 Tryd.underlying22 hi0 hz0 hz1 hz2 rfl (by decide) _ _ _ rfl (HOW.out.alloc _) ⟨wr.heap.size, 0, none⟩ 1 1 [.int .i64 (z : Int)] rfl rfl (fun j u hj => by have := cell_one_new wr (.int .i64 (z : Int)) 3 j u hj; simpa using this) (ints_oneCell .i64 [_]) (by unfold maxLen; omega) (by omega) (by simp; omega) ?_)
              intro v6 w6 hown6 hgrow6 _
              have hg6 := grown_past hgrow6
              have hul : ∀ x, u13.ownBlock = some x → wo.heap.size ≤ x := fun x hx => (HOW.out.lt x hx).1
              have hb6 := HBL.out.grown hg6 hsq hul
              have HO6 := Lib.hid hown6
              have HB6 := Lib.hid hb6
              clear hown6 hgrow6 hg6 hul hb6
              go_wp2_with fail
              go_roundw
              case measure => simp [Go.RowKit.intOf]; omega
              case rel => exact ⟨z + 1, by omega, by go_num, by rw [E1.out, List.length_append, HY.out, List.map_append]; exact HO6.out, HB6.out⟩
          · have hm17 : z = 17 := by omega
            subst hm17
            have hsq := hbl.size
            have hls := HGO.out.size
            have hli : IntsAt wr (fun b => w.heap.size ≤ b ∧ b < wr.heap.size) u13 (liarsL L i) := (IntsAt.of_own (by rw [← liarsM_17]; exact hown)).mono fun b hb => ⟨by omega, hb.2⟩
            have hsh : ShAt wr (fun b => w.heap.size ≤ b ∧ b < wr.heap.size) (.slice (some ⟨g, 0, none⟩) n cap) L' := (HO.out.below hbl).a.sh.at_
            have hdf := HDO.out.below hbl HDO.out.lt
            have hgf := HGO.out.trans (only_of_below hbl (some d))
            have HLI := Lib.hid hli
            have HSH := Lib.hid hsh
            have HDF := Lib.hid hdf
            have HGF := Lib.hid hgf
            clear hli hsh hdf hgf hown hbl
            go_wp2_with fail
            go_ret2
            exact ⟨_, _, L', rfl, HI.out, HSH.out, HLI.out, HDF.out, HGF.out⟩
end Go.Proofs.YtjfphobfikadlaaDoor

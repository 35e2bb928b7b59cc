/- Contract: what is wrong with a view: nothing, if its coalition can see all its entries. -/
import Derived.Test.YtgeahbmaeaoeeaaGreatDoorQ41
import Derived.Deep.RegionHeld3
set_option linter.unusedVariables false
set_option linter.unusedSimpArgs false
namespace Go.Proofs.YtgeahbmaeaoeeaaGreatDoor
open Go.RowKit Num

/-- A view that is right. -/
structure GoodV (p hold : Nat) (H : List Int) (E : List SeenS) : Prop where
  ris : RisP H 1 (hold : Int)
  prop : ∀ k, k < E.length → PropP p H (seeL E k).len.toNat (seeL E k)
  asc : ∀ k, 0 < k → k < E.length → (seeL E (k - 1)).num < (seeL E k).num
set_option maxRecDepth 100000 in
set_option maxHeartbeats 4000000 in
theorem v_CheckT (p need hold : Nat) (vH vE : Value) (Ao At : Option Addr) (no co nt ct : Nat) (H : List Int) (E : List SeenS) (w : World) (hw : BasesOk w) (hp : Prm p) (h2 : p ≤ 1073741824) (g1 : 1 ≤ need) (g2 : need ≤ hold) (g3 : hold ≤ 16) (g4 : hold < p)
    (hH : IntsAt w (· < w.heap.size) vH H) (hE : SeensAt w (· < w.heap.size) vE E) (hlh : H.length ≤ 1000000) (hle : E.length ≤ 1000000) (hg : GoodV p hold H E) :
    Calls Tryz.prog 41 #[.agg #[.int .i64 (p : Int), .int .i64 (need : Int), .int .i64 (hold : Int)], .agg #[vH, vE, .slice Ao no co, .slice At nt ct]] w (IntBelowM 0 w) := by
  have hmx : Tryz.prog.follows .mixedOrders = true := by kernel_rfl
  obtain ⟨Ah, nh, ch, rfl, -⟩ := id hH
  obtain ⟨A, n, c, rfl, hn, hnc, hA⟩ := id hE
  have n1' : n ≤ 1000000 := by omega
  have hb0 : Below w.heap.size w ((w.alloc (.cells #[.int .i64 (p : Int), .int .i64 (need : Int), .int .i64 (hold : Int)] 29)).alloc (.cells #[.slice Ah nh ch, .slice A n c, .slice Ao no co, .slice At nt ct] 44)) := ((Below.refl _ w).alloc (Nat.le_refl _) _).alloc (by simp) _
  have hpb := (Blk.new w 29 #[.int .i64 (p : Int), .int .i64 (need : Int), .int .i64 (hold : Int)]).alloc (.cells #[.slice Ah nh ch, .slice A n c, .slice Ao no co, .slice At nt ct] 44)
  have hvb := Blk.new (w.alloc (.cells #[.int .i64 (p : Int), .int .i64 (need : Int), .int .i64 (hold : Int)] 29)) 44 #[.slice Ah nh ch, .slice A n c, .slice Ao no co, .slice At nt ct]
  rw [World.size_alloc] at hvb
  obtain ⟨w0, hw0⟩ : ∃ w0, ((w.alloc (.cells #[.int .i64 (p : Int), .int .i64 (need : Int), .int .i64 (hold : Int)] 29)).alloc (.cells #[.slice Ah nh ch, .slice A n c, .slice Ao no co, .slice At nt ct] 44)) = w0 := ⟨_, rfl⟩
  rw [hw0] at hb0 hpb hvb
  have p0 := (hpb.cell 0).trans (show _ = some (Value.int .i64 (p : Int)) from rfl)
  have p1 := (hpb.cell 1).trans (show _ = some (Value.int .i64 (need : Int)) from rfl)
  have p2 := (hpb.cell 2).trans (show _ = some (Value.int .i64 (hold : Int)) from rfl)
  have hva := fun W hW => s_Valid p need hold W hW hp h2 g1 g2 g3 g4
  have HVA := Lib.hid hva
  have hri := fun W hW => g_Rising (.slice Ah nh ch) H (· < W.heap.size) 1 (hold : Int) W hW hlh
  have HRI := Lib.hid hri
  have HB0 := Lib.hid hb0
  have HPB := Lib.hid hpb
  have HVB := Lib.hid hvb
  have HWW := Lib.hid (hw.below hb0)
  have HHH := Lib.hid (hH.up hb0)
  have HEE := Lib.hid (hE.up hb0)
  have HN := Lib.hid hn
  have HG := Lib.hid hg
  clear hva hri hb0 hpb hvb hw hH hE hn hg hA
  go_enter Tryz.func41, Tryz.ntmps41
  go_wp2_with fail
  try rw [hw0]
  clear hw0
  refine (HVA.out _ HWW.out).mono ?_
  rintro e w1 ⟨rfl, hb1⟩
  have HB1 := Lib.hid (HB0.out.trans (hb1.mono HB0.out.size))
  have HPB1 := Lib.hid (HPB.out.below hb1 HPB.out.lt)
  have HVB1 := Lib.hid (HVB.out.below hb1 HVB.out.lt)
  have HWW1 := Lib.hid (HWW.out.below hb1)
  have HHH1 := Lib.hid (HHH.out.up hb1)
  have HEE1 := Lib.hid (HEE.out.up hb1)
  clear HB0 HPB HVB HWW HHH HEE hb1 p0 p1 p2
  have p2 := (HPB1.out.cell 2).trans (show _ = some (Value.int .i64 (hold : Int)) from rfl)
  have y0 := (HVB1.out.cell 0).trans (show _ = some (Value.slice Ah nh ch) from rfl)
  have y1 := (HVB1.out.cell 1).trans (show _ = some (Value.slice A n c) from rfl)
  go_wp2_with fail
  refine (HRI.out _ HHH1.out).mono ?_
  rintro e w1' ⟨⟨bb, rfl, hbb⟩, rfl⟩
  obtain rfl : bb = true := hbb.2 HG.out.ris
  clear hbb
  go_wp2_with fail
  go_loopw [21] (fun t wr => ∃ i : Nat, i ≤ n ∧ t = .int .i64 (i : Int) ∧ Below w1.heap.size w1 wr) (fun t _ => n - (intOf t).toNat)
  case atStart => exact ⟨0, by omega, rfl, Below.refl _ _⟩
  case round =>
    obtain ⟨i, hi, rfl, hbr⟩ := hrel
    rename World => wr
    have HBR := Lib.hid hbr
    have hsz := hbr.size
    clear hbr
    by_cases hlt : i < n
    · obtain ⟨A', n', c', he, hn', hnc', hA'⟩ := id HEE1.out
      injection he with e1 e2 e3
      subst e1 e2 e3
      clear hn' hnc'
      obtain ⟨b, off, rfl, hSb, hcl⟩ := hA' (by omega)
      obtain ⟨x, y, hs⟩ := hcl i hlt
      have hs2 := (hs.keep (HBR.out.block b hSb) (fun g hg => HBR.out.block g hg)).mono fun g hg => Nat.lt_of_lt_of_le hg hsz
      have hpr := HG.out.prop i (by rw [← HN.out]; exact hlt)
      have hzp : 0 < i → wr.cell? ⟨b, off + (i - 1) * 7, none⟩ = some (.int .i64 (seeL E (i - 1)).num) := fun h0 => by
        obtain ⟨x', y', hs'⟩ := hcl (i - 1) (by omega)
        exact (HBR.out.cell (p := ⟨b, off + (i - 1) * 7, none⟩) hSb).trans hs'.c0
      have hasc := fun h0 : 0 < i => HG.out.asc i h0 (by rw [← HN.out]; exact hlt)
      obtain ⟨c0, c1, c2, c3, c4, c5, c6, hbx, hwh⟩ := hs2
      obtain ⟨A1, n1, k1, rfl, -⟩ := id hbx
      obtain ⟨A2, n2, k2, rfl, -⟩ := id hwh
      obtain ⟨s, hse⟩ : ∃ s, seeL E i = s := ⟨_, rfl⟩
      obtain ⟨s', hse'⟩ : ∃ s', seeL E (i - 1) = s' := ⟨_, rfl⟩
      rw [hse] at c0 c1 c2 c3 c4 hpr hbx hwh hasc
      rw [hse'] at hzp hasc
      clear hse hse' hs hcl hA'
      have hq0 : Below wr.heap.size wr (wr.alloc (.cells #[.int .i64 s.num, .int .i64 s.time, .int .i64 s.st, .int .i64 s.len, .int .i64 s.ep, .slice A1 n1 k1, .slice A2 n2 k2] 39)) := (Below.refl _ _).alloc (Nat.le_refl _) _
      have hqb := Blk.new wr 39 #[.int .i64 s.num, .int .i64 s.time, .int .i64 s.st, .int .i64 s.len, .int .i64 s.ep, .slice A1 n1 k1, .slice A2 n2 k2]
      obtain ⟨w2, hw2⟩ : ∃ w2, wr.alloc (.cells #[.int .i64 s.num, .int .i64 s.time, .int .i64 s.st, .int .i64 s.len, .int .i64 s.ep, .slice A1 n1 k1, .slice A2 n2 k2] 39) = w2 := ⟨_, rfl⟩
      rw [hw2] at hq0 hqb
      have hB2 := HBR.out.trans (hq0.mono hsz)
      have hpr1 : ∀ W, Below w2.heap.size w2 W → Calls Tryz.prog 74 #[.agg #[.int .i64 (p : Int), .int .i64 (need : Int), .int .i64 (hold : Int)], .agg #[.int .i64 s.num, .int .i64 s.time, .int .i64 s.st, .int .i64 s.len, .int .i64 s.ep, .slice A1 n1 k1, .slice A2 n2 k2], .slice Ah nh ch] W (BoolBelow true W) := fun W hW =>
        v_properT p s.len.toNat (need : Int) (hold : Int) s (.slice A1 n1 k1) (.slice A2 n2 k2) (.slice Ah nh ch) H W ((HWW1.out.below hB2).below hW) hp h2 ((hbx.up hq0).up hW) ((hwh.up hq0).up hW) ((HHH1.out.up hB2).up hW) hlh hpr
      have hpb2 := HPB1.out.below hB2 HPB1.out.lt
      have hvb2 := HVB1.out.below hB2 HVB1.out.lt
      clear hbx hwh hpr
      generalize s.num = z0 at *
      generalize s.time = z1 at *
      generalize s.st = z2 at *
      generalize s.len = z3 at *
      generalize s.ep = z4 at *
      have HPR := Lib.hid hpr1
      have l1 := hpb2.lt
      have l2 := hvb2.lt
      have l3 := hqb.lt
      have l4 : b < w2.heap.size := Nat.lt_of_lt_of_le hSb hB2.size
      have lim : ∀ W, Below w2.heap.size w2 W → W.cell? ⟨w.heap.size, 0, none⟩ = some (.int .i64 (p : Int)) ∧ W.cell? ⟨w.heap.size, 1, none⟩ = some (.int .i64 (need : Int)) ∧ W.cell? ⟨w.heap.size, 2, none⟩ = some (.int .i64 (hold : Int)) ∧ W.cell? ⟨w.heap.size + 1, 0, none⟩ = some (.slice Ah nh ch) ∧ W.cell? ⟨w.heap.size + 1, 1, none⟩ = some (.slice (some ⟨b, off, none⟩) n c) ∧ W.cell? ⟨wr.heap.size, 0, none⟩ = some (Value.int .i64 z0) ∧ W.cell? ⟨wr.heap.size, 1, none⟩ = some (Value.int .i64 z1) ∧ W.cell? ⟨wr.heap.size, 2, none⟩ = some (Value.int .i64 z2) ∧ W.cell? ⟨wr.heap.size, 3, none⟩ = some (Value.int .i64 z3) ∧ W.cell? ⟨wr.heap.size, 4, none⟩ = some (Value.int .i64 z4) ∧ W.cell? ⟨wr.heap.size, 5, none⟩ = some (Value.slice A1 n1 k1) ∧ W.cell? ⟨wr.heap.size, 6, none⟩ = some (Value.slice A2 n2 k2) ∧ Hid (Below w2.heap.size w2 W) := fun W hW =>
        ⟨(hW.cell (p := ⟨w.heap.size, 0, none⟩) l1).trans ((hpb2.cell 0).trans rfl), (hW.cell (p := ⟨w.heap.size, 1, none⟩) l1).trans ((hpb2.cell 1).trans rfl), (hW.cell (p := ⟨w.heap.size, 2, none⟩) l1).trans ((hpb2.cell 2).trans rfl), (hW.cell (p := ⟨w.heap.size + 1, 0, none⟩) l2).trans ((hvb2.cell 0).trans rfl), (hW.cell (p := ⟨w.heap.size + 1, 1, none⟩) l2).trans ((hvb2.cell 1).trans rfl),
          (hW.cell (p := ⟨wr.heap.size, 0, none⟩) l3).trans ((hqb.cell 0).trans rfl), (hW.cell (p := ⟨wr.heap.size, 1, none⟩) l3).trans ((hqb.cell 1).trans rfl), (hW.cell (p := ⟨wr.heap.size, 2, none⟩) l3).trans ((hqb.cell 2).trans rfl), (hW.cell (p := ⟨wr.heap.size, 3, none⟩) l3).trans ((hqb.cell 3).trans rfl), (hW.cell (p := ⟨wr.heap.size, 4, none⟩) l3).trans ((hqb.cell 4).trans rfl), (hW.cell (p := ⟨wr.heap.size, 5, none⟩) l3).trans ((hqb.cell 5).trans rfl), (hW.cell (p := ⟨wr.heap.size, 6, none⟩) l3).trans ((hqb.cell 6).trans rfl), Lib.hid hW⟩
      have K0 : Hid (Below w2.heap.size w2 w2.drew) := Lib.hid (Below.refl _ _).drew
      have HB2 := Lib.hid hB2
      have zi : (i : Int) < (n : Int) := by omega
      have zi0 : (0 : Int) ≤ (i : Int) := by omega
      rcases Nat.eq_zero_or_pos i with h0 | h0
      · have g0 : ¬ (0 : Int) < (i : Int) := by omega
        have g0n : decide (0 < i) = false := decide_eq_false (by omega)
        have LIM := Lib.hid lim
        clear lim hpb2 hvb2 hqb hq0 hB2 hzp hasc hpr1 h0
        go_wp2_with fail
        try rw [hw2]
        clear hw2
        refine wp_region_held_drew (S := (fun W => W.cell? ⟨w.heap.size, 0, none⟩ = some (.int .i64 (p : Int)) ∧ W.cell? ⟨w.heap.size, 1, none⟩ = some (.int .i64 (need : Int)) ∧ W.cell? ⟨w.heap.size, 2, none⟩ = some (.int .i64 (hold : Int)) ∧ W.cell? ⟨w.heap.size + 1, 0, none⟩ = some (.slice Ah nh ch) ∧ W.cell? ⟨w.heap.size + 1, 1, none⟩ = some (.slice (some ⟨b, off, none⟩) n c) ∧ W.cell? ⟨wr.heap.size, 0, none⟩ = some (Value.int .i64 z0) ∧ W.cell? ⟨wr.heap.size, 1, none⟩ = some (Value.int .i64 z1) ∧ W.cell? ⟨wr.heap.size, 2, none⟩ = some (Value.int .i64 z2) ∧ W.cell? ⟨wr.heap.size, 3, none⟩ = some (Value.int .i64 z3) ∧ W.cell? ⟨wr.heap.size, 4, none⟩ = some (Value.int .i64 z4) ∧ W.cell? ⟨wr.heap.size, 5, none⟩ = some (Value.slice A1 n1 k1) ∧ W.cell? ⟨wr.heap.size, 6, none⟩ = some (Value.slice A2 n2 k2) ∧ Hid (Below w2.heap.size w2 W))) hmx (LIM.out _ K0.out) (fun hHeld => ?_)
        refine wpAnyH_take (i := 0) (v := ?_) rfl (by kernel_rfl) (by kernel_rfl) (by kernel_rfl) (fun _ _ _ h => h) (Or.inl ⟨by rfl, ?_⟩) (by assumption) ?_
        rotate_left
        · (intro w hSw; (try dsimp only at hSw); go_split_ands; go_simp; try (with_reducible rfl))
        try simp only [Act.put, List.getElem_toArray, List.getElem_cons_succ, List.getElem_cons_zero, List.setIfInBounds_toArray, List.set_cons_zero, List.set_cons_succ]
        refine wpAnyH_take (i := 1) (v := ?_) rfl (by kernel_rfl) (by kernel_rfl) (by kernel_rfl) (fun _ _ _ h => h) (Or.inl ⟨by rfl, ?_⟩) (by assumption) ?_
        rotate_left
        · (intro w hSw; (try dsimp only at hSw); go_split_ands; go_simp; try (with_reducible rfl))
        try simp only [Act.put, List.getElem_toArray, List.getElem_cons_succ, List.getElem_cons_zero, List.setIfInBounds_toArray, List.set_cons_zero, List.set_cons_succ]
        refine wpAnyH_take (i := 2) (v := ?_) rfl (by kernel_rfl) (by kernel_rfl) (by kernel_rfl) (fun _ _ _ h => h) (Or.inl ⟨by rfl, ?_⟩) (by assumption) ?_
        rotate_left
        · (intro w hSw; (try dsimp only at hSw); go_split_ands; go_simp; try (with_reducible rfl))
        try simp only [Act.put, List.getElem_toArray, List.getElem_cons_succ, List.getElem_cons_zero, List.setIfInBounds_toArray, List.set_cons_zero, List.set_cons_succ]
        refine wpAnyH_take (i := 3) (v := ?_) rfl (by kernel_rfl) (by kernel_rfl) (by kernel_rfl) (fun _ _ _ h => h) (Or.inl ⟨by rfl, ?_⟩) (by assumption) ?_
        rotate_left
        · (intro w hSw; (try dsimp only at hSw); go_split_ands; go_simp; try (with_reducible rfl))
        try simp only [Act.put, List.getElem_toArray, List.getElem_cons_succ, List.getElem_cons_zero, List.setIfInBounds_toArray, List.set_cons_zero, List.set_cons_succ]
        refine wpAnyH_ready (rs := [4]) (by kernel_rfl) (by simp) ?_
        refine AllReadyH.cons rfl (fun K hK => ?_) AllReadyH.nil
        go_simp
        go_at_call 74
        refine (HPR.out _ K0.out).mono ?_
        rintro e w3 ⟨rfl, hbx⟩
        have K1 := Lib.hid (K0.out.trans (hbx.mono K0.out.size))
        clear hbx
        refine hK.out _ _ (LIM.out _ K1.out) (fun hHeld => ?_)
        clear hK K
        try simp only [Act.put, List.getElem_toArray, List.getElem_cons_succ, List.getElem_cons_zero, List.setIfInBounds_toArray, List.set_cons_zero, List.set_cons_succ]
        refine wpAnyH_take (i := 5) (v := ?_) rfl (by kernel_rfl) (by kernel_rfl) (by kernel_rfl) (fun _ _ _ h => h) (Or.inl ⟨by rfl, ?_⟩) (by assumption) ?_
        rotate_left
        · (intro w hSw; (try dsimp only at hSw); go_split_ands; go_simp; try (with_reducible rfl))
        try simp only [Act.put, List.getElem_toArray, List.getElem_cons_succ, List.getElem_cons_zero, List.setIfInBounds_toArray, List.set_cons_zero, List.set_cons_succ]
        refine wpAnyH_take (i := 6) (v := ?_) rfl (by kernel_rfl) (by kernel_rfl) (by kernel_rfl) (fun _ _ _ h => h) (Or.inl ⟨by rfl, ?_⟩) (by assumption) ?_
        rotate_left
        · (intro w hSw; (try dsimp only at hSw); go_split_ands; go_simp; try (with_reducible rfl))
        try simp only [Act.put, List.getElem_toArray, List.getElem_cons_succ, List.getElem_cons_zero, List.setIfInBounds_toArray, List.set_cons_zero, List.set_cons_succ]
        refine wpAnyH_take (i := 7) (v := ?_) rfl (by kernel_rfl) (by kernel_rfl) (by kernel_rfl) (fun _ _ _ h => h) (Or.inl ⟨by rfl, ?_⟩) (by assumption) ?_
        rotate_left
        · (intro w hSw; (try dsimp only at hSw); go_split_ands; go_simp; try (with_reducible rfl))
        try simp only [Act.put, List.getElem_toArray, List.getElem_cons_succ, List.getElem_cons_zero, List.setIfInBounds_toArray, List.set_cons_zero, List.set_cons_succ]
        refine wpAnyH_take (i := 8) (v := ?_) rfl (by kernel_rfl) (by kernel_rfl) (by kernel_rfl) (fun _ _ _ h => h) (Or.inl ⟨by rfl, ?_⟩) (by assumption) ?_
        rotate_left
        · (intro w hSw; (try dsimp only at hSw); go_split_ands; go_simp; try (with_reducible rfl))
        try simp only [Act.put, List.getElem_toArray, List.getElem_cons_succ, List.getElem_cons_zero, List.setIfInBounds_toArray, List.set_cons_zero, List.set_cons_succ]
        refine wpAnyH_take (i := 9) (v := ?_) rfl (by kernel_rfl) (by kernel_rfl) (by kernel_rfl) (fun _ _ _ h => h) (Or.inl ⟨by rfl, ?_⟩) (by assumption) ?_
        rotate_left
        · (intro w hSw; (try dsimp only at hSw); go_split_ands; go_simp; try (with_reducible rfl))
        try simp only [Act.put, List.getElem_toArray, List.getElem_cons_succ, List.getElem_cons_zero, List.setIfInBounds_toArray, List.set_cons_zero, List.set_cons_succ]
        refine wpAnyH_take (i := 10) (v := undef) rfl (by kernel_rfl) (by kernel_rfl) (by kernel_rfl) (fun _ _ _ h => h) (Or.inr ⟨by rfl, rfl⟩) (by assumption) ?_
        try simp only [Act.put, List.getElem_toArray, List.getElem_cons_succ, List.getElem_cons_zero, List.setIfInBounds_toArray, List.set_cons_zero, List.set_cons_succ]
        refine wpAnyH_take (i := 11) (v := undef) rfl (by kernel_rfl) (by kernel_rfl) (by kernel_rfl) (fun _ _ _ h => h) (Or.inr ⟨by rfl, rfl⟩) (by assumption) ?_
        try simp only [Act.put, List.getElem_toArray, List.getElem_cons_succ, List.getElem_cons_zero, List.setIfInBounds_toArray, List.set_cons_zero, List.set_cons_succ]
        refine wpAnyH_take (i := 12) (v := undef) rfl (by kernel_rfl) (by kernel_rfl) (by kernel_rfl) (fun _ _ _ h => h) (Or.inr ⟨by rfl, rfl⟩) (by assumption) ?_
        try simp only [Act.put, List.getElem_toArray, List.getElem_cons_succ, List.getElem_cons_zero, List.setIfInBounds_toArray, List.set_cons_zero, List.set_cons_succ]
        refine wpAnyH_take (i := 13) (v := undef) rfl (by kernel_rfl) (by kernel_rfl) (by kernel_rfl) (fun _ _ _ h => h) (Or.inr ⟨by rfl, rfl⟩) (by assumption) ?_
        try simp only [Act.put, List.getElem_toArray, List.getElem_cons_succ, List.getElem_cons_zero, List.setIfInBounds_toArray, List.set_cons_zero, List.set_cons_succ]
        refine wpAnyH_take (i := 14) (v := undef) rfl (by kernel_rfl) (by kernel_rfl) (by kernel_rfl) (fun _ _ _ h => h) (Or.inr ⟨by rfl, rfl⟩) (by assumption) ?_
        try simp only [Act.put, List.getElem_toArray, List.getElem_cons_succ, List.getElem_cons_zero, List.setIfInBounds_toArray, List.set_cons_zero, List.set_cons_succ]
        refine wpAnyH_take (i := 15) (v := undef) rfl (by kernel_rfl) (by kernel_rfl) (by kernel_rfl) (fun _ _ _ h => h) (Or.inr ⟨by rfl, rfl⟩) (by assumption) ?_
        try simp only [Act.put, List.getElem_toArray, List.getElem_cons_succ, List.getElem_cons_zero, List.setIfInBounds_toArray, List.set_cons_zero, List.set_cons_succ]
        refine wpAnyH_take (i := 16) (v := undef) rfl (by kernel_rfl) (by kernel_rfl) (by kernel_rfl) (fun _ _ _ h => h) (Or.inr ⟨by rfl, rfl⟩) (by assumption) ?_
        try simp only [Act.put, List.getElem_toArray, List.getElem_cons_succ, List.getElem_cons_zero, List.setIfInBounds_toArray, List.set_cons_zero, List.set_cons_succ]
        refine wpAnyH_take (i := 17) (v := undef) rfl (by kernel_rfl) (by kernel_rfl) (by kernel_rfl) (fun _ _ _ h => h) (Or.inr ⟨by rfl, rfl⟩) (by assumption) ?_
        try simp only [Act.put, List.getElem_toArray, List.getElem_cons_succ, List.getElem_cons_zero, List.setIfInBounds_toArray, List.set_cons_zero, List.set_cons_succ]
        refine wpAnyH_take (i := 18) (v := undef) rfl (by kernel_rfl) (by kernel_rfl) (by kernel_rfl) (fun _ _ _ h => h) (Or.inr ⟨by rfl, rfl⟩) (by assumption) ?_
        try simp only [Act.put, List.getElem_toArray, List.getElem_cons_succ, List.getElem_cons_zero, List.setIfInBounds_toArray, List.set_cons_zero, List.set_cons_succ]
        refine wpAnyH_take (i := 19) (v := undef) rfl (by kernel_rfl) (by kernel_rfl) (by kernel_rfl) (fun _ _ _ h => h) (Or.inr ⟨by rfl, rfl⟩) (by assumption) ?_
        try simp only [Act.put, List.getElem_toArray, List.getElem_cons_succ, List.getElem_cons_zero, List.setIfInBounds_toArray, List.set_cons_zero, List.set_cons_succ]
        refine wpAnyH_take (i := 20) (v := ?_) rfl (by kernel_rfl) (by kernel_rfl) (by kernel_rfl) (fun _ _ _ h => h) (Or.inl ⟨by rfl, ?_⟩) (by assumption) ?_
        rotate_left
        · (intro w hSw; (try dsimp only at hSw); go_split_ands; go_simp; try (with_reducible rfl))
        try simp only [Act.put, List.getElem_toArray, List.getElem_cons_succ, List.getElem_cons_zero, List.setIfInBounds_toArray, List.set_cons_zero, List.set_cons_succ]
        refine wpAnyH_take (i := 21) (v := ?_) rfl (by kernel_rfl) (by kernel_rfl) (by kernel_rfl) (fun _ _ _ h => h) (Or.inl ⟨by rfl, ?_⟩) (by assumption) ?_
        rotate_left
        · (intro w hSw; (try dsimp only at hSw); go_split_ands; go_simp; try (with_reducible rfl))
        try simp only [Act.put, List.getElem_toArray, List.getElem_cons_succ, List.getElem_cons_zero, List.setIfInBounds_toArray, List.set_cons_zero, List.set_cons_succ]
        refine wpAnyH_done (by kernel_rfl) ?_ _
        have HBE := Lib.hid (HB2.out.trans (K1.out.mono HB2.out.size))
        go_wp2_with fail
        go_roundw
        case measure => simp [intOf]; omega
        case rel => first | exact ⟨i + 1, by omega, by go_num, HBE.out⟩ | ((repeat apply Exists.intro); exact ⟨⟨i + 1, by omega, by go_num, HBE.out⟩, rfl⟩)
      · have g0 : (0 : Int) < (i : Int) := by omega
        have g0n : decide (0 < i) = true := decide_eq_true (by omega)
        have hzq := hzp h0
        have hasq := hasc h0
        clear hzp hasc
        have q4 : (1 : Int) ≤ (i : Int) := by omega
        generalize s'.num = zp at *
        have wi : IntKind.i64.wrap ((i : Int) - 1) = (i : Int) - 1 := wraps_i64_63 _ (by omega) (by omega)
        have q1 : (0 : Int) ≤ (i : Int) - 1 := by omega
        have q2 : (i : Int) - 1 < (n : Int) := by omega
        have q3 : ((i : Int) - 1).toNat = i - 1 := by omega
        have l5 : wr.heap.size ≤ w2.heap.size := hq0.size
        have hzp2 : w2.cell? ⟨b, off + (i - 1) * 7, none⟩ = some (.int .i64 zp) := (hq0.cell (p := ⟨b, off + (i - 1) * 7, none⟩) (Nat.lt_of_lt_of_le hSb hsz)).trans hzq
        have t9 : decide (z0 ≤ zp) = false := decide_eq_false (by omega)
        have LIM := Lib.hid (fun W (hW : Below w2.heap.size w2 W) => (show W.cell? ⟨w.heap.size, 0, none⟩ = some (.int .i64 (p : Int)) ∧ W.cell? ⟨w.heap.size, 1, none⟩ = some (.int .i64 (need : Int)) ∧ W.cell? ⟨w.heap.size, 2, none⟩ = some (.int .i64 (hold : Int)) ∧ W.cell? ⟨w.heap.size + 1, 0, none⟩ = some (.slice Ah nh ch) ∧ W.cell? ⟨w.heap.size + 1, 1, none⟩ = some (.slice (some ⟨b, off, none⟩) n c) ∧ W.cell? ⟨wr.heap.size, 0, none⟩ = some (Value.int .i64 z0) ∧ W.cell? ⟨wr.heap.size, 1, none⟩ = some (Value.int .i64 z1) ∧ W.cell? ⟨wr.heap.size, 2, none⟩ = some (Value.int .i64 z2) ∧ W.cell? ⟨wr.heap.size, 3, none⟩ = some (Value.int .i64 z3) ∧ W.cell? ⟨wr.heap.size, 4, none⟩ = some (Value.int .i64 z4) ∧ W.cell? ⟨wr.heap.size, 5, none⟩ = some (Value.slice A1 n1 k1) ∧ W.cell? ⟨wr.heap.size, 6, none⟩ = some (Value.slice A2 n2 k2) ∧ W.cell? ⟨b, off + (i - 1) * 7, none⟩ = some (.int .i64 zp) ∧ Hid (Below w2.heap.size w2 W) from by
          obtain ⟨a0, a1, a2, a3, a4, a5, a6, a7, a8, a9, a10, a11, a12⟩ := lim W hW
          exact ⟨a0, a1, a2, a3, a4, a5, a6, a7, a8, a9, a10, a11, (hW.cell (p := ⟨b, off + (i - 1) * 7, none⟩) l4).trans hzp2, a12⟩))
        clear lim hpb2 hvb2 hqb hq0 hB2 hzq hasq hpr1 h0 hzp2
        go_wp2_with fail
        try rw [hw2]
        clear hw2
        refine wp_region_held_drew (S := (fun W => W.cell? ⟨w.heap.size, 0, none⟩ = some (.int .i64 (p : Int)) ∧ W.cell? ⟨w.heap.size, 1, none⟩ = some (.int .i64 (need : Int)) ∧ W.cell? ⟨w.heap.size, 2, none⟩ = some (.int .i64 (hold : Int)) ∧ W.cell? ⟨w.heap.size + 1, 0, none⟩ = some (.slice Ah nh ch) ∧ W.cell? ⟨w.heap.size + 1, 1, none⟩ = some (.slice (some ⟨b, off, none⟩) n c) ∧ W.cell? ⟨wr.heap.size, 0, none⟩ = some (Value.int .i64 z0) ∧ W.cell? ⟨wr.heap.size, 1, none⟩ = some (Value.int .i64 z1) ∧ W.cell? ⟨wr.heap.size, 2, none⟩ = some (Value.int .i64 z2) ∧ W.cell? ⟨wr.heap.size, 3, none⟩ = some (Value.int .i64 z3) ∧ W.cell? ⟨wr.heap.size, 4, none⟩ = some (Value.int .i64 z4) ∧ W.cell? ⟨wr.heap.size, 5, none⟩ = some (Value.slice A1 n1 k1) ∧ W.cell? ⟨wr.heap.size, 6, none⟩ = some (Value.slice A2 n2 k2) ∧ W.cell? ⟨b, off + (i - 1) * 7, none⟩ = some (.int .i64 zp) ∧ Hid (Below w2.heap.size w2 W))) hmx (LIM.out _ K0.out) (fun hHeld => ?_)
        refine wpAnyH_take (i := 0) (v := ?_) rfl (by kernel_rfl) (by kernel_rfl) (by kernel_rfl) (fun _ _ _ h => h) (Or.inl ⟨by rfl, ?_⟩) (by assumption) ?_
        rotate_left
        · (intro w hSw; (try dsimp only at hSw); go_split_ands; go_simp; try (with_reducible rfl))
        try simp only [Act.put, List.getElem_toArray, List.getElem_cons_succ, List.getElem_cons_zero, List.setIfInBounds_toArray, List.set_cons_zero, List.set_cons_succ]
        refine wpAnyH_take (i := 1) (v := ?_) rfl (by kernel_rfl) (by kernel_rfl) (by kernel_rfl) (fun _ _ _ h => h) (Or.inl ⟨by rfl, ?_⟩) (by assumption) ?_
        rotate_left
        · (intro w hSw; (try dsimp only at hSw); go_split_ands; go_simp; try (with_reducible rfl))
        try simp only [Act.put, List.getElem_toArray, List.getElem_cons_succ, List.getElem_cons_zero, List.setIfInBounds_toArray, List.set_cons_zero, List.set_cons_succ]
        refine wpAnyH_take (i := 2) (v := ?_) rfl (by kernel_rfl) (by kernel_rfl) (by kernel_rfl) (fun _ _ _ h => h) (Or.inl ⟨by rfl, ?_⟩) (by assumption) ?_
        rotate_left
        · (intro w hSw; (try dsimp only at hSw); go_split_ands; go_simp; try (with_reducible rfl))
        try simp only [Act.put, List.getElem_toArray, List.getElem_cons_succ, List.getElem_cons_zero, List.setIfInBounds_toArray, List.set_cons_zero, List.set_cons_succ]
        refine wpAnyH_take (i := 3) (v := ?_) rfl (by kernel_rfl) (by kernel_rfl) (by kernel_rfl) (fun _ _ _ h => h) (Or.inl ⟨by rfl, ?_⟩) (by assumption) ?_
        rotate_left
        · (intro w hSw; (try dsimp only at hSw); go_split_ands; go_simp; try (with_reducible rfl))
        try simp only [Act.put, List.getElem_toArray, List.getElem_cons_succ, List.getElem_cons_zero, List.setIfInBounds_toArray, List.set_cons_zero, List.set_cons_succ]
        refine wpAnyH_ready (rs := [4]) (by kernel_rfl) (by simp) ?_
        refine AllReadyH.cons rfl (fun K hK => ?_) AllReadyH.nil
        go_simp
        go_at_call 74
        refine (HPR.out _ K0.out).mono ?_
        rintro e w3 ⟨rfl, hbx⟩
        have K1 := Lib.hid (K0.out.trans (hbx.mono K0.out.size))
        clear hbx
        refine hK.out _ _ (LIM.out _ K1.out) (fun hHeld => ?_)
        clear hK K
        try simp only [Act.put, List.getElem_toArray, List.getElem_cons_succ, List.getElem_cons_zero, List.setIfInBounds_toArray, List.set_cons_zero, List.set_cons_succ]
        refine wpAnyH_take (i := 5) (v := ?_) rfl (by kernel_rfl) (by kernel_rfl) (by kernel_rfl) (fun _ _ _ h => h) (Or.inl ⟨by rfl, ?_⟩) (by assumption) ?_
        rotate_left
        · (intro w hSw; (try dsimp only at hSw); go_split_ands; go_simp; try (with_reducible rfl))
        try simp only [Act.put, List.getElem_toArray, List.getElem_cons_succ, List.getElem_cons_zero, List.setIfInBounds_toArray, List.set_cons_zero, List.set_cons_succ]
        refine wpAnyH_take (i := 6) (v := ?_) rfl (by kernel_rfl) (by kernel_rfl) (by kernel_rfl) (fun _ _ _ h => h) (Or.inl ⟨by rfl, ?_⟩) (by assumption) ?_
        rotate_left
        · (intro w hSw; (try dsimp only at hSw); go_split_ands; go_simp; try (with_reducible rfl))
        try simp only [Act.put, List.getElem_toArray, List.getElem_cons_succ, List.getElem_cons_zero, List.setIfInBounds_toArray, List.set_cons_zero, List.set_cons_succ]
        refine wpAnyH_take (i := 7) (v := ?_) rfl (by kernel_rfl) (by kernel_rfl) (by kernel_rfl) (fun _ _ _ h => h) (Or.inl ⟨by rfl, ?_⟩) (by assumption) ?_
        rotate_left
        · (intro w hSw; (try dsimp only at hSw); go_split_ands; go_simp; try (with_reducible rfl))
        try simp only [Act.put, List.getElem_toArray, List.getElem_cons_succ, List.getElem_cons_zero, List.setIfInBounds_toArray, List.set_cons_zero, List.set_cons_succ]
        refine wpAnyH_take (i := 8) (v := ?_) rfl (by kernel_rfl) (by kernel_rfl) (by kernel_rfl) (fun _ _ _ h => h) (Or.inl ⟨by rfl, ?_⟩) (by assumption) ?_
        rotate_left
        · (intro w hSw; (try dsimp only at hSw); go_split_ands; go_simp; try (with_reducible rfl))
        try simp only [Act.put, List.getElem_toArray, List.getElem_cons_succ, List.getElem_cons_zero, List.setIfInBounds_toArray, List.set_cons_zero, List.set_cons_succ]
        refine wpAnyH_take (i := 9) (v := ?_) rfl (by kernel_rfl) (by kernel_rfl) (by kernel_rfl) (fun _ _ _ h => h) (Or.inl ⟨by rfl, ?_⟩) (by assumption) ?_
        rotate_left
        · (intro w hSw; (try dsimp only at hSw); go_split_ands; go_simp; try (with_reducible rfl))
        try simp only [Act.put, List.getElem_toArray, List.getElem_cons_succ, List.getElem_cons_zero, List.setIfInBounds_toArray, List.set_cons_zero, List.set_cons_succ]
        refine wpAnyH_take (i := 10) (v := ?_) rfl (by kernel_rfl) (by kernel_rfl) (by kernel_rfl) (fun _ _ _ h => h) (Or.inl ⟨by rfl, ?_⟩) (by assumption) ?_
        rotate_left
        · (intro w hSw; (try dsimp only at hSw); go_split_ands; go_simp; try (with_reducible rfl))
        try simp only [Act.put, List.getElem_toArray, List.getElem_cons_succ, List.getElem_cons_zero, List.setIfInBounds_toArray, List.set_cons_zero, List.set_cons_succ]
        refine wpAnyH_take (i := 11) (v := ?_) rfl (by kernel_rfl) (by kernel_rfl) (by kernel_rfl) (fun _ _ _ h => h) (Or.inl ⟨by rfl, ?_⟩) (by assumption) ?_
        rotate_left
        · (intro w hSw; (try dsimp only at hSw); go_split_ands; go_simp; try (with_reducible rfl))
        try simp only [Act.put, List.getElem_toArray, List.getElem_cons_succ, List.getElem_cons_zero, List.setIfInBounds_toArray, List.set_cons_zero, List.set_cons_succ]
        refine wpAnyH_take (i := 12) (v := ?_) rfl (by kernel_rfl) (by kernel_rfl) (by kernel_rfl) (fun _ _ _ h => h) (Or.inl ⟨by rfl, ?_⟩) (by assumption) ?_
        rotate_left
        · (intro w hSw; (try dsimp only at hSw); go_split_ands; go_simp; try (with_reducible rfl))
        try simp only [Act.put, List.getElem_toArray, List.getElem_cons_succ, List.getElem_cons_zero, List.setIfInBounds_toArray, List.set_cons_zero, List.set_cons_succ]
        refine wpAnyH_take (i := 13) (v := ?_) rfl (by kernel_rfl) (by kernel_rfl) (by kernel_rfl) (fun _ _ _ h => h) (Or.inl ⟨by rfl, ?_⟩) (by assumption) ?_
        rotate_left
        · (intro w hSw; (try dsimp only at hSw); go_split_ands; go_simp; try (with_reducible rfl))
        try simp only [Act.put, List.getElem_toArray, List.getElem_cons_succ, List.getElem_cons_zero, List.setIfInBounds_toArray, List.set_cons_zero, List.set_cons_succ]
        refine wpAnyH_take (i := 14) (v := ?_) rfl (by kernel_rfl) (by kernel_rfl) (by kernel_rfl) (fun _ _ _ h => h) (Or.inl ⟨by rfl, ?_⟩) (by assumption) ?_
        rotate_left
        · (intro w hSw; (try dsimp only at hSw); go_split_ands; go_simp; try (with_reducible rfl))
        try simp only [Act.put, List.getElem_toArray, List.getElem_cons_succ, List.getElem_cons_zero, List.setIfInBounds_toArray, List.set_cons_zero, List.set_cons_succ]
        refine wpAnyH_take (i := 15) (v := ?_) rfl (by kernel_rfl) (by kernel_rfl) (by kernel_rfl) (fun _ _ _ h => h) (Or.inl ⟨by rfl, ?_⟩) (by assumption) ?_
        rotate_left
        · (intro w hSw; (try dsimp only at hSw); go_split_ands; go_simp; try (with_reducible rfl))
        try simp only [Act.put, List.getElem_toArray, List.getElem_cons_succ, List.getElem_cons_zero, List.setIfInBounds_toArray, List.set_cons_zero, List.set_cons_succ]
        refine wpAnyH_take (i := 16) (v := ?_) rfl (by kernel_rfl) (by kernel_rfl) (by kernel_rfl) (fun _ _ _ h => h) (Or.inl ⟨by rfl, ?_⟩) (by assumption) ?_
        rotate_left
        · (intro w hSw; (try dsimp only at hSw); go_split_ands; go_simp; try (with_reducible rfl))
        try simp only [Act.put, List.getElem_toArray, List.getElem_cons_succ, List.getElem_cons_zero, List.setIfInBounds_toArray, List.set_cons_zero, List.set_cons_succ]
        refine wpAnyH_take (i := 17) (v := ?_) rfl (by kernel_rfl) (by kernel_rfl) (by kernel_rfl) (fun _ _ _ h => h) (Or.inl ⟨by rfl, ?_⟩) (by assumption) ?_
        rotate_left
        · (intro w hSw; (try dsimp only at hSw); go_split_ands; go_simp; try (with_reducible rfl))
        try simp only [Act.put, List.getElem_toArray, List.getElem_cons_succ, List.getElem_cons_zero, List.setIfInBounds_toArray, List.set_cons_zero, List.set_cons_succ]
        refine wpAnyH_take (i := 18) (v := ?_) rfl (by kernel_rfl) (by kernel_rfl) (by kernel_rfl) (fun _ _ _ h => h) (Or.inl ⟨by rfl, ?_⟩) (by assumption) ?_
        rotate_left
        · (intro w hSw; (try dsimp only at hSw); go_split_ands; go_simp; try (with_reducible rfl))
        try simp only [Act.put, List.getElem_toArray, List.getElem_cons_succ, List.getElem_cons_zero, List.setIfInBounds_toArray, List.set_cons_zero, List.set_cons_succ]
        refine wpAnyH_take (i := 19) (v := ?_) rfl (by kernel_rfl) (by kernel_rfl) (by kernel_rfl) (fun _ _ _ h => h) (Or.inl ⟨by rfl, ?_⟩) (by assumption) ?_
        rotate_left
        · (intro w hSw; (try dsimp only at hSw); go_split_ands; go_simp; try (with_reducible rfl))
        try simp only [Act.put, List.getElem_toArray, List.getElem_cons_succ, List.getElem_cons_zero, List.setIfInBounds_toArray, List.set_cons_zero, List.set_cons_succ]
        refine wpAnyH_take (i := 20) (v := ?_) rfl (by kernel_rfl) (by kernel_rfl) (by kernel_rfl) (fun _ _ _ h => h) (Or.inl ⟨by rfl, ?_⟩) (by assumption) ?_
        rotate_left
        · (intro w hSw; (try dsimp only at hSw); go_split_ands; go_simp; try (with_reducible rfl))
        try simp only [Act.put, List.getElem_toArray, List.getElem_cons_succ, List.getElem_cons_zero, List.setIfInBounds_toArray, List.set_cons_zero, List.set_cons_succ]
        refine wpAnyH_take (i := 21) (v := ?_) rfl (by kernel_rfl) (by kernel_rfl) (by kernel_rfl) (fun _ _ _ h => h) (Or.inl ⟨by rfl, ?_⟩) (by assumption) ?_
        rotate_left
        · (intro w hSw; (try dsimp only at hSw); go_split_ands; go_simp; try (with_reducible rfl))
        try simp only [Act.put, List.getElem_toArray, List.getElem_cons_succ, List.getElem_cons_zero, List.setIfInBounds_toArray, List.set_cons_zero, List.set_cons_succ]
        refine wpAnyH_done (by kernel_rfl) ?_ _
        have HBE := Lib.hid (HB2.out.trans (K1.out.mono HB2.out.size))
        go_wp2_with fail
        go_roundw
        case measure => simp [intOf]; omega
        case rel => first | exact ⟨i + 1, by omega, by go_num, HBE.out⟩ | ((repeat apply Exists.intro); exact ⟨⟨i + 1, by omega, by go_num, HBE.out⟩, rfl⟩)
    · obtain rfl : i = n := by omega
      have HBE := Lib.hid (HB1.out.trans (HBR.out.mono HB1.out.size))
      have zi : ¬ (i : Int) < (i : Int) := by omega
      go_wp2_with fail
      go_ret
      exact ⟨rfl, HBE.out⟩
end Go.Proofs.YtgeahbmaeaoeeaaGreatDoor

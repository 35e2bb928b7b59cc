/- Contracts: whether contents fit a view of no entries; the sanity check of chapter 41. -/
import Derived.Test.YtgeahbmaeaoeeaaGreatDoorQ44
import Derived.Deep.RegionHeld3
set_option linter.unusedVariables false
set_option linter.unusedSimpArgs false
namespace Go.Proofs.YtgeahbmaeaoeeaaGreatDoor
open Go.RowKit Num

set_option maxRecDepth 100000 in
set_option maxHeartbeats 4000000 in
theorem q_FitsE (p need hold : Nat) (Ah At Al : Option Addr) (nh ch co nt ct n c : Nat) (u : Int) (H : List Int) (b : Bool) (w : World) (hw : BasesOk w) (hp : PlanP p need hold)
    (hH : IntsAt w (· < w.heap.size) (.slice Ah nh ch) H) (hlh : H.length ≤ 1000000) (hg : RisP H 1 (hold : Int)) (hn : n ≤ 1000) (hb : decide (n = 0) = b)
    (hop : ∀ W, Below w.heap.size w W → Calls Tryz.prog 43 #[.slice Al n c] W fun e w' => e = .returned (.slice none 0 0) ∧ Below W.heap.size W w') :
    Calls Tryz.prog 20 #[.agg #[.int .i64 (p : Int), .int .i64 (need : Int), .int .i64 (hold : Int)], .agg #[.slice Ah nh ch, .slice none 0 0, .slice none 0 co, .slice At nt ct], .slice Al n c, .int .i64 u] w (BoolBelow b w) := by
  have hmx : Tryz.prog.follows .mixedOrders = true := by kernel_rfl
  have hmf : ∀ (fn : Fn) (first cap : Array Value) (w : World), (Instr.makeFunc fn first cap).run Tryz.prog w = .ok (.func fn first cap) w := fun _ _ _ _ => rfl
  have hb0 := (((Below.refl w.heap.size w).alloc (Nat.le_refl _) (.cells #[.int .i64 (p : Int), .int .i64 (need : Int), .int .i64 (hold : Int)] 29)).alloc (by simp) (.cells #[.slice Ah nh ch, .slice none 0 0, .slice none 0 co, .slice At nt ct] 44)).alloc (by simp; omega) (.cells #[.int .i64 u] 3)
  have hpb := ((Blk.new w 29 #[.int .i64 (p : Int), .int .i64 (need : Int), .int .i64 (hold : Int)]).alloc (.cells #[.slice Ah nh ch, .slice none 0 0, .slice none 0 co, .slice At nt ct] 44)).alloc (.cells #[.int .i64 u] 3)
  have hvb := (Blk.new (w.alloc (.cells #[.int .i64 (p : Int), .int .i64 (need : Int), .int .i64 (hold : Int)] 29)) 44 #[.slice Ah nh ch, .slice none 0 0, .slice none 0 co, .slice At nt ct]).alloc (.cells #[.int .i64 u] 3)
  rw [World.size_alloc] at hvb
  obtain ⟨w0, hw0⟩ : ∃ w0, (((w.alloc (.cells #[.int .i64 (p : Int), .int .i64 (need : Int), .int .i64 (hold : Int)] 29)).alloc (.cells #[.slice Ah nh ch, .slice none 0 0, .slice none 0 co, .slice At nt ct] 44)).alloc (.cells #[.int .i64 u] 3)) = w0 := ⟨_, rfl⟩
  rw [hw0] at hb0 hpb hvb
  have hgv : GoodV p hold H [] := ⟨hg, fun k hk => absurd hk (Nat.not_lt_zero k), fun k _ hk => absurd hk (Nat.not_lt_zero k)⟩
  have hck : ∀ W, Below w0.heap.size w0 W → Calls Tryz.prog 41 #[.agg #[.int .i64 (p : Int), .int .i64 (need : Int), .int .i64 (hold : Int)], .agg #[.slice Ah nh ch, .slice none 0 0, .slice none 0 co, .slice At nt ct]] W (IntBelowM 0 W) := fun W hW =>
    v_CheckT p need hold (.slice Ah nh ch) (.slice none 0 0) none At 0 co nt ct H [] W ((hw.below hb0).below hW) hp.prm hp.le hp.n1 hp.n2 hp.n3 hp.n4 ((hH.up hb0).up hW) (SeensAt.none_ _ _ _) hlh (Nat.zero_le _) hgv
  have hopn : ∀ W, Below w0.heap.size w0 W → Calls Tryz.prog 43 #[.slice Al n c] W fun e w' => e = .returned (.slice none 0 0) ∧ Below W.heap.size W w' := fun W hW => hop W (hb0.trans (hW.mono hb0.size))
  have hes := fun (fn : Value) W => q_EqSt0 fn 0 co W
  have hst : ∀ W, Calls Tryz.prog 27 #[.agg #[.slice Ah nh ch, .slice none 0 0, .slice none 0 co, .slice At nt ct]] W (SeensE [] W) := fun W => q_standingN _ _ _ _ [] W (SeensAt.none_ _ _ _) (Nat.zero_le _) (fun k hk => absurd hk (Nat.not_lt_zero k))
  have hcs := fun (fn : Value) (B : Option Addr) (d : Nat) W => q_EqCS0 fn Al B n c d hn b hb W
  have lim : ∀ W, Below w0.heap.size w0 W → W.cell? ⟨w.heap.size, 0, none⟩ = some (.int .i64 (p : Int)) ∧ W.cell? ⟨w.heap.size, 1, none⟩ = some (.int .i64 (need : Int)) ∧ W.cell? ⟨w.heap.size, 2, none⟩ = some (.int .i64 (hold : Int)) ∧ W.cell? ⟨w.heap.size + 1, 0, none⟩ = some (.slice Ah nh ch) ∧ W.cell? ⟨w.heap.size + 1, 1, none⟩ = some (.slice none 0 0) ∧ W.cell? ⟨w.heap.size + 1, 2, none⟩ = some (.slice none 0 co) ∧ W.cell? ⟨w.heap.size + 1, 3, none⟩ = some (.slice At nt ct) ∧ Hid (Below w0.heap.size w0 W) := fun W hW =>
    ⟨(hW.cell (p := ⟨w.heap.size, 0, none⟩) hpb.lt).trans ((hpb.cell 0).trans rfl), (hW.cell (p := ⟨w.heap.size, 1, none⟩) hpb.lt).trans ((hpb.cell 1).trans rfl), (hW.cell (p := ⟨w.heap.size, 2, none⟩) hpb.lt).trans ((hpb.cell 2).trans rfl), (hW.cell (p := ⟨w.heap.size + 1, 0, none⟩) hvb.lt).trans ((hvb.cell 0).trans rfl), (hW.cell (p := ⟨w.heap.size + 1, 1, none⟩) hvb.lt).trans ((hvb.cell 1).trans rfl), (hW.cell (p := ⟨w.heap.size + 1, 2, none⟩) hvb.lt).trans ((hvb.cell 2).trans rfl), (hW.cell (p := ⟨w.heap.size + 1, 3, none⟩) hvb.lt).trans ((hvb.cell 3).trans rfl), Lib.hid hW⟩
  have HCK := Lib.hid hck
  have HOP := Lib.hid hopn
  have HES := Lib.hid hes
  have HST := Lib.hid hst
  have HCS := Lib.hid hcs
  have HB0 := Lib.hid hb0
  have LIM := Lib.hid lim
  have K0 : Hid (Below w0.heap.size w0 w0.drew) := Lib.hid (Below.refl _ _).drew
  clear hck hopn hes hst hcs hb0 lim hpb hvb hw hH hg hgv hb hop hlh
  go_enter Tryz.func20, Tryz.ntmps20
  go_wp2_with fail
  try rw [hw0]
  clear hw0
  refine wp_region_held_drew (S := (fun W => W.cell? ⟨w.heap.size, 0, none⟩ = some (.int .i64 (p : Int)) ∧ W.cell? ⟨w.heap.size, 1, none⟩ = some (.int .i64 (need : Int)) ∧ W.cell? ⟨w.heap.size, 2, none⟩ = some (.int .i64 (hold : Int)) ∧ W.cell? ⟨w.heap.size + 1, 0, none⟩ = some (.slice Ah nh ch) ∧ W.cell? ⟨w.heap.size + 1, 1, none⟩ = some (.slice none 0 0) ∧ W.cell? ⟨w.heap.size + 1, 2, none⟩ = some (.slice none 0 co) ∧ W.cell? ⟨w.heap.size + 1, 3, none⟩ = some (.slice At nt ct) ∧ Hid (Below w0.heap.size w0 W))) hmx (LIM.out _ K0.out) (fun hHeld => ?_)
  refine wpAnyH_take (i := 0) (v := ?_) rfl (by kernel_rfl) (by kernel_rfl) (by kernel_rfl) (fun _ _ _ h => h) (Or.inl ⟨by rfl, ?_⟩) (by assumption) ?_
  rotate_left
  · (intro w hSw; (try dsimp only at hSw); go_split_ands; go_simp; try (with_reducible rfl))
  try simp only [Act.put, List.getElem_toArray, List.getElem_cons_succ, List.getElem_cons_zero, List.setIfInBounds_toArray, List.set_cons_zero, List.set_cons_succ]
  refine wpAnyH_take (i := 1) (v := ?_) rfl (by kernel_rfl) (by kernel_rfl) (by kernel_rfl) (fun _ _ _ h => h) (Or.inl ⟨by rfl, ?_⟩) (by assumption) ?_
  rotate_left
  · (intro w hSw; (try dsimp only at hSw); go_split_ands; go_simp; try (with_reducible rfl))
  try simp only [Act.put, List.getElem_toArray, List.getElem_cons_succ, List.getElem_cons_zero, List.setIfInBounds_toArray, List.set_cons_zero, List.set_cons_succ]
  refine wpAnyH_ready (rs := [2]) (by kernel_rfl) (by simp) ?_
  refine AllReadyH.cons rfl (fun K hK => ?_) AllReadyH.nil
  go_simp
  go_at_call 41
  refine (HCK.out _ K0.out).mono ?_
  rintro e w1 ⟨rfl, hbx⟩
  have K1 := Lib.hid (K0.out.trans (hbx.mono K0.out.size))
  clear hbx
  refine hK.out _ _ (LIM.out _ K1.out) (fun hHeld => ?_)
  clear hK K
  try simp only [Act.put, List.getElem_toArray, List.getElem_cons_succ, List.getElem_cons_zero, List.setIfInBounds_toArray, List.set_cons_zero, List.set_cons_succ]
  refine wpAnyH_take (i := 3) (v := ?_) rfl (by kernel_rfl) (by kernel_rfl) (by kernel_rfl) (fun _ _ _ h => h) (Or.inl ⟨by rfl, ?_⟩) (by assumption) ?_
  rotate_left
  · (intro w hSw; (try dsimp only at hSw); go_split_ands; go_simp; try (with_reducible rfl))
  try simp only [Act.put, List.getElem_toArray, List.getElem_cons_succ, List.getElem_cons_zero, List.setIfInBounds_toArray, List.set_cons_zero, List.set_cons_succ]
  refine wpAnyH_take (i := 4) (v := ?_) rfl (by kernel_rfl) (by kernel_rfl) (by kernel_rfl) (fun _ _ _ h => h) (Or.inl ⟨by rfl, ?_⟩) (by assumption) ?_
  rotate_left
  · (intro w hSw; (try dsimp only at hSw); go_split_ands; go_simp; try (with_reducible rfl))
  try simp only [Act.put, List.getElem_toArray, List.getElem_cons_succ, List.getElem_cons_zero, List.setIfInBounds_toArray, List.set_cons_zero, List.set_cons_succ]
  refine wpAnyH_take (i := 5) (v := ?_) rfl (by kernel_rfl) (by kernel_rfl) (by kernel_rfl) (fun _ _ _ h => h) (Or.inl ⟨by rfl, ?_⟩) (by assumption) ?_
  rotate_left
  · (intro w hSw; (try dsimp only at hSw); go_split_ands; go_simp; try (with_reducible rfl))
  try simp only [Act.put, List.getElem_toArray, List.getElem_cons_succ, List.getElem_cons_zero, List.setIfInBounds_toArray, List.set_cons_zero, List.set_cons_succ]
  refine wpAnyH_take (i := 7) (v := ?_) rfl (by kernel_rfl) (by kernel_rfl) (by kernel_rfl) (fun _ _ _ h => h) (Or.inl ⟨by rfl, ?_⟩) (by assumption) ?_
  rotate_left
  · (intro w hSw; (try dsimp only at hSw); go_split_ands; go_simp; try (with_reducible rfl))
  try simp only [Act.put, List.getElem_toArray, List.getElem_cons_succ, List.getElem_cons_zero, List.setIfInBounds_toArray, List.set_cons_zero, List.set_cons_succ]
  refine wpAnyH_take (i := 8) (v := ?_) rfl (by kernel_rfl) (by kernel_rfl) (by kernel_rfl) (fun _ _ _ h => h) (Or.inl ⟨by rfl, ?_⟩) (by assumption) ?_
  rotate_left
  · (intro w hSw; (try dsimp only at hSw); go_split_ands; go_simp; try (with_reducible rfl))
  try simp only [Act.put, List.getElem_toArray, List.getElem_cons_succ, List.getElem_cons_zero, List.setIfInBounds_toArray, List.set_cons_zero, List.set_cons_succ]
  refine wpAnyH_ready (rs := [6]) (by kernel_rfl) (by simp) ?_
  refine AllReadyH.cons rfl (fun K hK => ?_) AllReadyH.nil
  go_simp
  go_at_call 43
  refine (HOP.out _ K1.out).mono ?_
  rintro e w2 ⟨rfl, hbx⟩
  have K2 := Lib.hid (K1.out.trans (hbx.mono K1.out.size))
  clear hbx
  refine hK.out _ _ (LIM.out _ K2.out) (fun hHeld => ?_)
  clear hK K
  try simp only [Act.put, List.getElem_toArray, List.getElem_cons_succ, List.getElem_cons_zero, List.setIfInBounds_toArray, List.set_cons_zero, List.set_cons_succ]
  refine wpAnyH_ready (rs := [9]) (by kernel_rfl) (by simp) ?_
  refine AllReadyH.cons rfl (fun K hK => ?_) AllReadyH.nil
  go_simp
  go_at_call 42
  refine (HES.out _ _).mono ?_
  rintro e w3 ⟨rfl, hbx⟩
  have K3 := Lib.hid (K2.out.trans (hbx.mono K2.out.size))
  clear hbx
  refine hK.out _ _ (LIM.out _ K3.out) (fun hHeld => ?_)
  clear hK K
  try simp only [Act.put, List.getElem_toArray, List.getElem_cons_succ, List.getElem_cons_zero, List.setIfInBounds_toArray, List.set_cons_zero, List.set_cons_succ]
  refine wpAnyH_take (i := 10) (v := ?_) rfl (by kernel_rfl) (by kernel_rfl) (by kernel_rfl) (fun _ _ _ h => h) (Or.inl ⟨by rfl, ?_⟩) (by assumption) ?_
  rotate_left
  · (intro w hSw; (try dsimp only at hSw); go_split_ands; go_simp; try (with_reducible rfl))
  try simp only [Act.put, List.getElem_toArray, List.getElem_cons_succ, List.getElem_cons_zero, List.setIfInBounds_toArray, List.set_cons_zero, List.set_cons_succ]
  refine wpAnyH_take (i := 11) (v := ?_) rfl (by kernel_rfl) (by kernel_rfl) (by kernel_rfl) (fun _ _ _ h => h) (Or.inl ⟨by rfl, ?_⟩) (by assumption) ?_
  rotate_left
  · (intro w hSw; (try dsimp only at hSw); go_split_ands; go_simp; try (with_reducible rfl))
  try simp only [Act.put, List.getElem_toArray, List.getElem_cons_succ, List.getElem_cons_zero, List.setIfInBounds_toArray, List.set_cons_zero, List.set_cons_succ]
  refine wpAnyH_take (i := 12) (v := ?_) rfl (by kernel_rfl) (by kernel_rfl) (by kernel_rfl) (fun _ _ _ h => h) (Or.inl ⟨by rfl, ?_⟩) (by assumption) ?_
  rotate_left
  · (intro w hSw; (try dsimp only at hSw); go_split_ands; go_simp; try (with_reducible rfl))
  try simp only [Act.put, List.getElem_toArray, List.getElem_cons_succ, List.getElem_cons_zero, List.setIfInBounds_toArray, List.set_cons_zero, List.set_cons_succ]
  refine wpAnyH_take (i := 13) (v := ?_) rfl (by kernel_rfl) (by kernel_rfl) (by kernel_rfl) (fun _ _ _ h => h) (Or.inl ⟨by rfl, ?_⟩) (by assumption) ?_
  rotate_left
  · (intro w hSw; (try dsimp only at hSw); go_split_ands; go_simp; try (with_reducible rfl))
  try simp only [Act.put, List.getElem_toArray, List.getElem_cons_succ, List.getElem_cons_zero, List.setIfInBounds_toArray, List.set_cons_zero, List.set_cons_succ]
  refine wpAnyH_take (i := 15) (v := ?_) rfl (by kernel_rfl) (by kernel_rfl) (by kernel_rfl) (fun _ _ _ h => h) (Or.inl ⟨by rfl, ?_⟩) (by assumption) ?_
  rotate_left
  · (intro w hSw; (try dsimp only at hSw); go_split_ands; go_simp; try (with_reducible rfl))
  try simp only [Act.put, List.getElem_toArray, List.getElem_cons_succ, List.getElem_cons_zero, List.setIfInBounds_toArray, List.set_cons_zero, List.set_cons_succ]
  refine wpAnyH_ready (rs := [14]) (by kernel_rfl) (by simp) ?_
  refine AllReadyH.cons rfl (fun K hK => ?_) AllReadyH.nil
  go_simp
  go_at_call 27
  refine (HST.out _).mono ?_
  rintro e w4 ⟨vs, rfl, hs4, hbx⟩
  have K4 := Lib.hid (K3.out.trans (hbx.mono K3.out.size))
  clear hbx
  obtain ⟨A4, n4, c4, rfl, hn4, -⟩ := id hs4
  obtain rfl : n4 = 0 := hn4
  clear hs4
  refine hK.out _ _ (LIM.out _ K4.out) (fun hHeld => ?_)
  clear hK K
  try simp only [Act.put, List.getElem_toArray, List.getElem_cons_succ, List.getElem_cons_zero, List.setIfInBounds_toArray, List.set_cons_zero, List.set_cons_succ]
  refine wpAnyH_ready (rs := [16]) (by kernel_rfl) (by simp) ?_
  refine AllReadyH.cons rfl (fun K hK => ?_) AllReadyH.nil
  go_simp
  go_at_call 44
  refine (HCS.out _ _ _ _).mono ?_
  rintro e w5 ⟨rfl, hbx⟩
  have K5 := Lib.hid (K4.out.trans (hbx.mono K4.out.size))
  clear hbx
  refine hK.out _ _ (LIM.out _ K5.out) (fun hHeld => ?_)
  clear hK K
  try simp only [Act.put, List.getElem_toArray, List.getElem_cons_succ, List.getElem_cons_zero, List.setIfInBounds_toArray, List.set_cons_zero, List.set_cons_succ]
  refine wpAnyH_take (i := 17) (v := ?_) rfl (by kernel_rfl) (by kernel_rfl) (by kernel_rfl) (fun _ _ _ h => h) (Or.inl ⟨by rfl, ?_⟩) (by assumption) ?_
  rotate_left
  · (intro w hSw; (try dsimp only at hSw); go_split_ands; go_simp; try (with_reducible rfl))
  try simp only [Act.put, List.getElem_toArray, List.getElem_cons_succ, List.getElem_cons_zero, List.setIfInBounds_toArray, List.set_cons_zero, List.set_cons_succ]
  refine wpAnyH_take (i := 18) (v := ?_) rfl (by kernel_rfl) (by kernel_rfl) (by kernel_rfl) (fun _ _ _ h => h) (Or.inl ⟨by rfl, ?_⟩) (by assumption) ?_
  rotate_left
  · (intro w hSw; (try dsimp only at hSw); go_split_ands; go_simp; try (with_reducible rfl))
  try simp only [Act.put, List.getElem_toArray, List.getElem_cons_succ, List.getElem_cons_zero, List.setIfInBounds_toArray, List.set_cons_zero, List.set_cons_succ]
  refine wpAnyH_done (by kernel_rfl) ?_ _
  have HBE := Lib.hid (HB0.out.trans (K5.out.mono HB0.out.size))
  go_wp2_with fail
  go_ret
  exact ⟨by cases b <;> rfl, HBE.out⟩
set_option maxRecDepth 100000 in
set_option maxHeartbeats 2000000 in
theorem q_OtherE (p need hold : Nat) (Ah At : Option Addr) (nh ch co nt ct c : Nat) (u : Int) (H : List Int) (w : World) (hw : BasesOk w) (hp : PlanP p need hold)
    (hH : IntsAt w (· < w.heap.size) (.slice Ah nh ch) H) (hlh : H.length < need) (hg : RisP H 1 (hold : Int)) :
    Calls Tryz.prog 18 #[.agg #[.int .i64 (p : Int), .int .i64 (need : Int), .int .i64 (hold : Int)], .agg #[.slice Ah nh ch, .slice none 0 0, .slice none 0 co, .slice At nt ct], .slice none 0 c, .int .i64 u] w fun e w' => (∃ A d, e = .returned (.tuple #[.slice A 0 d, .int .i64 0])) ∧ Below w.heap.size w w' := by
  have hn16 := hp.n2
  have hn17 := hp.n3
  have hb0 := ((Below.refl w.heap.size w).alloc (Nat.le_refl _) (.cells #[.int .i64 (p : Int), .int .i64 (need : Int), .int .i64 (hold : Int)] 29)).alloc (by simp) (.cells #[.slice Ah nh ch, .slice none 0 0, .slice none 0 co, .slice At nt ct] 44)
  have hpb := (Blk.new w 29 #[.int .i64 (p : Int), .int .i64 (need : Int), .int .i64 (hold : Int)]).alloc (.cells #[.slice Ah nh ch, .slice none 0 0, .slice none 0 co, .slice At nt ct] 44)
  have hvb := Blk.new (w.alloc (.cells #[.int .i64 (p : Int), .int .i64 (need : Int), .int .i64 (hold : Int)] 29)) 44 #[.slice Ah nh ch, .slice none 0 0, .slice none 0 co, .slice At nt ct]
  rw [World.size_alloc] at hvb
  have hgv : GoodV p hold H [] := ⟨hg, fun k hk => absurd hk (Nat.not_lt_zero k), fun k _ hk => absurd hk (Nat.not_lt_zero k)⟩
  have hbe := q_belowT p need hold Ah none none At nh ch 0 0 0 co nt ct H [] _ (hw.below hb0) hp (hH.up hb0) (SeensAt.none_ _ _ _) (by omega) (Nat.zero_le _) hgv 0 (.inr ⟨hlh, rfl⟩)
  have hfi : ∀ W, Below w.heap.size w W → Calls Tryz.prog 20 #[.agg #[.int .i64 (p : Int), .int .i64 (need : Int), .int .i64 (hold : Int)], .agg #[.slice Ah nh ch, .slice none 0 0, .slice none 0 co, .slice At nt ct], .slice none 0 c, .int .i64 u] W (BoolBelow true W) := fun W hW =>
    q_FitsE p need hold Ah At none nh ch co nt ct 0 c u H true W (hw.below hW) hp (hH.up hW) (by omega) hg (by omega) rfl (fun W2 _ => q_opened0 c W2)
  have hst : ∀ W, Calls Tryz.prog 27 #[.agg #[.slice Ah nh ch, .slice none 0 0, .slice none 0 co, .slice At nt ct]] W (SeensE [] W) := fun W => q_standingN _ _ _ _ [] W (SeensAt.none_ _ _ _) (Nat.zero_le _) (fun k hk => absurd hk (Nat.not_lt_zero k))
  have HBE := Lib.hid hbe
  have HFI := Lib.hid hfi
  have HST := Lib.hid hst
  have HB0 := Lib.hid hb0
  have HPB := Lib.hid hpb
  have HVB := Lib.hid hvb
  have p0 := (hpb.cell 0).trans (show _ = some (Value.int .i64 (p : Int)) from rfl)
  have p1 := (hpb.cell 1).trans (show _ = some (Value.int .i64 (need : Int)) from rfl)
  have p2 := (hpb.cell 2).trans (show _ = some (Value.int .i64 (hold : Int)) from rfl)
  have y0 := (hvb.cell 0).trans (show _ = some (Value.slice Ah nh ch) from rfl)
  have y1 := (hvb.cell 1).trans (show _ = some (Value.slice none 0 0) from rfl)
  have y2 := (hvb.cell 2).trans (show _ = some (Value.slice none 0 co) from rfl)
  have y3 := (hvb.cell 3).trans (show _ = some (Value.slice At nt ct) from rfl)
  clear hbe hfi hst hb0 hpb hvb hw hH hg hgv hlh hn16 hn17
  go_enter Tryz.func18, Tryz.ntmps18
  go_wp2_with fail
  generalize ((w.alloc (.cells #[.int .i64 (p : Int), .int .i64 (need : Int), .int .i64 (hold : Int)] 29)).alloc (.cells #[.slice Ah nh ch, .slice none 0 0, .slice none 0 co, .slice At nt ct] 44)) = w0 at *
  refine HBE.out.mono ?_
  rintro e w1 ⟨rfl, hb1⟩
  have HB1 := Lib.hid (HB0.out.trans (hb1.mono HB0.out.size))
  have HPB1 := Lib.hid (HPB.out.below hb1 HPB.out.lt)
  have HVB1 := Lib.hid (HVB.out.below hb1 HVB.out.lt)
  clear hb1 p0 p1 p2 y0 y1 y2 y3
  have p0 := (HPB1.out.cell 0).trans (show _ = some (Value.int .i64 (p : Int)) from rfl)
  have p1 := (HPB1.out.cell 1).trans (show _ = some (Value.int .i64 (need : Int)) from rfl)
  have p2 := (HPB1.out.cell 2).trans (show _ = some (Value.int .i64 (hold : Int)) from rfl)
  have y0 := (HVB1.out.cell 0).trans (show _ = some (Value.slice Ah nh ch) from rfl)
  have y1 := (HVB1.out.cell 1).trans (show _ = some (Value.slice none 0 0) from rfl)
  have y2 := (HVB1.out.cell 2).trans (show _ = some (Value.slice none 0 co) from rfl)
  have y3 := (HVB1.out.cell 3).trans (show _ = some (Value.slice At nt ct) from rfl)
  go_wp2_with fail
  refine (HFI.out _ HB1.out).mono ?_
  rintro e w2 ⟨rfl, hb2⟩
  have HB2 := Lib.hid (HB1.out.trans (hb2.mono HB1.out.size))
  have HVB2 := Lib.hid (HVB1.out.below hb2 HVB1.out.lt)
  clear hb2 p0 p1 p2 y0 y1 y2 y3
  have y0 := (HVB2.out.cell 0).trans (show _ = some (Value.slice Ah nh ch) from rfl)
  have y1 := (HVB2.out.cell 1).trans (show _ = some (Value.slice none 0 0) from rfl)
  have y2 := (HVB2.out.cell 2).trans (show _ = some (Value.slice none 0 co) from rfl)
  have y3 := (HVB2.out.cell 3).trans (show _ = some (Value.slice At nt ct) from rfl)
  go_wp2_with fail
  refine (HST.out _).mono ?_
  rintro e w3 ⟨v, rfl, hs3, hb3⟩
  have HB3 := Lib.hid (HB2.out.trans (hb3.mono HB2.out.size))
  obtain ⟨A, n, d, rfl, hn, -⟩ := hs3
  obtain rfl : n = 0 := hn
  clear hb3
  go_wp2_with fail
  go_loopw [34] (fun t wr => t = .int .i64 0 ∧ w3 = wr) (fun _ _ => 0)
  case atStart => exact ⟨rfl, rfl⟩
  case round =>
    obtain ⟨rfl, rfl⟩ := hrel
    go_wp2_with fail
    go_ret2
    exact ⟨⟨A, d, rfl⟩, HB3.out⟩
end Go.Proofs.YtgeahbmaeaoeeaaGreatDoor

/- Contracts: the terms of a condition as a tree. -/
import Derived.Test.YtgeahbmaeaoeeaaGreatDoorQ14
import Derived.Test.YtgeahbmaeaoeeaaGreatDoorQ15
set_option linter.unusedVariables false
set_option linter.unusedSimpArgs false
namespace Go.Proofs.YtgeahbmaeaoeeaaGreatDoor
open Go.RowKit Num

set_option maxRecDepth 100000 in
set_option maxHeartbeats 4000000 in
theorem f_grow_one (A : Option Addr) (n c b off at_ d B : Nat) (t : Trm) (w : World) (hA : A = some ⟨b, off, none⟩) (hb : b < w.heap.size) (hat : at_ < n) (hn : n ≤ 1000000) (hd : 1 ≤ d) (hd2 : d ≤ 1000) (hT : TermAt w (· < B) b (off + at_ * 6) t)
    (hf : t.field.size ≤ 4294967296) (hx : t.text.size ≤ 4294967296) (hbare : bareB t = true) (hv : severalB t.kind = true) (hlen : t.args.length = 1) :
    Calls Tryz.prog 119 #[.slice A n c, .int .i64 (at_ : Int), .int .i64 (d : Int)] w (GrowNo w) := by
  have hmx : Tryz.prog.follows .mixedOrders = true := by kernel_rfl
  subst hA
  have q0 : decide ((n : Int) ≤ (at_ : Int)) = false := by simp; omega
  have q1 : decide ((d : Int) < 1) = false := by simp; omega
  have q00 : decide (n ≤ at_) = false := by simp; omega
  have q11 : decide (d < 1) = false := by simp; omega
  have q12 : decide (d = 0) = false := by simp; omega
  have q2 : (0 : Int) ≤ (at_ : Int) := by omega
  have q3 : (at_ : Int) < (n : Int) := by omega
  obtain ⟨tk, tn, ty, tf, tt, ta⟩ := t
  obtain ⟨c0, c1, c2, c3, c4, u5, c5, hi5⟩ := hT
  have HB := Lib.hid hbare
  obtain ⟨Aa, na, ca, rfl, hna, hca, hcell⟩ := hi5
  have KS := Lib.hid (fun (W : World) (hW : Below w.heap.size w W) => (⟨(hW.cell (p := ⟨b, _, none⟩) hb).trans c0, (hW.cell (p := ⟨b, _, none⟩) hb).trans c1, (hW.cell (p := ⟨b, _, none⟩) hb).trans c2, (hW.cell (p := ⟨b, _, none⟩) hb).trans c3, (hW.cell (p := ⟨b, _, none⟩) hb).trans c4, (hW.cell (p := ⟨b, _, none⟩) hb).trans c5, Lib.hid hW⟩ : (fun W => W.cell? ⟨b, off + at_ * 6, none⟩ = some (.int .i64 tk) ∧ W.cell? ⟨b, off + at_ * 6 + 1, none⟩ = some (.int .i64 tn) ∧ W.cell? ⟨b, off + at_ * 6 + 2, none⟩ = some (.int .i64 ty) ∧ W.cell? ⟨b, off + at_ * 6 + 3, none⟩ = some (.string tf) ∧ W.cell? ⟨b, off + at_ * 6 + 4, none⟩ = some (.string tt) ∧ W.cell? ⟨b, off + at_ * 6 + 5, none⟩ = some (.slice Aa na ca) ∧ Hid (Below w.heap.size w W)) W))
  have HS0 := Lib.hid (KS.out _ (Below.refl _ _).drew)
  have HV := Lib.hid hv
  have na1 : na = 1 := by
    simp only at hna hlen
    omega
  have p1 : decide ((0 : Int) < (na : Int)) = true := by simp; omega
  have p2 : decide (0 < na) = true := by simp; omega
  have p3 : ((na : Int) == 1) = true := by simp; omega
  clear na1
  clear hbare c0 c1 c2 c3 c4 c5 hna hca hcell hv hlen
  go_enter Tryz.func119, Tryz.ntmps119
  go_wp2_with fail
  refine wp_region_held_drew (S := (fun W => W.cell? ⟨b, off + at_ * 6, none⟩ = some (.int .i64 tk) ∧ W.cell? ⟨b, off + at_ * 6 + 1, none⟩ = some (.int .i64 tn) ∧ W.cell? ⟨b, off + at_ * 6 + 2, none⟩ = some (.int .i64 ty) ∧ W.cell? ⟨b, off + at_ * 6 + 3, none⟩ = some (.string tf) ∧ W.cell? ⟨b, off + at_ * 6 + 4, none⟩ = some (.string tt) ∧ W.cell? ⟨b, off + at_ * 6 + 5, none⟩ = some (.slice Aa na ca) ∧ Hid (Below w.heap.size w W))) hmx HS0.out (fun hHeld => ?_)
  refine wpAnyH_take (i := 0) (v := ?_) rfl (by kernel_rfl) (by kernel_rfl) (by kernel_rfl) (fun _ _ _ h => h) (Or.inl ⟨by rfl, ?_⟩) (by assumption) ?_
  rotate_left
  · (intro w hSw; (try dsimp only at hSw); go_split_ands; go_simp; try (with_reducible rfl))
  try simp only [Act.put, List.getElem_toArray, List.getElem_cons_succ, List.getElem_cons_zero, List.setIfInBounds_toArray, List.set_cons_zero, List.set_cons_succ]
  refine wpAnyH_take (i := 1) (v := ?_) rfl (by kernel_rfl) (by kernel_rfl) (by kernel_rfl) (fun _ _ _ h => h) (Or.inl ⟨by rfl, ?_⟩) (by assumption) ?_
  rotate_left
  · (intro w hSw; (try dsimp only at hSw); go_split_ands; go_simp; try (with_reducible rfl))
  try simp only [Act.put, List.getElem_toArray, List.getElem_cons_succ, List.getElem_cons_zero, List.setIfInBounds_toArray, List.set_cons_zero, List.set_cons_succ]
  refine wpAnyH_take (i := 2) (v := ?_) rfl (by kernel_rfl) (by kernel_rfl) (by kernel_rfl) (fun _ _ _ h => h) (Or.inl ⟨by rfl, ?_⟩) (by assumption) ?_
  rotate_left
  · (intro w hSw; (try dsimp only at hSw); go_split_ands; go_simp; try (with_reducible rfl))
  try simp only [Act.put, List.getElem_toArray, List.getElem_cons_succ, List.getElem_cons_zero, List.setIfInBounds_toArray, List.set_cons_zero, List.set_cons_succ]
  refine wpAnyH_take (i := 3) (v := ?_) rfl (by kernel_rfl) (by kernel_rfl) (by kernel_rfl) (fun _ _ _ h => h) (Or.inl ⟨by rfl, ?_⟩) (by assumption) ?_
  rotate_left
  · (intro w hSw; (try dsimp only at hSw); go_split_ands; go_simp; try (with_reducible rfl))
  try simp only [Act.put, List.getElem_toArray, List.getElem_cons_succ, List.getElem_cons_zero, List.setIfInBounds_toArray, List.set_cons_zero, List.set_cons_succ]
  refine wpAnyH_take (i := 4) (v := ?_) rfl (by kernel_rfl) (by kernel_rfl) (by kernel_rfl) (fun _ _ _ h => h) (Or.inl ⟨by rfl, ?_⟩) (by assumption) ?_
  rotate_left
  · (intro w hSw; (try dsimp only at hSw); go_split_ands; go_simp; try (with_reducible rfl))
  try simp only [Act.put, List.getElem_toArray, List.getElem_cons_succ, List.getElem_cons_zero, List.setIfInBounds_toArray, List.set_cons_zero, List.set_cons_succ]
  refine wpAnyH_take (i := 5) (v := ?_) rfl (by kernel_rfl) (by kernel_rfl) (by kernel_rfl) (fun _ _ _ h => h) (Or.inl ⟨by rfl, ?_⟩) (by assumption) ?_
  rotate_left
  · (intro w hSw; (try dsimp only at hSw); go_split_ands; go_simp; try (with_reducible rfl))
  try simp only [Act.put, List.getElem_toArray, List.getElem_cons_succ, List.getElem_cons_zero, List.setIfInBounds_toArray, List.set_cons_zero, List.set_cons_succ]
  refine wpAnyH_take (i := 6) (v := ?_) rfl (by kernel_rfl) (by kernel_rfl) (by kernel_rfl) (fun _ _ _ h => h) (Or.inl ⟨by rfl, ?_⟩) (by assumption) ?_
  rotate_left
  · (intro w hSw; (try dsimp only at hSw); go_split_ands; go_simp; try (with_reducible rfl))
  try simp only [Act.put, List.getElem_toArray, List.getElem_cons_succ, List.getElem_cons_zero, List.setIfInBounds_toArray, List.set_cons_zero, List.set_cons_succ]
  refine wpAnyH_take (i := 7) (v := ?_) rfl (by kernel_rfl) (by kernel_rfl) (by kernel_rfl) (fun _ _ _ h => h) (Or.inl ⟨by rfl, ?_⟩) (by assumption) ?_
  rotate_left
  · (intro w hSw; (try dsimp only at hSw); go_split_ands; go_simp; try (with_reducible rfl))
  try simp only [Act.put, List.getElem_toArray, List.getElem_cons_succ, List.getElem_cons_zero, List.setIfInBounds_toArray, List.set_cons_zero, List.set_cons_succ]
  refine wpAnyH_take (i := 8) (v := ?_) rfl (by kernel_rfl) (by kernel_rfl) (by kernel_rfl) (fun _ _ _ h => h) (Or.inl ⟨by rfl, ?_⟩) (by assumption) ?_
  rotate_left
  · (intro w hSw; (try dsimp only at hSw); go_split_ands; go_simp; try (with_reducible rfl))
  try simp only [Act.put, List.getElem_toArray, List.getElem_cons_succ, List.getElem_cons_zero, List.setIfInBounds_toArray, List.set_cons_zero, List.set_cons_succ]
  refine wpAnyH_take (i := 9) (v := ?_) rfl (by kernel_rfl) (by kernel_rfl) (by kernel_rfl) (fun _ _ _ h => h) (Or.inl ⟨by rfl, ?_⟩) (by assumption) ?_
  rotate_left
  · (intro w hSw; (try dsimp only at hSw); go_split_ands; go_simp; try (with_reducible rfl))
  try simp only [Act.put, List.getElem_toArray, List.getElem_cons_succ, List.getElem_cons_zero, List.setIfInBounds_toArray, List.set_cons_zero, List.set_cons_succ]
  refine wpAnyH_take (i := 10) (v := ?_) rfl (by kernel_rfl) (by kernel_rfl) (by kernel_rfl) (fun _ _ _ h => h) (Or.inl ⟨by rfl, ?_⟩) (by assumption) ?_
  rotate_left
  · (intro w hSw; (try dsimp only at hSw); go_split_ands; go_simp; try (with_reducible rfl))
  try simp only [Act.put, List.getElem_toArray, List.getElem_cons_succ, List.getElem_cons_zero, List.setIfInBounds_toArray, List.set_cons_zero, List.set_cons_succ]
  refine wpAnyH_take (i := 11) (v := ?_) rfl (by kernel_rfl) (by kernel_rfl) (by kernel_rfl) (fun _ _ _ h => h) (Or.inl ⟨by rfl, ?_⟩) (by assumption) ?_
  rotate_left
  · (intro w hSw; (try dsimp only at hSw); go_split_ands; go_simp; try (with_reducible rfl))
  try simp only [Act.put, List.getElem_toArray, List.getElem_cons_succ, List.getElem_cons_zero, List.setIfInBounds_toArray, List.set_cons_zero, List.set_cons_succ]
  refine wpAnyH_take (i := 12) (v := ?_) rfl (by kernel_rfl) (by kernel_rfl) (by kernel_rfl) (fun _ _ _ h => h) (Or.inl ⟨by rfl, ?_⟩) (by assumption) ?_
  rotate_left
  · (intro w hSw; (try dsimp only at hSw); go_split_ands; go_simp; try (with_reducible rfl))
  try simp only [Act.put, List.getElem_toArray, List.getElem_cons_succ, List.getElem_cons_zero, List.setIfInBounds_toArray, List.set_cons_zero, List.set_cons_succ]
  refine wpAnyH_ready (rs := [13]) (by kernel_rfl) (by simp) ?_
  refine AllReadyH.cons rfl (fun K hK => ?_) AllReadyH.nil
  go_simp
  go_at_call 129
  refine (f_bare tk tn ty tf tt _ _ _ ta _ hf hx).mono ?_
  rintro e wk ⟨rfl, hbk⟩
  rw [HB.out]
  have HK := Lib.hid (KS.out wk ((Below.refl w.heap.size w).drew.trans hbk))
  clear hbk
  refine hK.out _ _ (HK.out) (fun hHeld => ?_)
  clear hK K
  try simp only [Act.put, List.getElem_toArray, List.getElem_cons_succ, List.getElem_cons_zero, List.setIfInBounds_toArray, List.set_cons_zero, List.set_cons_succ]
  refine wpAnyH_take (i := 14) (v := ?_) rfl (by kernel_rfl) (by kernel_rfl) (by kernel_rfl) (fun _ _ _ h => h) (Or.inl ⟨by rfl, ?_⟩) (by assumption) ?_
  rotate_left
  · (intro w hSw; (try dsimp only at hSw); go_split_ands; go_simp; try (with_reducible rfl))
  try simp only [Act.put, List.getElem_toArray, List.getElem_cons_succ, List.getElem_cons_zero, List.setIfInBounds_toArray, List.set_cons_zero, List.set_cons_succ]
  refine wpAnyH_take (i := 15) (v := ?_) rfl (by kernel_rfl) (by kernel_rfl) (by kernel_rfl) (fun _ _ _ h => h) (Or.inl ⟨by rfl, ?_⟩) (by assumption) ?_
  rotate_left
  · (intro w hSw; (try dsimp only at hSw); go_split_ands; go_simp; try (with_reducible rfl))
  try simp only [Act.put, List.getElem_toArray, List.getElem_cons_succ, List.getElem_cons_zero, List.setIfInBounds_toArray, List.set_cons_zero, List.set_cons_succ]
  refine wpAnyH_take (i := 16) (v := ?_) rfl (by kernel_rfl) (by kernel_rfl) (by kernel_rfl) (fun _ _ _ h => h) (Or.inl ⟨by rfl, ?_⟩) (by assumption) ?_
  rotate_left
  · (intro w hSw; (try dsimp only at hSw); go_split_ands; go_simp; try (with_reducible rfl))
  try simp only [Act.put, List.getElem_toArray, List.getElem_cons_succ, List.getElem_cons_zero, List.setIfInBounds_toArray, List.set_cons_zero, List.set_cons_succ]
  refine wpAnyH_take (i := 17) (v := ?_) rfl (by kernel_rfl) (by kernel_rfl) (by kernel_rfl) (fun _ _ _ h => h) (Or.inl ⟨by rfl, ?_⟩) (by assumption) ?_
  rotate_left
  · (intro w hSw; (try dsimp only at hSw); go_split_ands; go_simp; try (with_reducible rfl))
  try simp only [Act.put, List.getElem_toArray, List.getElem_cons_succ, List.getElem_cons_zero, List.setIfInBounds_toArray, List.set_cons_zero, List.set_cons_succ]
  refine wpAnyH_take (i := 18) (v := ?_) rfl (by kernel_rfl) (by kernel_rfl) (by kernel_rfl) (fun _ _ _ h => h) (Or.inl ⟨by rfl, ?_⟩) (by assumption) ?_
  rotate_left
  · (intro w hSw; (try dsimp only at hSw); go_split_ands; go_simp; try (with_reducible rfl))
  try simp only [Act.put, List.getElem_toArray, List.getElem_cons_succ, List.getElem_cons_zero, List.setIfInBounds_toArray, List.set_cons_zero, List.set_cons_succ]
  refine wpAnyH_take (i := 19) (v := ?_) rfl (by kernel_rfl) (by kernel_rfl) (by kernel_rfl) (fun _ _ _ h => h) (Or.inl ⟨by rfl, ?_⟩) (by assumption) ?_
  rotate_left
  · (intro w hSw; (try dsimp only at hSw); go_split_ands; go_simp; try (with_reducible rfl))
  try simp only [Act.put, List.getElem_toArray, List.getElem_cons_succ, List.getElem_cons_zero, List.setIfInBounds_toArray, List.set_cons_zero, List.set_cons_succ]
  refine wpAnyH_take (i := 20) (v := ?_) rfl (by kernel_rfl) (by kernel_rfl) (by kernel_rfl) (fun _ _ _ h => h) (Or.inl ⟨by rfl, ?_⟩) (by assumption) ?_
  rotate_left
  · (intro w hSw; (try dsimp only at hSw); go_split_ands; go_simp; try (with_reducible rfl))
  try simp only [Act.put, List.getElem_toArray, List.getElem_cons_succ, List.getElem_cons_zero, List.setIfInBounds_toArray, List.set_cons_zero, List.set_cons_succ]
  refine wpAnyH_take (i := 21) (v := ?_) rfl (by kernel_rfl) (by kernel_rfl) (by kernel_rfl) (fun _ _ _ h => h) (Or.inl ⟨by rfl, ?_⟩) (by assumption) ?_
  rotate_left
  · (intro w hSw; (try dsimp only at hSw); go_split_ands; go_simp; try (with_reducible rfl))
  try simp only [Act.put, List.getElem_toArray, List.getElem_cons_succ, List.getElem_cons_zero, List.setIfInBounds_toArray, List.set_cons_zero, List.set_cons_succ]
  refine wpAnyH_take (i := 23) (v := ?_) rfl (by kernel_rfl) (by kernel_rfl) (by kernel_rfl) (fun _ _ _ h => h) (Or.inl ⟨by rfl, ?_⟩) (by assumption) ?_
  rotate_left
  · (intro w hSw; (try dsimp only at hSw); go_split_ands; go_simp; try (with_reducible rfl))
  try simp only [Act.put, List.getElem_toArray, List.getElem_cons_succ, List.getElem_cons_zero, List.setIfInBounds_toArray, List.set_cons_zero, List.set_cons_succ]
  refine wpAnyH_take (i := 24) (v := ?_) rfl (by kernel_rfl) (by kernel_rfl) (by kernel_rfl) (fun _ _ _ h => h) (Or.inl ⟨by rfl, ?_⟩) (by assumption) ?_
  rotate_left
  · (intro w hSw; (try dsimp only at hSw); go_split_ands; go_simp; try (with_reducible rfl))
  try simp only [Act.put, List.getElem_toArray, List.getElem_cons_succ, List.getElem_cons_zero, List.setIfInBounds_toArray, List.set_cons_zero, List.set_cons_succ]
  refine wpAnyH_take (i := 25) (v := ?_) rfl (by kernel_rfl) (by kernel_rfl) (by kernel_rfl) (fun _ _ _ h => h) (Or.inl ⟨by rfl, ?_⟩) (by assumption) ?_
  rotate_left
  · (intro w hSw; (try dsimp only at hSw); go_split_ands; go_simp; try (with_reducible rfl))
  try simp only [Act.put, List.getElem_toArray, List.getElem_cons_succ, List.getElem_cons_zero, List.setIfInBounds_toArray, List.set_cons_zero, List.set_cons_succ]
  refine wpAnyH_take (i := 26) (v := ?_) rfl (by kernel_rfl) (by kernel_rfl) (by kernel_rfl) (fun _ _ _ h => h) (Or.inl ⟨by rfl, ?_⟩) (by assumption) ?_
  rotate_left
  · (intro w hSw; (try dsimp only at hSw); go_split_ands; go_simp; try (with_reducible rfl))
  try simp only [Act.put, List.getElem_toArray, List.getElem_cons_succ, List.getElem_cons_zero, List.setIfInBounds_toArray, List.set_cons_zero, List.set_cons_succ]
  refine wpAnyH_take (i := 27) (v := ?_) rfl (by kernel_rfl) (by kernel_rfl) (by kernel_rfl) (fun _ _ _ h => h) (Or.inl ⟨by rfl, ?_⟩) (by assumption) ?_
  rotate_left
  · (intro w hSw; (try dsimp only at hSw); go_split_ands; go_simp; try (with_reducible rfl))
  try simp only [Act.put, List.getElem_toArray, List.getElem_cons_succ, List.getElem_cons_zero, List.setIfInBounds_toArray, List.set_cons_zero, List.set_cons_succ]
  refine wpAnyH_take (i := 28) (v := ?_) rfl (by kernel_rfl) (by kernel_rfl) (by kernel_rfl) (fun _ _ _ h => h) (Or.inl ⟨by rfl, ?_⟩) (by assumption) ?_
  rotate_left
  · (intro w hSw; (try dsimp only at hSw); go_split_ands; go_simp; try (with_reducible rfl))
  try simp only [Act.put, List.getElem_toArray, List.getElem_cons_succ, List.getElem_cons_zero, List.setIfInBounds_toArray, List.set_cons_zero, List.set_cons_succ]
  refine wpAnyH_take (i := 29) (v := ?_) rfl (by kernel_rfl) (by kernel_rfl) (by kernel_rfl) (fun _ _ _ h => h) (Or.inl ⟨by rfl, ?_⟩) (by assumption) ?_
  rotate_left
  · (intro w hSw; (try dsimp only at hSw); go_split_ands; go_simp; try (with_reducible rfl))
  try simp only [Act.put, List.getElem_toArray, List.getElem_cons_succ, List.getElem_cons_zero, List.setIfInBounds_toArray, List.set_cons_zero, List.set_cons_succ]
  refine wpAnyH_ready (rs := [22]) (by kernel_rfl) (by simp) ?_
  refine AllReadyH.cons rfl (fun K hK => ?_) AllReadyH.nil
  go_simp
  go_at_call 130
  refine (f_several tk _).mono ?_
  rintro e wk' ⟨rfl, rfl⟩
  rw [HV.out]
  refine hK.out _ _ (HK.out) (fun hHeld => ?_)
  clear hK K
  try simp only [Act.put, List.getElem_toArray, List.getElem_cons_succ, List.getElem_cons_zero, List.setIfInBounds_toArray, List.set_cons_zero, List.set_cons_succ]
  refine wpAnyH_take (i := 30) (v := ?_) rfl (by kernel_rfl) (by kernel_rfl) (by kernel_rfl) (fun _ _ _ h => h) (Or.inl ⟨by rfl, ?_⟩) (by assumption) ?_
  rotate_left
  · (intro w hSw; (try dsimp only at hSw); go_split_ands; go_simp; try (with_reducible rfl))
  try simp only [Act.put, List.getElem_toArray, List.getElem_cons_succ, List.getElem_cons_zero, List.setIfInBounds_toArray, List.set_cons_zero, List.set_cons_succ]
  refine wpAnyH_take (i := 31) (v := ?_) rfl (by kernel_rfl) (by kernel_rfl) (by kernel_rfl) (fun _ _ _ h => h) (Or.inl ⟨by rfl, ?_⟩) (by assumption) ?_
  rotate_left
  · (intro w hSw; (try dsimp only at hSw); go_split_ands; go_simp; try (with_reducible rfl))
  try simp only [Act.put, List.getElem_toArray, List.getElem_cons_succ, List.getElem_cons_zero, List.setIfInBounds_toArray, List.set_cons_zero, List.set_cons_succ]
  refine wpAnyH_take (i := 32) (v := ?_) rfl (by kernel_rfl) (by kernel_rfl) (by kernel_rfl) (fun _ _ _ h => h) (Or.inl ⟨by rfl, ?_⟩) (by assumption) ?_
  rotate_left
  · (intro w hSw; (try dsimp only at hSw); go_split_ands; go_simp; try (with_reducible rfl))
  try simp only [Act.put, List.getElem_toArray, List.getElem_cons_succ, List.getElem_cons_zero, List.setIfInBounds_toArray, List.set_cons_zero, List.set_cons_succ]
  refine wpAnyH_take (i := 33) (v := ?_) rfl (by kernel_rfl) (by kernel_rfl) (by kernel_rfl) (fun _ _ _ h => h) (Or.inl ⟨by rfl, ?_⟩) (by assumption) ?_
  rotate_left
  · (intro w hSw; (try dsimp only at hSw); go_split_ands; go_simp; try (with_reducible rfl))
  try simp only [Act.put, List.getElem_toArray, List.getElem_cons_succ, List.getElem_cons_zero, List.setIfInBounds_toArray, List.set_cons_zero, List.set_cons_succ]
  refine wpAnyH_take (i := 34) (v := ?_) rfl (by kernel_rfl) (by kernel_rfl) (by kernel_rfl) (fun _ _ _ h => h) (Or.inl ⟨by rfl, ?_⟩) (by assumption) ?_
  rotate_left
  · (intro w hSw; (try dsimp only at hSw); go_split_ands; go_simp; try (with_reducible rfl))
  try simp only [Act.put, List.getElem_toArray, List.getElem_cons_succ, List.getElem_cons_zero, List.setIfInBounds_toArray, List.set_cons_zero, List.set_cons_succ]
  refine wpAnyH_take (i := 35) (v := ?_) rfl (by kernel_rfl) (by kernel_rfl) (by kernel_rfl) (fun _ _ _ h => h) (Or.inl ⟨by rfl, ?_⟩) (by assumption) ?_
  rotate_left
  · (intro w hSw; (try dsimp only at hSw); go_split_ands; go_simp; try (with_reducible rfl))
  try simp only [Act.put, List.getElem_toArray, List.getElem_cons_succ, List.getElem_cons_zero, List.setIfInBounds_toArray, List.set_cons_zero, List.set_cons_succ]
  refine wpAnyH_take (i := 36) (v := ?_) rfl (by kernel_rfl) (by kernel_rfl) (by kernel_rfl) (fun _ _ _ h => h) (Or.inl ⟨by rfl, ?_⟩) (by assumption) ?_
  rotate_left
  · (intro w hSw; (try dsimp only at hSw); go_split_ands; go_simp; try (with_reducible rfl))
  try simp only [Act.put, List.getElem_toArray, List.getElem_cons_succ, List.getElem_cons_zero, List.setIfInBounds_toArray, List.set_cons_zero, List.set_cons_succ]
  refine wpAnyH_take (i := 37) (v := ?_) rfl (by kernel_rfl) (by kernel_rfl) (by kernel_rfl) (fun _ _ _ h => h) (Or.inl ⟨by rfl, ?_⟩) (by assumption) ?_
  rotate_left
  · (intro w hSw; (try dsimp only at hSw); go_split_ands; go_simp; try (with_reducible rfl))
  try simp only [Act.put, List.getElem_toArray, List.getElem_cons_succ, List.getElem_cons_zero, List.setIfInBounds_toArray, List.set_cons_zero, List.set_cons_succ]
  refine wpAnyH_take (i := 38) (v := ?_) rfl (by kernel_rfl) (by kernel_rfl) (by kernel_rfl) (fun _ _ _ h => h) (Or.inl ⟨by rfl, ?_⟩) (by assumption) ?_
  rotate_left
  · (intro w hSw; (try dsimp only at hSw); go_split_ands; go_simp; try (with_reducible rfl))
  try simp only [Act.put, List.getElem_toArray, List.getElem_cons_succ, List.getElem_cons_zero, List.setIfInBounds_toArray, List.set_cons_zero, List.set_cons_succ]
  refine wpAnyH_take (i := 39) (v := ?_) rfl (by kernel_rfl) (by kernel_rfl) (by kernel_rfl) (fun _ _ _ h => h) (Or.inl ⟨by rfl, ?_⟩) (by assumption) ?_
  rotate_left
  · (intro w hSw; (try dsimp only at hSw); go_split_ands; go_simp; try (with_reducible rfl))
  try simp only [Act.put, List.getElem_toArray, List.getElem_cons_succ, List.getElem_cons_zero, List.setIfInBounds_toArray, List.set_cons_zero, List.set_cons_succ]
  refine wpAnyH_take (i := 40) (v := ?_) rfl (by kernel_rfl) (by kernel_rfl) (by kernel_rfl) (fun _ _ _ h => h) (Or.inl ⟨by rfl, ?_⟩) (by assumption) ?_
  rotate_left
  · (intro w hSw; (try dsimp only at hSw); go_split_ands; go_simp; try (with_reducible rfl))
  try simp only [Act.put, List.getElem_toArray, List.getElem_cons_succ, List.getElem_cons_zero, List.setIfInBounds_toArray, List.set_cons_zero, List.set_cons_succ]
  refine wpAnyH_done (by kernel_rfl) ?_ _
  go_wp2_with fail
  go_ret3
  exact ⟨rfl, HK.out.2.2.2.2.2.2.out⟩
def GrowPost (w : World) (B d : Nat) : Option (Tree × Nat) → Ending → World → Prop
  | none => GrowNo w
  | some (T, m) => fun e w' => ∃ v, e = .returned (.tuple #[v, .int .i64 (m : Int), .bool true]) ∧ TreeAt w' (fun c => c < B ∨ (w.heap.size ≤ c ∧ c < w'.heap.size)) d v T ∧ Below w.heap.size w w'
def growN (t : Trm) : Option (List Tree × Nat) → Option (Tree × Nat)
  | none => none
  | some (xs, m) => some (.node t xs, m)
def TrmOk (t : Trm) : Prop := t.field.size ≤ 4294967296 ∧ t.text.size ≤ 4294967296 ∧ t.args.length ≤ 1000000
theorem infoP : (Tryz.prog.info? 153).map (fun i => (i.zero, i.size, i.bytes)) = some (some (.pointer none), 1, 8) := by kernel_rfl
set_option maxRecDepth 100000 in
set_option maxHeartbeats 4000000 in
theorem f_grow_main (L : List Trm) (d d' : Nat) (hd' : d + 1 = d')
    (ih : ∀ (v : Value) (at_ B : Nat) (w : World), TermsAt w (· < B) v L → B ≤ w.heap.size → at_ ≤ 1000000 → Calls Tryz.prog 119 #[v, .int .i64 (at_ : Int), .int .i64 (d : Int)] w (GrowPost w B d (growF L d at_)))
    (A : Option Addr) (n c b off at_ B : Nat) (t : Trm) (w : World) (hv : TermsAt w (· < B) (.slice A n c) L) (hB : B ≤ w.heap.size) (hA : A = some ⟨b, off, none⟩) (hb : b < w.heap.size) (hat : at_ < n) (hn : n ≤ 1000000) (hd2 : d' ≤ 1000) (hT : TermAt w (· < B) b (off + at_ * 6) t)
    (hf : t.field.size ≤ 4294967296) (hx : t.text.size ≤ 4294967296) (hlen : t.args.length ≤ 1000000) (hbare : bareB t = true) (hargs : argsOk t = true) :
    Calls Tryz.prog 119 #[.slice A n c, .int .i64 (at_ : Int), .int .i64 (d' : Int)] w (GrowPost w B d' (growN t (growA (growF L d) t.args (at_ + 1)))) := by
  obtain ⟨i0, hi, hz0, hz1, hz2⟩ := info_parts infoP
  have hd : 1 ≤ d' := by omega
  have ih : ∀ (v : Value) (at_ B : Nat) (w : World), TermsAt w (· < B) v L → B ≤ w.heap.size → at_ ≤ 1000000 → Calls Tryz.prog 119 #[v, .int .i64 (at_ : Int), .int .i64 ((d' : Int) - 1)] w (GrowPost w B d (growF L d at_)) := by
    have e : ((d' : Int) - 1) = (d : Int) := by omega
    rw [e]; exact ih
  have HV := Lib.hid hv
  have HIH := Lib.hid ih
  have HD := Lib.hid hd'
  obtain ⟨T0, hT0⟩ : ∃ T0, T0 = t := ⟨_, rfl⟩
  have e0 : growN t (growA (growF L d) t.args (at_ + 1)) = growN T0 (growA (growF L d) T0.args (at_ + 1)) := by rw [hT0]
  rw [e0]
  have HT0 := Lib.hid hT0
  have hi0 : ∃ ta, w.cell? ⟨b, off + at_ * 6 + 5, none⟩ = some ta ∧ IntsAt w (· < B) ta T0.args := by rw [hT0]; exact hT.2.2.2.2.2
  obtain ⟨ta_, hta1, hta2⟩ := hi0
  have HTA := Lib.hid (And.intro hta1 hta2)
  clear e0 hT0 hv ih hd' hta1 hta2
  have hmx : Tryz.prog.follows .mixedOrders = true := by kernel_rfl
  subst hA
  have q0 : decide ((n : Int) ≤ (at_ : Int)) = false := by simp; omega
  have q1 : decide ((d' : Int) < 1) = false := by simp; omega
  have q00 : decide (n ≤ at_) = false := by simp; omega
  have q11 : decide (d' < 1) = false := by simp; omega
  have q12 : decide (d' = 0) = false := by simp; omega
  have q2 : (0 : Int) ≤ (at_ : Int) := by omega
  have q3 : (at_ : Int) < (n : Int) := by omega
  obtain ⟨tk, tn, ty, tf, tt, ta⟩ := t
  obtain ⟨c0, c1, c2, c3, c4, u5, c5, hi5⟩ := hT
  have HB := Lib.hid hbare
  obtain ⟨Aa, na, ca, rfl, hna, hca, hcell⟩ := hi5
  have KS := Lib.hid (fun (W : World) (hW : Below w.heap.size w W) => (⟨(hW.cell (p := ⟨b, _, none⟩) hb).trans c0, (hW.cell (p := ⟨b, _, none⟩) hb).trans c1, (hW.cell (p := ⟨b, _, none⟩) hb).trans c2, (hW.cell (p := ⟨b, _, none⟩) hb).trans c3, (hW.cell (p := ⟨b, _, none⟩) hb).trans c4, (hW.cell (p := ⟨b, _, none⟩) hb).trans c5, Lib.hid hW⟩ : (fun W => W.cell? ⟨b, off + at_ * 6, none⟩ = some (.int .i64 tk) ∧ W.cell? ⟨b, off + at_ * 6 + 1, none⟩ = some (.int .i64 tn) ∧ W.cell? ⟨b, off + at_ * 6 + 2, none⟩ = some (.int .i64 ty) ∧ W.cell? ⟨b, off + at_ * 6 + 3, none⟩ = some (.string tf) ∧ W.cell? ⟨b, off + at_ * 6 + 4, none⟩ = some (.string tt) ∧ W.cell? ⟨b, off + at_ * 6 + 5, none⟩ = some (.slice Aa na ca) ∧ Hid (Below w.heap.size w W)) W))
  have HS0 := Lib.hid (KS.out _ (Below.refl _ _).drew)
  have hv : severalB tk = decide (0 < na) := by
    unfold argsOk at hargs
    rw [Bool.and_eq_true] at hargs
    have := hargs.1
    simp only at hna this
    rw [hna]; simpa using this
  have hne : na ≠ 1 := by
    unfold argsOk at hargs
    rw [Bool.and_eq_true] at hargs
    have := hargs.2
    simp only at hna this
    rw [hna]; simpa using this
  have na1 : na ≤ 1000000 := by
    simp only at hna hlen
    omega
  have hta : ta_ = .slice Aa na ca := by
    have := HTA.out.1
    rw [c5] at this
    injection this with this
    exact this.symm
  subst hta
  have p3 : ((na : Int) == 1) = false := by simp; omega
  have HSV := Lib.hid hv
  have HNA := Lib.hid hna
  have HCELL := Lib.hid hcell
  clear hbare c0 c1 c2 c3 c4 c5 hna hca hcell hargs hlen hv hne
  have HTS := HV
  clear HV
  obtain ⟨dv, hdv⟩ : ∃ dv, decide (0 < na) = dv := ⟨_, rfl⟩
  have p1 : decide ((0 : Int) < (na : Int)) = dv := by rw [← hdv]; simp
  have HV := Lib.hid (HSV.out.trans hdv)
  go_enter Tryz.func119, Tryz.ntmps119
  go_wp2_with fail
  refine wp_region_held_drew (S := (fun W => W.cell? ⟨b, off + at_ * 6, none⟩ = some (.int .i64 tk) ∧ W.cell? ⟨b, off + at_ * 6 + 1, none⟩ = some (.int .i64 tn) ∧ W.cell? ⟨b, off + at_ * 6 + 2, none⟩ = some (.int .i64 ty) ∧ W.cell? ⟨b, off + at_ * 6 + 3, none⟩ = some (.string tf) ∧ W.cell? ⟨b, off + at_ * 6 + 4, none⟩ = some (.string tt) ∧ W.cell? ⟨b, off + at_ * 6 + 5, none⟩ = some (.slice Aa na ca) ∧ Hid (Below w.heap.size w W))) hmx HS0.out (fun hHeld => ?_)
  refine wpAnyH_take (i := 0) (v := ?_) rfl (by kernel_rfl) (by kernel_rfl) (by kernel_rfl) (fun _ _ _ h => h) (Or.inl ⟨by rfl, ?_⟩) (by assumption) ?_
  rotate_left
  · (intro w hSw; (try dsimp only at hSw); go_split_ands; go_simp; try (with_reducible rfl))
  try simp only [Act.put, List.getElem_toArray, List.getElem_cons_succ, List.getElem_cons_zero, List.setIfInBounds_toArray, List.set_cons_zero, List.set_cons_succ]
  refine wpAnyH_take (i := 1) (v := ?_) rfl (by kernel_rfl) (by kernel_rfl) (by kernel_rfl) (fun _ _ _ h => h) (Or.inl ⟨by rfl, ?_⟩) (by assumption) ?_
  rotate_left
  · (intro w hSw; (try dsimp only at hSw); go_split_ands; go_simp; try (with_reducible rfl))
  try simp only [Act.put, List.getElem_toArray, List.getElem_cons_succ, List.getElem_cons_zero, List.setIfInBounds_toArray, List.set_cons_zero, List.set_cons_succ]
  refine wpAnyH_take (i := 2) (v := ?_) rfl (by kernel_rfl) (by kernel_rfl) (by kernel_rfl) (fun _ _ _ h => h) (Or.inl ⟨by rfl, ?_⟩) (by assumption) ?_
  rotate_left
  · (intro w hSw; (try dsimp only at hSw); go_split_ands; go_simp; try (with_reducible rfl))
  try simp only [Act.put, List.getElem_toArray, List.getElem_cons_succ, List.getElem_cons_zero, List.setIfInBounds_toArray, List.set_cons_zero, List.set_cons_succ]
  refine wpAnyH_take (i := 3) (v := ?_) rfl (by kernel_rfl) (by kernel_rfl) (by kernel_rfl) (fun _ _ _ h => h) (Or.inl ⟨by rfl, ?_⟩) (by assumption) ?_
  rotate_left
  · (intro w hSw; (try dsimp only at hSw); go_split_ands; go_simp; try (with_reducible rfl))
  try simp only [Act.put, List.getElem_toArray, List.getElem_cons_succ, List.getElem_cons_zero, List.setIfInBounds_toArray, List.set_cons_zero, List.set_cons_succ]
  refine wpAnyH_take (i := 4) (v := ?_) rfl (by kernel_rfl) (by kernel_rfl) (by kernel_rfl) (fun _ _ _ h => h) (Or.inl ⟨by rfl, ?_⟩) (by assumption) ?_
  rotate_left
  · (intro w hSw; (try dsimp only at hSw); go_split_ands; go_simp; try (with_reducible rfl))
  try simp only [Act.put, List.getElem_toArray, List.getElem_cons_succ, List.getElem_cons_zero, List.setIfInBounds_toArray, List.set_cons_zero, List.set_cons_succ]
  refine wpAnyH_take (i := 5) (v := ?_) rfl (by kernel_rfl) (by kernel_rfl) (by kernel_rfl) (fun _ _ _ h => h) (Or.inl ⟨by rfl, ?_⟩) (by assumption) ?_
  rotate_left
  · (intro w hSw; (try dsimp only at hSw); go_split_ands; go_simp; try (with_reducible rfl))
  try simp only [Act.put, List.getElem_toArray, List.getElem_cons_succ, List.getElem_cons_zero, List.setIfInBounds_toArray, List.set_cons_zero, List.set_cons_succ]
  refine wpAnyH_take (i := 6) (v := ?_) rfl (by kernel_rfl) (by kernel_rfl) (by kernel_rfl) (fun _ _ _ h => h) (Or.inl ⟨by rfl, ?_⟩) (by assumption) ?_
  rotate_left
  · (intro w hSw; (try dsimp only at hSw); go_split_ands; go_simp; try (with_reducible rfl))
  try simp only [Act.put, List.getElem_toArray, List.getElem_cons_succ, List.getElem_cons_zero, List.setIfInBounds_toArray, List.set_cons_zero, List.set_cons_succ]
  refine wpAnyH_take (i := 7) (v := ?_) rfl (by kernel_rfl) (by kernel_rfl) (by kernel_rfl) (fun _ _ _ h => h) (Or.inl ⟨by rfl, ?_⟩) (by assumption) ?_
  rotate_left
  · (intro w hSw; (try dsimp only at hSw); go_split_ands; go_simp; try (with_reducible rfl))
  try simp only [Act.put, List.getElem_toArray, List.getElem_cons_succ, List.getElem_cons_zero, List.setIfInBounds_toArray, List.set_cons_zero, List.set_cons_succ]
  refine wpAnyH_take (i := 8) (v := ?_) rfl (by kernel_rfl) (by kernel_rfl) (by kernel_rfl) (fun _ _ _ h => h) (Or.inl ⟨by rfl, ?_⟩) (by assumption) ?_
  rotate_left
  · (intro w hSw; (try dsimp only at hSw); go_split_ands; go_simp; try (with_reducible rfl))
  try simp only [Act.put, List.getElem_toArray, List.getElem_cons_succ, List.getElem_cons_zero, List.setIfInBounds_toArray, List.set_cons_zero, List.set_cons_succ]
  refine wpAnyH_take (i := 9) (v := ?_) rfl (by kernel_rfl) (by kernel_rfl) (by kernel_rfl) (fun _ _ _ h => h) (Or.inl ⟨by rfl, ?_⟩) (by assumption) ?_
  rotate_left
  · (intro w hSw; (try dsimp only at hSw); go_split_ands; go_simp; try (with_reducible rfl))
  try simp only [Act.put, List.getElem_toArray, List.getElem_cons_succ, List.getElem_cons_zero, List.setIfInBounds_toArray, List.set_cons_zero, List.set_cons_succ]
  refine wpAnyH_take (i := 10) (v := ?_) rfl (by kernel_rfl) (by kernel_rfl) (by kernel_rfl) (fun _ _ _ h => h) (Or.inl ⟨by rfl, ?_⟩) (by assumption) ?_
  rotate_left
  · (intro w hSw; (try dsimp only at hSw); go_split_ands; go_simp; try (with_reducible rfl))
  try simp only [Act.put, List.getElem_toArray, List.getElem_cons_succ, List.getElem_cons_zero, List.setIfInBounds_toArray, List.set_cons_zero, List.set_cons_succ]
  refine wpAnyH_take (i := 11) (v := ?_) rfl (by kernel_rfl) (by kernel_rfl) (by kernel_rfl) (fun _ _ _ h => h) (Or.inl ⟨by rfl, ?_⟩) (by assumption) ?_
  rotate_left
  · (intro w hSw; (try dsimp only at hSw); go_split_ands; go_simp; try (with_reducible rfl))
  try simp only [Act.put, List.getElem_toArray, List.getElem_cons_succ, List.getElem_cons_zero, List.setIfInBounds_toArray, List.set_cons_zero, List.set_cons_succ]
  refine wpAnyH_take (i := 12) (v := ?_) rfl (by kernel_rfl) (by kernel_rfl) (by kernel_rfl) (fun _ _ _ h => h) (Or.inl ⟨by rfl, ?_⟩) (by assumption) ?_
  rotate_left
  · (intro w hSw; (try dsimp only at hSw); go_split_ands; go_simp; try (with_reducible rfl))
  try simp only [Act.put, List.getElem_toArray, List.getElem_cons_succ, List.getElem_cons_zero, List.setIfInBounds_toArray, List.set_cons_zero, List.set_cons_succ]
  refine wpAnyH_ready (rs := [13]) (by kernel_rfl) (by simp) ?_
  refine AllReadyH.cons rfl (fun K hK => ?_) AllReadyH.nil
  go_simp
  go_at_call 129
  refine (f_bare tk tn ty tf tt _ _ _ ta _ hf hx).mono ?_
  rintro e wk ⟨rfl, hbk⟩
  rw [HB.out]
  have HK := Lib.hid (KS.out wk ((Below.refl w.heap.size w).drew.trans hbk))
  clear hbk
  refine hK.out _ _ (HK.out) (fun hHeld => ?_)
  clear hK K
  try simp only [Act.put, List.getElem_toArray, List.getElem_cons_succ, List.getElem_cons_zero, List.setIfInBounds_toArray, List.set_cons_zero, List.set_cons_succ]
  refine wpAnyH_take (i := 14) (v := ?_) rfl (by kernel_rfl) (by kernel_rfl) (by kernel_rfl) (fun _ _ _ h => h) (Or.inl ⟨by rfl, ?_⟩) (by assumption) ?_
  rotate_left
  · (intro w hSw; (try dsimp only at hSw); go_split_ands; go_simp; try (with_reducible rfl))
  try simp only [Act.put, List.getElem_toArray, List.getElem_cons_succ, List.getElem_cons_zero, List.setIfInBounds_toArray, List.set_cons_zero, List.set_cons_succ]
  refine wpAnyH_take (i := 15) (v := ?_) rfl (by kernel_rfl) (by kernel_rfl) (by kernel_rfl) (fun _ _ _ h => h) (Or.inl ⟨by rfl, ?_⟩) (by assumption) ?_
  rotate_left
  · (intro w hSw; (try dsimp only at hSw); go_split_ands; go_simp; try (with_reducible rfl))
  try simp only [Act.put, List.getElem_toArray, List.getElem_cons_succ, List.getElem_cons_zero, List.setIfInBounds_toArray, List.set_cons_zero, List.set_cons_succ]
  refine wpAnyH_take (i := 16) (v := ?_) rfl (by kernel_rfl) (by kernel_rfl) (by kernel_rfl) (fun _ _ _ h => h) (Or.inl ⟨by rfl, ?_⟩) (by assumption) ?_
  rotate_left
  · (intro w hSw; (try dsimp only at hSw); go_split_ands; go_simp; try (with_reducible rfl))
  try simp only [Act.put, List.getElem_toArray, List.getElem_cons_succ, List.getElem_cons_zero, List.setIfInBounds_toArray, List.set_cons_zero, List.set_cons_succ]
  refine wpAnyH_take (i := 17) (v := ?_) rfl (by kernel_rfl) (by kernel_rfl) (by kernel_rfl) (fun _ _ _ h => h) (Or.inl ⟨by rfl, ?_⟩) (by assumption) ?_
  rotate_left
  · (intro w hSw; (try dsimp only at hSw); go_split_ands; go_simp; try (with_reducible rfl))
  try simp only [Act.put, List.getElem_toArray, List.getElem_cons_succ, List.getElem_cons_zero, List.setIfInBounds_toArray, List.set_cons_zero, List.set_cons_succ]
  refine wpAnyH_take (i := 18) (v := ?_) rfl (by kernel_rfl) (by kernel_rfl) (by kernel_rfl) (fun _ _ _ h => h) (Or.inl ⟨by rfl, ?_⟩) (by assumption) ?_
  rotate_left
  · (intro w hSw; (try dsimp only at hSw); go_split_ands; go_simp; try (with_reducible rfl))
  try simp only [Act.put, List.getElem_toArray, List.getElem_cons_succ, List.getElem_cons_zero, List.setIfInBounds_toArray, List.set_cons_zero, List.set_cons_succ]
  refine wpAnyH_take (i := 19) (v := ?_) rfl (by kernel_rfl) (by kernel_rfl) (by kernel_rfl) (fun _ _ _ h => h) (Or.inl ⟨by rfl, ?_⟩) (by assumption) ?_
  rotate_left
  · (intro w hSw; (try dsimp only at hSw); go_split_ands; go_simp; try (with_reducible rfl))
  try simp only [Act.put, List.getElem_toArray, List.getElem_cons_succ, List.getElem_cons_zero, List.setIfInBounds_toArray, List.set_cons_zero, List.set_cons_succ]
  refine wpAnyH_take (i := 20) (v := ?_) rfl (by kernel_rfl) (by kernel_rfl) (by kernel_rfl) (fun _ _ _ h => h) (Or.inl ⟨by rfl, ?_⟩) (by assumption) ?_
  rotate_left
  · (intro w hSw; (try dsimp only at hSw); go_split_ands; go_simp; try (with_reducible rfl))
  try simp only [Act.put, List.getElem_toArray, List.getElem_cons_succ, List.getElem_cons_zero, List.setIfInBounds_toArray, List.set_cons_zero, List.set_cons_succ]
  refine wpAnyH_take (i := 21) (v := ?_) rfl (by kernel_rfl) (by kernel_rfl) (by kernel_rfl) (fun _ _ _ h => h) (Or.inl ⟨by rfl, ?_⟩) (by assumption) ?_
  rotate_left
  · (intro w hSw; (try dsimp only at hSw); go_split_ands; go_simp; try (with_reducible rfl))
  try simp only [Act.put, List.getElem_toArray, List.getElem_cons_succ, List.getElem_cons_zero, List.setIfInBounds_toArray, List.set_cons_zero, List.set_cons_succ]
  refine wpAnyH_take (i := 23) (v := ?_) rfl (by kernel_rfl) (by kernel_rfl) (by kernel_rfl) (fun _ _ _ h => h) (Or.inl ⟨by rfl, ?_⟩) (by assumption) ?_
  rotate_left
  · (intro w hSw; (try dsimp only at hSw); go_split_ands; go_simp; try (with_reducible rfl))
  try simp only [Act.put, List.getElem_toArray, List.getElem_cons_succ, List.getElem_cons_zero, List.setIfInBounds_toArray, List.set_cons_zero, List.set_cons_succ]
  refine wpAnyH_take (i := 24) (v := ?_) rfl (by kernel_rfl) (by kernel_rfl) (by kernel_rfl) (fun _ _ _ h => h) (Or.inl ⟨by rfl, ?_⟩) (by assumption) ?_
  rotate_left
  · (intro w hSw; (try dsimp only at hSw); go_split_ands; go_simp; try (with_reducible rfl))
  try simp only [Act.put, List.getElem_toArray, List.getElem_cons_succ, List.getElem_cons_zero, List.setIfInBounds_toArray, List.set_cons_zero, List.set_cons_succ]
  refine wpAnyH_take (i := 25) (v := ?_) rfl (by kernel_rfl) (by kernel_rfl) (by kernel_rfl) (fun _ _ _ h => h) (Or.inl ⟨by rfl, ?_⟩) (by assumption) ?_
  rotate_left
  · (intro w hSw; (try dsimp only at hSw); go_split_ands; go_simp; try (with_reducible rfl))
  try simp only [Act.put, List.getElem_toArray, List.getElem_cons_succ, List.getElem_cons_zero, List.setIfInBounds_toArray, List.set_cons_zero, List.set_cons_succ]
  refine wpAnyH_take (i := 26) (v := ?_) rfl (by kernel_rfl) (by kernel_rfl) (by kernel_rfl) (fun _ _ _ h => h) (Or.inl ⟨by rfl, ?_⟩) (by assumption) ?_
  rotate_left
  · (intro w hSw; (try dsimp only at hSw); go_split_ands; go_simp; try (with_reducible rfl))
  try simp only [Act.put, List.getElem_toArray, List.getElem_cons_succ, List.getElem_cons_zero, List.setIfInBounds_toArray, List.set_cons_zero, List.set_cons_succ]
  refine wpAnyH_take (i := 27) (v := ?_) rfl (by kernel_rfl) (by kernel_rfl) (by kernel_rfl) (fun _ _ _ h => h) (Or.inl ⟨by rfl, ?_⟩) (by assumption) ?_
  rotate_left
  · (intro w hSw; (try dsimp only at hSw); go_split_ands; go_simp; try (with_reducible rfl))
  try simp only [Act.put, List.getElem_toArray, List.getElem_cons_succ, List.getElem_cons_zero, List.setIfInBounds_toArray, List.set_cons_zero, List.set_cons_succ]
  refine wpAnyH_take (i := 28) (v := ?_) rfl (by kernel_rfl) (by kernel_rfl) (by kernel_rfl) (fun _ _ _ h => h) (Or.inl ⟨by rfl, ?_⟩) (by assumption) ?_
  rotate_left
  · (intro w hSw; (try dsimp only at hSw); go_split_ands; go_simp; try (with_reducible rfl))
  try simp only [Act.put, List.getElem_toArray, List.getElem_cons_succ, List.getElem_cons_zero, List.setIfInBounds_toArray, List.set_cons_zero, List.set_cons_succ]
  refine wpAnyH_take (i := 29) (v := ?_) rfl (by kernel_rfl) (by kernel_rfl) (by kernel_rfl) (fun _ _ _ h => h) (Or.inl ⟨by rfl, ?_⟩) (by assumption) ?_
  rotate_left
  · (intro w hSw; (try dsimp only at hSw); go_split_ands; go_simp; try (with_reducible rfl))
  try simp only [Act.put, List.getElem_toArray, List.getElem_cons_succ, List.getElem_cons_zero, List.setIfInBounds_toArray, List.set_cons_zero, List.set_cons_succ]
  refine wpAnyH_ready (rs := [22]) (by kernel_rfl) (by simp) ?_
  refine AllReadyH.cons rfl (fun K hK => ?_) AllReadyH.nil
  go_simp
  go_at_call 130
  refine (f_several tk _).mono ?_
  rintro e wk' ⟨rfl, rfl⟩
  rw [HV.out]
  refine hK.out _ _ (HK.out) (fun hHeld => ?_)
  clear hK K
  try simp only [Act.put, List.getElem_toArray, List.getElem_cons_succ, List.getElem_cons_zero, List.setIfInBounds_toArray, List.set_cons_zero, List.set_cons_succ]
  refine wpAnyH_take (i := 30) (v := ?_) rfl (by kernel_rfl) (by kernel_rfl) (by kernel_rfl) (fun _ _ _ h => h) (Or.inl ⟨by rfl, ?_⟩) (by assumption) ?_
  rotate_left
  · (intro w hSw; (try dsimp only at hSw); go_split_ands; go_simp; try (with_reducible rfl))
  try simp only [Act.put, List.getElem_toArray, List.getElem_cons_succ, List.getElem_cons_zero, List.setIfInBounds_toArray, List.set_cons_zero, List.set_cons_succ]
  refine wpAnyH_take (i := 31) (v := ?_) rfl (by kernel_rfl) (by kernel_rfl) (by kernel_rfl) (fun _ _ _ h => h) (Or.inl ⟨by rfl, ?_⟩) (by assumption) ?_
  rotate_left
  · (intro w hSw; (try dsimp only at hSw); go_split_ands; go_simp; try (with_reducible rfl))
  try simp only [Act.put, List.getElem_toArray, List.getElem_cons_succ, List.getElem_cons_zero, List.setIfInBounds_toArray, List.set_cons_zero, List.set_cons_succ]
  refine wpAnyH_take (i := 32) (v := ?_) rfl (by kernel_rfl) (by kernel_rfl) (by kernel_rfl) (fun _ _ _ h => h) (Or.inl ⟨by rfl, ?_⟩) (by assumption) ?_
  rotate_left
  · (intro w hSw; (try dsimp only at hSw); go_split_ands; go_simp; try (with_reducible rfl))
  try simp only [Act.put, List.getElem_toArray, List.getElem_cons_succ, List.getElem_cons_zero, List.setIfInBounds_toArray, List.set_cons_zero, List.set_cons_succ]
  refine wpAnyH_take (i := 33) (v := ?_) rfl (by kernel_rfl) (by kernel_rfl) (by kernel_rfl) (fun _ _ _ h => h) (Or.inl ⟨by rfl, ?_⟩) (by assumption) ?_
  rotate_left
  · (intro w hSw; (try dsimp only at hSw); go_split_ands; go_simp; try (with_reducible rfl))
  try simp only [Act.put, List.getElem_toArray, List.getElem_cons_succ, List.getElem_cons_zero, List.setIfInBounds_toArray, List.set_cons_zero, List.set_cons_succ]
  refine wpAnyH_take (i := 34) (v := ?_) rfl (by kernel_rfl) (by kernel_rfl) (by kernel_rfl) (fun _ _ _ h => h) (Or.inl ⟨by rfl, ?_⟩) (by assumption) ?_
  rotate_left
  · (intro w hSw; (try dsimp only at hSw); go_split_ands; go_simp; try (with_reducible rfl))
  try simp only [Act.put, List.getElem_toArray, List.getElem_cons_succ, List.getElem_cons_zero, List.setIfInBounds_toArray, List.set_cons_zero, List.set_cons_succ]
  refine wpAnyH_take (i := 35) (v := ?_) rfl (by kernel_rfl) (by kernel_rfl) (by kernel_rfl) (fun _ _ _ h => h) (Or.inl ⟨by rfl, ?_⟩) (by assumption) ?_
  rotate_left
  · (intro w hSw; (try dsimp only at hSw); go_split_ands; go_simp; try (with_reducible rfl))
  try simp only [Act.put, List.getElem_toArray, List.getElem_cons_succ, List.getElem_cons_zero, List.setIfInBounds_toArray, List.set_cons_zero, List.set_cons_succ]
  refine wpAnyH_take (i := 36) (v := ?_) rfl (by kernel_rfl) (by kernel_rfl) (by kernel_rfl) (fun _ _ _ h => h) (Or.inl ⟨by rfl, ?_⟩) (by assumption) ?_
  rotate_left
  · (intro w hSw; (try dsimp only at hSw); go_split_ands; go_simp; try (with_reducible rfl))
  try simp only [Act.put, List.getElem_toArray, List.getElem_cons_succ, List.getElem_cons_zero, List.setIfInBounds_toArray, List.set_cons_zero, List.set_cons_succ]
  refine wpAnyH_take (i := 37) (v := ?_) rfl (by kernel_rfl) (by kernel_rfl) (by kernel_rfl) (fun _ _ _ h => h) (Or.inl ⟨by rfl, ?_⟩) (by assumption) ?_
  rotate_left
  · (intro w hSw; (try dsimp only at hSw); go_split_ands; go_simp; try (with_reducible rfl))
  try simp only [Act.put, List.getElem_toArray, List.getElem_cons_succ, List.getElem_cons_zero, List.setIfInBounds_toArray, List.set_cons_zero, List.set_cons_succ]
  refine wpAnyH_take (i := 38) (v := ?_) rfl (by kernel_rfl) (by kernel_rfl) (by kernel_rfl) (fun _ _ _ h => h) (Or.inl ⟨by rfl, ?_⟩) (by assumption) ?_
  rotate_left
  · (intro w hSw; (try dsimp only at hSw); go_split_ands; go_simp; try (with_reducible rfl))
  try simp only [Act.put, List.getElem_toArray, List.getElem_cons_succ, List.getElem_cons_zero, List.setIfInBounds_toArray, List.set_cons_zero, List.set_cons_succ]
  refine wpAnyH_take (i := 39) (v := ?_) rfl (by kernel_rfl) (by kernel_rfl) (by kernel_rfl) (fun _ _ _ h => h) (Or.inl ⟨by rfl, ?_⟩) (by assumption) ?_
  rotate_left
  · (intro w hSw; (try dsimp only at hSw); go_split_ands; go_simp; try (with_reducible rfl))
  try simp only [Act.put, List.getElem_toArray, List.getElem_cons_succ, List.getElem_cons_zero, List.setIfInBounds_toArray, List.set_cons_zero, List.set_cons_succ]
  refine wpAnyH_take (i := 40) (v := ?_) rfl (by kernel_rfl) (by kernel_rfl) (by kernel_rfl) (fun _ _ _ h => h) (Or.inl ⟨by rfl, ?_⟩) (by assumption) ?_
  rotate_left
  · (intro w hSw; (try dsimp only at hSw); go_split_ands; go_simp; try (with_reducible rfl))
  try simp only [Act.put, List.getElem_toArray, List.getElem_cons_succ, List.getElem_cons_zero, List.setIfInBounds_toArray, List.set_cons_zero, List.set_cons_succ]
  refine wpAnyH_done (by kernel_rfl) ?_ _
  obtain ⟨k0, k1, k2, k3, k4, k5, k6⟩ := HK.out
  have hbk := k6.out
  have zb : b < wk.heap.size := Nat.lt_of_lt_of_le hb hbk.size
  have z5 : ∀ o : Obj, (wk.alloc o).cell? ⟨b, off + at_ * 6 + 5, none⟩ = some (.slice Aa na ca) := fun o => (World.cell?_alloc_lt wk o ⟨b, _, none⟩ zb).trans k5
  have hst : GrowK w B wk.heap.size T0 (.slice Aa na ca) d (wk.alloc (.cells #[.int .i64 tk, .int .i64 tn, .int .i64 ty, .string tf, .string tt, .slice Aa na ca, .slice none 0 0] 183)) 0 [] (.slice none 0 0) [] := by
    have := GrowK.start (d := d) (t := T0) (wk := wk) hbk hB HTA.out.2
    rw [HT0.out] at this ⊢
    exact this
  have HST := Lib.hid hst
  have hnL : n = L.length := by obtain ⟨_, _, _, hv, h2, _⟩ := HTS.out; injection hv with _ h3 _; omega
  have HNL := Lib.hid hnL
  have har : growA (growF L d) T0.args (at_ + 1) = restA (growF L d) [] (T0.args.drop 0) (at_ + 1) := by
    unfold restA
    rw [List.drop_zero]
    cases growA (growF L d) T0.args (at_ + 1) <;> simp
  have HAR := Lib.hid har
  have hT0a : T0.args.length = na := by rw [HT0.out]; exact HNA.out.symm
  have HTL := Lib.hid hT0a
  clear p1 hdv hst hnL har hT0a hbk k0 k1 k2 k3 k4 k6 HK HB hHeld
  go_wp2_with fail
  obtain ⟨bt, hbt⟩ : ∃ bt, wk.heap.size = bt := ⟨_, rfl⟩
  rw [hbt] at HST ⊢
  clear hbt z5 k5
  generalize (wk.alloc (.cells #[.int .i64 tk, .int .i64 tn, .int .i64 ty, .string tf, .string tt, .slice Aa na ca, .slice none 0 0] 183)) = wa at *
  go_loopw [10, 71] (fun v10 v71 wr => ∃ (k nx : Nat) (xs : List Tree) (u : Value) (ps : List Value), v10 = .int .i64 (nx : Int) ∧ v71 = .int .i64 (k : Int) ∧ k ≤ na ∧ nx ≤ n ∧ GrowK w B bt T0 (.slice Aa na ca) d wr k xs u ps ∧ growA (growF L d) T0.args (at_ + 1) = restA (growF L d) xs (T0.args.drop k) nx) (fun _ v71 _ => na - (intOf v71).toNat)
  case atStart => exact ⟨0, at_ + 1, [], _, [], by go_num, rfl, by omega, by omega, HST.out, HAR.out⟩
  case round =>
    obtain ⟨k, nx, xs, u, ps, rfl, rfl, hk, hnx, hgk, har⟩ := hrel
    have HGK := Lib.hid hgk
    have HAR2 := Lib.hid har
    have hbl := hgk.bel
    have hbt := hgk.blk.lt
    have hs1 := hgk.bel.size
    clear hgk har HST HAR
    by_cases hlt : k < na
    · have hpos : 0 < na := by omega
      obtain ⟨gb, go, rfl, hgB, hgc⟩ := HCELL.out hpos
      have cg : wr.cell? ⟨gb, go + k, none⟩ = some (.int .i64 (ta.getD k 0)) := (hbl.cell (p := ⟨gb, go + k, none⟩) (by show gb < w.heap.size; omega)).trans (hgc k hlt)
      have hdr : T0.args.drop k = ta.getD k 0 :: T0.args.drop (k + 1) := by
        have e : T0.args = ta := by rw [HT0.out]
        have hl := HTL.out
        rw [e] at hl ⊢
        exact drop_getD ta k (by omega)
      have HTR := Lib.hid (HTS.out.keep (w' := wr) fun q hq => hbl.block q (by omega))
      have z0 : decide ((0 : Int) ≤ (k : Int)) = true := by simp
      have z1 : (0 : Int) ≤ (k : Int) := by omega
      have z2 : (k : Int) < (na : Int) := by omega
      generalize ta.getD k 0 = key at *
      have HDR := Lib.hid hdr
      clear hdr hgc HCELL
      by_cases hkey : key = (nx : Int)
      · have t0 : (key != (nx : Int)) = false := by rw [hkey]; simp
        have HKEY := Lib.hid hkey
        clear hkey
        cases hg : growF L d nx with
        | none =>
          have HG := Lib.hid hg
          clear hg
          go_wp2_with (go_at_call 119; refine (HIH.out _ nx B _ HTR.out (by omega) (by omega)).mono ?_; rw [HG.out]; rintro e w1 ⟨rfl, hb1⟩)
          go_ret3
          rw [HAR2.out, HDR.out, restA_none HKEY.out HG.out]
          exact ⟨rfl, hbl.trans (hb1.mono hs1)⟩
        | some r =>
          obtain ⟨x, af⟩ := r
          have haf : af ≤ n := by have := (flat_grow d hg).2.2; have := HNL.out; omega
          have HG := Lib.hid hg
          clear hg
          go_wp2_with fail
          refine (HIH.out _ nx B _ HTR.out (by omega) (by omega)).mono ?_
          rw [HG.out]
          rintro e w1 ⟨p, rfl, htree, hb1⟩
          obtain ⟨pb, rfl, -⟩ := htree.ptr
          have hgk1 := HGK.out.call hb1
          have hus : ∀ g, u.ownBlock = some g → g < wr.heap.size := fun g hg => (HGK.out.own.lt g hg).2
          have hblk1 := hgk1.blk
          have d6 := (hblk1.cell 6).trans (show _ = some u from rfl)
          have hown1 := hgk1.own
          have hs2 := hb1.size
          have hkl := hk
          have HGK1 := Lib.hid hgk1
          have HUS := Lib.hid hus
          have HT := Lib.hid htree
          have HBK := Lib.hid hblk1
          obtain ⟨A0, c0, rfl⟩ := own_slice hown1
          clear hgk1 hus htree hblk1
          go_wp2_with (at_builtin; refine wpList_append_own_at _ rfl _ _ 181 rfl (bt + 1) 153 i0 (.pointer none) 1 8 Tryz.underlying181 hi hz0 hz1 hz2 rfl (by decide) _ _ _ rfl (hown1.alloc _) ⟨w1.heap.size, 0, none⟩ 1 1 [.pointer (some ⟨pb, 0, none⟩)] rfl rfl (cell_one_new _ _ _) (by intro u hu; simp at hu; subst hu; rfl) (by unfold maxLen; omega) (by omega) (by simp; omega) ?_)
          intro u' w2 hown2 hgrow _ hwh
          have hgk3 := GrowK.append HGK1.out (s := wr.heap.size) hbt HUS.out HT.out hown2 hgrow hwh
          have hne : some bt ≠ (Value.slice A0 k c0).ownBlock := fun e => by have := (HGK1.out.own.lt bt e.symm).1; omega
          have hblk2 := Blk.grown' (HBK.out.alloc _) hgrow hne
          have f6 := hblk2.frozen 6
          have e6 := (hblk2.cell 6).trans (show _ = some (Value.slice A0 k c0) from rfl)
          obtain ⟨A1, c1, rfl⟩ := own_slice hown2
          have HGK3 := Lib.hid hgk3
          clear hgk3 hown2 hgrow hwh hblk2 hown1
          go_wp2_with fail
          go_roundw
          case measure => simp [intOf]; omega
          case rel =>
            have hend : growA (growF L d) T0.args (at_ + 1) = restA (growF L d) (xs ++ [x]) (T0.args.drop (k + 1)) af := by rw [HAR2.out, HDR.out, restA_some HKEY.out HG.out]
            first
              | exact ⟨k + 1, af, xs ++ [x], _, _, rfl, by go_num, by omega, haf, HGK3.out, hend⟩
              | ((repeat apply Exists.intro); exact ⟨⟨k + 1, af, xs ++ [x], _, _, rfl, by go_num, by omega, haf, HGK3.out, hend⟩, rfl⟩)
      · have t0 : (key != (nx : Int)) = true := by simpa using hkey
        have HKEY := Lib.hid hkey
        clear hkey
        go_wp2_with fail
        go_ret3
        rw [HAR2.out, HDR.out, restA_ne HKEY.out]
        exact ⟨rfl, hbl⟩
    · have hkn : k = na := by omega
      have hj0 : ¬ (k : Int) < (na : Int) := by omega
      have HKN := Lib.hid hkn
      clear hkn
      go_wp2_with fail
      go_ret3
      have e : T0.args.drop k = [] := List.drop_eq_nil_of_le (by rw [HTL.out, HKN.out]; exact Nat.le_refl _)
      rw [HAR2.out, e, restA_nil]
      have htree := HGK.out.tree
      rw [HD.out] at htree
      exact ⟨_, rfl, htree, hbl⟩
end Go.Proofs.YtgeahbmaeaoeeaaGreatDoor

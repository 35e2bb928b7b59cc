/- The law PairWays: at most 500 numbers. -/
import Derived.Test.YtgeahbmaeaoeeaaGreatDoorPwLw1
import Derived.Deep.CutRange
import Derived.Deep.CutBlock
import Derived.BigRegion
set_option linter.unusedVariables false
set_option linter.unusedSimpArgs false
namespace Go.Proofs.YtgeahbmaeaoeeaaGreatDoor
open Go.RowKit Num

set_option maxRecDepth 100000 in
set_option maxHeartbeats 8000000 in
theorem pw_light (A : Option Addr) (n c : Nat) (w : World) (hw : BasesOk w) (hn : n ≤ 9223372036854775807) (h5 : n ≤ 500) (har : ArgL w (.slice A n c)) :
    Calls Tryz.prog 3 #[.slice A n c] w (BoolBelow true w) := by
  have hmx : Tryz.prog.follows .mixedOrders = true := by kernel_rfl
  have t5 : decide ((n : Int) ≤ 500) = true := decide_eq_true (by omega)
  have HW := Lib.hid hw
  have HAR := Lib.hid har
  clear hw har
  go_enter Tryz.func3, Tryz.ntmps3
  go_wp2_with fail
  refine (k_Light A n c w hn).mono ?_
  rintro e w' ⟨rfl, rfl⟩
  go_wp2_with fail
  refine (k_Roll _ w HAR.out).mono ?_
  rintro e w1 ⟨rfl, hd1, hb1⟩
  obtain ⟨d, hd⟩ : ∃ d, w.heap.size = d := ⟨_, rfl⟩
  rw [hd] at hd1 hb1 ⊢
  have HDE := Lib.hid hd
  have hdl : d ≤ w1.heap.size := Nat.le_of_lt hd1.lt
  have HD0 := Lib.hid (DrS.start hd1).drew
  have HOLD := Lib.hid hb1
  clear hd hd1 hb1
  go_upto_region 4 with fail
  go_cut [4] from 35 to 46 (fun x wx => PwA w d x wx)
  case first =>
    refine wp_region_held_drew (S := (fun W : World => True)) hmx trivial (fun hHeld => ?_)
    refine wpAnyH_take (i := 1) (v := ?_) rfl (by kernel_rfl) (by kernel_rfl) (by kernel_rfl) (fun _ _ _ h => h) (Or.inl ⟨by kernel_rfl, ?_⟩) (by assumption) ?_
    rotate_left
    · (intro w hSw; (try dsimp only at hSw); (try go_split_ands); go_simp; (try with_reducible rfl))
    try simp only [Act.put, List.getElem_toArray, List.getElem_cons_succ, List.getElem_cons_zero, List.setIfInBounds_toArray, List.set_cons_zero, List.set_cons_succ]
    refine wpAnyH_take (i := 5) (v := ?_) rfl (by kernel_rfl) (by kernel_rfl) (by kernel_rfl) (fun _ _ _ h => h) (Or.inl ⟨by kernel_rfl, ?_⟩) (by assumption) ?_
    rotate_left
    · (intro w hSw; (try dsimp only at hSw); (try go_split_ands); go_simp; (try with_reducible rfl))
    try simp only [Act.put, List.getElem_toArray, List.getElem_cons_succ, List.getElem_cons_zero, List.setIfInBounds_toArray, List.set_cons_zero, List.set_cons_succ]
    refine wpAnyH_take (i := 8) (v := ?_) rfl (by kernel_rfl) (by kernel_rfl) (by kernel_rfl) (fun _ _ _ h => h) (Or.inl ⟨by kernel_rfl, ?_⟩) (by assumption) ?_
    rotate_left
    · (intro w hSw; (try dsimp only at hSw); (try go_split_ands); go_simp; (try with_reducible rfl))
    try simp only [Act.put, List.getElem_toArray, List.getElem_cons_succ, List.getElem_cons_zero, List.setIfInBounds_toArray, List.set_cons_zero, List.set_cons_succ]
    refine wpAnyH_ready (rs := [0, 2, 12]) (by kernel_rfl) (by simp) ?_
    refine AllReadyH.cons rfl (fun Kc hK => ?_) (AllReadyH.cons rfl (fun Kc hK => ?_) (AllReadyH.cons rfl (fun Kc hK => ?_) AllReadyH.nil))
    · refine step_alE (mk := (fun g => .slice (some ⟨g, 0, none⟩) 3 3)) (t := 3) (cs := #[.int .i64 5, .int .i64 7, .int .i64 11]) HD0.out (by kernel_rfl) (bs_p3 rfl) ?_
      intro g0 W1 hD hB
      have G1 := Lib.hid hD
      clear hD hB
      refine hK.out _ _ trivial (fun hHeld => ?_)
      clear hK Kc
      try simp only [Act.put, List.getElem_toArray, List.getElem_cons_succ, List.getElem_cons_zero, List.setIfInBounds_toArray, List.set_cons_zero, List.set_cons_succ]
      refine wpAnyH_ready (rs := [2, 12]) (by kernel_rfl) (by simp) ?_
      refine AllReadyH.cons rfl (fun Kc hK => ?_) (AllReadyH.cons rfl (fun Kc hK => ?_) AllReadyH.nil)
      · refine step_fn en_next #[.pointer (some ⟨d, 0, none⟩), .int .i64 3] (by kernel_rfl) rfl (by kernel_rfl) ?_
        refine (k_Next d 3 _ G1.out.dc (by omega) (by omega)).mono ?_
        rintro e v2 ⟨r0, hr0, rfl, hd, hg⟩
        refine ⟨_, rfl, ?_⟩
        have G2 := Lib.hid (G1.out.call hd hg)
        clear hd hg
        have zr0 : (r0 : Int) < 3 := by omega
        have yr0 : (0 : Int) ≤ (r0 : Int) := by omega
        refine hK.out _ _ trivial (fun hHeld => ?_)
        clear hK Kc
        try simp only [Act.put, List.getElem_toArray, List.getElem_cons_succ, List.getElem_cons_zero, List.setIfInBounds_toArray, List.set_cons_zero, List.set_cons_succ]
        refine wpAnyH_take (i := 3) (v := ?_) rfl (by kernel_rfl) (by kernel_rfl) (by kernel_rfl) (fun _ _ _ h => h) (Or.inl ⟨by kernel_rfl, ?_⟩) (by assumption) ?_
        rotate_left
        · (intro w hSw; (try dsimp only at hSw); (try go_split_ands); go_simp; (try with_reducible rfl))
        try simp only [Act.put, List.getElem_toArray, List.getElem_cons_succ, List.getElem_cons_zero, List.setIfInBounds_toArray, List.set_cons_zero, List.set_cons_succ]
        refine wpAnyH_mono (T := (fun W : World => W.cell? ⟨g0, r0, none⟩ = some (.int .i64 ((p3 r0 : Nat) : Int)) ∧ True)) (fun W hW => hW.2) _ _ _ _ ?_
        replace hHeld := (show (fun W : World => W.cell? ⟨g0, r0, none⟩ = some (.int .i64 ((p3 r0 : Nat) : Int)) ∧ True) _ from ⟨p3_cell (G2.out.get 0 rfl) hr0, trivial⟩)
        refine wpAnyH_take (i := 4) (v := ?_) rfl (by kernel_rfl) (by kernel_rfl) (by kernel_rfl) (fun _ _ _ h => h) (Or.inl ⟨by kernel_rfl, ?_⟩) (by assumption) ?_
        rotate_left
        · (intro w hSw; (try dsimp only at hSw); (try go_split_ands); go_simp; (try with_reducible rfl))
        try simp only [Act.put, List.getElem_toArray, List.getElem_cons_succ, List.getElem_cons_zero, List.setIfInBounds_toArray, List.set_cons_zero, List.set_cons_succ]
        refine wpAnyH_ready (rs := [6, 12]) (by kernel_rfl) (by simp) ?_
        refine AllReadyH.cons rfl (fun Kc hK => ?_) (AllReadyH.cons rfl (fun Kc hK => ?_) AllReadyH.nil)
        · refine step_fn en_next #[.pointer (some ⟨d, 0, none⟩), .int .i64 2] (by kernel_rfl) rfl (by kernel_rfl) ?_
          refine (k_Next d 2 _ G2.out.dc (by omega) (by omega)).mono ?_
          rintro e v3 ⟨r1, hr1, rfl, hd, hg⟩
          refine ⟨_, rfl, ?_⟩
          have G3 := Lib.hid (G2.out.call hd hg)
          clear hd hg
          have zr1 : (r1 : Int) < 2 := by omega
          have yr1 : (0 : Int) ≤ (r1 : Int) := by omega
          have ur1 : IntKind.i64.wrap (2 + (r1 : Int)) = 2 + (r1 : Int) := wraps_i64_63 _ (by omega) (by omega)
          refine hK.out _ _ ⟨p3_cell (G3.out.get 0 rfl) hr0, trivial⟩ (fun hHeld => ?_)
          clear hK Kc
          try simp only [Act.put, List.getElem_toArray, List.getElem_cons_succ, List.getElem_cons_zero, List.setIfInBounds_toArray, List.set_cons_zero, List.set_cons_succ]
          refine wpAnyH_take (i := 7) (v := ?_) rfl (by kernel_rfl) (by kernel_rfl) (by kernel_rfl) (fun _ _ _ h => h) (Or.inl ⟨by kernel_rfl, ?_⟩) (by assumption) ?_
          rotate_left
          · (intro w hSw; (try dsimp only at hSw); (try go_split_ands); go_simp; (try with_reducible rfl))
          try simp only [Act.put, List.getElem_toArray, List.getElem_cons_succ, List.getElem_cons_zero, List.setIfInBounds_toArray, List.set_cons_zero, List.set_cons_succ]
          refine wpAnyH_ready (rs := [9, 12]) (by kernel_rfl) (by simp) ?_
          refine AllReadyH.cons rfl (fun Kc hK => ?_) (AllReadyH.cons rfl (fun Kc hK => ?_) AllReadyH.nil)
          · refine step_fn en_next #[.pointer (some ⟨d, 0, none⟩), .int .i64 2] (by kernel_rfl) rfl (by kernel_rfl) ?_
            refine (k_Next d 2 _ G3.out.dc (by omega) (by omega)).mono ?_
            rintro e v4 ⟨r2, hr2, rfl, hd, hg⟩
            refine ⟨_, rfl, ?_⟩
            have G4 := Lib.hid (G3.out.call hd hg)
            clear hd hg
            have zr2 : (r2 : Int) < 2 := by omega
            have yr2 : (0 : Int) ≤ (r2 : Int) := by omega
            have ur2 : IntKind.i64.wrap (3 + (r2 : Int)) = 3 + (r2 : Int) := wraps_i64_63 _ (by omega) (by omega)
            refine hK.out _ _ ⟨p3_cell (G4.out.get 0 rfl) hr0, trivial⟩ (fun hHeld => ?_)
            clear hK Kc
            try simp only [Act.put, List.getElem_toArray, List.getElem_cons_succ, List.getElem_cons_zero, List.setIfInBounds_toArray, List.set_cons_zero, List.set_cons_succ]
            refine wpAnyH_take (i := 10) (v := ?_) rfl (by kernel_rfl) (by kernel_rfl) (by kernel_rfl) (fun _ _ _ h => h) (Or.inl ⟨by kernel_rfl, ?_⟩) (by assumption) ?_
            rotate_left
            · (intro w hSw; (try dsimp only at hSw); (try go_split_ands); go_simp; (try with_reducible rfl))
            try simp only [Act.put, List.getElem_toArray, List.getElem_cons_succ, List.getElem_cons_zero, List.setIfInBounds_toArray, List.set_cons_zero, List.set_cons_succ]
            refine wpAnyH_take (i := 11) (v := ?_) rfl (by kernel_rfl) (by kernel_rfl) (by kernel_rfl) (fun _ _ _ h => h) (Or.inl ⟨by kernel_rfl, ?_⟩) (by assumption) ?_
            rotate_left
            · (intro w hSw; (try dsimp only at hSw); (try go_split_ands); go_simp; (try with_reducible rfl))
            try simp only [Act.put, List.getElem_toArray, List.getElem_cons_succ, List.getElem_cons_zero, List.setIfInBounds_toArray, List.set_cons_zero, List.set_cons_succ]
            refine wpAnyH_ready (rs := [12]) (by kernel_rfl) (by simp) ?_
            refine AllReadyH.cons rfl (fun Kc hK => ?_) AllReadyH.nil
            refine step_alE (mk := (fun g => .pointer (some ⟨g, 0, none⟩))) (t := 29) (cs := #[.int .i64 0, .int .i64 0, .int .i64 0]) G4.out (by kernel_rfl) (al_plan rfl) ?_
            intro g12 W5 hD hB
            have G5 := Lib.hid hD
            clear hD hB
            refine hK.out _ _ ⟨p3_cell (G5.out.get 1 rfl) hr0, trivial⟩ (fun hHeld => ?_)
            clear hK Kc
            try simp only [Act.put, List.getElem_toArray, List.getElem_cons_succ, List.getElem_cons_zero, List.setIfInBounds_toArray, List.set_cons_zero, List.set_cons_succ]
            refine wpAnyH_ready (rs := [13]) (by kernel_rfl) (by simp) ?_
            refine AllReadyH.cons rfl (fun Kc hK => ?_) AllReadyH.nil
            refine step_skipE _ (by kernel_rfl) (st_plan (p := ((p3 r0 : Nat) : Int)) (q := 2 + (r1 : Int)) (r := 3 + (r2 : Int)) rfl (by kernel_rfl) (by kernel_rfl) (G5.out.get 0 rfl)) ?_
            intro W6 hW6
            have h6 := (((G5.out.set 0 rfl 0 (.int .i64 ((p3 r0 : Nat) : Int))).set 0 rfl 1 (.int .i64 (2 + (r1 : Int)))).set 0 rfl 2 (.int .i64 (3 + (r2 : Int))))
            rw [← hW6] at h6
            have G6 := Lib.hid h6
            clear h6 hW6
            refine hK.out _ _ ⟨p3_cell (G6.out.get 1 rfl) hr0, trivial⟩ (fun hHeld => ?_)
            clear hK Kc
            try simp only [Act.put, List.getElem_toArray, List.getElem_cons_succ, List.getElem_cons_zero, List.setIfInBounds_toArray, List.set_cons_zero, List.set_cons_succ]
            refine wpAnyH_done (by kernel_rfl) ?_ _
            (try go_wp2_with fail)
            go_meet
            exact pwA_end HOLD.out hdl G6.out 0 rfl hr0 hr1 hr2
          · refine step_alE (mk := (fun g => .pointer (some ⟨g, 0, none⟩))) (t := 29) (cs := #[.int .i64 0, .int .i64 0, .int .i64 0]) G3.out (by kernel_rfl) (al_plan rfl) ?_
            intro g12 W7 hD hB
            have G7 := Lib.hid hD
            clear hD hB
            refine hK.out _ _ ⟨p3_cell (G7.out.get 1 rfl) hr0, trivial⟩ (fun hHeld => ?_)
            clear hK Kc
            try simp only [Act.put, List.getElem_toArray, List.getElem_cons_succ, List.getElem_cons_zero, List.setIfInBounds_toArray, List.set_cons_zero, List.set_cons_succ]
            refine wpAnyH_ready (rs := [9]) (by kernel_rfl) (by simp) ?_
            refine AllReadyH.cons rfl (fun Kc hK => ?_) AllReadyH.nil
            refine step_fn en_next #[.pointer (some ⟨d, 0, none⟩), .int .i64 2] (by kernel_rfl) rfl (by kernel_rfl) ?_
            refine (k_Next d 2 _ G7.out.dc (by omega) (by omega)).mono ?_
            rintro e v8 ⟨r2, hr2, rfl, hd, hg⟩
            refine ⟨_, rfl, ?_⟩
            have G8 := Lib.hid (G7.out.call hd hg)
            clear hd hg
            have zr2 : (r2 : Int) < 2 := by omega
            have yr2 : (0 : Int) ≤ (r2 : Int) := by omega
            have ur2 : IntKind.i64.wrap (3 + (r2 : Int)) = 3 + (r2 : Int) := wraps_i64_63 _ (by omega) (by omega)
            refine hK.out _ _ ⟨p3_cell (G8.out.get 1 rfl) hr0, trivial⟩ (fun hHeld => ?_)
            clear hK Kc
            try simp only [Act.put, List.getElem_toArray, List.getElem_cons_succ, List.getElem_cons_zero, List.setIfInBounds_toArray, List.set_cons_zero, List.set_cons_succ]
            refine wpAnyH_take (i := 10) (v := ?_) rfl (by kernel_rfl) (by kernel_rfl) (by kernel_rfl) (fun _ _ _ h => h) (Or.inl ⟨by kernel_rfl, ?_⟩) (by assumption) ?_
            rotate_left
            · (intro w hSw; (try dsimp only at hSw); (try go_split_ands); go_simp; (try with_reducible rfl))
            try simp only [Act.put, List.getElem_toArray, List.getElem_cons_succ, List.getElem_cons_zero, List.setIfInBounds_toArray, List.set_cons_zero, List.set_cons_succ]
            refine wpAnyH_take (i := 11) (v := ?_) rfl (by kernel_rfl) (by kernel_rfl) (by kernel_rfl) (fun _ _ _ h => h) (Or.inl ⟨by kernel_rfl, ?_⟩) (by assumption) ?_
            rotate_left
            · (intro w hSw; (try dsimp only at hSw); (try go_split_ands); go_simp; (try with_reducible rfl))
            try simp only [Act.put, List.getElem_toArray, List.getElem_cons_succ, List.getElem_cons_zero, List.setIfInBounds_toArray, List.set_cons_zero, List.set_cons_succ]
            refine wpAnyH_ready (rs := [13]) (by kernel_rfl) (by simp) ?_
            refine AllReadyH.cons rfl (fun Kc hK => ?_) AllReadyH.nil
            refine step_skipE _ (by kernel_rfl) (st_plan (p := ((p3 r0 : Nat) : Int)) (q := 2 + (r1 : Int)) (r := 3 + (r2 : Int)) rfl (by kernel_rfl) (by kernel_rfl) (G8.out.get 0 rfl)) ?_
            intro W6 hW6
            have h6 := (((G8.out.set 0 rfl 0 (.int .i64 ((p3 r0 : Nat) : Int))).set 0 rfl 1 (.int .i64 (2 + (r1 : Int)))).set 0 rfl 2 (.int .i64 (3 + (r2 : Int))))
            rw [← hW6] at h6
            have G9 := Lib.hid h6
            clear h6 hW6
            refine hK.out _ _ ⟨p3_cell (G9.out.get 1 rfl) hr0, trivial⟩ (fun hHeld => ?_)
            clear hK Kc
            try simp only [Act.put, List.getElem_toArray, List.getElem_cons_succ, List.getElem_cons_zero, List.setIfInBounds_toArray, List.set_cons_zero, List.set_cons_succ]
            refine wpAnyH_done (by kernel_rfl) ?_ _
            (try go_wp2_with fail)
            go_meet
            exact pwA_end HOLD.out hdl G9.out 0 rfl hr0 hr1 hr2
        · refine step_alE (mk := (fun g => .pointer (some ⟨g, 0, none⟩))) (t := 29) (cs := #[.int .i64 0, .int .i64 0, .int .i64 0]) G2.out (by kernel_rfl) (al_plan rfl) ?_
          intro g12 W10 hD hB
          have G10 := Lib.hid hD
          clear hD hB
          refine hK.out _ _ ⟨p3_cell (G10.out.get 1 rfl) hr0, trivial⟩ (fun hHeld => ?_)
          clear hK Kc
          try simp only [Act.put, List.getElem_toArray, List.getElem_cons_succ, List.getElem_cons_zero, List.setIfInBounds_toArray, List.set_cons_zero, List.set_cons_succ]
          refine wpAnyH_ready (rs := [6]) (by kernel_rfl) (by simp) ?_
          refine AllReadyH.cons rfl (fun Kc hK => ?_) AllReadyH.nil
          refine step_fn en_next #[.pointer (some ⟨d, 0, none⟩), .int .i64 2] (by kernel_rfl) rfl (by kernel_rfl) ?_
          refine (k_Next d 2 _ G10.out.dc (by omega) (by omega)).mono ?_
          rintro e v11 ⟨r1, hr1, rfl, hd, hg⟩
          refine ⟨_, rfl, ?_⟩
          have G11 := Lib.hid (G10.out.call hd hg)
          clear hd hg
          have zr1 : (r1 : Int) < 2 := by omega
          have yr1 : (0 : Int) ≤ (r1 : Int) := by omega
          have ur1 : IntKind.i64.wrap (2 + (r1 : Int)) = 2 + (r1 : Int) := wraps_i64_63 _ (by omega) (by omega)
          refine hK.out _ _ ⟨p3_cell (G11.out.get 1 rfl) hr0, trivial⟩ (fun hHeld => ?_)
          clear hK Kc
          try simp only [Act.put, List.getElem_toArray, List.getElem_cons_succ, List.getElem_cons_zero, List.setIfInBounds_toArray, List.set_cons_zero, List.set_cons_succ]
          refine wpAnyH_take (i := 7) (v := ?_) rfl (by kernel_rfl) (by kernel_rfl) (by kernel_rfl) (fun _ _ _ h => h) (Or.inl ⟨by kernel_rfl, ?_⟩) (by assumption) ?_
          rotate_left
          · (intro w hSw; (try dsimp only at hSw); (try go_split_ands); go_simp; (try with_reducible rfl))
          try simp only [Act.put, List.getElem_toArray, List.getElem_cons_succ, List.getElem_cons_zero, List.setIfInBounds_toArray, List.set_cons_zero, List.set_cons_succ]
          refine wpAnyH_ready (rs := [9]) (by kernel_rfl) (by simp) ?_
          refine AllReadyH.cons rfl (fun Kc hK => ?_) AllReadyH.nil
          refine step_fn en_next #[.pointer (some ⟨d, 0, none⟩), .int .i64 2] (by kernel_rfl) rfl (by kernel_rfl) ?_
          refine (k_Next d 2 _ G11.out.dc (by omega) (by omega)).mono ?_
          rintro e v12 ⟨r2, hr2, rfl, hd, hg⟩
          refine ⟨_, rfl, ?_⟩
          have G12 := Lib.hid (G11.out.call hd hg)
          clear hd hg
          have zr2 : (r2 : Int) < 2 := by omega
          have yr2 : (0 : Int) ≤ (r2 : Int) := by omega
          have ur2 : IntKind.i64.wrap (3 + (r2 : Int)) = 3 + (r2 : Int) := wraps_i64_63 _ (by omega) (by omega)
          refine hK.out _ _ ⟨p3_cell (G12.out.get 1 rfl) hr0, trivial⟩ (fun hHeld => ?_)
          clear hK Kc
          try simp only [Act.put, List.getElem_toArray, List.getElem_cons_succ, List.getElem_cons_zero, List.setIfInBounds_toArray, List.set_cons_zero, List.set_cons_succ]
          refine wpAnyH_take (i := 10) (v := ?_) rfl (by kernel_rfl) (by kernel_rfl) (by kernel_rfl) (fun _ _ _ h => h) (Or.inl ⟨by kernel_rfl, ?_⟩) (by assumption) ?_
          rotate_left
          · (intro w hSw; (try dsimp only at hSw); (try go_split_ands); go_simp; (try with_reducible rfl))
          try simp only [Act.put, List.getElem_toArray, List.getElem_cons_succ, List.getElem_cons_zero, List.setIfInBounds_toArray, List.set_cons_zero, List.set_cons_succ]
          refine wpAnyH_take (i := 11) (v := ?_) rfl (by kernel_rfl) (by kernel_rfl) (by kernel_rfl) (fun _ _ _ h => h) (Or.inl ⟨by kernel_rfl, ?_⟩) (by assumption) ?_
          rotate_left
          · (intro w hSw; (try dsimp only at hSw); (try go_split_ands); go_simp; (try with_reducible rfl))
          try simp only [Act.put, List.getElem_toArray, List.getElem_cons_succ, List.getElem_cons_zero, List.setIfInBounds_toArray, List.set_cons_zero, List.set_cons_succ]
          refine wpAnyH_ready (rs := [13]) (by kernel_rfl) (by simp) ?_
          refine AllReadyH.cons rfl (fun Kc hK => ?_) AllReadyH.nil
          refine step_skipE _ (by kernel_rfl) (st_plan (p := ((p3 r0 : Nat) : Int)) (q := 2 + (r1 : Int)) (r := 3 + (r2 : Int)) rfl (by kernel_rfl) (by kernel_rfl) (G12.out.get 0 rfl)) ?_
          intro W6 hW6
          have h6 := (((G12.out.set 0 rfl 0 (.int .i64 ((p3 r0 : Nat) : Int))).set 0 rfl 1 (.int .i64 (2 + (r1 : Int)))).set 0 rfl 2 (.int .i64 (3 + (r2 : Int))))
          rw [← hW6] at h6
          have G13 := Lib.hid h6
          clear h6 hW6
          refine hK.out _ _ ⟨p3_cell (G13.out.get 1 rfl) hr0, trivial⟩ (fun hHeld => ?_)
          clear hK Kc
          try simp only [Act.put, List.getElem_toArray, List.getElem_cons_succ, List.getElem_cons_zero, List.setIfInBounds_toArray, List.set_cons_zero, List.set_cons_succ]
          refine wpAnyH_done (by kernel_rfl) ?_ _
          (try go_wp2_with fail)
          go_meet
          exact pwA_end HOLD.out hdl G13.out 0 rfl hr0 hr1 hr2
      · refine step_alE (mk := (fun g => .pointer (some ⟨g, 0, none⟩))) (t := 29) (cs := #[.int .i64 0, .int .i64 0, .int .i64 0]) G1.out (by kernel_rfl) (al_plan rfl) ?_
        intro g12 W14 hD hB
        have G14 := Lib.hid hD
        clear hD hB
        refine hK.out _ _ trivial (fun hHeld => ?_)
        clear hK Kc
        try simp only [Act.put, List.getElem_toArray, List.getElem_cons_succ, List.getElem_cons_zero, List.setIfInBounds_toArray, List.set_cons_zero, List.set_cons_succ]
        refine wpAnyH_ready (rs := [2]) (by kernel_rfl) (by simp) ?_
        refine AllReadyH.cons rfl (fun Kc hK => ?_) AllReadyH.nil
        refine step_fn en_next #[.pointer (some ⟨d, 0, none⟩), .int .i64 3] (by kernel_rfl) rfl (by kernel_rfl) ?_
        refine (k_Next d 3 _ G14.out.dc (by omega) (by omega)).mono ?_
        rintro e v15 ⟨r0, hr0, rfl, hd, hg⟩
        refine ⟨_, rfl, ?_⟩
        have G15 := Lib.hid (G14.out.call hd hg)
        clear hd hg
        have zr0 : (r0 : Int) < 3 := by omega
        have yr0 : (0 : Int) ≤ (r0 : Int) := by omega
        refine hK.out _ _ trivial (fun hHeld => ?_)
        clear hK Kc
        try simp only [Act.put, List.getElem_toArray, List.getElem_cons_succ, List.getElem_cons_zero, List.setIfInBounds_toArray, List.set_cons_zero, List.set_cons_succ]
        refine wpAnyH_take (i := 3) (v := ?_) rfl (by kernel_rfl) (by kernel_rfl) (by kernel_rfl) (fun _ _ _ h => h) (Or.inl ⟨by kernel_rfl, ?_⟩) (by assumption) ?_
        rotate_left
        · (intro w hSw; (try dsimp only at hSw); (try go_split_ands); go_simp; (try with_reducible rfl))
        try simp only [Act.put, List.getElem_toArray, List.getElem_cons_succ, List.getElem_cons_zero, List.setIfInBounds_toArray, List.set_cons_zero, List.set_cons_succ]
        refine wpAnyH_mono (T := (fun W : World => W.cell? ⟨g0, r0, none⟩ = some (.int .i64 ((p3 r0 : Nat) : Int)) ∧ True)) (fun W hW => hW.2) _ _ _ _ ?_
        replace hHeld := (show (fun W : World => W.cell? ⟨g0, r0, none⟩ = some (.int .i64 ((p3 r0 : Nat) : Int)) ∧ True) _ from ⟨p3_cell (G15.out.get 1 rfl) hr0, trivial⟩)
        refine wpAnyH_take (i := 4) (v := ?_) rfl (by kernel_rfl) (by kernel_rfl) (by kernel_rfl) (fun _ _ _ h => h) (Or.inl ⟨by kernel_rfl, ?_⟩) (by assumption) ?_
        rotate_left
        · (intro w hSw; (try dsimp only at hSw); (try go_split_ands); go_simp; (try with_reducible rfl))
        try simp only [Act.put, List.getElem_toArray, List.getElem_cons_succ, List.getElem_cons_zero, List.setIfInBounds_toArray, List.set_cons_zero, List.set_cons_succ]
        refine wpAnyH_ready (rs := [6]) (by kernel_rfl) (by simp) ?_
        refine AllReadyH.cons rfl (fun Kc hK => ?_) AllReadyH.nil
        refine step_fn en_next #[.pointer (some ⟨d, 0, none⟩), .int .i64 2] (by kernel_rfl) rfl (by kernel_rfl) ?_
        refine (k_Next d 2 _ G15.out.dc (by omega) (by omega)).mono ?_
        rintro e v16 ⟨r1, hr1, rfl, hd, hg⟩
        refine ⟨_, rfl, ?_⟩
        have G16 := Lib.hid (G15.out.call hd hg)
        clear hd hg
        have zr1 : (r1 : Int) < 2 := by omega
        have yr1 : (0 : Int) ≤ (r1 : Int) := by omega
        have ur1 : IntKind.i64.wrap (2 + (r1 : Int)) = 2 + (r1 : Int) := wraps_i64_63 _ (by omega) (by omega)
        refine hK.out _ _ ⟨p3_cell (G16.out.get 1 rfl) hr0, trivial⟩ (fun hHeld => ?_)
        clear hK Kc
        try simp only [Act.put, List.getElem_toArray, List.getElem_cons_succ, List.getElem_cons_zero, List.setIfInBounds_toArray, List.set_cons_zero, List.set_cons_succ]
        refine wpAnyH_take (i := 7) (v := ?_) rfl (by kernel_rfl) (by kernel_rfl) (by kernel_rfl) (fun _ _ _ h => h) (Or.inl ⟨by kernel_rfl, ?_⟩) (by assumption) ?_
        rotate_left
        · (intro w hSw; (try dsimp only at hSw); (try go_split_ands); go_simp; (try with_reducible rfl))
        try simp only [Act.put, List.getElem_toArray, List.getElem_cons_succ, List.getElem_cons_zero, List.setIfInBounds_toArray, List.set_cons_zero, List.set_cons_succ]
        refine wpAnyH_ready (rs := [9]) (by kernel_rfl) (by simp) ?_
        refine AllReadyH.cons rfl (fun Kc hK => ?_) AllReadyH.nil
        refine step_fn en_next #[.pointer (some ⟨d, 0, none⟩), .int .i64 2] (by kernel_rfl) rfl (by kernel_rfl) ?_
        refine (k_Next d 2 _ G16.out.dc (by omega) (by omega)).mono ?_
        rintro e v17 ⟨r2, hr2, rfl, hd, hg⟩
        refine ⟨_, rfl, ?_⟩
        have G17 := Lib.hid (G16.out.call hd hg)
        clear hd hg
        have zr2 : (r2 : Int) < 2 := by omega
        have yr2 : (0 : Int) ≤ (r2 : Int) := by omega
        have ur2 : IntKind.i64.wrap (3 + (r2 : Int)) = 3 + (r2 : Int) := wraps_i64_63 _ (by omega) (by omega)
        refine hK.out _ _ ⟨p3_cell (G17.out.get 1 rfl) hr0, trivial⟩ (fun hHeld => ?_)
        clear hK Kc
        try simp only [Act.put, List.getElem_toArray, List.getElem_cons_succ, List.getElem_cons_zero, List.setIfInBounds_toArray, List.set_cons_zero, List.set_cons_succ]
        refine wpAnyH_take (i := 10) (v := ?_) rfl (by kernel_rfl) (by kernel_rfl) (by kernel_rfl) (fun _ _ _ h => h) (Or.inl ⟨by kernel_rfl, ?_⟩) (by assumption) ?_
        rotate_left
        · (intro w hSw; (try dsimp only at hSw); (try go_split_ands); go_simp; (try with_reducible rfl))
        try simp only [Act.put, List.getElem_toArray, List.getElem_cons_succ, List.getElem_cons_zero, List.setIfInBounds_toArray, List.set_cons_zero, List.set_cons_succ]
        refine wpAnyH_take (i := 11) (v := ?_) rfl (by kernel_rfl) (by kernel_rfl) (by kernel_rfl) (fun _ _ _ h => h) (Or.inl ⟨by kernel_rfl, ?_⟩) (by assumption) ?_
        rotate_left
        · (intro w hSw; (try dsimp only at hSw); (try go_split_ands); go_simp; (try with_reducible rfl))
        try simp only [Act.put, List.getElem_toArray, List.getElem_cons_succ, List.getElem_cons_zero, List.setIfInBounds_toArray, List.set_cons_zero, List.set_cons_succ]
        refine wpAnyH_ready (rs := [13]) (by kernel_rfl) (by simp) ?_
        refine AllReadyH.cons rfl (fun Kc hK => ?_) AllReadyH.nil
        refine step_skipE _ (by kernel_rfl) (st_plan (p := ((p3 r0 : Nat) : Int)) (q := 2 + (r1 : Int)) (r := 3 + (r2 : Int)) rfl (by kernel_rfl) (by kernel_rfl) (G17.out.get 0 rfl)) ?_
        intro W6 hW6
        have h6 := (((G17.out.set 0 rfl 0 (.int .i64 ((p3 r0 : Nat) : Int))).set 0 rfl 1 (.int .i64 (2 + (r1 : Int)))).set 0 rfl 2 (.int .i64 (3 + (r2 : Int))))
        rw [← hW6] at h6
        have G18 := Lib.hid h6
        clear h6 hW6
        refine hK.out _ _ ⟨p3_cell (G18.out.get 1 rfl) hr0, trivial⟩ (fun hHeld => ?_)
        clear hK Kc
        try simp only [Act.put, List.getElem_toArray, List.getElem_cons_succ, List.getElem_cons_zero, List.setIfInBounds_toArray, List.set_cons_zero, List.set_cons_succ]
        refine wpAnyH_done (by kernel_rfl) ?_ _
        (try go_wp2_with fail)
        go_meet
        exact pwA_end HOLD.out hdl G18.out 0 rfl hr0 hr1 hr2
    · refine step_fn en_next #[.pointer (some ⟨d, 0, none⟩), .int .i64 3] (by kernel_rfl) rfl (by kernel_rfl) ?_
      refine (k_Next d 3 _ HD0.out.dc (by omega) (by omega)).mono ?_
      rintro e v19 ⟨r0, hr0, rfl, hd, hg⟩
      refine ⟨_, rfl, ?_⟩
      have G19 := Lib.hid (HD0.out.call hd hg)
      clear hd hg
      have zr0 : (r0 : Int) < 3 := by omega
      have yr0 : (0 : Int) ≤ (r0 : Int) := by omega
      refine hK.out _ _ trivial (fun hHeld => ?_)
      clear hK Kc
      try simp only [Act.put, List.getElem_toArray, List.getElem_cons_succ, List.getElem_cons_zero, List.setIfInBounds_toArray, List.set_cons_zero, List.set_cons_succ]
      refine wpAnyH_ready (rs := [0, 6, 12]) (by kernel_rfl) (by simp) ?_
      refine AllReadyH.cons rfl (fun Kc hK => ?_) (AllReadyH.cons rfl (fun Kc hK => ?_) (AllReadyH.cons rfl (fun Kc hK => ?_) AllReadyH.nil))
      · refine step_alE (mk := (fun g => .slice (some ⟨g, 0, none⟩) 3 3)) (t := 3) (cs := #[.int .i64 5, .int .i64 7, .int .i64 11]) G19.out (by kernel_rfl) (bs_p3 rfl) ?_
        intro g0 W20 hD hB
        have G20 := Lib.hid hD
        clear hD hB
        refine hK.out _ _ trivial (fun hHeld => ?_)
        clear hK Kc
        try simp only [Act.put, List.getElem_toArray, List.getElem_cons_succ, List.getElem_cons_zero, List.setIfInBounds_toArray, List.set_cons_zero, List.set_cons_succ]
        refine wpAnyH_take (i := 3) (v := ?_) rfl (by kernel_rfl) (by kernel_rfl) (by kernel_rfl) (fun _ _ _ h => h) (Or.inl ⟨by kernel_rfl, ?_⟩) (by assumption) ?_
        rotate_left
        · (intro w hSw; (try dsimp only at hSw); (try go_split_ands); go_simp; (try with_reducible rfl))
        try simp only [Act.put, List.getElem_toArray, List.getElem_cons_succ, List.getElem_cons_zero, List.setIfInBounds_toArray, List.set_cons_zero, List.set_cons_succ]
        refine wpAnyH_mono (T := (fun W : World => W.cell? ⟨g0, r0, none⟩ = some (.int .i64 ((p3 r0 : Nat) : Int)) ∧ True)) (fun W hW => hW.2) _ _ _ _ ?_
        replace hHeld := (show (fun W : World => W.cell? ⟨g0, r0, none⟩ = some (.int .i64 ((p3 r0 : Nat) : Int)) ∧ True) _ from ⟨p3_cell (G20.out.get 0 rfl) hr0, trivial⟩)
        refine wpAnyH_take (i := 4) (v := ?_) rfl (by kernel_rfl) (by kernel_rfl) (by kernel_rfl) (fun _ _ _ h => h) (Or.inl ⟨by kernel_rfl, ?_⟩) (by assumption) ?_
        rotate_left
        · (intro w hSw; (try dsimp only at hSw); (try go_split_ands); go_simp; (try with_reducible rfl))
        try simp only [Act.put, List.getElem_toArray, List.getElem_cons_succ, List.getElem_cons_zero, List.setIfInBounds_toArray, List.set_cons_zero, List.set_cons_succ]
        refine wpAnyH_ready (rs := [6, 12]) (by kernel_rfl) (by simp) ?_
        refine AllReadyH.cons rfl (fun Kc hK => ?_) (AllReadyH.cons rfl (fun Kc hK => ?_) AllReadyH.nil)
        · refine step_fn en_next #[.pointer (some ⟨d, 0, none⟩), .int .i64 2] (by kernel_rfl) rfl (by kernel_rfl) ?_
          refine (k_Next d 2 _ G20.out.dc (by omega) (by omega)).mono ?_
          rintro e v21 ⟨r1, hr1, rfl, hd, hg⟩
          refine ⟨_, rfl, ?_⟩
          have G21 := Lib.hid (G20.out.call hd hg)
          clear hd hg
          have zr1 : (r1 : Int) < 2 := by omega
          have yr1 : (0 : Int) ≤ (r1 : Int) := by omega
          have ur1 : IntKind.i64.wrap (2 + (r1 : Int)) = 2 + (r1 : Int) := wraps_i64_63 _ (by omega) (by omega)
          refine hK.out _ _ ⟨p3_cell (G21.out.get 0 rfl) hr0, trivial⟩ (fun hHeld => ?_)
          clear hK Kc
          try simp only [Act.put, List.getElem_toArray, List.getElem_cons_succ, List.getElem_cons_zero, List.setIfInBounds_toArray, List.set_cons_zero, List.set_cons_succ]
          refine wpAnyH_take (i := 7) (v := ?_) rfl (by kernel_rfl) (by kernel_rfl) (by kernel_rfl) (fun _ _ _ h => h) (Or.inl ⟨by kernel_rfl, ?_⟩) (by assumption) ?_
          rotate_left
          · (intro w hSw; (try dsimp only at hSw); (try go_split_ands); go_simp; (try with_reducible rfl))
          try simp only [Act.put, List.getElem_toArray, List.getElem_cons_succ, List.getElem_cons_zero, List.setIfInBounds_toArray, List.set_cons_zero, List.set_cons_succ]
          refine wpAnyH_ready (rs := [9, 12]) (by kernel_rfl) (by simp) ?_
          refine AllReadyH.cons rfl (fun Kc hK => ?_) (AllReadyH.cons rfl (fun Kc hK => ?_) AllReadyH.nil)
          · refine step_fn en_next #[.pointer (some ⟨d, 0, none⟩), .int .i64 2] (by kernel_rfl) rfl (by kernel_rfl) ?_
            refine (k_Next d 2 _ G21.out.dc (by omega) (by omega)).mono ?_
            rintro e v22 ⟨r2, hr2, rfl, hd, hg⟩
            refine ⟨_, rfl, ?_⟩
            have G22 := Lib.hid (G21.out.call hd hg)
            clear hd hg
            have zr2 : (r2 : Int) < 2 := by omega
            have yr2 : (0 : Int) ≤ (r2 : Int) := by omega
            have ur2 : IntKind.i64.wrap (3 + (r2 : Int)) = 3 + (r2 : Int) := wraps_i64_63 _ (by omega) (by omega)
            refine hK.out _ _ ⟨p3_cell (G22.out.get 0 rfl) hr0, trivial⟩ (fun hHeld => ?_)
            clear hK Kc
            try simp only [Act.put, List.getElem_toArray, List.getElem_cons_succ, List.getElem_cons_zero, List.setIfInBounds_toArray, List.set_cons_zero, List.set_cons_succ]
            refine wpAnyH_take (i := 10) (v := ?_) rfl (by kernel_rfl) (by kernel_rfl) (by kernel_rfl) (fun _ _ _ h => h) (Or.inl ⟨by kernel_rfl, ?_⟩) (by assumption) ?_
            rotate_left
            · (intro w hSw; (try dsimp only at hSw); (try go_split_ands); go_simp; (try with_reducible rfl))
            try simp only [Act.put, List.getElem_toArray, List.getElem_cons_succ, List.getElem_cons_zero, List.setIfInBounds_toArray, List.set_cons_zero, List.set_cons_succ]
            refine wpAnyH_take (i := 11) (v := ?_) rfl (by kernel_rfl) (by kernel_rfl) (by kernel_rfl) (fun _ _ _ h => h) (Or.inl ⟨by kernel_rfl, ?_⟩) (by assumption) ?_
            rotate_left
            · (intro w hSw; (try dsimp only at hSw); (try go_split_ands); go_simp; (try with_reducible rfl))
            try simp only [Act.put, List.getElem_toArray, List.getElem_cons_succ, List.getElem_cons_zero, List.setIfInBounds_toArray, List.set_cons_zero, List.set_cons_succ]
            refine wpAnyH_ready (rs := [12]) (by kernel_rfl) (by simp) ?_
            refine AllReadyH.cons rfl (fun Kc hK => ?_) AllReadyH.nil
            refine step_alE (mk := (fun g => .pointer (some ⟨g, 0, none⟩))) (t := 29) (cs := #[.int .i64 0, .int .i64 0, .int .i64 0]) G22.out (by kernel_rfl) (al_plan rfl) ?_
            intro g12 W23 hD hB
            have G23 := Lib.hid hD
            clear hD hB
            refine hK.out _ _ ⟨p3_cell (G23.out.get 1 rfl) hr0, trivial⟩ (fun hHeld => ?_)
            clear hK Kc
            try simp only [Act.put, List.getElem_toArray, List.getElem_cons_succ, List.getElem_cons_zero, List.setIfInBounds_toArray, List.set_cons_zero, List.set_cons_succ]
            refine wpAnyH_ready (rs := [13]) (by kernel_rfl) (by simp) ?_
            refine AllReadyH.cons rfl (fun Kc hK => ?_) AllReadyH.nil
            refine step_skipE _ (by kernel_rfl) (st_plan (p := ((p3 r0 : Nat) : Int)) (q := 2 + (r1 : Int)) (r := 3 + (r2 : Int)) rfl (by kernel_rfl) (by kernel_rfl) (G23.out.get 0 rfl)) ?_
            intro W6 hW6
            have h6 := (((G23.out.set 0 rfl 0 (.int .i64 ((p3 r0 : Nat) : Int))).set 0 rfl 1 (.int .i64 (2 + (r1 : Int)))).set 0 rfl 2 (.int .i64 (3 + (r2 : Int))))
            rw [← hW6] at h6
            have G24 := Lib.hid h6
            clear h6 hW6
            refine hK.out _ _ ⟨p3_cell (G24.out.get 1 rfl) hr0, trivial⟩ (fun hHeld => ?_)
            clear hK Kc
            try simp only [Act.put, List.getElem_toArray, List.getElem_cons_succ, List.getElem_cons_zero, List.setIfInBounds_toArray, List.set_cons_zero, List.set_cons_succ]
            refine wpAnyH_done (by kernel_rfl) ?_ _
            (try go_wp2_with fail)
            go_meet
            exact pwA_end HOLD.out hdl G24.out 0 rfl hr0 hr1 hr2
          · refine step_alE (mk := (fun g => .pointer (some ⟨g, 0, none⟩))) (t := 29) (cs := #[.int .i64 0, .int .i64 0, .int .i64 0]) G21.out (by kernel_rfl) (al_plan rfl) ?_
            intro g12 W25 hD hB
            have G25 := Lib.hid hD
            clear hD hB
            refine hK.out _ _ ⟨p3_cell (G25.out.get 1 rfl) hr0, trivial⟩ (fun hHeld => ?_)
            clear hK Kc
            try simp only [Act.put, List.getElem_toArray, List.getElem_cons_succ, List.getElem_cons_zero, List.setIfInBounds_toArray, List.set_cons_zero, List.set_cons_succ]
            refine wpAnyH_ready (rs := [9]) (by kernel_rfl) (by simp) ?_
            refine AllReadyH.cons rfl (fun Kc hK => ?_) AllReadyH.nil
            refine step_fn en_next #[.pointer (some ⟨d, 0, none⟩), .int .i64 2] (by kernel_rfl) rfl (by kernel_rfl) ?_
            refine (k_Next d 2 _ G25.out.dc (by omega) (by omega)).mono ?_
            rintro e v26 ⟨r2, hr2, rfl, hd, hg⟩
            refine ⟨_, rfl, ?_⟩
            have G26 := Lib.hid (G25.out.call hd hg)
            clear hd hg
            have zr2 : (r2 : Int) < 2 := by omega
            have yr2 : (0 : Int) ≤ (r2 : Int) := by omega
            have ur2 : IntKind.i64.wrap (3 + (r2 : Int)) = 3 + (r2 : Int) := wraps_i64_63 _ (by omega) (by omega)
            refine hK.out _ _ ⟨p3_cell (G26.out.get 1 rfl) hr0, trivial⟩ (fun hHeld => ?_)
            clear hK Kc
            try simp only [Act.put, List.getElem_toArray, List.getElem_cons_succ, List.getElem_cons_zero, List.setIfInBounds_toArray, List.set_cons_zero, List.set_cons_succ]
            refine wpAnyH_take (i := 10) (v := ?_) rfl (by kernel_rfl) (by kernel_rfl) (by kernel_rfl) (fun _ _ _ h => h) (Or.inl ⟨by kernel_rfl, ?_⟩) (by assumption) ?_
            rotate_left
            · (intro w hSw; (try dsimp only at hSw); (try go_split_ands); go_simp; (try with_reducible rfl))
            try simp only [Act.put, List.getElem_toArray, List.getElem_cons_succ, List.getElem_cons_zero, List.setIfInBounds_toArray, List.set_cons_zero, List.set_cons_succ]
            refine wpAnyH_take (i := 11) (v := ?_) rfl (by kernel_rfl) (by kernel_rfl) (by kernel_rfl) (fun _ _ _ h => h) (Or.inl ⟨by kernel_rfl, ?_⟩) (by assumption) ?_
            rotate_left
            · (intro w hSw; (try dsimp only at hSw); (try go_split_ands); go_simp; (try with_reducible rfl))
            try simp only [Act.put, List.getElem_toArray, List.getElem_cons_succ, List.getElem_cons_zero, List.setIfInBounds_toArray, List.set_cons_zero, List.set_cons_succ]
            refine wpAnyH_ready (rs := [13]) (by kernel_rfl) (by simp) ?_
            refine AllReadyH.cons rfl (fun Kc hK => ?_) AllReadyH.nil
            refine step_skipE _ (by kernel_rfl) (st_plan (p := ((p3 r0 : Nat) : Int)) (q := 2 + (r1 : Int)) (r := 3 + (r2 : Int)) rfl (by kernel_rfl) (by kernel_rfl) (G26.out.get 0 rfl)) ?_
            intro W6 hW6
            have h6 := (((G26.out.set 0 rfl 0 (.int .i64 ((p3 r0 : Nat) : Int))).set 0 rfl 1 (.int .i64 (2 + (r1 : Int)))).set 0 rfl 2 (.int .i64 (3 + (r2 : Int))))
            rw [← hW6] at h6
            have G27 := Lib.hid h6
            clear h6 hW6
            refine hK.out _ _ ⟨p3_cell (G27.out.get 1 rfl) hr0, trivial⟩ (fun hHeld => ?_)
            clear hK Kc
            try simp only [Act.put, List.getElem_toArray, List.getElem_cons_succ, List.getElem_cons_zero, List.setIfInBounds_toArray, List.set_cons_zero, List.set_cons_succ]
            refine wpAnyH_done (by kernel_rfl) ?_ _
            (try go_wp2_with fail)
            go_meet
            exact pwA_end HOLD.out hdl G27.out 0 rfl hr0 hr1 hr2
        · refine step_alE (mk := (fun g => .pointer (some ⟨g, 0, none⟩))) (t := 29) (cs := #[.int .i64 0, .int .i64 0, .int .i64 0]) G20.out (by kernel_rfl) (al_plan rfl) ?_
          intro g12 W28 hD hB
          have G28 := Lib.hid hD
          clear hD hB
          refine hK.out _ _ ⟨p3_cell (G28.out.get 1 rfl) hr0, trivial⟩ (fun hHeld => ?_)
          clear hK Kc
          try simp only [Act.put, List.getElem_toArray, List.getElem_cons_succ, List.getElem_cons_zero, List.setIfInBounds_toArray, List.set_cons_zero, List.set_cons_succ]
          refine wpAnyH_ready (rs := [6]) (by kernel_rfl) (by simp) ?_
          refine AllReadyH.cons rfl (fun Kc hK => ?_) AllReadyH.nil
          refine step_fn en_next #[.pointer (some ⟨d, 0, none⟩), .int .i64 2] (by kernel_rfl) rfl (by kernel_rfl) ?_
          refine (k_Next d 2 _ G28.out.dc (by omega) (by omega)).mono ?_
          rintro e v29 ⟨r1, hr1, rfl, hd, hg⟩
          refine ⟨_, rfl, ?_⟩
          have G29 := Lib.hid (G28.out.call hd hg)
          clear hd hg
          have zr1 : (r1 : Int) < 2 := by omega
          have yr1 : (0 : Int) ≤ (r1 : Int) := by omega
          have ur1 : IntKind.i64.wrap (2 + (r1 : Int)) = 2 + (r1 : Int) := wraps_i64_63 _ (by omega) (by omega)
          refine hK.out _ _ ⟨p3_cell (G29.out.get 1 rfl) hr0, trivial⟩ (fun hHeld => ?_)
          clear hK Kc
          try simp only [Act.put, List.getElem_toArray, List.getElem_cons_succ, List.getElem_cons_zero, List.setIfInBounds_toArray, List.set_cons_zero, List.set_cons_succ]
          refine wpAnyH_take (i := 7) (v := ?_) rfl (by kernel_rfl) (by kernel_rfl) (by kernel_rfl) (fun _ _ _ h => h) (Or.inl ⟨by kernel_rfl, ?_⟩) (by assumption) ?_
          rotate_left
          · (intro w hSw; (try dsimp only at hSw); (try go_split_ands); go_simp; (try with_reducible rfl))
          try simp only [Act.put, List.getElem_toArray, List.getElem_cons_succ, List.getElem_cons_zero, List.setIfInBounds_toArray, List.set_cons_zero, List.set_cons_succ]
          refine wpAnyH_ready (rs := [9]) (by kernel_rfl) (by simp) ?_
          refine AllReadyH.cons rfl (fun Kc hK => ?_) AllReadyH.nil
          refine step_fn en_next #[.pointer (some ⟨d, 0, none⟩), .int .i64 2] (by kernel_rfl) rfl (by kernel_rfl) ?_
          refine (k_Next d 2 _ G29.out.dc (by omega) (by omega)).mono ?_
          rintro e v30 ⟨r2, hr2, rfl, hd, hg⟩
          refine ⟨_, rfl, ?_⟩
          have G30 := Lib.hid (G29.out.call hd hg)
          clear hd hg
          have zr2 : (r2 : Int) < 2 := by omega
          have yr2 : (0 : Int) ≤ (r2 : Int) := by omega
          have ur2 : IntKind.i64.wrap (3 + (r2 : Int)) = 3 + (r2 : Int) := wraps_i64_63 _ (by omega) (by omega)
          refine hK.out _ _ ⟨p3_cell (G30.out.get 1 rfl) hr0, trivial⟩ (fun hHeld => ?_)
          clear hK Kc
          try simp only [Act.put, List.getElem_toArray, List.getElem_cons_succ, List.getElem_cons_zero, List.setIfInBounds_toArray, List.set_cons_zero, List.set_cons_succ]
          refine wpAnyH_take (i := 10) (v := ?_) rfl (by kernel_rfl) (by kernel_rfl) (by kernel_rfl) (fun _ _ _ h => h) (Or.inl ⟨by kernel_rfl, ?_⟩) (by assumption) ?_
          rotate_left
          · (intro w hSw; (try dsimp only at hSw); (try go_split_ands); go_simp; (try with_reducible rfl))
          try simp only [Act.put, List.getElem_toArray, List.getElem_cons_succ, List.getElem_cons_zero, List.setIfInBounds_toArray, List.set_cons_zero, List.set_cons_succ]
          refine wpAnyH_take (i := 11) (v := ?_) rfl (by kernel_rfl) (by kernel_rfl) (by kernel_rfl) (fun _ _ _ h => h) (Or.inl ⟨by kernel_rfl, ?_⟩) (by assumption) ?_
          rotate_left
          · (intro w hSw; (try dsimp only at hSw); (try go_split_ands); go_simp; (try with_reducible rfl))
          try simp only [Act.put, List.getElem_toArray, List.getElem_cons_succ, List.getElem_cons_zero, List.setIfInBounds_toArray, List.set_cons_zero, List.set_cons_succ]
          refine wpAnyH_ready (rs := [13]) (by kernel_rfl) (by simp) ?_
          refine AllReadyH.cons rfl (fun Kc hK => ?_) AllReadyH.nil
          refine step_skipE _ (by kernel_rfl) (st_plan (p := ((p3 r0 : Nat) : Int)) (q := 2 + (r1 : Int)) (r := 3 + (r2 : Int)) rfl (by kernel_rfl) (by kernel_rfl) (G30.out.get 0 rfl)) ?_
          intro W6 hW6
          have h6 := (((G30.out.set 0 rfl 0 (.int .i64 ((p3 r0 : Nat) : Int))).set 0 rfl 1 (.int .i64 (2 + (r1 : Int)))).set 0 rfl 2 (.int .i64 (3 + (r2 : Int))))
          rw [← hW6] at h6
          have G31 := Lib.hid h6
          clear h6 hW6
          refine hK.out _ _ ⟨p3_cell (G31.out.get 1 rfl) hr0, trivial⟩ (fun hHeld => ?_)
          clear hK Kc
          try simp only [Act.put, List.getElem_toArray, List.getElem_cons_succ, List.getElem_cons_zero, List.setIfInBounds_toArray, List.set_cons_zero, List.set_cons_succ]
          refine wpAnyH_done (by kernel_rfl) ?_ _
          (try go_wp2_with fail)
          go_meet
          exact pwA_end HOLD.out hdl G31.out 0 rfl hr0 hr1 hr2
      · refine step_fn en_next #[.pointer (some ⟨d, 0, none⟩), .int .i64 2] (by kernel_rfl) rfl (by kernel_rfl) ?_
        refine (k_Next d 2 _ G19.out.dc (by omega) (by omega)).mono ?_
        rintro e v32 ⟨r1, hr1, rfl, hd, hg⟩
        refine ⟨_, rfl, ?_⟩
        have G32 := Lib.hid (G19.out.call hd hg)
        clear hd hg
        have zr1 : (r1 : Int) < 2 := by omega
        have yr1 : (0 : Int) ≤ (r1 : Int) := by omega
        have ur1 : IntKind.i64.wrap (2 + (r1 : Int)) = 2 + (r1 : Int) := wraps_i64_63 _ (by omega) (by omega)
        refine hK.out _ _ trivial (fun hHeld => ?_)
        clear hK Kc
        try simp only [Act.put, List.getElem_toArray, List.getElem_cons_succ, List.getElem_cons_zero, List.setIfInBounds_toArray, List.set_cons_zero, List.set_cons_succ]
        refine wpAnyH_take (i := 7) (v := ?_) rfl (by kernel_rfl) (by kernel_rfl) (by kernel_rfl) (fun _ _ _ h => h) (Or.inl ⟨by kernel_rfl, ?_⟩) (by assumption) ?_
        rotate_left
        · (intro w hSw; (try dsimp only at hSw); (try go_split_ands); go_simp; (try with_reducible rfl))
        try simp only [Act.put, List.getElem_toArray, List.getElem_cons_succ, List.getElem_cons_zero, List.setIfInBounds_toArray, List.set_cons_zero, List.set_cons_succ]
        refine wpAnyH_ready (rs := [0, 9, 12]) (by kernel_rfl) (by simp) ?_
        refine AllReadyH.cons rfl (fun Kc hK => ?_) (AllReadyH.cons rfl (fun Kc hK => ?_) (AllReadyH.cons rfl (fun Kc hK => ?_) AllReadyH.nil))
        · refine step_alE (mk := (fun g => .slice (some ⟨g, 0, none⟩) 3 3)) (t := 3) (cs := #[.int .i64 5, .int .i64 7, .int .i64 11]) G32.out (by kernel_rfl) (bs_p3 rfl) ?_
          intro g0 W33 hD hB
          have G33 := Lib.hid hD
          clear hD hB
          refine hK.out _ _ trivial (fun hHeld => ?_)
          clear hK Kc
          try simp only [Act.put, List.getElem_toArray, List.getElem_cons_succ, List.getElem_cons_zero, List.setIfInBounds_toArray, List.set_cons_zero, List.set_cons_succ]
          refine wpAnyH_take (i := 3) (v := ?_) rfl (by kernel_rfl) (by kernel_rfl) (by kernel_rfl) (fun _ _ _ h => h) (Or.inl ⟨by kernel_rfl, ?_⟩) (by assumption) ?_
          rotate_left
          · (intro w hSw; (try dsimp only at hSw); (try go_split_ands); go_simp; (try with_reducible rfl))
          try simp only [Act.put, List.getElem_toArray, List.getElem_cons_succ, List.getElem_cons_zero, List.setIfInBounds_toArray, List.set_cons_zero, List.set_cons_succ]
          refine wpAnyH_mono (T := (fun W : World => W.cell? ⟨g0, r0, none⟩ = some (.int .i64 ((p3 r0 : Nat) : Int)) ∧ True)) (fun W hW => hW.2) _ _ _ _ ?_
          replace hHeld := (show (fun W : World => W.cell? ⟨g0, r0, none⟩ = some (.int .i64 ((p3 r0 : Nat) : Int)) ∧ True) _ from ⟨p3_cell (G33.out.get 0 rfl) hr0, trivial⟩)
          refine wpAnyH_take (i := 4) (v := ?_) rfl (by kernel_rfl) (by kernel_rfl) (by kernel_rfl) (fun _ _ _ h => h) (Or.inl ⟨by kernel_rfl, ?_⟩) (by assumption) ?_
          rotate_left
          · (intro w hSw; (try dsimp only at hSw); (try go_split_ands); go_simp; (try with_reducible rfl))
          try simp only [Act.put, List.getElem_toArray, List.getElem_cons_succ, List.getElem_cons_zero, List.setIfInBounds_toArray, List.set_cons_zero, List.set_cons_succ]
          refine wpAnyH_ready (rs := [9, 12]) (by kernel_rfl) (by simp) ?_
          refine AllReadyH.cons rfl (fun Kc hK => ?_) (AllReadyH.cons rfl (fun Kc hK => ?_) AllReadyH.nil)
          · refine step_fn en_next #[.pointer (some ⟨d, 0, none⟩), .int .i64 2] (by kernel_rfl) rfl (by kernel_rfl) ?_
            refine (k_Next d 2 _ G33.out.dc (by omega) (by omega)).mono ?_
            rintro e v34 ⟨r2, hr2, rfl, hd, hg⟩
            refine ⟨_, rfl, ?_⟩
            have G34 := Lib.hid (G33.out.call hd hg)
            clear hd hg
            have zr2 : (r2 : Int) < 2 := by omega
            have yr2 : (0 : Int) ≤ (r2 : Int) := by omega
            have ur2 : IntKind.i64.wrap (3 + (r2 : Int)) = 3 + (r2 : Int) := wraps_i64_63 _ (by omega) (by omega)
            refine hK.out _ _ ⟨p3_cell (G34.out.get 0 rfl) hr0, trivial⟩ (fun hHeld => ?_)
            clear hK Kc
            try simp only [Act.put, List.getElem_toArray, List.getElem_cons_succ, List.getElem_cons_zero, List.setIfInBounds_toArray, List.set_cons_zero, List.set_cons_succ]
            refine wpAnyH_take (i := 10) (v := ?_) rfl (by kernel_rfl) (by kernel_rfl) (by kernel_rfl) (fun _ _ _ h => h) (Or.inl ⟨by kernel_rfl, ?_⟩) (by assumption) ?_
            rotate_left
            · (intro w hSw; (try dsimp only at hSw); (try go_split_ands); go_simp; (try with_reducible rfl))
            try simp only [Act.put, List.getElem_toArray, List.getElem_cons_succ, List.getElem_cons_zero, List.setIfInBounds_toArray, List.set_cons_zero, List.set_cons_succ]
            refine wpAnyH_take (i := 11) (v := ?_) rfl (by kernel_rfl) (by kernel_rfl) (by kernel_rfl) (fun _ _ _ h => h) (Or.inl ⟨by kernel_rfl, ?_⟩) (by assumption) ?_
            rotate_left
            · (intro w hSw; (try dsimp only at hSw); (try go_split_ands); go_simp; (try with_reducible rfl))
            try simp only [Act.put, List.getElem_toArray, List.getElem_cons_succ, List.getElem_cons_zero, List.setIfInBounds_toArray, List.set_cons_zero, List.set_cons_succ]
            refine wpAnyH_ready (rs := [12]) (by kernel_rfl) (by simp) ?_
            refine AllReadyH.cons rfl (fun Kc hK => ?_) AllReadyH.nil
            refine step_alE (mk := (fun g => .pointer (some ⟨g, 0, none⟩))) (t := 29) (cs := #[.int .i64 0, .int .i64 0, .int .i64 0]) G34.out (by kernel_rfl) (al_plan rfl) ?_
            intro g12 W35 hD hB
            have G35 := Lib.hid hD
            clear hD hB
            refine hK.out _ _ ⟨p3_cell (G35.out.get 1 rfl) hr0, trivial⟩ (fun hHeld => ?_)
            clear hK Kc
            try simp only [Act.put, List.getElem_toArray, List.getElem_cons_succ, List.getElem_cons_zero, List.setIfInBounds_toArray, List.set_cons_zero, List.set_cons_succ]
            refine wpAnyH_ready (rs := [13]) (by kernel_rfl) (by simp) ?_
            refine AllReadyH.cons rfl (fun Kc hK => ?_) AllReadyH.nil
            refine step_skipE _ (by kernel_rfl) (st_plan (p := ((p3 r0 : Nat) : Int)) (q := 2 + (r1 : Int)) (r := 3 + (r2 : Int)) rfl (by kernel_rfl) (by kernel_rfl) (G35.out.get 0 rfl)) ?_
            intro W6 hW6
            have h6 := (((G35.out.set 0 rfl 0 (.int .i64 ((p3 r0 : Nat) : Int))).set 0 rfl 1 (.int .i64 (2 + (r1 : Int)))).set 0 rfl 2 (.int .i64 (3 + (r2 : Int))))
            rw [← hW6] at h6
            have G36 := Lib.hid h6
            clear h6 hW6
            refine hK.out _ _ ⟨p3_cell (G36.out.get 1 rfl) hr0, trivial⟩ (fun hHeld => ?_)
            clear hK Kc
            try simp only [Act.put, List.getElem_toArray, List.getElem_cons_succ, List.getElem_cons_zero, List.setIfInBounds_toArray, List.set_cons_zero, List.set_cons_succ]
            refine wpAnyH_done (by kernel_rfl) ?_ _
            (try go_wp2_with fail)
            go_meet
            exact pwA_end HOLD.out hdl G36.out 0 rfl hr0 hr1 hr2
          · refine step_alE (mk := (fun g => .pointer (some ⟨g, 0, none⟩))) (t := 29) (cs := #[.int .i64 0, .int .i64 0, .int .i64 0]) G33.out (by kernel_rfl) (al_plan rfl) ?_
            intro g12 W37 hD hB
            have G37 := Lib.hid hD
            clear hD hB
            refine hK.out _ _ ⟨p3_cell (G37.out.get 1 rfl) hr0, trivial⟩ (fun hHeld => ?_)
            clear hK Kc
            try simp only [Act.put, List.getElem_toArray, List.getElem_cons_succ, List.getElem_cons_zero, List.setIfInBounds_toArray, List.set_cons_zero, List.set_cons_succ]
            refine wpAnyH_ready (rs := [9]) (by kernel_rfl) (by simp) ?_
            refine AllReadyH.cons rfl (fun Kc hK => ?_) AllReadyH.nil
            refine step_fn en_next #[.pointer (some ⟨d, 0, none⟩), .int .i64 2] (by kernel_rfl) rfl (by kernel_rfl) ?_
            refine (k_Next d 2 _ G37.out.dc (by omega) (by omega)).mono ?_
            rintro e v38 ⟨r2, hr2, rfl, hd, hg⟩
            refine ⟨_, rfl, ?_⟩
            have G38 := Lib.hid (G37.out.call hd hg)
            clear hd hg
            have zr2 : (r2 : Int) < 2 := by omega
            have yr2 : (0 : Int) ≤ (r2 : Int) := by omega
            have ur2 : IntKind.i64.wrap (3 + (r2 : Int)) = 3 + (r2 : Int) := wraps_i64_63 _ (by omega) (by omega)
            refine hK.out _ _ ⟨p3_cell (G38.out.get 1 rfl) hr0, trivial⟩ (fun hHeld => ?_)
            clear hK Kc
            try simp only [Act.put, List.getElem_toArray, List.getElem_cons_succ, List.getElem_cons_zero, List.setIfInBounds_toArray, List.set_cons_zero, List.set_cons_succ]
            refine wpAnyH_take (i := 10) (v := ?_) rfl (by kernel_rfl) (by kernel_rfl) (by kernel_rfl) (fun _ _ _ h => h) (Or.inl ⟨by kernel_rfl, ?_⟩) (by assumption) ?_
            rotate_left
            · (intro w hSw; (try dsimp only at hSw); (try go_split_ands); go_simp; (try with_reducible rfl))
            try simp only [Act.put, List.getElem_toArray, List.getElem_cons_succ, List.getElem_cons_zero, List.setIfInBounds_toArray, List.set_cons_zero, List.set_cons_succ]
            refine wpAnyH_take (i := 11) (v := ?_) rfl (by kernel_rfl) (by kernel_rfl) (by kernel_rfl) (fun _ _ _ h => h) (Or.inl ⟨by kernel_rfl, ?_⟩) (by assumption) ?_
            rotate_left
            · (intro w hSw; (try dsimp only at hSw); (try go_split_ands); go_simp; (try with_reducible rfl))
            try simp only [Act.put, List.getElem_toArray, List.getElem_cons_succ, List.getElem_cons_zero, List.setIfInBounds_toArray, List.set_cons_zero, List.set_cons_succ]
            refine wpAnyH_ready (rs := [13]) (by kernel_rfl) (by simp) ?_
            refine AllReadyH.cons rfl (fun Kc hK => ?_) AllReadyH.nil
            refine step_skipE _ (by kernel_rfl) (st_plan (p := ((p3 r0 : Nat) : Int)) (q := 2 + (r1 : Int)) (r := 3 + (r2 : Int)) rfl (by kernel_rfl) (by kernel_rfl) (G38.out.get 0 rfl)) ?_
            intro W6 hW6
            have h6 := (((G38.out.set 0 rfl 0 (.int .i64 ((p3 r0 : Nat) : Int))).set 0 rfl 1 (.int .i64 (2 + (r1 : Int)))).set 0 rfl 2 (.int .i64 (3 + (r2 : Int))))
            rw [← hW6] at h6
            have G39 := Lib.hid h6
            clear h6 hW6
            refine hK.out _ _ ⟨p3_cell (G39.out.get 1 rfl) hr0, trivial⟩ (fun hHeld => ?_)
            clear hK Kc
            try simp only [Act.put, List.getElem_toArray, List.getElem_cons_succ, List.getElem_cons_zero, List.setIfInBounds_toArray, List.set_cons_zero, List.set_cons_succ]
            refine wpAnyH_done (by kernel_rfl) ?_ _
            (try go_wp2_with fail)
            go_meet
            exact pwA_end HOLD.out hdl G39.out 0 rfl hr0 hr1 hr2
        · refine step_fn en_next #[.pointer (some ⟨d, 0, none⟩), .int .i64 2] (by kernel_rfl) rfl (by kernel_rfl) ?_
          refine (k_Next d 2 _ G32.out.dc (by omega) (by omega)).mono ?_
          rintro e v40 ⟨r2, hr2, rfl, hd, hg⟩
          refine ⟨_, rfl, ?_⟩
          have G40 := Lib.hid (G32.out.call hd hg)
          clear hd hg
          have zr2 : (r2 : Int) < 2 := by omega
          have yr2 : (0 : Int) ≤ (r2 : Int) := by omega
          have ur2 : IntKind.i64.wrap (3 + (r2 : Int)) = 3 + (r2 : Int) := wraps_i64_63 _ (by omega) (by omega)
          refine hK.out _ _ trivial (fun hHeld => ?_)
          clear hK Kc
          try simp only [Act.put, List.getElem_toArray, List.getElem_cons_succ, List.getElem_cons_zero, List.setIfInBounds_toArray, List.set_cons_zero, List.set_cons_succ]
          refine wpAnyH_take (i := 10) (v := ?_) rfl (by kernel_rfl) (by kernel_rfl) (by kernel_rfl) (fun _ _ _ h => h) (Or.inl ⟨by kernel_rfl, ?_⟩) (by assumption) ?_
          rotate_left
          · (intro w hSw; (try dsimp only at hSw); (try go_split_ands); go_simp; (try with_reducible rfl))
          try simp only [Act.put, List.getElem_toArray, List.getElem_cons_succ, List.getElem_cons_zero, List.setIfInBounds_toArray, List.set_cons_zero, List.set_cons_succ]
          refine wpAnyH_ready (rs := [0, 12]) (by kernel_rfl) (by simp) ?_
          refine AllReadyH.cons rfl (fun Kc hK => ?_) (AllReadyH.cons rfl (fun Kc hK => ?_) AllReadyH.nil)
          · refine step_alE (mk := (fun g => .slice (some ⟨g, 0, none⟩) 3 3)) (t := 3) (cs := #[.int .i64 5, .int .i64 7, .int .i64 11]) G40.out (by kernel_rfl) (bs_p3 rfl) ?_
            intro g0 W41 hD hB
            have G41 := Lib.hid hD
            clear hD hB
            refine hK.out _ _ trivial (fun hHeld => ?_)
            clear hK Kc
            try simp only [Act.put, List.getElem_toArray, List.getElem_cons_succ, List.getElem_cons_zero, List.setIfInBounds_toArray, List.set_cons_zero, List.set_cons_succ]
            refine wpAnyH_take (i := 3) (v := ?_) rfl (by kernel_rfl) (by kernel_rfl) (by kernel_rfl) (fun _ _ _ h => h) (Or.inl ⟨by kernel_rfl, ?_⟩) (by assumption) ?_
            rotate_left
            · (intro w hSw; (try dsimp only at hSw); (try go_split_ands); go_simp; (try with_reducible rfl))
            try simp only [Act.put, List.getElem_toArray, List.getElem_cons_succ, List.getElem_cons_zero, List.setIfInBounds_toArray, List.set_cons_zero, List.set_cons_succ]
            refine wpAnyH_mono (T := (fun W : World => W.cell? ⟨g0, r0, none⟩ = some (.int .i64 ((p3 r0 : Nat) : Int)) ∧ True)) (fun W hW => hW.2) _ _ _ _ ?_
            replace hHeld := (show (fun W : World => W.cell? ⟨g0, r0, none⟩ = some (.int .i64 ((p3 r0 : Nat) : Int)) ∧ True) _ from ⟨p3_cell (G41.out.get 0 rfl) hr0, trivial⟩)
            refine wpAnyH_take (i := 4) (v := ?_) rfl (by kernel_rfl) (by kernel_rfl) (by kernel_rfl) (fun _ _ _ h => h) (Or.inl ⟨by kernel_rfl, ?_⟩) (by assumption) ?_
            rotate_left
            · (intro w hSw; (try dsimp only at hSw); (try go_split_ands); go_simp; (try with_reducible rfl))
            try simp only [Act.put, List.getElem_toArray, List.getElem_cons_succ, List.getElem_cons_zero, List.setIfInBounds_toArray, List.set_cons_zero, List.set_cons_succ]
            refine wpAnyH_take (i := 11) (v := ?_) rfl (by kernel_rfl) (by kernel_rfl) (by kernel_rfl) (fun _ _ _ h => h) (Or.inl ⟨by kernel_rfl, ?_⟩) (by assumption) ?_
            rotate_left
            · (intro w hSw; (try dsimp only at hSw); (try go_split_ands); go_simp; (try with_reducible rfl))
            try simp only [Act.put, List.getElem_toArray, List.getElem_cons_succ, List.getElem_cons_zero, List.setIfInBounds_toArray, List.set_cons_zero, List.set_cons_succ]
            refine wpAnyH_ready (rs := [12]) (by kernel_rfl) (by simp) ?_
            refine AllReadyH.cons rfl (fun Kc hK => ?_) AllReadyH.nil
            refine step_alE (mk := (fun g => .pointer (some ⟨g, 0, none⟩))) (t := 29) (cs := #[.int .i64 0, .int .i64 0, .int .i64 0]) G41.out (by kernel_rfl) (al_plan rfl) ?_
            intro g12 W42 hD hB
            have G42 := Lib.hid hD
            clear hD hB
            refine hK.out _ _ ⟨p3_cell (G42.out.get 1 rfl) hr0, trivial⟩ (fun hHeld => ?_)
            clear hK Kc
            try simp only [Act.put, List.getElem_toArray, List.getElem_cons_succ, List.getElem_cons_zero, List.setIfInBounds_toArray, List.set_cons_zero, List.set_cons_succ]
            refine wpAnyH_ready (rs := [13]) (by kernel_rfl) (by simp) ?_
            refine AllReadyH.cons rfl (fun Kc hK => ?_) AllReadyH.nil
            refine step_skipE _ (by kernel_rfl) (st_plan (p := ((p3 r0 : Nat) : Int)) (q := 2 + (r1 : Int)) (r := 3 + (r2 : Int)) rfl (by kernel_rfl) (by kernel_rfl) (G42.out.get 0 rfl)) ?_
            intro W6 hW6
            have h6 := (((G42.out.set 0 rfl 0 (.int .i64 ((p3 r0 : Nat) : Int))).set 0 rfl 1 (.int .i64 (2 + (r1 : Int)))).set 0 rfl 2 (.int .i64 (3 + (r2 : Int))))
            rw [← hW6] at h6
            have G43 := Lib.hid h6
            clear h6 hW6
            refine hK.out _ _ ⟨p3_cell (G43.out.get 1 rfl) hr0, trivial⟩ (fun hHeld => ?_)
            clear hK Kc
            try simp only [Act.put, List.getElem_toArray, List.getElem_cons_succ, List.getElem_cons_zero, List.setIfInBounds_toArray, List.set_cons_zero, List.set_cons_succ]
            refine wpAnyH_done (by kernel_rfl) ?_ _
            (try go_wp2_with fail)
            go_meet
            exact pwA_end HOLD.out hdl G43.out 0 rfl hr0 hr1 hr2
          · refine step_alE (mk := (fun g => .pointer (some ⟨g, 0, none⟩))) (t := 29) (cs := #[.int .i64 0, .int .i64 0, .int .i64 0]) G40.out (by kernel_rfl) (al_plan rfl) ?_
            intro g12 W44 hD hB
            have G44 := Lib.hid hD
            clear hD hB
            refine hK.out _ _ trivial (fun hHeld => ?_)
            clear hK Kc
            try simp only [Act.put, List.getElem_toArray, List.getElem_cons_succ, List.getElem_cons_zero, List.setIfInBounds_toArray, List.set_cons_zero, List.set_cons_succ]
            refine wpAnyH_ready (rs := [0]) (by kernel_rfl) (by simp) ?_
            refine AllReadyH.cons rfl (fun Kc hK => ?_) AllReadyH.nil
            refine step_alE (mk := (fun g => .slice (some ⟨g, 0, none⟩) 3 3)) (t := 3) (cs := #[.int .i64 5, .int .i64 7, .int .i64 11]) G44.out (by kernel_rfl) (bs_p3 rfl) ?_
            intro g0 W45 hD hB
            have G45 := Lib.hid hD
            clear hD hB
            refine hK.out _ _ trivial (fun hHeld => ?_)
            clear hK Kc
            try simp only [Act.put, List.getElem_toArray, List.getElem_cons_succ, List.getElem_cons_zero, List.setIfInBounds_toArray, List.set_cons_zero, List.set_cons_succ]
            refine wpAnyH_take (i := 3) (v := ?_) rfl (by kernel_rfl) (by kernel_rfl) (by kernel_rfl) (fun _ _ _ h => h) (Or.inl ⟨by kernel_rfl, ?_⟩) (by assumption) ?_
            rotate_left
            · (intro w hSw; (try dsimp only at hSw); (try go_split_ands); go_simp; (try with_reducible rfl))
            try simp only [Act.put, List.getElem_toArray, List.getElem_cons_succ, List.getElem_cons_zero, List.setIfInBounds_toArray, List.set_cons_zero, List.set_cons_succ]
            refine wpAnyH_mono (T := (fun W : World => W.cell? ⟨g0, r0, none⟩ = some (.int .i64 ((p3 r0 : Nat) : Int)) ∧ True)) (fun W hW => hW.2) _ _ _ _ ?_
            replace hHeld := (show (fun W : World => W.cell? ⟨g0, r0, none⟩ = some (.int .i64 ((p3 r0 : Nat) : Int)) ∧ True) _ from ⟨p3_cell (G45.out.get 0 rfl) hr0, trivial⟩)
            refine wpAnyH_take (i := 4) (v := ?_) rfl (by kernel_rfl) (by kernel_rfl) (by kernel_rfl) (fun _ _ _ h => h) (Or.inl ⟨by kernel_rfl, ?_⟩) (by assumption) ?_
            rotate_left
            · (intro w hSw; (try dsimp only at hSw); (try go_split_ands); go_simp; (try with_reducible rfl))
            try simp only [Act.put, List.getElem_toArray, List.getElem_cons_succ, List.getElem_cons_zero, List.setIfInBounds_toArray, List.set_cons_zero, List.set_cons_succ]
            refine wpAnyH_take (i := 11) (v := ?_) rfl (by kernel_rfl) (by kernel_rfl) (by kernel_rfl) (fun _ _ _ h => h) (Or.inl ⟨by kernel_rfl, ?_⟩) (by assumption) ?_
            rotate_left
            · (intro w hSw; (try dsimp only at hSw); (try go_split_ands); go_simp; (try with_reducible rfl))
            try simp only [Act.put, List.getElem_toArray, List.getElem_cons_succ, List.getElem_cons_zero, List.setIfInBounds_toArray, List.set_cons_zero, List.set_cons_succ]
            refine wpAnyH_ready (rs := [13]) (by kernel_rfl) (by simp) ?_
            refine AllReadyH.cons rfl (fun Kc hK => ?_) AllReadyH.nil
            refine step_skipE _ (by kernel_rfl) (st_plan (p := ((p3 r0 : Nat) : Int)) (q := 2 + (r1 : Int)) (r := 3 + (r2 : Int)) rfl (by kernel_rfl) (by kernel_rfl) (G45.out.get 1 rfl)) ?_
            intro W6 hW6
            have h6 := (((G45.out.set 1 rfl 0 (.int .i64 ((p3 r0 : Nat) : Int))).set 1 rfl 1 (.int .i64 (2 + (r1 : Int)))).set 1 rfl 2 (.int .i64 (3 + (r2 : Int))))
            rw [← hW6] at h6
            have G46 := Lib.hid h6
            clear h6 hW6
            refine hK.out _ _ ⟨p3_cell (G46.out.get 0 rfl) hr0, trivial⟩ (fun hHeld => ?_)
            clear hK Kc
            try simp only [Act.put, List.getElem_toArray, List.getElem_cons_succ, List.getElem_cons_zero, List.setIfInBounds_toArray, List.set_cons_zero, List.set_cons_succ]
            refine wpAnyH_done (by kernel_rfl) ?_ _
            (try go_wp2_with fail)
            go_meet
            exact pwA_end HOLD.out hdl G46.out 1 rfl hr0 hr1 hr2
        · refine step_alE (mk := (fun g => .pointer (some ⟨g, 0, none⟩))) (t := 29) (cs := #[.int .i64 0, .int .i64 0, .int .i64 0]) G32.out (by kernel_rfl) (al_plan rfl) ?_
          intro g12 W47 hD hB
          have G47 := Lib.hid hD
          clear hD hB
          refine hK.out _ _ trivial (fun hHeld => ?_)
          clear hK Kc
          try simp only [Act.put, List.getElem_toArray, List.getElem_cons_succ, List.getElem_cons_zero, List.setIfInBounds_toArray, List.set_cons_zero, List.set_cons_succ]
          refine wpAnyH_ready (rs := [0, 9]) (by kernel_rfl) (by simp) ?_
          refine AllReadyH.cons rfl (fun Kc hK => ?_) (AllReadyH.cons rfl (fun Kc hK => ?_) AllReadyH.nil)
          · refine step_alE (mk := (fun g => .slice (some ⟨g, 0, none⟩) 3 3)) (t := 3) (cs := #[.int .i64 5, .int .i64 7, .int .i64 11]) G47.out (by kernel_rfl) (bs_p3 rfl) ?_
            intro g0 W48 hD hB
            have G48 := Lib.hid hD
            clear hD hB
            refine hK.out _ _ trivial (fun hHeld => ?_)
            clear hK Kc
            try simp only [Act.put, List.getElem_toArray, List.getElem_cons_succ, List.getElem_cons_zero, List.setIfInBounds_toArray, List.set_cons_zero, List.set_cons_succ]
            refine wpAnyH_take (i := 3) (v := ?_) rfl (by kernel_rfl) (by kernel_rfl) (by kernel_rfl) (fun _ _ _ h => h) (Or.inl ⟨by kernel_rfl, ?_⟩) (by assumption) ?_
            rotate_left
            · (intro w hSw; (try dsimp only at hSw); (try go_split_ands); go_simp; (try with_reducible rfl))
            try simp only [Act.put, List.getElem_toArray, List.getElem_cons_succ, List.getElem_cons_zero, List.setIfInBounds_toArray, List.set_cons_zero, List.set_cons_succ]
            refine wpAnyH_mono (T := (fun W : World => W.cell? ⟨g0, r0, none⟩ = some (.int .i64 ((p3 r0 : Nat) : Int)) ∧ True)) (fun W hW => hW.2) _ _ _ _ ?_
            replace hHeld := (show (fun W : World => W.cell? ⟨g0, r0, none⟩ = some (.int .i64 ((p3 r0 : Nat) : Int)) ∧ True) _ from ⟨p3_cell (G48.out.get 0 rfl) hr0, trivial⟩)
            refine wpAnyH_take (i := 4) (v := ?_) rfl (by kernel_rfl) (by kernel_rfl) (by kernel_rfl) (fun _ _ _ h => h) (Or.inl ⟨by kernel_rfl, ?_⟩) (by assumption) ?_
            rotate_left
            · (intro w hSw; (try dsimp only at hSw); (try go_split_ands); go_simp; (try with_reducible rfl))
            try simp only [Act.put, List.getElem_toArray, List.getElem_cons_succ, List.getElem_cons_zero, List.setIfInBounds_toArray, List.set_cons_zero, List.set_cons_succ]
            refine wpAnyH_ready (rs := [9]) (by kernel_rfl) (by simp) ?_
            refine AllReadyH.cons rfl (fun Kc hK => ?_) AllReadyH.nil
            refine step_fn en_next #[.pointer (some ⟨d, 0, none⟩), .int .i64 2] (by kernel_rfl) rfl (by kernel_rfl) ?_
            refine (k_Next d 2 _ G48.out.dc (by omega) (by omega)).mono ?_
            rintro e v49 ⟨r2, hr2, rfl, hd, hg⟩
            refine ⟨_, rfl, ?_⟩
            have G49 := Lib.hid (G48.out.call hd hg)
            clear hd hg
            have zr2 : (r2 : Int) < 2 := by omega
            have yr2 : (0 : Int) ≤ (r2 : Int) := by omega
            have ur2 : IntKind.i64.wrap (3 + (r2 : Int)) = 3 + (r2 : Int) := wraps_i64_63 _ (by omega) (by omega)
            refine hK.out _ _ ⟨p3_cell (G49.out.get 0 rfl) hr0, trivial⟩ (fun hHeld => ?_)
            clear hK Kc
            try simp only [Act.put, List.getElem_toArray, List.getElem_cons_succ, List.getElem_cons_zero, List.setIfInBounds_toArray, List.set_cons_zero, List.set_cons_succ]
            refine wpAnyH_take (i := 10) (v := ?_) rfl (by kernel_rfl) (by kernel_rfl) (by kernel_rfl) (fun _ _ _ h => h) (Or.inl ⟨by kernel_rfl, ?_⟩) (by assumption) ?_
            rotate_left
            · (intro w hSw; (try dsimp only at hSw); (try go_split_ands); go_simp; (try with_reducible rfl))
            try simp only [Act.put, List.getElem_toArray, List.getElem_cons_succ, List.getElem_cons_zero, List.setIfInBounds_toArray, List.set_cons_zero, List.set_cons_succ]
            refine wpAnyH_take (i := 11) (v := ?_) rfl (by kernel_rfl) (by kernel_rfl) (by kernel_rfl) (fun _ _ _ h => h) (Or.inl ⟨by kernel_rfl, ?_⟩) (by assumption) ?_
            rotate_left
            · (intro w hSw; (try dsimp only at hSw); (try go_split_ands); go_simp; (try with_reducible rfl))
            try simp only [Act.put, List.getElem_toArray, List.getElem_cons_succ, List.getElem_cons_zero, List.setIfInBounds_toArray, List.set_cons_zero, List.set_cons_succ]
            refine wpAnyH_ready (rs := [13]) (by kernel_rfl) (by simp) ?_
            refine AllReadyH.cons rfl (fun Kc hK => ?_) AllReadyH.nil
            refine step_skipE _ (by kernel_rfl) (st_plan (p := ((p3 r0 : Nat) : Int)) (q := 2 + (r1 : Int)) (r := 3 + (r2 : Int)) rfl (by kernel_rfl) (by kernel_rfl) (G49.out.get 1 rfl)) ?_
            intro W6 hW6
            have h6 := (((G49.out.set 1 rfl 0 (.int .i64 ((p3 r0 : Nat) : Int))).set 1 rfl 1 (.int .i64 (2 + (r1 : Int)))).set 1 rfl 2 (.int .i64 (3 + (r2 : Int))))
            rw [← hW6] at h6
            have G50 := Lib.hid h6
            clear h6 hW6
            refine hK.out _ _ ⟨p3_cell (G50.out.get 0 rfl) hr0, trivial⟩ (fun hHeld => ?_)
            clear hK Kc
            try simp only [Act.put, List.getElem_toArray, List.getElem_cons_succ, List.getElem_cons_zero, List.setIfInBounds_toArray, List.set_cons_zero, List.set_cons_succ]
            refine wpAnyH_done (by kernel_rfl) ?_ _
            (try go_wp2_with fail)
            go_meet
            exact pwA_end HOLD.out hdl G50.out 1 rfl hr0 hr1 hr2
          · refine step_fn en_next #[.pointer (some ⟨d, 0, none⟩), .int .i64 2] (by kernel_rfl) rfl (by kernel_rfl) ?_
            refine (k_Next d 2 _ G47.out.dc (by omega) (by omega)).mono ?_
            rintro e v51 ⟨r2, hr2, rfl, hd, hg⟩
            refine ⟨_, rfl, ?_⟩
            have G51 := Lib.hid (G47.out.call hd hg)
            clear hd hg
            have zr2 : (r2 : Int) < 2 := by omega
            have yr2 : (0 : Int) ≤ (r2 : Int) := by omega
            have ur2 : IntKind.i64.wrap (3 + (r2 : Int)) = 3 + (r2 : Int) := wraps_i64_63 _ (by omega) (by omega)
            refine hK.out _ _ trivial (fun hHeld => ?_)
            clear hK Kc
            try simp only [Act.put, List.getElem_toArray, List.getElem_cons_succ, List.getElem_cons_zero, List.setIfInBounds_toArray, List.set_cons_zero, List.set_cons_succ]
            refine wpAnyH_take (i := 10) (v := ?_) rfl (by kernel_rfl) (by kernel_rfl) (by kernel_rfl) (fun _ _ _ h => h) (Or.inl ⟨by kernel_rfl, ?_⟩) (by assumption) ?_
            rotate_left
            · (intro w hSw; (try dsimp only at hSw); (try go_split_ands); go_simp; (try with_reducible rfl))
            try simp only [Act.put, List.getElem_toArray, List.getElem_cons_succ, List.getElem_cons_zero, List.setIfInBounds_toArray, List.set_cons_zero, List.set_cons_succ]
            refine wpAnyH_ready (rs := [0]) (by kernel_rfl) (by simp) ?_
            refine AllReadyH.cons rfl (fun Kc hK => ?_) AllReadyH.nil
            refine step_alE (mk := (fun g => .slice (some ⟨g, 0, none⟩) 3 3)) (t := 3) (cs := #[.int .i64 5, .int .i64 7, .int .i64 11]) G51.out (by kernel_rfl) (bs_p3 rfl) ?_
            intro g0 W52 hD hB
            have G52 := Lib.hid hD
            clear hD hB
            refine hK.out _ _ trivial (fun hHeld => ?_)
            clear hK Kc
            try simp only [Act.put, List.getElem_toArray, List.getElem_cons_succ, List.getElem_cons_zero, List.setIfInBounds_toArray, List.set_cons_zero, List.set_cons_succ]
            refine wpAnyH_take (i := 3) (v := ?_) rfl (by kernel_rfl) (by kernel_rfl) (by kernel_rfl) (fun _ _ _ h => h) (Or.inl ⟨by kernel_rfl, ?_⟩) (by assumption) ?_
            rotate_left
            · (intro w hSw; (try dsimp only at hSw); (try go_split_ands); go_simp; (try with_reducible rfl))
            try simp only [Act.put, List.getElem_toArray, List.getElem_cons_succ, List.getElem_cons_zero, List.setIfInBounds_toArray, List.set_cons_zero, List.set_cons_succ]
            refine wpAnyH_mono (T := (fun W : World => W.cell? ⟨g0, r0, none⟩ = some (.int .i64 ((p3 r0 : Nat) : Int)) ∧ True)) (fun W hW => hW.2) _ _ _ _ ?_
            replace hHeld := (show (fun W : World => W.cell? ⟨g0, r0, none⟩ = some (.int .i64 ((p3 r0 : Nat) : Int)) ∧ True) _ from ⟨p3_cell (G52.out.get 0 rfl) hr0, trivial⟩)
            refine wpAnyH_take (i := 4) (v := ?_) rfl (by kernel_rfl) (by kernel_rfl) (by kernel_rfl) (fun _ _ _ h => h) (Or.inl ⟨by kernel_rfl, ?_⟩) (by assumption) ?_
            rotate_left
            · (intro w hSw; (try dsimp only at hSw); (try go_split_ands); go_simp; (try with_reducible rfl))
            try simp only [Act.put, List.getElem_toArray, List.getElem_cons_succ, List.getElem_cons_zero, List.setIfInBounds_toArray, List.set_cons_zero, List.set_cons_succ]
            refine wpAnyH_take (i := 11) (v := ?_) rfl (by kernel_rfl) (by kernel_rfl) (by kernel_rfl) (fun _ _ _ h => h) (Or.inl ⟨by kernel_rfl, ?_⟩) (by assumption) ?_
            rotate_left
            · (intro w hSw; (try dsimp only at hSw); (try go_split_ands); go_simp; (try with_reducible rfl))
            try simp only [Act.put, List.getElem_toArray, List.getElem_cons_succ, List.getElem_cons_zero, List.setIfInBounds_toArray, List.set_cons_zero, List.set_cons_succ]
            refine wpAnyH_ready (rs := [13]) (by kernel_rfl) (by simp) ?_
            refine AllReadyH.cons rfl (fun Kc hK => ?_) AllReadyH.nil
            refine step_skipE _ (by kernel_rfl) (st_plan (p := ((p3 r0 : Nat) : Int)) (q := 2 + (r1 : Int)) (r := 3 + (r2 : Int)) rfl (by kernel_rfl) (by kernel_rfl) (G52.out.get 1 rfl)) ?_
            intro W6 hW6
            have h6 := (((G52.out.set 1 rfl 0 (.int .i64 ((p3 r0 : Nat) : Int))).set 1 rfl 1 (.int .i64 (2 + (r1 : Int)))).set 1 rfl 2 (.int .i64 (3 + (r2 : Int))))
            rw [← hW6] at h6
            have G53 := Lib.hid h6
            clear h6 hW6
            refine hK.out _ _ ⟨p3_cell (G53.out.get 0 rfl) hr0, trivial⟩ (fun hHeld => ?_)
            clear hK Kc
            try simp only [Act.put, List.getElem_toArray, List.getElem_cons_succ, List.getElem_cons_zero, List.setIfInBounds_toArray, List.set_cons_zero, List.set_cons_succ]
            refine wpAnyH_done (by kernel_rfl) ?_ _
            (try go_wp2_with fail)
            go_meet
            exact pwA_end HOLD.out hdl G53.out 1 rfl hr0 hr1 hr2
      · refine step_alE (mk := (fun g => .pointer (some ⟨g, 0, none⟩))) (t := 29) (cs := #[.int .i64 0, .int .i64 0, .int .i64 0]) G19.out (by kernel_rfl) (al_plan rfl) ?_
        intro g12 W54 hD hB
        have G54 := Lib.hid hD
        clear hD hB
        refine hK.out _ _ trivial (fun hHeld => ?_)
        clear hK Kc
        try simp only [Act.put, List.getElem_toArray, List.getElem_cons_succ, List.getElem_cons_zero, List.setIfInBounds_toArray, List.set_cons_zero, List.set_cons_succ]
        refine wpAnyH_ready (rs := [0, 6]) (by kernel_rfl) (by simp) ?_
        refine AllReadyH.cons rfl (fun Kc hK => ?_) (AllReadyH.cons rfl (fun Kc hK => ?_) AllReadyH.nil)
        · refine step_alE (mk := (fun g => .slice (some ⟨g, 0, none⟩) 3 3)) (t := 3) (cs := #[.int .i64 5, .int .i64 7, .int .i64 11]) G54.out (by kernel_rfl) (bs_p3 rfl) ?_
          intro g0 W55 hD hB
          have G55 := Lib.hid hD
          clear hD hB
          refine hK.out _ _ trivial (fun hHeld => ?_)
          clear hK Kc
          try simp only [Act.put, List.getElem_toArray, List.getElem_cons_succ, List.getElem_cons_zero, List.setIfInBounds_toArray, List.set_cons_zero, List.set_cons_succ]
          refine wpAnyH_take (i := 3) (v := ?_) rfl (by kernel_rfl) (by kernel_rfl) (by kernel_rfl) (fun _ _ _ h => h) (Or.inl ⟨by kernel_rfl, ?_⟩) (by assumption) ?_
          rotate_left
          · (intro w hSw; (try dsimp only at hSw); (try go_split_ands); go_simp; (try with_reducible rfl))
          try simp only [Act.put, List.getElem_toArray, List.getElem_cons_succ, List.getElem_cons_zero, List.setIfInBounds_toArray, List.set_cons_zero, List.set_cons_succ]
          refine wpAnyH_mono (T := (fun W : World => W.cell? ⟨g0, r0, none⟩ = some (.int .i64 ((p3 r0 : Nat) : Int)) ∧ True)) (fun W hW => hW.2) _ _ _ _ ?_
          replace hHeld := (show (fun W : World => W.cell? ⟨g0, r0, none⟩ = some (.int .i64 ((p3 r0 : Nat) : Int)) ∧ True) _ from ⟨p3_cell (G55.out.get 0 rfl) hr0, trivial⟩)
          refine wpAnyH_take (i := 4) (v := ?_) rfl (by kernel_rfl) (by kernel_rfl) (by kernel_rfl) (fun _ _ _ h => h) (Or.inl ⟨by kernel_rfl, ?_⟩) (by assumption) ?_
          rotate_left
          · (intro w hSw; (try dsimp only at hSw); (try go_split_ands); go_simp; (try with_reducible rfl))
          try simp only [Act.put, List.getElem_toArray, List.getElem_cons_succ, List.getElem_cons_zero, List.setIfInBounds_toArray, List.set_cons_zero, List.set_cons_succ]
          refine wpAnyH_ready (rs := [6]) (by kernel_rfl) (by simp) ?_
          refine AllReadyH.cons rfl (fun Kc hK => ?_) AllReadyH.nil
          refine step_fn en_next #[.pointer (some ⟨d, 0, none⟩), .int .i64 2] (by kernel_rfl) rfl (by kernel_rfl) ?_
          refine (k_Next d 2 _ G55.out.dc (by omega) (by omega)).mono ?_
          rintro e v56 ⟨r1, hr1, rfl, hd, hg⟩
          refine ⟨_, rfl, ?_⟩
          have G56 := Lib.hid (G55.out.call hd hg)
          clear hd hg
          have zr1 : (r1 : Int) < 2 := by omega
          have yr1 : (0 : Int) ≤ (r1 : Int) := by omega
          have ur1 : IntKind.i64.wrap (2 + (r1 : Int)) = 2 + (r1 : Int) := wraps_i64_63 _ (by omega) (by omega)
          refine hK.out _ _ ⟨p3_cell (G56.out.get 0 rfl) hr0, trivial⟩ (fun hHeld => ?_)
          clear hK Kc
          try simp only [Act.put, List.getElem_toArray, List.getElem_cons_succ, List.getElem_cons_zero, List.setIfInBounds_toArray, List.set_cons_zero, List.set_cons_succ]
          refine wpAnyH_take (i := 7) (v := ?_) rfl (by kernel_rfl) (by kernel_rfl) (by kernel_rfl) (fun _ _ _ h => h) (Or.inl ⟨by kernel_rfl, ?_⟩) (by assumption) ?_
          rotate_left
          · (intro w hSw; (try dsimp only at hSw); (try go_split_ands); go_simp; (try with_reducible rfl))
          try simp only [Act.put, List.getElem_toArray, List.getElem_cons_succ, List.getElem_cons_zero, List.setIfInBounds_toArray, List.set_cons_zero, List.set_cons_succ]
          refine wpAnyH_ready (rs := [9]) (by kernel_rfl) (by simp) ?_
          refine AllReadyH.cons rfl (fun Kc hK => ?_) AllReadyH.nil
          refine step_fn en_next #[.pointer (some ⟨d, 0, none⟩), .int .i64 2] (by kernel_rfl) rfl (by kernel_rfl) ?_
          refine (k_Next d 2 _ G56.out.dc (by omega) (by omega)).mono ?_
          rintro e v57 ⟨r2, hr2, rfl, hd, hg⟩
          refine ⟨_, rfl, ?_⟩
          have G57 := Lib.hid (G56.out.call hd hg)
          clear hd hg
          have zr2 : (r2 : Int) < 2 := by omega
          have yr2 : (0 : Int) ≤ (r2 : Int) := by omega
          have ur2 : IntKind.i64.wrap (3 + (r2 : Int)) = 3 + (r2 : Int) := wraps_i64_63 _ (by omega) (by omega)
          refine hK.out _ _ ⟨p3_cell (G57.out.get 0 rfl) hr0, trivial⟩ (fun hHeld => ?_)
          clear hK Kc
          try simp only [Act.put, List.getElem_toArray, List.getElem_cons_succ, List.getElem_cons_zero, List.setIfInBounds_toArray, List.set_cons_zero, List.set_cons_succ]
          refine wpAnyH_take (i := 10) (v := ?_) rfl (by kernel_rfl) (by kernel_rfl) (by kernel_rfl) (fun _ _ _ h => h) (Or.inl ⟨by kernel_rfl, ?_⟩) (by assumption) ?_
          rotate_left
          · (intro w hSw; (try dsimp only at hSw); (try go_split_ands); go_simp; (try with_reducible rfl))
          try simp only [Act.put, List.getElem_toArray, List.getElem_cons_succ, List.getElem_cons_zero, List.setIfInBounds_toArray, List.set_cons_zero, List.set_cons_succ]
          refine wpAnyH_take (i := 11) (v := ?_) rfl (by kernel_rfl) (by kernel_rfl) (by kernel_rfl) (fun _ _ _ h => h) (Or.inl ⟨by kernel_rfl, ?_⟩) (by assumption) ?_
          rotate_left
          · (intro w hSw; (try dsimp only at hSw); (try go_split_ands); go_simp; (try with_reducible rfl))
          try simp only [Act.put, List.getElem_toArray, List.getElem_cons_succ, List.getElem_cons_zero, List.setIfInBounds_toArray, List.set_cons_zero, List.set_cons_succ]
          refine wpAnyH_ready (rs := [13]) (by kernel_rfl) (by simp) ?_
          refine AllReadyH.cons rfl (fun Kc hK => ?_) AllReadyH.nil
          refine step_skipE _ (by kernel_rfl) (st_plan (p := ((p3 r0 : Nat) : Int)) (q := 2 + (r1 : Int)) (r := 3 + (r2 : Int)) rfl (by kernel_rfl) (by kernel_rfl) (G57.out.get 1 rfl)) ?_
          intro W6 hW6
          have h6 := (((G57.out.set 1 rfl 0 (.int .i64 ((p3 r0 : Nat) : Int))).set 1 rfl 1 (.int .i64 (2 + (r1 : Int)))).set 1 rfl 2 (.int .i64 (3 + (r2 : Int))))
          rw [← hW6] at h6
          have G58 := Lib.hid h6
          clear h6 hW6
          refine hK.out _ _ ⟨p3_cell (G58.out.get 0 rfl) hr0, trivial⟩ (fun hHeld => ?_)
          clear hK Kc
          try simp only [Act.put, List.getElem_toArray, List.getElem_cons_succ, List.getElem_cons_zero, List.setIfInBounds_toArray, List.set_cons_zero, List.set_cons_succ]
          refine wpAnyH_done (by kernel_rfl) ?_ _
          (try go_wp2_with fail)
          go_meet
          exact pwA_end HOLD.out hdl G58.out 1 rfl hr0 hr1 hr2
        · refine step_fn en_next #[.pointer (some ⟨d, 0, none⟩), .int .i64 2] (by kernel_rfl) rfl (by kernel_rfl) ?_
          refine (k_Next d 2 _ G54.out.dc (by omega) (by omega)).mono ?_
          rintro e v59 ⟨r1, hr1, rfl, hd, hg⟩
          refine ⟨_, rfl, ?_⟩
          have G59 := Lib.hid (G54.out.call hd hg)
          clear hd hg
          have zr1 : (r1 : Int) < 2 := by omega
          have yr1 : (0 : Int) ≤ (r1 : Int) := by omega
          have ur1 : IntKind.i64.wrap (2 + (r1 : Int)) = 2 + (r1 : Int) := wraps_i64_63 _ (by omega) (by omega)
          refine hK.out _ _ trivial (fun hHeld => ?_)
          clear hK Kc
          try simp only [Act.put, List.getElem_toArray, List.getElem_cons_succ, List.getElem_cons_zero, List.setIfInBounds_toArray, List.set_cons_zero, List.set_cons_succ]
          refine wpAnyH_take (i := 7) (v := ?_) rfl (by kernel_rfl) (by kernel_rfl) (by kernel_rfl) (fun _ _ _ h => h) (Or.inl ⟨by kernel_rfl, ?_⟩) (by assumption) ?_
          rotate_left
          · (intro w hSw; (try dsimp only at hSw); (try go_split_ands); go_simp; (try with_reducible rfl))
          try simp only [Act.put, List.getElem_toArray, List.getElem_cons_succ, List.getElem_cons_zero, List.setIfInBounds_toArray, List.set_cons_zero, List.set_cons_succ]
          refine wpAnyH_ready (rs := [0, 9]) (by kernel_rfl) (by simp) ?_
          refine AllReadyH.cons rfl (fun Kc hK => ?_) (AllReadyH.cons rfl (fun Kc hK => ?_) AllReadyH.nil)
          · refine step_alE (mk := (fun g => .slice (some ⟨g, 0, none⟩) 3 3)) (t := 3) (cs := #[.int .i64 5, .int .i64 7, .int .i64 11]) G59.out (by kernel_rfl) (bs_p3 rfl) ?_
            intro g0 W60 hD hB
            have G60 := Lib.hid hD
            clear hD hB
            refine hK.out _ _ trivial (fun hHeld => ?_)
            clear hK Kc
            try simp only [Act.put, List.getElem_toArray, List.getElem_cons_succ, List.getElem_cons_zero, List.setIfInBounds_toArray, List.set_cons_zero, List.set_cons_succ]
            refine wpAnyH_take (i := 3) (v := ?_) rfl (by kernel_rfl) (by kernel_rfl) (by kernel_rfl) (fun _ _ _ h => h) (Or.inl ⟨by kernel_rfl, ?_⟩) (by assumption) ?_
            rotate_left
            · (intro w hSw; (try dsimp only at hSw); (try go_split_ands); go_simp; (try with_reducible rfl))
            try simp only [Act.put, List.getElem_toArray, List.getElem_cons_succ, List.getElem_cons_zero, List.setIfInBounds_toArray, List.set_cons_zero, List.set_cons_succ]
            refine wpAnyH_mono (T := (fun W : World => W.cell? ⟨g0, r0, none⟩ = some (.int .i64 ((p3 r0 : Nat) : Int)) ∧ True)) (fun W hW => hW.2) _ _ _ _ ?_
            replace hHeld := (show (fun W : World => W.cell? ⟨g0, r0, none⟩ = some (.int .i64 ((p3 r0 : Nat) : Int)) ∧ True) _ from ⟨p3_cell (G60.out.get 0 rfl) hr0, trivial⟩)
            refine wpAnyH_take (i := 4) (v := ?_) rfl (by kernel_rfl) (by kernel_rfl) (by kernel_rfl) (fun _ _ _ h => h) (Or.inl ⟨by kernel_rfl, ?_⟩) (by assumption) ?_
            rotate_left
            · (intro w hSw; (try dsimp only at hSw); (try go_split_ands); go_simp; (try with_reducible rfl))
            try simp only [Act.put, List.getElem_toArray, List.getElem_cons_succ, List.getElem_cons_zero, List.setIfInBounds_toArray, List.set_cons_zero, List.set_cons_succ]
            refine wpAnyH_ready (rs := [9]) (by kernel_rfl) (by simp) ?_
            refine AllReadyH.cons rfl (fun Kc hK => ?_) AllReadyH.nil
            refine step_fn en_next #[.pointer (some ⟨d, 0, none⟩), .int .i64 2] (by kernel_rfl) rfl (by kernel_rfl) ?_
            refine (k_Next d 2 _ G60.out.dc (by omega) (by omega)).mono ?_
            rintro e v61 ⟨r2, hr2, rfl, hd, hg⟩
            refine ⟨_, rfl, ?_⟩
            have G61 := Lib.hid (G60.out.call hd hg)
            clear hd hg
            have zr2 : (r2 : Int) < 2 := by omega
            have yr2 : (0 : Int) ≤ (r2 : Int) := by omega
            have ur2 : IntKind.i64.wrap (3 + (r2 : Int)) = 3 + (r2 : Int) := wraps_i64_63 _ (by omega) (by omega)
            refine hK.out _ _ ⟨p3_cell (G61.out.get 0 rfl) hr0, trivial⟩ (fun hHeld => ?_)
            clear hK Kc
            try simp only [Act.put, List.getElem_toArray, List.getElem_cons_succ, List.getElem_cons_zero, List.setIfInBounds_toArray, List.set_cons_zero, List.set_cons_succ]
            refine wpAnyH_take (i := 10) (v := ?_) rfl (by kernel_rfl) (by kernel_rfl) (by kernel_rfl) (fun _ _ _ h => h) (Or.inl ⟨by kernel_rfl, ?_⟩) (by assumption) ?_
            rotate_left
            · (intro w hSw; (try dsimp only at hSw); (try go_split_ands); go_simp; (try with_reducible rfl))
            try simp only [Act.put, List.getElem_toArray, List.getElem_cons_succ, List.getElem_cons_zero, List.setIfInBounds_toArray, List.set_cons_zero, List.set_cons_succ]
            refine wpAnyH_take (i := 11) (v := ?_) rfl (by kernel_rfl) (by kernel_rfl) (by kernel_rfl) (fun _ _ _ h => h) (Or.inl ⟨by kernel_rfl, ?_⟩) (by assumption) ?_
            rotate_left
            · (intro w hSw; (try dsimp only at hSw); (try go_split_ands); go_simp; (try with_reducible rfl))
            try simp only [Act.put, List.getElem_toArray, List.getElem_cons_succ, List.getElem_cons_zero, List.setIfInBounds_toArray, List.set_cons_zero, List.set_cons_succ]
            refine wpAnyH_ready (rs := [13]) (by kernel_rfl) (by simp) ?_
            refine AllReadyH.cons rfl (fun Kc hK => ?_) AllReadyH.nil
            refine step_skipE _ (by kernel_rfl) (st_plan (p := ((p3 r0 : Nat) : Int)) (q := 2 + (r1 : Int)) (r := 3 + (r2 : Int)) rfl (by kernel_rfl) (by kernel_rfl) (G61.out.get 1 rfl)) ?_
            intro W6 hW6
            have h6 := (((G61.out.set 1 rfl 0 (.int .i64 ((p3 r0 : Nat) : Int))).set 1 rfl 1 (.int .i64 (2 + (r1 : Int)))).set 1 rfl 2 (.int .i64 (3 + (r2 : Int))))
            rw [← hW6] at h6
            have G62 := Lib.hid h6
            clear h6 hW6
            refine hK.out _ _ ⟨p3_cell (G62.out.get 0 rfl) hr0, trivial⟩ (fun hHeld => ?_)
            clear hK Kc
            try simp only [Act.put, List.getElem_toArray, List.getElem_cons_succ, List.getElem_cons_zero, List.setIfInBounds_toArray, List.set_cons_zero, List.set_cons_succ]
            refine wpAnyH_done (by kernel_rfl) ?_ _
            (try go_wp2_with fail)
            go_meet
            exact pwA_end HOLD.out hdl G62.out 1 rfl hr0 hr1 hr2
          · refine step_fn en_next #[.pointer (some ⟨d, 0, none⟩), .int .i64 2] (by kernel_rfl) rfl (by kernel_rfl) ?_
            refine (k_Next d 2 _ G59.out.dc (by omega) (by omega)).mono ?_
            rintro e v63 ⟨r2, hr2, rfl, hd, hg⟩
            refine ⟨_, rfl, ?_⟩
            have G63 := Lib.hid (G59.out.call hd hg)
            clear hd hg
            have zr2 : (r2 : Int) < 2 := by omega
            have yr2 : (0 : Int) ≤ (r2 : Int) := by omega
            have ur2 : IntKind.i64.wrap (3 + (r2 : Int)) = 3 + (r2 : Int) := wraps_i64_63 _ (by omega) (by omega)
            refine hK.out _ _ trivial (fun hHeld => ?_)
            clear hK Kc
            try simp only [Act.put, List.getElem_toArray, List.getElem_cons_succ, List.getElem_cons_zero, List.setIfInBounds_toArray, List.set_cons_zero, List.set_cons_succ]
            refine wpAnyH_take (i := 10) (v := ?_) rfl (by kernel_rfl) (by kernel_rfl) (by kernel_rfl) (fun _ _ _ h => h) (Or.inl ⟨by kernel_rfl, ?_⟩) (by assumption) ?_
            rotate_left
            · (intro w hSw; (try dsimp only at hSw); (try go_split_ands); go_simp; (try with_reducible rfl))
            try simp only [Act.put, List.getElem_toArray, List.getElem_cons_succ, List.getElem_cons_zero, List.setIfInBounds_toArray, List.set_cons_zero, List.set_cons_succ]
            refine wpAnyH_ready (rs := [0]) (by kernel_rfl) (by simp) ?_
            refine AllReadyH.cons rfl (fun Kc hK => ?_) AllReadyH.nil
            refine step_alE (mk := (fun g => .slice (some ⟨g, 0, none⟩) 3 3)) (t := 3) (cs := #[.int .i64 5, .int .i64 7, .int .i64 11]) G63.out (by kernel_rfl) (bs_p3 rfl) ?_
            intro g0 W64 hD hB
            have G64 := Lib.hid hD
            clear hD hB
            refine hK.out _ _ trivial (fun hHeld => ?_)
            clear hK Kc
            try simp only [Act.put, List.getElem_toArray, List.getElem_cons_succ, List.getElem_cons_zero, List.setIfInBounds_toArray, List.set_cons_zero, List.set_cons_succ]
            refine wpAnyH_take (i := 3) (v := ?_) rfl (by kernel_rfl) (by kernel_rfl) (by kernel_rfl) (fun _ _ _ h => h) (Or.inl ⟨by kernel_rfl, ?_⟩) (by assumption) ?_
            rotate_left
            · (intro w hSw; (try dsimp only at hSw); (try go_split_ands); go_simp; (try with_reducible rfl))
            try simp only [Act.put, List.getElem_toArray, List.getElem_cons_succ, List.getElem_cons_zero, List.setIfInBounds_toArray, List.set_cons_zero, List.set_cons_succ]
            refine wpAnyH_mono (T := (fun W : World => W.cell? ⟨g0, r0, none⟩ = some (.int .i64 ((p3 r0 : Nat) : Int)) ∧ True)) (fun W hW => hW.2) _ _ _ _ ?_
            replace hHeld := (show (fun W : World => W.cell? ⟨g0, r0, none⟩ = some (.int .i64 ((p3 r0 : Nat) : Int)) ∧ True) _ from ⟨p3_cell (G64.out.get 0 rfl) hr0, trivial⟩)
            refine wpAnyH_take (i := 4) (v := ?_) rfl (by kernel_rfl) (by kernel_rfl) (by kernel_rfl) (fun _ _ _ h => h) (Or.inl ⟨by kernel_rfl, ?_⟩) (by assumption) ?_
            rotate_left
            · (intro w hSw; (try dsimp only at hSw); (try go_split_ands); go_simp; (try with_reducible rfl))
            try simp only [Act.put, List.getElem_toArray, List.getElem_cons_succ, List.getElem_cons_zero, List.setIfInBounds_toArray, List.set_cons_zero, List.set_cons_succ]
            refine wpAnyH_take (i := 11) (v := ?_) rfl (by kernel_rfl) (by kernel_rfl) (by kernel_rfl) (fun _ _ _ h => h) (Or.inl ⟨by kernel_rfl, ?_⟩) (by assumption) ?_
            rotate_left
            · (intro w hSw; (try dsimp only at hSw); (try go_split_ands); go_simp; (try with_reducible rfl))
            try simp only [Act.put, List.getElem_toArray, List.getElem_cons_succ, List.getElem_cons_zero, List.setIfInBounds_toArray, List.set_cons_zero, List.set_cons_succ]
            refine wpAnyH_ready (rs := [13]) (by kernel_rfl) (by simp) ?_
            refine AllReadyH.cons rfl (fun Kc hK => ?_) AllReadyH.nil
            refine step_skipE _ (by kernel_rfl) (st_plan (p := ((p3 r0 : Nat) : Int)) (q := 2 + (r1 : Int)) (r := 3 + (r2 : Int)) rfl (by kernel_rfl) (by kernel_rfl) (G64.out.get 1 rfl)) ?_
            intro W6 hW6
            have h6 := (((G64.out.set 1 rfl 0 (.int .i64 ((p3 r0 : Nat) : Int))).set 1 rfl 1 (.int .i64 (2 + (r1 : Int)))).set 1 rfl 2 (.int .i64 (3 + (r2 : Int))))
            rw [← hW6] at h6
            have G65 := Lib.hid h6
            clear h6 hW6
            refine hK.out _ _ ⟨p3_cell (G65.out.get 0 rfl) hr0, trivial⟩ (fun hHeld => ?_)
            clear hK Kc
            try simp only [Act.put, List.getElem_toArray, List.getElem_cons_succ, List.getElem_cons_zero, List.setIfInBounds_toArray, List.set_cons_zero, List.set_cons_succ]
            refine wpAnyH_done (by kernel_rfl) ?_ _
            (try go_wp2_with fail)
            go_meet
            exact pwA_end HOLD.out hdl G65.out 1 rfl hr0 hr1 hr2
    · refine step_alE (mk := (fun g => .pointer (some ⟨g, 0, none⟩))) (t := 29) (cs := #[.int .i64 0, .int .i64 0, .int .i64 0]) HD0.out (by kernel_rfl) (al_plan rfl) ?_
      intro g12 W66 hD hB
      have G66 := Lib.hid hD
      clear hD hB
      refine hK.out _ _ trivial (fun hHeld => ?_)
      clear hK Kc
      try simp only [Act.put, List.getElem_toArray, List.getElem_cons_succ, List.getElem_cons_zero, List.setIfInBounds_toArray, List.set_cons_zero, List.set_cons_succ]
      refine wpAnyH_ready (rs := [0, 2]) (by kernel_rfl) (by simp) ?_
      refine AllReadyH.cons rfl (fun Kc hK => ?_) (AllReadyH.cons rfl (fun Kc hK => ?_) AllReadyH.nil)
      · refine step_alE (mk := (fun g => .slice (some ⟨g, 0, none⟩) 3 3)) (t := 3) (cs := #[.int .i64 5, .int .i64 7, .int .i64 11]) G66.out (by kernel_rfl) (bs_p3 rfl) ?_
        intro g0 W67 hD hB
        have G67 := Lib.hid hD
        clear hD hB
        refine hK.out _ _ trivial (fun hHeld => ?_)
        clear hK Kc
        try simp only [Act.put, List.getElem_toArray, List.getElem_cons_succ, List.getElem_cons_zero, List.setIfInBounds_toArray, List.set_cons_zero, List.set_cons_succ]
        refine wpAnyH_ready (rs := [2]) (by kernel_rfl) (by simp) ?_
        refine AllReadyH.cons rfl (fun Kc hK => ?_) AllReadyH.nil
        refine step_fn en_next #[.pointer (some ⟨d, 0, none⟩), .int .i64 3] (by kernel_rfl) rfl (by kernel_rfl) ?_
        refine (k_Next d 3 _ G67.out.dc (by omega) (by omega)).mono ?_
        rintro e v68 ⟨r0, hr0, rfl, hd, hg⟩
        refine ⟨_, rfl, ?_⟩
        have G68 := Lib.hid (G67.out.call hd hg)
        clear hd hg
        have zr0 : (r0 : Int) < 3 := by omega
        have yr0 : (0 : Int) ≤ (r0 : Int) := by omega
        refine hK.out _ _ trivial (fun hHeld => ?_)
        clear hK Kc
        try simp only [Act.put, List.getElem_toArray, List.getElem_cons_succ, List.getElem_cons_zero, List.setIfInBounds_toArray, List.set_cons_zero, List.set_cons_succ]
        refine wpAnyH_take (i := 3) (v := ?_) rfl (by kernel_rfl) (by kernel_rfl) (by kernel_rfl) (fun _ _ _ h => h) (Or.inl ⟨by kernel_rfl, ?_⟩) (by assumption) ?_
        rotate_left
        · (intro w hSw; (try dsimp only at hSw); (try go_split_ands); go_simp; (try with_reducible rfl))
        try simp only [Act.put, List.getElem_toArray, List.getElem_cons_succ, List.getElem_cons_zero, List.setIfInBounds_toArray, List.set_cons_zero, List.set_cons_succ]
        refine wpAnyH_mono (T := (fun W : World => W.cell? ⟨g0, r0, none⟩ = some (.int .i64 ((p3 r0 : Nat) : Int)) ∧ True)) (fun W hW => hW.2) _ _ _ _ ?_
        replace hHeld := (show (fun W : World => W.cell? ⟨g0, r0, none⟩ = some (.int .i64 ((p3 r0 : Nat) : Int)) ∧ True) _ from ⟨p3_cell (G68.out.get 0 rfl) hr0, trivial⟩)
        refine wpAnyH_take (i := 4) (v := ?_) rfl (by kernel_rfl) (by kernel_rfl) (by kernel_rfl) (fun _ _ _ h => h) (Or.inl ⟨by kernel_rfl, ?_⟩) (by assumption) ?_
        rotate_left
        · (intro w hSw; (try dsimp only at hSw); (try go_split_ands); go_simp; (try with_reducible rfl))
        try simp only [Act.put, List.getElem_toArray, List.getElem_cons_succ, List.getElem_cons_zero, List.setIfInBounds_toArray, List.set_cons_zero, List.set_cons_succ]
        refine wpAnyH_ready (rs := [6]) (by kernel_rfl) (by simp) ?_
        refine AllReadyH.cons rfl (fun Kc hK => ?_) AllReadyH.nil
        refine step_fn en_next #[.pointer (some ⟨d, 0, none⟩), .int .i64 2] (by kernel_rfl) rfl (by kernel_rfl) ?_
        refine (k_Next d 2 _ G68.out.dc (by omega) (by omega)).mono ?_
        rintro e v69 ⟨r1, hr1, rfl, hd, hg⟩
        refine ⟨_, rfl, ?_⟩
        have G69 := Lib.hid (G68.out.call hd hg)
        clear hd hg
        have zr1 : (r1 : Int) < 2 := by omega
        have yr1 : (0 : Int) ≤ (r1 : Int) := by omega
        have ur1 : IntKind.i64.wrap (2 + (r1 : Int)) = 2 + (r1 : Int) := wraps_i64_63 _ (by omega) (by omega)
        refine hK.out _ _ ⟨p3_cell (G69.out.get 0 rfl) hr0, trivial⟩ (fun hHeld => ?_)
        clear hK Kc
        try simp only [Act.put, List.getElem_toArray, List.getElem_cons_succ, List.getElem_cons_zero, List.setIfInBounds_toArray, List.set_cons_zero, List.set_cons_succ]
        refine wpAnyH_take (i := 7) (v := ?_) rfl (by kernel_rfl) (by kernel_rfl) (by kernel_rfl) (fun _ _ _ h => h) (Or.inl ⟨by kernel_rfl, ?_⟩) (by assumption) ?_
        rotate_left
        · (intro w hSw; (try dsimp only at hSw); (try go_split_ands); go_simp; (try with_reducible rfl))
        try simp only [Act.put, List.getElem_toArray, List.getElem_cons_succ, List.getElem_cons_zero, List.setIfInBounds_toArray, List.set_cons_zero, List.set_cons_succ]
        refine wpAnyH_ready (rs := [9]) (by kernel_rfl) (by simp) ?_
        refine AllReadyH.cons rfl (fun Kc hK => ?_) AllReadyH.nil
        refine step_fn en_next #[.pointer (some ⟨d, 0, none⟩), .int .i64 2] (by kernel_rfl) rfl (by kernel_rfl) ?_
        refine (k_Next d 2 _ G69.out.dc (by omega) (by omega)).mono ?_
        rintro e v70 ⟨r2, hr2, rfl, hd, hg⟩
        refine ⟨_, rfl, ?_⟩
        have G70 := Lib.hid (G69.out.call hd hg)
        clear hd hg
        have zr2 : (r2 : Int) < 2 := by omega
        have yr2 : (0 : Int) ≤ (r2 : Int) := by omega
        have ur2 : IntKind.i64.wrap (3 + (r2 : Int)) = 3 + (r2 : Int) := wraps_i64_63 _ (by omega) (by omega)
        refine hK.out _ _ ⟨p3_cell (G70.out.get 0 rfl) hr0, trivial⟩ (fun hHeld => ?_)
        clear hK Kc
        try simp only [Act.put, List.getElem_toArray, List.getElem_cons_succ, List.getElem_cons_zero, List.setIfInBounds_toArray, List.set_cons_zero, List.set_cons_succ]
        refine wpAnyH_take (i := 10) (v := ?_) rfl (by kernel_rfl) (by kernel_rfl) (by kernel_rfl) (fun _ _ _ h => h) (Or.inl ⟨by kernel_rfl, ?_⟩) (by assumption) ?_
        rotate_left
        · (intro w hSw; (try dsimp only at hSw); (try go_split_ands); go_simp; (try with_reducible rfl))
        try simp only [Act.put, List.getElem_toArray, List.getElem_cons_succ, List.getElem_cons_zero, List.setIfInBounds_toArray, List.set_cons_zero, List.set_cons_succ]
        refine wpAnyH_take (i := 11) (v := ?_) rfl (by kernel_rfl) (by kernel_rfl) (by kernel_rfl) (fun _ _ _ h => h) (Or.inl ⟨by kernel_rfl, ?_⟩) (by assumption) ?_
        rotate_left
        · (intro w hSw; (try dsimp only at hSw); (try go_split_ands); go_simp; (try with_reducible rfl))
        try simp only [Act.put, List.getElem_toArray, List.getElem_cons_succ, List.getElem_cons_zero, List.setIfInBounds_toArray, List.set_cons_zero, List.set_cons_succ]
        refine wpAnyH_ready (rs := [13]) (by kernel_rfl) (by simp) ?_
        refine AllReadyH.cons rfl (fun Kc hK => ?_) AllReadyH.nil
        refine step_skipE _ (by kernel_rfl) (st_plan (p := ((p3 r0 : Nat) : Int)) (q := 2 + (r1 : Int)) (r := 3 + (r2 : Int)) rfl (by kernel_rfl) (by kernel_rfl) (G70.out.get 1 rfl)) ?_
        intro W6 hW6
        have h6 := (((G70.out.set 1 rfl 0 (.int .i64 ((p3 r0 : Nat) : Int))).set 1 rfl 1 (.int .i64 (2 + (r1 : Int)))).set 1 rfl 2 (.int .i64 (3 + (r2 : Int))))
        rw [← hW6] at h6
        have G71 := Lib.hid h6
        clear h6 hW6
        refine hK.out _ _ ⟨p3_cell (G71.out.get 0 rfl) hr0, trivial⟩ (fun hHeld => ?_)
        clear hK Kc
        try simp only [Act.put, List.getElem_toArray, List.getElem_cons_succ, List.getElem_cons_zero, List.setIfInBounds_toArray, List.set_cons_zero, List.set_cons_succ]
        refine wpAnyH_done (by kernel_rfl) ?_ _
        (try go_wp2_with fail)
        go_meet
        exact pwA_end HOLD.out hdl G71.out 1 rfl hr0 hr1 hr2
      · refine step_fn en_next #[.pointer (some ⟨d, 0, none⟩), .int .i64 3] (by kernel_rfl) rfl (by kernel_rfl) ?_
        refine (k_Next d 3 _ G66.out.dc (by omega) (by omega)).mono ?_
        rintro e v72 ⟨r0, hr0, rfl, hd, hg⟩
        refine ⟨_, rfl, ?_⟩
        have G72 := Lib.hid (G66.out.call hd hg)
        clear hd hg
        have zr0 : (r0 : Int) < 3 := by omega
        have yr0 : (0 : Int) ≤ (r0 : Int) := by omega
        refine hK.out _ _ trivial (fun hHeld => ?_)
        clear hK Kc
        try simp only [Act.put, List.getElem_toArray, List.getElem_cons_succ, List.getElem_cons_zero, List.setIfInBounds_toArray, List.set_cons_zero, List.set_cons_succ]
        refine wpAnyH_ready (rs := [0, 6]) (by kernel_rfl) (by simp) ?_
        refine AllReadyH.cons rfl (fun Kc hK => ?_) (AllReadyH.cons rfl (fun Kc hK => ?_) AllReadyH.nil)
        · refine step_alE (mk := (fun g => .slice (some ⟨g, 0, none⟩) 3 3)) (t := 3) (cs := #[.int .i64 5, .int .i64 7, .int .i64 11]) G72.out (by kernel_rfl) (bs_p3 rfl) ?_
          intro g0 W73 hD hB
          have G73 := Lib.hid hD
          clear hD hB
          refine hK.out _ _ trivial (fun hHeld => ?_)
          clear hK Kc
          try simp only [Act.put, List.getElem_toArray, List.getElem_cons_succ, List.getElem_cons_zero, List.setIfInBounds_toArray, List.set_cons_zero, List.set_cons_succ]
          refine wpAnyH_take (i := 3) (v := ?_) rfl (by kernel_rfl) (by kernel_rfl) (by kernel_rfl) (fun _ _ _ h => h) (Or.inl ⟨by kernel_rfl, ?_⟩) (by assumption) ?_
          rotate_left
          · (intro w hSw; (try dsimp only at hSw); (try go_split_ands); go_simp; (try with_reducible rfl))
          try simp only [Act.put, List.getElem_toArray, List.getElem_cons_succ, List.getElem_cons_zero, List.setIfInBounds_toArray, List.set_cons_zero, List.set_cons_succ]
          refine wpAnyH_mono (T := (fun W : World => W.cell? ⟨g0, r0, none⟩ = some (.int .i64 ((p3 r0 : Nat) : Int)) ∧ True)) (fun W hW => hW.2) _ _ _ _ ?_
          replace hHeld := (show (fun W : World => W.cell? ⟨g0, r0, none⟩ = some (.int .i64 ((p3 r0 : Nat) : Int)) ∧ True) _ from ⟨p3_cell (G73.out.get 0 rfl) hr0, trivial⟩)
          refine wpAnyH_take (i := 4) (v := ?_) rfl (by kernel_rfl) (by kernel_rfl) (by kernel_rfl) (fun _ _ _ h => h) (Or.inl ⟨by kernel_rfl, ?_⟩) (by assumption) ?_
          rotate_left
          · (intro w hSw; (try dsimp only at hSw); (try go_split_ands); go_simp; (try with_reducible rfl))
          try simp only [Act.put, List.getElem_toArray, List.getElem_cons_succ, List.getElem_cons_zero, List.setIfInBounds_toArray, List.set_cons_zero, List.set_cons_succ]
          refine wpAnyH_ready (rs := [6]) (by kernel_rfl) (by simp) ?_
          refine AllReadyH.cons rfl (fun Kc hK => ?_) AllReadyH.nil
          refine step_fn en_next #[.pointer (some ⟨d, 0, none⟩), .int .i64 2] (by kernel_rfl) rfl (by kernel_rfl) ?_
          refine (k_Next d 2 _ G73.out.dc (by omega) (by omega)).mono ?_
          rintro e v74 ⟨r1, hr1, rfl, hd, hg⟩
          refine ⟨_, rfl, ?_⟩
          have G74 := Lib.hid (G73.out.call hd hg)
          clear hd hg
          have zr1 : (r1 : Int) < 2 := by omega
          have yr1 : (0 : Int) ≤ (r1 : Int) := by omega
          have ur1 : IntKind.i64.wrap (2 + (r1 : Int)) = 2 + (r1 : Int) := wraps_i64_63 _ (by omega) (by omega)
          refine hK.out _ _ ⟨p3_cell (G74.out.get 0 rfl) hr0, trivial⟩ (fun hHeld => ?_)
          clear hK Kc
          try simp only [Act.put, List.getElem_toArray, List.getElem_cons_succ, List.getElem_cons_zero, List.setIfInBounds_toArray, List.set_cons_zero, List.set_cons_succ]
          refine wpAnyH_take (i := 7) (v := ?_) rfl (by kernel_rfl) (by kernel_rfl) (by kernel_rfl) (fun _ _ _ h => h) (Or.inl ⟨by kernel_rfl, ?_⟩) (by assumption) ?_
          rotate_left
          · (intro w hSw; (try dsimp only at hSw); (try go_split_ands); go_simp; (try with_reducible rfl))
          try simp only [Act.put, List.getElem_toArray, List.getElem_cons_succ, List.getElem_cons_zero, List.setIfInBounds_toArray, List.set_cons_zero, List.set_cons_succ]
          refine wpAnyH_ready (rs := [9]) (by kernel_rfl) (by simp) ?_
          refine AllReadyH.cons rfl (fun Kc hK => ?_) AllReadyH.nil
          refine step_fn en_next #[.pointer (some ⟨d, 0, none⟩), .int .i64 2] (by kernel_rfl) rfl (by kernel_rfl) ?_
          refine (k_Next d 2 _ G74.out.dc (by omega) (by omega)).mono ?_
          rintro e v75 ⟨r2, hr2, rfl, hd, hg⟩
          refine ⟨_, rfl, ?_⟩
          have G75 := Lib.hid (G74.out.call hd hg)
          clear hd hg
          have zr2 : (r2 : Int) < 2 := by omega
          have yr2 : (0 : Int) ≤ (r2 : Int) := by omega
          have ur2 : IntKind.i64.wrap (3 + (r2 : Int)) = 3 + (r2 : Int) := wraps_i64_63 _ (by omega) (by omega)
          refine hK.out _ _ ⟨p3_cell (G75.out.get 0 rfl) hr0, trivial⟩ (fun hHeld => ?_)
          clear hK Kc
          try simp only [Act.put, List.getElem_toArray, List.getElem_cons_succ, List.getElem_cons_zero, List.setIfInBounds_toArray, List.set_cons_zero, List.set_cons_succ]
          refine wpAnyH_take (i := 10) (v := ?_) rfl (by kernel_rfl) (by kernel_rfl) (by kernel_rfl) (fun _ _ _ h => h) (Or.inl ⟨by kernel_rfl, ?_⟩) (by assumption) ?_
          rotate_left
          · (intro w hSw; (try dsimp only at hSw); (try go_split_ands); go_simp; (try with_reducible rfl))
          try simp only [Act.put, List.getElem_toArray, List.getElem_cons_succ, List.getElem_cons_zero, List.setIfInBounds_toArray, List.set_cons_zero, List.set_cons_succ]
          refine wpAnyH_take (i := 11) (v := ?_) rfl (by kernel_rfl) (by kernel_rfl) (by kernel_rfl) (fun _ _ _ h => h) (Or.inl ⟨by kernel_rfl, ?_⟩) (by assumption) ?_
          rotate_left
          · (intro w hSw; (try dsimp only at hSw); (try go_split_ands); go_simp; (try with_reducible rfl))
          try simp only [Act.put, List.getElem_toArray, List.getElem_cons_succ, List.getElem_cons_zero, List.setIfInBounds_toArray, List.set_cons_zero, List.set_cons_succ]
          refine wpAnyH_ready (rs := [13]) (by kernel_rfl) (by simp) ?_
          refine AllReadyH.cons rfl (fun Kc hK => ?_) AllReadyH.nil
          refine step_skipE _ (by kernel_rfl) (st_plan (p := ((p3 r0 : Nat) : Int)) (q := 2 + (r1 : Int)) (r := 3 + (r2 : Int)) rfl (by kernel_rfl) (by kernel_rfl) (G75.out.get 1 rfl)) ?_
          intro W6 hW6
          have h6 := (((G75.out.set 1 rfl 0 (.int .i64 ((p3 r0 : Nat) : Int))).set 1 rfl 1 (.int .i64 (2 + (r1 : Int)))).set 1 rfl 2 (.int .i64 (3 + (r2 : Int))))
          rw [← hW6] at h6
          have G76 := Lib.hid h6
          clear h6 hW6
          refine hK.out _ _ ⟨p3_cell (G76.out.get 0 rfl) hr0, trivial⟩ (fun hHeld => ?_)
          clear hK Kc
          try simp only [Act.put, List.getElem_toArray, List.getElem_cons_succ, List.getElem_cons_zero, List.setIfInBounds_toArray, List.set_cons_zero, List.set_cons_succ]
          refine wpAnyH_done (by kernel_rfl) ?_ _
          (try go_wp2_with fail)
          go_meet
          exact pwA_end HOLD.out hdl G76.out 1 rfl hr0 hr1 hr2
        · refine step_fn en_next #[.pointer (some ⟨d, 0, none⟩), .int .i64 2] (by kernel_rfl) rfl (by kernel_rfl) ?_
          refine (k_Next d 2 _ G72.out.dc (by omega) (by omega)).mono ?_
          rintro e v77 ⟨r1, hr1, rfl, hd, hg⟩
          refine ⟨_, rfl, ?_⟩
          have G77 := Lib.hid (G72.out.call hd hg)
          clear hd hg
          have zr1 : (r1 : Int) < 2 := by omega
          have yr1 : (0 : Int) ≤ (r1 : Int) := by omega
          have ur1 : IntKind.i64.wrap (2 + (r1 : Int)) = 2 + (r1 : Int) := wraps_i64_63 _ (by omega) (by omega)
          refine hK.out _ _ trivial (fun hHeld => ?_)
          clear hK Kc
          try simp only [Act.put, List.getElem_toArray, List.getElem_cons_succ, List.getElem_cons_zero, List.setIfInBounds_toArray, List.set_cons_zero, List.set_cons_succ]
          refine wpAnyH_take (i := 7) (v := ?_) rfl (by kernel_rfl) (by kernel_rfl) (by kernel_rfl) (fun _ _ _ h => h) (Or.inl ⟨by kernel_rfl, ?_⟩) (by assumption) ?_
          rotate_left
          · (intro w hSw; (try dsimp only at hSw); (try go_split_ands); go_simp; (try with_reducible rfl))
          try simp only [Act.put, List.getElem_toArray, List.getElem_cons_succ, List.getElem_cons_zero, List.setIfInBounds_toArray, List.set_cons_zero, List.set_cons_succ]
          refine wpAnyH_ready (rs := [0, 9]) (by kernel_rfl) (by simp) ?_
          refine AllReadyH.cons rfl (fun Kc hK => ?_) (AllReadyH.cons rfl (fun Kc hK => ?_) AllReadyH.nil)
          · refine step_alE (mk := (fun g => .slice (some ⟨g, 0, none⟩) 3 3)) (t := 3) (cs := #[.int .i64 5, .int .i64 7, .int .i64 11]) G77.out (by kernel_rfl) (bs_p3 rfl) ?_
            intro g0 W78 hD hB
            have G78 := Lib.hid hD
            clear hD hB
            refine hK.out _ _ trivial (fun hHeld => ?_)
            clear hK Kc
            try simp only [Act.put, List.getElem_toArray, List.getElem_cons_succ, List.getElem_cons_zero, List.setIfInBounds_toArray, List.set_cons_zero, List.set_cons_succ]
            refine wpAnyH_take (i := 3) (v := ?_) rfl (by kernel_rfl) (by kernel_rfl) (by kernel_rfl) (fun _ _ _ h => h) (Or.inl ⟨by kernel_rfl, ?_⟩) (by assumption) ?_
            rotate_left
            · (intro w hSw; (try dsimp only at hSw); (try go_split_ands); go_simp; (try with_reducible rfl))
            try simp only [Act.put, List.getElem_toArray, List.getElem_cons_succ, List.getElem_cons_zero, List.setIfInBounds_toArray, List.set_cons_zero, List.set_cons_succ]
            refine wpAnyH_mono (T := (fun W : World => W.cell? ⟨g0, r0, none⟩ = some (.int .i64 ((p3 r0 : Nat) : Int)) ∧ True)) (fun W hW => hW.2) _ _ _ _ ?_
            replace hHeld := (show (fun W : World => W.cell? ⟨g0, r0, none⟩ = some (.int .i64 ((p3 r0 : Nat) : Int)) ∧ True) _ from ⟨p3_cell (G78.out.get 0 rfl) hr0, trivial⟩)
            refine wpAnyH_take (i := 4) (v := ?_) rfl (by kernel_rfl) (by kernel_rfl) (by kernel_rfl) (fun _ _ _ h => h) (Or.inl ⟨by kernel_rfl, ?_⟩) (by assumption) ?_
            rotate_left
            · (intro w hSw; (try dsimp only at hSw); (try go_split_ands); go_simp; (try with_reducible rfl))
            try simp only [Act.put, List.getElem_toArray, List.getElem_cons_succ, List.getElem_cons_zero, List.setIfInBounds_toArray, List.set_cons_zero, List.set_cons_succ]
            refine wpAnyH_ready (rs := [9]) (by kernel_rfl) (by simp) ?_
            refine AllReadyH.cons rfl (fun Kc hK => ?_) AllReadyH.nil
            refine step_fn en_next #[.pointer (some ⟨d, 0, none⟩), .int .i64 2] (by kernel_rfl) rfl (by kernel_rfl) ?_
            refine (k_Next d 2 _ G78.out.dc (by omega) (by omega)).mono ?_
            rintro e v79 ⟨r2, hr2, rfl, hd, hg⟩
            refine ⟨_, rfl, ?_⟩
            have G79 := Lib.hid (G78.out.call hd hg)
            clear hd hg
            have zr2 : (r2 : Int) < 2 := by omega
            have yr2 : (0 : Int) ≤ (r2 : Int) := by omega
            have ur2 : IntKind.i64.wrap (3 + (r2 : Int)) = 3 + (r2 : Int) := wraps_i64_63 _ (by omega) (by omega)
            refine hK.out _ _ ⟨p3_cell (G79.out.get 0 rfl) hr0, trivial⟩ (fun hHeld => ?_)
            clear hK Kc
            try simp only [Act.put, List.getElem_toArray, List.getElem_cons_succ, List.getElem_cons_zero, List.setIfInBounds_toArray, List.set_cons_zero, List.set_cons_succ]
            refine wpAnyH_take (i := 10) (v := ?_) rfl (by kernel_rfl) (by kernel_rfl) (by kernel_rfl) (fun _ _ _ h => h) (Or.inl ⟨by kernel_rfl, ?_⟩) (by assumption) ?_
            rotate_left
            · (intro w hSw; (try dsimp only at hSw); (try go_split_ands); go_simp; (try with_reducible rfl))
            try simp only [Act.put, List.getElem_toArray, List.getElem_cons_succ, List.getElem_cons_zero, List.setIfInBounds_toArray, List.set_cons_zero, List.set_cons_succ]
            refine wpAnyH_take (i := 11) (v := ?_) rfl (by kernel_rfl) (by kernel_rfl) (by kernel_rfl) (fun _ _ _ h => h) (Or.inl ⟨by kernel_rfl, ?_⟩) (by assumption) ?_
            rotate_left
            · (intro w hSw; (try dsimp only at hSw); (try go_split_ands); go_simp; (try with_reducible rfl))
            try simp only [Act.put, List.getElem_toArray, List.getElem_cons_succ, List.getElem_cons_zero, List.setIfInBounds_toArray, List.set_cons_zero, List.set_cons_succ]
            refine wpAnyH_ready (rs := [13]) (by kernel_rfl) (by simp) ?_
            refine AllReadyH.cons rfl (fun Kc hK => ?_) AllReadyH.nil
            refine step_skipE _ (by kernel_rfl) (st_plan (p := ((p3 r0 : Nat) : Int)) (q := 2 + (r1 : Int)) (r := 3 + (r2 : Int)) rfl (by kernel_rfl) (by kernel_rfl) (G79.out.get 1 rfl)) ?_
            intro W6 hW6
            have h6 := (((G79.out.set 1 rfl 0 (.int .i64 ((p3 r0 : Nat) : Int))).set 1 rfl 1 (.int .i64 (2 + (r1 : Int)))).set 1 rfl 2 (.int .i64 (3 + (r2 : Int))))
            rw [← hW6] at h6
            have G80 := Lib.hid h6
            clear h6 hW6
            refine hK.out _ _ ⟨p3_cell (G80.out.get 0 rfl) hr0, trivial⟩ (fun hHeld => ?_)
            clear hK Kc
            try simp only [Act.put, List.getElem_toArray, List.getElem_cons_succ, List.getElem_cons_zero, List.setIfInBounds_toArray, List.set_cons_zero, List.set_cons_succ]
            refine wpAnyH_done (by kernel_rfl) ?_ _
            (try go_wp2_with fail)
            go_meet
            exact pwA_end HOLD.out hdl G80.out 1 rfl hr0 hr1 hr2
          · refine step_fn en_next #[.pointer (some ⟨d, 0, none⟩), .int .i64 2] (by kernel_rfl) rfl (by kernel_rfl) ?_
            refine (k_Next d 2 _ G77.out.dc (by omega) (by omega)).mono ?_
            rintro e v81 ⟨r2, hr2, rfl, hd, hg⟩
            refine ⟨_, rfl, ?_⟩
            have G81 := Lib.hid (G77.out.call hd hg)
            clear hd hg
            have zr2 : (r2 : Int) < 2 := by omega
            have yr2 : (0 : Int) ≤ (r2 : Int) := by omega
            have ur2 : IntKind.i64.wrap (3 + (r2 : Int)) = 3 + (r2 : Int) := wraps_i64_63 _ (by omega) (by omega)
            refine hK.out _ _ trivial (fun hHeld => ?_)
            clear hK Kc
            try simp only [Act.put, List.getElem_toArray, List.getElem_cons_succ, List.getElem_cons_zero, List.setIfInBounds_toArray, List.set_cons_zero, List.set_cons_succ]
            refine wpAnyH_take (i := 10) (v := ?_) rfl (by kernel_rfl) (by kernel_rfl) (by kernel_rfl) (fun _ _ _ h => h) (Or.inl ⟨by kernel_rfl, ?_⟩) (by assumption) ?_
            rotate_left
            · (intro w hSw; (try dsimp only at hSw); (try go_split_ands); go_simp; (try with_reducible rfl))
            try simp only [Act.put, List.getElem_toArray, List.getElem_cons_succ, List.getElem_cons_zero, List.setIfInBounds_toArray, List.set_cons_zero, List.set_cons_succ]
            refine wpAnyH_ready (rs := [0]) (by kernel_rfl) (by simp) ?_
            refine AllReadyH.cons rfl (fun Kc hK => ?_) AllReadyH.nil
            refine step_alE (mk := (fun g => .slice (some ⟨g, 0, none⟩) 3 3)) (t := 3) (cs := #[.int .i64 5, .int .i64 7, .int .i64 11]) G81.out (by kernel_rfl) (bs_p3 rfl) ?_
            intro g0 W82 hD hB
            have G82 := Lib.hid hD
            clear hD hB
            refine hK.out _ _ trivial (fun hHeld => ?_)
            clear hK Kc
            try simp only [Act.put, List.getElem_toArray, List.getElem_cons_succ, List.getElem_cons_zero, List.setIfInBounds_toArray, List.set_cons_zero, List.set_cons_succ]
            refine wpAnyH_take (i := 3) (v := ?_) rfl (by kernel_rfl) (by kernel_rfl) (by kernel_rfl) (fun _ _ _ h => h) (Or.inl ⟨by kernel_rfl, ?_⟩) (by assumption) ?_
            rotate_left
            · (intro w hSw; (try dsimp only at hSw); (try go_split_ands); go_simp; (try with_reducible rfl))
            try simp only [Act.put, List.getElem_toArray, List.getElem_cons_succ, List.getElem_cons_zero, List.setIfInBounds_toArray, List.set_cons_zero, List.set_cons_succ]
            refine wpAnyH_mono (T := (fun W : World => W.cell? ⟨g0, r0, none⟩ = some (.int .i64 ((p3 r0 : Nat) : Int)) ∧ True)) (fun W hW => hW.2) _ _ _ _ ?_
            replace hHeld := (show (fun W : World => W.cell? ⟨g0, r0, none⟩ = some (.int .i64 ((p3 r0 : Nat) : Int)) ∧ True) _ from ⟨p3_cell (G82.out.get 0 rfl) hr0, trivial⟩)
            refine wpAnyH_take (i := 4) (v := ?_) rfl (by kernel_rfl) (by kernel_rfl) (by kernel_rfl) (fun _ _ _ h => h) (Or.inl ⟨by kernel_rfl, ?_⟩) (by assumption) ?_
            rotate_left
            · (intro w hSw; (try dsimp only at hSw); (try go_split_ands); go_simp; (try with_reducible rfl))
            try simp only [Act.put, List.getElem_toArray, List.getElem_cons_succ, List.getElem_cons_zero, List.setIfInBounds_toArray, List.set_cons_zero, List.set_cons_succ]
            refine wpAnyH_take (i := 11) (v := ?_) rfl (by kernel_rfl) (by kernel_rfl) (by kernel_rfl) (fun _ _ _ h => h) (Or.inl ⟨by kernel_rfl, ?_⟩) (by assumption) ?_
            rotate_left
            · (intro w hSw; (try dsimp only at hSw); (try go_split_ands); go_simp; (try with_reducible rfl))
            try simp only [Act.put, List.getElem_toArray, List.getElem_cons_succ, List.getElem_cons_zero, List.setIfInBounds_toArray, List.set_cons_zero, List.set_cons_succ]
            refine wpAnyH_ready (rs := [13]) (by kernel_rfl) (by simp) ?_
            refine AllReadyH.cons rfl (fun Kc hK => ?_) AllReadyH.nil
            refine step_skipE _ (by kernel_rfl) (st_plan (p := ((p3 r0 : Nat) : Int)) (q := 2 + (r1 : Int)) (r := 3 + (r2 : Int)) rfl (by kernel_rfl) (by kernel_rfl) (G82.out.get 1 rfl)) ?_
            intro W6 hW6
            have h6 := (((G82.out.set 1 rfl 0 (.int .i64 ((p3 r0 : Nat) : Int))).set 1 rfl 1 (.int .i64 (2 + (r1 : Int)))).set 1 rfl 2 (.int .i64 (3 + (r2 : Int))))
            rw [← hW6] at h6
            have G83 := Lib.hid h6
            clear h6 hW6
            refine hK.out _ _ ⟨p3_cell (G83.out.get 0 rfl) hr0, trivial⟩ (fun hHeld => ?_)
            clear hK Kc
            try simp only [Act.put, List.getElem_toArray, List.getElem_cons_succ, List.getElem_cons_zero, List.setIfInBounds_toArray, List.set_cons_zero, List.set_cons_succ]
            refine wpAnyH_done (by kernel_rfl) ?_ _
            (try go_wp2_with fail)
            go_meet
            exact pwA_end HOLD.out hdl G83.out 1 rfl hr0 hr1 hr2
  case rest =>
    obtain ⟨tb, p, b, c', rfl, hp, hb, hc, hk⟩ := hcut
    have HK := Lib.hid hk
    have c0 := hk.c0
    have c1 := hk.c1
    have f1 := hk.f1
    clear hk
    go_upto_if 49 with fail
    go_cut [4] from 50 to 50 (fun x wx => PwB w d x wx)
    case first =>
      by_cases h11 : p = 11
      · subst h11
        have hset := HK.out.set 2
        have HSET := Lib.hid hset
        clear hset
        go_wp2_with fail
        go_meet
        exact ⟨tb, 11, 1, 3 + c', rfl, ⟨.inr (.inr rfl), .inl rfl, fun _ => rfl⟩, by omega, HSET.out⟩
      · have t11 : ((p : Int) == 11) = false := by simp; omega
        have t11' : ¬ (p : Int) = 11 := by omega
        go_wp2_with fail
        go_meet
        exact ⟨tb, p, 1 + b, 3 + c', rfl, ⟨by omega, by omega, fun h => absurd h h11⟩, by omega, by have := HK.out; rwa [show 2 + b = 1 + b + 1 by omega] at this⟩
    case rest =>
      clear HK c0 c1 f1 hp hb hc
      obtain ⟨tb, p, k, hold, rfl, hpk, hh, hk⟩ := hcut
      have HK := Lib.hid hk
      have c1 := hk.c1
      have hpl := hpk.lt
      have HPK := Lib.hid hpk
      clear hk hpk
      go_wp2_with fail
      refine (k_Next d (k + 1) _ HK.out.dc (by omega) (by omega)).mono ?_
      rintro e w2 ⟨sz, hsz, rfl, hd2, hg2⟩
      have HK2 := Lib.hid (HK.out.dice hd2 hg2)
      have c2 := HK2.out.c2
      have hsz2 : sz ≤ 2 := by omega
      clear hd2 hg2 c1
      clear HK
      have HK := HK2
      clear HK2
      have e1 : (1 : Int) + (sz : Int) - 1 = (sz : Int) := by omega
      go_wp2_with fail
      clear e1
      go_loopw [6, 7] (fun x t wr => ∃ H : List Int, PwR wr tb x H ∧ PwH hold sz H ∧ t = .int .i64 (nextH H) ∧ PwK w wr d tb p (k + 1) hold) (fun x _ _ => sz - vlen x)
      case atStart => exact ⟨[], ⟨World.ownsRow_nil _ _ _ _⟩, PwH.nil _ _, rfl, HK.out⟩
      case round =>
        obtain ⟨H, hrow, hH, rfl, hkr⟩ := hrel
        rename World => wr
        obtain ⟨A6, c6, rfl, -⟩ := hrow.form
        have HROW := Lib.hid hrow
        have HH := Lib.hid hH
        have HKR := Lib.hid hkr
        have hHl := hH.1
        have hnx := nextH_bd hH
        clear hrow hH hkr HK c2
        obtain ⟨j, hj⟩ : ∃ j, H.length = j := ⟨_, rfl⟩
        rw [hj] at hHl hnx ⊢
        have HJ := Lib.hid hj
        by_cases hlt : j < sz
        · obtain ⟨i0, hi, hz0, hz1, hz2⟩ := info_parts infoI
          have zj : (j : Int) < (sz : Int) := by omega
          obtain ⟨m, hm⟩ : ∃ m, hold - sz = m := ⟨_, rfl⟩
          have hm4 : m ≤ 4 := by omega
          have hwm : IntKind.i64.wrap ((hold : Int) - (sz : Int)) = (m : Int) := by rw [show (hold : Int) - (sz : Int) = (m : Int) by omega]; exact wraps_i64_63 _ (by omega) (by omega)
          rw [hm] at hnx
          have hsn := fun f hf => HH.out.snoc (f := f) (by rw [hj]; exact hlt) hf
          rw [hm] at hsn
          have HSN := Lib.hid hsn
          obtain ⟨nx, hnxe⟩ : ∃ nx, nextH H = nx := ⟨_, rfl⟩
          rw [hnxe] at hnx ⊢
          have HNX := Lib.hid hnxe
          have hrw := HROW.out.row
          rw [hj] at hrw
          have HRW := Lib.hid hrw
          have HM := Lib.hid hm
          have hjm : (j : Int) * ((m / 2 : Nat) : Int) ≤ 2 * 2 := by
            have : j * (m / 2) ≤ 2 * 2 := Nat.mul_le_mul (by omega) (by omega)
            rw [← Int.natCast_mul]; omega
          have hn1 : 1 ≤ nx := hnx.1
          have hn2 : nx ≤ 10 := by have := hnx.2; omega
          have c2 := HKR.out.c2
          have c2d := HKR.out.drew.c2
          clear hj hm hsn hnxe hrw hnx hjm HPK
          go_wp2_with fail
          go_region_law (first
            | ((try go_simp)
               go_at_call 8
               refine (k_Next d 2 _ HKR.out.drew.dc (by omega) (by omega)).mono ?_
               rintro e w3 ⟨b, hb, rfl, hd3, hg3⟩
               have HK3 := Lib.hid (HKR.out.drew.dice hd3 hg3)
               have HR3 := Lib.hid (HROW.out.dice (W' := w3) (d := d) ⟨hg3.os, hg3.tape, hg3.output, hg3.size, hg3.block⟩ (Nat.le_of_lt HK3.out.lt))
               have c3 := HK3.out.c2
               obtain ⟨q, hq⟩ : ∃ q, b * m = q := ⟨_, rfl⟩
               have hq4 : q ≤ 4 := by rw [← hq]; exact Nat.le_trans (Nat.mul_le_mul (show b ≤ 1 by omega) hm4) (by omega)
               have qf : q / 2 ≤ m / 2 := Nat.div_le_div_right (by rw [← hq]; exact Nat.le_trans (Nat.mul_le_mul_right m (show b ≤ 1 by omega)) (by omega))
               have w71 : IntKind.i64.wrap ((b : Int) * (m : Int)) = (q : Int) := by rw [← Int.natCast_mul, hq]; exact wraps_i64_63 _ (by omega) (by omega)
               obtain ⟨f, hf⟩ : ∃ f, q / 2 = f := ⟨_, rfl⟩
               have w72 : (q : Int).tdiv 2 = (f : Int) := by rw [← hf, Int.tdiv_eq_ediv_of_nonneg (by omega)]; rfl
               rw [hf] at qf
               have hf2 : f ≤ 2 := by omega
               have wf : IntKind.i64.wrap (f : Int) = (f : Int) := wraps_i64_63 _ (by omega) (by omega)
               obtain ⟨v, hv⟩ : ∃ v, nx + (f : Int) = v := ⟨_, rfl⟩
               have w73 : IntKind.i64.wrap (nx + (f : Int)) = v := by rw [hv]; exact wraps_i64_63 _ (by omega) (by omega)
               have hv2 : 1 ≤ v ∧ v ≤ 12 := by omega
               have QF := Lib.hid qf
               have HV := Lib.hid hv
               have hrw3 := HR3.out.row
               rw [HJ.out] at hrw3
               have HRW3 := Lib.hid hrw3
               clear hd3 hg3 hq qf hf hv hrw3)
            | (refine step_append_lies _ (by rfl) _ _ _ (by rfl) (tb + 1) 3 i0 _ 1 8 Tryz.underlying22 hi hz0 hz1 hz2 rfl (by omega) (.slice A6 j c6) j (H.map (Value.int .i64)) (by rfl) (HRW3.out.alloc _) ⟨w3.heap.size, 0, none⟩ 1 1 [.int .i64 v] (by rfl) (by rfl) (World.news_of_block (cs := #[.int .i64 v]) (t := 3) (fr := (0, 0)) (heap_alloc_new w3 _)) (ints_oneCell .i64 [_]) (by omega) (by simp only [maxLen]; omega) (by omega) (by have := HK3.out.pl.lt; simp; omega) (w3.heap.size + 1) (by simp) ?_
               intro g1 cap1 w4 hown hgrow hat hlt))
          all_goals
            have hg4 := grown_past hgrow
            obtain ⟨hH', hn'⟩ := HSN.out f QF.out
            rw [HNX.out, HV.out] at hH' hn'
            have hr' : PwR w4 tb (.slice (some ⟨g1, 0, none⟩) (j + 1) cap1) (H ++ [v]) := ⟨by rw [List.length_append, List.length_singleton, HJ.out, List.map_append]; exact hown⟩
            have hgt : ∀ q, (Value.slice A6 j c6).ownBlock = some q → tb < q ∧ q < w3.heap.size := fun q hq => ⟨(HRW3.out.lt q hq).1, (HRW3.out.lt q hq).2⟩
            have hk4 := HK3.out.grown hg4 hgt
            have hcl : w4.cell? ⟨g1, j, none⟩ = some (.int .i64 v) := by
              have h1 := hown.cells (g := g1) rfl j (.int .i64 v) (by rw [List.getElem?_append_right (by rw [List.length_map, HJ.out]; exact Nat.le_refl _), List.length_map, HJ.out, Nat.sub_self]; rfl)
              have ha : (⟨g1, 0, none⟩ : Addr).add j = ⟨g1, j, none⟩ := by unfold Addr.add; split <;> simp_all
              rwa [ha] at h1
            have HR4 := Lib.hid hr'
            have HH4 := Lib.hid hH'
            have HN4 := Lib.hid hn'
            have HK4 := Lib.hid hk4
            have zz1 : (0 : Int) ≤ (j : Int) := by omega
            clear hg4 hH' hn' hr' hgt hk4 hown hgrow hat hlt w71 w72 w73 wf hwm
            go_wp2_with fail
            go_roundw
            case measure => show sz - (j + 1) < sz - j; omega
            case rel => exact ⟨H ++ [v], HR4.out, HH4.out, by rw [HN4.out], HK4.out⟩
        · have hjs : j = sz := by omega
          subst hjs
          have zj : ¬ (j : Int) < (j : Int) := by omega
          have HD4 := Lib.hid (DrS.start HKR.out.dc).drew
          have PHD4 := Lib.hid HKR.out.drew
          have HPR := Lib.hid HPK.out.prm
          have wk2 : IntKind.i64.wrap (k : Int) = (k : Int) := wraps_i64_63 _ (by omega) (by omega)
          have wk : IntKind.i64.wrap ((k : Int) + 1 - 1) = (k : Int) := by rw [show (k : Int) + 1 - 1 = (k : Int) by omega]; exact wraps_i64_63 _ (by omega) (by omega)
          have hrj : PwR wr tb (.slice A6 j c6) H := by have := HROW.out; rwa [hj] at this
          clear HROW
          have HROW := Lib.hid hrj
          clear hj hnx hrj
          go_upto_region 14 with fail
          go_cut [8, 9] from 82 to 99 (fun x y wx => PwC w d tb p k hold (.slice A6 j c6) H x y wx)
          case first =>
            refine wp_region_held_drew (S := (fun W : World => W.cell? ⟨tb, 0, none⟩ = some (.int .i64 (p : Int)) ∧ W.cell? ⟨tb, 1, none⟩ = some (.int .i64 ((k : Int) + 1)) ∧ W.cell? ⟨tb, 2, none⟩ = some (.int .i64 (hold : Int)) ∧ True)) hmx ⟨PHD4.out.c0, PHD4.out.c1k, PHD4.out.c2, trivial⟩ (fun hHeld => ?_)
            refine wpAnyH_take (i := 0) (v := ?_) rfl (by kernel_rfl) (by kernel_rfl) (by kernel_rfl) (fun _ _ _ h => h) (Or.inl ⟨by kernel_rfl, ?_⟩) (by assumption) ?_
            rotate_left
            · (intro w hSw; (try dsimp only at hSw); (try go_split_ands); go_simp; (try with_reducible rfl))
            try simp only [Act.put, List.getElem_toArray, List.getElem_cons_succ, List.getElem_cons_zero, List.setIfInBounds_toArray, List.set_cons_zero, List.set_cons_succ]
            refine wpAnyH_take (i := 1) (v := ?_) rfl (by kernel_rfl) (by kernel_rfl) (by kernel_rfl) (fun _ _ _ h => h) (Or.inl ⟨by kernel_rfl, ?_⟩) (by assumption) ?_
            rotate_left
            · (intro w hSw; (try dsimp only at hSw); (try go_split_ands); go_simp; (try with_reducible rfl))
            try simp only [Act.put, List.getElem_toArray, List.getElem_cons_succ, List.getElem_cons_zero, List.setIfInBounds_toArray, List.set_cons_zero, List.set_cons_succ]
            refine wpAnyH_take (i := 2) (v := ?_) rfl (by kernel_rfl) (by kernel_rfl) (by kernel_rfl) (fun _ _ _ h => h) (Or.inl ⟨by kernel_rfl, ?_⟩) (by assumption) ?_
            rotate_left
            · (intro w hSw; (try dsimp only at hSw); (try go_split_ands); go_simp; (try with_reducible rfl))
            try simp only [Act.put, List.getElem_toArray, List.getElem_cons_succ, List.getElem_cons_zero, List.setIfInBounds_toArray, List.set_cons_zero, List.set_cons_succ]
            refine wpAnyH_take (i := 3) (v := ?_) rfl (by kernel_rfl) (by kernel_rfl) (by kernel_rfl) (fun _ _ _ h => h) (Or.inl ⟨by kernel_rfl, ?_⟩) (by assumption) ?_
            rotate_left
            · (intro w hSw; (try dsimp only at hSw); (try go_split_ands); go_simp; (try with_reducible rfl))
            try simp only [Act.put, List.getElem_toArray, List.getElem_cons_succ, List.getElem_cons_zero, List.setIfInBounds_toArray, List.set_cons_zero, List.set_cons_succ]
            refine wpAnyH_take (i := 6) (v := ?_) rfl (by kernel_rfl) (by kernel_rfl) (by kernel_rfl) (fun _ _ _ h => h) (Or.inl ⟨by kernel_rfl, ?_⟩) (by assumption) ?_
            rotate_left
            · (intro w hSw; (try dsimp only at hSw); (try go_split_ands); go_simp; (try with_reducible rfl))
            try simp only [Act.put, List.getElem_toArray, List.getElem_cons_succ, List.getElem_cons_zero, List.setIfInBounds_toArray, List.set_cons_zero, List.set_cons_succ]
            refine wpAnyH_take (i := 7) (v := ?_) rfl (by kernel_rfl) (by kernel_rfl) (by kernel_rfl) (fun _ _ _ h => h) (Or.inl ⟨by kernel_rfl, ?_⟩) (by assumption) ?_
            rotate_left
            · (intro w hSw; (try dsimp only at hSw); (try go_split_ands); go_simp; (try with_reducible rfl))
            try simp only [Act.put, List.getElem_toArray, List.getElem_cons_succ, List.getElem_cons_zero, List.setIfInBounds_toArray, List.set_cons_zero, List.set_cons_succ]
            refine wpAnyH_take (i := 8) (v := ?_) rfl (by kernel_rfl) (by kernel_rfl) (by kernel_rfl) (fun _ _ _ h => h) (Or.inl ⟨by kernel_rfl, ?_⟩) (by assumption) ?_
            rotate_left
            · (intro w hSw; (try dsimp only at hSw); (try go_split_ands); go_simp; (try with_reducible rfl))
            try simp only [Act.put, List.getElem_toArray, List.getElem_cons_succ, List.getElem_cons_zero, List.setIfInBounds_toArray, List.set_cons_zero, List.set_cons_succ]
            refine wpAnyH_take (i := 10) (v := ?_) rfl (by kernel_rfl) (by kernel_rfl) (by kernel_rfl) (fun _ _ _ h => h) (Or.inl ⟨by kernel_rfl, ?_⟩) (by assumption) ?_
            rotate_left
            · (intro w hSw; (try dsimp only at hSw); (try go_split_ands); go_simp; (try with_reducible rfl))
            try simp only [Act.put, List.getElem_toArray, List.getElem_cons_succ, List.getElem_cons_zero, List.setIfInBounds_toArray, List.set_cons_zero, List.set_cons_succ]
            refine wpAnyH_take (i := 11) (v := ?_) rfl (by kernel_rfl) (by kernel_rfl) (by kernel_rfl) (fun _ _ _ h => h) (Or.inl ⟨by kernel_rfl, ?_⟩) (by assumption) ?_
            rotate_left
            · (intro w hSw; (try dsimp only at hSw); (try go_split_ands); go_simp; (try with_reducible rfl))
            try simp only [Act.put, List.getElem_toArray, List.getElem_cons_succ, List.getElem_cons_zero, List.setIfInBounds_toArray, List.set_cons_zero, List.set_cons_succ]
            refine wpAnyH_take (i := 12) (v := ?_) rfl (by kernel_rfl) (by kernel_rfl) (by kernel_rfl) (fun _ _ _ h => h) (Or.inl ⟨by kernel_rfl, ?_⟩) (by assumption) ?_
            rotate_left
            · (intro w hSw; (try dsimp only at hSw); (try go_split_ands); go_simp; (try with_reducible rfl))
            try simp only [Act.put, List.getElem_toArray, List.getElem_cons_succ, List.getElem_cons_zero, List.setIfInBounds_toArray, List.set_cons_zero, List.set_cons_succ]
            refine wpAnyH_ready (rs := [4]) (by kernel_rfl) (by simp) ?_
            refine AllReadyH.cons rfl (fun Kc hK => ?_) AllReadyH.nil
            refine step_fn en_next #[.pointer (some ⟨d, 0, none⟩), .int .i64 (p : Int)] (by kernel_rfl) rfl (by kernel_rfl) ?_
            refine (k_Next d p _ HD4.out.dc (by omega) (by omega)).mono ?_
            rintro e v1 ⟨x0, hx0, rfl, hd, hg⟩
            refine ⟨_, rfl, ?_⟩
            have G1 := Lib.hid (HD4.out.call hd hg)
            have PG1 := Lib.hid (PHD4.out.dice hd hg)
            clear hd hg
            refine hK.out _ _ ⟨PG1.out.c0, PG1.out.c1k, PG1.out.c2, trivial⟩ (fun hHeld => ?_)
            clear hK Kc
            try simp only [Act.put, List.getElem_toArray, List.getElem_cons_succ, List.getElem_cons_zero, List.setIfInBounds_toArray, List.set_cons_zero, List.set_cons_succ]
            refine wpAnyH_ready (rs := [5, 9]) (by kernel_rfl) (by simp) ?_
            refine AllReadyH.cons rfl (fun Kc hK => ?_) (AllReadyH.cons rfl (fun Kc hK => ?_) AllReadyH.nil)
            · refine step_alE (mk := (fun g => .slice (some ⟨g, 0, none⟩) 1 1)) (t := 3) (cs := #[.int .i64 ((x0 : Nat) : Int)]) G1.out (by kernel_rfl) (bs_one (x := ((x0 : Nat) : Int)) rfl (by kernel_rfl)) ?_
              intro g5 W2 hD hB
              have G2 := Lib.hid hD
              have PG2 := Lib.hid (PG1.out.below hB)
              (try have HF := Lib.hid (HF.out.up hB))
              clear hD hB
              refine hK.out _ _ ⟨PG2.out.c0, PG2.out.c1k, PG2.out.c2, trivial⟩ (fun hHeld => ?_)
              clear hK Kc
              try simp only [Act.put, List.getElem_toArray, List.getElem_cons_succ, List.getElem_cons_zero, List.setIfInBounds_toArray, List.set_cons_zero, List.set_cons_succ]
              refine wpAnyH_ready (rs := [9]) (by kernel_rfl) (by simp) ?_
              refine AllReadyH.cons rfl (fun Kc hK => ?_) AllReadyH.nil
              refine step_fn en_next #[.pointer (some ⟨d, 0, none⟩), .int .i64 100] (by kernel_rfl) rfl (by kernel_rfl) ?_
              refine (k_Next d 100 _ G2.out.dc (by omega) (by omega)).mono ?_
              rintro e v3 ⟨r9, hr9, rfl, hd, hg⟩
              refine ⟨_, rfl, ?_⟩
              have G3 := Lib.hid (G2.out.call hd hg)
              have PG3 := Lib.hid (PG2.out.dice hd hg)
              clear hd hg
              refine hK.out _ _ ⟨PG3.out.c0, PG3.out.c1k, PG3.out.c2, trivial⟩ (fun hHeld => ?_)
              clear hK Kc
              try simp only [Act.put, List.getElem_toArray, List.getElem_cons_succ, List.getElem_cons_zero, List.setIfInBounds_toArray, List.set_cons_zero, List.set_cons_succ]
              refine wpAnyH_ready (rs := [13]) (by kernel_rfl) (by simp) ?_
              refine AllReadyH.cons rfl (fun Kc hK => ?_) AllReadyH.nil
              refine step_fn en_fill #[.int .i64 (p : Int), .int .i64 (r9 : Int), .int .i64 (k : Int)] (by kernel_rfl) rfl (by kernel_rfl) ?_
              refine (y_Fill p k (r9 : Int) _ (by omega) (by omega) (by omega)).mono ?_
              rintro e v4 ⟨vf, rfl, hvf, hbx⟩
              refine ⟨_, rfl, ?_⟩
              have G4 := Lib.hid (G3.out.below hbx)
              have PG4 := Lib.hid (PG3.out.below hbx)
              have HF := Lib.hid (ints_below hvf)
              clear hbx hvf
              refine hK.out _ _ ⟨PG4.out.c0, PG4.out.c1k, PG4.out.c2, trivial⟩ (fun hHeld => ?_)
              clear hK Kc
              try simp only [Act.put, List.getElem_toArray, List.getElem_cons_succ, List.getElem_cons_zero, List.setIfInBounds_toArray, List.set_cons_zero, List.set_cons_succ]
              refine wpAnyH_ready (rs := [14]) (by kernel_rfl) (by simp) ?_
              refine AllReadyH.cons rfl (fun Kc hK => ?_) AllReadyH.nil
              refine step_fn en_deal #[.agg #[.int .i64 (p : Int), .int .i64 ((k : Int) + 1), .int .i64 (hold : Int)], .slice (some ⟨g5, 0, none⟩) 1 1, vf] (by kernel_rfl) rfl (by kernel_rfl) ?_
              refine (r_Deal p k hold [((x0 : Nat) : Int)] (fillL p ((r9 : Int) % (p : Int)).toNat k) (.slice (some ⟨g5, 0, none⟩) 1 1) vf _ HPR.out (by omega) (by omega) (by omega) (by omega) (IntsAt.blk (xs := [((x0 : Nat) : Int)]) (G4.out.get 0 rfl) (G4.out.get 0 rfl).lt) HF.out (inF_one hx0) (fillL_in p _ k (by omega)) (by show 1 ≤ 2048; omega) (by rw [fillL_len, List.length_singleton, Nat.one_mul])).mono ?_
              rintro e v5 ⟨vd, rfl, hod, hbx⟩
              refine ⟨_, rfl, ?_⟩
              have G5 := Lib.hid (G4.out.below hbx)
              have PE := Lib.hid (pwC_end hx0 (fillL_len p _ k) HROW.out PG4.out G4.out.fromDrew hod hbx)
              have PG5 := Lib.hid (PG4.out.below hbx)
              clear hbx hod
              refine hK.out _ _ ⟨PG5.out.c0, PG5.out.c1k, PG5.out.c2, trivial⟩ (fun hHeld => ?_)
              clear hK Kc
              try simp only [Act.put, List.getElem_toArray, List.getElem_cons_succ, List.getElem_cons_zero, List.setIfInBounds_toArray, List.set_cons_zero, List.set_cons_succ]
              refine wpAnyH_take (i := 15) (v := ?_) rfl (by kernel_rfl) (by kernel_rfl) (by kernel_rfl) (fun _ _ _ h => h) (Or.inl ⟨by kernel_rfl, ?_⟩) (by assumption) ?_
              rotate_left
              · (intro w hSw; (try dsimp only at hSw); (try go_split_ands); go_simp; (try with_reducible rfl))
              try simp only [Act.put, List.getElem_toArray, List.getElem_cons_succ, List.getElem_cons_zero, List.setIfInBounds_toArray, List.set_cons_zero, List.set_cons_succ]
              refine wpAnyH_take (i := 16) (v := ?_) rfl (by kernel_rfl) (by kernel_rfl) (by kernel_rfl) (fun _ _ _ h => h) (Or.inl ⟨by kernel_rfl, ?_⟩) (by assumption) ?_
              rotate_left
              · (intro w hSw; (try dsimp only at hSw); (try go_split_ands); go_simp; (try with_reducible rfl))
              try simp only [Act.put, List.getElem_toArray, List.getElem_cons_succ, List.getElem_cons_zero, List.setIfInBounds_toArray, List.set_cons_zero, List.set_cons_succ]
              refine wpAnyH_take (i := 17) (v := ?_) rfl (by kernel_rfl) (by kernel_rfl) (by kernel_rfl) (fun _ _ _ h => h) (Or.inl ⟨by kernel_rfl, ?_⟩) (by assumption) ?_
              rotate_left
              · (intro w hSw; (try dsimp only at hSw); (try go_split_ands); go_simp; (try with_reducible rfl))
              try simp only [Act.put, List.getElem_toArray, List.getElem_cons_succ, List.getElem_cons_zero, List.setIfInBounds_toArray, List.set_cons_zero, List.set_cons_succ]
              refine wpAnyH_take (i := 18) (v := ?_) rfl (by kernel_rfl) (by kernel_rfl) (by kernel_rfl) (fun _ _ _ h => h) (Or.inl ⟨by kernel_rfl, ?_⟩) (by assumption) ?_
              rotate_left
              · (intro w hSw; (try dsimp only at hSw); (try go_split_ands); go_simp; (try with_reducible rfl))
              try simp only [Act.put, List.getElem_toArray, List.getElem_cons_succ, List.getElem_cons_zero, List.setIfInBounds_toArray, List.set_cons_zero, List.set_cons_succ]
              refine wpAnyH_take (i := 19) (v := ?_) rfl (by kernel_rfl) (by kernel_rfl) (by kernel_rfl) (fun _ _ _ h => h) (Or.inl ⟨by kernel_rfl, ?_⟩) (by assumption) ?_
              rotate_left
              · (intro w hSw; (try dsimp only at hSw); (try go_split_ands); go_simp; (try with_reducible rfl))
              try simp only [Act.put, List.getElem_toArray, List.getElem_cons_succ, List.getElem_cons_zero, List.setIfInBounds_toArray, List.set_cons_zero, List.set_cons_succ]
              refine wpAnyH_done (by kernel_rfl) ?_ _
              (try go_wp2_with fail)
              go_meet
              exact PE.out
            · refine step_fn en_next #[.pointer (some ⟨d, 0, none⟩), .int .i64 100] (by kernel_rfl) rfl (by kernel_rfl) ?_
              refine (k_Next d 100 _ G1.out.dc (by omega) (by omega)).mono ?_
              rintro e v6 ⟨r9, hr9, rfl, hd, hg⟩
              refine ⟨_, rfl, ?_⟩
              have G6 := Lib.hid (G1.out.call hd hg)
              have PG6 := Lib.hid (PG1.out.dice hd hg)
              clear hd hg
              refine hK.out _ _ ⟨PG6.out.c0, PG6.out.c1k, PG6.out.c2, trivial⟩ (fun hHeld => ?_)
              clear hK Kc
              try simp only [Act.put, List.getElem_toArray, List.getElem_cons_succ, List.getElem_cons_zero, List.setIfInBounds_toArray, List.set_cons_zero, List.set_cons_succ]
              refine wpAnyH_ready (rs := [5, 13]) (by kernel_rfl) (by simp) ?_
              refine AllReadyH.cons rfl (fun Kc hK => ?_) (AllReadyH.cons rfl (fun Kc hK => ?_) AllReadyH.nil)
              · refine step_alE (mk := (fun g => .slice (some ⟨g, 0, none⟩) 1 1)) (t := 3) (cs := #[.int .i64 ((x0 : Nat) : Int)]) G6.out (by kernel_rfl) (bs_one (x := ((x0 : Nat) : Int)) rfl (by kernel_rfl)) ?_
                intro g5 W7 hD hB
                have G7 := Lib.hid hD
                have PG7 := Lib.hid (PG6.out.below hB)
                (try have HF := Lib.hid (HF.out.up hB))
                clear hD hB
                refine hK.out _ _ ⟨PG7.out.c0, PG7.out.c1k, PG7.out.c2, trivial⟩ (fun hHeld => ?_)
                clear hK Kc
                try simp only [Act.put, List.getElem_toArray, List.getElem_cons_succ, List.getElem_cons_zero, List.setIfInBounds_toArray, List.set_cons_zero, List.set_cons_succ]
                refine wpAnyH_ready (rs := [13]) (by kernel_rfl) (by simp) ?_
                refine AllReadyH.cons rfl (fun Kc hK => ?_) AllReadyH.nil
                refine step_fn en_fill #[.int .i64 (p : Int), .int .i64 (r9 : Int), .int .i64 (k : Int)] (by kernel_rfl) rfl (by kernel_rfl) ?_
                refine (y_Fill p k (r9 : Int) _ (by omega) (by omega) (by omega)).mono ?_
                rintro e v8 ⟨vf, rfl, hvf, hbx⟩
                refine ⟨_, rfl, ?_⟩
                have G8 := Lib.hid (G7.out.below hbx)
                have PG8 := Lib.hid (PG7.out.below hbx)
                have HF := Lib.hid (ints_below hvf)
                clear hbx hvf
                refine hK.out _ _ ⟨PG8.out.c0, PG8.out.c1k, PG8.out.c2, trivial⟩ (fun hHeld => ?_)
                clear hK Kc
                try simp only [Act.put, List.getElem_toArray, List.getElem_cons_succ, List.getElem_cons_zero, List.setIfInBounds_toArray, List.set_cons_zero, List.set_cons_succ]
                refine wpAnyH_ready (rs := [14]) (by kernel_rfl) (by simp) ?_
                refine AllReadyH.cons rfl (fun Kc hK => ?_) AllReadyH.nil
                refine step_fn en_deal #[.agg #[.int .i64 (p : Int), .int .i64 ((k : Int) + 1), .int .i64 (hold : Int)], .slice (some ⟨g5, 0, none⟩) 1 1, vf] (by kernel_rfl) rfl (by kernel_rfl) ?_
                refine (r_Deal p k hold [((x0 : Nat) : Int)] (fillL p ((r9 : Int) % (p : Int)).toNat k) (.slice (some ⟨g5, 0, none⟩) 1 1) vf _ HPR.out (by omega) (by omega) (by omega) (by omega) (IntsAt.blk (xs := [((x0 : Nat) : Int)]) (G8.out.get 0 rfl) (G8.out.get 0 rfl).lt) HF.out (inF_one hx0) (fillL_in p _ k (by omega)) (by show 1 ≤ 2048; omega) (by rw [fillL_len, List.length_singleton, Nat.one_mul])).mono ?_
                rintro e v9 ⟨vd, rfl, hod, hbx⟩
                refine ⟨_, rfl, ?_⟩
                have G9 := Lib.hid (G8.out.below hbx)
                have PE := Lib.hid (pwC_end hx0 (fillL_len p _ k) HROW.out PG8.out G8.out.fromDrew hod hbx)
                have PG9 := Lib.hid (PG8.out.below hbx)
                clear hbx hod
                refine hK.out _ _ ⟨PG9.out.c0, PG9.out.c1k, PG9.out.c2, trivial⟩ (fun hHeld => ?_)
                clear hK Kc
                try simp only [Act.put, List.getElem_toArray, List.getElem_cons_succ, List.getElem_cons_zero, List.setIfInBounds_toArray, List.set_cons_zero, List.set_cons_succ]
                refine wpAnyH_take (i := 15) (v := ?_) rfl (by kernel_rfl) (by kernel_rfl) (by kernel_rfl) (fun _ _ _ h => h) (Or.inl ⟨by kernel_rfl, ?_⟩) (by assumption) ?_
                rotate_left
                · (intro w hSw; (try dsimp only at hSw); (try go_split_ands); go_simp; (try with_reducible rfl))
                try simp only [Act.put, List.getElem_toArray, List.getElem_cons_succ, List.getElem_cons_zero, List.setIfInBounds_toArray, List.set_cons_zero, List.set_cons_succ]
                refine wpAnyH_take (i := 16) (v := ?_) rfl (by kernel_rfl) (by kernel_rfl) (by kernel_rfl) (fun _ _ _ h => h) (Or.inl ⟨by kernel_rfl, ?_⟩) (by assumption) ?_
                rotate_left
                · (intro w hSw; (try dsimp only at hSw); (try go_split_ands); go_simp; (try with_reducible rfl))
                try simp only [Act.put, List.getElem_toArray, List.getElem_cons_succ, List.getElem_cons_zero, List.setIfInBounds_toArray, List.set_cons_zero, List.set_cons_succ]
                refine wpAnyH_take (i := 17) (v := ?_) rfl (by kernel_rfl) (by kernel_rfl) (by kernel_rfl) (fun _ _ _ h => h) (Or.inl ⟨by kernel_rfl, ?_⟩) (by assumption) ?_
                rotate_left
                · (intro w hSw; (try dsimp only at hSw); (try go_split_ands); go_simp; (try with_reducible rfl))
                try simp only [Act.put, List.getElem_toArray, List.getElem_cons_succ, List.getElem_cons_zero, List.setIfInBounds_toArray, List.set_cons_zero, List.set_cons_succ]
                refine wpAnyH_take (i := 18) (v := ?_) rfl (by kernel_rfl) (by kernel_rfl) (by kernel_rfl) (fun _ _ _ h => h) (Or.inl ⟨by kernel_rfl, ?_⟩) (by assumption) ?_
                rotate_left
                · (intro w hSw; (try dsimp only at hSw); (try go_split_ands); go_simp; (try with_reducible rfl))
                try simp only [Act.put, List.getElem_toArray, List.getElem_cons_succ, List.getElem_cons_zero, List.setIfInBounds_toArray, List.set_cons_zero, List.set_cons_succ]
                refine wpAnyH_take (i := 19) (v := ?_) rfl (by kernel_rfl) (by kernel_rfl) (by kernel_rfl) (fun _ _ _ h => h) (Or.inl ⟨by kernel_rfl, ?_⟩) (by assumption) ?_
                rotate_left
                · (intro w hSw; (try dsimp only at hSw); (try go_split_ands); go_simp; (try with_reducible rfl))
                try simp only [Act.put, List.getElem_toArray, List.getElem_cons_succ, List.getElem_cons_zero, List.setIfInBounds_toArray, List.set_cons_zero, List.set_cons_succ]
                refine wpAnyH_done (by kernel_rfl) ?_ _
                (try go_wp2_with fail)
                go_meet
                exact PE.out
              · refine step_fn en_fill #[.int .i64 (p : Int), .int .i64 (r9 : Int), .int .i64 (k : Int)] (by kernel_rfl) rfl (by kernel_rfl) ?_
                refine (y_Fill p k (r9 : Int) _ (by omega) (by omega) (by omega)).mono ?_
                rintro e v10 ⟨vf, rfl, hvf, hbx⟩
                refine ⟨_, rfl, ?_⟩
                have G10 := Lib.hid (G6.out.below hbx)
                have PG10 := Lib.hid (PG6.out.below hbx)
                have HF := Lib.hid (ints_below hvf)
                clear hbx hvf
                refine hK.out _ _ ⟨PG10.out.c0, PG10.out.c1k, PG10.out.c2, trivial⟩ (fun hHeld => ?_)
                clear hK Kc
                try simp only [Act.put, List.getElem_toArray, List.getElem_cons_succ, List.getElem_cons_zero, List.setIfInBounds_toArray, List.set_cons_zero, List.set_cons_succ]
                refine wpAnyH_ready (rs := [5]) (by kernel_rfl) (by simp) ?_
                refine AllReadyH.cons rfl (fun Kc hK => ?_) AllReadyH.nil
                refine step_alE (mk := (fun g => .slice (some ⟨g, 0, none⟩) 1 1)) (t := 3) (cs := #[.int .i64 ((x0 : Nat) : Int)]) G10.out (by kernel_rfl) (bs_one (x := ((x0 : Nat) : Int)) rfl (by kernel_rfl)) ?_
                intro g5 W11 hD hB
                have G11 := Lib.hid hD
                have PG11 := Lib.hid (PG10.out.below hB)
                (try have HF := Lib.hid (HF.out.up hB))
                clear hD hB
                refine hK.out _ _ ⟨PG11.out.c0, PG11.out.c1k, PG11.out.c2, trivial⟩ (fun hHeld => ?_)
                clear hK Kc
                try simp only [Act.put, List.getElem_toArray, List.getElem_cons_succ, List.getElem_cons_zero, List.setIfInBounds_toArray, List.set_cons_zero, List.set_cons_succ]
                refine wpAnyH_ready (rs := [14]) (by kernel_rfl) (by simp) ?_
                refine AllReadyH.cons rfl (fun Kc hK => ?_) AllReadyH.nil
                refine step_fn en_deal #[.agg #[.int .i64 (p : Int), .int .i64 ((k : Int) + 1), .int .i64 (hold : Int)], .slice (some ⟨g5, 0, none⟩) 1 1, vf] (by kernel_rfl) rfl (by kernel_rfl) ?_
                refine (r_Deal p k hold [((x0 : Nat) : Int)] (fillL p ((r9 : Int) % (p : Int)).toNat k) (.slice (some ⟨g5, 0, none⟩) 1 1) vf _ HPR.out (by omega) (by omega) (by omega) (by omega) (IntsAt.blk (xs := [((x0 : Nat) : Int)]) (G11.out.get 0 rfl) (G11.out.get 0 rfl).lt) HF.out (inF_one hx0) (fillL_in p _ k (by omega)) (by show 1 ≤ 2048; omega) (by rw [fillL_len, List.length_singleton, Nat.one_mul])).mono ?_
                rintro e v12 ⟨vd, rfl, hod, hbx⟩
                refine ⟨_, rfl, ?_⟩
                have G12 := Lib.hid (G11.out.below hbx)
                have PE := Lib.hid (pwC_end hx0 (fillL_len p _ k) HROW.out PG11.out G11.out.fromDrew hod hbx)
                have PG12 := Lib.hid (PG11.out.below hbx)
                clear hbx hod
                refine hK.out _ _ ⟨PG12.out.c0, PG12.out.c1k, PG12.out.c2, trivial⟩ (fun hHeld => ?_)
                clear hK Kc
                try simp only [Act.put, List.getElem_toArray, List.getElem_cons_succ, List.getElem_cons_zero, List.setIfInBounds_toArray, List.set_cons_zero, List.set_cons_succ]
                refine wpAnyH_take (i := 15) (v := ?_) rfl (by kernel_rfl) (by kernel_rfl) (by kernel_rfl) (fun _ _ _ h => h) (Or.inl ⟨by kernel_rfl, ?_⟩) (by assumption) ?_
                rotate_left
                · (intro w hSw; (try dsimp only at hSw); (try go_split_ands); go_simp; (try with_reducible rfl))
                try simp only [Act.put, List.getElem_toArray, List.getElem_cons_succ, List.getElem_cons_zero, List.setIfInBounds_toArray, List.set_cons_zero, List.set_cons_succ]
                refine wpAnyH_take (i := 16) (v := ?_) rfl (by kernel_rfl) (by kernel_rfl) (by kernel_rfl) (fun _ _ _ h => h) (Or.inl ⟨by kernel_rfl, ?_⟩) (by assumption) ?_
                rotate_left
                · (intro w hSw; (try dsimp only at hSw); (try go_split_ands); go_simp; (try with_reducible rfl))
                try simp only [Act.put, List.getElem_toArray, List.getElem_cons_succ, List.getElem_cons_zero, List.setIfInBounds_toArray, List.set_cons_zero, List.set_cons_succ]
                refine wpAnyH_take (i := 17) (v := ?_) rfl (by kernel_rfl) (by kernel_rfl) (by kernel_rfl) (fun _ _ _ h => h) (Or.inl ⟨by kernel_rfl, ?_⟩) (by assumption) ?_
                rotate_left
                · (intro w hSw; (try dsimp only at hSw); (try go_split_ands); go_simp; (try with_reducible rfl))
                try simp only [Act.put, List.getElem_toArray, List.getElem_cons_succ, List.getElem_cons_zero, List.setIfInBounds_toArray, List.set_cons_zero, List.set_cons_succ]
                refine wpAnyH_take (i := 18) (v := ?_) rfl (by kernel_rfl) (by kernel_rfl) (by kernel_rfl) (fun _ _ _ h => h) (Or.inl ⟨by kernel_rfl, ?_⟩) (by assumption) ?_
                rotate_left
                · (intro w hSw; (try dsimp only at hSw); (try go_split_ands); go_simp; (try with_reducible rfl))
                try simp only [Act.put, List.getElem_toArray, List.getElem_cons_succ, List.getElem_cons_zero, List.setIfInBounds_toArray, List.set_cons_zero, List.set_cons_succ]
                refine wpAnyH_take (i := 19) (v := ?_) rfl (by kernel_rfl) (by kernel_rfl) (by kernel_rfl) (fun _ _ _ h => h) (Or.inl ⟨by kernel_rfl, ?_⟩) (by assumption) ?_
                rotate_left
                · (intro w hSw; (try dsimp only at hSw); (try go_split_ands); go_simp; (try with_reducible rfl))
                try simp only [Act.put, List.getElem_toArray, List.getElem_cons_succ, List.getElem_cons_zero, List.setIfInBounds_toArray, List.set_cons_zero, List.set_cons_succ]
                refine wpAnyH_done (by kernel_rfl) ?_ _
                (try go_wp2_with fail)
                go_meet
                exact PE.out
          case rest =>
            clear HROW HKR HD4 PHD4 wk wk2
            obtain ⟨x0, R, rfl, hx0, hx1, hR, hsh, hrow, hk⟩ := hcut
            rename World => wc
            obtain ⟨A8, n8, c8, rfl, hn8, hnc8, hc8⟩ := id hsh
            have hn8' : n8 = hold := by rw [hn8, deal_len]
            subst hn8'
            obtain ⟨-, -, hint6⟩ : True ∧ True ∧ IntsAt wc (fun b => tb < b ∧ b < wc.heap.size) (.slice A6 j c6) H := ⟨trivial, trivial, hrow.at_⟩
            obtain ⟨i0, hi, hz0, hz1, hz2⟩ := info_parts infoS
            have hi0 := hi
            have HC8 := Lib.hid hc8
            have HI6 := Lib.hid hint6
            have HSH := Lib.hid hsh
            have HROW := Lib.hid hrow
            have HK := Lib.hid hk
            have HR := Lib.hid hR
            have hjH : j = H.length := HJ.out.symm
            have HJH := Lib.hid hjH
            have HX := Lib.hid (show 0 ≤ x0 ∧ x0 < (p : Int) from ⟨hx0, hx1⟩)
            clear hc8 hint6 hsh hrow hk hR hjH hx0 hx1 hn8
            go_wp2_with fail
            go_loopw [10, 104] (fun x t wr => ∃ (i : Nat) (us : Nat → Value), i ≤ j ∧ t = .int .i64 (i : Int) ∧ ShRow wr wc.heap.size x (seenL p k x0 R H i) us ∧ Below wc.heap.size wc wr) (fun _ t _ => j - (intOf t).toNat)
            case atStart => exact ⟨0, fun _ => .slice none 0 0, by omega, rfl, ShRow.nil _ _ _, Below.refl _ _⟩
            case round =>
              obtain ⟨i, us, hij, rfl, hrw, hbr⟩ := hrel
              rename World => wr
              have HRW := Lib.hid hrw
              have HBR := Lib.hid hbr
              have hsz3 := hbr.size
              clear hbr
              by_cases hlt2 : i < j
              · have hall := HH.out.all hh hsz2 i (by rw [HJ.out]; exact hlt2)
                obtain ⟨A', n', c', hv', hn', hnc', hcl⟩ := HI6.out
                injection hv' with v1 v2 v3
                subst v1 v2 v3
                obtain ⟨b6, o6, rfl, hS6, hcl⟩ := hcl (by omega)
                have d0 := (HBR.out.cell (p := ⟨b6, o6 + i, none⟩) hS6.2).trans (hcl i hlt2)
                obtain ⟨b8, o8, rfl, hS8, hcl8⟩ := HC8.out (by omega)
                obtain ⟨hN, hhN⟩ : ∃ x, H.getD i 0 = x := ⟨_, rfl⟩
                rw [hhN] at d0 hall
                have hsu := seenL_succ p k x0 R H i (by rw [HJ.out]; exact hlt2)
                rw [hhN] at hsu
                have hdl := deal_at (p := p) (k := k) (x0 := x0) (R := R) hall.1 hall.2
                obtain ⟨u, e0, e1, hu⟩ := hcl8 (hN.toNat - 1) (by omega)
                rw [hdl] at e0 hu
                dsimp only at e0 hu
                have e0' := (HBR.out.cell (p := ⟨b8, o8 + (hN.toNat - 1) * 2, none⟩) hS8.2).trans e0
                have e1' := (HBR.out.cell (p := ⟨b8, o8 + (hN.toNat - 1) * 2 + 1, none⟩) hS8.2).trans e1
                obtain ⟨Au, nu, cu, rfl, -⟩ := id hu
                have hurow : IntsAt wr (fun b => b < wr.heap.size ∧ u10.ownBlock ≠ some b) (.slice Au nu cu) [yOf p k x0 R hN] := (hu.keep fun b hb => HBR.out.block b hb.2).mono fun b hb => ⟨by omega, fun e => by have := (hrw.row.lt b e).1; omega⟩
                have hsl : (seenL p k x0 R H i).length = i := seenL_len p k x0 R H i (by rw [HJ.out]; exact hij)
                have hr := hrw.row
                rw [hsl] at hr
                have z1 : (i : Int) < (j : Int) := by omega
                have z2 : (0 : Int) ≤ (i : Int) := by omega
                have z3 : (0 : Int) ≤ hN - 1 := by omega
                have z4 : hN - 1 < (n8 : Int) := by omega
                have z5 : (hN - 1).toNat = hN.toNat - 1 := by omega
                have z6 : (1 : Int) ≤ hN := by omega
                have w6 : IntKind.i64.wrap (hN - 1) = hN - 1 := wraps_i64_63 _ (by omega) (by omega)
                have HSU := Lib.hid hsu
                have HSL := Lib.hid hsl
                have HUR := Lib.hid hurow
                clear hsu hsl hurow hhN hdl e0 e1 hu hcl hcl8 hall hrw hn' hnc'
                generalize hSeen : seenL p k x0 R H i = M at *
                have HSeen := Lib.hid hSeen
                clear hSeen
                generalize hN.toNat - 1 = q at *
                go_wp2_with (at_builtin; refine wpList_append_own_at _ rfl _ _ 30 rfl wc.heap.size 36 i0 _ 2 32 Tryz.underlying30 hi hz0 hz1 hz2 rfl (by decide) _ _ _ rfl (hr.alloc _) ⟨wr.heap.size, 0, none⟩ 1 1 [.int .i64 hN, .slice Au nu cu] rfl rfl (fun j u hj => cell_two_new wr _ _ _ j u hj) (one2 rfl rfl) (by unfold maxLen; omega) (by omega) (by simp; omega) ?_)
                intro v' w3 hown' hgrow hnz hloc
                have hg := grown_past hgrow
                have hul : ∀ g, u10.ownBlock = some g → wc.heap.size ≤ g := fun g hg => (hr.lt g hg).1
                have hb2 := HBR.out.grown hg hsz3 hul
                have hp := HRW.out.push (x := (hN, [yOf p k x0 R hN])) HUR.out (by rw [HSL.out]; exact hown') hgrow (by simpa using hloc)
                have HP := Lib.hid hp
                have HB2 := Lib.hid hb2
                clear hown' hgrow hnz hloc hg hul hb2 hp hr
                go_wp2_with fail
                go_roundw
                case measure => simp [intOf]; omega
                case rel => exact ⟨i + 1, _, by omega, by go_num, by rw [HSU.out]; exact HP.out, HB2.out⟩
              · obtain rfl : i = j := by omega
                have hsee := hrw.sh
                obtain ⟨A10, n10, c10, rfl, hn10, hnc10, -⟩ := id hsee
                have hl10 : n10 = i := by rw [hn10, seenL_len p k x0 R H i (by rw [HJ.out]; exact Nat.le_refl _)]
                subst hl10
                have HSEE := Lib.hid hsee
                have KR := Lib.hid (HK.out.below HBR.out)
                have c0 := KR.out.c0
                have c1 := KR.out.c1k
                have zij : ¬ (n10 : Int) < (n10 : Int) := by omega
                obtain ⟨m, hm⟩ : ∃ m, k - n10 = m := ⟨_, rfl⟩
                have wk : IntKind.i64.wrap ((k : Int) + 1 - 1) = (k : Int) := by rw [show (k : Int) + 1 - 1 = (k : Int) by omega]; exact wraps_i64_63 _ (by omega) (by omega)
                have wk2 : IntKind.i64.wrap (k : Int) = (k : Int) := wraps_i64_63 _ (by omega) (by omega)
                have wm : IntKind.i64.wrap ((k : Int) - (n10 : Int)) = (m : Int) := by rw [show (k : Int) - (n10 : Int) = (m : Int) by omega]; exact wraps_i64_63 _ (by omega) (by omega)
                have hm2 : m ≤ 2 := by omega
                have HM := Lib.hid hm
                clear hrw hsee hn10 HRW HSH HC8 hm zj hlt hlt2
                have hpw : ∀ q, q ≤ 2 → p ^ q ≤ 121 := fun q hq => by
                  have h1 : p ^ q ≤ 11 ^ q := Nat.pow_le_pow_left hpl.2.1 _
                  have h2 : 11 ^ q ≤ 11 ^ 2 := Nat.pow_le_pow_right (by omega) hq
                  omega
                have HPWB := Lib.hid hpw
                clear hpw
                go_wp2_with fail
                go_loopw [13, 14] (fun x t wq => ∃ q : Nat, q ≤ m ∧ t = .int .i64 (q : Int) ∧ x = .int .i64 ((p ^ q : Nat) : Int) ∧ wr = wq) (fun _ t _ => m - (intOf t).toNat)
                case atStart => exact ⟨0, by omega, rfl, rfl, rfl⟩
                case round =>
                  obtain ⟨q, hq, rfl, rfl, rfl⟩ := hrel
                  by_cases hq1 : q < m
                  · have b1 := HPWB.out q (by omega)
                    have hps : p ^ (q + 1) = p ^ q * p := Nat.pow_succ p q
                    have b2 : p ^ q * p ≤ 121 * 11 := Nat.mul_le_mul b1 hpl.2.1
                    have zq : (q : Int) < (m : Int) := by omega
                    generalize hv : p ^ q = v at *
                    have wv : IntKind.i64.wrap ((v : Int) * (p : Int)) = ((v * p : Nat) : Int) := by rw [← Int.natCast_mul]; exact wraps_i64_63 _ (by omega) (by omega)
                    generalize v * p = v2 at *
                    have HV2 := Lib.hid hps
                    clear hv hps
                    go_wp2_with fail
                    go_roundw
                    case measure => simp [intOf]; omega
                    case rel => exact ⟨q + 1, by omega, by go_num, by rw [HV2.out], trivial⟩
                  · obtain rfl : q = m := by omega
                    have zq : ¬ (q : Int) < (q : Int) := by omega
                    have b1 := HPWB.out q hm2
                    obtain ⟨want, hwant⟩ : ∃ x, p ^ q = x := ⟨_, rfl⟩
                    rw [hwant] at b1 ⊢
                    have HWT := Lib.hid hwant
                    clear hwant
                    go_wp2_with fail
                    refine (a_empty (.slice A6 n10 c6) H (· < wr.heap.size) wr ((HI6.out.keep fun b hb => HBR.out.block b hb.2).mono fun b hb => Nat.lt_of_lt_of_le hb.2 hsz3) (fun b hb => hb) (by rw [HJ.out]; omega)).mono ?_
                    rintro e w4 ⟨ve, rfl, hve, hb4⟩
                    obtain ⟨Ae, ne, ce, rfl, -⟩ := id hve
                    have HVE := Lib.hid hve
                    have HB4 := Lib.hid (HBR.out.trans (hb4.mono hsz3))
                    have HBr4 := Lib.hid hb4
                    clear hve hb4
                    go_upto_region 29 with fail
                    have hkw := (((KR.out.below HBr4.out).alloc (.cells #[.int .i64 0, .int .i64 0, .int .i64 1, .int .i64 0, .int .i64 0, .slice Ae ne ce, .slice A10 n10 c10] 39)).alloc (.cells #[.slice A6 n10 c6, .slice (some ⟨w4.heap.size, 0, none⟩) 1 1, .slice none 0 0, .slice none 0 0] 44))
                    have hbw := (below_al2 w4 (.cells #[.int .i64 0, .int .i64 0, .int .i64 1, .int .i64 0, .int .i64 0, .slice Ae ne ce, .slice A10 n10 c10] 39)).alloc (by simp) (.cells #[.slice A6 n10 c6, .slice (some ⟨w4.heap.size, 0, none⟩) 1 1, .slice none 0 0, .slice none 0 0] 44)
                    have hsb := (Blk.new w4 39 #[.int .i64 0, .int .i64 0, .int .i64 1, .int .i64 0, .int .i64 0, .slice Ae ne ce, .slice A10 n10 c10]).alloc (.cells #[.slice A6 n10 c6, .slice (some ⟨w4.heap.size, 0, none⟩) 1 1, .slice none 0 0, .slice none 0 0] 44)
                    have hvb := Blk.new (w4.alloc (.cells #[.int .i64 0, .int .i64 0, .int .i64 1, .int .i64 0, .int .i64 0, .slice Ae ne ce, .slice A10 n10 c10] 39)) 44 #[.slice A6 n10 c6, .slice (some ⟨w4.heap.size, 0, none⟩) 1 1, .slice none 0 0, .slice none 0 0]
                    rw [World.size_alloc] at hvb
                    generalize (w4.alloc (.cells #[.int .i64 0, .int .i64 0, .int .i64 1, .int .i64 0, .int .i64 0, .slice Ae ne ce, .slice A10 n10 c10] 39)).alloc (.cells #[.slice A6 n10 c6, .slice (some ⟨w4.heap.size, 0, none⟩) 1 1, .slice none 0 0, .slice none 0 0] 44) = w5 at *
                    have hB5 := HB4.out.trans (hbw.mono HB4.out.size)
                    have hints5 : IntsAt w5 (· < w5.heap.size) (.slice A6 n10 c6) H := (HI6.out.keep fun b hb => hB5.block b hb.2).mono fun b hb => Nat.lt_of_lt_of_le hb.2 hB5.size
                    have hbr5 : Below wr.heap.size wr w5 := HBr4.out.trans (hbw.mono HBr4.out.size)
                    have hsee5 : ShAt w5 (· < w5.heap.size) (.slice A10 n10 c10) (seenL p k x0 R H H.length) := by rw [HJ.out]; exact HSEE.out.up hbr5
                    have hse := SeensAt.one (s := pwE p k x0 R H) hsb (HVE.out.up hbw) hsee5
                    have hw5 : BasesOk w5 := HW.out.below (below_to hkw.old HDE.out)
                    have hway := pw_ways HPK.out hh hsz HH.out HJ.out A6 c6 w4.heap.size w5 hw5 hints5 hse
                    rw [HM.out, HWT.out] at hway
                    have HWAY := Lib.hid hway
                    have KW := Lib.hid hkw
                    have HSEE5 := Lib.hid hsee5
                    have HB5 := Lib.hid hB5
                    have c0 := hkw.c0
                    have c1 := hkw.c1k
                    have c2 := hkw.c2
                    have y0 := (hvb.cell 0).trans (show _ = some (Value.slice A6 n10 c6) from rfl)
                    have y1 := (hvb.cell 1).trans (show _ = some (Value.slice (some ⟨w4.heap.size, 0, none⟩) 1 1) from rfl)
                    have y2 := (hvb.cell 2).trans (show _ = some (Value.slice none 0 0) from rfl)
                    have y3 := (hvb.cell 3).trans (show _ = some (Value.slice none 0 0) from rfl)
                    clear hkw hbw hsb hvb hB5 hints5 hbr5 hsee5 hse hw5 hway HVE HBr4 HB4 HBR HSEE KR
                    go_wp2_with fail
                    refine HWAY.out.mono ?_
                    rintro e w6 ⟨rfl, hb6⟩
                    have KW6 := Lib.hid (KW.out.below hb6)
                    have HSEE6 := Lib.hid (HSEE5.out.up hb6)
                    have HB6 := Lib.hid (HB5.out.trans (hb6.mono HB5.out.size))
                    have twn : (((want : Nat) : Int) != ((want : Nat) : Int)) = false := by simp
                    clear hb6 c0 c1 c2 y0 y1 y2 y3 KW HSEE5 HB5 HWAY
                    have c0 := KW6.out.c0
                    have c1 := KW6.out.c1k
                    go_wp2_with fail
                    clear wm zq b1
                    go_loopw [18, 19] (fun x t wq => ∃ q : Nat, q ≤ k ∧ t = .int .i64 (q : Int) ∧ x = .int .i64 ((p ^ q : Nat) : Int) ∧ w6 = wq) (fun _ t _ => k - (intOf t).toNat)
                    case atStart => exact ⟨0, by omega, rfl, rfl, rfl⟩
                    case round =>
                      obtain ⟨q2, hq2, rfl, rfl, rfl⟩ := hrel
                      by_cases hq1 : q2 < k
                      · have b1 := HPWB.out q2 (by omega)
                        have hps : p ^ (q2 + 1) = p ^ q2 * p := Nat.pow_succ p q2
                        have b2 : p ^ q2 * p ≤ 121 * 11 := Nat.mul_le_mul b1 hpl.2.1
                        have zq : (q2 : Int) < (k : Int) := by omega
                        generalize hv : p ^ q2 = v at *
                        have wv : IntKind.i64.wrap ((v : Int) * (p : Int)) = ((v * p : Nat) : Int) := by rw [← Int.natCast_mul]; exact wraps_i64_63 _ (by omega) (by omega)
                        generalize v * p = v2 at *
                        have HV2 := Lib.hid hps
                        clear hv hps
                        go_wp2_with fail
                        go_roundw
                        case measure => simp [intOf]; omega
                        case rel => exact ⟨q2 + 1, by omega, by go_num, by rw [HV2.out], trivial⟩
                      · obtain rfl : q2 = k := by omega
                        have zq : ¬ (q2 : Int) < (q2 : Int) := by omega
                        have b1 := HPWB.out q2 (by omega)
                        obtain ⟨all, hall⟩ : ∃ x, p ^ q2 = x := ⟨_, rfl⟩
                        rw [hall] at b1 ⊢
                        have HALL := Lib.hid hall
                        have HK12 := Lib.hid (show q2 = 1 ∨ q2 = 2 by omega)
                        clear hall
                        go_wp2_with fail
                        clear zq c0 c1 wk wk2
                        go_loopw [20] (fun t ws => ∃ s : Nat, s ≤ p ∧ t = .int .i64 (s : Int) ∧ Below w6.heap.size w6 ws) (fun t _ => p - (intOf t).toNat)
                        case atStart => exact ⟨0, by omega, rfl, Below.refl _ _⟩
                        case round =>
                          obtain ⟨s, hs, rfl, hbs⟩ := hrel
                          rename World => ws
                          have c0 := (KW6.out.below hbs).c0
                          have HBS := Lib.hid hbs
                          clear hbs
                          by_cases hsp : s < p
                          · have zs : (s : Int) < (p : Int) := by omega
                            go_wp2_with fail
                            clear c0
                            go_loopw [21, 22] (fun cn t wq => ∃ r : Nat, r ≤ all ∧ t = .int .i64 (r : Int) ∧ cn = .int .i64 ((cntN p q2 s (pairL p q2 x0 R H H.length) r : Nat) : Int) ∧ Below w6.heap.size w6 wq) (fun _ t _ => all - (intOf t).toNat)
                            case atStart => exact ⟨0, by omega, rfl, rfl, HBS.out⟩
                            case round =>
                              obtain ⟨r, hr, rfl, rfl, hbq⟩ := hrel
                              rename World => wq
                              have kq := KW6.out.below hbq
                              have c0 := kq.c0
                              have c0a : ∀ o, (wq.alloc o).cell? ⟨tb, 0, none⟩ = some (.int .i64 (p : Int)) := fun o => (kq.alloc o).c0
                              have c1a : ∀ o, (wq.alloc o).cell? ⟨tb, 1, none⟩ = some (.int .i64 ((q2 : Int) + 1)) := fun o => (kq.alloc o).c1k
                              have HBQ := Lib.hid hbq
                              have hcl := cnt_le p q2 s (pairL p q2 x0 R H H.length) r
                              clear hbq kq
                              by_cases hra : r < all
                              · have zr : (r : Int) < (all : Int) := by omega
                                have zp0 : ¬ (p : Int) = 0 := by omega
                                have em : (r : Int).tmod (p : Int) = ((r % p : Nat) : Int) := by rw [Int.tmod_eq_emod_of_nonneg (by omega)]; rfl
                                have ed : (r : Int).tdiv (p : Int) = ((r / p : Nat) : Int) := by rw [Int.tdiv_eq_ediv_of_nonneg (by omega)]; rfl
                                have hmd : r % p ≤ r := Nat.mod_le r p
                                have hdd : r / p ≤ r := Nat.div_le_self r p
                                obtain ⟨rm, hrm⟩ : ∃ x, r % p = x := ⟨_, rfl⟩
                                obtain ⟨rd, hrd⟩ : ∃ x, r / p = x := ⟨_, rfl⟩
                                rw [hrm] at em hmd
                                rw [hrd] at ed hdd
                                have HRM := Lib.hid hrm
                                have HRD := Lib.hid hrd
                                have hcn2 : cntN p q2 s (pairL p q2 x0 R H H.length) (r + 1) = cntN p q2 s (pairL p q2 x0 R H H.length) r + (if hitN p q2 s r (pairL p q2 x0 R H H.length) then 1 else 0) := cnt_succ _ _ _ _ _
                                obtain ⟨cn, hcn⟩ : ∃ x, cntN p q2 s (pairL p q2 x0 R H H.length) r = x := ⟨_, rfl⟩
                                rw [hcn] at hcl hcn2 ⊢
                                have HCN2 := Lib.hid hcn2
                                clear hrm hrd hcn2 hcn
                                go_upto_if 179 with fail
                                have hro := own_built wq (tb + 1) 3 (.int .i64 (rm : Int)) (by have := c0; have := World.block_lt_of_cell? _ _ this; exact this)
                                have hb1 := HBQ.out.trans ((below_al2 wq (.cells #[.int .i64 (rm : Int)] 3)).mono HBQ.out.size)
                                have hbn := Blk.new wq 3 #[.int .i64 (rm : Int)]
                                have hk1 := KW6.out.below hb1
                                have HNEW := Lib.hid HBQ.out.size
                                generalize wq.alloc (.cells #[.int .i64 (rm : Int)] 3) = wa at *
                                have HRO := Lib.hid hro
                                have HB1 := Lib.hid hb1
                                have HBN := Lib.hid hbn
                                have HK1 := Lib.hid hk1
                                have c0 := hk1.c0
                                have c1 := hk1.c1k
                                clear hro hb1 hbn hk1 c0a c1a
                                go_cut [23] from 179 to 186 (fun x wx => PwG w6 p q2 r x wx)
                                case first =>
                                  rcases HK12.out with hk1 | hk1
                                  · have tk : ((q2 : Int) + 1 == 3) = false := by simp; omega
                                    have tk2 : ¬ (q2 : Int) + 1 = 3 := by omega
                                    have HK1' := Lib.hid hk1
                                    clear hk1
                                    go_wp2_with fail
                                    go_meet
                                    refine ⟨?_, HB1.out⟩
                                    have e : (rndN p q2 r).map Int.ofNat = [(rm : Int)] := by unfold rndN; rw [if_pos HK1'.out, ← HRM.out]; rfl
                                    rw [e]
                                    exact IntsAt.blk (xs := [(rm : Int)]) HBN.out HBN.out.lt
                                  · have tk : ((q2 : Int) + 1 == 3) = true := by simp; omega
                                    have HK1' := Lib.hid hk1
                                    obtain ⟨i1, hi1, hz01, hz11, hz21⟩ := info_parts infoI
                                    clear hk1
                                    go_wp2_with (at_builtin; refine wpList_append_own_at _ rfl _ _ 22 rfl (tb + 1) 3 i1 _ 1 8 Tryz.underlying22 hi1 hz01 hz11 hz21 rfl (by decide) _ 1 [.int .i64 (rm : Int)] rfl (HRO.out.alloc _) ⟨wa.heap.size, 0, none⟩ 1 1 [.int .i64 (rd : Int)] rfl rfl (fun j u hj => by have := cell_one_new wa (.int .i64 (rd : Int)) 3 j u hj; simpa using this) (ints_oneCell .i64 [_]) (by unfold maxLen; omega) (by omega) (by have := HK1.out.pl.lt; simp; omega) ?_)
                                    intro v' w7 hown' hgrow hnz hloc
                                    have hg := grown_past hgrow
                                    have hb7 := HB1.out.grown hg HB1.out.size (fun g hg => by have h1 : some wq.heap.size = some g := hg; injection h1 with h1; have := HNEW.out; omega)
                                    have e : (rndN p q2 r).map Int.ofNat = [(rm : Int), (rd : Int)] := by unfold rndN; rw [if_neg (by have := HK1'.out; omega), ← HRM.out, ← HRD.out]; rfl
                                    have hint7 : IntsAt w7 (· < w7.heap.size) v' ((rndN p q2 r).map Int.ofNat) := by
                                      rw [e]
                                      exact (IntsAt.of_own (n := 1 + 1) (xs := [(rm : Int), (rd : Int)]) hown').mono fun b hb => hb.2
                                    have HI7 := Lib.hid hint7
                                    have HB7 := Lib.hid hb7
                                    clear hown' hgrow hnz hloc hg hb7 e hint7
                                    go_wp2_with fail
                                    go_meet
                                    exact ⟨HI7.out, HB7.out⟩
                                case rest =>
                                  clear HRO HB1 HBN HK1 c0 c1 em ed
                                  obtain ⟨hint, hbx⟩ := hcut
                                  rename World => wg
                                  obtain ⟨A23, n23, c23, rfl, -⟩ := id hint
                                  have HINT := Lib.hid hint
                                  have hkg := KW6.out.below hbx
                                  have HKG := Lib.hid hkg
                                  have HBG := Lib.hid hbx
                                  have g0 := hkg.c0
                                  have g1 := hkg.c1k
                                  have g2 := hkg.c2
                                  clear hint hbx hkg
                                  have hra' : r < p ^ q2 := by rw [HALL.out]; exact hra
                                  have hdea := r_Deal p q2 n8 [((s : Nat) : Int)] ((rndN p q2 r).map Int.ofNat) (.slice (some ⟨wg.heap.size, 0, none⟩) 1 1) (.slice A23 n23 c23) (wg.alloc (.cells #[.int .i64 (s : Int)] 3)) HPR.out (by omega) (by omega) (by omega) (by omega) (IntsAt.blk (xs := [((s : Nat) : Int)]) (Blk.new wg _ _) (by simp [Old])) (HINT.out.up (below_al2 _ _)) (inF_one hsp) (rnd_in (by omega) HK12.out hra') (by show 1 ≤ 2048; omega) (by rw [List.length_map, rnd_len HK12.out, List.length_singleton, Nat.one_mul])
                                  have HDEA := Lib.hid hdea
                                  clear hdea hra'
                                  go_wp2_with fail
                                  refine HDEA.out.mono ?_
                                  rintro e w8 ⟨vd, rfl, hod, hb8⟩
                                  have hsh8 := hod.at_.mono (T := fun b => b < w8.heap.size) (fun b hb => hb.2)
                                  obtain ⟨A24, n24, c24, rfl, hn24, hnc24, -⟩ := id hsh8
                                  have hn24' : n24 = n8 := by rw [hn24, deal_len]
                                  subst hn24'
                                  have HS24 := Lib.hid hsh8
                                  have HB8 := Lib.hid (HBG.out.trans (((below_al2 wg (.cells #[.int .i64 (s : Int)] 3)).trans (hb8.mono (by simp))).mono HBG.out.size))
                                  clear hod hb8 hsh8 hn24 g0 g1 g2 HDEA HINT HKG HBG
                                  have hh24 := HH.out.all hh hsz2
                                  rw [HJ.out] at hh24
                                  have HH24 := Lib.hid hh24
                                  clear hh24
                                  go_wp2_with fail
                                  go_loopw [26, 197] (fun x t wy => ∃ i : Nat, i ≤ n10 ∧ t = .int .i64 (i : Int) ∧ x = .bool (hitN p q2 s r (pairL p q2 x0 R H i)) ∧ Below w8.heap.size w8 wy) (fun _ t _ => n10 - (intOf t).toNat)
                                  case atStart => exact ⟨0, by omega, rfl, rfl, Below.refl _ _⟩
                                  case round =>
                                    obtain ⟨i, hi10, rfl, rfl, hby⟩ := hrel
                                    rename World => wy
                                    have HBY := Lib.hid hby
                                    have hszy := hby.size
                                    clear hby
                                    by_cases hi : i < n10
                                    · have hall := HH24.out i hi
                                      have hbc := (HB6.out.trans (HB8.out.mono HB6.out.size)).trans (HBY.out.mono (HB6.out.trans (HB8.out.mono HB6.out.size)).size)
                                      obtain ⟨A', n', c', hv', hn', hnc', hcl⟩ := HI6.out
                                      injection hv' with v1 v2 v3
                                      subst v1 v2 v3
                                      obtain ⟨b6, o6, rfl, hS6, hcl⟩ := hcl (by omega)
                                      have d0 := (hbc.cell (p := ⟨b6, o6 + i, none⟩) hS6.2).trans (hcl i hi)
                                      have hnx := hit_next (p := p) (k := q2) (s := s) (r := r) (x0 := x0) (R := R) (H := H) (i := i) (by omega) HK12.out (by rw [HJ.out]; exact hi)
                                      have hsat := seenL_at p q2 x0 R H i (by rw [HJ.out]; exact hi)
                                      obtain ⟨hN, hhN⟩ : ∃ x, H.getD i 0 = x := ⟨_, rfl⟩
                                      rw [hhN] at d0 hall hnx hsat
                                      have hdl := deal_at (p := p) (k := q2) (x0 := (s : Int)) (R := (rndN p q2 r).map Int.ofNat) hall.1 hall.2
                                      have hsm := fun (W : World) (hW : Below w8.heap.size w8 W) => same_one hN (yOf p q2 (s : Int) ((rndN p q2 r).map Int.ofNat) hN) (yOf p q2 x0 R hN) (.slice (subA A24 c24 (hN.toNat - 1) 2) 1 (c24 - (hN.toNat - 1))) (.slice (subA A10 c10 i 2) 1 (c10 - i)) W (by have h1 := (HS24.out.up hW).oneP (i := hN.toNat - 1) (by omega); rwa [hdl] at h1) (by have h1 := (HSEE6.out.up ((HB8.out.trans (hW.mono HB8.out.size)))).oneP (i := i) hi; rwa [hsat] at h1)
                                      have z1 : (i : Int) < (n10 : Int) := by omega
                                      have z2 : (0 : Int) ≤ (i : Int) := by omega
                                      have HSM := Lib.hid hsm
                                      have HNXT := Lib.hid hnx
                                      clear hsm hnx hsat hdl hhN hcl hn' hnc' hbc
                                      generalize hitN p q2 s r (pairL p q2 x0 R H i) = hb at *
                                      generalize decide (yOf p q2 (s : Int) ((rndN p q2 r).map Int.ofNat) hN = yOf p q2 x0 R hN) = hd at *
                                      have wh : IntKind.i64.wrap (hN - 1) = hN - 1 := wraps_i64_63 _ (by omega) (by omega)
                                      have wi : IntKind.i64.wrap ((i : Int) + 1) = (i : Int) + 1 := wraps_i64_63 _ (by omega) (by omega)
                                      have hsl1 := fun (W : World) => run_slice_lohi (P := Tryz.prog) W 30 36 i0 2 Tryz.underlying30 hi0 hz1 A24 n24 c24 (hN.toNat - 1) hN.toNat (by omega) (by omega) (hN - 1) hN (by omega) (by omega)
                                      rw [show hN.toNat - (hN.toNat - 1) = 1 by omega] at hsl1
                                      have hsl2 := fun (W : World) => run_slice_lohi (P := Tryz.prog) W 30 36 i0 2 Tryz.underlying30 hi0 hz1 A10 n10 c10 i (i + 1) (by omega) (by omega) (i : Int) ((i : Int) + 1) rfl rfl
                                      rw [show i + 1 - i = 1 by omega] at hsl2
                                      have HDY := Lib.hid (DrS.start ((((KW6.out.below HB8.out).below HBY.out)).dc)).drew
                                      cases hb
                                      · go_wp2_with fail
                                        refine wp_region_held_drew (S := (fun W : World => True)) hmx trivial (fun hHeld => ?_)
                                        refine wpAnyH_take (i := 0) (v := ?_) rfl (by kernel_rfl) (by kernel_rfl) (by kernel_rfl) (fun _ _ _ h => h) (Or.inl ⟨by kernel_rfl, ?_⟩) (by assumption) ?_
                                        rotate_left
                                        · (intro w hSw; (try dsimp only at hSw); (try go_split_ands); go_simp; (try with_reducible rfl))
                                        try simp only [Act.put, List.getElem_toArray, List.getElem_cons_succ, List.getElem_cons_zero, List.setIfInBounds_toArray, List.set_cons_zero, List.set_cons_succ]
                                        refine wpAnyH_take (i := 1) (v := ?_) rfl (by kernel_rfl) (by kernel_rfl) (by kernel_rfl) (fun _ _ _ h => h) (Or.inl ⟨by kernel_rfl, ?_⟩) (by assumption) ?_
                                        rotate_left
                                        · (intro w hSw; (try dsimp only at hSw); (try go_split_ands); go_simp; (try with_reducible rfl))
                                        try simp only [Act.put, List.getElem_toArray, List.getElem_cons_succ, List.getElem_cons_zero, List.setIfInBounds_toArray, List.set_cons_zero, List.set_cons_succ]
                                        refine wpAnyH_take (i := 2) (v := undef) rfl (by kernel_rfl) (by kernel_rfl) (by kernel_rfl) (fun _ _ _ h => h) (Or.inr ⟨by kernel_rfl, rfl⟩) (by assumption) ?_
                                        try simp only [Act.put, List.getElem_toArray, List.getElem_cons_succ, List.getElem_cons_zero, List.setIfInBounds_toArray, List.set_cons_zero, List.set_cons_succ]
                                        refine wpAnyH_take (i := 3) (v := undef) rfl (by kernel_rfl) (by kernel_rfl) (by kernel_rfl) (fun _ _ _ h => h) (Or.inr ⟨by kernel_rfl, rfl⟩) (by assumption) ?_
                                        try simp only [Act.put, List.getElem_toArray, List.getElem_cons_succ, List.getElem_cons_zero, List.setIfInBounds_toArray, List.set_cons_zero, List.set_cons_succ]
                                        refine wpAnyH_take (i := 4) (v := undef) rfl (by kernel_rfl) (by kernel_rfl) (by kernel_rfl) (fun _ _ _ h => h) (Or.inr ⟨by kernel_rfl, rfl⟩) (by assumption) ?_
                                        try simp only [Act.put, List.getElem_toArray, List.getElem_cons_succ, List.getElem_cons_zero, List.setIfInBounds_toArray, List.set_cons_zero, List.set_cons_succ]
                                        refine wpAnyH_take (i := 5) (v := undef) rfl (by kernel_rfl) (by kernel_rfl) (by kernel_rfl) (fun _ _ _ h => h) (Or.inr ⟨by kernel_rfl, rfl⟩) (by assumption) ?_
                                        try simp only [Act.put, List.getElem_toArray, List.getElem_cons_succ, List.getElem_cons_zero, List.setIfInBounds_toArray, List.set_cons_zero, List.set_cons_succ]
                                        refine wpAnyH_take (i := 6) (v := undef) rfl (by kernel_rfl) (by kernel_rfl) (by kernel_rfl) (fun _ _ _ h => h) (Or.inr ⟨by kernel_rfl, rfl⟩) (by assumption) ?_
                                        try simp only [Act.put, List.getElem_toArray, List.getElem_cons_succ, List.getElem_cons_zero, List.setIfInBounds_toArray, List.set_cons_zero, List.set_cons_succ]
                                        refine wpAnyH_take (i := 7) (v := undef) rfl (by kernel_rfl) (by kernel_rfl) (by kernel_rfl) (fun _ _ _ h => h) (Or.inr ⟨by kernel_rfl, rfl⟩) (by assumption) ?_
                                        try simp only [Act.put, List.getElem_toArray, List.getElem_cons_succ, List.getElem_cons_zero, List.setIfInBounds_toArray, List.set_cons_zero, List.set_cons_succ]
                                        refine wpAnyH_take (i := 8) (v := undef) rfl (by kernel_rfl) (by kernel_rfl) (by kernel_rfl) (fun _ _ _ h => h) (Or.inr ⟨by kernel_rfl, rfl⟩) (by assumption) ?_
                                        try simp only [Act.put, List.getElem_toArray, List.getElem_cons_succ, List.getElem_cons_zero, List.setIfInBounds_toArray, List.set_cons_zero, List.set_cons_succ]
                                        refine wpAnyH_take (i := 9) (v := undef) rfl (by kernel_rfl) (by kernel_rfl) (by kernel_rfl) (fun _ _ _ h => h) (Or.inr ⟨by kernel_rfl, rfl⟩) (by assumption) ?_
                                        try simp only [Act.put, List.getElem_toArray, List.getElem_cons_succ, List.getElem_cons_zero, List.setIfInBounds_toArray, List.set_cons_zero, List.set_cons_succ]
                                        refine wpAnyH_take (i := 10) (v := undef) rfl (by kernel_rfl) (by kernel_rfl) (by kernel_rfl) (fun _ _ _ h => h) (Or.inr ⟨by kernel_rfl, rfl⟩) (by assumption) ?_
                                        try simp only [Act.put, List.getElem_toArray, List.getElem_cons_succ, List.getElem_cons_zero, List.setIfInBounds_toArray, List.set_cons_zero, List.set_cons_succ]
                                        refine wpAnyH_take (i := 11) (v := undef) rfl (by kernel_rfl) (by kernel_rfl) (by kernel_rfl) (fun _ _ _ h => h) (Or.inr ⟨by kernel_rfl, rfl⟩) (by assumption) ?_
                                        try simp only [Act.put, List.getElem_toArray, List.getElem_cons_succ, List.getElem_cons_zero, List.setIfInBounds_toArray, List.set_cons_zero, List.set_cons_succ]
                                        refine wpAnyH_take (i := 12) (v := undef) rfl (by kernel_rfl) (by kernel_rfl) (by kernel_rfl) (fun _ _ _ h => h) (Or.inr ⟨by kernel_rfl, rfl⟩) (by assumption) ?_
                                        try simp only [Act.put, List.getElem_toArray, List.getElem_cons_succ, List.getElem_cons_zero, List.setIfInBounds_toArray, List.set_cons_zero, List.set_cons_succ]
                                        refine wpAnyH_take (i := 13) (v := ?_) rfl (by kernel_rfl) (by kernel_rfl) (by kernel_rfl) (fun _ _ _ h => h) (Or.inl ⟨by kernel_rfl, ?_⟩) (by assumption) ?_
                                        rotate_left
                                        · (intro w hSw; (try dsimp only at hSw); (try go_split_ands); go_simp; (try with_reducible rfl))
                                        try simp only [Act.put, List.getElem_toArray, List.getElem_cons_succ, List.getElem_cons_zero, List.setIfInBounds_toArray, List.set_cons_zero, List.set_cons_succ]
                                        refine wpAnyH_take (i := 14) (v := ?_) rfl (by kernel_rfl) (by kernel_rfl) (by kernel_rfl) (fun _ _ _ h => h) (Or.inl ⟨by kernel_rfl, ?_⟩) (by assumption) ?_
                                        rotate_left
                                        · (intro w hSw; (try dsimp only at hSw); (try go_split_ands); go_simp; (try with_reducible rfl))
                                        try simp only [Act.put, List.getElem_toArray, List.getElem_cons_succ, List.getElem_cons_zero, List.setIfInBounds_toArray, List.set_cons_zero, List.set_cons_succ]
                                        refine wpAnyH_done (by kernel_rfl) ?_ _
                                        (try go_wp2_with fail)
                                        go_roundw
                                        case measure => simp [intOf]; omega
                                        case rel => first | exact ⟨i + 1, by omega, by go_num, by rw [HNXT.out]; rfl, HBY.out.drew⟩ | ((repeat apply Exists.intro); exact ⟨⟨i + 1, by omega, by go_num, by rw [HNXT.out]; rfl, HBY.out.drew⟩, rfl⟩)
                                      · go_wp2_with fail
                                        refine wp_region_held_drew (S := (fun W : World => True)) hmx trivial (fun hHeld => ?_)
                                        refine wpAnyH_take (i := 0) (v := ?_) rfl (by kernel_rfl) (by kernel_rfl) (by kernel_rfl) (fun _ _ _ h => h) (Or.inl ⟨by kernel_rfl, ?_⟩) (by assumption) ?_
                                        rotate_left
                                        · (intro w hSw; (try dsimp only at hSw); (try go_split_ands); go_simp; (try with_reducible rfl))
                                        try simp only [Act.put, List.getElem_toArray, List.getElem_cons_succ, List.getElem_cons_zero, List.setIfInBounds_toArray, List.set_cons_zero, List.set_cons_succ]
                                        refine wpAnyH_take (i := 1) (v := ?_) rfl (by kernel_rfl) (by kernel_rfl) (by kernel_rfl) (fun _ _ _ h => h) (Or.inl ⟨by kernel_rfl, ?_⟩) (by assumption) ?_
                                        rotate_left
                                        · (intro w hSw; (try dsimp only at hSw); (try go_split_ands); go_simp; (try with_reducible rfl))
                                        try simp only [Act.put, List.getElem_toArray, List.getElem_cons_succ, List.getElem_cons_zero, List.setIfInBounds_toArray, List.set_cons_zero, List.set_cons_succ]
                                        refine wpAnyH_take (i := 2) (v := ?_) rfl (by kernel_rfl) (by kernel_rfl) (by kernel_rfl) (fun _ _ _ h => h) (Or.inl ⟨by kernel_rfl, ?_⟩) (by assumption) ?_
                                        rotate_left
                                        · (intro w hSw; (try dsimp only at hSw); (try go_split_ands); go_simp; (try with_reducible rfl))
                                        try simp only [Act.put, List.getElem_toArray, List.getElem_cons_succ, List.getElem_cons_zero, List.setIfInBounds_toArray, List.set_cons_zero, List.set_cons_succ]
                                        refine wpAnyH_take (i := 3) (v := ?_) rfl (by kernel_rfl) (by kernel_rfl) (by kernel_rfl) (fun _ _ _ h => h) (Or.inl ⟨by kernel_rfl, ?_⟩) (by assumption) ?_
                                        rotate_left
                                        · (intro w hSw; (try dsimp only at hSw); (try go_split_ands); go_simp; (try with_reducible rfl))
                                        try simp only [Act.put, List.getElem_toArray, List.getElem_cons_succ, List.getElem_cons_zero, List.setIfInBounds_toArray, List.set_cons_zero, List.set_cons_succ]
                                        refine wpAnyH_take (i := 4) (v := ?_) rfl (by kernel_rfl) (by kernel_rfl) (by kernel_rfl) (fun _ _ _ h => h) (Or.inl ⟨by kernel_rfl, ?_⟩) (by assumption) ?_
                                        rotate_left
                                        · (intro w hSw; (try dsimp only at hSw); (try go_split_ands); go_simp; (try with_reducible rfl))
                                        try simp only [Act.put, List.getElem_toArray, List.getElem_cons_succ, List.getElem_cons_zero, List.setIfInBounds_toArray, List.set_cons_zero, List.set_cons_succ]
                                        refine wpAnyH_take (i := 5) (v := ?_) rfl (by kernel_rfl) (by kernel_rfl) (by kernel_rfl) (fun _ _ _ h => h) (Or.inl ⟨by kernel_rfl, ?_⟩) (by assumption) ?_
                                        rotate_left
                                        · (intro w hSw; (try dsimp only at hSw); (try go_split_ands); go_simp; (try with_reducible rfl))
                                        try simp only [Act.put, List.getElem_toArray, List.getElem_cons_succ, List.getElem_cons_zero, List.setIfInBounds_toArray, List.set_cons_zero, List.set_cons_succ]
                                        refine wpAnyH_take (i := 6) (v := ?_) rfl (by kernel_rfl) (by kernel_rfl) (by kernel_rfl) (fun _ _ _ h => h) (Or.inl ⟨by kernel_rfl, ?_⟩) (by assumption) ?_
                                        rotate_left
                                        · (intro w hSw; (try dsimp only at hSw); (try go_split_ands); go_simp; (try with_reducible rfl))
                                        try simp only [Act.put, List.getElem_toArray, List.getElem_cons_succ, List.getElem_cons_zero, List.setIfInBounds_toArray, List.set_cons_zero, List.set_cons_succ]
                                        refine wpAnyH_take (i := 7) (v := ?_) rfl (by kernel_rfl) (by kernel_rfl) (by kernel_rfl) (fun _ _ _ h => h) (Or.inl ⟨by kernel_rfl, ?_⟩) (by assumption) ?_
                                        rotate_left
                                        · (intro w hSw; (try dsimp only at hSw); (try go_split_ands); go_simp; (try with_reducible rfl))
                                        try simp only [Act.put, List.getElem_toArray, List.getElem_cons_succ, List.getElem_cons_zero, List.setIfInBounds_toArray, List.set_cons_zero, List.set_cons_succ]
                                        refine wpAnyH_take (i := 8) (v := ?_) rfl (by kernel_rfl) (by kernel_rfl) (by kernel_rfl) (fun _ _ _ h => h) (Or.inl ⟨by kernel_rfl, ?_⟩) (by assumption) ?_
                                        rotate_left
                                        · (intro w hSw; (try dsimp only at hSw); (try go_split_ands); go_simp; (try with_reducible rfl))
                                        try simp only [Act.put, List.getElem_toArray, List.getElem_cons_succ, List.getElem_cons_zero, List.setIfInBounds_toArray, List.set_cons_zero, List.set_cons_succ]
                                        refine wpAnyH_take (i := 9) (v := ?_) rfl (by kernel_rfl) (by kernel_rfl) (by kernel_rfl) (fun _ _ _ h => h) (Or.inl ⟨by kernel_rfl, ?_⟩) (by assumption) ?_
                                        rotate_left
                                        · (intro w hSw; (try dsimp only at hSw); (try go_split_ands); go_simp; (try with_reducible rfl))
                                        try simp only [Act.put, List.getElem_toArray, List.getElem_cons_succ, List.getElem_cons_zero, List.setIfInBounds_toArray, List.set_cons_zero, List.set_cons_succ]
                                        refine wpAnyH_take (i := 10) (v := ?_) rfl (by kernel_rfl) (by kernel_rfl) (by kernel_rfl) (fun _ _ _ h => h) (Or.inl ⟨by kernel_rfl, ?_⟩) (by assumption) ?_
                                        rotate_left
                                        · (intro w hSw; (try dsimp only at hSw); (try go_split_ands); go_simp; (try with_reducible rfl))
                                        try simp only [Act.put, List.getElem_toArray, List.getElem_cons_succ, List.getElem_cons_zero, List.setIfInBounds_toArray, List.set_cons_zero, List.set_cons_succ]
                                        refine wpAnyH_take (i := 11) (v := ?_) rfl (by kernel_rfl) (by kernel_rfl) (by kernel_rfl) (fun _ _ _ h => h) (Or.inl ⟨by kernel_rfl, ?_⟩) (by assumption) ?_
                                        rotate_left
                                        · (intro w hSw; (try dsimp only at hSw); (try go_split_ands); go_simp; (try with_reducible rfl))
                                        try simp only [Act.put, List.getElem_toArray, List.getElem_cons_succ, List.getElem_cons_zero, List.setIfInBounds_toArray, List.set_cons_zero, List.set_cons_succ]
                                        refine wpAnyH_ready (rs := [12]) (by kernel_rfl) (by simp) ?_
                                        refine AllReadyH.cons rfl (fun Kc hK => ?_) AllReadyH.nil
                                        refine step_fn en_same6 #[.slice (subA A24 c24 (hN.toNat - 1) 2) 1 (c24 - (hN.toNat - 1)), .slice (subA A10 c10 i 2) 1 (c10 - i)] (by kernel_rfl) rfl (by kernel_rfl) ?_
                                        refine (HSM.out _ HBY.out.drew).mono ?_
                                        rintro e v1 ⟨rfl, hbx⟩
                                        refine ⟨_, rfl, ?_⟩
                                        have G1 := Lib.hid (HDY.out.below hbx)
                                        have HBX := Lib.hid (HBY.out.drew.trans (hbx.mono HBY.out.drew.size))
                                        clear hbx
                                        refine hK.out _ _ trivial (fun hHeld => ?_)
                                        clear hK Kc
                                        try simp only [Act.put, List.getElem_toArray, List.getElem_cons_succ, List.getElem_cons_zero, List.setIfInBounds_toArray, List.set_cons_zero, List.set_cons_succ]
                                        refine wpAnyH_take (i := 13) (v := ?_) rfl (by kernel_rfl) (by kernel_rfl) (by kernel_rfl) (fun _ _ _ h => h) (Or.inl ⟨by kernel_rfl, ?_⟩) (by assumption) ?_
                                        rotate_left
                                        · (intro w hSw; (try dsimp only at hSw); (try go_split_ands); go_simp; (try with_reducible rfl))
                                        try simp only [Act.put, List.getElem_toArray, List.getElem_cons_succ, List.getElem_cons_zero, List.setIfInBounds_toArray, List.set_cons_zero, List.set_cons_succ]
                                        refine wpAnyH_take (i := 14) (v := ?_) rfl (by kernel_rfl) (by kernel_rfl) (by kernel_rfl) (fun _ _ _ h => h) (Or.inl ⟨by kernel_rfl, ?_⟩) (by assumption) ?_
                                        rotate_left
                                        · (intro w hSw; (try dsimp only at hSw); (try go_split_ands); go_simp; (try with_reducible rfl))
                                        try simp only [Act.put, List.getElem_toArray, List.getElem_cons_succ, List.getElem_cons_zero, List.setIfInBounds_toArray, List.set_cons_zero, List.set_cons_succ]
                                        refine wpAnyH_done (by kernel_rfl) ?_ _
                                        (try go_wp2_with fail)
                                        go_roundw
                                        case measure => simp [intOf]; omega
                                        case rel => first | exact ⟨i + 1, by omega, by go_num, by rw [HNXT.out]; rfl, HBX.out⟩ | ((repeat apply Exists.intro); exact ⟨⟨i + 1, by omega, by go_num, by rw [HNXT.out]; rfl, HBX.out⟩, rfl⟩)
                                    · have hi10' : i = n10 := by omega
                                      have zi : ¬ (i : Int) < (n10 : Int) := by omega
                                      have hpe : pairL p q2 x0 R H i = pairL p q2 x0 R H H.length := by rw [HJ.out, hi10']
                                      rw [hpe]
                                      have HB9 := Lib.hid (HB8.out.trans (HBY.out.mono HB8.out.size))
                                      clear hpe HB8 HBY
                                      cases hbt : hitN p q2 s r (pairL p q2 x0 R H H.length) with
                                      | true =>
                                        have hc2 := HCN2.out
                                        rw [hbt, if_pos rfl] at hc2
                                        have HC2 := Lib.hid hc2
                                        clear hc2 hbt
                                        go_wp2_with fail
                                        go_roundw
                                        case measure => simp [intOf]; omega
                                        case rel => first | exact ⟨r + 1, by omega, by go_num, by rw [HC2.out]; go_num, HB9.out⟩ | ((repeat apply Exists.intro); exact ⟨⟨r + 1, by omega, by go_num, by rw [HC2.out]; go_num, HB9.out⟩, rfl⟩)
                                      | false =>
                                        have hc2 := HCN2.out
                                        rw [hbt] at hc2
                                        have HC2 := Lib.hid hc2
                                        clear hc2 hbt
                                        go_wp2_with fail
                                        go_roundw
                                        case measure => simp [intOf]; omega
                                        case rel => first | exact ⟨r + 1, by omega, by go_num, by rw [HC2.out]; simp, HB9.out⟩ | ((repeat apply Exists.intro); exact ⟨⟨r + 1, by omega, by go_num, by rw [HC2.out]; simp, HB9.out⟩, rfl⟩)
                              · obtain rfl : r = all := by omega
                                have zr : ¬ (r : Int) < (r : Int) := by omega
                                have hcg := cnt_good HPK.out hsp (pairL p q2 x0 R H H.length) (pairL_good (by omega) HH.out hh hsz2) (by rw [pairL_len p q2 x0 R H _ (Nat.le_refl _), HJ.out]; omega)
                                have ewt : p ^ (q2 - H.length) = want := by rw [HJ.out, HM.out, HWT.out]
                                rw [pairL_len p q2 x0 R H _ (Nat.le_refl _), ewt, HALL.out] at hcg
                                clear ewt
                                rw [hcg]
                                clear hcg hcl c0a c1a
                                go_wp2_with fail
                                go_roundw
                                case measure => simp [intOf]; omega
                                case rel => first | exact ⟨s + 1, by omega, by go_num, HBQ.out⟩ | ((repeat apply Exists.intro); exact ⟨⟨s + 1, by omega, by go_num, HBQ.out⟩, rfl⟩)
                          · have hsp' : s = p := by omega
                            have zs : ¬ (s : Int) < (p : Int) := by omega
                            have hkz := KW6.out.below HBS.out
                            have hwz : BasesOk ws := HW.out.below (below_to hkz.old HDE.out)
                            have HAW := Lib.hid (a_awake ws hwz)
                            have HBZ := Lib.hid (below_to hkz.old HDE.out)
                            clear hkz hwz
                            go_wp2_with fail
                            refine HAW.out.mono ?_
                            rintro e wz ⟨rfl, hbz⟩
                            have HBE := Lib.hid (HBZ.out.trans (hbz.mono HBZ.out.size))
                            clear hbz
                            go_wp2_with fail
                            go_ret
                            exact ⟨rfl, HBE.out⟩
end Go.Proofs.YtgeahbmaeaoeeaaGreatDoor

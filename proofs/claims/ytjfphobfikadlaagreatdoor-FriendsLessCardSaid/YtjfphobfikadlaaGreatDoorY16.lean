/- Contracts: linear equations are solved. -/
import Derived.Test.YtjfphobfikadlaaGreatDoorY15
import Derived.BigRegion
set_option linter.unusedVariables false
set_option linter.unusedSimpArgs false
namespace Go.Proofs.YtjfphobfikadlaaGreatDoor
open Go.RowKit Num

theorem gb_new {a b c : World} {row : Option Nat} {rb : Nat} (h : a.grownBy b (some rb)) (k : b.grownBy c row) (hr : ∀ g, row = some g → a.heap.size ≤ g) : a.grownBy c (some rb) :=
  ⟨k.os.trans h.os, k.tape.trans h.tape, k.output.trans h.output, Nat.le_trans h.size k.size, fun i hi hne => (k.block i (by have := h.size; omega) (fun e => by have := hr i e.symm; omega)).trans (h.block i hi hne)⟩
theorem dot_cg2 (r : List Int) (f g : Nat → Int) : ∀ u, (∀ j, j < u → f j = g j) → dot r f u = dot r g u := by
  intro u
  induction u with
  | zero => intro _; rfl
  | succ u ih => intro h; show dot r f u + r.getD u 0 * f u = dot r g u + r.getD u 0 * g u; rw [ih fun j hj => h j (by omega), h u (Nat.lt_succ_self u)]
/-- What a round of solve keeps. -/
def SolI (w : World) (B rb n cap : Nat) (l : Value) (lead : List Nat) (R : List (List Int)) (W : World) : Prop :=
  OwnI W w.heap.size l (lead.map Int.ofNat) ∧ RowsI W B (fun b => l.ownBlock ≠ some b) rb n cap R ∧ w.grownBy W (some rb)
def SolPost (p rb u : Nat) (M : List (List Int)) (w : World) (e : Ending) (w' : World) : Prop :=
  (e = .returned (.tuple #[.slice none 0 0, .bool false]) ∧ (∀ v, ¬ Sol p u M v) ∧ w.grownBy w' (some rb)) ∨
  (∃ v L, e = .returned (.tuple #[v, .bool true]) ∧ OwnI w' w.heap.size v L ∧ L.length = u ∧ InF p L ∧ Sol p u M (fun j => L.getD j 0) ∧ w.grownBy w' (some rb))

set_option maxRecDepth 100000 in
set_option maxHeartbeats 4000000 in
theorem c_solve (p B eb rb n cap u : Nat) (M : List (List Int)) (w : World) (hp : Prm p) (h2 : p ≤ 1073741824) (hn : n ≤ 1000) (hu : u ≤ 900)
    (hE : Blk w eb 185 #[.int .i64 (p : Int), .slice (some ⟨rb, 0, none⟩) n cap]) (hR : RowsI w B (fun _ => True) rb n cap M) (hBw : B ≤ w.heap.size)
    (hM : ∀ k, k < n → (M.getD k []).length = u + 1 ∧ InF p (M.getD k [])) :
    Calls Tryz.prog 170 #[.pointer (some ⟨eb, 0, none⟩), .int .i64 (u : Int)] w (SolPost p rb u M w) := by
  obtain ⟨i0, hi, hz0, hz1, hz2⟩ := info_parts infoI
  obtain ⟨j0, hj, hy0, hy1, hy2⟩ := info_parts infoR
  have hmx : Tryz.prog.follows .mixedOrders = true := by kernel_rfl
  have hp1 : 1 ≤ p := by have := hp.1; omega
  have hroom := hR.room
  have hrl := hR.lt
  have hml := hR.len
  have hel := hE.lt
  have hne : eb ≠ rb := by
    intro e
    obtain ⟨us, h1, _⟩ := hR
    exact own_blk_ne h1 hE (by decide) (by simp [Value.ownBlock, e])
  have hblk : ∀ W, w.grownBy W (some rb) → Blk W eb 185 #[.int .i64 (p : Int), .slice (some ⟨rb, 0, none⟩) n cap] := fun W hg => hE.grown hg (by intro e; injection e; omega)
  have hc0 : ∀ W, w.grownBy W (some rb) → W.cell? ⟨eb, 0, none⟩ = some (.int .i64 (p : Int)) := fun W hg => (hblk W hg).cell 0
  have hc1 : ∀ W, w.grownBy W (some rb) → W.cell? ⟨eb, 1, none⟩ = some (.slice (some ⟨rb, 0, none⟩) n cap) := fun W hg => (hblk W hg).cell 1
  have hstart : Elim (p : Int) u 0 M M [] := Elim.start fun k hk => ⟨(hM k (by omega)).1, (hM k (by omega)).2.mem⟩
  have HBLK := Lib.hid hblk
  have HC0 := Lib.hid hc0
  have HC1 := Lib.hid hc1
  have HST0 := Lib.hid hstart
  have HR := Lib.hid hR
  have HML := Lib.hid hml
  clear hblk hc0 hc1 hstart hR hE hM hml
  go_enter Tryz.func170, Tryz.ntmps170
  go_wp2_with fail
  go_loopw [6, 7] (fun l t wr => ∃ (cc : Nat) (R : List (List Int)) (lead : List Nat), cc ≤ u ∧ t = .int .i64 (cc : Int) ∧ Elim (p : Int) u cc M R lead ∧ SolI w B rb n cap l lead R wr) (fun _ t _ => u - (intOf t).toNat)
  case atStart => exact ⟨0, M, [], by omega, rfl, HST0.out, OwnI.nil _ _, HR.out.mono (fun b _ _ => by simp [Value.ownBlock]), World.grownBy.refl w _⟩
  case round =>
    obtain ⟨cc, R, lead, hcu, rfl, hel1, hsi⟩ := hrel
    obtain ⟨wo, hwo⟩ : ∃ wo, wo = wr := ⟨wr, rfl⟩
    subst hwo
    obtain ⟨pl, hpl⟩ : ∃ pl, lead.length = pl := ⟨_, rfl⟩
    obtain ⟨Al, ca, rfl⟩ : ∃ A c, u6 = .slice A pl c := by
      rcases hsi.1.form with ⟨h, h0⟩ | ⟨g, c, h, _⟩
      · have := congrArg List.length h0
        simp at this
        rw [this] at hpl
        exact ⟨none, 0, by rw [h, ← hpl]; rfl⟩
      · exact ⟨_, _, by rw [h, List.length_map, hpl]⟩
    have hrn : R.length = n := hsi.2.1.len
    have hpln : pl ≤ n := by have := hel1.leads; omega
    have hrl1 : ∀ k, k < n → (R.getD k []).length = u + 1 ∧ InF p (R.getD k []) := fun k hk => ⟨(hel1.elems k (by omega)).1, InF.of_mem (hel1.elems k (by omega)).2⟩
    have HEL := Lib.hid hel1
    have HSI := Lib.hid hsi
    have HPL := Lib.hid hpl
    have HRN := Lib.hid hrn
    have HRL := Lib.hid hrl1
    clear hel1 hsi hpl hrn hrl1
    by_cases hcl : cc < u
    · have t1 : decide ((cc : Int) < (u : Int)) = true := decide_eq_true (by omega)
      by_cases hln : pl < n
      · have t2 : decide ((pl : Int) < (n : Int)) = true := decide_eq_true (by omega)
        have hsz := HSI.out.2.2.size
        have e0 := HC0.out wo HSI.out.2.2
        have e1 := HC1.out wo HSI.out.2.2
        have hpv := c_pivot p B (fun b => (Value.slice Al pl ca).ownBlock ≠ some b) eb rb n cap pl cc R wo hp.1 h2 hn hln (HBLK.out wo HSI.out.2.2) HSI.out.2.1
          (fun b hb e => by have := (World.ownsRow.lt HSI.out.1 b e).2; omega) (by omega) (fun k hk => ⟨by rw [(HRL.out k hk).1]; omega, by rw [(HRL.out k hk).1]; omega, (HRL.out k hk).2⟩)
        have HPV := Lib.hid hpv
        clear hpv
        go_wp2_with fail
        refine HPV.out.mono ?_
        rintro e w1 hpost
        rcases hpost with ⟨rfl, hz, hb⟩ | ⟨k, hk1, hk2, hnz, rfl, hrows, hg⟩
        · have hnew : SolI w B rb n cap (.slice Al pl ca) lead R w1 := ⟨HSI.out.1.below hb, HSI.out.2.1.below hb, gb_new HSI.out.2.2 (only_of_below hb none) (by simp)⟩
          have hsk := HEL.out.skip (fun k h1 h3 => hz k (by rw [← HPL.out]; exact h1) (by rw [← HRN.out]; exact h3))
          have HNEW := Lib.hid hnew
          have HSK := Lib.hid hsk
          clear hnew hsk hz hb
          go_wp2_with fail
          go_roundw
          case measure => simp [intOf]; omega
          case rel => exact ⟨cc + 1, R, lead, by omega, by go_num, HSK.out, HNEW.out⟩
        · have hap := HSI.out.2.1.apart (HSI.out.1.mono (by omega : B ≤ w.heap.size))
          have hO1 : OwnI w1 w.heap.size (.slice Al pl ca) (lead.map Int.ofNat) := HSI.out.1.kept hg hap
          have hg1 : w.grownBy w1 (some rb) := World.grownBy.trans HSI.out.2.2 hg
          have hsz1 := hg1.size
          have hel2 := elim_round hp HEL.out hcl (k := k) (by rw [HPL.out]; exact hk1) (by rw [HRN.out]; exact hk2) hnz
          have hpe := pivM_elems (c := cc) hp1 HRN.out hln hk2 HRL.out
          have hpn : (pivM p R pl k cc).length = n := by rw [pivM_len]; exact HRN.out
          have hrd : rndM p R lead.length k cc = clrM p pl cc (pivM p R pl k cc) n := by unfold rndM; rw [HPL.out, HRN.out]
          rw [hrd] at hel2
          generalize pivM p R pl k cc = P at *
          have hll : (lead.map Int.ofNat).length ≤ n := by simp; rw [HPL.out]; omega
          have HO1 := Lib.hid hO1
          have HG1 := Lib.hid hg1
          have HEL2 := Lib.hid hel2
          have HPE := Lib.hid hpe
          have HPN := Lib.hid hpn
          have HRW := Lib.hid hrows
          clear hO1 hg1 hel2 hpe hpn hrows hrd hg HSI hnz HRL
          have f1 := HC1.out w1 HG1.out
          go_wp2_with (at_builtin; refine wpList_append_any _ rfl _ _ 24 rfl w.heap.size 3 i0 (.int .i64 0) 1 8 Tryz.underlying24 hi hz0 hz1 hz2 rfl (by decide) _ _ _ rfl (HO1.out.alloc _) (w1.heap.size + 1) (some ⟨w1.heap.size, 0, none⟩) 1 1 [.int .i64 (cc : Int)] rfl ⟨rfl, fun _ => ⟨_, rfl, Nat.lt_succ_self _, fun j u hj => by have := cell_one_new w1 (.int .i64 (cc : Int)) 3 j u hj; simpa using this⟩⟩ (ints_oneCell .i64 [_]) (by unfold maxLen; omega) (by omega) (by simp; omega) ?_)
          intro v' w5 hown5 hgrow5 hloc
          have hg5 := grown_past hgrow5
          have hO5 : OwnI w5 w.heap.size v' ((lead ++ [cc]).map Int.ofNat) := by
            unfold OwnI
            simpa using hown5
          have hS5 : SolI w B rb n cap v' (lead ++ [cc]) P w5 := by
            refine ⟨hO5, ?_, gb_new HG1.out hg5 fun g hg' => (World.ownsRow.lt HO1.out g hg').1⟩
            have hm1 : RowsI w1 B (fun b => (Value.slice Al pl ca).ownBlock ≠ some b ∧ b < w1.heap.size) rb n cap P := HRW.out.mono fun b h1 h3 => ⟨h3, h1⟩
            have hm2 := hm1.kept hg5 (by
              rcases hap with h | h
              · rw [h]; simp
              · exact h) (fun g hg' h => h.1 hg')
            refine hm2.mono fun b _ h => ?_
            rcases hloc with h3 | h3
            · rw [h3]; exact h.1
            · rw [h3]
              intro e
              injection e with e
              have := h.2
              try simp at e
              omega
          have HS5 := Lib.hid hS5
          clear hown5 hgrow5 hloc hg5 hO5 hS5 HRW HO1
          have g1 := HC1.out w5 HS5.out.2.2
          go_wp2_with fail
          go_loopw [47] (fun t wr => ∃ i : Nat, i ≤ n ∧ t = .int .i64 i ∧ SolI w B rb n cap v' (lead ++ [cc]) (clrM p pl cc P i) wr) (fun t _ => n - (intOf t).toNat)
          case atStart => exact ⟨0, by omega, rfl, HS5.out⟩
          case round =>
            obtain ⟨i, hin, rfl, hsi⟩ := hrel
            have HSI := Lib.hid hsi
            by_cases hlt : i < n
            · have gi := clrM_get p pl cc P i (by rw [HPN.out]; omega) i
              have gpl := clrM_get p pl cc P i (by rw [HPN.out]; omega) pl
              rw [if_neg (by omega)] at gi gpl
              obtain ⟨vi, hci, hoi, _⟩ := hsi.2.1.at_ (k := i) hlt
              obtain ⟨vp, hcp, hop, _⟩ := hsi.2.1.at_ (k := pl) hln
              rw [gi] at hoi
              rw [gpl] at hop
              have hli := (HPE.out i hlt).1
              have hlp := (HPE.out pl hln).1
              rcases hoi.form with ⟨_, h0⟩ | ⟨gr, cr, rfl, _⟩
              · rw [h0] at hli; simp at hli
              rcases hop.form with ⟨_, h0⟩ | ⟨gp, cp, rfl, _⟩
              · rw [h0] at hlp; simp at hlp
              have cy := hoi.cell cc (by omega)
              rw [hli] at hci hoi
              rw [hlp] at hcp hop
              obtain ⟨y, hy⟩ : ∃ y, (P.getD i []).getD cc 0 = y := ⟨_, rfl⟩
              have fy := (HPE.out i hlt).2.get hp1 cc
              rw [hy] at cy fy
              have e0 := HC0.out wr hsi.2.2
              have e1 := HC1.out wr hsi.2.2
              have qi : (i : Int) < (n : Int) := by omega
              have qi0 : (0 : Int) ≤ (i : Int) := by omega
              have qc : (cc : Int) < (u : Int) + 1 := by omega
              have qc0 : (0 : Int) ≤ (cc : Int) := by omega
              have qp : (pl : Int) < (n : Int) := by omega
              have qp0 : (0 : Int) ≤ (pl : Int) := by omega
              have hst : clrM p pl cc P (i + 1) = clrS p pl cc (clrM p pl cc P i) i := rfl
              unfold clrS at hst
              rw [gi, gpl] at hst
              by_cases hip : i = pl
              · rw [if_pos hip] at hst
                have t3 : ((i : Int) != (pl : Int)) = false := by rw [hip]; simp
                have HSTE := Lib.hid hst
                have HIP := Lib.hid hip
                clear hst hip hsi hoi hop gi gpl hli hlp hy
                go_wp2_with fail
                go_roundw
                case measure => simp [intOf]; omega
                case rel => exact ⟨i + 1, by omega, by go_num, by rw [HSTE.out]; exact HSI.out⟩
              rw [if_neg hip] at hst
              have t3 : ((i : Int) != (pl : Int)) = true := by simp; omega
              by_cases hy0 : y = 0
              · have t4 : (y != 0) = false := by rw [hy0]; rfl
                unfold clrR at hst
                rw [hy, if_pos hy0, ← gi, set_same] at hst
                have HSTE := Lib.hid hst
                have HIP := Lib.hid hip
                have HY0 := Lib.hid hy0
                clear hst hip hsi hoi hop gi gpl hli hlp hy hy0
                go_wp2_with fail
                go_roundw
                case measure => simp [intOf]; omega
                case rel => exact ⟨i + 1, by omega, by go_num, by rw [HSTE.out]; exact HSI.out⟩
              · have t4 : (y != 0) = true := by simpa using hy0
                unfold clrR at hst
                rw [hy, if_neg hy0] at hst
                obtain ⟨s, hs⟩ : ∃ s, (0 - y) % (p : Int) = s := ⟨_, rfl⟩
                have hs0 := Int.emod_nonneg (0 - y) (show (p : Int) ≠ 0 by omega)
                have hs1 := Int.emod_lt_of_pos (0 - y) (show (0 : Int) < p by omega)
                have hsub := fun W => f_Sub p 0 y W hp1 (by omega) (by omega) (by omega) (by omega) (by omega)
                rw [hs] at hst hs0 hs1
                simp only [hs] at hsub
                have hoid : OwnI wr.drew B (.slice (some ⟨gr, 0, none⟩) (u + 1) cr) (P.getD i []) := hoi
                have hopd : OwnI wr.drew B (.slice (some ⟨gp, 0, none⟩) (u + 1) cp) (P.getD pl []) := hop
                have hlin := f_Linear p (.slice (some ⟨gr, 0, none⟩) (u + 1) cr) (.slice (some ⟨gp, 0, none⟩) (u + 1) cp) (P.getD i []) (P.getD pl []) s _ _ wr.drew hp1 h2 hs0 (by omega) hoid.ints (fun q hq => hq.2) hopd.ints (fun q hq => hq.2) (by omega) (by omega) (HPE.out i hlt).2 (HPE.out pl hln).2
                have hfz := hsi.2.1.frozen i
                have b0 : eb < wr.drew.heap.size := by show eb < wr.heap.size; have := hsi.2.2.size; omega
                have b1 : rb < wr.drew.heap.size := by show rb < wr.heap.size; have := hsi.2.2.size; omega
                have b2 : gr < wr.drew.heap.size := by show gr < wr.heap.size; exact hoi.lt.2
                have HSTE := Lib.hid hst
                have HIP := Lib.hid hip
                have HY0 := Lib.hid hy0
                have HLIN := Lib.hid hlin
                have HSUB := Lib.hid hsub
                clear hst hip hsi hoi hop hoid hopd hlin hsub gi gpl hli hlp hy hy0 hs
                go_wp2_with fail
                refine wp_region_last_lit _ _ (fun W => W.cell? ⟨eb, 0, none⟩ = some (.int .i64 (p : Int)) ∧ W.cell? ⟨eb, 1, none⟩ = some (.slice (some ⟨rb, 0, none⟩) n cap) ∧ W.cell? ⟨rb, pl, none⟩ = some (.slice (some ⟨gp, 0, none⟩) (u + 1) cp) ∧ W.cell? ⟨gr, cc, none⟩ = some (.int .i64 y) ∧ W.frozen? ⟨rb, i, none⟩ = false ∧ W.cell? ⟨rb, i, none⟩ = some (.slice (some ⟨gr, 0, none⟩) (u + 1) cr)) hmx rfl (by kernel_rfl) ⟨e0, e1, hcp, cy, hfz, hci⟩ (fun hS => ?_)
                simp only [List.dropLast]
                refine wpAnyH_take (i := 0) (v := ?_) rfl (by kernel_rfl) (by kernel_rfl) (by kernel_rfl) (fun _ _ _ h => h) (Or.inl ⟨by rfl, ?_⟩) (by assumption) ?_
                rotate_left
                · (intro w hSw; (try dsimp only at hSw); go_simp; try (with_reducible rfl))
                try simp only [Act.put, List.setIfInBounds_toArray, List.set_cons_zero, List.set_cons_succ]
                refine wpAnyH_take (i := 1) (v := ?_) rfl (by kernel_rfl) (by kernel_rfl) (by kernel_rfl) (fun _ _ _ h => h) (Or.inl ⟨by rfl, ?_⟩) (by assumption) ?_
                rotate_left
                · (intro w hSw; (try dsimp only at hSw); go_simp; try (with_reducible rfl))
                try simp only [Act.put, List.setIfInBounds_toArray, List.set_cons_zero, List.set_cons_succ]
                refine wpAnyH_take (i := 2) (v := ?_) rfl (by kernel_rfl) (by kernel_rfl) (by kernel_rfl) (fun _ _ _ h => h) (Or.inl ⟨by rfl, ?_⟩) (by assumption) ?_
                rotate_left
                · (intro w hSw; (try dsimp only at hSw); go_simp; try (with_reducible rfl))
                try simp only [Act.put, List.setIfInBounds_toArray, List.set_cons_zero, List.set_cons_succ]
                refine wpAnyH_take (i := 3) (v := ?_) rfl (by kernel_rfl) (by kernel_rfl) (by kernel_rfl) (fun _ _ _ h => h) (Or.inl ⟨by rfl, ?_⟩) (by assumption) ?_
                rotate_left
                · (intro w hSw; (try dsimp only at hSw); go_simp; try (with_reducible rfl))
                try simp only [Act.put, List.setIfInBounds_toArray, List.set_cons_zero, List.set_cons_succ]
                refine wpAnyH_take (i := 4) (v := ?_) rfl (by kernel_rfl) (by kernel_rfl) (by kernel_rfl) (fun _ _ _ h => h) (Or.inl ⟨by rfl, ?_⟩) (by assumption) ?_
                rotate_left
                · (intro w hSw; (try dsimp only at hSw); go_simp; try (with_reducible rfl))
                try simp only [Act.put, List.setIfInBounds_toArray, List.set_cons_zero, List.set_cons_succ]
                refine wpAnyH_take (i := 5) (v := ?_) rfl (by kernel_rfl) (by kernel_rfl) (by kernel_rfl) (fun _ _ _ h => h) (Or.inl ⟨by rfl, ?_⟩) (by assumption) ?_
                rotate_left
                · (intro w hSw; (try dsimp only at hSw); go_simp; try (with_reducible rfl))
                try simp only [Act.put, List.setIfInBounds_toArray, List.set_cons_zero, List.set_cons_succ]
                refine wpAnyH_take (i := 6) (v := ?_) rfl (by kernel_rfl) (by kernel_rfl) (by kernel_rfl) (fun _ _ _ h => h) (Or.inl ⟨by rfl, ?_⟩) (by assumption) ?_
                rotate_left
                · (intro w hSw; (try dsimp only at hSw); go_simp; try (with_reducible rfl))
                try simp only [Act.put, List.setIfInBounds_toArray, List.set_cons_zero, List.set_cons_succ]
                refine wpAnyH_take (i := 7) (v := ?_) rfl (by kernel_rfl) (by kernel_rfl) (by kernel_rfl) (fun _ _ _ h => h) (Or.inl ⟨by rfl, ?_⟩) (by assumption) ?_
                rotate_left
                · (intro w hSw; (try dsimp only at hSw); go_simp; try (with_reducible rfl))
                try simp only [Act.put, List.setIfInBounds_toArray, List.set_cons_zero, List.set_cons_succ]
                refine wpAnyH_take (i := 8) (v := ?_) rfl (by kernel_rfl) (by kernel_rfl) (by kernel_rfl) (fun _ _ _ h => h) (Or.inl ⟨by rfl, ?_⟩) (by assumption) ?_
                rotate_left
                · (intro w hSw; (try dsimp only at hSw); go_simp; try (with_reducible rfl))
                try simp only [Act.put, List.setIfInBounds_toArray, List.set_cons_zero, List.set_cons_succ]
                refine wpAnyH_take (i := 9) (v := ?_) rfl (by kernel_rfl) (by kernel_rfl) (by kernel_rfl) (fun _ _ _ h => h) (Or.inl ⟨by rfl, ?_⟩) (by assumption) ?_
                rotate_left
                · (intro w hSw; (try dsimp only at hSw); go_simp; try (with_reducible rfl))
                try simp only [Act.put, List.setIfInBounds_toArray, List.set_cons_zero, List.set_cons_succ]
                refine wpAnyH_take (i := 10) (v := ?_) rfl (by kernel_rfl) (by kernel_rfl) (by kernel_rfl) (fun _ _ _ h => h) (Or.inl ⟨by rfl, ?_⟩) (by assumption) ?_
                rotate_left
                · (intro w hSw; (try dsimp only at hSw); go_simp; try (with_reducible rfl))
                try simp only [Act.put, List.setIfInBounds_toArray, List.set_cons_zero, List.set_cons_succ]
                refine wpAnyH_take (i := 11) (v := ?_) rfl (by kernel_rfl) (by kernel_rfl) (by kernel_rfl) (fun _ _ _ h => h) (Or.inl ⟨by rfl, ?_⟩) (by assumption) ?_
                rotate_left
                · (intro w hSw; (try dsimp only at hSw); go_simp; try (with_reducible rfl))
                try simp only [Act.put, List.setIfInBounds_toArray, List.set_cons_zero, List.set_cons_succ]
                refine wpAnyH_take (i := 12) (v := ?_) rfl (by kernel_rfl) (by kernel_rfl) (by kernel_rfl) (fun _ _ _ h => h) (Or.inl ⟨by rfl, ?_⟩) (by assumption) ?_
                rotate_left
                · (intro w hSw; (try dsimp only at hSw); go_simp; try (with_reducible rfl))
                try simp only [Act.put, List.setIfInBounds_toArray, List.set_cons_zero, List.set_cons_succ]
                refine wpAnyH_take (i := 13) (v := ?_) rfl (by kernel_rfl) (by kernel_rfl) (by kernel_rfl) (fun _ _ _ h => h) (Or.inl ⟨by rfl, ?_⟩) (by assumption) ?_
                rotate_left
                · (intro w hSw; (try dsimp only at hSw); go_simp; try (with_reducible rfl))
                try simp only [Act.put, List.setIfInBounds_toArray, List.set_cons_zero, List.set_cons_succ]
                refine wpAnyH_take (i := 14) (v := ?_) rfl (by kernel_rfl) (by kernel_rfl) (by kernel_rfl) (fun _ _ _ h => h) (Or.inl ⟨by rfl, ?_⟩) (by assumption) ?_
                rotate_left
                · (intro w hSw; (try dsimp only at hSw); go_simp; try (with_reducible rfl))
                try simp only [Act.put, List.setIfInBounds_toArray, List.set_cons_zero, List.set_cons_succ]
                refine wpAnyH_take (i := 15) (v := ?_) rfl (by kernel_rfl) (by kernel_rfl) (by kernel_rfl) (fun _ _ _ h => h) (Or.inl ⟨by rfl, ?_⟩) (by assumption) ?_
                rotate_left
                · (intro w hSw; (try dsimp only at hSw); go_simp; try (with_reducible rfl))
                try simp only [Act.put, List.setIfInBounds_toArray, List.set_cons_zero, List.set_cons_succ]
                refine wpAnyH_take (i := 16) (v := ?_) rfl (by kernel_rfl) (by kernel_rfl) (by kernel_rfl) (fun _ _ _ h => h) (Or.inl ⟨by rfl, ?_⟩) (by assumption) ?_
                rotate_left
                · (intro w hSw; (try dsimp only at hSw); go_simp; try (with_reducible rfl))
                try simp only [Act.put, List.setIfInBounds_toArray, List.set_cons_zero, List.set_cons_succ]
                refine wpAnyH_take (i := 17) (v := ?_) rfl (by kernel_rfl) (by kernel_rfl) (by kernel_rfl) (fun _ _ _ h => h) (Or.inl ⟨by rfl, ?_⟩) (by assumption) ?_
                rotate_left
                · (intro w hSw; (try dsimp only at hSw); go_simp; try (with_reducible rfl))
                try simp only [Act.put, List.setIfInBounds_toArray, List.set_cons_zero, List.set_cons_succ]
                refine wpAnyH_take (i := 18) (v := ?_) rfl (by kernel_rfl) (by kernel_rfl) (by kernel_rfl) (fun _ _ _ h => h) (Or.inl ⟨by rfl, ?_⟩) (by assumption) ?_
                rotate_left
                · (intro w hSw; (try dsimp only at hSw); go_simp; try (with_reducible rfl))
                try simp only [Act.put, List.setIfInBounds_toArray, List.set_cons_zero, List.set_cons_succ]
                refine wpAnyH_take (i := 19) (v := ?_) rfl (by kernel_rfl) (by kernel_rfl) (by kernel_rfl) (fun _ _ _ h => h) (Or.inl ⟨by rfl, ?_⟩) (by assumption) ?_
                rotate_left
                · (intro w hSw; (try dsimp only at hSw); go_simp; try (with_reducible rfl))
                try simp only [Act.put, List.setIfInBounds_toArray, List.set_cons_zero, List.set_cons_succ]
                refine wpAnyH_take (i := 20) (v := ?_) rfl (by kernel_rfl) (by kernel_rfl) (by kernel_rfl) (fun _ _ _ h => h) (Or.inl ⟨by rfl, ?_⟩) (by assumption) ?_
                rotate_left
                · (intro w hSw; (try dsimp only at hSw); go_simp; try (with_reducible rfl))
                try simp only [Act.put, List.setIfInBounds_toArray, List.set_cons_zero, List.set_cons_succ]
                refine wpAnyH_take (i := 21) (v := ?_) rfl (by kernel_rfl) (by kernel_rfl) (by kernel_rfl) (fun _ _ _ h => h) (Or.inl ⟨by rfl, ?_⟩) (by assumption) ?_
                rotate_left
                · (intro w hSw; (try dsimp only at hSw); go_simp; try (with_reducible rfl))
                try simp only [Act.put, List.setIfInBounds_toArray, List.set_cons_zero, List.set_cons_succ]
                refine wpAnyH_take (i := 22) (v := ?_) rfl (by kernel_rfl) (by kernel_rfl) (by kernel_rfl) (fun _ _ _ h => h) (Or.inl ⟨by rfl, ?_⟩) (by assumption) ?_
                rotate_left
                · (intro w hSw; (try dsimp only at hSw); go_simp; try (with_reducible rfl))
                try simp only [Act.put, List.setIfInBounds_toArray, List.set_cons_zero, List.set_cons_succ]
                refine wpAnyH_take (i := 23) (v := ?_) rfl (by kernel_rfl) (by kernel_rfl) (by kernel_rfl) (fun _ _ _ h => h) (Or.inl ⟨by rfl, ?_⟩) (by assumption) ?_
                rotate_left
                · (intro w hSw; (try dsimp only at hSw); go_simp; try (with_reducible rfl))
                try simp only [Act.put, List.setIfInBounds_toArray, List.set_cons_zero, List.set_cons_succ]
                refine wpAnyH_take (i := 24) (v := ?_) rfl (by kernel_rfl) (by kernel_rfl) (by kernel_rfl) (fun _ _ _ h => h) (Or.inl ⟨by rfl, ?_⟩) (by assumption) ?_
                rotate_left
                · (intro w hSw; (try dsimp only at hSw); go_simp; try (with_reducible rfl))
                try simp only [Act.put, List.setIfInBounds_toArray, List.set_cons_zero, List.set_cons_succ]
                refine wpAnyH_ready (rs := [25]) (by kernel_rfl) (by simp) ?_
                refine AllReadyH.cons rfl (fun K hK => ?_) AllReadyH.nil
                go_simp
                refine (HSUB.out _).mono ?_
                rintro e w' ⟨rfl, rfl⟩
                refine hK.out _ _ (hS) (fun hHeld => ?_)
                clear hK K
                try simp only [Act.put, List.setIfInBounds_toArray, List.set_cons_zero, List.set_cons_succ]
                refine wpAnyH_ready (rs := [26]) (by kernel_rfl) (by simp) ?_
                refine AllReadyH.cons rfl (fun K hK => ?_) AllReadyH.nil
                go_simp
                refine HLIN.out.mono ?_
                rintro e w6 ⟨v6, rfl, ho6, hb6⟩
                have k0 := (hb6.cell (p := ⟨eb, 0, none⟩) b0).trans hS.1
                have k1 := (hb6.cell (p := ⟨eb, 1, none⟩) b0).trans hS.2.1
                have k2 := (hb6.cell (p := ⟨rb, pl, none⟩) b1).trans hS.2.2.1
                have k3 := (hb6.cell (p := ⟨gr, cc, none⟩) b2).trans hS.2.2.2.1
                have k4 := (hb6.frozen (p := ⟨rb, i, none⟩) b1).trans hS.2.2.2.2.1
                have k5 := (hb6.cell (p := ⟨rb, i, none⟩) b1).trans hS.2.2.2.2.2
                obtain ⟨A6, l6, c6, rfl⟩ : ∃ A l c, v6 = .slice A l c := by rcases ho6.form with ⟨h, _⟩ | ⟨g, c, h, _⟩ <;> exact ⟨_, _, _, h⟩
                have HO6 := Lib.hid ho6
                have HB6 := Lib.hid hb6
                clear ho6 hb6
                refine hK.out _ _ (⟨k0, k1, k2, k3, k4, k5⟩) (fun hHeld => ?_)
                clear hK K
                try simp only [Act.put, List.setIfInBounds_toArray, List.set_cons_zero, List.set_cons_succ]
                refine wpAnyH_take (i := 27) (v := ?_) rfl (by kernel_rfl) (by kernel_rfl) (by kernel_rfl) (fun _ _ _ h => h) (Or.inl ⟨by rfl, ?_⟩) (by assumption) ?_
                rotate_left
                · (intro w hSw; (try dsimp only at hSw); go_simp; try (with_reducible rfl))
                try simp only [Act.put, List.setIfInBounds_toArray, List.set_cons_zero, List.set_cons_succ]
                refine wpAnyH_done (by kernel_rfl) ?_ _
                refine lastQ_step (by rfl) (by rfl) ?_
                go_simp
                have hsd : SolI w B rb n cap v' (lead ++ [cc]) (clrM p pl cc P i) wr.drew := ⟨HSI.out.1, HSI.out.2.1, only_drew HSI.out.2.2⟩
                have hap2 := hsd.2.1.apart (hsd.1.mono (by omega : B ≤ w.heap.size))
                have hr6 := hsd.2.1.below HB6.out
                have hl6 := hsd.1.below HB6.out
                have hp6 := hr6.put (k := i) hlt (HO6.out.mono (show B ≤ wr.drew.heap.size by have := hsd.2.2.size; omega)) (Among.new HO6.out fun b hb e => by have := (World.ownsRow.lt hsd.1 b e).2; omega)
                have hnew : SolI w B rb n cap v' (lead ++ [cc]) (clrM p pl cc P (i + 1)) (w6.setCell ⟨rb, i, none⟩ (.slice A6 l6 c6)) := by
                  refine ⟨hl6.kept hp6.2 hap2, ?_, World.grownBy.trans (gb_new hsd.2.2 (only_of_below HB6.out none) (by simp)) hp6.2⟩
                  rw [HSTE.out]
                  exact hp6.1
                have HNEW := Lib.hid hnew
                clear hnew hp6 hl6 hr6 hap2 hsd
                go_wp2_with fail
                go_roundw
                case measure => simp [intOf]; omega
                case rel => exact ⟨i + 1, by omega, by go_num, HNEW.out⟩
            · have hi' : i = n := by omega
              subst hi'
              clear hsi
              go_wp2_with fail
              go_roundw
              case measure => simp [intOf]; omega
              case rel => exact ⟨cc + 1, _, lead ++ [cc], by omega, by go_num, HEL2.out, HSI.out⟩
      · have t2 : decide ((pl : Int) < (n : Int)) = false := decide_eq_false (by omega)
        have hfin : u ≤ cc ∨ n ≤ pl := .inr (by omega)
        have hsl := fun (W : World) => run_slice_lo (P := Tryz.prog) W 157 24 j0 1 Tryz.underlying157 hj hy1 (some ⟨rb, 0, none⟩) n cap pl (by omega) hroom (pl : Int) rfl
        obtain ⟨A2, hA2⟩ : ∃ A2, subA (some ⟨rb, 0, none⟩) cap pl 1 = A2 := ⟨_, rfl⟩
        obtain ⟨m, hm⟩ : ∃ m, n - pl = m := ⟨_, rfl⟩
        obtain ⟨cm, hcm⟩ : ∃ cm, cap - pl = cm := ⟨_, rfl⟩
        simp only [hA2, hm, hcm] at hsl
        have hA3 : pl < n → A2 = some ⟨rb, pl, none⟩ := fun h => by
          rw [← hA2]
          unfold subA
          rw [if_neg (by omega)]
          show some ((⟨rb, 0, none⟩ : Addr).add (pl * 1)) = _
          unfold Addr.add
          split <;> simp_all
        have HA3 := Lib.hid hA3
        have HFIN := Lib.hid hfin
        have HM := Lib.hid hm
        have e0 := HC0.out wo HSI.out.2.2
        have e1 := HC1.out wo HSI.out.2.2
        have hmk := fun (W : World) => run_make (P := Tryz.prog) W 24 3 i0 (.int .i64 0) Tryz.underlying24 hi hz0 .i64 .i64 u u (by omega) (by omega) (by rw [hz2]; omega) (by omega)
        simp only [Int.toNat_natCast, hz1, Nat.mul_one] at hmk
        clear hA3 hA2 hfin hm hcm
        go_wp2_with fail
        go_loopw [99] (fun t wr => ∃ i : Nat, i ≤ m ∧ t = .int .i64 i ∧ (∀ j, j < i → (R.getD (pl + j) []).getD u 0 = 0) ∧ wo = wr) (fun t _ => m - (intOf t).toNat)
        case atStart => exact ⟨0, by omega, rfl, fun j hj => absurd hj (Nat.not_lt_zero j), rfl⟩
        case round =>
          obtain ⟨i, him, rfl, hz, rfl⟩ := hrel
          have HZ := Lib.hid hz
          clear hz
          by_cases hlt : i < m
          · have hplin : pl + i < n := by have := HM.out; omega
            obtain rfl := HA3.out (by omega)
            obtain ⟨v, hv, ho, _⟩ := HSI.out.2.1.at_ (k := pl + i) hplin
            have hlr := (HRL.out (pl + i) hplin).1
            rcases ho.form with ⟨_, h0⟩ | ⟨gr, cr, rfl, _⟩
            · rw [h0] at hlr; simp at hlr
            have cy := ho.cell u (by omega)
            rw [hlr] at hv
            obtain ⟨y, hy⟩ : ∃ y, (R.getD (pl + i) []).getD u 0 = y := ⟨_, rfl⟩
            rw [hy] at cy
            have HY := Lib.hid hy
            have qi : (i : Int) < (m : Int) := by omega
            have qi0 : (0 : Int) ≤ (i : Int) := by omega
            have qu : (u : Int) < (u : Int) + 1 := by omega
            have qu0 : (0 : Int) ≤ (u : Int) := by omega
            clear hy ho hlr
            by_cases hy0 : y = 0
            · have t0 : (y != 0) = false := by rw [hy0]; rfl
              have HY0 := Lib.hid hy0
              clear hy0
              go_wp2_with fail
              go_roundw
              case measure => simp [intOf]; omega
              case rel => exact ⟨i + 1, by omega, by go_num, fun j hj => by
                rcases Nat.lt_or_ge j i with h | h
                · exact HZ.out j h
                · rw [show j = i by omega, HY.out]; exact HY0.out, by first | rfl | trivial⟩
            · have t0 : (y != 0) = true := by simpa using hy0
              have HY0 := Lib.hid hy0
              clear hy0
              go_wp2_with fail
              go_ret2
              exact .inl ⟨rfl, fun v => HEL.out.none (by rcases HFIN.out with h | h <;> omega) (k := pl + i) (by rw [HPL.out]; omega) (by rw [HRN.out]; exact hplin) (by rw [HY.out]; exact HY0.out) v, HSI.out.2.2⟩
          · have hi' : i = m := by omega
            subst hi'
            have hzz : ∀ k, lead.length ≤ k → k < R.length → (R.getD k []).getD u 0 = 0 := fun k h1 h3 => by
              have := HPL.out; have := HRN.out; have := HM.out
              have h4 := HZ.out (k - pl) (by omega)
              rwa [show pl + (k - pl) = k by omega] at h4
            have hsol := HEL.out.solves (by omega) hzz
            rw [HPL.out] at hsol
            have HSOL := Lib.hid hsol
            have hown := OwnI.made (B := wo.heap.size) wo u (Nat.le_refl _) (by omega)
            have hrep : List.replicate u (0 : Int) = (List.range u).map (solV u R lead 0) := by
              apply List.ext_getElem (by simp)
              intro j h1 h2
              simp [solV]
            rw [hrep] at hown
            have HOWN := Lib.hid hown
            clear hzz hsol hown hrep HZ
            go_wp2_with fail
            obtain ⟨g, hg⟩ : ∃ g, wo.heap.size = g := ⟨_, rfl⟩
            have hbw0 : Below wo.heap.size wo (wo.alloc (.cells (madeCells #[Value.int .i64 0] u) 3)) := (Below.refl _ _).alloc (Nat.le_refl _) _
            have HBW0 := Lib.hid hbw0
            rw [hg] at HOWN
            try rw [hg]
            have HG := Lib.hid hg
            clear hbw0 hg
            go_loopw [113] (fun t wr => ∃ k : Nat, k ≤ pl ∧ t = .int .i64 k ∧ OwnI wr g (.slice (some ⟨g, 0, none⟩) u u) ((List.range u).map (solV u R lead k)) ∧ Below wo.heap.size wo wr) (fun t _ => pl - (intOf t).toNat)
            case atStart => exact ⟨0, by omega, rfl, HOWN.out, HBW0.out⟩
            case round =>
              obtain ⟨k, hkp, rfl, ho, hb⟩ := hrel
              have HO := Lib.hid ho
              have HB := Lib.hid hb
              by_cases hlt2 : k < pl
              · have hkl : k < lead.length := by rw [HPL.out]; exact hlt2
                have hOl : OwnI wr w.heap.size (.slice Al pl ca) (lead.map Int.ofNat) := HSI.out.1.below hb
                have hRl := HSI.out.2.1.below hb
                rcases hOl.form with ⟨_, h0⟩ | ⟨gl, cl, hv, _⟩
                · have := congrArg List.length h0; simp at this; subst this; simp at hkl
                rw [show (lead.map Int.ofNat).length = pl by rw [List.length_map]; exact HPL.out] at hv
                injection hv with v1 _ v3
                subst v1 v3
                have ck := hOl.cell k (by simp; exact hkl)
                have hmd : (lead.map Int.ofNat).getD k 0 = (lead.getD k 0 : Int) := by
                  rw [List.getD_eq_getElem?_getD, List.getElem?_map, List.getElem?_eq_getElem hkl, List.getD_eq_getElem?_getD, List.getElem?_eq_getElem hkl]; rfl
                rw [hmd] at ck
                obtain ⟨v, hv, hor, _⟩ := hRl.at_ (k := k) (by omega)
                have hlr := (HRL.out k (by omega)).1
                rcases hor.form with ⟨_, h0⟩ | ⟨gr, cr, rfl, _⟩
                · rw [h0] at hlr; simp at hlr
                have cy := hor.cell u (by omega)
                rw [hlr] at hv
                have hlu := HEL.out.below k hkl
                have hset := solV_set u R lead k (by omega)
                have hst := fun y => ho.set (lead.getD k 0) y
                have hco := ho.cell (lead.getD k 0) (by rw [List.length_map, List.length_range]; omega)
                have hfz := ho.frozen (lead.getD k 0)
                have hgl : wo.heap.size ≤ g := by rw [HG.out]; exact Nat.le_refl _
                have f0 := HC0.out wr (gb_new HSI.out.2.2 (only_of_below hb none) (by simp))
                have f1 := HC1.out wr (gb_new HSI.out.2.2 (only_of_below hb none) (by simp))
                generalize (R.getD k []).getD u 0 = y at *
                obtain ⟨ld, hld⟩ : ∃ ld, lead.getD k 0 = ld := ⟨_, rfl⟩
                rw [hld] at ck hlu hset hst hco hfz
                generalize ((List.range u).map (solV u R lead k)).getD ld 0 = yo at *
                have HSET := Lib.hid hset
                have HST := Lib.hid hst
                have qk : (k : Int) < (pl : Int) := by omega
                have qk0 : (0 : Int) ≤ (k : Int) := by omega
                have qkn : (k : Int) < (n : Int) := by omega
                have qu : (u : Int) < (u : Int) + 1 := by omega
                have qu0 : (0 : Int) ≤ (u : Int) := by omega
                have ql : (ld : Int) < (u : Int) := by omega
                have ql0 : (0 : Int) ≤ (ld : Int) := by omega
                clear hset hst ho hb hOl hRl hor hld hmd hlr
                go_wp2_with fail
                go_roundw
                case measure => simp [intOf]; omega
                case rel => exact ⟨k + 1, by omega, by go_num, by rw [← HSET.out]; exact HST.out y, HB.out.setCell (p := ⟨g, ld, none⟩) hgl _⟩
              · have hk' : k = pl := by omega
                subst hk'
                clear ho hb
                go_wp2_with fail
                go_ret2
                refine .inr ⟨_, _, rfl, HO.out.mono (by rw [← HG.out]; exact HSI.out.2.2.size), by simp, InF.of_mem ?_, ?_, gb_new HSI.out.2.2 (only_of_below HB.out none) (by simp)⟩
                · intro x hx
                  obtain ⟨j, _, rfl⟩ := List.mem_map.1 hx
                  exact solV_bd hp1 (fun i hi => (HRL.out i (by rw [← HRN.out]; exact hi)).2) j _
                · intro r hr
                  have := HSOL.out r hr
                  unfold sat at this ⊢
                  rwa [dot_cg2 r _ _ u fun j hj => solL_get u _ j hj]
    · have t1 : decide ((cc : Int) < (u : Int)) = false := decide_eq_false (by omega)
      have hfin : u ≤ cc ∨ n ≤ pl := .inl (by omega)
      have hsl := fun (W : World) => run_slice_lo (P := Tryz.prog) W 157 24 j0 1 Tryz.underlying157 hj hy1 (some ⟨rb, 0, none⟩) n cap pl (by omega) hroom (pl : Int) rfl
      obtain ⟨A2, hA2⟩ : ∃ A2, subA (some ⟨rb, 0, none⟩) cap pl 1 = A2 := ⟨_, rfl⟩
      obtain ⟨m, hm⟩ : ∃ m, n - pl = m := ⟨_, rfl⟩
      obtain ⟨cm, hcm⟩ : ∃ cm, cap - pl = cm := ⟨_, rfl⟩
      simp only [hA2, hm, hcm] at hsl
      have hA3 : pl < n → A2 = some ⟨rb, pl, none⟩ := fun h => by
        rw [← hA2]
        unfold subA
        rw [if_neg (by omega)]
        show some ((⟨rb, 0, none⟩ : Addr).add (pl * 1)) = _
        unfold Addr.add
        split <;> simp_all
      have HA3 := Lib.hid hA3
      have HFIN := Lib.hid hfin
      have HM := Lib.hid hm
      have e0 := HC0.out wo HSI.out.2.2
      have e1 := HC1.out wo HSI.out.2.2
      have hmk := fun (W : World) => run_make (P := Tryz.prog) W 24 3 i0 (.int .i64 0) Tryz.underlying24 hi hz0 .i64 .i64 u u (by omega) (by omega) (by rw [hz2]; omega) (by omega)
      simp only [Int.toNat_natCast, hz1, Nat.mul_one] at hmk
      clear hA3 hA2 hfin hm hcm
      go_wp2_with fail
      go_loopw [99] (fun t wr => ∃ i : Nat, i ≤ m ∧ t = .int .i64 i ∧ (∀ j, j < i → (R.getD (pl + j) []).getD u 0 = 0) ∧ wo = wr) (fun t _ => m - (intOf t).toNat)
      case atStart => exact ⟨0, by omega, rfl, fun j hj => absurd hj (Nat.not_lt_zero j), rfl⟩
      case round =>
        obtain ⟨i, him, rfl, hz, rfl⟩ := hrel
        have HZ := Lib.hid hz
        clear hz
        by_cases hlt : i < m
        · have hplin : pl + i < n := by have := HM.out; omega
          obtain rfl := HA3.out (by omega)
          obtain ⟨v, hv, ho, _⟩ := HSI.out.2.1.at_ (k := pl + i) hplin
          have hlr := (HRL.out (pl + i) hplin).1
          rcases ho.form with ⟨_, h0⟩ | ⟨gr, cr, rfl, _⟩
          · rw [h0] at hlr; simp at hlr
          have cy := ho.cell u (by omega)
          rw [hlr] at hv
          obtain ⟨y, hy⟩ : ∃ y, (R.getD (pl + i) []).getD u 0 = y := ⟨_, rfl⟩
          rw [hy] at cy
          have HY := Lib.hid hy
          have qi : (i : Int) < (m : Int) := by omega
          have qi0 : (0 : Int) ≤ (i : Int) := by omega
          have qu : (u : Int) < (u : Int) + 1 := by omega
          have qu0 : (0 : Int) ≤ (u : Int) := by omega
          clear hy ho hlr
          by_cases hy0 : y = 0
          · have t0 : (y != 0) = false := by rw [hy0]; rfl
            have HY0 := Lib.hid hy0
            clear hy0
            go_wp2_with fail
            go_roundw
            case measure => simp [intOf]; omega
            case rel => exact ⟨i + 1, by omega, by go_num, fun j hj => by
              rcases Nat.lt_or_ge j i with h | h
              · exact HZ.out j h
              · rw [show j = i by omega, HY.out]; exact HY0.out, by first | rfl | trivial⟩
          · have t0 : (y != 0) = true := by simpa using hy0
            have HY0 := Lib.hid hy0
            clear hy0
            go_wp2_with fail
            go_ret2
            exact .inl ⟨rfl, fun v => HEL.out.none (by rcases HFIN.out with h | h <;> omega) (k := pl + i) (by rw [HPL.out]; omega) (by rw [HRN.out]; exact hplin) (by rw [HY.out]; exact HY0.out) v, HSI.out.2.2⟩
        · have hi' : i = m := by omega
          subst hi'
          have hzz : ∀ k, lead.length ≤ k → k < R.length → (R.getD k []).getD u 0 = 0 := fun k h1 h3 => by
            have := HPL.out; have := HRN.out; have := HM.out
            have h4 := HZ.out (k - pl) (by omega)
            rwa [show pl + (k - pl) = k by omega] at h4
          have hsol := HEL.out.solves (by omega) hzz
          rw [HPL.out] at hsol
          have HSOL := Lib.hid hsol
          have hown := OwnI.made (B := wo.heap.size) wo u (Nat.le_refl _) (by omega)
          have hrep : List.replicate u (0 : Int) = (List.range u).map (solV u R lead 0) := by
            apply List.ext_getElem (by simp)
            intro j h1 h2
            simp [solV]
          rw [hrep] at hown
          have HOWN := Lib.hid hown
          clear hzz hsol hown hrep HZ
          go_wp2_with fail
          obtain ⟨g, hg⟩ : ∃ g, wo.heap.size = g := ⟨_, rfl⟩
          have hbw0 : Below wo.heap.size wo (wo.alloc (.cells (madeCells #[Value.int .i64 0] u) 3)) := (Below.refl _ _).alloc (Nat.le_refl _) _
          have HBW0 := Lib.hid hbw0
          rw [hg] at HOWN
          try rw [hg]
          have HG := Lib.hid hg
          clear hbw0 hg
          go_loopw [113] (fun t wr => ∃ k : Nat, k ≤ pl ∧ t = .int .i64 k ∧ OwnI wr g (.slice (some ⟨g, 0, none⟩) u u) ((List.range u).map (solV u R lead k)) ∧ Below wo.heap.size wo wr) (fun t _ => pl - (intOf t).toNat)
          case atStart => exact ⟨0, by omega, rfl, HOWN.out, HBW0.out⟩
          case round =>
            obtain ⟨k, hkp, rfl, ho, hb⟩ := hrel
            have HO := Lib.hid ho
            have HB := Lib.hid hb
            by_cases hlt2 : k < pl
            · have hkl : k < lead.length := by rw [HPL.out]; exact hlt2
              have hOl : OwnI wr w.heap.size (.slice Al pl ca) (lead.map Int.ofNat) := HSI.out.1.below hb
              have hRl := HSI.out.2.1.below hb
              rcases hOl.form with ⟨_, h0⟩ | ⟨gl, cl, hv, _⟩
              · have := congrArg List.length h0; simp at this; subst this; simp at hkl
              rw [show (lead.map Int.ofNat).length = pl by rw [List.length_map]; exact HPL.out] at hv
              injection hv with v1 _ v3
              subst v1 v3
              have ck := hOl.cell k (by simp; exact hkl)
              have hmd : (lead.map Int.ofNat).getD k 0 = (lead.getD k 0 : Int) := by
                rw [List.getD_eq_getElem?_getD, List.getElem?_map, List.getElem?_eq_getElem hkl, List.getD_eq_getElem?_getD, List.getElem?_eq_getElem hkl]; rfl
              rw [hmd] at ck
              obtain ⟨v, hv, hor, _⟩ := hRl.at_ (k := k) (by omega)
              have hlr := (HRL.out k (by omega)).1
              rcases hor.form with ⟨_, h0⟩ | ⟨gr, cr, rfl, _⟩
              · rw [h0] at hlr; simp at hlr
              have cy := hor.cell u (by omega)
              rw [hlr] at hv
              have hlu := HEL.out.below k hkl
              have hset := solV_set u R lead k (by omega)
              have hst := fun y => ho.set (lead.getD k 0) y
              have hco := ho.cell (lead.getD k 0) (by rw [List.length_map, List.length_range]; omega)
              have hfz := ho.frozen (lead.getD k 0)
              have hgl : wo.heap.size ≤ g := by rw [HG.out]; exact Nat.le_refl _
              have f0 := HC0.out wr (gb_new HSI.out.2.2 (only_of_below hb none) (by simp))
              have f1 := HC1.out wr (gb_new HSI.out.2.2 (only_of_below hb none) (by simp))
              generalize (R.getD k []).getD u 0 = y at *
              obtain ⟨ld, hld⟩ : ∃ ld, lead.getD k 0 = ld := ⟨_, rfl⟩
              rw [hld] at ck hlu hset hst hco hfz
              generalize ((List.range u).map (solV u R lead k)).getD ld 0 = yo at *
              have HSET := Lib.hid hset
              have HST := Lib.hid hst
              have qk : (k : Int) < (pl : Int) := by omega
              have qk0 : (0 : Int) ≤ (k : Int) := by omega
              have qkn : (k : Int) < (n : Int) := by omega
              have qu : (u : Int) < (u : Int) + 1 := by omega
              have qu0 : (0 : Int) ≤ (u : Int) := by omega
              have ql : (ld : Int) < (u : Int) := by omega
              have ql0 : (0 : Int) ≤ (ld : Int) := by omega
              clear hset hst ho hb hOl hRl hor hld hmd hlr
              go_wp2_with fail
              go_roundw
              case measure => simp [intOf]; omega
              case rel => exact ⟨k + 1, by omega, by go_num, by rw [← HSET.out]; exact HST.out y, HB.out.setCell (p := ⟨g, ld, none⟩) hgl _⟩
            · have hk' : k = pl := by omega
              subst hk'
              clear ho hb
              go_wp2_with fail
              go_ret2
              refine .inr ⟨_, _, rfl, HO.out.mono (by rw [← HG.out]; exact HSI.out.2.2.size), by simp, InF.of_mem ?_, ?_, gb_new HSI.out.2.2 (only_of_below HB.out none) (by simp)⟩
              · intro x hx
                obtain ⟨j, _, rfl⟩ := List.mem_map.1 hx
                exact solV_bd hp1 (fun i hi => (HRL.out i (by rw [← HRN.out]; exact hi)).2) j _
              · intro r hr
                have := HSOL.out r hr
                unfold sat at this ⊢
                rwa [dot_cg2 r _ _ u fun j hj => solL_get u _ j hj]
end Go.Proofs.YtjfphobfikadlaaGreatDoor

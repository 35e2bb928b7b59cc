/- Contracts: the entries of a view that are not withdrawn, where none is. -/
import Derived.Test.YtgeahbmaeaoeeaaGreatDoorVwMem
import Derived.Lib.SliceRun
set_option linter.unusedVariables false
set_option linter.unusedSimpArgs false
namespace Go.Proofs.YtgeahbmaeaoeeaaGreatDoor
open Go.RowKit Num

theorem infoSe : (Tryz.prog.info? 39).map (fun i => (i.zero, i.size, i.bytes)) = some (some (.agg #[.int .i64 0, .int .i64 0, .int .i64 0, .int .i64 0, .int .i64 0, .slice none 0 0, .slice none 0 0]), 7, 88) := by kernel_rfl
set_option maxRecDepth 100000 in
set_option maxHeartbeats 400000 in
theorem q_stand1 (a b c d e : Int) (x y : Value) (w : World) (h : c ≠ 2) (hx : x.oneCell' = true) (hy : y.oneCell' = true) : Calls Tryz.prog 51 #[.agg #[.int .i64 a, .int .i64 b, .int .i64 c, .int .i64 d, .int .i64 e, x, y]] w fun e w' => e = .returned (.bool false) ∧ Below w.heap.size w w' := by
  have z1 : (c == 2) = false := by simpa using h
  have HB := Lib.hid ((Below.refl w.heap.size w).alloc (Nat.le_refl _) (.cells #[.int .i64 a, .int .i64 b, .int .i64 c, .int .i64 d, .int .i64 e, x, y] 39))
  clear h
  go_enter Tryz.func51, Tryz.ntmps51
  go_wp2_with fail
  go_ret
  exact ⟨rfl, HB.out⟩
set_option maxRecDepth 100000 in
set_option maxHeartbeats 1000000 in
theorem i_SeenN (v : Value) (L : List SeenS) (w : World) (hv : SeensAt w (· < w.heap.size) v L) (hl : L.length ≤ 1000000) (hn : ∀ k, k < L.length → (seeL L k).st ≠ 2) :
    Calls Tryz.prog 75 #[v, .func (.func 51) #[] #[]] w fun e w' => e = .returned (.int .i64 (-1)) ∧ Below w.heap.size w w' := by
  obtain ⟨A, n, c, rfl, hnl, hnc, hA⟩ := id hv
  have n1 : n ≤ 1000000 := by omega
  have HA := Lib.hid hA
  have HN := Lib.hid hnl
  have HX := Lib.hid hn
  clear hv hA hnl hl hn
  go_enter Tryz.func75, Tryz.ntmps75
  go_wp2_with fail
  go_loopw [8] (fun v8 wr => ∃ i : Nat, i ≤ n ∧ v8 = .int .i64 (i : Int) ∧ Below w.heap.size w wr) (fun v8 _ => n - (intOf v8).toNat)
  case atStart => exact ⟨0, by omega, rfl, Below.refl _ _⟩
  case round =>
    obtain ⟨i, hi, rfl, hbr⟩ := hrel
    rename World => wr
    have HBR := Lib.hid hbr
    have hsz := hbr.size
    clear hbr
    by_cases hlt : i < n
    · obtain ⟨b, off, rfl, hSb, hcl⟩ := HA.out (by omega)
      obtain ⟨x, y, hs⟩ := hcl i hlt
      have hs2 := hs.keep (HBR.out.block b hSb) (fun g hg => HBR.out.block g hg)
      obtain ⟨c0, c1, c2, c3, c4, c5, c6, ⟨A1, n1', k1, rfl, -⟩, ⟨A2, n2', k2, rfl, -⟩⟩ := hs2
      have h2 := HX.out i (by rw [← HN.out]; exact hlt)
      generalize (seeL L i).num = z0 at *
      generalize (seeL L i).time = z1 at *
      generalize (seeL L i).st = z2 at *
      generalize (seeL L i).len = z3 at *
      generalize (seeL L i).ep = z4 at *
      have hc := fun (W : World) => q_stand1 z0 z1 z2 z3 z4 (.slice A1 n1' k1) (.slice A2 n2' k2) W h2 rfl rfl
      have HC := Lib.hid hc
      have zi : (i : Int) < (n : Int) := by omega
      have zi0 : (0 : Int) ≤ (i : Int) := by omega
      clear hc hs hcl h2
      go_wp2_with fail
      refine (HC.out wr).mono ?_
      rintro e w1 ⟨rfl, hb1⟩
      have HB1 := Lib.hid (HBR.out.trans (hb1.mono HBR.out.size))
      clear hb1
      go_wp2_with fail
      go_roundw
      case measure => simp [intOf]; omega
      case rel => exact ⟨i + 1, by omega, by go_num, HB1.out⟩
    · obtain rfl : i = n := by omega
      go_wp2_with fail
      go_ret
      exact ⟨rfl, HBR.out⟩
set_option maxRecDepth 100000 in
set_option maxHeartbeats 400000 in
theorem q_DeleteN (A : Option Addr) (n c : Nat) (L : List SeenS) (w : World) (hv : SeensAt w (· < w.heap.size) (.slice A n c) L) (hl : L.length ≤ 1000000) (hn : ∀ k, k < L.length → (seeL L k).st ≠ 2) :
    Calls Tryz.prog 49 #[.slice A n c, .func (.func 51) #[] #[]] w fun e w' => e = .returned (.slice A n c) ∧ Below w.heap.size w w' := by
  have HI := Lib.hid (i_SeenN (.slice A n c) L w hv hl hn)
  clear hv hl hn
  go_enter Tryz.func49, Tryz.ntmps49
  go_wp2_with fail
  refine HI.out.mono ?_
  rintro e w1 ⟨rfl, hb1⟩
  have HB1 := Lib.hid hb1
  clear hb1
  go_wp2_with fail
  go_ret
  exact ⟨rfl, HB1.out⟩
def SeensE (L : List SeenS) (w : World) (e : Ending) (w' : World) : Prop := ∃ v, e = .returned v ∧ SeensAt w' (· < w'.heap.size) v L ∧ Below w.heap.size w w'
set_option maxRecDepth 100000 in
set_option maxHeartbeats 1000000 in
theorem q_CloneSe (v : Value) (L : List SeenS) (w : World) (hv : SeensAt w (· < w.heap.size) v L) (hl : L.length ≤ 1000000) :
    Calls Tryz.prog 50 #[v] w (SeensE L w) := by
  obtain ⟨i0, hi, hz0, hz1, hz2⟩ := info_parts infoSe
  obtain ⟨A, n, c, rfl, -⟩ := id hv
  obtain ⟨us, vs, hrd, hus, hn, hnc, hA⟩ := hv.reads (fun b hb => hb)
  have n1 : n ≤ 1000000 := by omega
  have HRD := Lib.hid hrd
  have HUS := Lib.hid hus
  have HN := Lib.hid hn
  rcases A with _ | ad
  · have h0 : n = 0 := by
      rcases Nat.eq_zero_or_pos n with h | h
      · exact h
      · obtain ⟨b, off, h, -⟩ := hA h; cases h
    subst h0
    have hL : L = [] := List.eq_nil_of_length_eq_zero (by omega)
    have HL := Lib.hid hL
    have q41 := fun (W : World) => Lib.run_eql_slice_nil (P := Tryz.prog) W 40 39 none 0 c 0 0 Tryz.underlying40
    clear hv hrd hus hn hA hL
    go_enter Tryz.func50, Tryz.ntmps50
    go_wp2_with fail
    go_ret
    exact ⟨_, rfl, by rw [HL.out]; exact SeensAt.none_ _ _ _, Below.refl _ _⟩
  · have hone : ∀ u ∈ seeC L us vs, u.oneCell' = true := by
      intro u hu
      obtain ⟨j, hj, rfl⟩ := List.getElem_of_mem hu
      have hjl : j < 7 * L.length := by rw [seeC_len] at hj; omega
      have hg := seeC_get L us vs j hjl
      rw [List.getElem?_eq_getElem hj] at hg
      injection hg with hg
      rw [hg]
      obtain ⟨k, r, hr, rfl⟩ : ∃ k r, r < 7 ∧ j = k * 7 + r := ⟨j / 7, j % 7, Nat.mod_lt _ (by omega), by omega⟩
      obtain ⟨v0, v1, v2, v3, v4, v5, v6⟩ := seeV_at L us vs k
      obtain ⟨⟨A1, n1', k1, e1, -⟩, ⟨A2, n2', k2, e2, -⟩⟩ := HUS.out k (by have := HN.out; omega)
      rcases (show r = 0 ∨ r = 1 ∨ r = 2 ∨ r = 3 ∨ r = 4 ∨ r = 5 ∨ r = 6 by omega) with rfl | rfl | rfl | rfl | rfl | rfl | rfl
      · rw [Nat.add_zero, v0]; rfl
      · rw [v1]; rfl
      · rw [v2]; rfl
      · rw [v3]; rfl
      · rw [v4]; rfl
      · rw [v5, e1]; rfl
      · rw [v6, e2]; rfl
    have HONE := Lib.hid hone
    have q41 := fun (W : World) => Lib.run_eql_slice_nil (P := Tryz.prog) W 40 39 (some ad) n c 0 0 Tryz.underlying40
    clear hv hrd hus hn hone hA hl
    go_enter Tryz.func50, Tryz.ntmps50
    go_wp2_with (at_builtin; refine wpList_append_any _ rfl _ _ 40 rfl w.heap.size 39 i0 (.agg #[.int .i64 0, .int .i64 0, .int .i64 0, .int .i64 0, .int .i64 0, .slice none 0 0, .slice none 0 0]) 7 88 Tryz.underlying40 hi hz0 hz1 hz2 rfl (by decide) (.slice (some ⟨w.heap.size, 0, none⟩) 0 0) 0 [] rfl (World.ownsRow_lit w #[] 0 (Nat.le_refl _) (by simp only [maxLen]; omega) rfl) w.heap.size (some ad) n c (seeC L us vs) rfl (HRD.out.alloc (Nat.le_refl _) _) HONE.out (by simp only [maxLen]; omega) (by omega) (by simp) ?_)
    intro v' w3 hown' hgrow hloc
    have hg0 : w.grownBy w3 (some w.heap.size) := ⟨hgrow.os, hgrow.tape, hgrow.output, Nat.le_trans (by simp) hgrow.size, fun i hi hn => (hgrow.block i (by simp; omega) (by simpa [Value.ownBlock] using hn)).trans (Below.heap_alloc w _ i hi)⟩
    have hbl := (Below.refl w.heap.size w).grown hg0 (Nat.le_refl _) (fun g hg => by injection hg with hg; omega)
    have HO := Lib.hid hown'
    have HB := Lib.hid hbl
    clear hown' hgrow hloc hg0 hbl
    go_wp2_with fail
    go_ret
    have ho := HO.out
    exact ⟨_, rfl, SeensAt.of_own ho HN.out (fun k hk => ⟨(HUS.out k hk).1.up HB.out, (HUS.out k hk).2.up HB.out⟩), HB.out⟩
set_option maxRecDepth 100000 in
set_option maxHeartbeats 400000 in
/-- The entries that stand, where none is withdrawn. -/
theorem q_standingN (vH vE vO vT : Value) (L : List SeenS) (w : World) (hv : SeensAt w (· < w.heap.size) vE L) (hl : L.length ≤ 1000000) (hn : ∀ k, k < L.length → (seeL L k).st ≠ 2) :
    Calls Tryz.prog 27 #[.agg #[vH, vE, vO, vT]] w (SeensE L w) := by
  have hb0 : Below w.heap.size w (w.alloc (.cells #[vH, vE, vO, vT] 44)) := (Below.refl _ w).alloc (Nat.le_refl _) _
  obtain ⟨A, n, c, rfl, -⟩ := id hv
  have c1 : (w.alloc (.cells #[vH, .slice A n c, vO, vT] 44)).cell? ⟨w.heap.size, 1, none⟩ = some (.slice A n c) := by rw [World.cell?_alloc_new]; rfl
  have HC := Lib.hid (q_CloneSe (.slice A n c) L _ (hv.up hb0) hl)
  have HD := Lib.hid (fun (A : Option Addr) (n c : Nat) (W : World) (h : SeensAt W (· < W.heap.size) (.slice A n c) L) => q_DeleteN A n c L W h hl hn)
  have HB := Lib.hid hb0
  clear hb0 hv hl hn
  go_enter Tryz.func27, Tryz.ntmps27
  go_wp2_with fail
  refine HC.out.mono ?_
  rintro e w1 ⟨v1, rfl, hs1, hb1⟩
  have HB1 := Lib.hid (HB.out.trans (hb1.mono HB.out.size))
  have HS1 := Lib.hid hs1
  obtain ⟨A1, n1, k1, rfl, -⟩ := id hs1
  clear hb1 hs1
  go_wp2_with fail
  refine (HD.out A1 n1 k1 _ HS1.out).mono ?_
  rintro e w2 ⟨rfl, hb2⟩
  have HS2 := Lib.hid (HS1.out.up hb2)
  have HB2 := Lib.hid (HB1.out.trans (hb2.mono HB1.out.size))
  clear hb2
  go_wp2_with fail
  go_ret
  exact ⟨_, rfl, HS2.out, HB2.out⟩
end Go.Proofs.YtgeahbmaeaoeeaaGreatDoor

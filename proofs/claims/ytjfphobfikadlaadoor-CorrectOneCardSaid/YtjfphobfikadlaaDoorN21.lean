/- Contracts: the first row that has something in a column; a pivot. -/
import Derived.Test.YtjfphobfikadlaaDoorN16
import Derived.BigRegion
set_option linter.unusedVariables false
set_option linter.unusedSimpArgs false
namespace Go.Proofs.YtjfphobfikadlaaDoor
open Go.RowKit Num

theorem infoR : (Tryd.prog.info? 22).map (fun i => (i.zero, i.size, i.bytes)) = some (some (.slice none 0 0), 1, 24) := by kernel_rfl
set_option maxHeartbeats 1000000 in
theorem c_piv1 (cb : Nat) (col : Nat) (g len cap : Nat) (y : Int) (w : World) (hc : w.cell? ⟨cb, 0, none⟩ = some (.int .i64 (col : Int))) (hl : col < len) (hy : w.cell? ⟨g, col, none⟩ = some (.int .i64 y)) :
    Calls Tryd.prog 101 #[.slice (some ⟨g, 0, none⟩) len cap, .pointer (some ⟨cb, 0, none⟩)] w fun e w' => e = .returned (.bool (y != 0)) ∧ w = w' := by
  have q0 : (0 : Int) ≤ (col : Int) := by omega
  have q1 : (col : Int) < (len : Int) := by omega
  go_enter Tryd.func101, Tryd.ntmps101
  go_wp2_with fail
  go_ret
  exact ⟨rfl, rfl⟩
/-- The first place where something stands. -/
def FirstNZ (f : Nat → Int) (m : Nat) (r : Int) : Prop := (r = -1 ∧ ∀ j, j < m → f j = 0) ∨ ∃ j : Nat, j < m ∧ r = (j : Int) ∧ f j ≠ 0
set_option maxRecDepth 100000 in
set_option maxHeartbeats 1000000 in
theorem c_IndexFunc (cb col m c B : Nat) (A : Option Addr) (L : Nat → List Int) (w : World) (hm : m ≤ 1000) (hmc : m ≤ c) (hcb : w.cell? ⟨cb, 0, none⟩ = some (.int .i64 (col : Int)))
    (hA : 0 < m → ∃ rb off, A = some ⟨rb, off, none⟩ ∧ ∀ j, j < m → ∃ u, w.cell? ⟨rb, off + j, none⟩ = some u ∧ OwnI w B u (L j) ∧ col < (L j).length) :
    Calls Tryd.prog 100 #[.slice A m c, .func (.func 101) #[] #[.pointer (some ⟨cb, 0, none⟩)]] w fun e w' => ∃ r, e = .returned (.int .i64 r) ∧ FirstNZ (fun j => (L j).getD col 0) m r ∧ w = w' := by
  have HA := Lib.hid hA
  clear hA
  go_enter Tryd.func100, Tryd.ntmps100
  go_wp2_with fail
  go_loopw [8] (fun t wr => ∃ i : Nat, i ≤ m ∧ t = .int .i64 i ∧ (∀ j, j < i → (L j).getD col 0 = 0) ∧ w = wr) (fun t _ => m - (intOf t).toNat)
  case atStart => exact ⟨0, by omega, rfl, fun j hj => absurd hj (Nat.not_lt_zero j), rfl⟩
  case round =>
    obtain ⟨i, him, rfl, hz, rfl⟩ := hrel
    have HZ := Lib.hid hz
    clear hz
    by_cases hlt : i < m
    · obtain ⟨rb, off, rfl, hrow⟩ := HA.out (by omega)
      obtain ⟨u, hu, ho, hcl⟩ := hrow i hlt
      rcases ho.form with ⟨_, h0⟩ | ⟨g, cap, rfl, hcap⟩
      · rw [h0] at hcl; simp at hcl
      have cy := ho.cell col hcl
      obtain ⟨y, hy⟩ : ∃ y, (L i).getD col 0 = y := ⟨_, rfl⟩
      rw [hy] at cy
      have hp := c_piv1 cb col g (L i).length cap y w hcb hcl cy
      generalize (L i).length = len at *
      have HP := Lib.hid hp
      have HY := Lib.hid hy
      have qi : (i : Int) < (m : Int) := by omega
      have qi0 : (0 : Int) ≤ (i : Int) := by omega
      clear hp hy ho hcl cy hrow hcb
      by_cases hy0 : y = 0
      · have t0 : (y != 0) = false := by rw [hy0]; rfl
        have HY0 := Lib.hid hy0
        clear hy0
        rw [t0] at HP
        clear t0
        go_wp2_with fail
        refine HP.out.mono ?_
        rintro e w' ⟨rfl, rfl⟩
        go_wp2_with fail
        go_roundw
        case measure => simp [intOf]; omega
        case rel => exact ⟨i + 1, by omega, by go_num, fun j hj => by
          rcases Nat.lt_or_ge j i with h | h
          · exact HZ.out j h
          · rw [show j = i by omega, HY.out]; exact HY0.out, by first | rfl | trivial⟩
      · have t0 : (y != 0) = true := by simpa using hy0
        have HY0 := Lib.hid hy0
        clear hy0
        rw [t0] at HP
        clear t0
        go_wp2_with fail
        refine HP.out.mono ?_
        rintro e w' ⟨rfl, rfl⟩
        go_wp2_with fail
        go_ret
        exact ⟨_, rfl, .inr ⟨i, hlt, rfl, by show (L i).getD col 0 ≠ 0; rw [HY.out]; exact HY0.out⟩, rfl⟩
    · have hi' : i = m := by omega
      subst hi'
      go_wp2_with fail
      go_ret
      exact ⟨_, rfl, .inl ⟨rfl, HZ.out⟩, rfl⟩

/-- The rows behind a pivot: row number k comes to the place and is made 1 in the column; the row that was there goes to place k. -/
def pivM (p : Nat) (M : List (List Int)) (pl k col : Nat) : List (List Int) :=
  ((M.set pl (M.getD k [])).set k (M.getD pl [])).set pl (linL p (invP p ((M.getD k []).getD col 0)) [] (M.getD k []))
def PivPost (p B : Nat) (S : Nat → Prop) (eb rb n cap pl col : Nat) (M : List (List Int)) (w : World) (e : Ending) (w' : World) : Prop :=
  (e = .returned (.bool false) ∧ (∀ k, pl ≤ k → k < n → (M.getD k []).getD col 0 = 0) ∧ Below w.heap.size w w') ∨
  (∃ k, pl ≤ k ∧ k < n ∧ (M.getD k []).getD col 0 ≠ 0 ∧ e = .returned (.bool true) ∧ RowsI w' B S rb n cap (pivM p M pl k col) ∧ w.grownBy w' (some rb))
set_option maxRecDepth 100000 in
set_option maxHeartbeats 2000000 in
theorem c_pivot (p B : Nat) (S : Nat → Prop) (eb rb n cap pl col : Nat) (M : List (List Int)) (w : World) (hp2 : 2 ≤ p) (h2 : p ≤ 1073741824) (hn : n ≤ 1000) (hpl : pl < n)
    (hE : Blk w eb 93 #[.int .i64 (p : Int), .slice (some ⟨rb, 0, none⟩) n cap]) (hR : RowsI w B S rb n cap M) (hSn : ∀ b, w.heap.size ≤ b → S b) (hBw : B ≤ w.heap.size)
    (hM : ∀ k, k < n → col < (M.getD k []).length ∧ (M.getD k []).length ≤ 1000 ∧ InF p (M.getD k [])) :
    Calls Tryd.prog 92 #[.pointer (some ⟨eb, 0, none⟩), .int .i64 (pl : Int), .int .i64 (col : Int)] w (PivPost p B S eb rb n cap pl col M w) := by
  obtain ⟨i0, hi, hz0, hz1, hz2⟩ := info_parts infoR
  have hmx : Tryd.prog.follows .mixedOrders = true := by kernel_rfl
  have hroom := hR.room
  have hrl := hR.lt
  have hel := hE.lt
  have hne : eb ≠ rb := by
    intro e
    obtain ⟨us, h1, _⟩ := hR
    exact own_blk_ne h1 hE (by decide) (by simp [Value.ownBlock, e])
  have hsl := fun (W : World) => run_slice_lo (P := Tryd.prog) W 48 22 i0 1 Tryd.underlying48 hi hz1 (some ⟨rb, 0, none⟩) n cap pl (by omega) hroom (pl : Int) rfl
  have hadd : (if cap = pl then (some ⟨rb, 0, none⟩ : Option Addr) else some ((⟨rb, 0, none⟩ : Addr).add (pl * 1))) = some ⟨rb, pl, none⟩ := by
    rw [if_neg (by omega)]
    unfold Addr.add
    split <;> simp_all
  have hsub : subA (some ⟨rb, 0, none⟩) cap pl 1 = some ⟨rb, pl, none⟩ := hadd
  simp only [hsub] at hsl
  have e0 : w.cell? ⟨eb, 0, none⟩ = some (.int .i64 (p : Int)) := hE.cell 0
  have e1 : w.cell? ⟨eb, 1, none⟩ = some (.slice (some ⟨rb, 0, none⟩) n cap) := hE.cell 1
  have hbw : Below w.heap.size w (w.alloc (.cells #[.int .i64 (col : Int)] 3)) := (Below.refl _ _).alloc (Nat.le_refl _) _
  have hR1 := hR.below hbw
  have hcbx : (w.alloc (.cells #[.int .i64 (col : Int)] 3)).cell? ⟨w.heap.size, 0, none⟩ = some (.int .i64 (col : Int)) := by rw [World.cell?_alloc_new]; rfl
  have hix := c_IndexFunc w.heap.size col (n - pl) (cap - pl) B (some ⟨rb, pl, none⟩) (fun j => M.getD (pl + j) []) (w.alloc (.cells #[.int .i64 (col : Int)] 3)) (by omega) (by omega) hcbx
    (fun _ => ⟨rb, pl, rfl, fun j hj => by
      obtain ⟨u, h3, h4, _⟩ := hR1.at_ (k := pl + j) (by omega)
      exact ⟨u, h3, h4, (hM (pl + j) (by omega)).1⟩⟩)
  have HIX := Lib.hid hix
  have HR1 := Lib.hid hR1
  have HM := Lib.hid hM
  have HBW := Lib.hid hbw
  have e0' := (hbw.cell (p := ⟨eb, 0, none⟩) hel).trans e0
  have e1' := (hbw.cell (p := ⟨eb, 1, none⟩) hel).trans e1
  have hsz1 : (w.alloc (.cells #[.int .i64 (col : Int)] 3)).heap.size = w.heap.size + 1 := by simp
  clear hix hR1 hM hbw hadd hsub hR hE e0 e1
  go_enter Tryd.func92, Tryd.ntmps92
  go_wp2_with fail
  refine HIX.out.mono ?_
  rintro e w' ⟨r, rfl, hr, rfl⟩
  rcases hr with ⟨rfl, hz⟩ | ⟨j, hj, rfl, hnz⟩
  · go_wp2_with fail
    go_ret
    refine .inl ⟨rfl, fun k h1 h3 => ?_, HBW.out⟩
    have := hz (k - pl) (by omega)
    rwa [show pl + (k - pl) = k by omega] at this
  · have hk : pl + j < n := by omega
    generalize (w.alloc (.cells #[.int .i64 (col : Int)] 3)) = w1 at *
    obtain ⟨vP, hcP, hoP, sP⟩ := HR1.out.at_ (k := pl) hpl
    obtain ⟨vK, hcK, hoK, sK⟩ := HR1.out.at_ (k := pl + j) hk
    have hMP := HM.out pl hpl
    have hMK := HM.out (pl + j) hk
    have hput1 := HR1.out.put (k := pl) hpl hoK sK
    have hput2 := hput1.1.put (k := pl + j) hk (hoP.kept hput1.2 (HR1.out.apart hoP)) sP
    have hoK2 := (hoK.kept hput1.2 (HR1.out.apart hoK)).kept hput2.2 (hput1.1.apart (hoK.kept hput1.2 (HR1.out.apart hoK)))
    have hfr1 := HR1.out.frozen pl
    have hfr2 := HR1.out.frozen (pl + j)
    obtain ⟨y2, hy2⟩ : ∃ y2, (w1.setCell ⟨rb, pl, none⟩ vK).cell? ⟨rb, pl + j, none⟩ = some y2 := by
      obtain ⟨u, hu, _⟩ := hput1.1.at_ (k := pl + j) hk
      exact ⟨u, hu⟩
    rcases hoP.form with ⟨_, h0⟩ | ⟨gP, capP, rfl, hcapP⟩
    · rw [h0] at hMP; simp at hMP
    rcases hoK.form with ⟨_, h0⟩ | ⟨gK, cK, rfl, hcapK⟩
    · rw [h0] at hMK; simp at hMK
    have cy := hoK2.cell col hMK.1
    have fy := hMK.2.2.get (by omega : 1 ≤ p) col
    obtain ⟨y, hy⟩ : ∃ y, (M.getD (pl + j) []).getD col 0 = y := ⟨_, rfl⟩
    obtain ⟨lK, hlK⟩ : ∃ lK, (M.getD (pl + j) []).length = lK := ⟨_, rfl⟩
    obtain ⟨lP, hlP⟩ : ∃ lP, (M.getD pl []).length = lP := ⟨_, rfl⟩
    have hnz' : (M.getD (pl + j) []).getD col 0 ≠ 0 := hnz
    rw [hy] at cy fy hnz'
    rw [hlK] at hcK hoK2 hy2 hput1 hput2 cy
    rw [hlP] at hcP hput2 hoK2 cy
    have q0 : (0 : Int) ≤ (pl : Int) + (j : Int) := by omega
    have q1 : (pl : Int) + (j : Int) < (n : Int) := by omega
    have q2 : ((pl : Int) + (j : Int)).toNat = pl + j := by omega
    have q3 : (0 : Int) ≤ (pl : Int) := by omega
    have q4 : (pl : Int) < (n : Int) := by omega
    have wq : IntKind.i64.wrap ((pl : Int) + (j : Int)) = (pl : Int) + (j : Int) := IntWalk.i64_in _ ⟨by omega, by omega⟩
    have qj : ¬ (j : Int) < 0 := by omega
    have hP1 := hput1.1
    have hg12 : w1.grownBy ((w1.setCell ⟨rb, pl, none⟩ (.slice (some ⟨gK, 0, none⟩) lK cK)).setCell ⟨rb, pl + j, none⟩ (.slice (some ⟨gP, 0, none⟩) lP capP)) (some rb) := World.grownBy.trans hput1.2 hput2.2
    have HP2 := Lib.hid hput2.1
    have HG12 := Lib.hid hg12
    have HOK2 := Lib.hid hoK2
    have HY := Lib.hid hy
    have HLK := Lib.hid hlK
    have hfrr : ∀ u, (w1.setCell ⟨rb, pl, none⟩ u).frozen? ⟨rb, pl + j, none⟩ = false := fun u => by rw [World.frozen?_setCell]; exact hfr2
    clear hy hlK hlP hP1 hg12 hoK2 hput1 hput2 hoP hoK sP sK hnz hMP hMK hcapP hcapK
    go_wp2_with fail
    go_region
    have cP2 : ((w1.setCell ⟨rb, pl, none⟩ (.slice (some ⟨gK, 0, none⟩) lK cK)).setCell ⟨rb, pl + j, none⟩ (.slice (some ⟨gP, 0, none⟩) lP capP)).cell? ⟨rb, pl, none⟩ = some (.slice (some ⟨gK, 0, none⟩) lK cK) := by
      by_cases hj0 : j = 0
      · subst hj0
        have e : some (Value.slice (some ⟨gP, 0, none⟩) lP capP) = some (Value.slice (some ⟨gK, 0, none⟩) lK cK) := hcP.symm.trans hcK
        injection e with e
        rw [e]
        exact World.cell?_setCell_same' _ ⟨rb, pl + 0, none⟩ _ (by rw [hy2]; rfl)
      · rw [World.cell?_setCell_other _ _ _ _ (by intro e; injection e; omega)]
        exact World.cell?_setCell_same' _ _ _ (by rw [hcP]; rfl)
    have k0 := (World.cell?_of_block (a := ⟨eb, 0, none⟩) (HG12.out.block eb (by omega) (by intro e; injection e; omega))).trans e0'
    have k1 := (World.cell?_of_block (a := ⟨eb, 1, none⟩) (HG12.out.block eb (by omega) (by intro e; injection e; omega))).trans e1'
    have kb := (World.cell?_of_block (a := ⟨w.heap.size, 0, none⟩) (HG12.out.block w.heap.size (by omega) (by intro e; injection e; omega))).trans hcbx
    have hs2 := HG12.out.size
    have hgt : w.grownBy ((w1.setCell ⟨rb, pl, none⟩ (.slice (some ⟨gK, 0, none⟩) lK cK)).setCell ⟨rb, pl + j, none⟩ (.slice (some ⟨gP, 0, none⟩) lP capP)) (some rb) := World.grownBy.trans (only_of_below HBW.out _) HG12.out
    have HGT := Lib.hid hgt
    clear hgt HG12 HR1 HIX HBW hcP hcK hy2 hfrr hfr1 hfr2 e0' e1' hcbx
    generalize ((w1.setCell ⟨rb, pl, none⟩ (.slice (some ⟨gK, 0, none⟩) lK cK)).setCell ⟨rb, pl + j, none⟩ (.slice (some ⟨gP, 0, none⟩) lP capP)) = w2 at *
    have d0 : w2.drew.cell? ⟨eb, 0, none⟩ = some (.int .i64 (p : Int)) := k0
    have d1 : w2.drew.cell? ⟨eb, 1, none⟩ = some (.slice (some ⟨rb, 0, none⟩) n cap) := k1
    have db : w2.drew.cell? ⟨w.heap.size, 0, none⟩ = some (.int .i64 (col : Int)) := kb
    have dP : w2.drew.cell? ⟨rb, pl, none⟩ = some (.slice (some ⟨gK, 0, none⟩) lK cK) := cP2
    have dy : w2.drew.cell? ⟨gK, col, none⟩ = some (.int .i64 y) := cy
    have qc0 : (0 : Int) ≤ (col : Int) := by omega
    have qc1 : (col : Int) < (lK : Int) := by have := (HM.out (pl + j) hk).1; have := HLK.out; omega
    go_wp2_with fail
    go_quiet ((go_at_call 63; refine (f_Inverse p y _ hp2 (by omega) (by omega) (by omega)).mono ?_; rintro e w' ⟨rfl, rfl⟩; exact ⟨rfl, _, rfl⟩))
    have hiv := invP_bd p y hp2
    have hP3 : RowsI (w2.drew.drewN nq) B S rb n cap ((M.set pl (M.getD (pl + j) [])).set (pl + j) (M.getD pl [])) := HP2.out
    have hO3 : OwnI (w2.drew.drewN nq) B (.slice (some ⟨gK, 0, none⟩) lK cK) (M.getD (pl + j) []) := HOK2.out
    have hg3 : w.grownBy (w2.drew.drewN nq) (some rb) := only_drewN (only_drewN HGT.out 1) nq
    have e0 : (w2.drew.drewN nq).cell? ⟨eb, 0, none⟩ = some (.int .i64 (p : Int)) := k0
    have e1 : (w2.drew.drewN nq).cell? ⟨eb, 1, none⟩ = some (.slice (some ⟨rb, 0, none⟩) n cap) := k1
    have cP : (w2.drew.drewN nq).cell? ⟨rb, pl, none⟩ = some (.slice (some ⟨gK, 0, none⟩) lK cK) := cP2
    have hsz3 : w1.heap.size ≤ (w2.drew.drewN nq).heap.size := hs2
    clear d0 d1 db dP dy k0 k1 kb cP2 cy hs2 HP2 HOK2 HGT
    generalize (w2.drew.drewN nq) = w3 at *
    have hebl : eb < w3.drew.heap.size := by show eb < w3.heap.size; omega
    have hrbl : rb < w3.drew.heap.size := by show rb < w3.heap.size; omega
    have hfr3 : w3.drew.frozen? ⟨rb, pl, none⟩ = false := hP3.frozen pl
    have hmk := HM.out (pl + j) hk
    have hO3d : OwnI w3.drew B (.slice (some ⟨gK, 0, none⟩) lK cK) (M.getD (pl + j) []) := hO3
    have hlin := f_Linear p (.slice none 0 0) (.slice (some ⟨gK, 0, none⟩) lK cK) [] (M.getD (pl + j) []) (invP p y) (fun _ => False) _ w3.drew (by omega) h2 hiv.1 (by omega) ⟨none, 0, 0, rfl, rfl, Nat.le_refl _, fun h => absurd h (Nat.lt_irrefl 0)⟩ (fun b hb => hb.elim) hO3d.ints (fun q hq => hq.2) (by simp) (by omega) (InF.nil p) hmk.2.2
    have HLIN := Lib.hid hlin
    have HP3 := Lib.hid hP3
    have HG3 := Lib.hid hg3
    clear hlin hP3 hg3 hO3 hO3d hmk
    obtain ⟨iv, hive⟩ : ∃ iv, invP p y = iv := ⟨_, rfl⟩
    rw [hive] at hiv HLIN ⊢
    have HIV := Lib.hid hive
    clear hive
    go_wp2_with fail
    refine wp_region_last_lit _ _ (fun W => W.cell? ⟨eb, 0, none⟩ = some (.int .i64 (p : Int)) ∧ W.cell? ⟨eb, 1, none⟩ = some (.slice (some ⟨rb, 0, none⟩) n cap) ∧ W.cell? ⟨rb, pl, none⟩ = some (.slice (some ⟨gK, 0, none⟩) lK cK)) hmx rfl (by kernel_rfl) ⟨e0, e1, cP⟩ (fun hS => ?_)
    simp only [List.dropLast]
    refine wpAnyH_take (i := 0) (v := ?_) rfl (by kernel_rfl) (by kernel_rfl) (by kernel_rfl) (fun _ _ _ h => h) (Or.inl ⟨by rfl, ?_⟩) (by assumption) ?_
    rotate_left
    · (intro w hSw; (try dsimp only at hSw); go_simp; try (with_reducible rfl))
    try simp only [Act.put, List.setIfInBounds_toArray, List.set_cons_zero, List.set_cons_succ]
    refine wpAnyH_take (i := 1) (v := ?_) rfl (by kernel_rfl) (by kernel_rfl) (by kernel_rfl) (fun _ _ _ h => h) (Or.inl ⟨by rfl, ?_⟩) (by assumption) ?_
    rotate_left
    · (intro w hSw; (try dsimp only at hSw); go_simp; try (with_reducible rfl))
    try simp only [Act.put, List.setIfInBounds_toArray, List.set_cons_zero, List.set_cons_succ]
    refine wpAnyH_take (i := 2) (v := ?_) rfl (by kernel_rfl) (by kernel_rfl) (by kernel_rfl) (fun _ _ _ h => h) (Or.inl ⟨by rfl, ?_⟩) (by assumption) ?_
    rotate_left
    · (intro w hSw; (try dsimp only at hSw); go_simp; try (with_reducible rfl))
    try simp only [Act.put, List.setIfInBounds_toArray, List.set_cons_zero, List.set_cons_succ]
    refine wpAnyH_take (i := 3) (v := ?_) rfl (by kernel_rfl) (by kernel_rfl) (by kernel_rfl) (fun _ _ _ h => h) (Or.inl ⟨by rfl, ?_⟩) (by assumption) ?_
    rotate_left
    · (intro w hSw; (try dsimp only at hSw); go_simp; try (with_reducible rfl))
    try simp only [Act.put, List.setIfInBounds_toArray, List.set_cons_zero, List.set_cons_succ]
    refine wpAnyH_take (i := 4) (v := ?_) rfl (by kernel_rfl) (by kernel_rfl) (by kernel_rfl) (fun _ _ _ h => h) (Or.inl ⟨by rfl, ?_⟩) (by assumption) ?_
    rotate_left
    · (intro w hSw; (try dsimp only at hSw); go_simp; try (with_reducible rfl))
    try simp only [Act.put, List.setIfInBounds_toArray, List.set_cons_zero, List.set_cons_succ]
    refine wpAnyH_take (i := 5) (v := ?_) rfl (by kernel_rfl) (by kernel_rfl) (by kernel_rfl) (fun _ _ _ h => h) (Or.inl ⟨by rfl, ?_⟩) (by assumption) ?_
    rotate_left
    · (intro w hSw; (try dsimp only at hSw); go_simp; try (with_reducible rfl))
    try simp only [Act.put, List.setIfInBounds_toArray, List.set_cons_zero, List.set_cons_succ]
    refine wpAnyH_take (i := 6) (v := ?_) rfl (by kernel_rfl) (by kernel_rfl) (by kernel_rfl) (fun _ _ _ h => h) (Or.inl ⟨by rfl, ?_⟩) (by assumption) ?_
    rotate_left
    · (intro w hSw; (try dsimp only at hSw); go_simp; try (with_reducible rfl))
    try simp only [Act.put, List.setIfInBounds_toArray, List.set_cons_zero, List.set_cons_succ]
    refine wpAnyH_take (i := 7) (v := ?_) rfl (by kernel_rfl) (by kernel_rfl) (by kernel_rfl) (fun _ _ _ h => h) (Or.inl ⟨by rfl, ?_⟩) (by assumption) ?_
    rotate_left
    · (intro w hSw; (try dsimp only at hSw); go_simp; try (with_reducible rfl))
    try simp only [Act.put, List.setIfInBounds_toArray, List.set_cons_zero, List.set_cons_succ]
    refine wpAnyH_take (i := 8) (v := ?_) rfl (by kernel_rfl) (by kernel_rfl) (by kernel_rfl) (fun _ _ _ h => h) (Or.inl ⟨by rfl, ?_⟩) (by assumption) ?_
    rotate_left
    · (intro w hSw; (try dsimp only at hSw); go_simp; try (with_reducible rfl))
    try simp only [Act.put, List.setIfInBounds_toArray, List.set_cons_zero, List.set_cons_succ]
    refine wpAnyH_take (i := 9) (v := ?_) rfl (by kernel_rfl) (by kernel_rfl) (by kernel_rfl) (fun _ _ _ h => h) (Or.inl ⟨by rfl, ?_⟩) (by assumption) ?_
    rotate_left
    · (intro w hSw; (try dsimp only at hSw); go_simp; try (with_reducible rfl))
    try simp only [Act.put, List.setIfInBounds_toArray, List.set_cons_zero, List.set_cons_succ]
    refine wpAnyH_take (i := 10) (v := ?_) rfl (by kernel_rfl) (by kernel_rfl) (by kernel_rfl) (fun _ _ _ h => h) (Or.inl ⟨by rfl, ?_⟩) (by assumption) ?_
    rotate_left
    · (intro w hSw; (try dsimp only at hSw); go_simp; try (with_reducible rfl))
    try simp only [Act.put, List.setIfInBounds_toArray, List.set_cons_zero, List.set_cons_succ]
    refine wpAnyH_take (i := 11) (v := ?_) rfl (by kernel_rfl) (by kernel_rfl) (by kernel_rfl) (fun _ _ _ h => h) (Or.inl ⟨by rfl, ?_⟩) (by assumption) ?_
    rotate_left
    · (intro w hSw; (try dsimp only at hSw); go_simp; try (with_reducible rfl))
    try simp only [Act.put, List.setIfInBounds_toArray, List.set_cons_zero, List.set_cons_succ]
    refine wpAnyH_take (i := 12) (v := ?_) rfl (by kernel_rfl) (by kernel_rfl) (by kernel_rfl) (fun _ _ _ h => h) (Or.inl ⟨by rfl, ?_⟩) (by assumption) ?_
    rotate_left
    · (intro w hSw; (try dsimp only at hSw); go_simp; try (with_reducible rfl))
    try simp only [Act.put, List.setIfInBounds_toArray, List.set_cons_zero, List.set_cons_succ]
    refine wpAnyH_take (i := 13) (v := ?_) rfl (by kernel_rfl) (by kernel_rfl) (by kernel_rfl) (fun _ _ _ h => h) (Or.inl ⟨by rfl, ?_⟩) (by assumption) ?_
    rotate_left
    · (intro w hSw; (try dsimp only at hSw); go_simp; try (with_reducible rfl))
    try simp only [Act.put, List.setIfInBounds_toArray, List.set_cons_zero, List.set_cons_succ]
    refine wpAnyH_take (i := 14) (v := ?_) rfl (by kernel_rfl) (by kernel_rfl) (by kernel_rfl) (fun _ _ _ h => h) (Or.inl ⟨by rfl, ?_⟩) (by assumption) ?_
    rotate_left
    · (intro w hSw; (try dsimp only at hSw); go_simp; try (with_reducible rfl))
    try simp only [Act.put, List.setIfInBounds_toArray, List.set_cons_zero, List.set_cons_succ]
    refine wpAnyH_take (i := 15) (v := ?_) rfl (by kernel_rfl) (by kernel_rfl) (by kernel_rfl) (fun _ _ _ h => h) (Or.inl ⟨by rfl, ?_⟩) (by assumption) ?_
    rotate_left
    · (intro w hSw; (try dsimp only at hSw); go_simp; try (with_reducible rfl))
    try simp only [Act.put, List.setIfInBounds_toArray, List.set_cons_zero, List.set_cons_succ]
    refine wpAnyH_take (i := 16) (v := ?_) rfl (by kernel_rfl) (by kernel_rfl) (by kernel_rfl) (fun _ _ _ h => h) (Or.inl ⟨by rfl, ?_⟩) (by assumption) ?_
    rotate_left
    · (intro w hSw; (try dsimp only at hSw); go_simp; try (with_reducible rfl))
    try simp only [Act.put, List.setIfInBounds_toArray, List.set_cons_zero, List.set_cons_succ]
    refine wpAnyH_ready (rs := [17]) (by kernel_rfl) (by simp) ?_
    refine AllReadyH.cons rfl (fun K hK => ?_) AllReadyH.nil
    go_simp
    refine HLIN.out.mono ?_
    rintro e w6 ⟨v6, rfl, ho6, hb6⟩
    have k0 := (hb6.cell (p := ⟨eb, 0, none⟩) hebl).trans hS.1
    have k1 := (hb6.cell (p := ⟨eb, 1, none⟩) hebl).trans hS.2.1
    have k2 := (hb6.cell (p := ⟨rb, pl, none⟩) hrbl).trans hS.2.2
    have f6 := (hb6.frozen (p := ⟨rb, pl, none⟩) hrbl).trans hfr3
    obtain ⟨A6, l6, c6, rfl⟩ : ∃ A l c, v6 = .slice A l c := by rcases ho6.form with ⟨h, _⟩ | ⟨g, c, h, _⟩ <;> exact ⟨_, _, _, h⟩
    have HO6 := Lib.hid ho6
    have HB6 := Lib.hid hb6
    clear ho6 hb6
    refine hK.out _ _ (⟨k0, k1, k2⟩) (fun hHeld => ?_)
    clear hK K
    try simp only [Act.put, List.setIfInBounds_toArray, List.set_cons_zero, List.set_cons_succ]
    refine wpAnyH_take (i := 18) (v := ?_) rfl (by kernel_rfl) (by kernel_rfl) (by kernel_rfl) (fun _ _ _ h => h) (Or.inl ⟨by rfl, ?_⟩) (by assumption) ?_
    rotate_left
    · (intro w hSw; (try dsimp only at hSw); go_simp; try (with_reducible rfl))
    try simp only [Act.put, List.setIfInBounds_toArray, List.set_cons_zero, List.set_cons_succ]
    refine wpAnyH_done (by kernel_rfl) ?_ _
    refine lastQ_step (by rfl) (by rfl) ?_
    go_simp
    go_wp2_with fail
    go_ret
    have hP6 : RowsI w6 B S rb n cap _ := RowsI.below (w := w3.drew) HP3.out HB6.out
    have hput := hP6.put (k := pl) hpl (HO6.out.mono (show B ≤ w3.drew.heap.size by show B ≤ w3.heap.size; omega)) (Among.new HO6.out fun b hb => hSn b (by have : w3.heap.size ≤ b := hb; omega))
    refine .inr ⟨pl + j, by omega, hk, by rw [HY.out]; exact hnz', rfl, ?_, ?_⟩
    · unfold pivM
      rw [HY.out, HIV.out]
      exact hput.1
    · exact World.grownBy.trans (World.grownBy.trans HG3.out (World.grownBy.trans (only_drewN (World.grownBy.refl w3 _) 1) (only_of_below HB6.out _))) hput.2
end Go.Proofs.YtjfphobfikadlaaDoor

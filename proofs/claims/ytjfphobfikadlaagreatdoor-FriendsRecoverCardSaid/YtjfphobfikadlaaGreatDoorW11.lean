/- The contract of the kit's turn of shares. Contracts: how many shares may be wrong; the values of shares at a place; whether shares are good in a plan. Contracts: whether shares are good in a plan (they are), and what is wrong with them (nothing). -/
import Derived.Test.YtjfphobfikadlaaGreatDoorW10
import Derived.Test.YtjfphobfikadlaaGreatDoorW06
import Derived.Test.YtjfphobfikadlaaGreatDoorW09
import Derived.Test.YtjfphobfikadlaaGreatDoorW07
set_option linter.unusedVariables false
set_option linter.unusedSimpArgs false
namespace Go.Proofs.YtjfphobfikadlaaGreatDoor
open Go.RowKit Num

theorem blk_some {w : World} {g j : Nat} {t : TypeId} {cs : Array Value} (h : Blk w g t cs) (hj : j < cs.size) : ∃ y, w.cell? ⟨g, j, none⟩ = some y := ⟨cs[j], by rw [h.cell, Array.getElem?_eq_getElem hj]⟩
set_option maxRecDepth 100000 in
set_option maxHeartbeats 2000000 in
theorem k_Turn (b least : Nat) (v : Value) (L : List Sh) (S : Nat → Prop) (w : World) (hd : Dc w b) (hv : ShAt w S v L) (hS : ∀ b, S b → b < w.heap.size) (h0 : 0 < L.length) (hl : L.length ≤ 1000) (hle : least ≤ L.length)
    (ho : ∀ k, k < L.length → 0 < (shAt L k).2.length ∧ (shAt L k).2.length ≤ 1000) :
    Calls Tryz.prog 47 #[.pointer (some ⟨b, 0, none⟩), v, .int .i64 (least : Int)] w (TurnPost b L least w) := by
  obtain ⟨j0, hj, hy0, hy1, hy2⟩ := info_parts infoS
  have hcopy := r_Copy v L S w hv hS hl ho
  have hlt := hd.lt
  have HC := Lib.hid hcopy
  have HD := Lib.hid hd
  obtain ⟨n, hn⟩ : ∃ n, L.length = n := ⟨_, rfl⟩
  rw [hn] at h0 hl hle
  have HN := Lib.hid hn
  clear hcopy hd hv hS ho hn
  go_enter Tryz.func47, Tryz.ntmps47
  go_wp2_with fail
  refine HC.out.mono ?_
  rintro e w1 ⟨v1, rfl, hown, hb1⟩
  obtain ⟨g, cap, rfl, hnc, hBg, hg, hin⟩ := hown.inB (by rw [HN.out]; exact h0)
  rw [HN.out] at hnc hin ⊢
  have hg1 : w.grownBy w1 (some b) := only_of_below hb1 _
  have hd1 := HD.out.below hb1 hlt
  have HIN := Lib.hid hin
  have HG1 := Lib.hid hg1
  have HD1 := Lib.hid hd1
  clear hown hb1 hin hg1 hd1 HC
  go_wp2_with fail
  go_loopw [14] (fun t wr => ∃ (i : Nat) (σ : Nat → Nat), i ≤ n ∧ t = .int .i64 i ∧ InB wr g w.heap.size L σ n ∧ (∀ a, a < n → σ a < n) ∧ (∀ a c, a < n → c < n → a ≠ c → σ a ≠ σ c) ∧ Dc wr b ∧ w.grownBy wr (some b)) (fun t _ => n - (intOf t).toNat)
  case atStart => exact ⟨0, id, by omega, rfl, HIN.out, fun a h => h, fun a c _ _ h => h, HD1.out, HG1.out⟩
  case round =>
    obtain ⟨i, σ, hi, rfl, hin, hσ, hinj, hdr, hgr⟩ := hrel
    have HI := Lib.hid hin
    have HS := Lib.hid hσ
    have HJ := Lib.hid hinj
    have HDR := Lib.hid hdr
    have HGR := Lib.hid hgr
    clear hin hσ hinj hdr hgr
    by_cases hlt2 : i < n
    · have qi : (i : Int) < (n : Int) := by omega
      have hN : ∀ W, Dc W b → Calls Tryz.prog 23 #[.pointer (some ⟨b, 0, none⟩), .int .i64 ((i : Int) + 1)] W (NextPost b (i + 1) W) := fun W h => by
        have := k_Next b (i + 1) W h (by omega) (by omega)
        rwa [show ((i + 1 : Nat) : Int) = (i : Int) + 1 by omega] at this
      go_wp2_with fail
      refine (hN _ HDR.out).mono ?_
      rintro e w2 ⟨r, hr, rfl, hd2, hg2⟩
      have hin2 := HI.out.grown hg2 (by omega) hBg
      obtain ⟨cs, hblk, hcs⟩ := id hin2
      obtain ⟨ui, i1, i2, i3⟩ := hcs i hlt2
      obtain ⟨ur, r1, r2, r3⟩ := hcs r (by omega)
      obtain ⟨Ai, ni, ci, rfl, -⟩ := i3
      obtain ⟨Ar, nr, cr, rfl, -⟩ := r3
      have HB := Lib.hid hblk
      have HCS := Lib.hid hcs
      have HD2 := Lib.hid hd2
      have HG2 := Lib.hid (gb_trans HGR.out hg2)
      have I2 := Lib.hid i2
      have R2 := Lib.hid r2
      obtain ⟨xi, hxi⟩ : ∃ z, (shAt L (σ i)).1 = z := ⟨_, rfl⟩
      obtain ⟨xr, hxr⟩ : ∃ z, (shAt L (σ r)).1 = z := ⟨_, rfl⟩
      have d0 : w2.cell? ⟨g, i * 2, none⟩ = some (.int .i64 xi) := by rw [hblk.cell, Nat.mul_comm, i1, hxi]
      have d1 : w2.cell? ⟨g, i * 2 + 1, none⟩ = some (.slice Ai ni ci) := by rw [hblk.cell, Nat.mul_comm, i2]
      have d2 : w2.cell? ⟨g, r * 2, none⟩ = some (.int .i64 xr) := by rw [hblk.cell, Nat.mul_comm, r1, hxr]
      have d3 : w2.cell? ⟨g, r * 2 + 1, none⟩ = some (.slice Ar nr cr) := by rw [hblk.cell, Nat.mul_comm, r2]
      have f0 := hblk.frozen (i * 2)
      have f1 := hblk.frozen (i * 2 + 1)
      have f2 := hblk.frozen (r * 2)
      have f3 := hblk.frozen (r * 2 + 1)
      have lr : r * 2 + 1 < cs.size := by have := (Array.getElem?_eq_some_iff.1 r2).1; omega
      have b1 := hblk.set_ (i * 2) (.int .i64 xr)
      have b2 := hblk.set_ (i * 2 + 1) (.slice Ar nr cr)
      have b3 := b1.set_ (i * 2 + 1) (.slice Ar nr cr)
      obtain ⟨y0, y0e⟩ := blk_some b1 (j := r * 2) (by simp; omega)
      obtain ⟨y1, y1e⟩ := blk_some b2 (j := r * 2 + 1) (by simp; omega)
      obtain ⟨y2, y2e⟩ := blk_some b3 (j := r * 2 + 1) (by simp; omega)
      clear b1 b2 b3 lr
      have q0 : (0 : Int) ≤ (i : Int) := by omega
      have q1 : (0 : Int) ≤ (r : Int) := by omega
      have q2 : (r : Int) < (n : Int) := by omega
      have HXI := Lib.hid hxi
      have HXR := Lib.hid hxr
      clear hd2 hg2 hin2 hblk hcs i1 i2 r1 r2 hxi hxr hN
      go_wp2_with fail
      go_region
      all_goals
        have hsw := InB.swap (i := i) (k := r) (w' := (((w2.setCell ⟨g, i * 2, none⟩ (.int .i64 xr)).setCell ⟨g, i * 2 + 1, none⟩ (.slice Ar nr cr)).setCell ⟨g, r * 2, none⟩ (.int .i64 xi)).setCell ⟨g, r * 2 + 1, none⟩ (.slice Ai ni ci)) HB.out HCS.out hlt2 (by omega) I2.out R2.out (by rw [Nat.mul_comm 2 i, Nat.mul_comm 2 r, HXI.out, HXR.out])
        have hdw : Dc ((((w2.setCell ⟨g, i * 2, none⟩ (.int .i64 xr)).setCell ⟨g, i * 2 + 1, none⟩ (.slice Ar nr cr)).setCell ⟨g, r * 2, none⟩ (.int .i64 xi)).setCell ⟨g, r * 2 + 1, none⟩ (.slice Ai ni ci)) b :=
          HD2.out.keep fun q hq => (((Below.heap_setCell _ _ _ q (by simp; omega)).trans (Below.heap_setCell _ _ _ q (by simp; omega))).trans (Below.heap_setCell _ _ _ q (by simp; omega))).trans (Below.heap_setCell _ _ _ q (by simp; omega))
        have hgw : w.grownBy ((((w2.setCell ⟨g, i * 2, none⟩ (.int .i64 xr)).setCell ⟨g, i * 2 + 1, none⟩ (.slice Ar nr cr)).setCell ⟨g, r * 2, none⟩ (.int .i64 xi)).setCell ⟨g, r * 2 + 1, none⟩ (.slice Ai ni ci)) (some b) :=
          only_setCell (only_setCell (only_setCell (only_setCell HG2.out (p := ⟨g, i * 2, none⟩) (.inr hBg) _) (p := ⟨g, i * 2 + 1, none⟩) (.inr hBg) _) (p := ⟨g, r * 2, none⟩) (.inr hBg) _) (p := ⟨g, r * 2 + 1, none⟩) (.inr hBg) _
        have hgw2 := only_drewN hgw 1
        have hsl := swp_lt (k := r) hlt2 (by omega) HS.out
        have hsi := swp_inj (k := r) hlt2 (by omega) HJ.out
        have HSW := Lib.hid hsw
        have HDW := Lib.hid hdw
        have HGW := Lib.hid hgw2
        have HSL := Lib.hid hsl
        have HSI := Lib.hid hsi
        clear hsw hdw hgw hgw2 hsl hsi d0 d1 d2 d3 f0 f1 f2 f3 y0e y1e y2e
        go_wp2_with fail
        go_roundw
        case measure => simp [intOf]; omega
        case rel => exact ⟨i + 1, swp σ i r, by omega, by go_num, HSW.out, HSL.out, HSI.out, HDW.out.drew, HGW.out⟩
    · have hin' : i = n := by omega
      subst hin'
      have hsz := HGR.out.size
      have hInB := HI.out
      by_cases hl2 : i ≤ least
      · have t1 : decide ((i : Int) ≤ (least : Int)) = true := decide_eq_true (by omega)
        go_wp2_with fail
        go_ret
        refine ⟨_, pick L σ i, rfl, HI.out.at_ hBg hnc, by rw [pick_len]; omega, by rw [pick_len, HN.out]; exact Nat.le_refl _, ⟨σ, fun k hk => ?_, fun a c ha hc => ?_⟩, HDR.out, HGR.out⟩
        · rw [pick_len] at hk; rw [HN.out]; exact ⟨HS.out k hk, pick_at L σ i k hk⟩
        · rw [pick_len] at ha hc; exact HJ.out a c ha hc
      · have t1 : decide ((i : Int) ≤ (least : Int)) = false := decide_eq_false (by omega)
        have hN : ∀ W, Dc W b → Calls Tryz.prog 23 #[.pointer (some ⟨b, 0, none⟩), .int .i64 ((i : Int) - (least : Int) + 1)] W (NextPost b (i - least + 1) W) := fun W h => by
          have := k_Next b (i - least + 1) W h (by omega) (by omega)
          rwa [show ((i - least + 1 : Nat) : Int) = (i : Int) - (least : Int) + 1 by omega] at this
        go_wp2_with fail
        refine (hN _ HDR.out).mono ?_
        rintro e w2 ⟨r, hr, rfl, hd2, hg2⟩
        have hin2 := HI.out.grown hg2 (by omega) hBg
        have hsl := fun (W : World) => run_slice_hi (P := Tryz.prog) W 41 49 j0 Tryz.underlying41 hj (some ⟨g, 0, none⟩) i cap (least + r) (by omega) ((least : Int) + (r : Int)) (by omega)
        have HI2 := Lib.hid hin2
        have HD2 := Lib.hid hd2
        have HG2 := Lib.hid (gb_trans HGR.out hg2)
        clear hin2 hd2 hg2 hN hInB
        go_wp2_with fail
        go_ret
        have hat := HI2.out.at_ (cap := cap) hBg hnc
        have htk := hat.take (m := least + r) (by omega)
        have hpl : ((pick L σ i).take (least + r)).length = least + r := by rw [List.length_take, pick_len]; omega
        have hpa : ∀ k, k < least + r → shAt ((pick L σ i).take (least + r)) k = shAt L (σ k) := fun k hk => by
          rw [← pick_at L σ i k (by omega)]
          unfold shAt; rw [List.getD_eq_getElem?_getD, List.getD_eq_getElem?_getD, List.getElem?_take, if_pos hk]
        refine ⟨_, (pick L σ i).take (least + r), rfl, htk, by rw [hpl]; omega, by rw [hpl, HN.out]; omega, ⟨σ, fun k hk => ?_, fun a c ha hc => ?_⟩, HD2.out, HG2.out⟩
        · rw [hpl] at hk; rw [HN.out]; exact ⟨HS.out k (by omega), hpa k hk⟩
        · rw [hpl] at ha hc; exact HJ.out a c (by omega) (by omega)
end Go.Proofs.YtjfphobfikadlaaGreatDoor
namespace Go.Proofs.YtjfphobfikadlaaGreatDoor
open Go.RowKit Num

/-- The values of shares at a place. -/
def colY (l : List Sh) (i : Nat) : List Int := l.map fun s => s.2.getD i 0
theorem colY_len (l : List Sh) (i : Nat) : (colY l i).length = l.length := by simp [colY]
theorem colY_get (l : List Sh) (i k : Nat) (h : k < l.length) : (colY l i).getD k 0 = (shAt l k).2.getD i 0 := by
  unfold colY shAt
  rw [List.getD_eq_getElem?_getD, List.getElem?_map, List.getD_eq_getElem?_getD (l := l), List.getElem?_eq_getElem h]; rfl
theorem hsOf_len (l : List Sh) : (hsOf l).length = l.length := by simp [hsOf]
/-- Shares that are good in a plan: holders of the plan, each once, equally many values, each an element. -/
structure GoodSh (p hold m : Nat) (l : List Sh) : Prop where
  holder : ∀ k, k < l.length → 1 ≤ (shAt l k).1 ∧ (shAt l k).1 ≤ hold
  once : ∀ i j, i < l.length → j < l.length → i ≠ j → (shAt l i).1 ≠ (shAt l j).1
  len : ∀ k, k < l.length → (shAt l k).2.length = m
  inF : ∀ k, k < l.length → InF p (shAt l k).2
theorem GoodSh.apart {p hold m : Nat} {l : List Sh} (h : GoodSh p hold m l) (hp : hold < p) : ApartN p (fOf (hsOf l)) (hsOf l).length := by
  intro i j hi hj hne hd
  rw [hsOf_len] at hi hj
  rw [hsOf_get l i hi, hsOf_get l j hj] at hd
  have h1 := h.holder i hi
  have h2 := h.holder j hj
  have := h.once i j hi hj hne
  have := Int.eq_zero_of_dvd_of_natAbs_lt_natAbs hd (by omega)
  omega
theorem GoodSh.dist {p hold m : Nat} {l : List Sh} (h : GoodSh p hold m l) : ∀ i j, i < (hsOf l).length → j < (hsOf l).length → i ≠ j → (hsOf l).getD i 0 ≠ (hsOf l).getD j 0 := by
  intro i j hi hj hne
  rw [hsOf_len] at hi hj
  have e1 := hsOf_get l i hi
  have e2 := hsOf_get l j hj
  unfold fOf at e1 e2
  rw [e1, e2]
  exact h.once i j hi hj hne
theorem GoodSh.hsF {p hold m : Nat} {l : List Sh} (h : GoodSh p hold m l) (hp : hold < p) : InF p (hsOf l) := by
  intro k hk
  rw [hsOf_len] at hk
  have e := hsOf_get l k hk
  unfold fOf at e
  have := h.holder k hk
  rw [e]; omega
theorem GoodSh.colF {p hold m : Nat} {l : List Sh} (h : GoodSh p hold m l) (i : Nat) (hi : i < m) : InF p (colY l i) := by
  intro k hk
  rw [colY_len] at hk
  rw [colY_get l i k hk]
  exact h.inF k hk i (by rw [h.len k hk]; exact hi)
def BoolBelow (b : Bool) (w : World) (e : Ending) (w' : World) : Prop := e = .returned (.bool b) ∧ Below w.heap.size w w'
set_option maxHeartbeats 400000 in
theorem s_Valid (p need hold : Nat) (w : World) (hw : BasesOk w) (hp : Prm p) (h2 : p ≤ 1073741824) (n1 : 1 ≤ need) (n2 : need ≤ hold) (n3 : hold ≤ 16) (n4 : hold < p) :
    Calls Tryz.prog 66 #[.agg #[.int .i64 (p : Int), .int .i64 (need : Int), .int .i64 (hold : Int)]] w (BoolBelow true w) := by
  have hw1 := fun o => hw.alloc o
  have t1 : decide ((1 : Int) ≤ (need : Int)) = true := decide_eq_true (by omega)
  have t2 : decide ((need : Int) ≤ (hold : Int)) = true := decide_eq_true (by omega)
  have t3 : decide ((hold : Int) ≤ 16) = true := decide_eq_true (by omega)
  have t4 : decide ((hold : Int) < (p : Int)) = true := decide_eq_true (by omega)
  go_enter Tryz.func66, Tryz.ntmps66
  go_wp2_with fail
  refine (f_Valid p _ (hw1 _) hp h2).mono ?_
  rintro e w' ⟨rfl, rfl⟩
  go_wp2_with fail
  go_ret
  exact ⟨rfl, (Below.refl _ _).alloc (Nat.le_refl _) _⟩

/-- Which holders have been seen among the first k shares. -/
def seenV (L : List Sh) (k : Nat) (j : Nat) : Value := .bool (decide (∃ i, i < k ∧ (shAt L i).1 = (j : Int)))
end Go.Proofs.YtjfphobfikadlaaGreatDoor
namespace Go.Proofs.YtjfphobfikadlaaGreatDoor
open Go.RowKit Num

set_option maxHeartbeats 400000 in
theorem c_Room (p need hold n : Nat) (w : World) (hp : p ≤ 2147483648) (hnn : need ≤ n) (hn : n ≤ 1000000) :
    Calls Tryz.prog 89 #[.agg #[.int .i64 (p : Int), .int .i64 (need : Int), .int .i64 (hold : Int)], .int .i64 (n : Int)] w fun e w' => e = .returned (.int .i64 (((n - need) / 2 : Nat) : Int)) ∧ Below w.heap.size w w' := by
  have t1 : decide ((n : Int) < (need : Int)) = false := decide_eq_false (by omega)
  go_enter Tryz.func89, Tryz.ntmps89
  go_wp2_with fail
  go_ret
  exact ⟨ret_int (by omega), (Below.refl _ _).alloc (Nat.le_refl _) _⟩

set_option maxRecDepth 100000 in
set_option maxHeartbeats 1000000 in
theorem c_Values (v : Value) (L : List Sh) (i : Nat) (S : Nat → Prop) (w : World) (hv : ShAt w S v L) (hS : ∀ b, S b → b < w.heap.size) (hl : L.length ≤ 1000) (hi : ∀ k, k < L.length → i < (shAt L k).2.length) :
    Calls Tryz.prog 95 #[v, .int .i64 (i : Int)] w (IntsPost (colY L i) w) := by
  obtain ⟨A, n, c, rfl, hn, hnc, hc⟩ := hv
  obtain ⟨i0, hin, hz0, hz1, hz2⟩ := info_parts infoI
  have hn1 : n ≤ 1000 := by omega
  rw [← hn] at hi
  have HN := Lib.hid hn
  have HI := Lib.hid hi
  have HC := Lib.hid hc
  have q0 : (0 : Int) ≤ (i : Int) := by omega
  clear hn hl hi hc
  go_enter Tryz.func95, Tryz.ntmps95
  go_wp2_with fail
  go_loopw [5, 10] (fun o t wr => ∃ k : Nat, k ≤ n ∧ t = .int .i64 k ∧ wr.ownsRow w.heap.size 3 1 o k ((colY (L.take k) i).map (Value.int .i64)) ∧ Below w.heap.size w wr) (fun _ t _ => n - (intOf t).toNat)
  case atStart => exact ⟨0, by omega, rfl, World.ownsRow_nil _ _ _ _, Below.refl _ _⟩
  case round =>
    obtain ⟨k, hk, rfl, hown, hbl⟩ := hrel
    have hsz := hbl.size
    by_cases hlt : k < n
    · obtain ⟨b, off, rfl, hSb, hcell⟩ := HC.out (by omega)
      obtain ⟨u, c0, c1, hu⟩ := hcell k hlt
      obtain ⟨Au, nu, cu, rfl, e1, e2, e3⟩ := hu
      have hiL := HI.out k hlt
      obtain ⟨bu, offu, rfl, hSu, hcu⟩ := e3 (by omega)
      have hbw := hS b hSb
      have hbu := hS bu hSu
      have d0 := (hbl.cell (p := ⟨b, off + k * 2, none⟩) hbw).trans c0
      have d1 := (hbl.cell (p := ⟨b, off + k * 2 + 1, none⟩) hbw).trans c1
      have d2 := (hbl.cell (p := ⟨bu, offu + i, none⟩) hbu).trans (hcu i (by omega))
      have qk : (k : Int) < (n : Int) := by omega
      have qi : (i : Int) < (nu : Int) := by omega
      have HBL := Lib.hid hbl
      obtain ⟨y, hy⟩ : ∃ y, (shAt L k).2.getD i 0 = y := ⟨_, rfl⟩
      rw [hy] at d2
      obtain ⟨h, hh⟩ : ∃ h, (shAt L k).1 = h := ⟨_, rfl⟩
      rw [hh] at d0
      have hstep : (colY (L.take (k + 1)) i).map (Value.int .i64) = (colY (L.take k) i).map (Value.int .i64) ++ [.int .i64 y] := by
        have hkl : k < L.length := by rw [← HN.out]; exact hlt
        unfold colY
        rw [List.take_succ_eq_append_getElem hkl, List.map_append, List.map_append]
        have : shAt L k = L[k] := by unfold shAt; rw [List.getD_eq_getElem?_getD, List.getElem?_eq_getElem hkl]; rfl
        rw [← hy, this]; rfl
      have HST := Lib.hid hstep
      have bz : bu < wr.heap.size := by omega
      clear hbl hcell c0 c1 hh hstep hy e1 e2 e3 hcu hiL
      go_wp2_with (at_builtin; refine wpList_append_own _ rfl _ _ 24 rfl w.heap.size 3 i0 (.int .i64 0) 1 8 Tryz.underlying24 hin hz0 hz1 hz2 rfl (by decide) _ _ _ rfl ((hown.alloc _).alloc _) ⟨wr.heap.size + 1, 0, none⟩ 1 1 [.int .i64 y] rfl rfl (fun j u hj => by have := cell_one_new (wr.alloc (.cells #[.int .i64 h, .slice (some ⟨bu, offu, none⟩) nu cu] 49)) (.int .i64 y) 3 j u hj; simpa using this) (ints_oneCell .i64 [_]) (by unfold maxLen; omega) (by omega) (by simp; omega) ?_)
      intro v' w2 hown' hgrow _
      have hg := grown_past (grown_past hgrow)
      have hown2 : w2.ownsRow w.heap.size 3 1 v' (k + 1) ((colY (L.take (k + 1)) i).map (Value.int .i64)) := by rw [HST.out]; simpa using hown'
      have hul : ∀ g, u5.ownBlock = some g → w.heap.size ≤ g := fun g hg => (hown.lt g hg).1
      have hb2 := HBL.out.grown hg hsz hul
      have HO2 := Lib.hid hown2
      have HB2 := Lib.hid hb2
      clear hown' hgrow hg hown2 hul hb2 hown
      go_wp2_with fail
      go_roundw
      case measure => simp [intOf]; omega
      case rel => exact ⟨k + 1, by omega, by go_num, HO2.out, HB2.out⟩
    · have hkn : k = n := by omega
      subst hkn
      go_wp2_with fail
      go_ret
      refine ⟨_, rfl, IntsAt.of_own (n := k) ?_, hbl⟩
      rwa [List.take_of_length_le (by rw [← HN.out]; exact Nat.le_refl _)] at hown

set_option maxHeartbeats 400000 in
theorem s_elem1 (pb p : Nat) (x : Int) (w : World) (hc : w.cell? ⟨pb, 0, none⟩ = some (.int .i64 (p : Int))) (h0 : 0 ≤ x) (h1 : x < p) :
    Calls Tryz.prog 158 #[.int .i64 x, .pointer (some ⟨pb, 0, none⟩)] w fun e w' => e = .returned (.bool false) ∧ w = w' := by
  have t1 : decide (x < 0) = false := decide_eq_false (by omega)
  have t2 : decide ((p : Int) ≤ x) = false := decide_eq_false (by omega)
  clear h0 h1
  go_enter Tryz.func158, Tryz.ntmps158
  go_wp2_with fail
  go_ret
  exact ⟨rfl, rfl⟩
set_option maxRecDepth 100000 in
set_option maxHeartbeats 1000000 in
theorem s_IndexFunc (pb p : Nat) (v : Value) (xs : List Int) (S : Nat → Prop) (w : World) (hv : IntsAt w S v xs) (hl : xs.length ≤ 1000000) (hc : w.cell? ⟨pb, 0, none⟩ = some (.int .i64 (p : Int))) (hx : InF p xs) :
    Calls Tryz.prog 193 #[v, .func (.func 158) #[] #[.pointer (some ⟨pb, 0, none⟩)]] w fun e w' => e = .returned (.int .i64 (-1)) ∧ w = w' := by
  obtain ⟨A, n, ca, rfl, hn, hnc, hcc⟩ := hv
  rw [← hn] at hl
  have hx' : ∀ k, k < n → 0 ≤ xs.getD k 0 ∧ xs.getD k 0 < p := fun k hk => hx k (by omega)
  have HX := Lib.hid hx'
  have HCC := Lib.hid hcc
  clear hn hcc hx hx'
  go_enter Tryz.func193, Tryz.ntmps193
  go_wp2_with fail
  go_loopw [8] (fun t wr => ∃ i : Nat, i ≤ n ∧ t = .int .i64 i ∧ w = wr) (fun t _ => n - (intOf t).toNat)
  case atStart => exact ⟨0, by omega, rfl, rfl⟩
  case round =>
    obtain ⟨i, hin, rfl, rfl⟩ := hrel
    by_cases hlt : i < n
    · obtain ⟨b, off, rfl, _, hcell⟩ := HCC.out (by omega)
      have cx := hcell i hlt
      have bx := HX.out i hlt
      obtain ⟨x, hx⟩ : ∃ x, xs.getD i 0 = x := ⟨_, rfl⟩
      rw [hx] at cx bx
      have qi : (i : Int) < (n : Int) := by omega
      have qi0 : (0 : Int) ≤ (i : Int) := by omega
      have he := s_elem1 pb p x w hc bx.1 bx.2
      have HE := Lib.hid he
      clear hx hcell bx he
      go_wp2_with fail
      refine HE.out.mono ?_
      rintro e w' ⟨rfl, rfl⟩
      go_wp2_with fail
      go_roundw
      case measure => simp [intOf]; omega
      case rel => exact ⟨i + 1, by omega, by go_num, by first | rfl | trivial⟩
    · have hi' : i = n := by omega
      subst hi'
      go_wp2_with fail
      go_ret
      exact ⟨rfl, rfl⟩
set_option maxHeartbeats 400000 in
theorem s_ContainsFunc (pb p : Nat) (v : Value) (xs : List Int) (S : Nat → Prop) (w : World) (hv : IntsAt w S v xs) (hl : xs.length ≤ 1000000) (hc : w.cell? ⟨pb, 0, none⟩ = some (.int .i64 (p : Int))) (hx : InF p xs) :
    Calls Tryz.prog 157 #[v, .func (.func 158) #[] #[.pointer (some ⟨pb, 0, none⟩)]] w fun e w' => e = .returned (.bool false) ∧ w = w' := by
  have h := s_IndexFunc pb p v xs S w hv hl hc hx
  have H := Lib.hid h
  clear h hv hx hc
  go_enter Tryz.func157, Tryz.ntmps157
  go_wp2_with fail
  refine H.out.mono ?_
  rintro e w' ⟨rfl, rfl⟩
  go_wp2_with fail
  go_ret
  exact ⟨rfl, rfl⟩
set_option maxHeartbeats 400000 in
theorem s_elements (p need hold : Nat) (v : Value) (xs : List Int) (S : Nat → Prop) (w : World) (hv : IntsAt w S v xs) (hS : ∀ b, S b → b < w.heap.size) (hl : xs.length ≤ 1000000) (hx : InF p xs) :
    Calls Tryz.prog 120 #[.agg #[.int .i64 (p : Int), .int .i64 (need : Int), .int .i64 (hold : Int)], v] w (BoolBelow true w) := by
  obtain ⟨A, n, c, rfl, hn, hnc, hcc⟩ := id hv
  have h := s_ContainsFunc w.heap.size p _ xs S (w.alloc (.cells #[.int .i64 (p : Int), .int .i64 (need : Int), .int .i64 (hold : Int)] 34)) (hv.keep fun b hb => Below.heap_alloc _ _ _ (hS b hb)) hl (by rw [World.cell?_alloc_new]; rfl) hx
  have H := Lib.hid h
  clear h hv hx hn hcc
  go_enter Tryz.func120, Tryz.ntmps120
  go_wp2_with fail
  refine H.out.mono ?_
  rintro e w' ⟨rfl, rfl⟩
  go_wp2_with fail
  go_ret
  exact ⟨rfl, (Below.refl _ _).alloc (Nat.le_refl _) _⟩
set_option maxHeartbeats 400000 in
theorem s_Stands (p need hold h : Nat) (v : Value) (xs : List Int) (S : Nat → Prop) (w : World) (hv : IntsAt w S v xs) (hS : ∀ b, S b → b < w.heap.size) (hl : xs.length ≤ 1000000) (hx : InF p xs) (h1 : 1 ≤ h) (h2 : h ≤ hold) :
    Calls Tryz.prog 194 #[.agg #[.int .i64 (p : Int), .int .i64 (need : Int), .int .i64 (hold : Int)], .agg #[.int .i64 (h : Int), v]] w (BoolBelow true w) := by
  obtain ⟨A, n, c, rfl, hn, hnc, hcc⟩ := id hv
  have t1 : decide ((1 : Int) ≤ (h : Int)) = true := decide_eq_true (by omega)
  have t2 : decide ((h : Int) ≤ (hold : Int)) = true := decide_eq_true (by omega)
  have t3 : decide (h ≤ hold) = true := decide_eq_true h2
  have e := fun (o o' : Obj) => s_elements p need hold (.slice A n c) xs S ((w.alloc o).alloc o') ((hv.keep fun b hb => Below.heap_alloc _ _ _ (hS b hb)).keep fun b hb => Below.heap_alloc _ _ _ (by have := hS b hb; simp; omega)) (fun b hb => by have := hS b hb; simp; omega) hl hx
  have E := Lib.hid e
  clear e hv hx hn hcc h1 h2
  go_enter Tryz.func194, Tryz.ntmps194
  go_wp2_with fail
  refine (E.out _ _).mono ?_
  rintro e w' ⟨rfl, hb⟩
  have HB := Lib.hid hb
  clear hb
  go_wp2_with fail
  go_ret
  exact ⟨rfl, (((Below.refl _ _).alloc (Nat.le_refl _) _).alloc (by simp) _).trans (HB.out.mono (by simp; omega))⟩
end Go.Proofs.YtjfphobfikadlaaGreatDoor
namespace Go.Proofs.YtjfphobfikadlaaGreatDoor
open Go.RowKit Num

set_option maxRecDepth 100000 in
set_option maxHeartbeats 4000000 in
theorem s_Good (p need hold m : Nat) (v : Value) (L : List Sh) (S : Nat → Prop) (w : World) (n3 : hold ≤ 16)
    (hv : ShAt w S v L) (hS : ∀ b, S b → b < w.heap.size) (hl : L.length ≤ 16) (hm : m ≤ 2048) (ho : GoodSh p hold m L) :
    Calls Tryz.prog 159 #[.agg #[.int .i64 (p : Int), .int .i64 (need : Int), .int .i64 (hold : Int)], v] w (BoolBelow true w) := by
  obtain ⟨A, n, c, rfl, hn, hnc, hc⟩ := id hv
  have hn1 : n ≤ 16 := by omega
  have HV := Lib.hid hv
  have HN := Lib.hid hn
  have HO := Lib.hid ho
  have hst : ∀ (W : World) (h : Nat) (u : Value) (xs : List Int), IntsAt W (fun b => b < W.heap.size) u xs → xs.length = m → InF p xs → 1 ≤ h → h ≤ hold → Calls Tryz.prog 194 #[.agg #[.int .i64 (p : Int), .int .i64 (need : Int), .int .i64 (hold : Int)], .agg #[.int .i64 (h : Int), u]] W (BoolBelow true W) := fun W h u xs hu hx hf h1 h2 =>
    s_Stands p need hold h u xs _ W hu (fun b hb => hb) (by omega) hf h1 h2
  have HST := Lib.hid hst
  clear hv hn ho hc hst
  have kp0 : Blk ((w.alloc (.cells #[.int .i64 (p : Int), .int .i64 (need : Int), .int .i64 (hold : Int)] 34))) w.heap.size 34 #[.int .i64 (p : Int), .int .i64 (need : Int), .int .i64 (hold : Int)] := Blk.new w _ _
  have hb0 : Below w.heap.size w (w.alloc (.cells #[.int .i64 (p : Int), .int .i64 (need : Int), .int .i64 (hold : Int)] 34)) := (Below.refl _ _).alloc (Nat.le_refl _) _
  have hs0 : (w.alloc (.cells #[.int .i64 (p : Int), .int .i64 (need : Int), .int .i64 (hold : Int)] 34)).heap.size = w.heap.size + 1 := by simp
  have KP := Lib.hid kp0
  have HB0 := Lib.hid hb0
  clear kp0 hb0
  go_enter Tryz.func159, Tryz.ntmps159
  go_wp2_with fail
  generalize (w.alloc (.cells #[.int .i64 (p : Int), .int .i64 (need : Int), .int .i64 (hold : Int)] 34)) = w2 at *
  have HS0 := Lib.hid hs0
  have hsz2 : w.heap.size < w2.heap.size := by omega
  clear hs0
  go_loopw [10] (fun t wr => ∃ k : Nat, k ≤ n ∧ t = .int .i64 k ∧ ArrV wr (w.heap.size + 1) 17 (seenV L k) ∧ Below (w.heap.size + 1) w2 wr ∧ (w.heap.size + 1) < wr.heap.size) (fun t _ => n - (intOf t).toNat)
  case atStart =>
    have e2 := HS0.out
    rw [← e2]
    refine ⟨0, by omega, rfl, ⟨fun j hj => ?_, fun j hj => World.frozen?_alloc_new _ _ _ _⟩, (Below.refl _ _).alloc (Nat.le_refl _) _, by simp⟩
    rw [World.cell?_alloc_new]
    have e : seenV L 0 j = .bool false := by unfold seenV; exact congrArg Value.bool (decide_eq_false (fun ⟨i, hi, _⟩ => Nat.not_lt_zero i hi))
    rw [e]
    have : ∀ j : Nat, j < 17 → (Array.replicate 17 (Value.bool false))[j]? = some (.bool false) := fun j hj => by rw [Array.getElem?_eq_getElem (by simp; exact hj)]; simp
    exact this j hj
  case round =>
    obtain ⟨k, hk, rfl, harr, hbl, hz⟩ := hrel
    by_cases hlt : k < n
    · have hkl : k < L.length := by have := HN.out; omega
      obtain ⟨A1, n1', c1, hv1, e1, e2, hcs⟩ := HV.out
      injection hv1 with v1 v2 v3
      subst v1 v2 v3
      obtain ⟨b, off, rfl, hSb, hcell⟩ := hcs (by omega)
      obtain ⟨u, m0, m1, hu⟩ := hcell k hlt
      obtain ⟨u0, _, m3, hu0⟩ := hcell 0 (by omega)
      obtain ⟨Au, nu, cu, rfl, f1, f2, f3⟩ := id hu
      obtain ⟨Av, nv, cv, rfl, g1, g2, g3⟩ := id hu0
      have hone := HO.out.len k hkl
      have hone0 := HO.out.len 0 (by omega)
      have hin := HO.out.inF k hkl
      have hnu : nu = m := by omega
      have hnv : nv = m := by omega
      subst hnv
      subst hnu
      have hho := HO.out.holder k hkl
      obtain ⟨H, hH⟩ := Int.eq_ofNat_of_zero_le (show 0 ≤ (shAt L k).1 by omega)
      rw [hH] at m0 hho
      have bb : b < w.heap.size := hS b hSb
      have hww : Below w.heap.size w wr := HB0.out.trans (hbl.mono (by omega))
      have r0 := (hww.cell (p := ⟨b, off + k * 2, none⟩) bb).trans m0
      have r1 := (hww.cell (p := ⟨b, off + k * 2 + 1, none⟩) bb).trans m1
      have r2 := (hww.cell (p := ⟨b, off + 0 * 2 + 1, none⟩) bb).trans m3
      rw [Nat.zero_mul, Nat.add_zero] at r2
      have kp := KP.out.below hbl (by omega)
      have r3 : wr.cell? ⟨w.heap.size, 0, none⟩ = some (.int .i64 (p : Int)) := kp.cell 0
      have r4 : wr.cell? ⟨w.heap.size, 1, none⟩ = some (.int .i64 (need : Int)) := kp.cell 1
      have r5 : wr.cell? ⟨w.heap.size, 2, none⟩ = some (.int .i64 (hold : Int)) := kp.cell 2
      have r6 := harr.cell H (by omega)
      have e6 : seenV L k H = .bool false := by
        unfold seenV; congr 1
        refine decide_eq_false ?_
        rintro ⟨i, hi, hii⟩
        exact HO.out.once i k (by omega) hkl (by omega) (by rw [hii, hH])
      rw [e6] at r6
      have z1 : b < wr.heap.size := by omega
      have z3 : w.heap.size < wr.heap.size := by omega
      have qk : (k : Int) < (n : Int) := by omega
      have q0n : (0 : Int) < (n : Int) := by omega
      have q0m : 0 < n := by omega
      have hiu : ∀ W, Below wr.heap.size wr W → IntsAt W (fun b => b < W.heap.size) (.slice Au nu cu) (shAt L k).2 := fun W hW =>
        (hu.keep fun b hb => (hW.block b (by have := hS b hb; omega)).trans (hww.block b (hS b hb))).mono fun b hb => by have := hS b hb; have := hW.size; omega
      have hsd : ∀ W, Below wr.heap.size wr W → Calls Tryz.prog 194 #[.agg #[.int .i64 (p : Int), .int .i64 (need : Int), .int .i64 (hold : Int)], .agg #[.int .i64 (H : Int), .slice Au nu cu]] W (BoolBelow true W) := fun W hW =>
        HST.out W H _ _ (hiu W hW) hone hin (by omega) (by omega)
      have HSD := Lib.hid hsd
      have HH := Lib.hid hH
      have HBL := Lib.hid hbl
      have HARR := Lib.hid harr
      have hH1 : H < 17 := by omega
      clear hcell m0 m1 m3 kp e6 hH hbl harr hww hone hone0 hcs f1 f2 f3 e1 e2 g1 g2 g3 hu hu0 hin hho hiu hsd
      go_wp2_with fail
      have ha : Below wr.heap.size wr (wr.alloc (.cells #[.int .i64 (H : Int), .slice Au nu cu] 49)) := (Below.refl _ _).alloc (Nat.le_refl _) _
      have t0 : (wr.alloc (.cells #[.int .i64 (H : Int), .slice Au nu cu] 49)).cell? ⟨wr.heap.size, 0, none⟩ = some (.int .i64 (H : Int)) := by rw [World.cell?_alloc_new]; rfl
      have t1 : (wr.alloc (.cells #[.int .i64 (H : Int), .slice Au nu cu] 49)).cell? ⟨wr.heap.size, 1, none⟩ = some (.slice Au nu cu) := by rw [World.cell?_alloc_new]; rfl
      have t2 := (ha.cell (p := ⟨b, off + 1, none⟩) z1).trans r2
      have t3 := (ha.cell (p := ⟨w.heap.size, 0, none⟩) z3).trans r3
      have t4 := (ha.cell (p := ⟨w.heap.size, 1, none⟩) z3).trans r4
      have t5 := (ha.cell (p := ⟨w.heap.size, 2, none⟩) z3).trans r5
      have t6 := (ha.cell (p := ⟨w.heap.size + 1, H, none⟩) hz).trans r6
      have hsa : wr.heap.size < (wr.alloc (.cells #[.int .i64 (H : Int), .slice Au nu cu] 49)).heap.size := by simp
      generalize (wr.alloc (.cells #[.int .i64 (H : Int), .slice Au nu cu] 49)) = W1 at *
      clear r0 r1 r2 r3 r4 r5 r6
      have mk : ∀ W : World, Below W1.heap.size W1 W → W.cell? ⟨wr.heap.size, 0, none⟩ = some (.int .i64 (H : Int)) ∧ W.cell? ⟨wr.heap.size, 1, none⟩ = some (.slice Au nu cu) ∧ W.cell? ⟨b, off + 1, none⟩ = some (.slice Av nu cv) ∧ W.cell? ⟨w.heap.size, 0, none⟩ = some (.int .i64 (p : Int)) ∧ W.cell? ⟨w.heap.size, 1, none⟩ = some (.int .i64 (need : Int)) ∧ W.cell? ⟨w.heap.size, 2, none⟩ = some (.int .i64 (hold : Int)) ∧ W.cell? ⟨w.heap.size + 1, H, none⟩ = some (.bool false) ∧ Hid (Below W1.heap.size W1 W) := fun W hW =>
        ⟨(hW.cell (p := ⟨wr.heap.size, 0, none⟩) hsa).trans t0, (hW.cell (p := ⟨wr.heap.size, 1, none⟩) hsa).trans t1, (hW.cell (p := ⟨b, off + 1, none⟩) (by simp; omega)).trans t2, (hW.cell (p := ⟨w.heap.size, 0, none⟩) (by simp; omega)).trans t3, (hW.cell (p := ⟨w.heap.size, 1, none⟩) (by simp; omega)).trans t4, (hW.cell (p := ⟨w.heap.size, 2, none⟩) (by simp; omega)).trans t5, (hW.cell (p := ⟨w.heap.size + 1, H, none⟩) (by simp; omega)).trans t6, Lib.hid hW⟩
      have MK := Lib.hid mk
      have HA := Lib.hid ha
      have d3 : (H : Int) < 17 := by omega
      have d4 : (0 : Int) ≤ (H : Int) := by omega
      have d5 : decide ((2048 : Int) < (nu : Int)) = false := decide_eq_false (by omega)
      clear mk ha t0 t1 t2 t3 t4 t5 t6
      go_region_held3 (fun W => W.cell? ⟨wr.heap.size, 0, none⟩ = some (.int .i64 (H : Int)) ∧ W.cell? ⟨wr.heap.size, 1, none⟩ = some (.slice Au nu cu) ∧ W.cell? ⟨b, off + 1, none⟩ = some (.slice Av nu cv) ∧ W.cell? ⟨w.heap.size, 0, none⟩ = some (.int .i64 (p : Int)) ∧ W.cell? ⟨w.heap.size, 1, none⟩ = some (.int .i64 (need : Int)) ∧ W.cell? ⟨w.heap.size, 2, none⟩ = some (.int .i64 (hold : Int)) ∧ W.cell? ⟨w.heap.size + 1, H, none⟩ = some (.bool false) ∧ Hid (Below W1.heap.size W1 W))
        (first
          | exact HP.out
          | exact MK.out _ (Below.refl _ _).drew)
        (first
          | (go_at_call 194
             (with_reducible refine (HSD.out _ (HA.out.trans (((Below.refl W1.heap.size W1).drew).mono (Nat.le_of_lt hsa)))).mono ?_)
             rintro e wk ⟨rfl, hbk⟩
             have hbk' : Below W1.heap.size W1 wk := ((Below.refl W1.heap.size W1).drew).trans hbk
             have HB2 := Lib.hid hbk'
             have HP := Lib.hid (MK.out wk hbk')
             clear hbk hbk'))
      have HP2 := HP.out
      go_split_ands
      have hall : Below wr.heap.size wr wk := HA.out.trans (HB2.out.mono (by omega))
      have uf : wk.frozen? ⟨w.heap.size + 1, H, none⟩ = false := (hall.frozen (p := ⟨w.heap.size + 1, H, none⟩) hz).trans (HARR.out.live H hH1)
      have hak : ArrV wk (w.heap.size + 1) 17 (seenV L k) := ⟨fun j hj => (hall.cell (p := ⟨w.heap.size + 1, j, none⟩) hz).trans (HARR.out.cell j hj), fun j hj => (hall.frozen (p := ⟨w.heap.size + 1, j, none⟩) hz).trans (HARR.out.live j hj)⟩
      have hbk2 := HBL.out.trans (hall.mono (by omega))
      have hsk := hall.size
      have HAK := Lib.hid hak
      have HBK := Lib.hid hbk2
      clear hak hbk2 hall
      go_wp2_with fail
      go_roundw
      case measure => simp [intOf]; omega
      case rel =>
        refine ⟨k + 1, by omega, by go_num, ?_, HBK.out.setCell (p := ⟨w.heap.size + 1, H, none⟩) (Nat.le_refl _) _, by simp; omega⟩
        refine (HAK.out.upd (.bool true) hH1).congr fun j hj => ?_
        unfold updV
        by_cases hjH : j = H
        · rw [if_pos hjH]
          unfold seenV
          congr 1
          exact (decide_eq_true ⟨k, by omega, by rw [HH.out, hjH]⟩).symm
        · rw [if_neg hjH]
          unfold seenV
          congr 1
          rw [decide_eq_decide]
          constructor
          · rintro ⟨i, hi, hii⟩; exact ⟨i, by omega, hii⟩
          · rintro ⟨i, hi, hii⟩
            refine ⟨i, ?_, hii⟩
            rcases Nat.lt_or_ge i k with h | h
            · exact h
            · have : i = k := by omega
              subst this
              rw [HH.out] at hii; omega
    · have hkn : k = n := by omega
      subst hkn
      have hbf := HB0.out.trans (hbl.mono (by omega))
      have HBF := Lib.hid hbf
      clear hbl harr hbf
      go_wp2_with fail
      go_ret
      exact ⟨rfl, HBF.out⟩
end Go.Proofs.YtjfphobfikadlaaGreatDoor

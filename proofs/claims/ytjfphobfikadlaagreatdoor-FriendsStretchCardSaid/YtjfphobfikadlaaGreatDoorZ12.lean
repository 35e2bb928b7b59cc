/- The contract of the kit's turn of shares. -/
import Derived.Test.YtjfphobfikadlaaGreatDoorZ11
set_option linter.unusedVariables false
set_option linter.unusedSimpArgs false
namespace Go.Proofs.YtjfphobfikadlaaGreatDoor
open Go.RowKit Num

theorem blk_some {w : World} {g j : Nat} {t : TypeId} {cs : Array Value} (h : Blk w g t cs) (hj : j < cs.size) : ∃ y, w.cell? ⟨g, j, none⟩ = some y := ⟨cs[j], by rw [h.cell, Array.getElem?_eq_getElem hj]⟩
set_option maxRecDepth 100000 in
set_option maxHeartbeats 2000000 in
theorem k_Turn (b least : Nat) (v : Value) (L : List Sh) (S : Nat → Prop) (w : World) (hd : Dc w b) (hv : ShAt w S v L) (hS : ∀ b, S b → b < w.heap.size) (h0 : 0 < L.length) (hl : L.length ≤ 1000) (hle : least ≤ L.length)
    (ho : ∀ k, k < L.length → 0 < (shAt L k).2.length ∧ (shAt L k).2.length ≤ 1000) :
    Calls Tryz.prog 47 #[.pointer (some ⟨b, 0, none⟩), v, .int .i64 (least : Int)] w (TurnPost b L least w) := by
  obtain ⟨j0, hj, hy0, hy1, hy2⟩ := info_parts infoS
  have hcopy := r_Copy v L S w hv hS hl ho
  have hlt := hd.lt
  have HC := Lib.hid hcopy
  have HD := Lib.hid hd
  obtain ⟨n, hn⟩ : ∃ n, L.length = n := ⟨_, rfl⟩
  rw [hn] at h0 hl hle
  have HN := Lib.hid hn
  clear hcopy hd hv hS ho hn
  go_enter Tryz.func47, Tryz.ntmps47
  go_wp2_with fail
  refine HC.out.mono ?_
  rintro e w1 ⟨v1, rfl, hown, hb1⟩
  obtain ⟨g, cap, rfl, hnc, hBg, hg, hin⟩ := hown.inB (by rw [HN.out]; exact h0)
  rw [HN.out] at hnc hin ⊢
  have hg1 : w.grownBy w1 (some b) := only_of_below hb1 _
  have hd1 := HD.out.below hb1 hlt
  have HIN := Lib.hid hin
  have HG1 := Lib.hid hg1
  have HD1 := Lib.hid hd1
  clear hown hb1 hin hg1 hd1 HC
  go_wp2_with fail
  go_loopw [14] (fun t wr => ∃ (i : Nat) (σ : Nat → Nat), i ≤ n ∧ t = .int .i64 i ∧ InB wr g w.heap.size L σ n ∧ (∀ a, a < n → σ a < n) ∧ (∀ a c, a < n → c < n → a ≠ c → σ a ≠ σ c) ∧ Dc wr b ∧ w.grownBy wr (some b)) (fun t _ => n - (intOf t).toNat)
  case atStart => exact ⟨0, id, by omega, rfl, HIN.out, fun a h => h, fun a c _ _ h => h, HD1.out, HG1.out⟩
  case round =>
    obtain ⟨i, σ, hi, rfl, hin, hσ, hinj, hdr, hgr⟩ := hrel
    have HI := Lib.hid hin
    have HS := Lib.hid hσ
    have HJ := Lib.hid hinj
    have HDR := Lib.hid hdr
    have HGR := Lib.hid hgr
    clear hin hσ hinj hdr hgr
    by_cases hlt2 : i < n
    · have qi : (i : Int) < (n : Int) := by omega
      have hN : ∀ W, Dc W b → Calls Tryz.prog 23 #[.pointer (some ⟨b, 0, none⟩), .int .i64 ((i : Int) + 1)] W (NextPost b (i + 1) W) := fun W h => by
        have := k_Next b (i + 1) W h (by omega) (by omega)
        rwa [show ((i + 1 : Nat) : Int) = (i : Int) + 1 by omega] at this
      go_wp2_with fail
      refine (hN _ HDR.out).mono ?_
      rintro e w2 ⟨r, hr, rfl, hd2, hg2⟩
      have hin2 := HI.out.grown hg2 (by omega) hBg
      obtain ⟨cs, hblk, hcs⟩ := id hin2
      obtain ⟨ui, i1, i2, i3⟩ := hcs i hlt2
      obtain ⟨ur, r1, r2, r3⟩ := hcs r (by omega)
      obtain ⟨Ai, ni, ci, rfl, -⟩ := i3
      obtain ⟨Ar, nr, cr, rfl, -⟩ := r3
      have HB := Lib.hid hblk
      have HCS := Lib.hid hcs
      have HD2 := Lib.hid hd2
      have HG2 := Lib.hid (gb_trans HGR.out hg2)
      have I2 := Lib.hid i2
      have R2 := Lib.hid r2
      obtain ⟨xi, hxi⟩ : ∃ z, (shAt L (σ i)).1 = z := ⟨_, rfl⟩
      obtain ⟨xr, hxr⟩ : ∃ z, (shAt L (σ r)).1 = z := ⟨_, rfl⟩
      have d0 : w2.cell? ⟨g, i * 2, none⟩ = some (.int .i64 xi) := by rw [hblk.cell, Nat.mul_comm, i1, hxi]
      have d1 : w2.cell? ⟨g, i * 2 + 1, none⟩ = some (.slice Ai ni ci) := by rw [hblk.cell, Nat.mul_comm, i2]
      have d2 : w2.cell? ⟨g, r * 2, none⟩ = some (.int .i64 xr) := by rw [hblk.cell, Nat.mul_comm, r1, hxr]
      have d3 : w2.cell? ⟨g, r * 2 + 1, none⟩ = some (.slice Ar nr cr) := by rw [hblk.cell, Nat.mul_comm, r2]
      have f0 := hblk.frozen (i * 2)
      have f1 := hblk.frozen (i * 2 + 1)
      have f2 := hblk.frozen (r * 2)
      have f3 := hblk.frozen (r * 2 + 1)
      have lr : r * 2 + 1 < cs.size := by have := (Array.getElem?_eq_some_iff.1 r2).1; omega
      have b1 := hblk.set_ (i * 2) (.int .i64 xr)
      have b2 := hblk.set_ (i * 2 + 1) (.slice Ar nr cr)
      have b3 := b1.set_ (i * 2 + 1) (.slice Ar nr cr)
      obtain ⟨y0, y0e⟩ := blk_some b1 (j := r * 2) (by simp; omega)
      obtain ⟨y1, y1e⟩ := blk_some b2 (j := r * 2 + 1) (by simp; omega)
      obtain ⟨y2, y2e⟩ := blk_some b3 (j := r * 2 + 1) (by simp; omega)
      clear b1 b2 b3 lr
      have q0 : (0 : Int) ≤ (i : Int) := by omega
      have q1 : (0 : Int) ≤ (r : Int) := by omega
      have q2 : (r : Int) < (n : Int) := by omega
      have HXI := Lib.hid hxi
      have HXR := Lib.hid hxr
      clear hd2 hg2 hin2 hblk hcs i1 i2 r1 r2 hxi hxr hN
      go_wp2_with fail
      go_region
      all_goals
        have hsw := InB.swap (i := i) (k := r) (w' := (((w2.setCell ⟨g, i * 2, none⟩ (.int .i64 xr)).setCell ⟨g, i * 2 + 1, none⟩ (.slice Ar nr cr)).setCell ⟨g, r * 2, none⟩ (.int .i64 xi)).setCell ⟨g, r * 2 + 1, none⟩ (.slice Ai ni ci)) HB.out HCS.out hlt2 (by omega) I2.out R2.out (by rw [Nat.mul_comm 2 i, Nat.mul_comm 2 r, HXI.out, HXR.out])
        have hdw : Dc ((((w2.setCell ⟨g, i * 2, none⟩ (.int .i64 xr)).setCell ⟨g, i * 2 + 1, none⟩ (.slice Ar nr cr)).setCell ⟨g, r * 2, none⟩ (.int .i64 xi)).setCell ⟨g, r * 2 + 1, none⟩ (.slice Ai ni ci)) b :=
          HD2.out.keep fun q hq => (((Below.heap_setCell _ _ _ q (by simp; omega)).trans (Below.heap_setCell _ _ _ q (by simp; omega))).trans (Below.heap_setCell _ _ _ q (by simp; omega))).trans (Below.heap_setCell _ _ _ q (by simp; omega))
        have hgw : w.grownBy ((((w2.setCell ⟨g, i * 2, none⟩ (.int .i64 xr)).setCell ⟨g, i * 2 + 1, none⟩ (.slice Ar nr cr)).setCell ⟨g, r * 2, none⟩ (.int .i64 xi)).setCell ⟨g, r * 2 + 1, none⟩ (.slice Ai ni ci)) (some b) :=
          only_setCell (only_setCell (only_setCell (only_setCell HG2.out (p := ⟨g, i * 2, none⟩) (.inr hBg) _) (p := ⟨g, i * 2 + 1, none⟩) (.inr hBg) _) (p := ⟨g, r * 2, none⟩) (.inr hBg) _) (p := ⟨g, r * 2 + 1, none⟩) (.inr hBg) _
        have hgw2 := only_drewN hgw 1
        have hsl := swp_lt (k := r) hlt2 (by omega) HS.out
        have hsi := swp_inj (k := r) hlt2 (by omega) HJ.out
        have HSW := Lib.hid hsw
        have HDW := Lib.hid hdw
        have HGW := Lib.hid hgw2
        have HSL := Lib.hid hsl
        have HSI := Lib.hid hsi
        clear hsw hdw hgw hgw2 hsl hsi d0 d1 d2 d3 f0 f1 f2 f3 y0e y1e y2e
        go_wp2_with fail
        go_roundw
        case measure => simp [intOf]; omega
        case rel => exact ⟨i + 1, swp σ i r, by omega, by go_num, HSW.out, HSL.out, HSI.out, HDW.out.drew, HGW.out⟩
    · have hin' : i = n := by omega
      subst hin'
      have hsz := HGR.out.size
      have hInB := HI.out
      by_cases hl2 : i ≤ least
      · have t1 : decide ((i : Int) ≤ (least : Int)) = true := decide_eq_true (by omega)
        go_wp2_with fail
        go_ret
        refine ⟨_, pick L σ i, rfl, HI.out.at_ hBg hnc, by rw [pick_len]; omega, by rw [pick_len, HN.out]; exact Nat.le_refl _, ⟨σ, fun k hk => ?_, fun a c ha hc => ?_⟩, HDR.out, HGR.out⟩
        · rw [pick_len] at hk; rw [HN.out]; exact ⟨HS.out k hk, pick_at L σ i k hk⟩
        · rw [pick_len] at ha hc; exact HJ.out a c ha hc
      · have t1 : decide ((i : Int) ≤ (least : Int)) = false := decide_eq_false (by omega)
        have hN : ∀ W, Dc W b → Calls Tryz.prog 23 #[.pointer (some ⟨b, 0, none⟩), .int .i64 ((i : Int) - (least : Int) + 1)] W (NextPost b (i - least + 1) W) := fun W h => by
          have := k_Next b (i - least + 1) W h (by omega) (by omega)
          rwa [show ((i - least + 1 : Nat) : Int) = (i : Int) - (least : Int) + 1 by omega] at this
        go_wp2_with fail
        refine (hN _ HDR.out).mono ?_
        rintro e w2 ⟨r, hr, rfl, hd2, hg2⟩
        have hin2 := HI.out.grown hg2 (by omega) hBg
        have hsl := fun (W : World) => run_slice_hi (P := Tryz.prog) W 41 49 j0 Tryz.underlying41 hj (some ⟨g, 0, none⟩) i cap (least + r) (by omega) ((least : Int) + (r : Int)) (by omega)
        have HI2 := Lib.hid hin2
        have HD2 := Lib.hid hd2
        have HG2 := Lib.hid (gb_trans HGR.out hg2)
        clear hin2 hd2 hg2 hN hInB
        go_wp2_with fail
        go_ret
        have hat := HI2.out.at_ (cap := cap) hBg hnc
        have htk := hat.take (m := least + r) (by omega)
        have hpl : ((pick L σ i).take (least + r)).length = least + r := by rw [List.length_take, pick_len]; omega
        have hpa : ∀ k, k < least + r → shAt ((pick L σ i).take (least + r)) k = shAt L (σ k) := fun k hk => by
          rw [← pick_at L σ i k (by omega)]
          unfold shAt; rw [List.getD_eq_getElem?_getD, List.getD_eq_getElem?_getD, List.getElem?_take, if_pos hk]
        refine ⟨_, (pick L σ i).take (least + r), rfl, htk, by rw [hpl]; omega, by rw [hpl, HN.out]; omega, ⟨σ, fun k hk => ?_, fun a c ha hc => ?_⟩, HD2.out, HG2.out⟩
        · rw [hpl] at hk; rw [HN.out]; exact ⟨HS.out k (by omega), hpa k hk⟩
        · rw [hpl] at ha hc; exact HJ.out a c (by omega) (by omega)
end Go.Proofs.YtjfphobfikadlaaGreatDoor

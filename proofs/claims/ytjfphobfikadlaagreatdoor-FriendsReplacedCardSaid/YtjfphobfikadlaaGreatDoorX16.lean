/- Contracts: the handle of a name. The contract of the kit's turn of shares. Contracts: how many shares may be wrong; the values of shares at a place; whether shares are good in a plan. -/
import Derived.Test.YtjfphobfikadlaaGreatDoorX15
import Derived.Test.YtjfphobfikadlaaGreatDoorX09
import Derived.Test.YtjfphobfikadlaaGreatDoorX14
set_option linter.unusedVariables false
set_option linter.unusedSimpArgs false
namespace Go.Proofs.YtjfphobfikadlaaGreatDoor
open Go.RowKit Num

theorem shAt_take (L : List Sh) (n k : Nat) (h : k < n) : shAt (L.take n) k = shAt L k := by
  unfold shAt; rw [List.getD_eq_getElem?_getD, List.getD_eq_getElem?_getD, List.getElem?_take, if_pos h]
theorem ShAt.take {w : World} {S : Nat → Prop} {A : Option Addr} {n c m : Nat} {L : List Sh} (h : ShAt w S (.slice A n c) L) (hm : m ≤ n) : ShAt w S (.slice A m c) (L.take m) := by
  obtain ⟨A', n', c', hv, h2, h3, h4⟩ := h
  injection hv with e1 e2 e3
  subst e1 e2 e3
  refine ⟨_, m, _, rfl, by rw [List.length_take]; omega, by omega, fun hm' => ?_⟩
  obtain ⟨b, off, hA, hS, hc⟩ := h4 (by omega)
  refine ⟨b, off, hA, hS, fun k hk => ?_⟩
  rw [shAt_take L m k hk]
  exact hc k (by omega)
theorem PartsOk.take {p hold : Nat} {L : List Sh} (h : PartsOk p hold L) (m : Nat) : PartsOk p hold (L.take m) := by
  have hl : (L.take m).length ≤ L.length := by rw [List.length_take]; omega
  have hm : (L.take m).length ≤ m := by rw [List.length_take]; omega
  refine ⟨fun k hk => ?_, fun i j hi hj hne => ?_, fun k hk => ?_, fun k hk => ?_⟩
  · rw [shAt_take L m k (by omega)]; exact h.holder k (by omega)
  · rw [shAt_take L m i (by omega), shAt_take L m j (by omega)]; exact h.once i j (by omega) (by omega) hne
  · rw [shAt_take L m k (by omega)]; exact h.one k (by omega)
  · rw [shAt_take L m k (by omega)]; exact h.grp k (by omega)
def Int2Below (a b : Int) (w : World) (e : Ending) (w' : World) : Prop := e = .returned (.tuple #[.int .i64 a, .int .i64 b]) ∧ Below w.heap.size w w'
/-- One share: its holder, one value below p. -/
def PartPost (p x h y : Nat) (w : World) (e : Ending) (w' : World) : Prop :=
  ∃ v, e = .returned (.tuple #[.agg #[.int .i64 (h : Int), v], .int .i64 0]) ∧ w'.ownsRow w.heap.size 3 1 v 1 [.int .i64 (pw (2 * p + 1) x y : Int)] ∧ Below w.heap.size w w'
end Go.Proofs.YtjfphobfikadlaaGreatDoor
namespace Go.Proofs.YtjfphobfikadlaaGreatDoor
open Go.RowKit Num

theorem blk_some {w : World} {g j : Nat} {t : TypeId} {cs : Array Value} (h : Blk w g t cs) (hj : j < cs.size) : ∃ y, w.cell? ⟨g, j, none⟩ = some y := ⟨cs[j], by rw [h.cell, Array.getElem?_eq_getElem hj]⟩
set_option maxRecDepth 100000 in
set_option maxHeartbeats 2000000 in
theorem k_Turn (b least : Nat) (v : Value) (L : List Sh) (S : Nat → Prop) (w : World) (hd : Dc w b) (hv : ShAt w S v L) (hS : ∀ b, S b → b < w.heap.size) (h0 : 0 < L.length) (hl : L.length ≤ 1000) (hle : least ≤ L.length)
    (ho : ∀ k, k < L.length → 0 < (shAt L k).2.length ∧ (shAt L k).2.length ≤ 1000) :
    Calls Tryz.prog 47 #[.pointer (some ⟨b, 0, none⟩), v, .int .i64 (least : Int)] w (TurnPost b L least w) := by
  obtain ⟨j0, hj, hy0, hy1, hy2⟩ := info_parts infoS
  have hcopy := r_Copy v L S w hv hS hl ho
  have hlt := hd.lt
  have HC := Lib.hid hcopy
  have HD := Lib.hid hd
  obtain ⟨n, hn⟩ : ∃ n, L.length = n := ⟨_, rfl⟩
  rw [hn] at h0 hl hle
  have HN := Lib.hid hn
  clear hcopy hd hv hS ho hn
  go_enter Tryz.func47, Tryz.ntmps47
  go_wp2_with fail
  refine HC.out.mono ?_
  rintro e w1 ⟨v1, rfl, hown, hb1⟩
  obtain ⟨g, cap, rfl, hnc, hBg, hg, hin⟩ := hown.inB (by rw [HN.out]; exact h0)
  rw [HN.out] at hnc hin ⊢
  have hg1 : w.grownBy w1 (some b) := only_of_below hb1 _
  have hd1 := HD.out.below hb1 hlt
  have HIN := Lib.hid hin
  have HG1 := Lib.hid hg1
  have HD1 := Lib.hid hd1
  clear hown hb1 hin hg1 hd1 HC
  go_wp2_with fail
  go_loopw [14] (fun t wr => ∃ (i : Nat) (σ : Nat → Nat), i ≤ n ∧ t = .int .i64 i ∧ InB wr g w.heap.size L σ n ∧ (∀ a, a < n → σ a < n) ∧ (∀ a c, a < n → c < n → a ≠ c → σ a ≠ σ c) ∧ Dc wr b ∧ w.grownBy wr (some b)) (fun t _ => n - (intOf t).toNat)
  case atStart => exact ⟨0, id, by omega, rfl, HIN.out, fun a h => h, fun a c _ _ h => h, HD1.out, HG1.out⟩
  case round =>
    obtain ⟨i, σ, hi, rfl, hin, hσ, hinj, hdr, hgr⟩ := hrel
    have HI := Lib.hid hin
    have HS := Lib.hid hσ
    have HJ := Lib.hid hinj
    have HDR := Lib.hid hdr
    have HGR := Lib.hid hgr
    clear hin hσ hinj hdr hgr
    by_cases hlt2 : i < n
    · have qi : (i : Int) < (n : Int) := by omega
      have hN : ∀ W, Dc W b → Calls Tryz.prog 23 #[.pointer (some ⟨b, 0, none⟩), .int .i64 ((i : Int) + 1)] W (NextPost b (i + 1) W) := fun W h => by
        have := k_Next b (i + 1) W h (by omega) (by omega)
        rwa [show ((i + 1 : Nat) : Int) = (i : Int) + 1 by omega] at this
      go_wp2_with fail
      refine (hN _ HDR.out).mono ?_
      rintro e w2 ⟨r, hr, rfl, hd2, hg2⟩
      have hin2 := HI.out.grown hg2 (by omega) hBg
      obtain ⟨cs, hblk, hcs⟩ := id hin2
      obtain ⟨ui, i1, i2, i3⟩ := hcs i hlt2
      obtain ⟨ur, r1, r2, r3⟩ := hcs r (by omega)
      obtain ⟨Ai, ni, ci, rfl, -⟩ := i3
      obtain ⟨Ar, nr, cr, rfl, -⟩ := r3
      have HB := Lib.hid hblk
      have HCS := Lib.hid hcs
      have HD2 := Lib.hid hd2
      have HG2 := Lib.hid (gb_trans HGR.out hg2)
      have I2 := Lib.hid i2
      have R2 := Lib.hid r2
      obtain ⟨xi, hxi⟩ : ∃ z, (shAt L (σ i)).1 = z := ⟨_, rfl⟩
      obtain ⟨xr, hxr⟩ : ∃ z, (shAt L (σ r)).1 = z := ⟨_, rfl⟩
      have d0 : w2.cell? ⟨g, i * 2, none⟩ = some (.int .i64 xi) := by rw [hblk.cell, Nat.mul_comm, i1, hxi]
      have d1 : w2.cell? ⟨g, i * 2 + 1, none⟩ = some (.slice Ai ni ci) := by rw [hblk.cell, Nat.mul_comm, i2]
      have d2 : w2.cell? ⟨g, r * 2, none⟩ = some (.int .i64 xr) := by rw [hblk.cell, Nat.mul_comm, r1, hxr]
      have d3 : w2.cell? ⟨g, r * 2 + 1, none⟩ = some (.slice Ar nr cr) := by rw [hblk.cell, Nat.mul_comm, r2]
      have f0 := hblk.frozen (i * 2)
      have f1 := hblk.frozen (i * 2 + 1)
      have f2 := hblk.frozen (r * 2)
      have f3 := hblk.frozen (r * 2 + 1)
      have lr : r * 2 + 1 < cs.size := by have := (Array.getElem?_eq_some_iff.1 r2).1; omega
      have b1 := hblk.set_ (i * 2) (.int .i64 xr)
      have b2 := hblk.set_ (i * 2 + 1) (.slice Ar nr cr)
      have b3 := b1.set_ (i * 2 + 1) (.slice Ar nr cr)
      obtain ⟨y0, y0e⟩ := blk_some b1 (j := r * 2) (by simp; omega)
      obtain ⟨y1, y1e⟩ := blk_some b2 (j := r * 2 + 1) (by simp; omega)
      obtain ⟨y2, y2e⟩ := blk_some b3 (j := r * 2 + 1) (by simp; omega)
      clear b1 b2 b3 lr
      have q0 : (0 : Int) ≤ (i : Int) := by omega
      have q1 : (0 : Int) ≤ (r : Int) := by omega
      have q2 : (r : Int) < (n : Int) := by omega
      have HXI := Lib.hid hxi
      have HXR := Lib.hid hxr
      clear hd2 hg2 hin2 hblk hcs i1 i2 r1 r2 hxi hxr hN
      go_wp2_with fail
      go_region
      all_goals
        have hsw := InB.swap (i := i) (k := r) (w' := (((w2.setCell ⟨g, i * 2, none⟩ (.int .i64 xr)).setCell ⟨g, i * 2 + 1, none⟩ (.slice Ar nr cr)).setCell ⟨g, r * 2, none⟩ (.int .i64 xi)).setCell ⟨g, r * 2 + 1, none⟩ (.slice Ai ni ci)) HB.out HCS.out hlt2 (by omega) I2.out R2.out (by rw [Nat.mul_comm 2 i, Nat.mul_comm 2 r, HXI.out, HXR.out])
        have hdw : Dc ((((w2.setCell ⟨g, i * 2, none⟩ (.int .i64 xr)).setCell ⟨g, i * 2 + 1, none⟩ (.slice Ar nr cr)).setCell ⟨g, r * 2, none⟩ (.int .i64 xi)).setCell ⟨g, r * 2 + 1, none⟩ (.slice Ai ni ci)) b :=
          HD2.out.keep fun q hq => (((Below.heap_setCell _ _ _ q (by simp; omega)).trans (Below.heap_setCell _ _ _ q (by simp; omega))).trans (Below.heap_setCell _ _ _ q (by simp; omega))).trans (Below.heap_setCell _ _ _ q (by simp; omega))
        have hgw : w.grownBy ((((w2.setCell ⟨g, i * 2, none⟩ (.int .i64 xr)).setCell ⟨g, i * 2 + 1, none⟩ (.slice Ar nr cr)).setCell ⟨g, r * 2, none⟩ (.int .i64 xi)).setCell ⟨g, r * 2 + 1, none⟩ (.slice Ai ni ci)) (some b) :=
          only_setCell (only_setCell (only_setCell (only_setCell HG2.out (p := ⟨g, i * 2, none⟩) (.inr hBg) _) (p := ⟨g, i * 2 + 1, none⟩) (.inr hBg) _) (p := ⟨g, r * 2, none⟩) (.inr hBg) _) (p := ⟨g, r * 2 + 1, none⟩) (.inr hBg) _
        have hgw2 := only_drewN hgw 1
        have hsl := swp_lt (k := r) hlt2 (by omega) HS.out
        have hsi := swp_inj (k := r) hlt2 (by omega) HJ.out
        have HSW := Lib.hid hsw
        have HDW := Lib.hid hdw
        have HGW := Lib.hid hgw2
        have HSL := Lib.hid hsl
        have HSI := Lib.hid hsi
        clear hsw hdw hgw hgw2 hsl hsi d0 d1 d2 d3 f0 f1 f2 f3 y0e y1e y2e
        go_wp2_with fail
        go_roundw
        case measure => simp [intOf]; omega
        case rel => exact ⟨i + 1, swp σ i r, by omega, by go_num, HSW.out, HSL.out, HSI.out, HDW.out.drew, HGW.out⟩
    · have hin' : i = n := by omega
      subst hin'
      have hsz := HGR.out.size
      have hInB := HI.out
      by_cases hl2 : i ≤ least
      · have t1 : decide ((i : Int) ≤ (least : Int)) = true := decide_eq_true (by omega)
        go_wp2_with fail
        go_ret
        refine ⟨_, pick L σ i, rfl, HI.out.at_ hBg hnc, by rw [pick_len]; omega, by rw [pick_len, HN.out]; exact Nat.le_refl _, ⟨σ, fun k hk => ?_, fun a c ha hc => ?_⟩, HDR.out, HGR.out⟩
        · rw [pick_len] at hk; rw [HN.out]; exact ⟨HS.out k hk, pick_at L σ i k hk⟩
        · rw [pick_len] at ha hc; exact HJ.out a c ha hc
      · have t1 : decide ((i : Int) ≤ (least : Int)) = false := decide_eq_false (by omega)
        have hN : ∀ W, Dc W b → Calls Tryz.prog 23 #[.pointer (some ⟨b, 0, none⟩), .int .i64 ((i : Int) - (least : Int) + 1)] W (NextPost b (i - least + 1) W) := fun W h => by
          have := k_Next b (i - least + 1) W h (by omega) (by omega)
          rwa [show ((i - least + 1 : Nat) : Int) = (i : Int) - (least : Int) + 1 by omega] at this
        go_wp2_with fail
        refine (hN _ HDR.out).mono ?_
        rintro e w2 ⟨r, hr, rfl, hd2, hg2⟩
        have hin2 := HI.out.grown hg2 (by omega) hBg
        have hsl := fun (W : World) => run_slice_hi (P := Tryz.prog) W 41 49 j0 Tryz.underlying41 hj (some ⟨g, 0, none⟩) i cap (least + r) (by omega) ((least : Int) + (r : Int)) (by omega)
        have HI2 := Lib.hid hin2
        have HD2 := Lib.hid hd2
        have HG2 := Lib.hid (gb_trans HGR.out hg2)
        clear hin2 hd2 hg2 hN hInB
        go_wp2_with fail
        go_ret
        have hat := HI2.out.at_ (cap := cap) hBg hnc
        have htk := hat.take (m := least + r) (by omega)
        have hpl : ((pick L σ i).take (least + r)).length = least + r := by rw [List.length_take, pick_len]; omega
        have hpa : ∀ k, k < least + r → shAt ((pick L σ i).take (least + r)) k = shAt L (σ k) := fun k hk => by
          rw [← pick_at L σ i k (by omega)]
          unfold shAt; rw [List.getD_eq_getElem?_getD, List.getD_eq_getElem?_getD, List.getElem?_take, if_pos hk]
        refine ⟨_, (pick L σ i).take (least + r), rfl, htk, by rw [hpl]; omega, by rw [hpl, HN.out]; omega, ⟨σ, fun k hk => ?_, fun a c ha hc => ?_⟩, HD2.out, HG2.out⟩
        · rw [hpl] at hk; rw [HN.out]; exact ⟨HS.out k (by omega), hpa k hk⟩
        · rw [hpl] at ha hc; exact HJ.out a c (by omega) (by omega)
end Go.Proofs.YtjfphobfikadlaaGreatDoor
namespace Go.Proofs.YtjfphobfikadlaaGreatDoor
open Go.RowKit Num

/-- The values of shares at a place. -/
def colY (l : List Sh) (i : Nat) : List Int := l.map fun s => s.2.getD i 0
theorem colY_len (l : List Sh) (i : Nat) : (colY l i).length = l.length := by simp [colY]
theorem colY_get (l : List Sh) (i k : Nat) (h : k < l.length) : (colY l i).getD k 0 = (shAt l k).2.getD i 0 := by
  unfold colY shAt
  rw [List.getD_eq_getElem?_getD, List.getElem?_map, List.getD_eq_getElem?_getD (l := l), List.getElem?_eq_getElem h]; rfl
theorem hsOf_len (l : List Sh) : (hsOf l).length = l.length := by simp [hsOf]
/-- Shares that are good in a plan: holders of the plan, each once, equally many values, each an element. -/
structure GoodSh (p hold m : Nat) (l : List Sh) : Prop where
  holder : ∀ k, k < l.length → 1 ≤ (shAt l k).1 ∧ (shAt l k).1 ≤ hold
  once : ∀ i j, i < l.length → j < l.length → i ≠ j → (shAt l i).1 ≠ (shAt l j).1
  len : ∀ k, k < l.length → (shAt l k).2.length = m
  inF : ∀ k, k < l.length → InF p (shAt l k).2
theorem GoodSh.apart {p hold m : Nat} {l : List Sh} (h : GoodSh p hold m l) (hp : hold < p) : ApartN p (fOf (hsOf l)) (hsOf l).length := by
  intro i j hi hj hne hd
  rw [hsOf_len] at hi hj
  rw [hsOf_get l i hi, hsOf_get l j hj] at hd
  have h1 := h.holder i hi
  have h2 := h.holder j hj
  have := h.once i j hi hj hne
  have := Int.eq_zero_of_dvd_of_natAbs_lt_natAbs hd (by omega)
  omega
theorem GoodSh.dist {p hold m : Nat} {l : List Sh} (h : GoodSh p hold m l) : ∀ i j, i < (hsOf l).length → j < (hsOf l).length → i ≠ j → (hsOf l).getD i 0 ≠ (hsOf l).getD j 0 := by
  intro i j hi hj hne
  rw [hsOf_len] at hi hj
  have e1 := hsOf_get l i hi
  have e2 := hsOf_get l j hj
  unfold fOf at e1 e2
  rw [e1, e2]
  exact h.once i j hi hj hne
theorem GoodSh.hsF {p hold m : Nat} {l : List Sh} (h : GoodSh p hold m l) (hp : hold < p) : InF p (hsOf l) := by
  intro k hk
  rw [hsOf_len] at hk
  have e := hsOf_get l k hk
  unfold fOf at e
  have := h.holder k hk
  rw [e]; omega
theorem GoodSh.colF {p hold m : Nat} {l : List Sh} (h : GoodSh p hold m l) (i : Nat) (hi : i < m) : InF p (colY l i) := by
  intro k hk
  rw [colY_len] at hk
  rw [colY_get l i k hk]
  exact h.inF k hk i (by rw [h.len k hk]; exact hi)
def BoolBelow (b : Bool) (w : World) (e : Ending) (w' : World) : Prop := e = .returned (.bool b) ∧ Below w.heap.size w w'
set_option maxHeartbeats 400000 in
theorem s_Valid (p need hold : Nat) (w : World) (hw : BasesOk w) (hp : Prm p) (h2 : p ≤ 1073741824) (n1 : 1 ≤ need) (n2 : need ≤ hold) (n3 : hold ≤ 16) (n4 : hold < p) :
    Calls Tryz.prog 66 #[.agg #[.int .i64 (p : Int), .int .i64 (need : Int), .int .i64 (hold : Int)]] w (BoolBelow true w) := by
  have hw1 := fun o => hw.alloc o
  have t1 : decide ((1 : Int) ≤ (need : Int)) = true := decide_eq_true (by omega)
  have t2 : decide ((need : Int) ≤ (hold : Int)) = true := decide_eq_true (by omega)
  have t3 : decide ((hold : Int) ≤ 16) = true := decide_eq_true (by omega)
  have t4 : decide ((hold : Int) < (p : Int)) = true := decide_eq_true (by omega)
  go_enter Tryz.func66, Tryz.ntmps66
  go_wp2_with fail
  refine (f_Valid p _ (hw1 _) hp h2).mono ?_
  rintro e w' ⟨rfl, rfl⟩
  go_wp2_with fail
  go_ret
  exact ⟨rfl, (Below.refl _ _).alloc (Nat.le_refl _) _⟩

/-- Which holders have been seen among the first k shares. -/
def seenV (L : List Sh) (k : Nat) (j : Nat) : Value := .bool (decide (∃ i, i < k ∧ (shAt L i).1 = (j : Int)))
end Go.Proofs.YtjfphobfikadlaaGreatDoor
namespace Go.Proofs.YtjfphobfikadlaaGreatDoor
open Go.RowKit Num

set_option maxHeartbeats 400000 in
theorem c_Room (p need hold n : Nat) (w : World) (hp : p ≤ 2147483648) (hnn : need ≤ n) (hn : n ≤ 1000000) :
    Calls Tryz.prog 89 #[.agg #[.int .i64 (p : Int), .int .i64 (need : Int), .int .i64 (hold : Int)], .int .i64 (n : Int)] w fun e w' => e = .returned (.int .i64 (((n - need) / 2 : Nat) : Int)) ∧ Below w.heap.size w w' := by
  have t1 : decide ((n : Int) < (need : Int)) = false := decide_eq_false (by omega)
  go_enter Tryz.func89, Tryz.ntmps89
  go_wp2_with fail
  go_ret
  exact ⟨ret_int (by omega), (Below.refl _ _).alloc (Nat.le_refl _) _⟩

set_option maxRecDepth 100000 in
set_option maxHeartbeats 1000000 in
theorem c_Values (v : Value) (L : List Sh) (i : Nat) (S : Nat → Prop) (w : World) (hv : ShAt w S v L) (hS : ∀ b, S b → b < w.heap.size) (hl : L.length ≤ 1000) (hi : ∀ k, k < L.length → i < (shAt L k).2.length) :
    Calls Tryz.prog 95 #[v, .int .i64 (i : Int)] w (IntsPost (colY L i) w) := by
  obtain ⟨A, n, c, rfl, hn, hnc, hc⟩ := hv
  obtain ⟨i0, hin, hz0, hz1, hz2⟩ := info_parts infoI
  have hn1 : n ≤ 1000 := by omega
  rw [← hn] at hi
  have HN := Lib.hid hn
  have HI := Lib.hid hi
  have HC := Lib.hid hc
  have q0 : (0 : Int) ≤ (i : Int) := by omega
  clear hn hl hi hc
  go_enter Tryz.func95, Tryz.ntmps95
  go_wp2_with fail
  go_loopw [5, 10] (fun o t wr => ∃ k : Nat, k ≤ n ∧ t = .int .i64 k ∧ wr.ownsRow w.heap.size 3 1 o k ((colY (L.take k) i).map (Value.int .i64)) ∧ Below w.heap.size w wr) (fun _ t _ => n - (intOf t).toNat)
  case atStart => exact ⟨0, by omega, rfl, World.ownsRow_nil _ _ _ _, Below.refl _ _⟩
  case round =>
    obtain ⟨k, hk, rfl, hown, hbl⟩ := hrel
    have hsz := hbl.size
    by_cases hlt : k < n
    · obtain ⟨b, off, rfl, hSb, hcell⟩ := HC.out (by omega)
      obtain ⟨u, c0, c1, hu⟩ := hcell k hlt
      obtain ⟨Au, nu, cu, rfl, e1, e2, e3⟩ := hu
      have hiL := HI.out k hlt
      obtain ⟨bu, offu, rfl, hSu, hcu⟩ := e3 (by omega)
      have hbw := hS b hSb
      have hbu := hS bu hSu
      have d0 := (hbl.cell (p := ⟨b, off + k * 2, none⟩) hbw).trans c0
      have d1 := (hbl.cell (p := ⟨b, off + k * 2 + 1, none⟩) hbw).trans c1
      have d2 := (hbl.cell (p := ⟨bu, offu + i, none⟩) hbu).trans (hcu i (by omega))
      have qk : (k : Int) < (n : Int) := by omega
      have qi : (i : Int) < (nu : Int) := by omega
      have HBL := Lib.hid hbl
      obtain ⟨y, hy⟩ : ∃ y, (shAt L k).2.getD i 0 = y := ⟨_, rfl⟩
      rw [hy] at d2
      obtain ⟨h, hh⟩ : ∃ h, (shAt L k).1 = h := ⟨_, rfl⟩
      rw [hh] at d0
      have hstep : (colY (L.take (k + 1)) i).map (Value.int .i64) = (colY (L.take k) i).map (Value.int .i64) ++ [.int .i64 y] := by
        have hkl : k < L.length := by rw [← HN.out]; exact hlt
        unfold colY
        rw [List.take_succ_eq_append_getElem hkl, List.map_append, List.map_append]
        have : shAt L k = L[k] := by unfold shAt; rw [List.getD_eq_getElem?_getD, List.getElem?_eq_getElem hkl]; rfl
        rw [← hy, this]; rfl
      have HST := Lib.hid hstep
      have bz : bu < wr.heap.size := by omega
      clear hbl hcell c0 c1 hh hstep hy e1 e2 e3 hcu hiL
      go_wp2_with (at_builtin; refine wpList_append_own _ rfl _ _ 24 rfl w.heap.size 3 i0 (.int .i64 0) 1 8 Tryz.underlying24 hin hz0 hz1 hz2 rfl (by decide) _ _ _ rfl ((hown.alloc _).alloc _) ⟨wr.heap.size + 1, 0, none⟩ 1 1 [.int .i64 y] rfl rfl (fun j u hj => by have := cell_one_new (wr.alloc (.cells #[.int .i64 h, .slice (some ⟨bu, offu, none⟩) nu cu] 49)) (.int .i64 y) 3 j u hj; simpa using this) (ints_oneCell .i64 [_]) (by unfold maxLen; omega) (by omega) (by simp; omega) ?_)
      intro v' w2 hown' hgrow _
      have hg := grown_past (grown_past hgrow)
      have hown2 : w2.ownsRow w.heap.size 3 1 v' (k + 1) ((colY (L.take (k + 1)) i).map (Value.int .i64)) := by rw [HST.out]; simpa using hown'
      have hul : ∀ g, u5.ownBlock = some g → w.heap.size ≤ g := fun g hg => (hown.lt g hg).1
      have hb2 := HBL.out.grown hg hsz hul
      have HO2 := Lib.hid hown2
      have HB2 := Lib.hid hb2
      clear hown' hgrow hg hown2 hul hb2 hown
      go_wp2_with fail
      go_roundw
      case measure => simp [intOf]; omega
      case rel => exact ⟨k + 1, by omega, by go_num, HO2.out, HB2.out⟩
    · have hkn : k = n := by omega
      subst hkn
      go_wp2_with fail
      go_ret
      refine ⟨_, rfl, IntsAt.of_own (n := k) ?_, hbl⟩
      rwa [List.take_of_length_le (by rw [← HN.out]; exact Nat.le_refl _)] at hown

set_option maxHeartbeats 400000 in
theorem s_elem1 (pb p : Nat) (x : Int) (w : World) (hc : w.cell? ⟨pb, 0, none⟩ = some (.int .i64 (p : Int))) (h0 : 0 ≤ x) (h1 : x < p) :
    Calls Tryz.prog 158 #[.int .i64 x, .pointer (some ⟨pb, 0, none⟩)] w fun e w' => e = .returned (.bool false) ∧ w = w' := by
  have t1 : decide (x < 0) = false := decide_eq_false (by omega)
  have t2 : decide ((p : Int) ≤ x) = false := decide_eq_false (by omega)
  clear h0 h1
  go_enter Tryz.func158, Tryz.ntmps158
  go_wp2_with fail
  go_ret
  exact ⟨rfl, rfl⟩
set_option maxRecDepth 100000 in
set_option maxHeartbeats 1000000 in
theorem s_IndexFunc (pb p : Nat) (v : Value) (xs : List Int) (S : Nat → Prop) (w : World) (hv : IntsAt w S v xs) (hl : xs.length ≤ 1000000) (hc : w.cell? ⟨pb, 0, none⟩ = some (.int .i64 (p : Int))) (hx : InF p xs) :
    Calls Tryz.prog 193 #[v, .func (.func 158) #[] #[.pointer (some ⟨pb, 0, none⟩)]] w fun e w' => e = .returned (.int .i64 (-1)) ∧ w = w' := by
  obtain ⟨A, n, ca, rfl, hn, hnc, hcc⟩ := hv
  rw [← hn] at hl
  have hx' : ∀ k, k < n → 0 ≤ xs.getD k 0 ∧ xs.getD k 0 < p := fun k hk => hx k (by omega)
  have HX := Lib.hid hx'
  have HCC := Lib.hid hcc
  clear hn hcc hx hx'
  go_enter Tryz.func193, Tryz.ntmps193
  go_wp2_with fail
  go_loopw [8] (fun t wr => ∃ i : Nat, i ≤ n ∧ t = .int .i64 i ∧ w = wr) (fun t _ => n - (intOf t).toNat)
  case atStart => exact ⟨0, by omega, rfl, rfl⟩
  case round =>
    obtain ⟨i, hin, rfl, rfl⟩ := hrel
    by_cases hlt : i < n
    · obtain ⟨b, off, rfl, _, hcell⟩ := HCC.out (by omega)
      have cx := hcell i hlt
      have bx := HX.out i hlt
      obtain ⟨x, hx⟩ : ∃ x, xs.getD i 0 = x := ⟨_, rfl⟩
      rw [hx] at cx bx
      have qi : (i : Int) < (n : Int) := by omega
      have qi0 : (0 : Int) ≤ (i : Int) := by omega
      have he := s_elem1 pb p x w hc bx.1 bx.2
      have HE := Lib.hid he
      clear hx hcell bx he
      go_wp2_with fail
      refine HE.out.mono ?_
      rintro e w' ⟨rfl, rfl⟩
      go_wp2_with fail
      go_roundw
      case measure => simp [intOf]; omega
      case rel => exact ⟨i + 1, by omega, by go_num, by first | rfl | trivial⟩
    · have hi' : i = n := by omega
      subst hi'
      go_wp2_with fail
      go_ret
      exact ⟨rfl, rfl⟩
set_option maxHeartbeats 400000 in
theorem s_ContainsFunc (pb p : Nat) (v : Value) (xs : List Int) (S : Nat → Prop) (w : World) (hv : IntsAt w S v xs) (hl : xs.length ≤ 1000000) (hc : w.cell? ⟨pb, 0, none⟩ = some (.int .i64 (p : Int))) (hx : InF p xs) :
    Calls Tryz.prog 157 #[v, .func (.func 158) #[] #[.pointer (some ⟨pb, 0, none⟩)]] w fun e w' => e = .returned (.bool false) ∧ w = w' := by
  have h := s_IndexFunc pb p v xs S w hv hl hc hx
  have H := Lib.hid h
  clear h hv hx hc
  go_enter Tryz.func157, Tryz.ntmps157
  go_wp2_with fail
  refine H.out.mono ?_
  rintro e w' ⟨rfl, rfl⟩
  go_wp2_with fail
  go_ret
  exact ⟨rfl, rfl⟩
set_option maxHeartbeats 400000 in
theorem s_elements (p need hold : Nat) (v : Value) (xs : List Int) (S : Nat → Prop) (w : World) (hv : IntsAt w S v xs) (hS : ∀ b, S b → b < w.heap.size) (hl : xs.length ≤ 1000000) (hx : InF p xs) :
    Calls Tryz.prog 120 #[.agg #[.int .i64 (p : Int), .int .i64 (need : Int), .int .i64 (hold : Int)], v] w (BoolBelow true w) := by
  obtain ⟨A, n, c, rfl, hn, hnc, hcc⟩ := id hv
  have h := s_ContainsFunc w.heap.size p _ xs S (w.alloc (.cells #[.int .i64 (p : Int), .int .i64 (need : Int), .int .i64 (hold : Int)] 34)) (hv.keep fun b hb => Below.heap_alloc _ _ _ (hS b hb)) hl (by rw [World.cell?_alloc_new]; rfl) hx
  have H := Lib.hid h
  clear h hv hx hn hcc
  go_enter Tryz.func120, Tryz.ntmps120
  go_wp2_with fail
  refine H.out.mono ?_
  rintro e w' ⟨rfl, rfl⟩
  go_wp2_with fail
  go_ret
  exact ⟨rfl, (Below.refl _ _).alloc (Nat.le_refl _) _⟩
set_option maxHeartbeats 400000 in
theorem s_Stands (p need hold h : Nat) (v : Value) (xs : List Int) (S : Nat → Prop) (w : World) (hv : IntsAt w S v xs) (hS : ∀ b, S b → b < w.heap.size) (hl : xs.length ≤ 1000000) (hx : InF p xs) (h1 : 1 ≤ h) (h2 : h ≤ hold) :
    Calls Tryz.prog 194 #[.agg #[.int .i64 (p : Int), .int .i64 (need : Int), .int .i64 (hold : Int)], .agg #[.int .i64 (h : Int), v]] w (BoolBelow true w) := by
  obtain ⟨A, n, c, rfl, hn, hnc, hcc⟩ := id hv
  have t1 : decide ((1 : Int) ≤ (h : Int)) = true := decide_eq_true (by omega)
  have t2 : decide ((h : Int) ≤ (hold : Int)) = true := decide_eq_true (by omega)
  have t3 : decide (h ≤ hold) = true := decide_eq_true h2
  have e := fun (o o' : Obj) => s_elements p need hold (.slice A n c) xs S ((w.alloc o).alloc o') ((hv.keep fun b hb => Below.heap_alloc _ _ _ (hS b hb)).keep fun b hb => Below.heap_alloc _ _ _ (by have := hS b hb; simp; omega)) (fun b hb => by have := hS b hb; simp; omega) hl hx
  have E := Lib.hid e
  clear e hv hx hn hcc h1 h2
  go_enter Tryz.func194, Tryz.ntmps194
  go_wp2_with fail
  refine (E.out _ _).mono ?_
  rintro e w' ⟨rfl, hb⟩
  have HB := Lib.hid hb
  clear hb
  go_wp2_with fail
  go_ret
  exact ⟨rfl, (((Below.refl _ _).alloc (Nat.le_refl _) _).alloc (by simp) _).trans (HB.out.mono (by simp; omega))⟩
end Go.Proofs.YtjfphobfikadlaaGreatDoor

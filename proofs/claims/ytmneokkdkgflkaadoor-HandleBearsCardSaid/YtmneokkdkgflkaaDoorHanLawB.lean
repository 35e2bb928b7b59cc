/- The law on wrong parts that change nothing. -/
import Derived.Test.YtmneokkdkgflkaaDoorHanBea
import Derived.Test.YtmneokkdkgflkaaDoorRegLast
import Derived.Deep.MidRow
import Derived.Deep.Cut
set_option linter.unusedVariables false
set_option linter.unusedSimpArgs false
namespace Go.Proofs.YtmneokkdkgflkaaDoor
open Go.RowKit Num

set_option maxRecDepth 100000 in
set_option maxHeartbeats 4000000 in
theorem l_Bears (v : Value) (w : World) (hw : BasesOk w) (A : Option Addr) (n c : Nat) (hv : v = .slice A n c) (hn : n ≤ 9223372036854775807) (ha : n ≤ 500 → ArgL w v) :
    Calls Tryd.prog 8 #[v] w (BoolBelow true w) := by
  obtain ⟨i0, hi, hz0, hz1, hz2⟩ := info_parts infoI
  obtain ⟨j0, hj, hy0, hy1, hy2⟩ := info_parts infoS
  subst hv
  by_cases h5 : n ≤ 500
  · have t1 : decide ((n : Int) ≤ 500) = true := decide_eq_true (by omega)
    have ha := ha h5
    have HW := Lib.hid hw
    have HA := Lib.hid ha
    clear hw ha
    go_enter Tryd.func8, Tryd.ntmps8
    go_wp2_with fail
    refine (k_Light A n c _ hn).mono ?_
    rintro e w' ⟨rfl, rfl⟩
    go_wp2_with fail
    refine (k_Roll _ _ HA.out).mono ?_
    rintro e w1 ⟨rfl, hd1, hb1⟩
    have hlt1 := hd1.lt
    obtain ⟨d, hd⟩ : ∃ d, w.heap.size = d := ⟨_, rfl⟩
    rw [hd] at hd1 hb1 hlt1 ⊢
    have HD := Lib.hid hd
    have HD1 := Lib.hid hd1
    have HB1 := Lib.hid hb1
    clear hd hd1 hb1 HA
    go_wp2_with fail
    refine (k_Next d 5 _ (HD1.out.alloc _) (by omega) (by omega)).mono ?_
    rintro e w2 ⟨r, hr, rfl, hd2, hg2⟩
    have hb2 : Below d w w2 := (HB1.out.alloc (by omega) _).grown hg2 (by simp; omega) (fun g hg => by injection hg with hg; omega)
    have hcc := fun (i : Nat) => (World.cell?_of_block (hg2.block w1.heap.size (by simp) (by simp; omega)) : w2.cell? ⟨w1.heap.size, i, none⟩ = _)
    have q1 : (0 : Int) ≤ (r : Int) := by omega
    have q2 : (r : Int) < 5 := by omega
    obtain ⟨p, hsafe, hcp⟩ : ∃ p : Nat, Num.Safe p ∧ w2.cell? ⟨w1.heap.size, r, none⟩ = some (.int .i64 (p : Int)) := by
      rcases (show r = 0 ∨ r = 1 ∨ r = 2 ∨ r = 3 ∨ r = 4 by omega) with rfl | rfl | rfl | rfl | rfl
      · exact ⟨11, by unfold Num.Safe; decide, by rw [hcc]; simp [World.cell?_alloc_new]⟩
      · exact ⟨23, by unfold Num.Safe; decide, by rw [hcc]; simp [World.cell?_alloc_new]⟩
      · exact ⟨29, by unfold Num.Safe; decide, by rw [hcc]; simp [World.cell?_alloc_new]⟩
      · exact ⟨83, by unfold Num.Safe; decide, by rw [hcc]; simp [World.cell?_alloc_new]⟩
      · exact ⟨500000003, by unfold Num.Safe; decide, by rw [hcc]; simp [World.cell?_alloc_new]⟩
    have hsp := safe_sprm hsafe
    have p3 := hsp.2.2.1
    have p4 := hsp.2.2.2
    have HSP := Lib.hid hsp
    have HB2 := Lib.hid hb2
    have HD2 := Lib.hid hd2
    clear hd2 hb2 hg2 hsafe hsp HD1 HB1 hcc
    go_wp2_with fail
    clear hcp q1 q2 hr
    refine (k_Plan d p _ HD2.out (by omega) (by omega)).mono ?_
    rintro e w3 ⟨need, hold, n1, n2, n3, n4, rfl, hd3, hg3⟩
    have l2 := HD2.out.lt
    have hb3 : Below d w w3 := HB2.out.grown hg3 (by omega) (fun g hg => by injection hg with hg; omega)
    have HB3 := Lib.hid hb3
    have HD3 := Lib.hid hd3
    have epl : planV p need hold = .agg #[.int .i64 (p : Int), .int .i64 (need : Int), .int .i64 (hold : Int)] := rfl
    rw [epl]
    clear hd3 hb3 hg3 HD2 HB2 epl
    have hN : ∀ W, Dc W d → Calls Tryd.prog 14 #[.pointer (some ⟨d, 0, none⟩), .int .i64 ((p : Int) - 1)] W (NextPost d (p - 1) W) := fun W h => by
      have := k_Next d (p - 1) W h (by omega) (by omega)
      rwa [show ((p - 1 : Nat) : Int) = (p : Int) - 1 by omega] at this
    have HN := Lib.hid hN
    clear hN
    go_wp2_with fail
    refine (HN.out _ (HD3.out.alloc _)).mono ?_
    rintro e w4 ⟨r, hr, rfl, hd4, hg4⟩
    have l3 := HD3.out.lt
    have hb4 : Below d w w4 := (HB3.out.alloc (by omega) _).grown hg4 (by simp; omega) (fun g hg => by injection hg with hg; omega)
    have hk4 : Blk w4 w3.heap.size 29 #[.int .i64 (p : Int), .int .i64 (need : Int), .int .i64 (hold : Int)] := (Blk.new w3 _ _).grown hg4 (by intro e; injection e; omega)
    have HB4 := Lib.hid hb4
    have HD4 := Lib.hid hd4
    have HK4 := Lib.hid hk4
    have l4 := hk4.lt
    have c0 : w4.cell? ⟨w3.heap.size, 0, none⟩ = some (.int .i64 (p : Int)) := hk4.cell 0
    have c1 : w4.cell? ⟨w3.heap.size, 1, none⟩ = some (.int .i64 (need : Int)) := hk4.cell 1
    have c2 : w4.cell? ⟨w3.heap.size, 2, none⟩ = some (.int .i64 (hold : Int)) := hk4.cell 2
    obtain ⟨key, hkey⟩ : ∃ key : Int, 1 + (r : Int) = key := ⟨_, rfl⟩
    have k1 : 1 ≤ key := by omega
    have k2 : key < p := by omega
    clear hd4 hb4 hg4 hk4 HD3 HB3 HN
    go_wp2_with fail
    try rw [hkey]
    clear hkey hr
    have hel : ∀ W, Dc W d → Calls Tryd.prog 16 #[.pointer (some ⟨d, 0, none⟩), .int .i64 (p : Int), .int .i64 ((need : Int) - 1)] W (ElemPost d p (need - 1) W) := fun W h => by
      have := k_Elements d p (need - 1) W h (by omega) (by omega) (by omega)
      rwa [show ((need - 1 : Nat) : Int) = (need : Int) - 1 by omega] at this
    have hdl : ∀ W vs vr rnd, IntsAt W (Old W) vs [key] → IntsAt W (Old W) vr rnd → rnd.length = need - 1 → InF p rnd →
        Calls Tryd.prog 15 #[.agg #[.int .i64 (p : Int), .int .i64 (need : Int), .int .i64 (hold : Int)], vs, vr] W (DealPost p (need - 1) hold [key] rnd W) := fun W vs vr rnd h1 h2 h3 h4 => by
      have := r_Deal p (need - 1) hold [key] rnd vs vr W HSP.out.1 (by omega) (by omega) (by omega) n4 h1 h2 (inF_one (by omega) (by omega)) h4 (by simp) (by simp [h3])
      unfold planV at this
      rwa [show ((need - 1 + 1 : Nat) : Int) = (need : Int) by omega] at this
    have HEL := Lib.hid hel
    have HDL := Lib.hid hdl
    clear hel hdl
    have l5 : d < w4.heap.size := HD4.out.lt
    have hdlt : d < w3.heap.size := by omega
    have one : ∀ (W : World) (x : Int), IntsAt (W.alloc (.cells #[.int .i64 x] 3)) (fun b => b = W.heap.size) (.slice (some ⟨W.heap.size, 0, none⟩) 1 1) [x] := ints_one
    have HONE := Lib.hid one
    clear one
    have wi1 : IntKind.i64.wrap ((need : Int) - 1) = (need : Int) - 1 := IntWalk.i64_in _ ⟨by omega, by omega⟩
    have mk : ∀ W : World, Dc W d → Blk W w3.heap.size 29 #[.int .i64 (p : Int), .int .i64 (need : Int), .int .i64 (hold : Int)] → Below d w W →
        W.cell? ⟨w3.heap.size, 0, none⟩ = some (.int .i64 (p : Int)) ∧ W.cell? ⟨w3.heap.size, 1, none⟩ = some (.int .i64 (need : Int)) ∧ W.cell? ⟨w3.heap.size, 2, none⟩ = some (.int .i64 (hold : Int)) ∧ Hid (Dc W d ∧ Blk W w3.heap.size 29 #[.int .i64 (p : Int), .int .i64 (need : Int), .int .i64 (hold : Int)] ∧ Below d w W) :=
      fun W h1 h2 h3 => ⟨h2.cell 0, h2.cell 1, h2.cell 2, Lib.hid ⟨h1, h2, h3⟩⟩
    have HM := Lib.hid mk
    clear mk c0 c1 c2
    go_region_held3 (fun w' => w'.cell? ⟨w3.heap.size, 0, none⟩ = some (.int .i64 (p : Int)) ∧ w'.cell? ⟨w3.heap.size, 1, none⟩ = some (.int .i64 (need : Int)) ∧ w'.cell? ⟨w3.heap.size, 2, none⟩ = some (.int .i64 (hold : Int)) ∧ Hid (Dc w' d ∧ Blk w' w3.heap.size 29 #[.int .i64 (p : Int), .int .i64 (need : Int), .int .i64 (hold : Int)] ∧ Below d w w'))
      (first
        | exact HPk.out
        | exact HP2.out
        | exact HP.out
        | exact HM.out _ ((HD4.out.alloc _).drew) ((HK4.out.alloc _).drew) ((HB4.out.alloc (by omega) _).drew)
        | exact HM.out _ HD4.out.drew HK4.out.drew HB4.out.drew)
      (first
        | (go_at_call 16
           (with_reducible refine (HEL.out _ ((HD4.out.alloc (.cells #[.int .i64 key] 3)).drew)).mono ?_)
           rintro e w5 ⟨vr, rnd, rfl, hir, hrl, hrf, hd5, hg5⟩
           have hk5 := ((HK4.out.alloc _).drew).grown hg5 (by intro e; injection e; omega)
           have hb5 : Below d w w5 := ((HB4.out.alloc (by omega) _).drew).grown hg5 (by simp; omega) (fun g hg => by injection hg; omega)
           have hvs : IntsAt w5 (Old w5) (.slice (some ⟨w4.heap.size, 0, none⟩) 1 1) [key] := ((HONE.out w4 key).keep (w' := w5) (fun g hg => by subst hg; exact hg5.block w4.heap.size (by simp) (by simp; omega))).mono (fun g hg => by subst hg; have := hg5.size; simp at this; unfold Old; omega)
           have hvr : IntsAt w5 (Old w5) vr rnd := hir.mono fun g hg => hg.2
           have HP := Lib.hid (HM.out w5 hd5 hk5 hb5)
           have HVS := Lib.hid hvs
           have HVR := Lib.hid hvr
           have HDX := Lib.hid hd5
           have HKX := Lib.hid hk5
           have HBX := Lib.hid hb5
           have HRL := Lib.hid hrl
           have HRF := Lib.hid hrf
           clear hvs hvr hir hrl hrf hd5 hg5 hk5 hb5)
        | (go_at_call 16
           (with_reducible refine (HEL.out _ (HD4.out.drew)).mono ?_)
           rintro e w5 ⟨vr, rnd, rfl, hir, hrl, hrf, hd5, hg5⟩
           have hk5 := (HK4.out.drew).grown hg5 (by intro e; injection e; omega)
           have hb5 : Below d w w5 := (HB4.out.drew).grown hg5 (by show d ≤ w4.heap.size; omega) (fun g hg => by injection hg; omega)
           have l6 : d < w5.heap.size := hd5.lt
           have hvs : IntsAt (w5.alloc (.cells #[.int .i64 key] 3)) (Old (w5.alloc (.cells #[.int .i64 key] 3))) (.slice (some ⟨w5.heap.size, 0, none⟩) 1 1) [key] := (HONE.out w5 key).mono (fun g hg => by subst hg; unfold Old; simp)
           have hvr : IntsAt (w5.alloc (.cells #[.int .i64 key] 3)) (Old (w5.alloc (.cells #[.int .i64 key] 3))) vr rnd := (hir.keep (fun g hg => Below.heap_alloc w5 _ g hg.2)).mono fun g hg => by unfold Old; simp; omega
           have HP := Lib.hid (HM.out w5 hd5 hk5 hb5)
           have HP2 := Lib.hid (HM.out (w5.alloc (.cells #[.int .i64 key] 3)) (hd5.alloc _) (hk5.alloc _) (hb5.alloc (by omega) _))
           have HVS := Lib.hid hvs
           have HVR := Lib.hid hvr
           have HDX := Lib.hid (hd5.alloc (.cells #[.int .i64 key] 3))
           have HKX := Lib.hid (hk5.alloc (.cells #[.int .i64 key] 3))
           have HBX := Lib.hid (hb5.alloc (by omega) (.cells #[.int .i64 key] 3))
           have HRL := Lib.hid hrl
           have HRF := Lib.hid hrf
           clear hvs hvr hir hrl hrf hd5 hg5 hk5 hb5)
        | (go_at_call 15
           (with_reducible refine (HDL.out _ _ _ rnd HVS.out HVR.out HRL.out HRF.out).mono ?_)
           rintro e wk ⟨vL, rfl, hsh, hbk⟩
           have HDK := Lib.hid (HDX.out.below hbk HDX.out.lt)
           have HKK := Lib.hid (HKX.out.below hbk HKX.out.lt)
           have HBK := Lib.hid (HBX.out.trans (hbk.mono (by have := HDX.out.lt; omega)))
           have HPk := Lib.hid (HM.out wk HDK.out HKK.out HBK.out)
           have HSH : Hid (ShAt wk (fun g => d < g ∧ g < wk.heap.size) vL (dealL p (need - 1) [key] rnd hold)) := Lib.hid (hsh.at_.mono fun g hg => ⟨Nat.lt_of_lt_of_le HDX.out.lt hg.1, hg.2⟩)
           clear hsh hbk))
    all_goals
      have ofk := OfKey.deal HSP.out (need - 1) key rnd hold n4
      have lnL := deal_len p (need - 1) [key] rnd hold
      have lco : (rnd.take (need - 1)).length + 1 ≤ need := by rw [List.length_take]; omega
      have hst : AgSt d w3.heap.size p need hold w vL (dealL p (need - 1) [key] rnd hold) wk := ⟨HDK.out, HKK.out, HBK.out, HSH.out⟩
      obtain ⟨L, hL⟩ : ∃ L, dealL p (need - 1) [key] rnd hold = L := ⟨_, rfl⟩
      obtain ⟨co, hco⟩ : ∃ co, rnd.take (need - 1) = co := ⟨_, rfl⟩
      rw [hL] at ofk lnL hst
      rw [hco] at ofk lco
      have OFK := Lib.hid ofk
      have LNL := Lib.hid lnL
      have ST := Lib.hid hst
      clear ofk lnL hst hL hco HSH HDK HKK HBK HPk HDX HKX HBX HRL HRF HVS HVR HP HEL HDL HONE HD4 HB4 HK4 HM
      clear wi1
      go_wp2_with fail
      have hstA : AgSt d w3.heap.size p need hold w vL L (wk.alloc (.cells #[.string ⟨#[97, 110, 110]⟩, .string ⟨#[114, 111, 98, 101, 114, 116]⟩, .string ⟨#[106, 111, 115, 101, 102]⟩] 9)) := ST.out.below ((Below.refl _ wk).alloc (Nat.le_refl _) _) hdlt
      have hwd := k_Word d wk.heap.size 0 3 3 (fun i => [⟨#[97, 110, 110]⟩, ⟨#[114, 111, 98, 101, 114, 116]⟩, ⟨#[106, 111, 115, 101, 102]⟩].getD i (⟨#[]⟩ : ByteArray)) (wk.alloc (.cells #[.string ⟨#[97, 110, 110]⟩, .string ⟨#[114, 111, 98, 101, 114, 116]⟩, .string ⟨#[106, 111, 115, 101, 102]⟩] 9)) hstA.1 (by simp) (by have := ST.out.1.lt; omega) (by omega) (by omega) (fun i hi => by
        rcases (show i = 0 ∨ i = 1 ∨ i = 2 by omega) with rfl | rfl | rfl <;> simp [World.cell?_alloc_new])
      refine hwd.mono ?_
      rintro e u1 ⟨r2, hr2, rfl, hdw, hgw⟩
      have ST1 := Lib.hid (hstA.grow hgw hdw hdlt)
      obtain ⟨s, hs, hss⟩ : ∃ s : ByteArray, [⟨#[97, 110, 110]⟩, ⟨#[114, 111, 98, 101, 114, 116]⟩, ⟨#[106, 111, 115, 101, 102]⟩].getD r2 (⟨#[]⟩ : ByteArray) = s ∧ s.size ≤ 100 := ⟨_, rfl, by
        rcases (show r2 = 0 ∨ r2 = 1 ∨ r2 = 2 by omega) with rfl | rfl | rfl <;> decide⟩
      simp only [hs]
      clear hwd hstA hgw hdw hs hr2 ST
      go_wp2_with fail
      refine (h_SquareN p s _ (by omega) p4 (by omega)).mono ?_
      rintro e u2 ⟨rfl, hb2⟩
      have ST2 := Lib.hid (ST1.out.below hb2 hdlt)
      obtain ⟨x, hx⟩ : ∃ x, sqN p s = x := ⟨_, rfl⟩
      have hxg := sqN_grp HSP.out s
      have hx1 := sqN_ne HSP.out s
      rw [hx] at hxg hx1 ⊢
      have HXG := Lib.hid hxg
      have c1 : u2.cell? ⟨w3.heap.size, 1, none⟩ = some (.int .i64 (need : Int)) := ST2.out.2.1.cell 1
      clear hb2 hx hxg ST1 hss
      go_wp2_with fail
      refine (k_Turn d need vL L _ _ ST2.out.1 ST2.out.2.2.2 (fun b hb => hb.2) (by have := LNL.out; omega) (by have := LNL.out; omega) (by have := LNL.out; omega) (fun k hk => by rw [OFK.out.ok.one k hk]; omega)).mono ?_
      rintro e u3 ⟨vT, LT, rfl, hsT, hT1, hT2, hT3, hdT, hgT⟩
      have ST3 := Lib.hid (AgSt.grow ST2.out hgT hdT hdlt)
      have okT := OFK.out.some_ hT3
      have lnT : LT.length ≤ hold := by have := LNL.out; omega
      obtain ⟨AT, nT, cT, rfl, hnT, hcT, hcellT⟩ := id hsT
      have c3 : u3.cell? ⟨w3.heap.size, 1, none⟩ = some (.int .i64 (need : Int)) := ST3.out.2.1.cell 1
      have OKT := Lib.hid okT
      have HST := Lib.hid hsT
      have HNT := Lib.hid hnT
      have nT1 : nT ≤ 7 := by omega
      have nT0 : need ≤ nT := by omega
      have hN2 : ∀ W, Dc W d → Calls Tryd.prog 14 #[.pointer (some ⟨d, 0, none⟩), .int .i64 (((nT : Int) - (need : Int)) / 2 + 1)] W (NextPost d ((nT - need) / 2 + 1) W) := fun W h => by
        have := k_Next d ((nT - need) / 2 + 1) W h (by omega) (by omega)
        rwa [show (((nT - need) / 2 + 1 : Nat) : Int) = ((nT : Int) - (need : Int)) / 2 + 1 by omega] at this
      have HN2 := Lib.hid hN2
      have gl3 : u2.heap.size ≤ u3.heap.size := hgT.size
      have dl2 : d < u2.heap.size := ST2.out.1.lt
      clear okT hsT hcellT hdT hgT hT1 hT2 hT3 ST2 c1 hN2 hnT
      go_wp2_with fail
      refine (HN2.out _ ST3.out.1).mono ?_
      rintro e u4 ⟨lies, hlies, rfl, hd4, hg4⟩
      have ST4 := Lib.hid (ST3.out.grow hg4 hd4 hdlt)
      have hs4 : ShAt u4 (fun g => d < g ∧ g < u4.heap.size) (.slice AT nT cT) LT := (HST.out.keep fun b hb => hg4.block b hb.2 (by intro e; injection e with e; omega)).mono fun b hb => ⟨by omega, by have := hg4.size; omega⟩
      clear hd4 hg4 HN2 c3 ST3
      have HS4 := Lib.hid hs4
      have hlies2 : lies ≤ (nT - need) / 2 := by omega
      clear hs4 HST hlies gl3 lnT
      go_wp2_with fail
      go_loopw [11, 76] (fun o t wr => ∃ ys : List Sh, ys.length ≤ nT ∧ t = .int .i64 (ys.length : Int) ∧ LieOk p x lies LT ys ∧ OwnSh wr (u4.heap.size + 1) o ys ∧ Dc wr d ∧ ArrV wr u4.heap.size 17 (seenV LT (min ys.length lies)) ∧ Far2 d u4.heap.size u4 wr ∧ u4.heap.size < wr.heap.size) (fun _ t _ => nT - (intOf t).toNat)
      case atStart =>
        refine ⟨[], by simp, rfl, LieOk.nil _ _ _ _, OwnSh.nil _ _, ST4.out.1.alloc _, ⟨fun j hj => ?_, fun j hj => World.frozen?_alloc_new _ _ _ _⟩, (Far2.refl _ _ _).alloc _, by simp⟩
        rw [World.cell?_alloc_new]
        have e : seenV LT (min ([] : List Sh).length lies) j = .bool false := by unfold seenV; exact congrArg Value.bool (decide_eq_false (fun ⟨i, hi, _⟩ => by simp at hi))
        rw [e]
        have : ∀ j : Nat, j < 17 → (Array.replicate 17 (Value.bool false))[j]? = some (.bool false) := fun j hj => by rw [Array.getElem?_eq_getElem (by simp; exact hj)]; simp
        exact this j hj
      case round =>
        obtain ⟨ys, hk, rfl, hlie, hown, hdc, harr, hfar, hsz⟩ := hrel
        obtain ⟨k, hky⟩ : ∃ k, ys.length = k := ⟨_, rfl⟩
        have hbase := hfar.base ST4.out.2.2.1 (Nat.le_of_lt ST4.out.1.lt) (Nat.le_of_lt ST4.out.1.lt)
        have d4 : d < u4.heap.size := ST4.out.1.lt
        rw [hky] at hk harr
        rw [hky]
        have HLIE := Lib.hid hlie
        have HOWN := Lib.hid hown
        have HDC := Lib.hid hdc
        have HARR := Lib.hid harr
        have HFAR := Lib.hid hfar
        have HKY := Lib.hid hky
        have HBASE := Lib.hid hbase
        clear hlie hown hdc harr hfar hky hbase
        by_cases hlt : k < nT
        · have hkl : k < LT.length := by have := HNT.out; omega
          obtain ⟨A1, n1', c1, hv1, e1, e2, hcs⟩ := HS4.out
          injection hv1 with v1 v2 v3
          subst v1 v2 v3
          obtain ⟨b, off, rfl, hSb, hcell⟩ := hcs (by omega)
          obtain ⟨u, m0, m1, hu⟩ := hcell k hlt
          obtain ⟨Au, nu, cu, rfl, f1, f2, f3⟩ := hu
          have hone := OKT.out.ok.one k hkl
          obtain ⟨bu, offu, rfl, hSu, hcu⟩ := f3 (by omega)
          have m2 := hcu 0 (by omega)
          have hel := OKT.out.ok.elem k hkl
          have hho := OKT.out.ok.holder k hkl
          obtain ⟨h, hh⟩ := Int.eq_ofNat_of_zero_le (show 0 ≤ (shAt LT k).1 by omega)
          obtain ⟨y, hy⟩ := Int.eq_ofNat_of_zero_le hel.1
          rw [hy] at m2 hel
          rw [hh] at m0 hho
          rw [Nat.add_zero] at m2
          have r0 := (HFAR.out.cell (p := ⟨b, off + k * 2, none⟩) hSb.2 (by simp; omega) (by simp; omega)).trans m0
          have r1 := (HFAR.out.cell (p := ⟨b, off + k * 2 + 1, none⟩) hSb.2 (by simp; omega) (by simp; omega)).trans m1
          have r2 := (HFAR.out.cell (p := ⟨bu, offu, none⟩) hSu.2 (by simp; omega) (by simp; omega)).trans m2
          have hnu : nu = 1 := by omega
          subst hnu
          have qk : (k : Int) < (nT : Int) := by omega
          have yp : y < p := by omega
          have hbo : BasesOk (wr.alloc (.cells #[.int .i64 (h : Int), .slice (some ⟨bu, offu, none⟩) 1 cu] 63)) := (HW.out.below' HBASE.out HD.out).alloc _
          have hcu2 : (wr.alloc (.cells #[.int .i64 (h : Int), .slice (some ⟨bu, offu, none⟩) 1 cu] 63)).cell? ⟨bu, offu, none⟩ = some (.int .i64 (y : Int)) := (World.cell?_alloc_lt wr _ ⟨bu, offu, none⟩ (show bu < wr.heap.size by have := HFAR.out.size; omega)).trans r2
          have HBO := Lib.hid hbo
          have HCU := Lib.hid hcu2
          have HH := Lib.hid hh
          have HY := Lib.hid hy
          have h1cu : 1 ≤ cu := f2
          have hbu : bu < wr.heap.size := by have := HFAR.out.size; omega
          clear hcell hcu m0 m1 m2 hone hcs f1 f2 f3 e1 e2 hbo hcu2 hh hy r2
          go_wp2_with fail
          refine (h_Part p x h y _ cu bu offu _ HBO.out HSP.out HXG.out yp rfl (by simp; omega) HCU.out h1cu).mono ?_
          rintro e w2' ⟨vp, rfl, hvp, hb2⟩
          obtain ⟨g, cap, rfl⟩ : ∃ g cap, vp = .slice (some ⟨g, 0, none⟩) 1 cap := by
            rcases hvp.2 with ⟨_, h0⟩ | ⟨g, cap, cur, hv, _⟩
            · omega
            · exact ⟨g, cap, hv⟩
          have hb2' : Below wr.heap.size wr w2' := ((Below.refl _ _).alloc (Nat.le_refl _) _).trans (hb2.mono (by simp))
          have gW : wr.heap.size < g ∧ g < w2'.heap.size := by
            have := hvp.lt g rfl
            simp only [World.size_alloc] at this; omega
          have y0 : (w2'.alloc (.cells #[.int .i64 (h : Int), .slice (some ⟨g, 0, none⟩) 1 cap] 63)).cell? ⟨w2'.heap.size, 0, none⟩ = some (.int .i64 (h : Int)) := by rw [World.cell?_alloc_new]; rfl
          have y1 : (w2'.alloc (.cells #[.int .i64 (h : Int), .slice (some ⟨g, 0, none⟩) 1 cap] 63)).cell? ⟨w2'.heap.size, 1, none⟩ = some (.slice (some ⟨g, 0, none⟩) 1 cap) := by rw [World.cell?_alloc_new]; rfl
          have s0 : (w2'.alloc (.cells #[.int .i64 (h : Int), .slice (some ⟨g, 0, none⟩) 1 cap] 63)).cell? ⟨wr.heap.size, 0, none⟩ = some (.int .i64 (h : Int)) := by
            rw [World.cell?_alloc_lt _ _ _ (show wr.heap.size < w2'.heap.size by omega)]
            have := hb2.cell (p := ⟨wr.heap.size, 0, none⟩) (by simp)
            rw [this, World.cell?_alloc_new]; rfl
          have HVP := Lib.hid hvp
          have hf3 := (HFAR.out.below hb2').alloc (.cells #[.int .i64 (h : Int), .slice (some ⟨g, 0, none⟩) 1 cap] 63)
          have hd3 := (HDC.out.below hb2' HDC.out.lt).alloc (.cells #[.int .i64 (h : Int), .slice (some ⟨g, 0, none⟩) 1 cap] 63)
          have HF3 := Lib.hid hf3
          have HD3 := Lib.hid hd3
          have HB2 := Lib.hid hb2'
          clear hvp hb2 hb2' hf3 hd3 r0 r1 HBO HCU
          have hN3 : ∀ W, Dc W d → Calls Tryd.prog 14 #[.pointer (some ⟨d, 0, none⟩), .int .i64 ((p : Int) - 1)] W (NextPost d (p - 1) W) := fun W h => by
            have := k_Next d (p - 1) W h (by omega) (by omega)
            rwa [show ((p - 1 : Nat) : Int) = (p : Int) - 1 by omega] at this
          have HN3 := Lib.hid hN3
          clear hN3
          have hrow : (w2'.alloc (.cells #[.int .i64 (h : Int), .slice (some ⟨g, 0, none⟩) 1 cap] 63)).ownsRow (u4.heap.size + 1) 3 1 (.slice (some ⟨g, 0, none⟩) 1 cap) 1 [.int .i64 (pw (2 * p + 1) x y : Int)] := (own_mono HVP.out (by have := HFAR.out.size; simp; omega)).alloc _
          have harb : ArrV (w2'.alloc (.cells #[.int .i64 (h : Int), .slice (some ⟨g, 0, none⟩) 1 cap] 63)) u4.heap.size 17 (seenV LT (min k lies)) := HARR.out.keepB ((Below.heap_alloc _ _ _ (by have := HB2.out.size; omega)).trans (HB2.out.block _ hsz))
          have howb : OwnSh (w2'.alloc (.cells #[.int .i64 (h : Int), .slice (some ⟨g, 0, none⟩) 1 cap] 63)) (u4.heap.size + 1) u11 ys := HOWN.out.keepB fun b _ hb => (Below.heap_alloc _ _ _ (by have := HB2.out.size; omega)).trans (HB2.out.block _ hb)
          have hwb : ∀ b, b < wr.heap.size → (w2'.alloc (.cells #[.int .i64 (h : Int), .slice (some ⟨g, 0, none⟩) 1 cap] 63)).heap[b]? = wr.heap[b]? := fun b hb => (Below.heap_alloc _ _ _ (by have := HB2.out.size; omega)).trans (HB2.out.block _ hb)
          have HWB := Lib.hid hwb
          clear hwb
          have hsb : w2'.heap.size < (w2'.alloc (.cells #[.int .i64 (h : Int), .slice (some ⟨g, 0, none⟩) 1 cap] 63)).heap.size := by simp
          have g0 := hrow.cellAt 0 (by omega)
          have gf := hrow.frozenAt 0
          have HROW := Lib.hid hrow
          have HARB := Lib.hid harb
          have HOWB := Lib.hid howb
          have vlt := pw_lt (m := 2 * p + 1) (by omega) x y
          clear hrow harb howb HVP HB2
          by_cases hkl2 : k < lies
          · have hkl3 : (k : Int) < (lies : Int) := by omega
            go_wp2_with fail
            generalize (w2'.alloc (.cells #[.int .i64 (h : Int), .slice (some ⟨g, 0, none⟩) 1 cap] 63)) = Wb at *
            obtain ⟨V, hV⟩ : ∃ V, pw (2 * p + 1) x y = V := ⟨_, rfl⟩
            have g0' : Wb.cell? ⟨g, 0, none⟩ = some (.int .i64 (V : Int)) := by rw [← hV]; exact g0
            have vlt' : V < 2 * p + 1 := by rw [← hV]; exact vlt
            have HV := Lib.hid hV
            clear g0 vlt hV
            have mk : ∀ W : World, Dc W d → Far2 d u4.heap.size Wb W → W.heap[u4.heap.size]? = Wb.heap[u4.heap.size]? →
                W.cell? ⟨w2'.heap.size, 1, none⟩ = some (.slice (some ⟨g, 0, none⟩) 1 cap) ∧ W.cell? ⟨g, 0, none⟩ = some (.int .i64 (V : Int)) ∧ W.frozen? ⟨g, 0, none⟩ = false ∧ Hid (Dc W d ∧ Far2 d u4.heap.size Wb W ∧ W.heap[u4.heap.size]? = Wb.heap[u4.heap.size]?) := fun W h1 h2 h3 =>
              ⟨(h2.cell (p := ⟨w2'.heap.size, 1, none⟩) hsb (by simp; omega) (by simp; omega)).trans y1, (h2.cell (p := ⟨g, 0, none⟩) (by simp; omega) (by simp; omega) (by simp; omega)).trans g0', (World.frozen?_of_block (a := ⟨g, 0, none⟩) (h2.block g (by omega) (by omega) (by omega))).trans gf, Lib.hid ⟨h1, h2, h3⟩⟩
            have MK := Lib.hid mk
            have hpw4 : ∀ (r3 : Nat) (W : World), r3 < p - 1 → Calls Tryd.prog 19 #[.int .i64 (p : Int), .int .i64 4, .int .i64 (1 + (r3 : Int))] W (IntBelow (pw (2 * p + 1) 4 (1 + r3) : Int) W) := fun r3 W hr3 => by
              have := h_Power p 4 (1 + (r3 : Int)) W (by omega) p4 (by omega)
              rw [Int.emod_eq_of_lt (by omega) (by omega), show (1 + (r3 : Int)).toNat = 1 + r3 by omega] at this
              exact this
            have htm : ∀ (q : Nat) (W : World), q < 2 * p + 1 → Calls Tryd.prog 29 #[.int .i64 (p : Int), .int .i64 (V : Int), .int .i64 (q : Int)] W fun e w' => e = .returned (.int .i64 ((V * q % (2 * p + 1) : Nat) : Int)) ∧ W = w' := fun q W hq => h_Times p V q W p4 (by omega) (by omega)
            have HPW4 := Lib.hid hpw4
            have HTM := Lib.hid htm
            have wi2 : IntKind.i64.wrap ((p : Int) - 1) = (p : Int) - 1 := IntWalk.i64_in _ ⟨by omega, by omega⟩
            clear mk hpw4 htm
            refine wp_region_last_lit _ _ (fun W => W.cell? ⟨w2'.heap.size, 1, none⟩ = some (.slice (some ⟨g, 0, none⟩) 1 cap) ∧ W.cell? ⟨g, 0, none⟩ = some (.int .i64 (V : Int)) ∧ W.frozen? ⟨g, 0, none⟩ = false ∧ Hid (Dc W d ∧ Far2 d u4.heap.size Wb W ∧ W.heap[u4.heap.size]? = Wb.heap[u4.heap.size]?)) (by kernel_rfl) rfl (by kernel_rfl) (MK.out _ HD3.out.drew (Far2.refl _ _ _).drew rfl) (fun hHeld => ?_)
            simp only [List.dropLast]
            refine wpAnyH_take (i := 0) (v := ?_) rfl (by kernel_rfl) (by kernel_rfl) (by kernel_rfl) (fun _ _ _ h => h) (Or.inl ⟨by rfl, ?_⟩) (by assumption) ?_
            rotate_left
            · (intro w hSw; (try dsimp only at hSw); go_simp; try (with_reducible rfl))
            try simp only [Act.put, List.setIfInBounds_toArray, List.set_cons_zero, List.set_cons_succ]
            refine wpAnyH_take (i := 1) (v := ?_) rfl (by kernel_rfl) (by kernel_rfl) (by kernel_rfl) (fun _ _ _ h => h) (Or.inl ⟨by rfl, ?_⟩) (by assumption) ?_
            rotate_left
            · (intro w hSw; (try dsimp only at hSw); go_simp; try (with_reducible rfl))
            try simp only [Act.put, List.setIfInBounds_toArray, List.set_cons_zero, List.set_cons_succ]
            refine wpAnyH_take (i := 2) (v := ?_) rfl (by kernel_rfl) (by kernel_rfl) (by kernel_rfl) (fun _ _ _ h => h) (Or.inl ⟨by rfl, ?_⟩) (by assumption) ?_
            rotate_left
            · (intro w hSw; (try dsimp only at hSw); go_simp; try (with_reducible rfl))
            try simp only [Act.put, List.setIfInBounds_toArray, List.set_cons_zero, List.set_cons_succ]
            refine wpAnyH_take (i := 3) (v := ?_) rfl (by kernel_rfl) (by kernel_rfl) (by kernel_rfl) (fun _ _ _ h => h) (Or.inl ⟨by rfl, ?_⟩) (by assumption) ?_
            rotate_left
            · (intro w hSw; (try dsimp only at hSw); go_simp; try (with_reducible rfl))
            try simp only [Act.put, List.setIfInBounds_toArray, List.set_cons_zero, List.set_cons_succ]
            refine wpAnyH_take (i := 4) (v := ?_) rfl (by kernel_rfl) (by kernel_rfl) (by kernel_rfl) (fun _ _ _ h => h) (Or.inl ⟨by rfl, ?_⟩) (by assumption) ?_
            rotate_left
            · (intro w hSw; (try dsimp only at hSw); go_simp; try (with_reducible rfl))
            try simp only [Act.put, List.setIfInBounds_toArray, List.set_cons_zero, List.set_cons_succ]
            refine wpAnyH_take (i := 5) (v := ?_) rfl (by kernel_rfl) (by kernel_rfl) (by kernel_rfl) (fun _ _ _ h => h) (Or.inl ⟨by rfl, ?_⟩) (by assumption) ?_
            rotate_left
            · (intro w hSw; (try dsimp only at hSw); go_simp; try (with_reducible rfl))
            try simp only [Act.put, List.setIfInBounds_toArray, List.set_cons_zero, List.set_cons_succ]
            refine wpAnyH_take (i := 6) (v := ?_) rfl (by kernel_rfl) (by kernel_rfl) (by kernel_rfl) (fun _ _ _ h => h) (Or.inl ⟨by rfl, ?_⟩) (by assumption) ?_
            rotate_left
            · (intro w hSw; (try dsimp only at hSw); go_simp; try (with_reducible rfl))
            try simp only [Act.put, List.setIfInBounds_toArray, List.set_cons_zero, List.set_cons_succ]
            refine wpAnyH_take (i := 7) (v := ?_) rfl (by kernel_rfl) (by kernel_rfl) (by kernel_rfl) (fun _ _ _ h => h) (Or.inl ⟨by rfl, ?_⟩) (by assumption) ?_
            rotate_left
            · (intro w hSw; (try dsimp only at hSw); go_simp; try (with_reducible rfl))
            try simp only [Act.put, List.setIfInBounds_toArray, List.set_cons_zero, List.set_cons_succ]
            refine wpAnyH_take (i := 8) (v := ?_) rfl (by kernel_rfl) (by kernel_rfl) (by kernel_rfl) (fun _ _ _ h => h) (Or.inl ⟨by rfl, ?_⟩) (by assumption) ?_
            rotate_left
            · (intro w hSw; (try dsimp only at hSw); go_simp; try (with_reducible rfl))
            try simp only [Act.put, List.setIfInBounds_toArray, List.set_cons_zero, List.set_cons_succ]
            refine wpAnyH_take (i := 9) (v := ?_) rfl (by kernel_rfl) (by kernel_rfl) (by kernel_rfl) (fun _ _ _ h => h) (Or.inl ⟨by rfl, ?_⟩) (by assumption) ?_
            rotate_left
            · (intro w hSw; (try dsimp only at hSw); go_simp; try (with_reducible rfl))
            try simp only [Act.put, List.setIfInBounds_toArray, List.set_cons_zero, List.set_cons_succ]
            refine wpAnyH_take (i := 10) (v := ?_) rfl (by kernel_rfl) (by kernel_rfl) (by kernel_rfl) (fun _ _ _ h => h) (Or.inl ⟨by rfl, ?_⟩) (by assumption) ?_
            rotate_left
            · (intro w hSw; (try dsimp only at hSw); go_simp; try (with_reducible rfl))
            try simp only [Act.put, List.setIfInBounds_toArray, List.set_cons_zero, List.set_cons_succ]
            refine wpAnyH_ready (rs := [11]) (by kernel_rfl) (by simp) ?_
            refine AllReadyH.cons rfl (fun K hK => ?_) AllReadyH.nil
            go_simp
            go_at_call 14
            (with_reducible refine (HN3.out _ HD3.out.drew).mono ?_)
            rintro e z1 ⟨r3, hr3, rfl, hdz, hgz⟩
            have wi3 : IntKind.i64.wrap (1 + (r3 : Int)) = 1 + (r3 : Int) := IntWalk.i64_in _ ⟨by omega, by omega⟩
            refine hK.out _ _ (MK.out z1 hdz ((Far2.refl _ _ _).drew.grown hgz) (hgz.block u4.heap.size (show u4.heap.size < Wb.heap.size by omega) (by intro e; injection e; omega))) (fun hHeld => ?_)
            clear hK K
            try simp only [Act.put, List.setIfInBounds_toArray, List.set_cons_zero, List.set_cons_succ]
            obtain ⟨-, -, -, HKP⟩ := id hHeld
            clear hdz hgz
            refine wpAnyH_take (i := 12) (v := ?_) rfl (by kernel_rfl) (by kernel_rfl) (by kernel_rfl) (fun _ _ _ h => h) (Or.inl ⟨by rfl, ?_⟩) (by assumption) ?_
            rotate_left
            · (intro w hSw; (try dsimp only at hSw); go_simp; try (with_reducible rfl))
            try simp only [Act.put, List.setIfInBounds_toArray, List.set_cons_zero, List.set_cons_succ]
            refine wpAnyH_ready (rs := [13]) (by kernel_rfl) (by simp) ?_
            refine AllReadyH.cons rfl (fun K hK => ?_) AllReadyH.nil
            go_simp
            go_at_call 19
            (with_reducible refine (HPW4.out _ _ hr3).mono ?_)
            rintro e z2 ⟨rfl, hbz⟩
            refine hK.out _ _ (MK.out z2 (HKP.out.1.below hbz HKP.out.1.lt) (HKP.out.2.1.below hbz) ((hbz.block u4.heap.size (by have := HKP.out.2.1.size; omega)).trans HKP.out.2.2)) (fun hHeld => ?_)
            clear hK K
            try simp only [Act.put, List.setIfInBounds_toArray, List.set_cons_zero, List.set_cons_succ]
            clear hbz
            refine wpAnyH_ready (rs := [14]) (by kernel_rfl) (by simp) ?_
            refine AllReadyH.cons rfl (fun K hK => ?_) AllReadyH.nil
            go_simp
            go_at_call 29
            (with_reducible refine (HTM.out _ _ (pw_lt (by omega) _ _)).mono ?_)
            rintro e z3 ⟨rfl, rfl⟩
            refine hK.out _ _ (by assumption) (fun hHeld => ?_)
            clear hK K
            try simp only [Act.put, List.setIfInBounds_toArray, List.set_cons_zero, List.set_cons_succ]
            obtain ⟨y2a, y2b, y2c, HK2⟩ := id hHeld
            refine wpAnyH_take (i := 15) (v := ?_) rfl (by kernel_rfl) (by kernel_rfl) (by kernel_rfl) (fun _ _ _ h => h) (Or.inl ⟨by rfl, ?_⟩) (by assumption) ?_
            rotate_left
            · (intro w hSw; (try dsimp only at hSw); go_simp; try (with_reducible rfl))
            try simp only [Act.put, List.setIfInBounds_toArray, List.set_cons_zero, List.set_cons_succ]
            refine wpAnyH_done (by kernel_rfl) ?_ _
            refine lastQ_step (by rfl) (by rfl) ?_
            go_simp
            obtain ⟨V1, hV1⟩ : ∃ V1 : Int, (V : Int) * (pw (2 * p + 1) 4 (1 + r3) : Int) % (2 * (p : Int) + 1) = V1 := ⟨_, rfl⟩
            rw [hV1]
            have hkt := HK2.out.2.1.size
            have hl17 : h < 17 := by omega
            have e6 : seenV LT (min k lies) h = .bool false := by
              unfold seenV; congr 1
              refine decide_eq_false ?_
              rintro ⟨i, hi, hii⟩
              exact OKT.out.ok.once i k (by omega) hkl (by omega) (by rw [hii, HH.out])
            have har0 : ArrV z2 u4.heap.size 17 (seenV LT (min k lies)) := HARB.out.keepB HK2.out.2.2
            have har1 : ArrV (z2.setCell ⟨g, 0, none⟩ (.int .i64 V1)) u4.heap.size 17 (seenV LT (min k lies)) := har0.keepB (Below.heap_setCell _ _ _ _ (by simp; omega))
            have t6 : (z2.setCell ⟨g, 0, none⟩ (.int .i64 V1)).cell? ⟨u4.heap.size, h, none⟩ = some (.bool false) := by rw [har1.cell h hl17, e6]
            have t7 : (z2.setCell ⟨g, 0, none⟩ (.int .i64 V1)).frozen? ⟨u4.heap.size, h, none⟩ = false := har1.live h hl17
            have t0 : (z2.setCell ⟨g, 0, none⟩ (.int .i64 V1)).cell? ⟨wr.heap.size, 0, none⟩ = some (.int .i64 (h : Int)) := by
              rw [World.cell?_setCell_other _ _ _ _ (by intro e; injection e; omega)]
              exact (HK2.out.2.1.cell (p := ⟨wr.heap.size, 0, none⟩) (show wr.heap.size < _ by omega) (show wr.heap.size ≠ d by omega) (show wr.heap.size ≠ u4.heap.size by omega)).trans s0
            have x0 : ((z2.setCell ⟨g, 0, none⟩ (.int .i64 V1)).setCell ⟨u4.heap.size, h, none⟩ (.bool true)).cell? ⟨w2'.heap.size, 0, none⟩ = some (.int .i64 (h : Int)) := by
              rw [World.cell?_setCell_other _ _ _ _ (by intro e; injection e; omega), World.cell?_setCell_other _ _ _ _ (by intro e; injection e; omega)]
              exact (HK2.out.2.1.cell (p := ⟨w2'.heap.size, 0, none⟩) (show w2'.heap.size < _ by omega) (show w2'.heap.size ≠ d by omega) (show w2'.heap.size ≠ u4.heap.size by omega)).trans y0
            have x1 : ((z2.setCell ⟨g, 0, none⟩ (.int .i64 V1)).setCell ⟨u4.heap.size, h, none⟩ (.bool true)).cell? ⟨w2'.heap.size, 1, none⟩ = some (.slice (some ⟨g, 0, none⟩) 1 cap) := by
              rw [World.cell?_setCell_other _ _ _ _ (by intro e; injection e; omega), World.cell?_setCell_other _ _ _ _ (by intro e; injection e; omega)]
              exact (HK2.out.2.1.cell (p := ⟨w2'.heap.size, 1, none⟩) (show w2'.heap.size < _ by omega) (show w2'.heap.size ≠ d by omega) (show w2'.heap.size ≠ u4.heap.size by omega)).trans y1
            have keepX : ∀ b, b ≠ g → b ≠ u4.heap.size → ((z2.setCell ⟨g, 0, none⟩ (.int .i64 V1)).setCell ⟨u4.heap.size, h, none⟩ (.bool true)).heap[b]? = z2.heap[b]? := fun b e1 e2 => by
              rw [Below.heap_setCell _ _ _ _ (by simpa using e2), Below.heap_setCell _ _ _ _ (by simpa using e1)]
            have hrowX : ((z2.setCell ⟨g, 0, none⟩ (.int .i64 V1)).setCell ⟨u4.heap.size, h, none⟩ (.bool true)).ownsRow (u4.heap.size + 1) 3 1 (.slice (some ⟨g, 0, none⟩) 1 cap) 1 [.int .i64 V1] := by
              have h1 := own_keepB (w' := z2) HROW.out (fun b hB hb => HK2.out.2.1.block b hb (by omega) (by omega))
              have h2 := h1.stored 0 (.int .i64 V1)
              exact own_keepB h2.1 fun b hB hb => Below.heap_setCell _ _ _ _ (by simp; omega)
            have howX : OwnSh ((z2.setCell ⟨g, 0, none⟩ (.int .i64 V1)).setCell ⟨u4.heap.size, h, none⟩ (.bool true)) (u4.heap.size + 1) u11 ys := HOWN.out.keepB fun b hB hb => (keepX b (by omega) (by omega)).trans ((HK2.out.2.1.block b (by omega) (by omega) (by omega)).trans (HWB.out b hb))
            have hdcX : Dc ((z2.setCell ⟨g, 0, none⟩ (.int .i64 V1)).setCell ⟨u4.heap.size, h, none⟩ (.bool true)) d := HK2.out.1.keep fun i hi => keepX i (by omega) (by omega)
            have harX : ArrV ((z2.setCell ⟨g, 0, none⟩ (.int .i64 V1)).setCell ⟨u4.heap.size, h, none⟩ (.bool true)) u4.heap.size 17 (seenV LT (min (k + 1) lies)) := (har1.upd (.bool true) hl17).congr fun j hj => seenV_step LT k lies h hkl2 HH.out j
            have hfX : Far2 d u4.heap.size u4 ((z2.setCell ⟨g, 0, none⟩ (.int .i64 V1)).setCell ⟨u4.heap.size, h, none⟩ (.bool true)) := ((HF3.out.trans HK2.out.2.1).set_ (p := ⟨g, 0, none⟩) (.inr (by show u4.heap.size ≤ g; omega)) _).set_ (p := ⟨u4.heap.size, h, none⟩) (.inl rfl) _
            have hpv : PV p x lies LT k V1 := by
              have hlv := lie_val (y := y) (e := 1 + r3) HSP.out HXG.out (by omega) (by omega)
              rw [HV.out] at hlv
              have e1 : ((V * pw (2 * p + 1) 4 (1 + r3) % (2 * p + 1) : Nat) : Int) = V1 := by rw [← hV1]; simp
              rw [e1] at hlv
              refine ⟨hlv.1, fun h => by omega, fun _ => ?_⟩
              rw [HY.out]
              show V1 ≠ ((pw (2 * p + 1) x y : Nat) : Int)
              rw [HV.out, ← e1]
              intro e
              exact hlv.2 (by exact_mod_cast e)
            have hzX : ((z2.setCell ⟨g, 0, none⟩ (.int .i64 V1)).setCell ⟨u4.heap.size, h, none⟩ (.bool true)).heap.size = z2.heap.size := by simp [World.setCell]
            have hgX : u4.heap.size < ((z2.setCell ⟨g, 0, none⟩ (.int .i64 V1)).setCell ⟨u4.heap.size, h, none⟩ (.bool true)).heap.size := by rw [hzX]; omega
            clear hzX
            obtain ⟨cells, hr, hkk⟩ := howX
            rw [HKY.out] at hr
            have HPV := Lib.hid hpv
            have HARX := Lib.hid harX
            have HROWX := Lib.hid hrowX
            have HFX := Lib.hid hfX
            have HDCX := Lib.hid hdcX
            clear hpv harX hrowX hfX hdcX keepX har0 har1 e6 y2a y2b y2c hHeld hV1 y0 y1 s0
            go_wp2_with (at_builtin; refine wpList_append_own _ rfl _ _ 32 rfl (u4.heap.size + 1) 63 j0 _ 2 32 Tryd.underlying32 hj hy0 hy1 hy2 rfl (by decide) _ _ _ rfl (hr.alloc _) ⟨z2.heap.size, 0, none⟩ 1 1 [.int .i64 (h : Int), .slice (some ⟨g, 0, none⟩) 1 cap] rfl rfl ?c1 (one2 rfl rfl) (by simp only [maxLen]; omega) (by omega) (by simp; omega) ?_)
            case c1 =>
              have := World.news_of_block (cs := #[.int .i64 (h : Int), .slice (some ⟨g, 0, none⟩) 1 cap]) (t := 63) (fr := (0, 0)) (heap_alloc_new ((z2.setCell ⟨g, 0, none⟩ (.int .i64 V1)).setCell ⟨u4.heap.size, h, none⟩ (.bool true)) (.cells #[.int .i64 (h : Int), .slice (some ⟨g, 0, none⟩) 1 cap] 63))
              simpa using this
            intro v6 w6 hown6 hgrow6 _
            have hg6 := grown_past hgrow6
            have hul : ∀ q, u11.ownBlock = some q → u4.heap.size + 1 ≤ q := fun q hq => (hr.lt q hq).1
            have hsn := OwnSh.snoc (L := ys) (x := ((h : Int), [V1])) (by rw [HKY.out]; exact hr) hkk hg6 (by rw [HKY.out]; exact hown6) HROWX.out
            have hdc6 := HDCX.out.grown hg6 (fun q hq => by have := hul q hq; omega)
            have har6 := HARX.out.keepB (hg6.block u4.heap.size (by have := HFX.out.size; omega) (fun e => by have := hul _ e.symm; omega))
            have hfa6 := HFX.out.own hg6 (fun q hq => by have := hul q hq; omega)
            have HSN6 := Lib.hid hsn
            have HDC6 := Lib.hid hdc6
            have HAR6 := Lib.hid har6
            have HFA6 := Lib.hid hfa6
            have hsz6 : u4.heap.size < w6.heap.size := by have := HFX.out.size; have := hg6.size; omega
            clear hown6 hgrow6 hg6 hul hsn hdc6 har6 hfa6 hr hkk
            go_wp2_with fail
            go_roundw
            case measure => have := HKY.out; simp [intOf]; omega
            case rel =>
              have hl1 : (ys ++ [((h : Int), [V1])]).length = k + 1 := by rw [List.length_append, HKY.out]; rfl
              exact ⟨ys ++ [((h : Int), [V1])], by omega, by rw [hl1]; go_num, HLIE.out.snoc _ (by rw [HKY.out]; exact HPV.out) _ (by rw [HKY.out]; exact HH.out), HSN6.out, HDC6.out, by rw [hl1]; exact HAR6.out, HFA6.out, hsz6⟩
          · have hkl3 : ¬ (k : Int) < (lies : Int) := by omega
            obtain ⟨cells, hr, hkk⟩ := HOWB.out
            rw [HKY.out] at hr
            have har2 : ArrV (w2'.alloc (.cells #[.int .i64 (h : Int), .slice (some ⟨g, 0, none⟩) 1 cap] 63)) u4.heap.size 17 (seenV LT (min (k + 1) lies)) := by
              have := HARB.out
              rwa [show min k lies = min (k + 1) lies by omega] at this
            have hpv : PV p x lies LT k ((pw (2 * p + 1) x y : Nat) : Int) := ⟨pw_grp HSP.out HXG.out, fun _ => by rw [HY.out]; rfl, fun h => absurd h hkl2⟩
            have HPV := Lib.hid hpv
            have HARX := Lib.hid har2
            have HROWX : Hid _ := HROW
            have HFX := HF3
            have HDCX := HD3
            clear har2 hpv gf
            go_wp2_with (at_builtin; refine wpList_append_own _ rfl _ _ 32 rfl (u4.heap.size + 1) 63 j0 _ 2 32 Tryd.underlying32 hj hy0 hy1 hy2 rfl (by decide) _ _ _ rfl (hr.alloc _) ⟨w2'.heap.size + 1, 0, none⟩ 1 1 [.int .i64 (h : Int), .slice (some ⟨g, 0, none⟩) 1 cap] rfl rfl ?c1 (one2 rfl rfl) (by simp only [maxLen]; omega) (by omega) (by simp; omega) ?_)
            case c1 =>
              have := World.news_of_block (cs := #[.int .i64 (h : Int), .slice (some ⟨g, 0, none⟩) 1 cap]) (t := 63) (fr := (0, 0)) (heap_alloc_new (w2'.alloc (.cells #[.int .i64 (h : Int), .slice (some ⟨g, 0, none⟩) 1 cap] 63)) (.cells #[.int .i64 (h : Int), .slice (some ⟨g, 0, none⟩) 1 cap] 63))
              simpa using this
            intro v6 w6 hown6 hgrow6 _
            have hg6 := grown_past hgrow6
            have hul : ∀ q, u11.ownBlock = some q → u4.heap.size + 1 ≤ q := fun q hq => (hr.lt q hq).1
            have hsn := OwnSh.snoc (L := ys) (x := ((h : Int), [((pw (2 * p + 1) x y : Nat) : Int)])) (by rw [HKY.out]; exact hr) hkk hg6 (by rw [HKY.out]; exact hown6) HROWX.out
            have hdc6 := HDCX.out.grown hg6 (fun q hq => by have := hul q hq; omega)
            have har6 := HARX.out.keepB (hg6.block u4.heap.size (by have := HFX.out.size; omega) (fun e => by have := hul _ e.symm; omega))
            have hfa6 := HFX.out.own hg6 (fun q hq => by have := hul q hq; omega)
            have HSN6 := Lib.hid hsn
            have HDC6 := Lib.hid hdc6
            have HAR6 := Lib.hid har6
            have HFA6 := Lib.hid hfa6
            have hsz6 : u4.heap.size < w6.heap.size := by have := HFX.out.size; have := hg6.size; omega
            clear hown6 hgrow6 hg6 hul hsn hdc6 har6 hfa6 hr hkk
            go_wp2_with fail
            go_roundw
            case measure => have := HKY.out; simp [intOf]; omega
            case rel =>
              have hl1 : (ys ++ [((h : Int), [((pw (2 * p + 1) x y : Nat) : Int)])]).length = k + 1 := by rw [List.length_append, HKY.out]; rfl
              exact ⟨ys ++ [((h : Int), [((pw (2 * p + 1) x y : Nat) : Int)])], by omega, by rw [hl1]; go_num, HLIE.out.snoc _ (by rw [HKY.out]; exact HPV.out) _ (by rw [HKY.out]; exact HH.out), HSN6.out, HDC6.out, by rw [hl1]; exact HAR6.out, HFA6.out, hsz6⟩
        · have hkn : k = nT := by omega
          subst hkn
          have hj0 : ¬ (k : Int) < (k : Int) := by omega
          have harr : ArrV wr u4.heap.size 17 (seenV LT lies) := by
            have := HARR.out
            rwa [Nat.min_eq_right (by omega)] at this
          obtain ⟨CS, hCS, hcs⟩ : ∃ CS : List Value, CS.length = 17 ∧ ∀ j, j < 17 → CS[j]? = some (seenV LT lies j) := ⟨(List.range 17).map (seenV LT lies), by simp, fun j hj => by simp [hj]⟩
          have hrng : wr.rangeAt u4.heap.size 0 CS := fun j v hv => by
            have hj := (List.getElem?_eq_some_iff.1 hv).1
            rw [hCS] at hj
            rw [hcs j hj] at hv
            injection hv with hv
            subst hv
            have := harr.cell j hj
            simpa using this
          have hidx : ∀ (m : Nat) (W : World), m < 17 → (Instr.index 61 (.agg CS.toArray) (.int .i64 (m : Int))).run Tryd.prog W = .ok (.bool (decide (∃ i, i < lies ∧ (shAt LT i).1 = (m : Int)))) W := fun m W hm => run_index_bools CS _ hCS hcs m W hm
          have HIDX := Lib.hid hidx
          have HRNG := Lib.hid hrng
          have HCS := Lib.hid hCS
          clear hcs hCS harr hidx hrng
          go_upto_region 25 with (fail)
          apply wp_region_lit
          refine wpList_plain rfl (fun K hK => ?_)
          refine wp_load_mid _ _ rfl _ _ rfl CS _ HRNG.out Tryd.underlying61 rfl (by rw [HCS.out]; kernel_rfl) (hK _ _ ?_)
          clear hK K
          simp only [Act.put, List.setIfInBounds_toArray, List.set_cons_zero, List.set_cons_succ]
          generalize CS.toArray = CV at *
          clear HRNG HCS
          go_wp2_with fail
          obtain ⟨wA, hwA⟩ : ∃ wA, wA = wr := ⟨wr, rfl⟩
          subst hwA
          go_loopw [17, 124] (fun o t wq => ∃ m : Nat, m ≤ 17 ∧ t = .int .i64 (m : Int) ∧ wq.ownsRow wA.heap.size 3 1 o (liarsM LT lies m).length ((liarsM LT lies m).map (Value.int .i64)) ∧ Below wA.heap.size wA wq) (fun _ t _ => 17 - (intOf t).toNat)
          case atStart => exact ⟨0, by omega, rfl, World.ownsRow_nil _ _ _ _, Below.refl _ _⟩
          case round =>
            obtain ⟨m, hm, rfl, hown, hbl⟩ := hrel
            by_cases hlt2 : m < 17
            · have qm : (m : Int) < 17 := by omega
              have hlen := liarsM_len LT lies m
              obtain ⟨z, hz⟩ : ∃ z, (liarsM LT lies m).length = z := ⟨_, rfl⟩
              rw [hz] at hown hlen
              have HO := Lib.hid hown
              have HBL := Lib.hid hbl
              have HZ := Lib.hid hz
              have hix := fun W => HIDX.out m W hlt2
              rcases hb : decide (∃ i, i < lies ∧ (shAt LT i).1 = (m : Int)) with _ | _
              · rw [hb] at hix
                have e1 := liarsM_no hb
                have E1 := Lib.hid e1
                clear hb e1 hown hbl hz
                go_wp2_with fail
                go_roundw
                case measure => simp [intOf]; omega
                case rel => exact ⟨m + 1, by omega, by go_num, by rw [E1.out, HZ.out]; exact HO.out, HBL.out⟩
              · rw [hb] at hix
                have e1 := liarsM_yes hb
                have E1 := Lib.hid e1
                have hsq := hbl.size
                clear hb e1 hown hbl hz
                go_wp2_with (at_builtin; refine wpList_append_own _ rfl _ _ 22 rfl wA.heap.size 3 i0 (.int .i64 0) 1 8 Tryd.underlying22 hi hz0 hz1 hz2 rfl (by decide) _ _ _ rfl (HO.out.alloc _) ⟨wr.heap.size, 0, none⟩ 1 1 [.int .i64 (m : Int)] rfl rfl (fun j u hj => by have := cell_one_new wr (.int .i64 (m : Int)) 3 j u hj; simpa using this) (ints_oneCell .i64 [_]) (by unfold maxLen; omega) (by omega) (by simp; omega) ?_)
                intro v6 w6 hown6 hgrow6 _
                have hg6 := grown_past hgrow6
                have hul : ∀ q, u17.ownBlock = some q → wA.heap.size ≤ q := fun q hq => (HO.out.lt q hq).1
                have hb6 := HBL.out.grown hg6 hsq hul
                have HO6 := Lib.hid hown6
                have HB6 := Lib.hid hb6
                clear hown6 hgrow6 hg6 hul hb6
                go_wp2_with fail
                go_roundw
                case measure => simp [intOf]; omega
                case rel => exact ⟨m + 1, by omega, by go_num, by rw [E1.out, List.length_append, HZ.out, List.map_append]; exact HO6.out, HB6.out⟩
            · have hm17 : m = 17 := by omega
              subst hm17
              have lsz : wA.heap.size ≤ wr.heap.size := hbl.size
              have hys : ShAt wr (fun b => b < wr.heap.size) u11 ys := ((HOWN.out.below hbl).at_).mono fun b hb => hb.2
              have hpl : Blk wr w3.heap.size 29 #[.int .i64 (p : Int), .int .i64 (need : Int), .int .i64 (hold : Int)] := by
                have h1 : w3.heap.size < u4.heap.size := ST4.out.2.1.lt
                have h2 : Blk wA w3.heap.size 29 #[.int .i64 (p : Int), .int .i64 (need : Int), .int .i64 (hold : Int)] := (HFAR.out.block w3.heap.size h1 (by omega) (by omega)).trans ST4.out.2.1
                exact h2.below hbl (by omega)
              have hbq : Below d w wr := HBASE.out.trans (hbl.mono (by omega))
              have hly : ys.length = LT.length := by rw [HKY.out]; exact HNT.out
              have hpo := HLIE.out.parts hly OKT.out.ok
              have hbd := HLIE.out.bad_len hly OKT.out
              have hnm := HLIE.out.named hly (by rw [← HNT.out]; omega) OKT.out (by omega)
              obtain ⟨ns, f1, f2, f3, f4⟩ := rob_found (x := x) HSP.out n4 n1 HXG.out (key :: co) (by simpa using lco) hpo (by rw [HKY.out]; omega) (by rw [HKY.out]; omega)
              have hev : evH p 0 (key :: co) = key := by
                show (evH p 0 co * 0 + key) % p = key
                rw [Int.mul_zero, Int.zero_add, Int.emod_eq_of_lt (by omega) k2]
              rw [hev] at f3
              have hrb := h_Robust p need hold (pw (2 * p + 1) x key.toNat) (badL p x (key :: co) ys) u11 ys ns (fun b => b < wr.heap.size) wr (HW.out.below' hbq HD.out) HSP.out n1 n2 (by omega) n4 hys (fun b hb => hb) (by rw [HKY.out]; omega) (by rw [HKY.out]; omega) hpo f1 f2 f3 f4
              have hpw := fun W => h_Power p x key W (by omega) p4 (by have := in_grp HXG.out; omega)
              rw [Int.emod_eq_of_lt (by omega) k2] at hpw
              obtain ⟨PW, hPW⟩ : ∃ z : Int, ((pw (2 * p + 1) x key.toNat : Nat) : Int) = z := ⟨_, rfl⟩
              unfold RobPost at hrb
              rw [hnm] at hrb
              rw [hPW] at hrb hpw
              have hli : IntsAt wr (fun b => wA.heap.size ≤ b ∧ b < wr.heap.size) u17 (liarsL LT lies) := IntsAt.of_own (by rw [← liarsM_17]; exact hown)
              have q0 : wr.cell? ⟨w3.heap.size, 0, none⟩ = some (.int .i64 (p : Int)) := hpl.cell 0
              have q1 : wr.cell? ⟨w3.heap.size, 1, none⟩ = some (.int .i64 (need : Int)) := hpl.cell 1
              have q2 : wr.cell? ⟨w3.heap.size, 2, none⟩ = some (.int .i64 (hold : Int)) := hpl.cell 2
              have hll : (liarsL LT lies).length ≤ 17 := liarsM_len LT lies 17
              have HRB := Lib.hid hrb
              have HPW := Lib.hid hpw
              have HLI := Lib.hid hli
              have HBQ := Lib.hid hbq
              clear hys hpl hbq hly hpo hbd hnm f1 f2 f3 f4 hev hrb hpw hli hPW hown hbl
              go_wp2_with fail
              refine HRB.out.mono ?_
              rintro e w7 ⟨vn, rfl, hvn, hb7⟩
              have hn7 : IntsAt w7 (fun b => wr.heap.size ≤ b ∧ b < w7.heap.size) vn (liarsL LT lies) := IntsAt.of_own hvn
              have hl7 := HLI.out.keep (w' := w7) fun b hb => hb7.block b hb.2
              have hq7 := HBQ.out.trans (hb7.mono (by have := HBQ.out.size; have := HD.out; omega))
              have hsz7 := hb7.size
              have HN7 := Lib.hid hn7
              have HL7 := Lib.hid hl7
              have HQ7 := Lib.hid hq7
              clear hvn hb7 hn7 hl7 hq7 HRB HLI HBQ q0 q1 q2
              go_wp2_with fail
              refine (HPW.out _).mono ?_
              rintro e w8 ⟨rfl, hb8⟩
              have hq8 := HQ7.out.trans (hb8.mono (by have := HQ7.out.size; have := HD.out; omega))
              have hn8 := HN7.out.keep (w' := w8) fun b hb => hb8.block b hb.2
              have hl8 := HL7.out.keep (w' := w8) fun b hb => hb8.block b (by omega)
              have HN8 := Lib.hid hn8
              have HL8 := Lib.hid hl8
              have HQ8 := Lib.hid hq8
              clear hb8 hn8 hl8 hq8 HN7 HL7
              go_wp2_with fail
              refine (r_Same vn u17 _ _ _ _ _ HN8.out HL8.out (by omega) (by omega)).mono ?_
              rintro e w9 ⟨rfl, rfl⟩
              have t9 : decide (liarsL LT lies = liarsL LT lies) = true := decide_eq_true rfl
              rw [t9]
              go_wp2_with fail
              refine (l_awake _ (HW.out.below' HQ8.out HD.out)).mono ?_
              rintro e w10 ⟨rfl, hb10⟩
              have hfin := HQ8.out.trans (hb10.mono (by have := HQ8.out.size; have := HD.out; omega))
              rw [← HD.out] at hfin
              go_wp2_with fail
              go_ret
              exact ⟨rfl, hfin⟩
  · have t1 : decide ((n : Int) ≤ 500) = false := decide_eq_false (by omega)
    have HW := Lib.hid hw
    clear hw ha
    go_enter Tryd.func8, Tryd.ntmps8
    go_wp2_with fail
    refine (k_Light A n c _ hn).mono ?_
    rintro e w' ⟨rfl, rfl⟩
    go_wp2_with fail
    refine (l_awake _ HW.out).mono ?_
    rintro e w1 ⟨rfl, hb1⟩
    go_wp2_with fail
    go_ret
    exact ⟨rfl, hb1⟩
end Go.Proofs.YtmneokkdkgflkaaDoor

/- The law on handles that agree. -/
import Derived.Test.YtmneokkdkgflkaaDoorHanKey
set_option linter.unusedVariables false
set_option linter.unusedSimpArgs false
namespace Go.Proofs.YtmneokkdkgflkaaDoor
open Go.RowKit Num

theorem BasesOk.below' {w w' : World} {d : Nat} (h : BasesOk w) (hb : Below d w w') (hd : w.heap.size = d) : BasesOk w' := h.below (hd ▸ hb)
/-- What is kept while shares are turned and put to work: the dice, the plan, what came in, the shares. -/
def AgSt (d g p need hold : Nat) (w : World) (vL : Value) (L : List Sh) (W : World) : Prop :=
  Dc W d ∧ Blk W g 29 #[.int .i64 (p : Int), .int .i64 (need : Int), .int .i64 (hold : Int)] ∧ Below d w W ∧ ShAt W (fun b => d < b ∧ b < W.heap.size) vL L
theorem AgSt.grow {d g p need hold : Nat} {w W W' : World} {vL : Value} {L : List Sh} (h : AgSt d g p need hold w vL L W) (hg : W.grownBy W' (some d)) (hd : Dc W' d) (hdg : d < g) : AgSt d g p need hold w vL L W' :=
  ⟨hd, h.2.1.grown hg (by intro e; injection e; omega), h.2.2.1.grown hg (Nat.le_of_lt h.1.lt) (fun k hk => by injection hk; omega),
    (h.2.2.2.keep fun b hb => hg.block b hb.2 (by intro e; injection e; omega)).mono fun b hb => ⟨hb.1, by have := hg.size; omega⟩⟩
theorem AgSt.drew {d g p need hold : Nat} {w W : World} {vL : Value} {L : List Sh} (h : AgSt d g p need hold w vL L W) : AgSt d g p need hold w vL L W.drew :=
  ⟨h.1.drew, h.2.1.drew, h.2.2.1.drew, h.2.2.2⟩
theorem AgSt.below {d g p need hold : Nat} {w W W' : World} {vL : Value} {L : List Sh} (h : AgSt d g p need hold w vL L W) (hb : Below W.heap.size W W') (hdg : d < g) : AgSt d g p need hold w vL L W' :=
  h.grow (only_of_below hb _) (h.1.below hb h.1.lt) hdg
set_option maxRecDepth 100000 in
set_option maxHeartbeats 4000000 in
theorem l_Agrees (v : Value) (a b : ByteArray) (w : World) (hw : BasesOk w) (A : Option Addr) (n c : Nat) (hv : v = .slice A n c) (hn : n ≤ 9223372036854775807) (hza : a.size ≤ 9223372036854775807) (hzb : b.size ≤ 9223372036854775807) (ha : n ≤ 500 → ArgL w v) :
    Calls Tryd.prog 3 #[v, .string a, .string b] w (BoolBelow true w) := by
  subst hv
  have other : (decide ((n : Int) ≤ 500) = false ∨ decide ((n : Int) ≤ 500) = true ∧ (decide ((100 : Int) < (a.size : Int)) = true ∨ decide ((100 : Int) < (a.size : Int)) = false ∧ decide ((100 : Int) < (b.size : Int)) = true)) → Calls Tryd.prog 3 #[.slice A n c, .string a, .string b] w (BoolBelow true w) := by
    have HW := Lib.hid hw
    clear hw ha
    rintro (t1 | ⟨t1, t2 | ⟨t2, t3⟩⟩)
    all_goals
      go_enter Tryd.func3, Tryd.ntmps3
      go_wp2_with fail
      refine (k_Light A n c _ hn).mono ?_
      rintro e w' ⟨rfl, rfl⟩
      go_wp2_with fail
      refine (l_awake _ HW.out).mono ?_
      rintro e w1 ⟨rfl, hb1⟩
      go_wp2_with fail
      go_ret
      exact ⟨rfl, hb1⟩
  by_cases h5 : n ≤ 500
  · have t1 : decide ((n : Int) ≤ 500) = true := decide_eq_true (by omega)
    have ha := ha h5
    by_cases h3 : a.size ≤ 100
    · have t2 : decide ((100 : Int) < (a.size : Int)) = false := decide_eq_false (by omega)
      by_cases h4 : b.size ≤ 100
      · have t3 : decide ((100 : Int) < (b.size : Int)) = false := decide_eq_false (by omega)
        have HW := Lib.hid hw
        have HA := Lib.hid ha
        clear hw ha other
        go_enter Tryd.func3, Tryd.ntmps3
        go_wp2_with fail
        refine (k_Light A n c _ hn).mono ?_
        rintro e w' ⟨rfl, rfl⟩
        go_wp2_with fail
        refine (k_Roll _ _ HA.out).mono ?_
        rintro e w1 ⟨rfl, hd1, hb1⟩
        have hlt1 := hd1.lt
        obtain ⟨d, hd⟩ : ∃ d, w.heap.size = d := ⟨_, rfl⟩
        rw [hd] at hd1 hb1 hlt1 ⊢
        have HD := Lib.hid hd
        have HD1 := Lib.hid hd1
        have HB1 := Lib.hid hb1
        clear hd hd1 hb1 HA
        go_wp2_with fail
        refine (k_Safe _ _ HD1.out).mono ?_
        rintro e w2 ⟨p, hsafe, rfl, hd2, hg2⟩
        have hsp := safe_sprm hsafe
        have p3 := hsp.2.2.1
        have p4 := hsp.2.2.2
        have hb2 : Below d w w2 := HB1.out.grown hg2 (by omega) (fun g hg => by injection hg with hg; omega)
        have HSP := Lib.hid hsp
        have HB2 := Lib.hid hb2
        have HD2 := Lib.hid hd2
        clear hd2 hb2 hg2 hsafe hsp HD1 HB1
        go_wp2_with fail
        refine (k_Plan d p _ HD2.out (by omega) (by omega)).mono ?_
        rintro e w3 ⟨need, hold, n1, n2, n3, n4, rfl, hd3, hg3⟩
        have l2 := HD2.out.lt
        have hb3 : Below d w w3 := HB2.out.grown hg3 (by omega) (fun g hg => by injection hg with hg; omega)
        have HB3 := Lib.hid hb3
        have HD3 := Lib.hid hd3
        have epl : planV p need hold = .agg #[.int .i64 (p : Int), .int .i64 (need : Int), .int .i64 (hold : Int)] := rfl
        rw [epl]
        clear hd3 hb3 hg3 HD2 HB2 epl
        have hN : ∀ W, Dc W d → Calls Tryd.prog 14 #[.pointer (some ⟨d, 0, none⟩), .int .i64 ((p : Int) - 1)] W (NextPost d (p - 1) W) := fun W h => by
          have := k_Next d (p - 1) W h (by omega) (by omega)
          rwa [show ((p - 1 : Nat) : Int) = (p : Int) - 1 by omega] at this
        have HN := Lib.hid hN
        clear hN
        go_wp2_with fail
        refine (HN.out _ (HD3.out.alloc _)).mono ?_
        rintro e w4 ⟨r, hr, rfl, hd4, hg4⟩
        have l3 := HD3.out.lt
        have hb4 : Below d w w4 := (HB3.out.alloc (by omega) _).grown hg4 (by simp; omega) (fun g hg => by injection hg with hg; omega)
        have hk4 : Blk w4 w3.heap.size 29 #[.int .i64 (p : Int), .int .i64 (need : Int), .int .i64 (hold : Int)] := (Blk.new w3 _ _).grown hg4 (by intro e; injection e; omega)
        have HB4 := Lib.hid hb4
        have HD4 := Lib.hid hd4
        have HK4 := Lib.hid hk4
        have l4 := hk4.lt
        have c0 : w4.cell? ⟨w3.heap.size, 0, none⟩ = some (.int .i64 (p : Int)) := hk4.cell 0
        have c1 : w4.cell? ⟨w3.heap.size, 1, none⟩ = some (.int .i64 (need : Int)) := hk4.cell 1
        have c2 : w4.cell? ⟨w3.heap.size, 2, none⟩ = some (.int .i64 (hold : Int)) := hk4.cell 2
        obtain ⟨key, hkey⟩ : ∃ key : Int, 1 + (r : Int) = key := ⟨_, rfl⟩
        have k1 : 1 ≤ key := by omega
        have k2 : key < p := by omega
        clear hd4 hb4 hg4 hk4 HD3 HB3 HN
        go_wp2_with fail
        try rw [hkey]
        clear hkey hr
        have hel : ∀ W, Dc W d → Calls Tryd.prog 16 #[.pointer (some ⟨d, 0, none⟩), .int .i64 (p : Int), .int .i64 ((need : Int) - 1)] W (ElemPost d p (need - 1) W) := fun W h => by
          have := k_Elements d p (need - 1) W h (by omega) (by omega) (by omega)
          rwa [show ((need - 1 : Nat) : Int) = (need : Int) - 1 by omega] at this
        have hdl : ∀ W vs vr rnd, IntsAt W (Old W) vs [key] → IntsAt W (Old W) vr rnd → rnd.length = need - 1 → InF p rnd →
            Calls Tryd.prog 15 #[.agg #[.int .i64 (p : Int), .int .i64 (need : Int), .int .i64 (hold : Int)], vs, vr] W (DealPost p (need - 1) hold [key] rnd W) := fun W vs vr rnd h1 h2 h3 h4 => by
          have := r_Deal p (need - 1) hold [key] rnd vs vr W HSP.out.1 (by omega) (by omega) (by omega) n4 h1 h2 (inF_one (by omega) (by omega)) h4 (by simp) (by simp [h3])
          unfold planV at this
          rwa [show ((need - 1 + 1 : Nat) : Int) = (need : Int) by omega] at this
        have HEL := Lib.hid hel
        have HDL := Lib.hid hdl
        clear hel hdl
        have l5 : d < w4.heap.size := HD4.out.lt
        have hdlt : d < w3.heap.size := by omega
        have one : ∀ (W : World) (x : Int), IntsAt (W.alloc (.cells #[.int .i64 x] 3)) (fun b => b = W.heap.size) (.slice (some ⟨W.heap.size, 0, none⟩) 1 1) [x] := ints_one
        have HONE := Lib.hid one
        clear one
        have wi1 : IntKind.i64.wrap ((need : Int) - 1) = (need : Int) - 1 := IntWalk.i64_in _ ⟨by omega, by omega⟩
        have mk : ∀ W : World, Dc W d → Blk W w3.heap.size 29 #[.int .i64 (p : Int), .int .i64 (need : Int), .int .i64 (hold : Int)] → Below d w W →
            W.cell? ⟨w3.heap.size, 0, none⟩ = some (.int .i64 (p : Int)) ∧ W.cell? ⟨w3.heap.size, 1, none⟩ = some (.int .i64 (need : Int)) ∧ W.cell? ⟨w3.heap.size, 2, none⟩ = some (.int .i64 (hold : Int)) ∧ Hid (Dc W d ∧ Blk W w3.heap.size 29 #[.int .i64 (p : Int), .int .i64 (need : Int), .int .i64 (hold : Int)] ∧ Below d w W) :=
          fun W h1 h2 h3 => ⟨h2.cell 0, h2.cell 1, h2.cell 2, Lib.hid ⟨h1, h2, h3⟩⟩
        have HM := Lib.hid mk
        clear mk c0 c1 c2
        go_region_held3 (fun w' => w'.cell? ⟨w3.heap.size, 0, none⟩ = some (.int .i64 (p : Int)) ∧ w'.cell? ⟨w3.heap.size, 1, none⟩ = some (.int .i64 (need : Int)) ∧ w'.cell? ⟨w3.heap.size, 2, none⟩ = some (.int .i64 (hold : Int)) ∧ Hid (Dc w' d ∧ Blk w' w3.heap.size 29 #[.int .i64 (p : Int), .int .i64 (need : Int), .int .i64 (hold : Int)] ∧ Below d w w'))
          (first
            | exact HPk.out
            | exact HP2.out
            | exact HP.out
            | exact HM.out _ ((HD4.out.alloc _).drew) ((HK4.out.alloc _).drew) ((HB4.out.alloc (by omega) _).drew)
            | exact HM.out _ HD4.out.drew HK4.out.drew HB4.out.drew)
          (first
            | (go_at_call 16
               (with_reducible refine (HEL.out _ ((HD4.out.alloc (.cells #[.int .i64 key] 3)).drew)).mono ?_)
               rintro e w5 ⟨vr, rnd, rfl, hir, hrl, hrf, hd5, hg5⟩
               have hk5 := ((HK4.out.alloc _).drew).grown hg5 (by intro e; injection e; omega)
               have hb5 : Below d w w5 := ((HB4.out.alloc (by omega) _).drew).grown hg5 (by simp; omega) (fun g hg => by injection hg; omega)
               have hvs : IntsAt w5 (Old w5) (.slice (some ⟨w4.heap.size, 0, none⟩) 1 1) [key] := ((HONE.out w4 key).keep (w' := w5) (fun g hg => by subst hg; exact hg5.block w4.heap.size (by simp) (by simp; omega))).mono (fun g hg => by subst hg; have := hg5.size; simp at this; unfold Old; omega)
               have hvr : IntsAt w5 (Old w5) vr rnd := hir.mono fun g hg => hg.2
               have HP := Lib.hid (HM.out w5 hd5 hk5 hb5)
               have HVS := Lib.hid hvs
               have HVR := Lib.hid hvr
               have HDX := Lib.hid hd5
               have HKX := Lib.hid hk5
               have HBX := Lib.hid hb5
               have HRL := Lib.hid hrl
               have HRF := Lib.hid hrf
               clear hvs hvr hir hrl hrf hd5 hg5 hk5 hb5)
            | (go_at_call 16
               (with_reducible refine (HEL.out _ (HD4.out.drew)).mono ?_)
               rintro e w5 ⟨vr, rnd, rfl, hir, hrl, hrf, hd5, hg5⟩
               have hk5 := (HK4.out.drew).grown hg5 (by intro e; injection e; omega)
               have hb5 : Below d w w5 := (HB4.out.drew).grown hg5 (by show d ≤ w4.heap.size; omega) (fun g hg => by injection hg; omega)
               have l6 : d < w5.heap.size := hd5.lt
               have hvs : IntsAt (w5.alloc (.cells #[.int .i64 key] 3)) (Old (w5.alloc (.cells #[.int .i64 key] 3))) (.slice (some ⟨w5.heap.size, 0, none⟩) 1 1) [key] := (HONE.out w5 key).mono (fun g hg => by subst hg; unfold Old; simp)
               have hvr : IntsAt (w5.alloc (.cells #[.int .i64 key] 3)) (Old (w5.alloc (.cells #[.int .i64 key] 3))) vr rnd := (hir.keep (fun g hg => Below.heap_alloc w5 _ g hg.2)).mono fun g hg => by unfold Old; simp; omega
               have HP := Lib.hid (HM.out w5 hd5 hk5 hb5)
               have HP2 := Lib.hid (HM.out (w5.alloc (.cells #[.int .i64 key] 3)) (hd5.alloc _) (hk5.alloc _) (hb5.alloc (by omega) _))
               have HVS := Lib.hid hvs
               have HVR := Lib.hid hvr
               have HDX := Lib.hid (hd5.alloc (.cells #[.int .i64 key] 3))
               have HKX := Lib.hid (hk5.alloc (.cells #[.int .i64 key] 3))
               have HBX := Lib.hid (hb5.alloc (by omega) (.cells #[.int .i64 key] 3))
               have HRL := Lib.hid hrl
               have HRF := Lib.hid hrf
               clear hvs hvr hir hrl hrf hd5 hg5 hk5 hb5)
            | (go_at_call 15
               (with_reducible refine (HDL.out _ _ _ rnd HVS.out HVR.out HRL.out HRF.out).mono ?_)
               rintro e wk ⟨vL, rfl, hsh, hbk⟩
               have HDK := Lib.hid (HDX.out.below hbk HDX.out.lt)
               have HKK := Lib.hid (HKX.out.below hbk HKX.out.lt)
               have HBK := Lib.hid (HBX.out.trans (hbk.mono (by have := HDX.out.lt; omega)))
               have HPk := Lib.hid (HM.out wk HDK.out HKK.out HBK.out)
               have HSH : Hid (ShAt wk (fun g => d < g ∧ g < wk.heap.size) vL (dealL p (need - 1) [key] rnd hold)) := Lib.hid (hsh.at_.mono fun g hg => ⟨Nat.lt_of_lt_of_le HDX.out.lt hg.1, hg.2⟩)
               clear hsh hbk))
        all_goals
          have ofk := OfKey.deal HSP.out (need - 1) key rnd hold n4
          have lnL := deal_len p (need - 1) [key] rnd hold
          have lco : (rnd.take (need - 1)).length + 1 ≤ need := by rw [List.length_take]; omega
          have hst : AgSt d w3.heap.size p need hold w vL (dealL p (need - 1) [key] rnd hold) wk := ⟨HDK.out, HKK.out, HBK.out, HSH.out⟩
          obtain ⟨L, hL⟩ : ∃ L, dealL p (need - 1) [key] rnd hold = L := ⟨_, rfl⟩
          obtain ⟨co, hco⟩ : ∃ co, rnd.take (need - 1) = co := ⟨_, rfl⟩
          rw [hL] at ofk lnL hst
          rw [hco] at ofk lco
          obtain ⟨kn, hkn⟩ := Int.eq_ofNat_of_zero_le (show 0 ≤ key by omega)
          have hof : ∀ (s : ByteArray), s.size ≤ 100 → ∀ (W : World) (v' : Value) (L' : List Sh), BasesOk W → ShAt W (fun b => b < W.heap.size) v' L' → need ≤ L'.length → L'.length ≤ hold → OfKey p hold (key :: co) L' →
              Calls Tryd.prog 17 #[.agg #[.int .i64 (p : Int), .int .i64 (need : Int), .int .i64 (hold : Int)], .string s, v'] W (Int2Below (pw (2 * p + 1) (sqN p s) kn : Int) 0 W) := fun s hs W v' L' hW hv' hl1 hl2 hok => by
            have := h_Of p need hold s v' L' (fun b => b < W.heap.size) W hW HSP.out n1 n2 (by omega) n4 (by omega) hv' (fun b hb => hb) (by omega) hl1 hok.ok
            unfold planV at this
            rw [hAt_key HSP.out n4 n1 (sqN_grp HSP.out s) key (by omega) k2 co lco hok hl1, show key.toNat = kn by omega] at this
            exact this
          have htn : ∀ W, AgSt d w3.heap.size p need hold w vL L W → Calls Tryd.prog 18 #[.pointer (some ⟨d, 0, none⟩), vL, .int .i64 (need : Int)] W (TurnPost d L need W) := fun W h =>
            k_Turn d need vL L _ W h.1 h.2.2.2 (fun b hb => hb.2) (by omega) (by omega) (by omega) (fun k hk => by rw [ofk.ok.one k hk]; omega)
          obtain ⟨xa, hxa⟩ : ∃ z : Int, ((sqN p a : Nat) : Int) = z := ⟨_, rfl⟩
          obtain ⟨xb, hxb⟩ : ∃ z : Int, ((sqN p b : Nat) : Int) = z := ⟨_, rfl⟩
          obtain ⟨ya, hya⟩ : ∃ z : Int, ((pw (2 * p + 1) (sqN p a) kn : Nat) : Int) = z := ⟨_, rfl⟩
          obtain ⟨yb, hyb⟩ : ∃ z : Int, ((pw (2 * p + 1) (sqN p b) kn : Nat) : Int) = z := ⟨_, rfl⟩
          have oa := hof a (by omega)
          have ob := hof b (by omega)
          rw [hya] at oa
          rw [hyb] at ob
          have sa : ∀ W, Calls Tryd.prog 20 #[.int .i64 (p : Int), .string a] W (IntBelow xa W) := fun W => by
            rw [← hxa]; exact h_SquareN p a W (by omega) (by omega) (by omega)
          have sb : ∀ W, Calls Tryd.prog 20 #[.int .i64 (p : Int), .string b] W (IntBelow xb W) := fun W => by
            rw [← hxb]; exact h_SquareN p b W (by omega) (by omega) (by omega)
          have pa : ∀ W, Calls Tryd.prog 19 #[.int .i64 (p : Int), .int .i64 xa, .int .i64 key] W (IntBelow ya W) := fun W => by
            have hl := sqN_lt p a
            have := h_Power p (sqN p a) key W (by omega) p4 (by omega)
            rw [Int.emod_eq_of_lt (by omega) k2, show key.toNat = kn by omega] at this
            rw [← hxa, ← hya]; exact this
          have hroot : (ya == yb) = (xa == xb) := by
            have h := pw_root (key := kn) HSP.out (sqN_grp HSP.out a) (sqN_grp HSP.out b) (by omega) (by omega)
            rw [← hxa, ← hxb, ← hya, ← hyb]
            by_cases he : sqN p a = sqN p b
            · rw [he]; simp
            · rw [decide_eq_false he] at h
              have h2 := of_decide_eq_false h
              simp only [beq_eq_false_iff_ne.2 (show ((sqN p a : Nat) : Int) ≠ ((sqN p b : Nat) : Int) by omega), beq_eq_false_iff_ne.2 (show ((pw (2 * p + 1) (sqN p a) kn : Nat) : Int) ≠ ((pw (2 * p + 1) (sqN p b) kn : Nat) : Int) by omega)]
          have mk : ∀ W : World, AgSt d w3.heap.size p need hold w vL L W →
              W.cell? ⟨w3.heap.size, 0, none⟩ = some (.int .i64 (p : Int)) ∧ W.cell? ⟨w3.heap.size, 1, none⟩ = some (.int .i64 (need : Int)) ∧ W.cell? ⟨w3.heap.size, 2, none⟩ = some (.int .i64 (hold : Int)) ∧ Hid (AgSt d w3.heap.size p need hold w vL L W) :=
            fun W h => ⟨h.2.1.cell 0, h.2.1.cell 1, h.2.1.cell 2, Lib.hid h⟩
          have MK := Lib.hid mk
          have OA := Lib.hid oa
          have OB := Lib.hid ob
          have SA := Lib.hid sa
          have SB := Lib.hid sb
          have PA := Lib.hid pa
          have TN := Lib.hid htn
          have OFK := Lib.hid ofk
          have LNL := Lib.hid lnL
          have ST := Lib.hid hst
          have ROOT := Lib.hid hroot
          have STD : Hid (AgSt d w3.heap.size p need hold w vL L wk.drew) := Lib.hid hst.drew
          clear mk oa ob sa sb pa htn ofk lnL hst hroot hof hxa hxb hya hyb hL hco lco hkn HSH HDK HKK HBK HPk HDX HKX HBX HRL HRF HVS HVR HP HEL HDL HONE HD4 HB4 HK4 HM
          clear wi1
          go_wp2_with fail
          go_region_held3 (fun w' => w'.cell? ⟨w3.heap.size, 0, none⟩ = some (.int .i64 (p : Int)) ∧ w'.cell? ⟨w3.heap.size, 1, none⟩ = some (.int .i64 (need : Int)) ∧ w'.cell? ⟨w3.heap.size, 2, none⟩ = some (.int .i64 (hold : Int)) ∧ Hid (AgSt d w3.heap.size p need hold w vL L w'))
            (first
              | exact HP2.out
              | exact HP1.out
              | exact MK.out _ STD.out)
            (first
              | (go_at_call 18
                 (with_reducible refine (TN.out _ STD.out).mono ?_)
                 rintro e u1 ⟨vT, LT, rfl, hsT, hT1, hT2, hT3, hdT, hgT⟩
                 have ST1 := Lib.hid (AgSt.grow STD.out hgT hdT hdlt)
                 have HP1 := Lib.hid (MK.out u1 ST1.out)
                 have OT1 := Lib.hid (OA.out u1 vT LT (HW.out.below' ST1.out.2.2.1 HD.out) (hsT.mono fun g hg => hg.2) hT1 (by rw [LNL.out] at hT2; exact hT2) (OFK.out.some_ hT3))
                 clear hsT hT1 hT2 hT3 hdT hgT)
              | (go_at_call 17
                 (with_reducible refine (OT1.out).mono ?_)
                 rintro e u2 ⟨rfl, hbk⟩
                 have ST2 := Lib.hid (ST1.out.below hbk hdlt)
                 have HP2 := Lib.hid (MK.out u2 ST2.out)
                 clear hbk))
          all_goals
            have STE : Hid (AgSt d w3.heap.size p need hold w vL L u2.drew) := Lib.hid ST2.out.drew
            clear HP1 HP2 OT1 ST1 ST STD
            go_split_ands
            go_wp2_with fail
            go_region_held3 (fun w' => w'.cell? ⟨w3.heap.size, 0, none⟩ = some (.int .i64 (p : Int)) ∧ w'.cell? ⟨w3.heap.size, 1, none⟩ = some (.int .i64 (need : Int)) ∧ w'.cell? ⟨w3.heap.size, 2, none⟩ = some (.int .i64 (hold : Int)) ∧ Hid (AgSt d w3.heap.size p need hold w vL L w'))
              (first
                | exact HP4.out
                | exact HP3.out
                | exact MK.out _ STE.out)
              (first
                | (go_at_call 18
                   (with_reducible refine (TN.out _ STE.out).mono ?_)
                   rintro e u3 ⟨vT, LT, rfl, hsT, hT1, hT2, hT3, hdT, hgT⟩
                   have ST3 := Lib.hid (AgSt.grow STE.out hgT hdT hdlt)
                   have HP3 := Lib.hid (MK.out u3 ST3.out)
                   have OT3 := Lib.hid (OA.out u3 vT LT (HW.out.below' ST3.out.2.2.1 HD.out) (hsT.mono fun g hg => hg.2) hT1 (by rw [LNL.out] at hT2; exact hT2) (OFK.out.some_ hT3))
                   clear hsT hT1 hT2 hT3 hdT hgT)
                | (go_at_call 17
                   (with_reducible refine (OT3.out).mono ?_)
                   rintro e u4 ⟨rfl, hbk⟩
                   have ST4 := Lib.hid (ST3.out.below hbk hdlt)
                   have HP4 := Lib.hid (MK.out u4 ST4.out)
                   clear hbk))
            all_goals
              clear HP3 HP4 OT3 ST3 STE ST2
              go_split_ands
              have m0 : u4.cell? ⟨w3.heap.size, 0, none⟩ = some (.int .i64 (p : Int)) := ST4.out.2.1.cell 0
              have m1 : u4.cell? ⟨w3.heap.size, 1, none⟩ = some (.int .i64 (need : Int)) := ST4.out.2.1.cell 1
              have m2 : u4.cell? ⟨w3.heap.size, 2, none⟩ = some (.int .i64 (hold : Int)) := ST4.out.2.1.cell 2
              have ob := OB.out u4 vL L (HW.out.below' ST4.out.2.2.1 HD.out) (ST4.out.2.2.2.mono fun g hg => hg.2) (by rw [LNL.out]; exact n2) (by rw [LNL.out]; exact Nat.le_refl _) OFK.out
              have OB4 := Lib.hid ob
              clear ob
              go_wp2_with fail
              refine OB4.out.mono ?_
              rintro e u5 ⟨rfl, hb5⟩
              have ST5 := Lib.hid (ST4.out.below hb5 hdlt)
              clear OB4 hb5 m0 m1 m2 ST4
              obtain ⟨β, hβ⟩ : ∃ β, (xa == xb) = β := ⟨_, rfl⟩
              have hr2 := ROOT.out
              rw [hβ] at hr2
              have HB' := Lib.hid hβ
              have HR' := Lib.hid hr2
              clear hβ hr2
              go_wp2_with fail
              refine (SA.out _).mono ?_
              rintro e u6 ⟨rfl, hb6⟩
              have ST6 := Lib.hid (ST5.out.below hb6 hdlt)
              clear hb6 ST5
              go_wp2_with fail
              refine (PA.out _).mono ?_
              rintro e u7 ⟨rfl, hb7⟩
              have ST7 := Lib.hid (ST6.out.below hb7 hdlt)
              clear hb7 ST6
              have hβ2 := HB'.out
              have hr2 := HR'.out
              go_wp2_with fail
              refine (SA.out _).mono ?_
              rintro e u8 ⟨rfl, hb8⟩
              have ST8 := Lib.hid (ST7.out.below hb8 hdlt)
              clear hb8 ST7
              go_wp2_with fail
              refine (SB.out _).mono ?_
              rintro e u9 ⟨rfl, hb9⟩
              have ST9 := Lib.hid (ST8.out.below hb9 hdlt)
              clear hb9 ST8
              cases β
              all_goals
                go_wp2_with fail
                refine (l_awake _ (HW.out.below' ST9.out.2.2.1 HD.out)).mono ?_
                rintro e u10 ⟨rfl, hb10⟩
                have hfin := (ST9.out.below hb10 hdlt).2.2.1
                rw [← HD.out] at hfin
                go_wp2_with fail
                go_ret
                exact ⟨rfl, hfin⟩
      · exact other (.inr ⟨t1, .inr ⟨t2, decide_eq_true (by omega)⟩⟩)
    · exact other (.inr ⟨t1, .inl (decide_eq_true (by omega))⟩)
  · exact other (.inl (decide_eq_false (by omega)))
end Go.Proofs.YtmneokkdkgflkaaDoor

/- Contracts: the entries of a view that are not withdrawn, where none is. Contracts: a coalition below the threshold; how many lists of random numbers lead to what it sees. -/
import Derived.Test.YtgeahbmaeaoeeaaGreatDoorQ35
import Derived.Lib.SliceRun
import Derived.Test.YtgeahbmaeaoeeaaGreatDoorQ42
set_option linter.unusedVariables false
set_option linter.unusedSimpArgs false
namespace Go.Proofs.YtgeahbmaeaoeeaaGreatDoor
open Go.RowKit Num

theorem infoSe : (Tryz.prog.info? 39).map (fun i => (i.zero, i.size, i.bytes)) = some (some (.agg #[.int .i64 0, .int .i64 0, .int .i64 0, .int .i64 0, .int .i64 0, .slice none 0 0, .slice none 0 0]), 7, 88) := by kernel_rfl
set_option maxRecDepth 100000 in
set_option maxHeartbeats 400000 in
theorem q_stand1 (a b c d e : Int) (x y : Value) (w : World) (h : c ≠ 2) (hx : x.oneCell' = true) (hy : y.oneCell' = true) : Calls Tryz.prog 51 #[.agg #[.int .i64 a, .int .i64 b, .int .i64 c, .int .i64 d, .int .i64 e, x, y]] w fun e w' => e = .returned (.bool false) ∧ Below w.heap.size w w' := by
  have z1 : (c == 2) = false := by simpa using h
  have HB := Lib.hid ((Below.refl w.heap.size w).alloc (Nat.le_refl _) (.cells #[.int .i64 a, .int .i64 b, .int .i64 c, .int .i64 d, .int .i64 e, x, y] 39))
  clear h
  go_enter Tryz.func51, Tryz.ntmps51
  go_wp2_with fail
  go_ret
  exact ⟨rfl, HB.out⟩
set_option maxRecDepth 100000 in
set_option maxHeartbeats 1000000 in
theorem i_SeenN (v : Value) (L : List SeenS) (w : World) (hv : SeensAt w (· < w.heap.size) v L) (hl : L.length ≤ 1000000) (hn : ∀ k, k < L.length → (seeL L k).st ≠ 2) :
    Calls Tryz.prog 75 #[v, .func (.func 51) #[] #[]] w fun e w' => e = .returned (.int .i64 (-1)) ∧ Below w.heap.size w w' := by
  obtain ⟨A, n, c, rfl, hnl, hnc, hA⟩ := id hv
  have n1 : n ≤ 1000000 := by omega
  have HA := Lib.hid hA
  have HN := Lib.hid hnl
  have HX := Lib.hid hn
  clear hv hA hnl hl hn
  go_enter Tryz.func75, Tryz.ntmps75
  go_wp2_with fail
  go_loopw [8] (fun v8 wr => ∃ i : Nat, i ≤ n ∧ v8 = .int .i64 (i : Int) ∧ Below w.heap.size w wr) (fun v8 _ => n - (intOf v8).toNat)
  case atStart => exact ⟨0, by omega, rfl, Below.refl _ _⟩
  case round =>
    obtain ⟨i, hi, rfl, hbr⟩ := hrel
    rename World => wr
    have HBR := Lib.hid hbr
    have hsz := hbr.size
    clear hbr
    by_cases hlt : i < n
    · obtain ⟨b, off, rfl, hSb, hcl⟩ := HA.out (by omega)
      obtain ⟨x, y, hs⟩ := hcl i hlt
      have hs2 := hs.keep (HBR.out.block b hSb) (fun g hg => HBR.out.block g hg)
      obtain ⟨c0, c1, c2, c3, c4, c5, c6, ⟨A1, n1', k1, rfl, -⟩, ⟨A2, n2', k2, rfl, -⟩⟩ := hs2
      have h2 := HX.out i (by rw [← HN.out]; exact hlt)
      generalize (seeL L i).num = z0 at *
      generalize (seeL L i).time = z1 at *
      generalize (seeL L i).st = z2 at *
      generalize (seeL L i).len = z3 at *
      generalize (seeL L i).ep = z4 at *
      have hc := fun (W : World) => q_stand1 z0 z1 z2 z3 z4 (.slice A1 n1' k1) (.slice A2 n2' k2) W h2 rfl rfl
      have HC := Lib.hid hc
      have zi : (i : Int) < (n : Int) := by omega
      have zi0 : (0 : Int) ≤ (i : Int) := by omega
      clear hc hs hcl h2
      go_wp2_with fail
      refine (HC.out wr).mono ?_
      rintro e w1 ⟨rfl, hb1⟩
      have HB1 := Lib.hid (HBR.out.trans (hb1.mono HBR.out.size))
      clear hb1
      go_wp2_with fail
      go_roundw
      case measure => simp [intOf]; omega
      case rel => exact ⟨i + 1, by omega, by go_num, HB1.out⟩
    · obtain rfl : i = n := by omega
      go_wp2_with fail
      go_ret
      exact ⟨rfl, HBR.out⟩
set_option maxRecDepth 100000 in
set_option maxHeartbeats 400000 in
theorem q_DeleteN (A : Option Addr) (n c : Nat) (L : List SeenS) (w : World) (hv : SeensAt w (· < w.heap.size) (.slice A n c) L) (hl : L.length ≤ 1000000) (hn : ∀ k, k < L.length → (seeL L k).st ≠ 2) :
    Calls Tryz.prog 49 #[.slice A n c, .func (.func 51) #[] #[]] w fun e w' => e = .returned (.slice A n c) ∧ Below w.heap.size w w' := by
  have HI := Lib.hid (i_SeenN (.slice A n c) L w hv hl hn)
  clear hv hl hn
  go_enter Tryz.func49, Tryz.ntmps49
  go_wp2_with fail
  refine HI.out.mono ?_
  rintro e w1 ⟨rfl, hb1⟩
  have HB1 := Lib.hid hb1
  clear hb1
  go_wp2_with fail
  go_ret
  exact ⟨rfl, HB1.out⟩
def SeensE (L : List SeenS) (w : World) (e : Ending) (w' : World) : Prop := ∃ v, e = .returned v ∧ SeensAt w' (· < w'.heap.size) v L ∧ Below w.heap.size w w'
set_option maxRecDepth 100000 in
set_option maxHeartbeats 1000000 in
theorem q_CloneSe (v : Value) (L : List SeenS) (w : World) (hv : SeensAt w (· < w.heap.size) v L) (hl : L.length ≤ 1000000) :
    Calls Tryz.prog 50 #[v] w (SeensE L w) := by
  obtain ⟨i0, hi, hz0, hz1, hz2⟩ := info_parts infoSe
  obtain ⟨A, n, c, rfl, -⟩ := id hv
  obtain ⟨us, vs, hrd, hus, hn, hnc, hA⟩ := hv.reads (fun b hb => hb)
  have n1 : n ≤ 1000000 := by omega
  have HRD := Lib.hid hrd
  have HUS := Lib.hid hus
  have HN := Lib.hid hn
  rcases A with _ | ad
  · have h0 : n = 0 := by
      rcases Nat.eq_zero_or_pos n with h | h
      · exact h
      · obtain ⟨b, off, h, -⟩ := hA h; cases h
    subst h0
    have hL : L = [] := List.eq_nil_of_length_eq_zero (by omega)
    have HL := Lib.hid hL
    have q41 := fun (W : World) => Lib.run_eql_slice_nil (P := Tryz.prog) W 40 39 none 0 c 0 0 Tryz.underlying40
    clear hv hrd hus hn hA hL
    go_enter Tryz.func50, Tryz.ntmps50
    go_wp2_with fail
    go_ret
    exact ⟨_, rfl, by rw [HL.out]; exact SeensAt.none_ _ _ _, Below.refl _ _⟩
  · have hone : ∀ u ∈ seeC L us vs, u.oneCell' = true := by
      intro u hu
      obtain ⟨j, hj, rfl⟩ := List.getElem_of_mem hu
      have hjl : j < 7 * L.length := by rw [seeC_len] at hj; omega
      have hg := seeC_get L us vs j hjl
      rw [List.getElem?_eq_getElem hj] at hg
      injection hg with hg
      rw [hg]
      obtain ⟨k, r, hr, rfl⟩ : ∃ k r, r < 7 ∧ j = k * 7 + r := ⟨j / 7, j % 7, Nat.mod_lt _ (by omega), by omega⟩
      obtain ⟨v0, v1, v2, v3, v4, v5, v6⟩ := seeV_at L us vs k
      obtain ⟨⟨A1, n1', k1, e1, -⟩, ⟨A2, n2', k2, e2, -⟩⟩ := HUS.out k (by have := HN.out; omega)
      rcases (show r = 0 ∨ r = 1 ∨ r = 2 ∨ r = 3 ∨ r = 4 ∨ r = 5 ∨ r = 6 by omega) with rfl | rfl | rfl | rfl | rfl | rfl | rfl
      · rw [Nat.add_zero, v0]; rfl
      · rw [v1]; rfl
      · rw [v2]; rfl
      · rw [v3]; rfl
      · rw [v4]; rfl
      · rw [v5, e1]; rfl
      · rw [v6, e2]; rfl
    have HONE := Lib.hid hone
    have q41 := fun (W : World) => Lib.run_eql_slice_nil (P := Tryz.prog) W 40 39 (some ad) n c 0 0 Tryz.underlying40
    clear hv hrd hus hn hone hA hl
    go_enter Tryz.func50, Tryz.ntmps50
    go_wp2_with (at_builtin; refine wpList_append_any _ rfl _ _ 40 rfl w.heap.size 39 i0 (.agg #[.int .i64 0, .int .i64 0, .int .i64 0, .int .i64 0, .int .i64 0, .slice none 0 0, .slice none 0 0]) 7 88 Tryz.underlying40 hi hz0 hz1 hz2 rfl (by decide) (.slice (some ⟨w.heap.size, 0, none⟩) 0 0) 0 [] rfl (World.ownsRow_lit w #[] 0 (Nat.le_refl _) (by simp only [maxLen]; omega) rfl) w.heap.size (some ad) n c (seeC L us vs) rfl (HRD.out.alloc (Nat.le_refl _) _) HONE.out (by simp only [maxLen]; omega) (by omega) (by simp) ?_)
    intro v' w3 hown' hgrow hloc
    have hg0 : w.grownBy w3 (some w.heap.size) := ⟨hgrow.os, hgrow.tape, hgrow.output, Nat.le_trans (by simp) hgrow.size, fun i hi hn => (hgrow.block i (by simp; omega) (by simpa [Value.ownBlock] using hn)).trans (Below.heap_alloc w _ i hi)⟩
    have hbl := (Below.refl w.heap.size w).grown hg0 (Nat.le_refl _) (fun g hg => by injection hg with hg; omega)
    have HO := Lib.hid hown'
    have HB := Lib.hid hbl
    clear hown' hgrow hloc hg0 hbl
    go_wp2_with fail
    go_ret
    have ho := HO.out
    exact ⟨_, rfl, SeensAt.of_own ho HN.out (fun k hk => ⟨(HUS.out k hk).1.up HB.out, (HUS.out k hk).2.up HB.out⟩), HB.out⟩
set_option maxRecDepth 100000 in
set_option maxHeartbeats 400000 in
/-- The entries that stand, where none is withdrawn. -/
theorem q_standingN (vH vE vO vT : Value) (L : List SeenS) (w : World) (hv : SeensAt w (· < w.heap.size) vE L) (hl : L.length ≤ 1000000) (hn : ∀ k, k < L.length → (seeL L k).st ≠ 2) :
    Calls Tryz.prog 27 #[.agg #[vH, vE, vO, vT]] w (SeensE L w) := by
  have hb0 : Below w.heap.size w (w.alloc (.cells #[vH, vE, vO, vT] 44)) := (Below.refl _ w).alloc (Nat.le_refl _) _
  obtain ⟨A, n, c, rfl, -⟩ := id hv
  have c1 : (w.alloc (.cells #[vH, .slice A n c, vO, vT] 44)).cell? ⟨w.heap.size, 1, none⟩ = some (.slice A n c) := by rw [World.cell?_alloc_new]; rfl
  have HC := Lib.hid (q_CloneSe (.slice A n c) L _ (hv.up hb0) hl)
  have HD := Lib.hid (fun (A : Option Addr) (n c : Nat) (W : World) (h : SeensAt W (· < W.heap.size) (.slice A n c) L) => q_DeleteN A n c L W h hl hn)
  have HB := Lib.hid hb0
  clear hb0 hv hl hn
  go_enter Tryz.func27, Tryz.ntmps27
  go_wp2_with fail
  refine HC.out.mono ?_
  rintro e w1 ⟨v1, rfl, hs1, hb1⟩
  have HB1 := Lib.hid (HB.out.trans (hb1.mono HB.out.size))
  have HS1 := Lib.hid hs1
  obtain ⟨A1, n1, k1, rfl, -⟩ := id hs1
  clear hb1 hs1
  go_wp2_with fail
  refine (HD.out A1 n1 k1 _ HS1.out).mono ?_
  rintro e w2 ⟨rfl, hb2⟩
  have HS2 := Lib.hid (HS1.out.up hb2)
  have HB2 := Lib.hid (HB1.out.trans (hb2.mono HB1.out.size))
  clear hb2
  go_wp2_with fail
  go_ret
  exact ⟨_, rfl, HS2.out, HB2.out⟩
end Go.Proofs.YtgeahbmaeaoeeaaGreatDoor
namespace Go.Proofs.YtgeahbmaeaoeeaaGreatDoor
open Go.RowKit Num

/-- What belongs to each good plan. -/
structure PlanP (p need hold : Nat) : Prop where
  prm : Prm p
  le : p ≤ 1073741824
  n1 : 1 ≤ need
  n2 : need ≤ hold
  n3 : hold ≤ 16
  n4 : hold < p
set_option maxRecDepth 100000 in
set_option maxHeartbeats 400000 in
theorem v_Knows (p need hold : Nat) (Ah Ae Ao At : Option Addr) (nh ch ne ce no co nt ct : Nat) (w : World) (b : Bool) (hb : decide (need ≤ nh) = b) :
    Calls Tryz.prog 48 #[.agg #[.int .i64 (p : Int), .int .i64 (need : Int), .int .i64 (hold : Int)], .agg #[.slice Ah nh ch, .slice Ae ne ce, .slice Ao no co, .slice At nt ct]] w (BoolBelow b w) := by
  have HB := Lib.hid (((Below.refl w.heap.size w).alloc (Nat.le_refl _) (.cells #[.int .i64 (p : Int), .int .i64 (need : Int), .int .i64 (hold : Int)] 29)).alloc (by simp) (.cells #[.slice Ah nh ch, .slice Ae ne ce, .slice Ao no co, .slice At nt ct] 44))
  have h1 : decide ((need : Int) ≤ (nh : Int)) = b := by rw [← hb]; exact decide_eq_decide.2 (by omega)
  have HH := Lib.hid h1
  clear hb h1
  go_enter Tryz.func48, Tryz.ntmps48
  go_wp2_with fail
  go_ret
  refine ⟨ret_bool ?_, HB.out⟩
  have := HH.out
  first | exact this | (rw [← this]; exact decide_eq_decide.2 (by omega))
set_option maxRecDepth 100000 in
set_option maxHeartbeats 1000000 in
theorem q_belowT (p need hold : Nat) (Ah Ae Ao At : Option Addr) (nh ch ne ce no co nt ct : Nat) (H : List Int) (E : List SeenS) (w : World) (hw : BasesOk w) (hp : PlanP p need hold)
    (hH : IntsAt w (· < w.heap.size) (.slice Ah nh ch) H) (hE : SeensAt w (· < w.heap.size) (.slice Ae ne ce) E) (hlh : H.length ≤ 1000000) (hle : E.length ≤ 1000000) (hg : GoodV p hold H E) (z : Int) (hz : (need ≤ H.length ∧ z = 3) ∨ (H.length < need ∧ z = 0)) :
    Calls Tryz.prog 26 #[.agg #[.int .i64 (p : Int), .int .i64 (need : Int), .int .i64 (hold : Int)], .agg #[.slice Ah nh ch, .slice Ae ne ce, .slice Ao no co, .slice At nt ct]] w (IntBelowM z w) := by
  have hb0 := ((Below.refl w.heap.size w).alloc (Nat.le_refl _) (.cells #[.int .i64 (p : Int), .int .i64 (need : Int), .int .i64 (hold : Int)] 29)).alloc (by simp) (.cells #[.slice Ah nh ch, .slice Ae ne ce, .slice Ao no co, .slice At nt ct] 44)
  have hpb := (Blk.new w 29 #[.int .i64 (p : Int), .int .i64 (need : Int), .int .i64 (hold : Int)]).alloc (.cells #[.slice Ah nh ch, .slice Ae ne ce, .slice Ao no co, .slice At nt ct] 44)
  have hvb := Blk.new (w.alloc (.cells #[.int .i64 (p : Int), .int .i64 (need : Int), .int .i64 (hold : Int)] 29)) 44 #[.slice Ah nh ch, .slice Ae ne ce, .slice Ao no co, .slice At nt ct]
  rw [World.size_alloc] at hvb
  have hnh : nh = H.length := by obtain ⟨A, n, c, he, hn, -⟩ := hH; injection he with e1 e2 e3; omega
  have hck := v_CheckT p need hold (.slice Ah nh ch) (.slice Ae ne ce) Ao At no co nt ct H E _ (hw.below hb0) hp.prm hp.le hp.n1 hp.n2 hp.n3 hp.n4 (hH.up hb0) (hE.up hb0) hlh hle hg
  have hkn : ∀ W, Calls Tryz.prog 48 #[.agg #[.int .i64 (p : Int), .int .i64 (need : Int), .int .i64 (hold : Int)], .agg #[.slice Ah nh ch, .slice Ae ne ce, .slice Ao no co, .slice At nt ct]] W (BoolBelow (decide (need ≤ H.length)) W) := fun W => v_Knows p need hold Ah Ae Ao At nh ch ne ce no co nt ct W _ (by rw [hnh])
  have HCK := Lib.hid hck
  have HKN := Lib.hid hkn
  have HB0 := Lib.hid hb0
  have HPB := Lib.hid hpb
  have HVB := Lib.hid hvb
  have p0 := (hpb.cell 0).trans (show _ = some (Value.int .i64 (p : Int)) from rfl)
  have p1 := (hpb.cell 1).trans (show _ = some (Value.int .i64 (need : Int)) from rfl)
  have p2 := (hpb.cell 2).trans (show _ = some (Value.int .i64 (hold : Int)) from rfl)
  have y0 := (hvb.cell 0).trans (show _ = some (Value.slice Ah nh ch) from rfl)
  have y1 := (hvb.cell 1).trans (show _ = some (Value.slice Ae ne ce) from rfl)
  have y2 := (hvb.cell 2).trans (show _ = some (Value.slice Ao no co) from rfl)
  have y3 := (hvb.cell 3).trans (show _ = some (Value.slice At nt ct) from rfl)
  clear hck hkn hb0 hpb hvb hw hH hE hg hnh
  go_enter Tryz.func26, Tryz.ntmps26
  go_wp2_with fail
  generalize ((w.alloc (.cells #[.int .i64 (p : Int), .int .i64 (need : Int), .int .i64 (hold : Int)] 29)).alloc (.cells #[.slice Ah nh ch, .slice Ae ne ce, .slice Ao no co, .slice At nt ct] 44)) = w0 at *
  refine HCK.out.mono ?_
  rintro e w1 ⟨rfl, hb1⟩
  have HB1 := Lib.hid (HB0.out.trans (hb1.mono HB0.out.size))
  have hpb1 := HPB.out.below hb1 HPB.out.lt
  have hvb1 := HVB.out.below hb1 HVB.out.lt
  clear p0 p1 p2 y0 y1 y2 y3
  have p0 := (hpb1.cell 0).trans (show _ = some (Value.int .i64 (p : Int)) from rfl)
  have p1 := (hpb1.cell 1).trans (show _ = some (Value.int .i64 (need : Int)) from rfl)
  have p2 := (hpb1.cell 2).trans (show _ = some (Value.int .i64 (hold : Int)) from rfl)
  have y0 := (hvb1.cell 0).trans (show _ = some (Value.slice Ah nh ch) from rfl)
  have y1 := (hvb1.cell 1).trans (show _ = some (Value.slice Ae ne ce) from rfl)
  have y2 := (hvb1.cell 2).trans (show _ = some (Value.slice Ao no co) from rfl)
  have y3 := (hvb1.cell 3).trans (show _ = some (Value.slice At nt ct) from rfl)
  clear hb1 hpb1 hvb1
  rcases hz with ⟨h3, rfl⟩ | ⟨h3, rfl⟩
  · have hk : decide (need ≤ H.length) = true := decide_eq_true h3
    rw [hk] at HKN
    clear hk h3
    go_wp2_with fail
    refine (HKN.out _).mono ?_
    rintro e w2 ⟨rfl, hb2⟩
    have HB2 := Lib.hid (HB1.out.trans (hb2.mono HB1.out.size))
    clear hb2
    go_wp2_with fail
    go_ret
    exact ⟨rfl, HB2.out⟩
  · have hk : decide (need ≤ H.length) = false := decide_eq_false (by omega)
    rw [hk] at HKN
    clear hk h3
    go_wp2_with fail
    refine (HKN.out _).mono ?_
    rintro e w2 ⟨rfl, hb2⟩
    have HB2 := Lib.hid (HB1.out.trans (hb2.mono HB1.out.size))
    clear hb2
    go_wp2_with fail
    go_ret
    exact ⟨rfl, HB2.out⟩
/-- How many values the entries have. -/
def valN (p : Nat) (E : List SeenS) : Nat → Nat
  | 0 => 0
  | k + 1 => valN p E k + (cntG p (seeL E k).len.toNat + 1)
theorem valN_le (p : Nat) (E : List SeenS) (h : ∀ k, k < E.length → cntG p (seeL E k).len.toNat ≤ 2048) : ∀ k, k ≤ E.length → valN p E k ≤ k * 2049
  | 0, _ => Nat.zero_le _
  | k + 1, hk => by
    have h1 := valN_le p E h k (by omega)
    have h2 := h k (by omega)
    show valN p E k + (cntG p (seeL E k).len.toNat + 1) ≤ (k + 1) * 2049
    omega
/-- Ways: below the threshold, where no entry is withdrawn. -/
def WaysE (n : Nat) (z : Int) (w : World) (e : Ending) (w' : World) : Prop := e = .returned (.tuple #[.int .i64 (n : Int), .int .i64 z]) ∧ Below w.heap.size w w'
set_option maxRecDepth 100000 in
set_option maxHeartbeats 2000000 in
theorem q_WaysT (p need hold : Nat) (Ah Ae Ao At : Option Addr) (nh ch ne ce no co nt ct : Nat) (H : List Int) (E : List SeenS) (w : World) (hw : BasesOk w) (hp : PlanP p need hold)
    (hH : IntsAt w (· < w.heap.size) (.slice Ah nh ch) H) (hE : SeensAt w (· < w.heap.size) (.slice Ae ne ce) E) (hlh : H.length < need) (hle : E.length ≤ 10000) (hg : GoodV p hold H E) (hn2 : ∀ k, k < E.length → (seeL E k).st ≠ 2) :
    Calls Tryz.prog 12 #[.agg #[.int .i64 (p : Int), .int .i64 (need : Int), .int .i64 (hold : Int)], .agg #[.slice Ah nh ch, .slice Ae ne ce, .slice Ao no co, .slice At nt ct]] w (WaysE (pw 1000003 p ((need - 1 - H.length) * valN p E E.length)) 0 w) := by
  have hn16 := hp.n2
  have hn17 := hp.n3
  have hb0 := ((Below.refl w.heap.size w).alloc (Nat.le_refl _) (.cells #[.int .i64 (p : Int), .int .i64 (need : Int), .int .i64 (hold : Int)] 29)).alloc (by simp) (.cells #[.slice Ah nh ch, .slice Ae ne ce, .slice Ao no co, .slice At nt ct] 44)
  have hpb := (Blk.new w 29 #[.int .i64 (p : Int), .int .i64 (need : Int), .int .i64 (hold : Int)]).alloc (.cells #[.slice Ah nh ch, .slice Ae ne ce, .slice Ao no co, .slice At nt ct] 44)
  have hvb := Blk.new (w.alloc (.cells #[.int .i64 (p : Int), .int .i64 (need : Int), .int .i64 (hold : Int)] 29)) 44 #[.slice Ah nh ch, .slice Ae ne ce, .slice Ao no co, .slice At nt ct]
  rw [World.size_alloc] at hvb
  have hnh : nh = H.length := by obtain ⟨A, n, c, he, hn, -⟩ := hH; injection he with e1 e2 e3; omega
  have hbe := q_belowT p need hold Ah Ae Ao At nh ch ne ce no co nt ct H E _ (hw.below hb0) hp (hH.up hb0) (hE.up hb0) (by omega) (by omega) hg 0 (.inr ⟨hlh, rfl⟩)
  have hst : ∀ W, Below w.heap.size w W → Calls Tryz.prog 27 #[.agg #[.slice Ah nh ch, .slice Ae ne ce, .slice Ao no co, .slice At nt ct]] W (SeensE E W) := fun W hW => q_standingN _ _ _ _ E W (hE.up hW) (by omega) hn2
  have hct : ∀ W k, k < E.length → Calls Tryz.prog 28 #[.int .i64 (p : Int), .int .i64 (seeL E k).len] W (IntBelowM ((cntG p (seeL E k).len.toNat : Nat) : Int) W) := fun W k hk => by
    obtain ⟨e1, e2, e3, -⟩ := hg.prop k hk
    have := p_CountG p (seeL E k).len.toNat W hp.le (by omega)
    rw [← e1] at this; exact this
  have hvl := valN_le p E (fun k hk => (hg.prop k hk).2.2.1)
  have hvb1 := hvl E.length (Nat.le_refl _)
  have hpow : ∀ W, Calls Tryz.prog 29 #[.int .i64 (p : Int), .int .i64 (((need - 1 - nh) * valN p E E.length : Nat) : Int)] W fun r w' => r = .returned (.int .i64 (pw 1000003 p ((need - 1 - nh) * valN p E E.length) : Int)) ∧ W = w' := fun W => q_power p _ W (by have := hp.le; omega) (by
    have : (need - 1 - nh) * valN p E E.length ≤ 16 * (10000 * 2049) := Nat.mul_le_mul (by omega) (by omega)
    omega)
  have hmul : ((need : Int) - 1 - (nh : Int)) * ((valN p E E.length : Nat) : Int) = (((need - 1 - nh) * valN p E E.length : Nat) : Int) := by
    rw [Int.natCast_mul]; congr 1; omega
  have hmb : (need - 1 - nh) * valN p E E.length ≤ 16 * (10000 * 2049) := Nat.mul_le_mul (by omega) (by omega)
  have HBE := Lib.hid hbe
  have HST := Lib.hid hst
  have HCT := Lib.hid hct
  have HPW := Lib.hid hpow
  have HVL := Lib.hid hvl
  have HB0 := Lib.hid hb0
  have HPB := Lib.hid hpb
  have HVB := Lib.hid hvb
  have HMU := Lib.hid hmul
  have HNH := Lib.hid hnh
  have p0 := (hpb.cell 0).trans (show _ = some (Value.int .i64 (p : Int)) from rfl)
  have p1 := (hpb.cell 1).trans (show _ = some (Value.int .i64 (need : Int)) from rfl)
  have p2 := (hpb.cell 2).trans (show _ = some (Value.int .i64 (hold : Int)) from rfl)
  have y0 := (hvb.cell 0).trans (show _ = some (Value.slice Ah nh ch) from rfl)
  have y1 := (hvb.cell 1).trans (show _ = some (Value.slice Ae ne ce) from rfl)
  have y2 := (hvb.cell 2).trans (show _ = some (Value.slice Ao no co) from rfl)
  have y3 := (hvb.cell 3).trans (show _ = some (Value.slice At nt ct) from rfl)
  rw [← hnh] at hlh ⊢
  have hle' := hle
  clear hbe hst hct hpow hvl hb0 hpb hvb hw hH hE hg hnh hn2 hvb1 hmul
  go_enter Tryz.func12, Tryz.ntmps12
  go_wp2_with fail
  generalize ((w.alloc (.cells #[.int .i64 (p : Int), .int .i64 (need : Int), .int .i64 (hold : Int)] 29)).alloc (.cells #[.slice Ah nh ch, .slice Ae ne ce, .slice Ao no co, .slice At nt ct] 44)) = w0 at *
  refine HBE.out.mono ?_
  rintro e w1 ⟨rfl, hb1⟩
  have HB1 := Lib.hid (HB0.out.trans (hb1.mono HB0.out.size))
  have hpb1 := HPB.out.below hb1 HPB.out.lt
  have hvb1 := HVB.out.below hb1 HVB.out.lt
  clear p0 p1 p2 y0 y1 y2 y3
  have y0 := (hvb1.cell 0).trans (show _ = some (Value.slice Ah nh ch) from rfl)
  have y1 := (hvb1.cell 1).trans (show _ = some (Value.slice Ae ne ce) from rfl)
  have y2 := (hvb1.cell 2).trans (show _ = some (Value.slice Ao no co) from rfl)
  have y3 := (hvb1.cell 3).trans (show _ = some (Value.slice At nt ct) from rfl)
  have HPB1 := Lib.hid hpb1
  have HVB1 := Lib.hid hvb1
  clear hb1 hpb1 hvb1 HPB HVB HBE
  go_wp2_with fail
  refine (HST.out _ HB1.out).mono ?_
  rintro e w2 ⟨vs, rfl, hs2, hb2⟩
  have HB2 := Lib.hid (HB1.out.trans (hb2.mono HB1.out.size))
  have HPB2 := Lib.hid (HPB1.out.below hb2 HPB1.out.lt)
  have HVB2 := Lib.hid (HVB1.out.below hb2 HVB1.out.lt)
  obtain ⟨A, n, c, rfl, hn, hnc, hA⟩ := id hs2
  have HA := Lib.hid hA
  have HN := Lib.hid hn
  have n1 : n ≤ 10000 := by omega
  clear hs2 hb2 hA hn HPB1 HVB1 y0 y1 y2 y3
  go_wp2_with fail
  go_loopw [7, 19] (fun x t wr => ∃ i : Nat, i ≤ n ∧ t = .int .i64 (i : Int) ∧ x = .int .i64 ((valN p E i : Nat) : Int) ∧ Below w2.heap.size w2 wr) (fun _ t _ => n - (intOf t).toNat)
  case atStart => exact ⟨0, by omega, rfl, rfl, Below.refl _ _⟩
  case round =>
    obtain ⟨i, hi, rfl, rfl, hbr⟩ := hrel
    rename World => wr
    have HBR := Lib.hid hbr
    have hsz := hbr.size
    have hvi : valN p E i ≤ i * 2049 := HVL.out i (by rw [← HN.out]; exact hi)
    clear hbr
    by_cases hlt : i < n
    · obtain ⟨b, off, rfl, hSb, hcl⟩ := HA.out (by omega)
      obtain ⟨x, y, hs⟩ := hcl i hlt
      have hs2 := (hs.keep (HBR.out.block b hSb) (fun g hg => HBR.out.block g hg))
      obtain ⟨c0, c1, c2, c3, c4, c5, c6, ⟨A1, n1', k1, rfl, -⟩, ⟨A2, n2', k2, rfl, -⟩⟩ := hs2
      have hco := fun W => HCT.out W i (by rw [← HN.out]; exact hlt)
      have hvn : valN p E (i + 1) = valN p E i + (cntG p (seeL E i).len.toNat + 1) := rfl
      have hvi2 : valN p E (i + 1) ≤ (i + 1) * 2049 := HVL.out (i + 1) (by rw [← HN.out]; exact hlt)
      obtain ⟨q, hq⟩ : ∃ q, cntG p (seeL E i).len.toNat = q := ⟨_, rfl⟩
      obtain ⟨m, hm⟩ : ∃ m, valN p E i = m := ⟨_, rfl⟩
      obtain ⟨m', hm'⟩ : ∃ m', valN p E (i + 1) = m' := ⟨_, rfl⟩
      rw [hq] at hco hvn
      rw [hm, hm'] at hvn
      rw [hm] at hvi
      rw [hm'] at hvi2
      rw [hm]
      obtain ⟨s, hse⟩ : ∃ s, seeL E i = s := ⟨_, rfl⟩
      rw [hse] at c0 c1 c2 c3 c4 hco
      generalize s.num = z0 at *
      generalize s.time = z1 at *
      generalize s.st = z2 at *
      generalize s.len = z3 at *
      generalize s.ep = z4 at *
      have HCO := Lib.hid hco
      have HM := Lib.hid hm'
      have hq2 : q ≤ 100000000 := by omega
      have hm2 : m ≤ 100000000 := by omega
      have HVN := Lib.hid hvn
      have hpr := HPB2.out.below HBR.out HPB2.out.lt
      have hbx : Below wr.heap.size wr (wr.alloc (.cells #[.int .i64 z0, .int .i64 z1, .int .i64 z2, .int .i64 z3, .int .i64 z4, .slice A1 n1' k1, .slice A2 n2' k2] 39)) := (Below.refl _ _).alloc (Nat.le_refl _) _
      have p0 : ∀ o, (wr.alloc o).cell? ⟨w.heap.size, 0, none⟩ = some (.int .i64 (p : Int)) := fun o => ((hpr.alloc o).cell 0).trans rfl
      have HX := Lib.hid (HBR.out.trans (hbx.mono hsz))
      have zi : (i : Int) < (n : Int) := by omega
      have zi0 : (0 : Int) ≤ (i : Int) := by omega
      clear hco hm hm' hvn hs hcl hse hpr hbx hq hvi hvi2
      go_wp2_with fail
      refine (HCO.out _).mono ?_
      rintro e w3 ⟨rfl, hb3⟩
      have HB3 := Lib.hid (HX.out.trans (hb3.mono HX.out.size))
      clear hb3
      go_wp2_with fail
      go_roundw
      case measure => simp [intOf]; omega
      case rel => exact ⟨i + 1, by omega, by go_num, (by rw [HM.out, HVN.out]; go_num), HB3.out⟩
    · obtain rfl : i = n := by omega
      have hpr := HPB2.out.below HBR.out HPB2.out.lt
      have hvr := HVB2.out.below HBR.out HVB2.out.lt
      have p0 := (hpr.cell 0).trans (show _ = some (Value.int .i64 (p : Int)) from rfl)
      have p1 := (hpr.cell 1).trans (show _ = some (Value.int .i64 (need : Int)) from rfl)
      have y0 := (hvr.cell 0).trans (show _ = some (Value.slice Ah nh ch) from rfl)
      have zi : ¬ (i : Int) < (i : Int) := by omega
      have hmu := HMU.out
      have hpo := HPW.out
      obtain ⟨pv, hpv0⟩ : ∃ pv, pw 1000003 p ((need - 1 - nh) * valN p E E.length) = pv := ⟨_, rfl⟩
      have HPV := Lib.hid hpv0
      rw [hpv0] at hpo
      clear hpv0
      rw [← HN.out] at hmu hpo
      rw [← HN.out] at hmb
      generalize valN p E i = m at *
      generalize (need - 1 - nh) * m = e at *
      have HPO := Lib.hid hpo
      have HB4 := Lib.hid (HB2.out.trans (HBR.out.mono HB2.out.size))
      have w1' : IntKind.i64.wrap ((need : Int) - 1) = (need : Int) - 1 := wraps_i64_63 _ (by omega) (by omega)
      have w2' : IntKind.i64.wrap ((need : Int) - 1 - (nh : Int)) = (need : Int) - 1 - (nh : Int) := wraps_i64_63 _ (by omega) (by omega)
      have w3' : IntKind.i64.wrap (((need : Int) - 1 - (nh : Int)) * (m : Int)) = (e : Int) := by rw [hmu]; exact wraps_i64_63 _ (by omega) (by omega)
      clear hpo hpr hvr hmu
      go_wp2_with fail
      refine (HPO.out _).mono ?_
      rintro e w5 ⟨rfl, rfl⟩
      go_wp2_with fail
      go_ret2
      exact ⟨by rw [HPV.out]; rfl, HB4.out⟩
end Go.Proofs.YtgeahbmaeaoeeaaGreatDoor

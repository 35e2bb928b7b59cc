/- The law on all polynomials of the field of 5. -/
import Derived.Test.YtjfphobfikadlaaDoorCoOne
import Derived.Test.YtjfphobfikadlaaDoorCoOneG
import Derived.Test.YtjfphobfikadlaaDoorCoAwk
import Derived.Test.YtjfphobfikadlaaDoorKitPlan
set_option linter.unusedVariables false
set_option linter.unusedSimpArgs false
namespace Go.Proofs.YtjfphobfikadlaaDoor
open Go.RowKit Num

theorem prm5 : Prm 5 := by
  refine ⟨by decide, fun d h1 => ?_⟩
  have h2 : d ≤ 5 := Nat.le_of_dvd (by decide) h1
  have : ∀ d : Nat, d ≤ 5 → d ∣ 5 → d = 1 ∨ d = 5 := by decide
  exact this d h2 h1
def pol5 (c : Nat) : List Int := [((c / 5 : Nat) : Int), ((c % 5 : Nat) : Int)]
def good5 (X Y : List Int) (n k c : Nat) : Bool := decide (n ≤ agr 5 (pol5 c) (fOf X) (fOf Y) n + k)
/-- The polynomials among the first ones that have so many of the points. -/
def found5 (X Y : List Int) (n k m : Nat) : List (List Int) := ((List.range m).filter (good5 X Y n k)).map pol5
theorem found5_yes {X Y : List Int} {n k m : Nat} (h : good5 X Y n k m = true) : found5 X Y n k (m + 1) = found5 X Y n k m ++ [pol5 m] := by
  unfold found5
  rw [List.range_succ, List.filter_append, List.map_append]
  congr 1
  rw [List.filter_cons, if_pos h]; rfl
theorem found5_no {X Y : List Int} {n k m : Nat} (h : good5 X Y n k m = false) : found5 X Y n k (m + 1) = found5 X Y n k m := by
  unfold found5
  rw [List.range_succ, List.filter_append, List.map_append, List.filter_cons, if_neg (by rw [h]; simp)]
  simp
theorem found5_len (X Y : List Int) (n k m : Nat) : (found5 X Y n k m).length ≤ m := by
  unfold found5
  rw [List.length_map]
  exact Nat.le_trans (List.length_filter_le _ _) (by simp)
theorem agr_ext (p : Int) (l l' : List Int) (xs ys : Nat → Int) : ∀ n, (∀ i, i < n → ev l (xs i) = ev l' (xs i)) → agr p l xs ys n = agr p l' xs ys n := by
  intro n
  induction n with
  | zero => intro _; rfl
  | succ n ih =>
    intro h
    show agr p l xs ys n + _ = agr p l' xs ys n + _
    rw [ih fun i hi => h i (by omega), h n (by omega)]
theorem pol5_bd (c : Nat) (hc : c < 25) : ∀ a ∈ pol5 c, 0 ≤ a ∧ a < ((5 : Nat) : Int) := by
  intro a ha
  simp only [pol5, List.mem_cons, List.not_mem_nil, or_false] at ha
  rcases ha with rfl | rfl <;> omega
theorem good5_one {X Y : List Int} {n k c : Nat} (hc : c < 25) (h : good5 X Y n k c = true) : oneP 5 2 k n X Y (trim (pol5 c)) := by
  refine ⟨can_trim (pol5_bd c hc), ?_, ?_⟩
  · rw [trim_len]; exact degN_le _
  · unfold good5 at h
    have := of_decide_eq_true h
    rw [agr_ext _ (trim (pol5 c)) (pol5 c) _ _ n fun i _ => trim_ev _ _]
    exact this
/-- A polynomial of at most two coefficients. -/
theorem two_coef {F : List Int} (h : F.length ≤ 2) : ∃ a b, F.getD 0 0 = a ∧ F.getD 1 0 = b ∧ ∀ x, ev F x = a + x * b := by
  match F, h with
  | [], _ => exact ⟨0, 0, rfl, rfl, fun x => by simp [ev]⟩
  | [a], _ => exact ⟨a, 0, rfl, rfl, fun x => by simp [ev]⟩
  | [a, b], _ => exact ⟨a, b, rfl, rfl, fun x => by simp [ev]⟩
theorem ev_pol5 (c : Nat) (x : Int) : ev (pol5 c) x = ((c / 5 : Nat) : Int) + x * ((c % 5 : Nat) : Int) := by simp [pol5, ev]
theorem filter_eq (c0 : Nat) : ∀ n, (List.range n).filter (fun c => c == c0) = if c0 < n then [c0] else [] := by
  intro n
  induction n with
  | zero => simp
  | succ n ih =>
    rw [List.range_succ, List.filter_append, ih]
    by_cases h : n = c0
    · subst h; simp
    · have hf : List.filter (fun c => c == c0) [n] = [] := by simp [List.filter_cons, h]
      rw [hf, List.append_nil]
      by_cases h1 : c0 < n
      · rw [if_pos h1, if_pos (by omega)]
      · rw [if_neg h1, if_neg (by omega)]
theorem found5_none {X Y : List Int} {n k : Nat} (h : ∀ F, ¬ oneP 5 2 k n X Y F) : found5 X Y n k 25 = [] := by
  unfold found5
  rw [List.map_eq_nil_iff, List.filter_eq_nil_iff]
  intro c hc hg
  exact h _ (good5_one (List.mem_range.1 hc) hg)
theorem found5_one {X Y F : List Int} {n k : Nat} (hn : 2 + 2 * k ≤ n) (hA : ApartN 5 (fOf X) n) (h : oneP 5 2 k n X Y F) :
    found5 X Y n k 25 = [[F.getD 0 0, F.getD 1 0]] ∧ evH ((5 : Nat) : Int) 0 F = F.getD 0 0 ∧ evH ((5 : Nat) : Int) 1 F = (F.getD 0 0 + F.getD 1 0) % 5 ∧ F.length ≤ 2 ∧ 0 ≤ F.getD 0 0 ∧ F.getD 0 0 < 5 ∧ 0 ≤ F.getD 1 0 ∧ F.getD 1 0 < 5 := by
  obtain ⟨a, b, ha, hb, hev⟩ := two_coef h.2.1
  have ba := getD_bd (p := ((5 : Nat) : Int)) (by decide) h.1.1 0
  have bb := getD_bd (p := ((5 : Nat) : Int)) (by decide) h.1.1 1
  rw [ha] at ba
  rw [hb] at bb
  have key : ∀ c, c < 25 → (good5 X Y n k c = true ↔ c = 5 * a.toNat + b.toNat) := fun c hc => by
    constructor
    · intro hg
      have he := only_one prm5 hn hA (good5_one hc hg).1 h.1 (good5_one hc hg).2.1 h.2.1 (good5_one hc hg).2.2 h.2.2
      have h0 : ∀ x, ev (pol5 c) x = ev F x := fun x => by rw [← trim_ev x (pol5 c), he]
      have e0 := h0 0
      have e1 := h0 1
      rw [ev_pol5, hev] at e0 e1
      omega
    · intro hg
      unfold good5
      refine decide_eq_true ?_
      have := h.2.2
      rw [agr_ext _ (pol5 c) F _ _ n fun i _ => by
        rw [ev_pol5, hev]
        have e1 : ((c / 5 : Nat) : Int) = a := by omega
        have e2 : ((c % 5 : Nat) : Int) = b := by omega
        rw [e1, e2]]
      exact this
  refine ⟨?_, ?_, ?_, h.2.1, by omega, by omega, by omega, by omega⟩
  · unfold found5
    rw [List.filter_congr (q := fun c => c == 5 * a.toNat + b.toNat) fun c hc => ?_]
    · rw [filter_eq, if_pos (by omega), ha, hb]
      show [pol5 _] = _
      unfold pol5
      have e1 : (((5 * a.toNat + b.toNat) / 5 : Nat) : Int) = a := by omega
      have e2 : (((5 * a.toNat + b.toNat) % 5 : Nat) : Int) = b := by omega
      rw [e1, e2]
    · have := key c (List.mem_range.1 hc)
      rw [Bool.eq_iff_iff, this]; simp
  · have e := evH_cg ((5 : Nat) : Int) 0 F
    rw [hev] at e
    have b0 := evH_bd 5 0 (by decide) F
    rw [ha]
    exact Cg.eq (by simpa using e) b0.1 b0.2 (by omega) (by omega)
  · have e := evH_cg ((5 : Nat) : Int) 1 F
    rw [hev] at e
    have b0 := evH_bd 5 1 (by decide) F
    rw [ha, hb]
    refine Cg.eq (e.trans ?_) b0.1 b0.2 (Int.emod_nonneg _ (by decide)) (Int.emod_lt_of_pos _ (by decide))
    rw [Int.one_mul]
    exact (Cg.emod 5 (a + b)).symm
end Go.Proofs.YtjfphobfikadlaaDoor
namespace Go.Proofs.YtjfphobfikadlaaDoor
open Go.RowKit Num

/-- The places. -/
def xsL (k : Nat) : List Int := (List.range k).map Int.ofNat
theorem xsL_len (k : Nat) : (xsL k).length = k := by simp [xsL]
theorem xsL_succ (k : Nat) : xsL (k + 1) = xsL k ++ [(k : Int)] := by simp [xsL, List.range_succ]
theorem xsL_get (k i : Nat) (h : i < k) : (xsL k).getD i 0 = (i : Int) := by
  unfold xsL
  rw [List.getD_eq_getElem?_getD, List.getElem?_map, List.getElem?_range h]; rfl
theorem xsL_in (k : Nat) (h : k ≤ 5) : InF 5 (xsL k) := fun i hi => by
  rw [xsL_len] at hi
  rw [xsL_get k i hi]; omega
theorem xsL_apart (k : Nat) (h : k ≤ 5) : ApartN 5 (fOf (xsL k)) k := by
  intro i j hi hj hne hd
  have e1 : fOf (xsL k) i = (i : Int) := xsL_get k i hi
  have e2 : fOf (xsL k) j = (j : Int) := xsL_get k j hj
  rw [e1, e2] at hd
  have := Int.eq_zero_of_dvd_of_natAbs_lt_natAbs hd (by omega)
  omega
def OnlyPost (m k : Nat) (X Y : List Int) (w : World) (e : Ending) (w' : World) : Prop :=
  Below w.heap.size w w' ∧ ((m < 2 + 2 * k ∧ e = .returned (.tuple #[.slice none 0 0, .int .i64 5])) ∨ (2 + 2 * k ≤ m ∧ ((∃ F v, e = .returned (.tuple #[v, .int .i64 0]) ∧ oneP 5 2 k m X Y F ∧ OwnI w' w.heap.size v F) ∨ (e = .returned (.tuple #[.slice none 0 0, .int .i64 9]) ∧ ∀ F, ¬ oneP 5 2 k m X Y F))))
theorem one5 (vx vy : Value) (m k : Nat) (X Y : List Int) (S T : Nat → Prop) (w : World) (hw : BasesOk w) (lx : X.length = m) (ly : Y.length = m) (m5 : m ≤ 5) (k2 : k ≤ 2) (fx : InF 5 X) (fy : InF 5 Y) (hA : ApartN 5 (fOf X) m)
    (hx : IntsAt w S vx X) (hS : ∀ b, S b → b < w.heap.size) (hy : IntsAt w T vy Y) (hT : ∀ b, T b → b < w.heap.size) :
    Calls Tryd.prog 20 #[.int .i64 5, .int .i64 2, .int .i64 (k : Int), vx, vy] w (OneQ (OnlyPost m k X Y w)) := by
  have hd : ∀ i j, i < X.length → j < i → X.getD j 0 ≠ X.getD i 0 := fun i j hi hj e => by
    have := hA i j (by omega) (by omega) (by omega)
    unfold fOf at this
    rw [e, Int.sub_self] at this
    exact this (Int.dvd_zero _)
  have hin : OneIn 5 2 (k : Int) X Y true := ⟨by omega, by omega, by omega, by omega, fun i hi => fx i hi, fun i hi => fy i hi, rfl, hd⟩
  refine c_One 5 2 (k : Int) true vx vy X Y S T w (OnlyPost m k X Y w) hx hy (by omega) (by omega) ⟨by omega, by omega⟩ ⟨by omega, by omega⟩ (f_Valid 5 w hw prm5 (by decide)) (fun h => absurd hin h) (fun _ h => ⟨Below.refl _ _, .inl ⟨?_, rfl⟩⟩) (fun _ h => ?_)
  · unfold OneEnough at h
    rw [lx] at h
    omega
  · unfold OneEnough at h
    rw [lx] at h
    have := c_one 5 2 k vx vy X Y S T w prm5 (by decide) hx hS hy hT (by omega) (by omega) fx fy (by decide) (by omega) (by rw [lx]; exact hA) (fun i j hi hj hne e => by
      rcases Nat.lt_or_ge i j with h1 | h1
      · exact hd j i hj h1 e
      · exact hd i j hi (by omega) e.symm)
    rw [lx] at this
    refine this.mono ?_
    rintro e w' ⟨hcase, hb⟩
    rcases hcase with ⟨F, v, rfl, ho, hown⟩ | ⟨rfl, hno⟩
    · exact ⟨_, _, rfl, hb, .inr ⟨by omega, .inl ⟨F, v, rfl, ho, hown⟩⟩⟩
    · exact ⟨_, _, rfl, hb, .inr ⟨by omega, .inr ⟨rfl, hno⟩⟩⟩
/-- Two slices do not share a block. -/
def Apt (x y : Value) : Prop := ∀ g, x.ownBlock = some g → y.ownBlock ≠ some g
theorem Apt.symm {x y : Value} (h : Apt x y) : Apt y x := fun g hy hx => h g hx hy
theorem Apt.ne {x y : Value} (h : Apt x y) : y.ownBlock = none ∨ y.ownBlock ≠ x.ownBlock := by
  rcases hy : y.ownBlock with _ | g
  · exact .inl rfl
  · refine .inr fun e => ?_
    exact h g e.symm hy
theorem Apt.grow {x y x' : Value} {N : Nat} (h : Apt x y) (hl : x'.ownBlock = x.ownBlock ∨ x'.ownBlock = some N) (hy : ∀ g, y.ownBlock = some g → g < N) : Apt x' y := by
  intro g hx hyg
  rcases hl with e | e
  · exact h g (e ▸ hx) hyg
  · rw [e] at hx
    injection hx with hx
    have := hy g hyg
    omega
set_option maxRecDepth 100000 in
set_option maxHeartbeats 8000000 in
theorem l_Only (v : Value) (q : Nat) (w : World) (hw : BasesOk w) (A : Option Addr) (n c : Nat) (hv : v = .slice A n c) (hn : n ≤ 9223372036854775807) (ha : n ≤ 500 → ArgL w v) (hq : q ≤ 255) :
    Calls Tryd.prog 6 #[v, .int .u8 (q : Int)] w (BoolBelow true w) := by
  obtain ⟨i0, hin, hz0, hz1, hz2⟩ := info_parts infoI
  subst hv
  by_cases h5 : n ≤ 500
  · have t1 : decide ((n : Int) ≤ 500) = true := decide_eq_true (by omega)
    have ha := ha h5
    have HW := Lib.hid hw
    have HA := Lib.hid ha
    clear hw ha
    go_enter Tryd.func6, Tryd.ntmps6
    go_wp2_with fail
    refine (k_Light A n c _ hn).mono ?_
    rintro e w' ⟨rfl, rfl⟩
    go_wp2_with fail
    refine (k_Roll _ _ HA.out).mono ?_
    rintro e w1 ⟨rfl, hd1, hb1⟩
    have hlt1 := hd1.lt
    obtain ⟨d, hd⟩ : ∃ d, w.heap.size = d := ⟨_, rfl⟩
    rw [hd] at hd1 hb1 hlt1 ⊢
    have HD := Lib.hid hd
    have HD1 := Lib.hid hd1
    have HB1 := Lib.hid hb1
    clear hd hd1 hb1 HA
    go_wp2_with fail
    refine (k_Next d 5 _ HD1.out (by omega) (by omega)).mono ?_
    rintro e w2 ⟨r, hr, rfl, hd2, hg2⟩
    have hb2 : Below d w w2 := HB1.out.grown hg2 (by omega) (fun g hg => by injection hg with hg; omega)
    have HB2 := Lib.hid hb2
    have HD2 := Lib.hid hd2
    have hlt2 := hd2.lt
    obtain ⟨m, hm⟩ : ∃ m : Nat, 1 + r = m := ⟨_, rfl⟩
    have m1 : 1 ≤ m := by omega
    have m5 : m ≤ 5 := by omega
    have hmi : (1 : Int) + (r : Int) = (m : Int) := by omega
    clear hd2 hb2 hg2 HD1 HB1 hm
    go_wp2_with fail
    clear hmi hr
    go_loopw [6, 7, 28] (fun x y t wr => ∃ (k : Nat) (Y : List Int), k ≤ m ∧ t = .int .i64 k ∧ Y.length = k ∧ InF 5 Y ∧ OwnI wr (d + 1) x (xsL k) ∧ OwnI wr (d + 1) y Y ∧ Apt x y ∧ Dc wr d ∧ Below d w wr ∧ d < wr.heap.size) (fun _ _ t _ => m - (Go.RowKit.intOf t).toNat)
    case atStart => exact ⟨0, [], by omega, rfl, rfl, InF.nil 5, OwnI.nil _ _, OwnI.nil _ _, (fun g hg => by simp [Value.ownBlock] at hg), HD2.out, HB2.out, hlt2⟩
    case round =>
      obtain ⟨k, Y, hk, rfl, hY, hYF, hx, hy, hap, hd, hb, hz⟩ := hrel
      have HY := Lib.hid hY
      have HYF := Lib.hid hYF
      have HX := Lib.hid hx
      have HYO := Lib.hid hy
      have HAP := Lib.hid hap
      have HDR := Lib.hid hd
      have HBR := Lib.hid hb
      clear hY hYF hx hy hap hd hb
      by_cases hlt : k < m
      · have qk : (k : Int) < (m : Int) := by omega
        have hx1 : wr.ownsRow (d + 1) 3 1 u6 k ((xsL k).map (Value.int .i64)) := by
          have := HX.out
          unfold OwnI at this
          rwa [xsL_len] at this
        have hy1 : wr.ownsRow (d + 1) 3 1 u7 k (Y.map (Value.int .i64)) := by
          have := HYO.out
          unfold OwnI at this
          rwa [HY.out] at this
        have HX1 := Lib.hid hx1
        have HY1 := Lib.hid hy1
        have hstep := xsL_succ k
        have HST := Lib.hid hstep
        clear hx1 hy1 hstep
        go_wp2_with (at_builtin; refine wpList_append_any _ rfl (.tmp 31) (.tmp 33) _ rfl (d + 1) 3 i0 _ 1 8 Tryd.underlying22 hin hz0 hz1 hz2 rfl (by omega) u6 k _ rfl (HX1.out.alloc _) (wr.heap.size + 1) (some ⟨wr.heap.size, 0, none⟩) 1 1 [.int .i64 (k : Int)] rfl ((ints_one wr (k : Int)).reads (fun b hb => by omega)) (ints_oneCell .i64 [_]) (by unfold maxLen; omega) (by omega) (by simp; omega) ?_)
        intro v3 w3 hown3 hgrow3 hloc3
        have hg3 := grown_past hgrow3
        have hs3 := hg3.size
        have hul : ∀ g, u6.ownBlock = some g → d + 1 ≤ g := fun g hg => (HX1.out.lt g hg).1
        have hull : ∀ g, u7.ownBlock = some g → g < wr.heap.size := fun g hg => (HY1.out.lt g hg).2
        have hy3 := HY1.out.kept hg3 HAP.out.ne
        have hd3 := HDR.out.grown hg3 (fun g hg => by have := hul g hg; omega)
        have hb3 := HBR.out.grown hg3 (by omega) (fun g hg => by have := hul g hg; omega)
        have hap3 : Apt v3 u7 := HAP.out.grow (N := wr.heap.size + 1) hloc3 (fun g hg => by have := hull g hg; omega)
        have HO3 := Lib.hid hown3
        have HY3 := Lib.hid hy3
        have HD3 := Lib.hid hd3
        have HB3 := Lib.hid hb3
        have HAP3 := Lib.hid hap3
        clear hown3 hgrow3 hloc3 hg3 hul hull hy3 hd3 hb3 hap3 HX1 HY1
        go_wp2_with fail
        refine (k_Next d 5 _ HD3.out (by omega) (by omega)).mono ?_
        rintro e w4 ⟨r2, hr2, rfl, hd4, hg4⟩
        have hs4 := hg4.size
        have hx4 := HO3.out.kept hg4 (by
          rcases hv : v3.ownBlock with _ | g
          · exact .inl rfl
          · refine .inr fun e => ?_
            injection e with e
            have := (HO3.out.lt g hv).1
            omega)
        have hy4 := HY3.out.kept hg4 (by
          rcases hv : u7.ownBlock with _ | g
          · exact .inl rfl
          · refine .inr fun e => ?_
            injection e with e
            have := (HY3.out.lt g hv).1
            omega)
        have hb4 := HB3.out.grown hg4 (by omega) (fun g hg => by injection hg; omega)
        have hyF : InF 5 (Y ++ [(r2 : Int)]) := HYF.out.snoc (by omega) (by omega)
        have HX4 := Lib.hid hx4
        have HY4 := Lib.hid hy4
        have HD4 := Lib.hid hd4
        have HB4 := Lib.hid hb4
        have HYF4 := Lib.hid hyF
        clear hx4 hy4 hd4 hb4 hg4 hyF HO3 HY3 HD3 HB3
        go_wp2_with (at_builtin; refine wpList_append_any _ rfl (.tmp 35) (.tmp 38) _ rfl (d + 1) 3 i0 _ 1 8 Tryd.underlying22 hin hz0 hz1 hz2 rfl (by omega) u7 k _ rfl (HY4.out.alloc _) (w4.heap.size + 1) (some ⟨w4.heap.size, 0, none⟩) 1 1 [.int .i64 (r2 : Int)] rfl ((ints_one w4 (r2 : Int)).reads (fun b hb => by omega)) (ints_oneCell .i64 [_]) (by unfold maxLen; omega) (by omega) (by simp; omega) ?_)
        intro v5 w5 hown5 hgrow5 hloc5
        have hg5 := grown_past hgrow5
        have hs5 := hg5.size
        have hul : ∀ g, u7.ownBlock = some g → d + 1 ≤ g := fun g hg => (HY4.out.lt g hg).1
        have hull : ∀ g, v3.ownBlock = some g → g < w4.heap.size := fun g hg => (HX4.out.lt g hg).2
        have hx5 := HX4.out.kept hg5 HAP3.out.symm.ne
        have hd5 := HD4.out.grown hg5 (fun g hg => by have := hul g hg; omega)
        have hb5 := HB4.out.grown hg5 (by omega) (fun g hg => by have := hul g hg; omega)
        have hap5 : Apt v3 v5 := (HAP3.out.symm.grow (N := w4.heap.size + 1) hloc5 (fun g hg => by have := hull g hg; omega)).symm
        have hxo : OwnI w5 (d + 1) v3 (xsL (k + 1)) := by
          unfold OwnI
          rw [HST.out, List.length_append, xsL_len, List.map_append]
          exact hx5
        have hyo : OwnI w5 (d + 1) v5 (Y ++ [(r2 : Int)]) := by
          unfold OwnI
          rw [List.length_append, HY.out, List.map_append]
          exact hown5
        have HXO := Lib.hid hxo
        have HYO5 := Lib.hid hyo
        have HD5 := Lib.hid hd5
        have HB5 := Lib.hid hb5
        have HAP5 := Lib.hid hap5
        clear hown5 hgrow5 hloc5 hg5 hul hull hx5 hd5 hb5 hap5 hxo hyo
        go_wp2_with fail
        go_roundw
        case measure => simp [Go.RowKit.intOf]; omega
        case rel => exact ⟨k + 1, Y ++ [(r2 : Int)], by omega, by go_num, by rw [List.length_append, HY.out]; rfl, HYF4.out, HXO.out, HYO5.out, HAP5.out, HD5.out, HB5.out, by omega⟩
      · have hkm : k = m := by omega
        subst hkm
        rename World => wo
        obtain ⟨kk, hkk⟩ : ∃ kk, q % 3 = kk := ⟨_, rfl⟩
        have hk2 : kk ≤ 2 := by omega
        have hki : (q : Int) % 3 = (kk : Int) := by omega
        have hbw : BasesOk wo := HW.out.below (by have := HBR.out; rw [HD.out]; exact this)
        have hx := HX.out.ints
        have hy := HYO.out.ints
        have hone := one5 _ _ k kk (xsL k) Y _ _ wo hbw (xsL_len k) HY.out m5 hk2 (xsL_in k m5) HYF.out (xsL_apart k m5) hx (fun b hb => hb.2) hy (fun b hb => hb.2)
        have HON := Lib.hid hone
        clear hkk hbw hx hy hone
        go_wp2_with fail
        refine HON.out.mono ?_
        rintro e w3 ⟨hb3, hcase⟩
        have hres : ∃ (vl : Value) (cd : Int), e = .returned (.tuple #[vl, .int .i64 cd]) ∧ ((k < 2 + 2 * kk ∧ cd = 5) ∨ (2 + 2 * kk ≤ k ∧ ((cd = 0 ∧ ∃ F, oneP 5 2 kk k (xsL k) Y F ∧ OwnI w3 wo.heap.size vl F) ∨ (cd = 9 ∧ vl = .slice none 0 0 ∧ ∀ F, ¬ oneP 5 2 kk k (xsL k) Y F)))) := by
          rcases hcase with ⟨h1, rfl⟩ | ⟨h1, ⟨F, v, rfl, h2, h3⟩ | ⟨rfl, h2⟩⟩
          · exact ⟨_, _, rfl, .inl ⟨h1, rfl⟩⟩
          · exact ⟨_, _, rfl, .inr ⟨h1, .inl ⟨rfl, F, h2, h3⟩⟩⟩
          · exact ⟨_, _, rfl, .inr ⟨h1, .inr ⟨rfl, rfl, h2⟩⟩⟩
        obtain ⟨vl, cd, rfl, hinfo⟩ := hres
        have hx3 := HX.out.below hb3
        have hy3 := HYO.out.below hb3
        have hxl := xsL_len k
        obtain ⟨gx, cx, rfl, hcx⟩ := hx3.form.resolve_left (fun h => by have := congrArg List.length h.2; rw [hxl] at this; simp at this; omega)
        obtain ⟨gy, cy, rfl, hcy⟩ := hy3.form.resolve_left (fun h => by have := congrArg List.length h.2; rw [HY.out] at this; simp at this; omega)
        have lgx := hx3.lt.2
        have lgy := hy3.lt.2
        have hxc : ∀ j, j < k → w3.cell? ⟨gx, j, none⟩ = some (.int .i64 ((xsL k).getD j 0)) := fun j hj => hx3.cell j (by omega)
        have hyc : ∀ j, j < k → w3.cell? ⟨gy, j, none⟩ = some (.int .i64 (Y.getD j 0)) := fun j hj => hy3.cell j (by rw [HY.out]; exact hj)
        have hbw3 := HBR.out.trans (hb3.mono (by omega))
        have hyl := HY.out
        rw [hxl, hyl]
        have HXC := Lib.hid hxc
        have HYC := Lib.hid hyc
        have HB3 := Lib.hid hbw3
        have HI := Lib.hid hinfo
        have hz3 := hb3.size
        clear hcase hinfo hx3 hy3 hxl hcx hcy hxc hyc hbw3 hyl hb3 HON HX HYO HAP HDR HBR
        go_wp2_with fail
        go_loopw [13, 51] (fun o t wi => ∃ cc : Nat, cc ≤ 25 ∧ t = .int .i64 (cc : Int) ∧ RowsV wi w3.heap.size o (found5 (xsL k) Y k kk cc) ∧ Below w3.heap.size w3 wi) (fun _ t _ => 25 - (Go.RowKit.intOf t).toNat)
        case atStart => exact ⟨0, by omega, rfl, RowsV.nil _ _, Below.refl _ _⟩
        case round =>
          rename World => wp
          obtain ⟨cc, hcc, rfl, hrow, hbp⟩ := hrel
          have HROW := Lib.hid hrow
          have HBP := Lib.hid hbp
          clear hrow hbp
          by_cases hlt : cc < 25
          · have qc : (cc : Int) < 25 := by omega
            go_wp2_with fail
            go_loopw [15, 56] (fun gd t wr => ∃ j : Nat, j ≤ k ∧ t = .int .i64 (j : Int) ∧ gd = .int .i64 ((agr 5 (pol5 cc) (fOf (xsL k)) (fOf Y) j : Nat) : Int) ∧ wp = wr) (fun _ t _ => k - (Go.RowKit.intOf t).toNat)
            case atStart => exact ⟨0, by omega, rfl, rfl, rfl⟩
            case round =>
              obtain ⟨j, hj, rfl, rfl, rfl⟩ := hrel
              by_cases hlj : j < k
              · have cx := (HBP.out.cell (p := ⟨gx, j, none⟩) lgx).trans (HXC.out j hlj)
                rw [xsL_get k j hlj] at cx
                have cyy := (HBP.out.cell (p := ⟨gy, j, none⟩) lgy).trans (HYC.out j hlj)
                have yb := HYF.out j (by rw [HY.out]; exact hlj)
                have hag : agr 5 (pol5 cc) (fOf (xsL k)) (fOf Y) (j + 1) = agr 5 (pol5 cc) (fOf (xsL k)) (fOf Y) j + (if (((cc / 5 : Nat) : Int) + ((cc % 5 : Nat) : Int) * (j : Int)) % 5 = Y.getD j 0 then 1 else 0) := by
                  show agr 5 (pol5 cc) (fOf (xsL k)) (fOf Y) j + _ = _
                  have e1 : fOf (xsL k) j = (j : Int) := xsL_get k j hlj
                  rw [e1, ev_pol5, Int.mul_comm (j : Int)]; rfl
                obtain ⟨y, hy⟩ : ∃ y, Y.getD j 0 = y := ⟨_, rfl⟩
                obtain ⟨a, ha'⟩ : ∃ a, cc / 5 = a := ⟨_, rfl⟩
                obtain ⟨b, hb'⟩ : ∃ b, cc % 5 = b := ⟨_, rfl⟩
                rw [hy] at cyy yb
                rw [ha', hb', hy] at hag
                have hca : (cc : Int) / 5 = (a : Int) := by omega
                have hcb : (cc : Int) % 5 = (b : Int) := by omega
                have a4 : a ≤ 4 := by omega
                have b4 : b ≤ 4 := by omega
                obtain ⟨bj, hbj⟩ : ∃ bj, b * j = bj := ⟨_, rfl⟩
                have hbj2 : bj ≤ 20 := by rw [← hbj]; exact Nat.le_trans (Nat.mul_le_mul b4 (show j ≤ 5 by omega)) (by decide)
                have hbi : (b : Int) * (j : Int) = (bj : Int) := by rw [← hbj]; exact (Int.natCast_mul b j).symm
                rw [hbi] at hag
                obtain ⟨z, hz'⟩ : ∃ z, ((a : Int) + (bj : Int)) % 5 = z := ⟨_, rfl⟩
                rw [hz'] at hag
                obtain ⟨g, hg⟩ : ∃ g, agr 5 (pol5 cc) (fOf (xsL k)) (fOf Y) j = g := ⟨_, rfl⟩
                have hgl : g ≤ j := by rw [← hg]; exact agr_le _ _ _ _ _
                rw [hg] at hag ⊢
                have HAG := Lib.hid hag
                have qj : (j : Int) < (k : Int) := by omega
                have qj0 : (0 : Int) ≤ (j : Int) := by omega
                clear hag hy ha' hb' hbj hg yb
                by_cases hzy : z = y
                · have t3 : (z == y) = true := by simpa using hzy
                  have hag2 := HAG.out
                  rw [if_pos hzy] at hag2
                  have HAG2 := Lib.hid hag2
                  clear hag2 hzy
                  go_wp2_with fail
                  go_roundw
                  case measure => simp [Go.RowKit.intOf]; omega
                  case rel => exact ⟨j + 1, by omega, by go_num, by rw [HAG2.out]; go_num, by first | rfl | trivial⟩
                · have t3 : (z == y) = false := by simpa using hzy
                  have hag2 := HAG.out
                  rw [if_neg hzy] at hag2
                  have HAG2 := Lib.hid hag2
                  clear hag2 hzy
                  go_wp2_with fail
                  go_roundw
                  case measure => simp [Go.RowKit.intOf]; omega
                  case rel => exact ⟨j + 1, by omega, by go_num, by rw [HAG2.out]; rfl, by first | rfl | trivial⟩
              · have hjk : j = k := by omega
                subst hjk
                have hgd : good5 (xsL j) Y j kk cc = decide (j ≤ agr 5 (pol5 cc) (fOf (xsL j)) (fOf Y) j + kk) := rfl
                obtain ⟨g, hg⟩ : ∃ g, agr 5 (pol5 cc) (fOf (xsL j)) (fOf Y) j = g := ⟨_, rfl⟩
                rw [hg] at hgd ⊢
                have wq : IntKind.i64.wrap ((j : Int) - (kk : Int)) = (j : Int) - (kk : Int) := IntWalk.i64_in _ ⟨by omega, by omega⟩
                have hfl := found5_len (xsL j) Y j kk cc
                clear hg
                by_cases hgo : j ≤ g + kk
                · have t3 : decide ((j : Int) - (kk : Int) ≤ (g : Int)) = true := decide_eq_true (by omega)
                  have hyes := found5_yes (X := xsL j) (Y := Y) (n := j) (k := kk) (m := cc) (hgd.trans (decide_eq_true hgo))
                  have HYES := Lib.hid hyes
                  obtain ⟨us, hr1, hr2⟩ := HROW.out
                  obtain ⟨M, hM⟩ : ∃ M, found5 (xsL j) Y j kk cc = M := ⟨_, rfl⟩
                  rw [hM] at hr1 hr2 hyes hfl
                  have HYE := Lib.hid hyes
                  have HR1 := Lib.hid hr1
                  have HR2 := Lib.hid hr2
                  obtain ⟨a, ha'⟩ : ∃ a, cc / 5 = a := ⟨_, rfl⟩
                  obtain ⟨b, hb'⟩ : ∃ b, cc % 5 = b := ⟨_, rfl⟩
                  have hca : (cc : Int) / 5 = (a : Int) := by omega
                  have hcb : (cc : Int) % 5 = (b : Int) := by omega
                  have hpol : pol5 cc = [(a : Int), (b : Int)] := by unfold pol5; rw [ha', hb']
                  have HPOL := Lib.hid hpol
                  have hbz := HBP.out.size
                  clear hgd hgo hyes HYES hM hr1 hr2 ha' hb' hpol
                  obtain ⟨r0, hri, rz0, rz1, rz2⟩ := info_parts infoR
                  go_wp2_with (at_builtin; refine wpList_append_own _ rfl _ _ 48 rfl w3.heap.size 22 r0 (.slice none 0 0) 1 24 Tryd.underlying48 hri rz0 rz1 rz2 rfl (by decide) _ _ _ rfl ((HR1.out.alloc _).alloc _) ⟨wp.heap.size + 1, 0, none⟩ 1 1 [.slice (some ⟨wp.heap.size, 0, none⟩) 2 2] rfl rfl (fun i u hi => by have := cell_one_new (wp.alloc (.cells #[.int .i64 (a : Int), .int .i64 (b : Int)] 3)) (.slice (some ⟨wp.heap.size, 0, none⟩) 2 2) 22 i u hi; simpa using this) (fun u hu => by simp at hu; subst hu; rfl) (by unfold maxLen; omega) (by omega) (by simp; omega) ?_)
                  intro v9 w9 hown9 hgrow9 _
                  have hsn := RowsV.snoc (W := (wp.alloc (.cells #[.int .i64 (a : Int), .int .i64 (b : Int)] 3)).alloc (.cells #[.slice (some ⟨wp.heap.size, 0, none⟩) 2 2] 22)) ((HR1.out.alloc _).alloc _) (fun i hi => ((HR2.out i hi).alloc _).alloc _) ((own2 wp w3.heap.size (a : Int) (b : Int) hbz).alloc _) hgrow9 hown9
                  rw [← HPOL.out, ← HYE.out] at hsn
                  have hul : ∀ g, u13.ownBlock = some g → w3.heap.size ≤ g := fun g hg => (HR1.out.lt g hg).1
                  have hb9 := HBP.out.grown (grown_past (grown_past hgrow9)) hbz hul
                  have HSN := Lib.hid hsn
                  have HB9 := Lib.hid hb9
                  clear hown9 hgrow9 hsn hul hb9
                  go_wp2_with fail
                  go_roundw
                  case measure => simp [Go.RowKit.intOf]; omega
                  case rel => exact ⟨cc + 1, by omega, by go_num, HSN.out, HB9.out⟩
                · have t3 : decide ((j : Int) - (kk : Int) ≤ (g : Int)) = false := decide_eq_false (by omega)
                  have hno := found5_no (X := xsL j) (Y := Y) (n := j) (k := kk) (m := cc) (hgd.trans (decide_eq_false hgo))
                  have HNO := Lib.hid hno
                  clear hgd hgo hno
                  go_wp2_with fail
                  go_roundw
                  case measure => simp [Go.RowKit.intOf]; omega
                  case rel => exact ⟨cc + 1, by omega, by go_num, by rw [HNO.out]; exact HROW.out, HBP.out⟩
          · have hc25 : cc = 25 := by omega
            subst hc25
            have hbz := HBP.out.size
            have hbw : Below d w wp := HB3.out.trans (HBP.out.mono (by omega))
            have hbo : BasesOk wp := HW.out.below (by rw [HD.out]; exact hbw)
            have haw := l_awake wp hbo
            have HAW := Lib.hid haw
            have HBW := Lib.hid hbw
            clear hbw hbo haw
            rcases HI.out with ⟨h1, rfl⟩ | ⟨h1, ⟨rfl, F, hF, hown⟩ | ⟨rfl, rfl, hno⟩⟩
            · have t3 : decide ((k : Int) < 2 + 2 * (kk : Int)) = true := decide_eq_true (by omega)
              go_wp2_with fail
              refine HAW.out.mono ?_
              rintro e w9 ⟨rfl, hb9⟩
              have hfin := HBW.out.trans (hb9.mono (by omega))
              rw [← HD.out] at hfin
              have HF := Lib.hid hfin
              clear hb9 hfin
              go_wp2_with fail
              go_ret
              exact ⟨rfl, HF.out⟩
            · have t3 : decide ((k : Int) < 2 + 2 * (kk : Int)) = false := decide_eq_false (by omega)
              obtain ⟨f1, f2, f3, f4, f5, f6, f7, f8⟩ := found5_one h1 (xsL_apart k m5) hF
              obtain ⟨rb, cap, hv13, hrows⟩ := HROW.out.rows (by rw [f1]; exact Nat.one_pos)
              rw [f1] at hrows hv13
              replace hv13 : u13 = .slice (some ⟨rb, 0, none⟩) 1 cap := hv13
              subst hv13
              obtain ⟨u, cu, hou, _⟩ := hrows.at_ (k := 0) Nat.one_pos
              have hou' : OwnI wp w3.heap.size u [F.getD 0 0, F.getD 1 0] := hou
              obtain ⟨g, cg, hvu, _⟩ := hou'.form.resolve_left (fun h => by simp at h)
              replace hvu : u = .slice (some ⟨g, 0, none⟩) 2 cg := hvu
              subst hvu
              have ca := hou'.cell 0 (by simp)
              have cb := hou'.cell 1 (by simp)
              have lg := hou'.lt.2
              have lrb := hrows.lt.2
              obtain ⟨a, ha0⟩ : ∃ a, F.getD 0 0 = a := ⟨_, rfl⟩
              obtain ⟨b, hb0⟩ : ∃ b, F.getD 1 0 = b := ⟨_, rfl⟩
              rw [ha0] at f2 f3 f5 f6 ca
              rw [hb0] at f3 f7 f8 ca cb
              rw [ha0] at cb
              replace ca : wp.cell? ⟨g, 0, none⟩ = some (.int .i64 a) := ca
              replace cb : wp.cell? ⟨g, 1, none⟩ = some (.int .i64 b) := cb
              have hfin5 : InF 5 F := InF.of_mem hF.1.1
              have hve : ∀ W (x : Int), Below wp.heap.size wp W → 0 ≤ x → x ≤ 1 → Calls Tryd.prog 23 #[.int .i64 5, vl, .int .i64 x] W fun e w' => e = .returned (.int .i64 (evH ((5 : Nat) : Int) x F)) ∧ W = w' := fun W x hW h0 h1 =>
                r_EvalI 5 x vl F _ W (by decide) (by decide) h0 (by omega) ((hown.below HBP.out).below hW).ints (by omega) hfin5
              obtain ⟨z1, hz1'⟩ : ∃ z1, (a + b) % 5 = z1 := ⟨_, rfl⟩
              have hv0 : ∀ W, Below wp.heap.size wp W → Calls Tryd.prog 23 #[.int .i64 5, vl, .int .i64 0] W fun e w' => e = .returned (.int .i64 a) ∧ W = w' := fun W hW => by
                have := hve W 0 hW (by decide) (by decide)
                rwa [f2] at this
              have hv1 : ∀ W, Below wp.heap.size wp W → Calls Tryd.prog 23 #[.int .i64 5, vl, .int .i64 1] W fun e w' => e = .returned (.int .i64 z1) ∧ W = w' := fun W hW => by
                have := hve W 1 hW (by decide) (by decide)
                rwa [f3, hz1'] at this
              have htm : (a + b).tmod 5 = z1 := by rw [Int.tmod_eq_emod_of_nonneg (by omega)]; exact hz1'
              obtain ⟨Al, nl, cl, rfl, hnl, _, _⟩ := hown.ints
              have hnl2 : nl ≤ 2 := by omega
              have t5 : decide ((nl : Int) ≤ 2) = true := decide_eq_true (by omega)
              have hws : IntKind.i64.wrap (a + b) = a + b := IntWalk.i64_in _ ⟨by omega, by omega⟩
              have mk : ∀ W : World, Below wp.heap.size wp W → W.cell? ⟨rb, 0, none⟩ = some (.slice (some ⟨g, 0, none⟩) 2 cg) ∧ W.cell? ⟨g, 0, none⟩ = some (.int .i64 a) ∧ W.cell? ⟨g, 1, none⟩ = some (.int .i64 b) ∧ Hid (Below wp.heap.size wp W) := fun W hW =>
                ⟨(hW.cell (p := ⟨rb, 0, none⟩) lrb).trans cu, (hW.cell (p := ⟨g, 0, none⟩) lg).trans ca, (hW.cell (p := ⟨g, 1, none⟩) lg).trans cb, Lib.hid hW⟩
              have haw : ∀ W, Below wp.heap.size wp W → Calls Tryd.prog 8 #[] W (BoolBelow true W) := fun W hW => l_awake W (HW.out.below (by rw [HD.out]; exact HBW.out.trans (hW.mono (by omega))))
              have MK := Lib.hid mk
              have HV0 := Lib.hid hv0
              have HV1 := Lib.hid hv1
              have HAWK := Lib.hid haw
              clear mk hv0 hv1 haw hve hrows hou hou' cu ca cb f1 f2 f3 f4 ha0 hb0 hz1' hfin5 hown hF hnl HROW HI HAW
              go_wp2_with fail
              go_region_held3 (fun W => W.cell? ⟨rb, 0, none⟩ = some (.slice (some ⟨g, 0, none⟩) 2 cg) ∧ W.cell? ⟨g, 0, none⟩ = some (.int .i64 a) ∧ W.cell? ⟨g, 1, none⟩ = some (.int .i64 b) ∧ Hid (Below wp.heap.size wp W))
                (first
                  | exact HP.out
                  | exact MK.out _ (Below.refl _ _).drew)
                (first
                  | (go_at_call 23
                     (with_reducible refine (HV0.out _ (by first | exact (Below.refl _ _).drew | exact HB2.out)).mono ?_)
                     rintro e wk ⟨rfl, rfl⟩)
                  | (go_at_call 23
                     (with_reducible refine (HV1.out _ (by first | exact (Below.refl _ _).drew | exact HB2.out)).mono ?_)
                     rintro e wk ⟨rfl, rfl⟩)
                  | (go_at_call 8
                     (with_reducible refine (HAWK.out _ (Below.refl wp.heap.size wp).drew).mono ?_)
                     rintro e wk ⟨rfl, hbk⟩
                     have hbk' : Below wp.heap.size wp wk := ((Below.refl wp.heap.size wp).drew).trans hbk
                     have HB2 := Lib.hid hbk'
                     have HP := Lib.hid (MK.out wk hbk')
                     clear hbk hbk'))
              all_goals
                have hfin := HBW.out.trans (HB2.out.mono (by omega))
                rw [← HD.out] at hfin
                have HF := Lib.hid hfin
                clear hfin HP
                go_wp2_with fail
                go_ret
                exact ⟨rfl, HF.out⟩
            · have t3 : decide ((k : Int) < 2 + 2 * (kk : Int)) = false := decide_eq_false (by omega)
              have hf := found5_none hno
              obtain ⟨us, hr1, hr2⟩ := HROW.out
              rw [hf] at hr1
              rcases hr1.2 with ⟨rfl, _⟩ | ⟨g, cap, cur, rfl, _⟩
              all_goals
                go_wp2_with fail
                refine HAW.out.mono ?_
                rintro e w9 ⟨rfl, hb9⟩
                have hfin := HBW.out.trans (hb9.mono (by omega))
                rw [← HD.out] at hfin
                have HF := Lib.hid hfin
                clear hb9 hfin
                go_wp2_with fail
                go_ret
                exact ⟨rfl, HF.out⟩
  · have t1 : decide ((n : Int) ≤ 500) = false := decide_eq_false (by omega)
    have HW := Lib.hid hw
    clear hw ha
    go_enter Tryd.func6, Tryd.ntmps6
    go_wp2_with fail
    refine (k_Light A n c _ hn).mono ?_
    rintro e w' ⟨rfl, rfl⟩
    go_wp2_with fail
    refine (l_awake _ HW.out).mono ?_
    rintro e w1 ⟨rfl, hb1⟩
    go_wp2_with fail
    go_ret
    exact ⟨rfl, hb1⟩
end Go.Proofs.YtjfphobfikadlaaDoor

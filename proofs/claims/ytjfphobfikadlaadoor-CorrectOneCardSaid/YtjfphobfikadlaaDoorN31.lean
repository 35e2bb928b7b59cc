/- Contracts: whether a number stands in a list; whether numbers differ (at any numbers). Contracts: whether numbers are a field's elements (at any numbers). Contracts: One at any numbers. Numbers that pass the test of Miller and Rabin with 2, 3, 5 and 7: what a composite one up to 2 to the power of 30 would have to be. No program stands in it. -/
import Derived.Test.YtjfphobfikadlaaDoorN26
import Derived.Test.YtjfphobfikadlaaDoorN02
set_option linter.unusedVariables false
set_option linter.unusedSimpArgs false
namespace Go.Proofs.YtjfphobfikadlaaDoor
open Go.RowKit Num

set_option maxRecDepth 100000 in
set_option maxHeartbeats 1000000 in
theorem c_Index (v : Value) (xs : List Int) (y : Int) (S : Nat → Prop) (w : World) (hv : IntsAt w S v xs) (hl : xs.length ≤ 1000000) :
    Calls Tryd.prog 85 #[v, .int .i64 y] w fun e w' => ∃ r : Int, e = .returned (.int .i64 r) ∧ ((r = -1 ∧ ∀ j, j < xs.length → xs.getD j 0 ≠ y) ∨ ∃ j : Nat, j < xs.length ∧ r = (j : Int) ∧ xs.getD j 0 = y) ∧ w = w' := by
  obtain ⟨A, n, ca, rfl, hn, hnc, hcc⟩ := id hv
  rw [← hn] at hl ⊢
  have HCC := Lib.hid hcc
  clear hv hn hcc
  go_enter Tryd.func85, Tryd.ntmps85
  go_wp2_with fail
  go_loopw [8] (fun t wr => ∃ i : Nat, i ≤ n ∧ t = .int .i64 i ∧ (∀ j, j < i → xs.getD j 0 ≠ y) ∧ w = wr) (fun t _ => n - (intOf t).toNat)
  case atStart => exact ⟨0, by omega, rfl, fun j hj => absurd hj (Nat.not_lt_zero j), rfl⟩
  case round =>
    obtain ⟨i, hin, rfl, hz, rfl⟩ := hrel
    have HZ := Lib.hid hz
    clear hz
    by_cases hlt : i < n
    · obtain ⟨b, off, rfl, _, hc⟩ := HCC.out (by omega)
      have cx := hc i hlt
      obtain ⟨x, hx⟩ : ∃ x, xs.getD i 0 = x := ⟨_, rfl⟩
      rw [hx] at cx
      have HX := Lib.hid hx
      have qi : (i : Int) < (n : Int) := by omega
      have qi0 : (0 : Int) ≤ (i : Int) := by omega
      clear hx hc
      by_cases hxy : y = x
      · have t0 : (y == x) = true := by simpa using hxy
        have HE := Lib.hid hxy
        clear hxy
        go_wp2_with fail
        go_ret
        exact ⟨_, rfl, .inr ⟨i, hlt, rfl, by rw [HX.out]; exact HE.out.symm⟩, rfl⟩
      · have t0 : (y == x) = false := by simpa using hxy
        have HE := Lib.hid hxy
        clear hxy
        go_wp2_with fail
        go_roundw
        case measure => simp [intOf]; omega
        case rel => exact ⟨i + 1, by omega, by go_num, fun j hj => by
          rcases Nat.lt_or_ge j i with h | h
          · exact HZ.out j h
          · rw [show j = i by omega, HX.out]; exact fun e => HE.out e.symm, by first | rfl | trivial⟩
    · have hi' : i = n := by omega
      subst hi'
      go_wp2_with fail
      go_ret
      exact ⟨_, rfl, .inl ⟨rfl, HZ.out⟩, rfl⟩
set_option maxHeartbeats 1000000 in
theorem c_Contains (v : Value) (xs : List Int) (y : Int) (S : Nat → Prop) (w : World) (hv : IntsAt w S v xs) (hl : xs.length ≤ 1000000) :
    Calls Tryd.prog 55 #[v, .int .i64 y] w fun e w' => ∃ b : Bool, e = .returned (.bool b) ∧ (b = true ↔ ∃ j, j < xs.length ∧ xs.getD j 0 = y) ∧ w = w' := by
  have h := c_Index v xs y S w hv hl
  have H := Lib.hid h
  clear h
  go_enter Tryd.func55, Tryd.ntmps55
  go_wp2_with fail
  refine H.out.mono ?_
  rintro e w' ⟨r, rfl, hr, rfl⟩
  have hb : (decide ((0 : Int) ≤ r) = true ↔ ∃ j, j < xs.length ∧ xs.getD j 0 = y) := by
    rw [decide_eq_true_iff]
    rcases hr with ⟨rfl, hn⟩ | ⟨j, h1, rfl, h3⟩
    · exact ⟨fun h => by omega, fun ⟨j, h1, h3⟩ => absurd h3 (hn j h1)⟩
    · exact ⟨fun _ => ⟨j, h1, h3⟩, fun _ => by omega⟩
  have HB := Lib.hid hb
  clear hr hb
  go_wp2_with fail
  go_ret
  exact ⟨_, rfl, HB.out, rfl⟩
set_option maxRecDepth 100000 in
set_option maxHeartbeats 1000000 in
theorem c_different (v : Value) (xs : List Int) (S : Nat → Prop) (w : World) (hv : IntsAt w S v xs) (hl : xs.length ≤ 1000000) :
    Calls Tryd.prog 36 #[v] w fun e w' => ∃ b : Bool, e = .returned (.bool b) ∧ (b = true ↔ ∀ i j, i < xs.length → j < i → xs.getD j 0 ≠ xs.getD i 0) ∧ w = w' := by
  obtain ⟨i0, hi, hz0, hz1, hz2⟩ := info_parts infoI
  obtain ⟨A, n, ca, rfl, hn, hnc, hcc⟩ := id hv
  have hsl := fun (W : World) (i : Nat) (h : i ≤ ca) => run_slice_hi (P := Tryd.prog) W 22 3 i0 Tryd.underlying22 hi A n ca i h (i : Int) rfl
  have hct := fun (i : Nat) (h : i ≤ n) (y : Int) => c_Contains (.slice A i ca) (xs.take i) y S w (hv.take i (by omega)) (by rw [List.length_take]; omega)
  have HCT := Lib.hid hct
  have HSL := Lib.hid hsl
  have HN := Lib.hid hn
  have HCC := Lib.hid hcc
  rw [← hn] at hl ⊢
  clear hv hn hcc hsl hct
  go_enter Tryd.func36, Tryd.ntmps36
  go_wp2_with fail
  go_loopw [7] (fun t wr => ∃ i : Nat, i ≤ n ∧ t = .int .i64 i ∧ (∀ k j, k < i → j < k → xs.getD j 0 ≠ xs.getD k 0) ∧ w = wr) (fun t _ => n - (intOf t).toNat)
  case atStart => exact ⟨0, by omega, rfl, fun k j hk => absurd hk (Nat.not_lt_zero k), rfl⟩
  case round =>
    obtain ⟨i, hin, rfl, hz, rfl⟩ := hrel
    have HZ := Lib.hid hz
    clear hz
    by_cases hlt : i < n
    · obtain ⟨b, off, rfl, _, hc⟩ := HCC.out (by omega)
      have cx := hc i hlt
      have hsl := fun W => HSL.out W i (by omega)
      obtain ⟨x, hx⟩ : ∃ x, xs.getD i 0 = x := ⟨_, rfl⟩
      rw [hx] at cx
      have hct := HCT.out i (by omega) x
      have HX := Lib.hid hx
      have HC := Lib.hid hct
      have qi : (i : Int) < (n : Int) := by omega
      have qi0 : (0 : Int) ≤ (i : Int) := by omega
      clear hx hc hct
      go_wp2_with fail
      refine HC.out.mono ?_
      rintro e w' ⟨bb, rfl, hbb, rfl⟩
      have hex : (∃ j, j < (xs.take i).length ∧ (xs.take i).getD j 0 = x) ↔ ∃ j, j < i ∧ xs.getD j 0 = x := by
        have e : ∀ j, j < i → (xs.take i).getD j 0 = xs.getD j 0 := fun j hj => by rw [List.getD_eq_getElem?_getD, List.getD_eq_getElem?_getD, List.getElem?_take, if_pos hj]
        have el : (xs.take i).length = i := by rw [List.length_take]; have := HN.out; omega
        rw [el]
        exact ⟨fun ⟨j, h1, h3⟩ => ⟨j, h1, by rw [← e j h1]; exact h3⟩, fun ⟨j, h1, h3⟩ => ⟨j, h1, by rw [e j h1]; exact h3⟩⟩
      rw [hex] at hbb
      have HBB := Lib.hid hbb
      clear hex hbb
      cases bb with
      | true =>
        go_wp2_with fail
        go_ret
        obtain ⟨j, h1, h3⟩ := HBB.out.1 (by simp)
        exact ⟨false, rfl, ⟨fun h => by simp at h, fun h => absurd (h3.trans HX.out.symm) (h i j hlt h1)⟩, rfl⟩
      | false =>
        go_wp2_with fail
        go_roundw
        case measure => simp [intOf]; omega
        case rel => exact ⟨i + 1, by omega, by go_num, (fun k j hk hj => by
          rcases Nat.lt_or_ge k i with h | h
          · exact HZ.out k j h hj
          · rw [show k = i by omega] at hj ⊢
            intro e
            have := HBB.out.2 ⟨j, hj, e.trans HX.out⟩
            simp at this), by first | rfl | trivial⟩
    · have hi' : i = n := by omega
      subst hi'
      go_wp2_with fail
      go_ret
      exact ⟨true, rfl, ⟨fun _ => HZ.out, fun _ => rfl⟩, rfl⟩
end Go.Proofs.YtjfphobfikadlaaDoor
namespace Go.Proofs.YtjfphobfikadlaaDoor
open Go.RowKit Num

set_option maxRecDepth 100000 in
set_option maxHeartbeats 1000000 in
/-- val: what field.Valid says. -/
theorem c_Elements (p : Int) (val : Bool) (v : Value) (xs : List Int) (S : Nat → Prop) (w : World) (hv : IntsAt w S v xs) (hl : xs.length ≤ 1000000)
    (hval : Calls Tryd.prog 54 #[.int .i64 p] w fun e w' => e = .returned (.bool val) ∧ w = w') :
    Calls Tryd.prog 35 #[.int .i64 p, v] w fun e w' => ∃ b : Bool, e = .returned (.bool b) ∧ (b = true ↔ (∀ i, i < xs.length → 0 ≤ xs.getD i 0 ∧ xs.getD i 0 < p) ∧ val = true) ∧ w = w' := by
  obtain ⟨A, n, ca, rfl, hn, hnc, hcc⟩ := id hv
  rw [← hn] at hl ⊢
  have HCC := Lib.hid hcc
  have HV := Lib.hid hval
  clear hv hn hcc hval
  go_enter Tryd.func35, Tryd.ntmps35
  go_wp2_with fail
  go_loopw [9] (fun t wr => ∃ i : Nat, i ≤ n ∧ t = .int .i64 i ∧ (∀ j, j < i → 0 ≤ xs.getD j 0 ∧ xs.getD j 0 < p) ∧ w = wr) (fun t _ => n - (intOf t).toNat)
  case atStart => exact ⟨0, by omega, rfl, fun j hj => absurd hj (Nat.not_lt_zero j), rfl⟩
  case round =>
    obtain ⟨i, hin, rfl, hz, rfl⟩ := hrel
    have HZ := Lib.hid hz
    clear hz
    by_cases hlt : i < n
    · obtain ⟨b, off, rfl, _, hc⟩ := HCC.out (by omega)
      have cx := hc i hlt
      obtain ⟨x, hx⟩ : ∃ x, xs.getD i 0 = x := ⟨_, rfl⟩
      rw [hx] at cx
      have HX := Lib.hid hx
      have qi : (i : Int) < (n : Int) := by omega
      have qi0 : (0 : Int) ≤ (i : Int) := by omega
      clear hx hc
      by_cases h0 : x < 0
      · have HE := Lib.hid h0
        have t1 : decide (x < 0) = true := decide_eq_true h0
        clear h0
        go_wp2_with fail
        go_ret
        exact ⟨false, rfl, ⟨fun h => by simp at h, fun h => absurd (h.1 i hlt).1 (by rw [HX.out]; have := HE.out; omega)⟩, rfl⟩
      · have t1 : decide (x < 0) = false := decide_eq_false h0
        by_cases h1 : p ≤ x
        · have HE := Lib.hid h1
          have t2 : decide (p ≤ x) = true := decide_eq_true h1
          clear h1 h0
          go_wp2_with fail
          go_ret
          exact ⟨false, rfl, ⟨fun h => by simp at h, fun h => absurd (h.1 i hlt).2 (by rw [HX.out]; have := HE.out; omega)⟩, rfl⟩
        · have HE := Lib.hid h1
          have HE0 := Lib.hid h0
          have t2 : decide (p ≤ x) = false := decide_eq_false h1
          clear h1 h0
          go_wp2_with fail
          go_roundw
          case measure => simp [intOf]; omega
          case rel => exact ⟨i + 1, by omega, by go_num, (fun j hj => by
            rcases Nat.lt_or_ge j i with h | h
            · exact HZ.out j h
            · rw [show j = i by omega, HX.out]
              have := HE.out
              have := HE0.out
              omega), by first | rfl | trivial⟩
    · have hi' : i = n := by omega
      subst hi'
      go_wp2_with fail
      refine HV.out.mono ?_
      rintro e w' ⟨rfl, rfl⟩
      go_wp2_with fail
      go_ret
      exact ⟨val, rfl, ⟨fun h => ⟨HZ.out, h⟩, fun h => h.2⟩, rfl⟩
end Go.Proofs.YtjfphobfikadlaaDoor
namespace Go.Proofs.YtjfphobfikadlaaDoor
open Go.RowKit Num

/-- What One asks of its arguments first. -/
def OneIn (p need lies : Int) (X Y : List Int) (val : Bool) : Prop :=
  1 ≤ need ∧ 0 ≤ lies ∧ X.length = Y.length ∧ X.length ≤ 16 ∧ (∀ i, i < X.length → 0 ≤ X.getD i 0 ∧ X.getD i 0 < p) ∧ (∀ i, i < Y.length → 0 ≤ Y.getD i 0 ∧ Y.getD i 0 < p) ∧ val = true ∧ (∀ i j, i < X.length → j < i → X.getD j 0 ≠ X.getD i 0)
def OneEnough (need lies : Int) (X : List Int) : Prop := need ≤ X.length ∧ lies ≤ X.length ∧ need + 2 * lies ≤ X.length
def OneQ (Q : Ending → World → Prop) (e : Ending) (w : World) : Prop := Q e w
set_option maxRecDepth 100000 in
set_option maxHeartbeats 4000000 in
/-- The invalid ones, those that are too few, and those that go to 'one'. -/
theorem c_One (p need lies : Int) (val : Bool) (vx vy : Value) (X Y : List Int) (S T : Nat → Prop) (w : World) (Q : Ending → World → Prop) (hx : IntsAt w S vx X) (hy : IntsAt w T vy Y) (lx : X.length ≤ 1000000) (ly : Y.length ≤ 1000000)
    (hnr : -9223372036854775808 ≤ need ∧ need ≤ 9223372036854775807) (hlr : -9223372036854775808 ≤ lies ∧ lies ≤ 9223372036854775807)
    (hval : Calls Tryd.prog 54 #[.int .i64 p] w fun e w' => e = .returned (.bool val) ∧ w = w')
    (h1 : ¬ OneIn p need lies X Y val → Q (.returned (.tuple #[.slice none 0 0, .int .i64 1])) w)
    (h2 : OneIn p need lies X Y val → ¬ OneEnough need lies X → Q (.returned (.tuple #[.slice none 0 0, .int .i64 5])) w)
    (h3 : OneIn p need lies X Y val → OneEnough need lies X → Calls Tryd.prog 32 #[.int .i64 p, .int .i64 need, .int .i64 lies, vx, vy] w fun e w' => ∃ v u, e = .returned (.tuple #[v, u]) ∧ Q e w') :
    Calls Tryd.prog 20 #[.int .i64 p, .int .i64 need, .int .i64 lies, vx, vy] w (OneQ Q) := by
  have hex := c_Elements p val vx X S w hx lx hval
  have hey := c_Elements p val vy Y T w hy ly hval
  have hdf := c_different vx X S w hx lx
  obtain ⟨A, n, ca, rfl, hn, hnc, hcc⟩ := id hx
  obtain ⟨B, m, cb, rfl, hm, hmc, hcd⟩ := id hy
  unfold OneIn at h1 h2 h3
  unfold OneEnough at h2 h3
  rw [← hn] at hex hdf h1 h2 h3 lx
  rw [← hm] at hey h1 h2 h3 ly
  have HEX := Lib.hid hex
  have HEY := Lib.hid hey
  have HDF := Lib.hid hdf
  have H1 := Lib.hid h1
  have H2 := Lib.hid h2
  have H3 := Lib.hid h3
  clear hx hy hn hm hcc hcd hval hex hey hdf h1 h2 h3
  by_cases h1 : need < 1
  · have t1 : decide (need < 1) = true := decide_eq_true h1
    have HH := Lib.hid h1
    clear h1
    go_enter Tryd.func20, Tryd.ntmps20
    go_wp2_with fail
    go_ret2
    show Q _ _
    exact H1.out (fun h => by have := HH.out; have := h.1; omega)
  have t1 : decide (need < 1) = false := decide_eq_false h1
  by_cases h2 : lies < 0
  · have t2 : decide (lies < 0) = true := decide_eq_true h2
    have HH := Lib.hid h2
    clear h1 h2
    go_enter Tryd.func20, Tryd.ntmps20
    go_wp2_with fail
    go_ret2
    show Q _ _
    exact H1.out (fun h => by have := HH.out; have := h.2.1; omega)
  have t2 : decide (lies < 0) = false := decide_eq_false h2
  by_cases h3 : n = m
  case neg =>
    have t3 : ((n : Int) != (m : Int)) = true := by simp; omega
    have HH := Lib.hid h3
    clear h1 h2 h3
    go_enter Tryd.func20, Tryd.ntmps20
    go_wp2_with fail
    go_ret2
    show Q _ _
    exact H1.out (fun h => HH.out h.2.2.1)
  have t3 : ((n : Int) != (m : Int)) = false := by simp; omega
  have HH3 := Lib.hid h3
  by_cases h4 : (16 : Int) < (n : Int)
  · have t4 : decide ((16 : Int) < (n : Int)) = true := decide_eq_true h4
    have HH := Lib.hid h4
    clear h1 h2 h3 h4
    go_enter Tryd.func20, Tryd.ntmps20
    go_wp2_with fail
    go_ret2
    show Q _ _
    exact H1.out (fun h => by have := HH.out; have := h.2.2.2.1; omega)
  have t4 : decide ((16 : Int) < (n : Int)) = false := decide_eq_false h4
  have n16 : (n : Int) ≤ 16 := by omega
  have k1 : 1 ≤ need := by omega
  have k2 : 0 ≤ lies := by omega
  clear h1 h2 h3 h4
  go_enter Tryd.func20, Tryd.ntmps20
  go_wp2_with fail
  refine HEX.out.mono ?_
  rintro e w' ⟨b1, rfl, hb1, rfl⟩
  have G1 := Lib.hid hb1
  clear hb1
  cases b1 with
  | false =>
    go_wp2_with fail
    go_ret2
    show Q _ _
    exact H1.out fun h => absurd (G1.out.2 ⟨h.2.2.2.2.1, h.2.2.2.2.2.2.1⟩) (by simp)
  | true =>
    go_wp2_with fail
    refine HEY.out.mono ?_
    rintro e w' ⟨b2, rfl, hb2, rfl⟩
    have G2 := Lib.hid hb2
    clear hb2
    cases b2 with
    | false =>
      go_wp2_with fail
      go_ret2
      show Q _ _
      exact H1.out fun h => absurd (G2.out.2 ⟨h.2.2.2.2.2.1, h.2.2.2.2.2.2.1⟩) (by simp)
    | true =>
      go_wp2_with fail
      refine HDF.out.mono ?_
      rintro e w' ⟨b3, rfl, hb3, rfl⟩
      have G3 := Lib.hid hb3
      clear hb3
      cases b3 with
      | false =>
        go_wp2_with fail
        go_ret2
        show Q _ _
        exact H1.out fun h => absurd (G3.out.2 h.2.2.2.2.2.2.2) (by simp)
      | true =>
        have hin := And.intro k1 <| And.intro k2 <| And.intro HH3.out <| And.intro (show n ≤ 16 by omega) <| And.intro (G1.out.1 (by simp)).1 <| And.intro (G2.out.1 (by simp)).1 <| And.intro (G1.out.1 (by simp)).2 (G3.out.1 (by simp))
        have h2 := H2.out hin
        have h3 := H3.out hin
        have H2' := Lib.hid h2
        have H3' := Lib.hid h3
        clear hin h2 h3 H2 H3 H1
        by_cases e1 : (n : Int) < need
        · have s1 : decide ((n : Int) < need) = true := decide_eq_true e1
          have HH := Lib.hid e1
          clear e1
          go_wp2_with fail
          go_ret2
          show Q _ _
          exact H2'.out fun h => by have := HH.out; have := h.1; omega
        have s1 : decide ((n : Int) < need) = false := decide_eq_false e1
        by_cases e2 : (n : Int) < lies
        · have s2 : decide ((n : Int) < lies) = true := decide_eq_true e2
          have HH := Lib.hid e2
          clear e1 e2
          go_wp2_with fail
          go_ret2
          show Q _ _
          exact H2'.out fun h => by have := HH.out; have := h.2.1; omega
        have s2 : decide ((n : Int) < lies) = false := decide_eq_false e2
        have k3 : need ≤ 16 := by omega
        have k4 : lies ≤ 16 := by omega
        by_cases e3 : (n : Int) < need + 2 * lies
        · have s3 : decide ((n : Int) < need + 2 * lies) = true := decide_eq_true e3
          have HH := Lib.hid e3
          clear e1 e2 e3
          go_wp2_with fail
          go_ret2
          show Q _ _
          exact H2'.out fun h => by have := HH.out; have := h.2.2; omega
        have s3 : decide ((n : Int) < need + 2 * lies) = false := decide_eq_false e3
        have h4 := H3'.out ⟨by omega, by omega, by omega⟩
        have H4 := Lib.hid h4
        clear e1 e2 e3 h4 H3' H2'
        go_wp2_with fail
        refine H4.out.mono ?_
        rintro e w' ⟨v, u, rfl, hq⟩
        have HQ := Lib.hid hq
        clear hq
        go_wp2_with fail
        go_ret2
        show Q _ _
        exact HQ.out
end Go.Proofs.YtjfphobfikadlaaDoor
namespace Go.Proofs.YtjfphobfikadlaaDoor.Num

/-! ### Powers that the kernel can reckon -/
def st6 (m b y d : Nat) : Nat := Nat.mod (Nat.mul (Nat.pow y 64) (Nat.pow b d)) m
def p6 (m b e : Nat) : Nat :=
  st6 m b (st6 m b (st6 m b (st6 m b (Nat.mod (Nat.pow b (Nat.div e 16777216)) m) (Nat.mod (Nat.div e 262144) 64)) (Nat.mod (Nat.div e 4096) 64)) (Nat.mod (Nat.div e 64) 64)) (Nat.mod e 64)
theorem st6_pw (m b a d : Nat) : st6 m b (pw m b a) d = pw m b (64 * a + d) := by
  show (b ^ a % m) ^ 64 * b ^ d % m = b ^ (64 * a + d) % m
  rw [Nat.mul_mod, ← Nat.pow_mod, ← Nat.mul_mod, ← Nat.pow_mul, ← Nat.pow_add, Nat.mul_comm a 64]
theorem p6_pw (m b e : Nat) : p6 m b e = pw m b e := by
  unfold p6
  have e0 : Nat.mod (Nat.pow b (Nat.div e 16777216)) m = pw m b (e / 16777216) := rfl
  rw [e0, st6_pw, st6_pw, st6_pw, st6_pw]
  congr 1
  show 64 * (64 * (64 * (64 * (e / 16777216) + e / 262144 % 64) + e / 4096 % 64) + e / 64 % 64) + e % 64 = e
  omega
def fm (e : Nat) : Bool := Nat.beq (p6 (Nat.succ e) 2 e) 1
noncomputable def mrc (n b : Nat) (f : Nat) : Nat → Bool :=
  Nat.rec (fun _ => true) (fun _ ih e => bif Nat.beq (p6 n b e) (Nat.sub n 1) then true else bif Nat.beq (p6 n b e) 1 then (bif Nat.beq (Nat.mod e 2) 0 then ih (Nat.div e 2) else true) else false) f
noncomputable def mrs (n : Nat) : Bool := bif mrc n 2 31 (Nat.sub n 1) then (bif mrc n 3 31 (Nat.sub n 1) then (bif mrc n 5 31 (Nat.sub n 1) then mrc n 7 31 (Nat.sub n 1) else false) else false) else false
noncomputable def bad2 (n : Nat) : Bool := Nat.rec false (fun e _ => bif fm e then mrs (Nat.succ e) else false) n
theorem nbeq {a b : Nat} : Nat.beq a b = true ↔ a = b := ⟨Nat.eq_of_beq_eq_true, fun h => by subst h; exact Nat.beq_refl a⟩
theorem nbeq_f {a b : Nat} (h : a ≠ b) : Nat.beq a b = false := by
  cases hb : Nat.beq a b with
  | false => rfl
  | true => exact absurd (nbeq.1 hb) h
theorem mrc_step (n b f e : Nat) : mrc n b (f + 1) e = (bif Nat.beq (p6 n b e) (Nat.sub n 1) then true else bif Nat.beq (p6 n b e) 1 then (bif Nat.beq (Nat.mod e 2) 0 then mrc n b f (Nat.div e 2) else true) else false) := rfl
theorem pw_dbl {m b o i : Nat} (hm : 1 < m) (h : pw m b (o * 2 ^ i) = 1) : pw m b (o * 2 ^ (i + 1)) = 1 := by
  have e : o * 2 ^ (i + 1) = o * 2 ^ i + o * 2 ^ i := by rw [Nat.pow_succ, ← Nat.mul_assoc]; omega
  rw [e, ← pw_add, h, Nat.mod_eq_of_lt hm]
theorem pw_neg {m b o i : Nat} (hm : 2 < m) (h : pw m b (o * 2 ^ i) = m - 1) : pw m b (o * 2 ^ (i + 1)) = 1 := by
  have e : o * 2 ^ (i + 1) = o * 2 ^ i + o * 2 ^ i := by rw [Nat.pow_succ, ← Nat.mul_assoc]; omega
  rw [e, ← pw_add, h]
  obtain ⟨z, rfl⟩ : ∃ z, m = z + 2 := ⟨m - 2, by omega⟩
  rw [show z + 2 - 1 = z + 1 by omega, show (z + 1) * (z + 1) = (z + 2) * z + 1 by rw [Nat.add_mul, Nat.mul_add, Nat.add_mul]; omega, Nat.mul_add_mod, Nat.mod_eq_of_lt (by omega)]
theorem odd_half {o i : Nat} (ho : o % 2 = 1) (h : (o * 2 ^ i) % 2 = 0) : ∃ j, i = j + 1 ∧ o * 2 ^ i / 2 = o * 2 ^ j := by
  cases i with
  | zero => rw [Nat.pow_zero, Nat.mul_one] at h; omega
  | succ j => exact ⟨j, rfl, by rw [Nat.pow_succ, ← Nat.mul_assoc, Nat.mul_div_cancel _ (by omega)]⟩
theorem mrc_of {n b o t : Nat} (hn : 2 < n) (ho : o % 2 = 1) (h : MRat n b o t) : ∀ f, mrc n b f (o * 2 ^ t) = true := by
  rcases h with h1 | ⟨j, hj, h1⟩
  · have all1 : ∀ i, pw n b (o * 2 ^ i) = 1 := by
      intro i
      induction i with
      | zero => rwa [Nat.pow_zero, Nat.mul_one]
      | succ i ih => exact pw_dbl (by omega) ih
    have key : ∀ f i, mrc n b f (o * 2 ^ i) = true := by
      intro f
      induction f with
      | zero => intro i; rfl
      | succ f ih =>
        intro i
        rw [mrc_step, p6_pw, all1 i, nbeq_f (a := 1) (b := Nat.sub n 1) (by show 1 ≠ n - 1; omega)]
        show (bif Nat.beq (Nat.mod (o * 2 ^ i) 2) 0 then mrc n b f (Nat.div (o * 2 ^ i) 2) else true) = true
        cases hb : Nat.beq (Nat.mod (o * 2 ^ i) 2) 0 with
        | false => rfl
        | true =>
          obtain ⟨k, _, e⟩ := odd_half ho (nbeq.1 hb)
          show mrc n b f (o * 2 ^ i / 2) = true
          rw [e]; exact ih k
    exact fun f => key f t
  · have all1 : ∀ i, j < i → pw n b (o * 2 ^ i) = 1 := by
      intro i
      induction i with
      | zero => intro h; omega
      | succ i ih =>
        intro h
        rcases Nat.eq_or_lt_of_le (Nat.le_of_lt_succ h) with e | e
        · subst e; exact pw_neg hn h1
        · exact pw_dbl (by omega) (ih e)
    have key : ∀ f i, j ≤ i → mrc n b f (o * 2 ^ i) = true := by
      intro f
      induction f with
      | zero => intro i _; rfl
      | succ f ih =>
        intro i hi
        rw [mrc_step, p6_pw]
        rcases Nat.eq_or_lt_of_le hi with e | e
        · subst e
          rw [h1, show Nat.beq (n - 1) (Nat.sub n 1) = true from Nat.beq_refl _]; rfl
        · rw [all1 i e, nbeq_f (a := 1) (b := Nat.sub n 1) (by show 1 ≠ n - 1; omega)]
          show (bif Nat.beq (Nat.mod (o * 2 ^ i) 2) 0 then mrc n b f (Nat.div (o * 2 ^ i) 2) else true) = true
          cases hb : Nat.beq (Nat.mod (o * 2 ^ i) 2) 0 with
          | false => rfl
          | true =>
            obtain ⟨k, hk, e2⟩ := odd_half ho (nbeq.1 hb)
            show mrc n b f (o * 2 ^ i / 2) = true
            rw [e2]; exact ih k (by omega)
    exact fun f => key f t (by omega)
theorem mrc_mrB {n b : Nat} (hn : 2 < n) (h : mrB n b = true) (f : Nat) : mrc n b f (n - 1) = true := by
  obtain ⟨o, t, he, ho⟩ := odd_part (n - 1) (by omega)
  have := mrc_of hn ho ((mrB_at he ho).1 h) f
  rwa [he] at this
theorem fer_mrB {n b : Nat} (hn : 2 < n) (hodd : n % 2 = 1) (h : mrB n b = true) : pw n b (n - 1) = 1 := by
  obtain ⟨o, t, he, ho⟩ := odd_part (n - 1) (by omega)
  have h1 := (mrB_at he ho).1 h
  have ht : 1 ≤ t := by
    rcases Nat.eq_zero_or_pos t with h0 | h0
    · subst h0; rw [Nat.pow_zero, Nat.mul_one] at he; omega
    · exact h0
  rw [← he]
  rcases h1 with h1 | ⟨j, hj, h1⟩
  · have : ∀ i, pw n b (o * 2 ^ i) = 1 := by
      intro i
      induction i with
      | zero => rwa [Nat.pow_zero, Nat.mul_one]
      | succ i ih => exact pw_dbl (by omega) ih
    exact this t
  · have : ∀ i, j < i → pw n b (o * 2 ^ i) = 1 := by
      intro i
      induction i with
      | zero => intro h; omega
      | succ i ih =>
        intro h
        rcases Nat.eq_or_lt_of_le (Nat.le_of_lt_succ h) with e | e
        · subst e; exact pw_neg hn h1
        · exact pw_dbl (by omega) (ih e)
    exact this t hj
/-- What passes is found by the kernel's test. -/
theorem bad2_of {n : Nat} (hn : 2 < n) (hodd : n % 2 = 1) (h2 : mrB n 2 = true) (h3 : mrB n 3 = true) (h5 : mrB n 5 = true) (h7 : mrB n 7 = true) : bad2 n = true := by
  obtain ⟨e, rfl⟩ : ∃ e, n = e + 1 := ⟨n - 1, by omega⟩
  show (bif fm e then mrs (e + 1) else false) = true
  have f2 := fer_mrB hn hodd h2
  have e1 : fm e = true := by
    unfold fm
    rw [p6_pw, nbeq]
    exact f2
  have e2 : mrs (e + 1) = true := by
    unfold mrs
    have c := fun {b} (h : mrB (e + 1) b = true) => mrc_mrB hn h 31
    rw [show mrc (e + 1) 2 31 (Nat.sub (e + 1) 1) = true from c h2, show mrc (e + 1) 3 31 (Nat.sub (e + 1) 1) = true from c h3, show mrc (e + 1) 5 31 (Nat.sub (e + 1) 1) = true from c h5, show mrc (e + 1) 7 31 (Nat.sub (e + 1) 1) = true from c h7]
    rfl
  rw [e1, e2]; rfl
/-! ### Prime factors -/
theorem ex_prm : ∀ n : Nat, 2 ≤ n → ∃ s, Prm s ∧ s ∣ n := by
  intro n
  induction n using Nat.strongRecOn with
  | _ n ih =>
    intro hn
    by_cases h : Prm n
    · exact ⟨n, h, Nat.dvd_refl n⟩
    · have : ∃ d, d ∣ n ∧ d ≠ 1 ∧ d ≠ n := by
        apply Classical.byContradiction
        intro hno
        exact h ⟨hn, fun d hd => by
          by_cases h1 : d = 1
          · exact .inl h1
          · by_cases h2 : d = n
            · exact .inr h2
            · exact absurd ⟨d, hd, h1, h2⟩ hno⟩
      obtain ⟨d, hd, h1, h2⟩ := this
      have hle := Nat.le_of_dvd (by omega) hd
      have h0 : d ≠ 0 := by rintro rfl; have := Nat.eq_zero_of_zero_dvd hd; omega
      obtain ⟨s, hs, hsd⟩ := ih d (by omega) (by omega)
      exact ⟨s, hs, Nat.dvd_trans hsd hd⟩
theorem max_prm {n : Nat} (hn : 2 ≤ n) : ∃ r, Prm r ∧ r ∣ n ∧ ∀ s, Prm s → s ∣ n → s ≤ r := by
  have key : ∀ B, (∃ s, Prm s ∧ s ∣ n ∧ s ≤ B) → ∃ r, Prm r ∧ r ∣ n ∧ ∀ s, Prm s → s ∣ n → s ≤ B → s ≤ r := by
    intro B
    induction B with
    | zero => rintro ⟨s, hs, _, h⟩; have := hs.1; omega
    | succ B ih =>
      rintro ⟨s, hs, hd, h⟩
      by_cases hB : Prm (B + 1) ∧ (B + 1) ∣ n
      · exact ⟨B + 1, hB.1, hB.2, fun q _ _ h => h⟩
      · have hsB : s ≤ B := by
          rcases Nat.eq_or_lt_of_le h with e | e
          · subst e; exact absurd ⟨hs, hd⟩ hB
          · omega
        obtain ⟨r, h1, h2, h3⟩ := ih ⟨s, hs, hd, hsB⟩
        refine ⟨r, h1, h2, fun q hq hqd hqB => ?_⟩
        rcases Nat.eq_or_lt_of_le hqB with e | e
        · subst e; exact absurd ⟨hq, hqd⟩ hB
        · exact h3 q hq hqd (by omega)
  obtain ⟨s, hs, hd⟩ := ex_prm n hn
  obtain ⟨r, h1, h2, h3⟩ := key n ⟨s, hs, hd, Nat.le_of_dvd (by omega) hd⟩
  exact ⟨r, h1, h2, fun q hq hqd => h3 q hq hqd (Nat.le_of_dvd (by omega) hqd)⟩
/-- A composite number that passes. -/
structure Psp (n : Nat) : Prop where
  two : 2 < n
  le : n ≤ 1073741824
  np : ¬ Prm n
  co : ∀ b, b = 2 ∨ b = 3 ∨ b = 5 ∨ b = 7 → ¬ b ∣ n
  fer : ∀ b, b = 2 ∨ b = 3 ∨ b = 5 ∨ b = 7 → pw n b (n - 1) = 1
  bad : bad2 n = true
theorem pw_dvd {m d b e : Nat} (h : d ∣ m) (hd : 1 < d) (h1 : pw m b e = 1) : pw d b e = 1 := by
  unfold pw at *
  rw [← Nat.mod_mod_of_dvd _ h, h1, Nat.mod_eq_of_lt hd]
/-- All four bases to a power are 1. -/
def All1 (r e : Nat) : Prop := ∀ b, b = 2 ∨ b = 3 ∨ b = 5 ∨ b = 7 → pw r b e = 1
theorem Psp.ge11 {n r : Nat} (h : Psp n) (hr : Prm r) (hd : r ∣ n) : 11 ≤ r := by
  have h2 := hr.1
  apply Classical.byContradiction
  intro hlt
  have : r = 2 ∨ r = 3 ∨ r = 5 ∨ r = 7 ∨ r = 4 ∨ r = 6 ∨ r = 8 ∨ r = 9 ∨ r = 10 := by omega
  rcases this with e | e | e | e | e | e | e | e | e
  · exact h.co r (.inl e) hd
  · exact h.co r (.inr (.inl e)) hd
  · exact h.co r (.inr (.inr (.inl e))) hd
  · exact h.co r (.inr (.inr (.inr e))) hd
  all_goals subst e; exfalso
  · rcases hr.2 2 ⟨2, rfl⟩ with h | h <;> omega
  · rcases hr.2 2 ⟨3, rfl⟩ with h | h <;> omega
  · rcases hr.2 2 ⟨4, rfl⟩ with h | h <;> omega
  · rcases hr.2 3 ⟨3, rfl⟩ with h | h <;> omega
  · rcases hr.2 2 ⟨5, rfl⟩ with h | h <;> omega
/-- What is left behind a prime factor. -/
theorem Psp.cof {n r k : Nat} (h : Psp n) (hr : Prm r) (hk : n = r * k) : All1 r (k - 1) ∧ 11 ≤ k := by
  have hd : r ∣ n := ⟨k, hk⟩
  have h11 := h.ge11 hr hd
  have h2 := h.two
  have hk1 : 2 ≤ k := by
    rcases Nat.lt_or_ge k 2 with h0 | h0
    · exfalso
      rcases (show k = 0 ∨ k = 1 by omega) with rfl | rfl
      · omega
      · rw [Nat.mul_one] at hk; exact h.np (by rw [hk]; exact hr)
    · exact h0
  refine ⟨fun b hb => ?_, ?_⟩
  · have h3 := pw_dvd hd (by omega) (h.fer b hb)
    have hnb : ¬ r ∣ b := fun h => by have := Nat.le_of_dvd (by omega) h; omega
    have hf := fermat1 hr hnb
    have e : n - 1 = (k - 1) + (r - 1) * k := by
      obtain ⟨q, rfl⟩ : ∃ q, r = q + 1 := ⟨r - 1, by omega⟩
      rw [hk, Nat.add_sub_cancel, Nat.add_mul]; omega
    rw [e] at h3
    have h4 : pw r b ((r - 1) * k) = 1 := by
      rw [← pw_pw]
      show pw r (b ^ (r - 1) % r) k = 1
      rw [hf, pw_one, Nat.mod_eq_of_lt (by omega)]
    rw [← pw_add, h4, Nat.mul_one] at h3
    have := pw_lt (m := r) (by omega) b (k - 1)
    rwa [Nat.mod_eq_of_lt this] at h3
  · obtain ⟨s, hs, hsk⟩ := ex_prm k hk1
    have := h.ge11 hs (by rw [hk]; exact Nat.dvd_trans hsk ⟨r, Nat.mul_comm _ _⟩)
    have := Nat.le_of_dvd (by omega) hsk
    omega
end Go.Proofs.YtjfphobfikadlaaDoor.Num

/- Contracts: One at any numbers. -/
import Derived.Test.YtjfphobfikadlaaDoorCoElm
set_option linter.unusedVariables false
set_option linter.unusedSimpArgs false
namespace Go.Proofs.YtjfphobfikadlaaDoor
open Go.RowKit Num

/-- What One asks of its arguments first. -/
def OneIn (p need lies : Int) (X Y : List Int) (val : Bool) : Prop :=
  1 ≤ need ∧ 0 ≤ lies ∧ X.length = Y.length ∧ X.length ≤ 16 ∧ (∀ i, i < X.length → 0 ≤ X.getD i 0 ∧ X.getD i 0 < p) ∧ (∀ i, i < Y.length → 0 ≤ Y.getD i 0 ∧ Y.getD i 0 < p) ∧ val = true ∧ (∀ i j, i < X.length → j < i → X.getD j 0 ≠ X.getD i 0)
def OneEnough (need lies : Int) (X : List Int) : Prop := need ≤ X.length ∧ lies ≤ X.length ∧ need + 2 * lies ≤ X.length
def OneQ (Q : Ending → World → Prop) (e : Ending) (w : World) : Prop := Q e w
set_option maxRecDepth 100000 in
set_option maxHeartbeats 4000000 in
/-- The invalid ones, those that are too few, and those that go to 'one'. -/
theorem c_One (p need lies : Int) (val : Bool) (vx vy : Value) (X Y : List Int) (S T : Nat → Prop) (w : World) (Q : Ending → World → Prop) (hx : IntsAt w S vx X) (hy : IntsAt w T vy Y) (lx : X.length ≤ 1000000) (ly : Y.length ≤ 1000000)
    (hnr : -9223372036854775808 ≤ need ∧ need ≤ 9223372036854775807) (hlr : -9223372036854775808 ≤ lies ∧ lies ≤ 9223372036854775807)
    (hval : Calls Tryd.prog 54 #[.int .i64 p] w fun e w' => e = .returned (.bool val) ∧ w = w')
    (h1 : ¬ OneIn p need lies X Y val → Q (.returned (.tuple #[.slice none 0 0, .int .i64 1])) w)
    (h2 : OneIn p need lies X Y val → ¬ OneEnough need lies X → Q (.returned (.tuple #[.slice none 0 0, .int .i64 5])) w)
    (h3 : OneIn p need lies X Y val → OneEnough need lies X → Calls Tryd.prog 32 #[.int .i64 p, .int .i64 need, .int .i64 lies, vx, vy] w fun e w' => ∃ v u, e = .returned (.tuple #[v, u]) ∧ Q e w') :
    Calls Tryd.prog 20 #[.int .i64 p, .int .i64 need, .int .i64 lies, vx, vy] w (OneQ Q) := by
  have hex := c_Elements p val vx X S w hx lx hval
  have hey := c_Elements p val vy Y T w hy ly hval
  have hdf := c_different vx X S w hx lx
  obtain ⟨A, n, ca, rfl, hn, hnc, hcc⟩ := id hx
  obtain ⟨B, m, cb, rfl, hm, hmc, hcd⟩ := id hy
  unfold OneIn at h1 h2 h3
  unfold OneEnough at h2 h3
  rw [← hn] at hex hdf h1 h2 h3 lx
  rw [← hm] at hey h1 h2 h3 ly
  have HEX := Lib.hid hex
  have HEY := Lib.hid hey
  have HDF := Lib.hid hdf
  have H1 := Lib.hid h1
  have H2 := Lib.hid h2
  have H3 := Lib.hid h3
  clear hx hy hn hm hcc hcd hval hex hey hdf h1 h2 h3
  by_cases h1 : need < 1
  · have t1 : decide (need < 1) = true := decide_eq_true h1
    have HH := Lib.hid h1
    clear h1
    go_enter Tryd.func20, Tryd.ntmps20
    go_wp2_with fail
    go_ret2
    show Q _ _
    exact H1.out (fun h => by have := HH.out; have := h.1; omega)
  have t1 : decide (need < 1) = false := decide_eq_false h1
  by_cases h2 : lies < 0
  · have t2 : decide (lies < 0) = true := decide_eq_true h2
    have HH := Lib.hid h2
    clear h1 h2
    go_enter Tryd.func20, Tryd.ntmps20
    go_wp2_with fail
    go_ret2
    show Q _ _
    exact H1.out (fun h => by have := HH.out; have := h.2.1; omega)
  have t2 : decide (lies < 0) = false := decide_eq_false h2
  by_cases h3 : n = m
  case neg =>
    have t3 : ((n : Int) != (m : Int)) = true := by simp; omega
    have HH := Lib.hid h3
    clear h1 h2 h3
    go_enter Tryd.func20, Tryd.ntmps20
    go_wp2_with fail
    go_ret2
    show Q _ _
    exact H1.out (fun h => HH.out h.2.2.1)
  have t3 : ((n : Int) != (m : Int)) = false := by simp; omega
  have HH3 := Lib.hid h3
  by_cases h4 : (16 : Int) < (n : Int)
  · have t4 : decide ((16 : Int) < (n : Int)) = true := decide_eq_true h4
    have HH := Lib.hid h4
    clear h1 h2 h3 h4
    go_enter Tryd.func20, Tryd.ntmps20
    go_wp2_with fail
    go_ret2
    show Q _ _
    exact H1.out (fun h => by have := HH.out; have := h.2.2.2.1; omega)
  have t4 : decide ((16 : Int) < (n : Int)) = false := decide_eq_false h4
  have n16 : (n : Int) ≤ 16 := by omega
  have k1 : 1 ≤ need := by omega
  have k2 : 0 ≤ lies := by omega
  clear h1 h2 h3 h4
  go_enter Tryd.func20, Tryd.ntmps20
  go_wp2_with fail
  refine HEX.out.mono ?_
  rintro e w' ⟨b1, rfl, hb1, rfl⟩
  have G1 := Lib.hid hb1
  clear hb1
  cases b1 with
  | false =>
    go_wp2_with fail
    go_ret2
    show Q _ _
    exact H1.out fun h => absurd (G1.out.2 ⟨h.2.2.2.2.1, h.2.2.2.2.2.2.1⟩) (by simp)
  | true =>
    go_wp2_with fail
    refine HEY.out.mono ?_
    rintro e w' ⟨b2, rfl, hb2, rfl⟩
    have G2 := Lib.hid hb2
    clear hb2
    cases b2 with
    | false =>
      go_wp2_with fail
      go_ret2
      show Q _ _
      exact H1.out fun h => absurd (G2.out.2 ⟨h.2.2.2.2.2.1, h.2.2.2.2.2.2.1⟩) (by simp)
    | true =>
      go_wp2_with fail
      refine HDF.out.mono ?_
      rintro e w' ⟨b3, rfl, hb3, rfl⟩
      have G3 := Lib.hid hb3
      clear hb3
      cases b3 with
      | false =>
        go_wp2_with fail
        go_ret2
        show Q _ _
        exact H1.out fun h => absurd (G3.out.2 h.2.2.2.2.2.2.2) (by simp)
      | true =>
        have hin := And.intro k1 <| And.intro k2 <| And.intro HH3.out <| And.intro (show n ≤ 16 by omega) <| And.intro (G1.out.1 (by simp)).1 <| And.intro (G2.out.1 (by simp)).1 <| And.intro (G1.out.1 (by simp)).2 (G3.out.1 (by simp))
        have h2 := H2.out hin
        have h3 := H3.out hin
        have H2' := Lib.hid h2
        have H3' := Lib.hid h3
        clear hin h2 h3 H2 H3 H1
        by_cases e1 : (n : Int) < need
        · have s1 : decide ((n : Int) < need) = true := decide_eq_true e1
          have HH := Lib.hid e1
          clear e1
          go_wp2_with fail
          go_ret2
          show Q _ _
          exact H2'.out fun h => by have := HH.out; have := h.1; omega
        have s1 : decide ((n : Int) < need) = false := decide_eq_false e1
        by_cases e2 : (n : Int) < lies
        · have s2 : decide ((n : Int) < lies) = true := decide_eq_true e2
          have HH := Lib.hid e2
          clear e1 e2
          go_wp2_with fail
          go_ret2
          show Q _ _
          exact H2'.out fun h => by have := HH.out; have := h.2.1; omega
        have s2 : decide ((n : Int) < lies) = false := decide_eq_false e2
        have k3 : need ≤ 16 := by omega
        have k4 : lies ≤ 16 := by omega
        by_cases e3 : (n : Int) < need + 2 * lies
        · have s3 : decide ((n : Int) < need + 2 * lies) = true := decide_eq_true e3
          have HH := Lib.hid e3
          clear e1 e2 e3
          go_wp2_with fail
          go_ret2
          show Q _ _
          exact H2'.out fun h => by have := HH.out; have := h.2.2; omega
        have s3 : decide ((n : Int) < need + 2 * lies) = false := decide_eq_false e3
        have h4 := H3'.out ⟨by omega, by omega, by omega⟩
        have H4 := Lib.hid h4
        clear e1 e2 e3 h4 H3' H2'
        go_wp2_with fail
        refine H4.out.mono ?_
        rintro e w' ⟨v, u, rfl, hq⟩
        have HQ := Lib.hid hq
        clear hq
        go_wp2_with fail
        go_ret2
        show Q _ _
        exact HQ.out
end Go.Proofs.YtjfphobfikadlaaDoor

/- Contracts: slices.Equal of answers, of shows and of numbers. -/
import Derived.Test.YthibelndhcnifaaGreatDoorX17
import Derived.BigQuiet
set_option linter.unusedVariables false
set_option linter.unusedSimpArgs false
namespace Go.Proofs.YthibelndhcnifaaGreatDoor
open Go.RowKit Num

set_option maxRecDepth 100000 in
set_option maxHeartbeats 2000000 in
theorem q_EqA (va vb : Value) (La Lb : List Ans) (w : World) (ha : AnssAt w (· < w.heap.size) va La) (hb : AnssAt w (· < w.heap.size) vb Lb) (hla : La.length ≤ 1000000) (hlb : Lb.length ≤ 1000000) :
    Calls Tryz.prog 34 #[va, vb] w (SameB (La = Lb) w) := by
  obtain ⟨A, n, c, rfl, hn, hnc, hA⟩ := ha
  obtain ⟨B, m, k, rfl, hm, hmk, hB⟩ := hb
  have n1 : n ≤ 1000000 := by omega
  have m1 : m ≤ 1000000 := by omega
  have HA := Lib.hid hA
  have HB := Lib.hid hB
  have HN := Lib.hid hn
  have HM := Lib.hid hm
  clear hA hB hn hm hla hlb
  by_cases hnm : n = m
  · subst hnm
    go_enter Tryz.func34, Tryz.ntmps34
    go_wp2_with fail
    go_loopw [5, 13] (fun v5 v13 wr => ∃ i : Nat, i ≤ n ∧ v13 = .int .i64 (i : Int) ∧ (∀ q, q < i → ansAt La q = ansAt Lb q) ∧ Below w.heap.size w wr) (fun _ v13 _ => n - (intOf v13).toNat)
    case atStart => exact ⟨0, by omega, rfl, fun q hq => absurd hq (Nat.not_lt_zero _), Below.refl _ _⟩
    case round =>
      obtain ⟨i, hi, rfl, heq, hbr⟩ := hrel
      rename World => wr
      have HE := Lib.hid heq
      have HBR := Lib.hid hbr
      have hsz := hbr.size
      clear heq hbr
      by_cases hlt : i < n
      · obtain ⟨b1, o1, rfl, hS1, hc1⟩ := HA.out (by omega)
        obtain ⟨b2, o2, rfl, hS2, hc2⟩ := HB.out (by omega)
        obtain ⟨x0, x1, x2⟩ := hc1 i hlt
        obtain ⟨y0, y1, y2⟩ := hc2 i hlt
        obtain ⟨ga, hga⟩ : ∃ g, ansAt La i = g := ⟨_, rfl⟩
        obtain ⟨gb, hgb⟩ : ∃ g, ansAt Lb i = g := ⟨_, rfl⟩
        rw [hga] at x0 x1 x2
        rw [hgb] at y0 y1 y2
        obtain ⟨f1, t1, m1'⟩ := ga
        obtain ⟨f2, t2, m2'⟩ := gb
        have e0 : wr.cell? ⟨b1, o1 + i * 3, none⟩ = _ := (HBR.out.cell (p := ⟨b1, o1 + i * 3, none⟩) hS1).trans x0
        have r0 : wr.cell? ⟨b2, o2 + i * 3, none⟩ = _ := (HBR.out.cell (p := ⟨b2, o2 + i * 3, none⟩) hS2).trans y0
        have e1 : wr.cell? ⟨b1, o1 + i * 3 + 1, none⟩ = _ := (HBR.out.cell (p := ⟨b1, o1 + i * 3 + 1, none⟩) hS1).trans x1
        have r1 : wr.cell? ⟨b2, o2 + i * 3 + 1, none⟩ = _ := (HBR.out.cell (p := ⟨b2, o2 + i * 3 + 1, none⟩) hS2).trans y1
        have e2 : wr.cell? ⟨b1, o1 + i * 3 + 2, none⟩ = _ := (HBR.out.cell (p := ⟨b1, o1 + i * 3 + 2, none⟩) hS1).trans x2
        have r2 : wr.cell? ⟨b2, o2 + i * 3 + 2, none⟩ = _ := (HBR.out.cell (p := ⟨b2, o2 + i * 3 + 2, none⟩) hS2).trans y2
        have HGA := Lib.hid hga
        have HGB := Lib.hid hgb
        have zi : (i : Int) < (n : Int) := by omega
        have z0 : (0 : Int) ≤ (i : Int) := by omega
        have hfin : (f1.toList == f2.toList) = true → (t1.toList == t2.toList) = true → (m1' == m2') = true → ∀ q, q < i + 1 → ansAt La q = ansAt Lb q := fun h0 h1 h2 q hq => by
          by_cases e : q = i
          · subst e
            rw [HGA.out, HGB.out, bytes_of h0, bytes_of h1, eq_of_beq h2]
          · exact HE.out q (by omega)
        have hno : ((f1.toList == f2.toList) && (t1.toList == t2.toList) && (m1' == m2')) = false → La ≠ Lb := fun h e => by
          subst e
          have h2 := HGA.out.symm.trans HGB.out
          injection h2 with i0 i1 i2
          subst i0 i1 i2
          simp at h
        have fin0 : ((f1.toList == f2.toList) && (t1.toList == t2.toList) && (m1' == m2')) = false → SameB (La = Lb) w (.returned (.bool false)) wr := fun h => ⟨false, rfl, ⟨fun h => (by cases h), fun e => absurd e (hno h)⟩, HBR.out⟩
        have fin1 : ∀ nq, ((f1.toList == f2.toList) && (t1.toList == t2.toList) && (m1' == m2')) = false → SameB (La = Lb) w (.returned (.bool false)) (wr.drewN nq) := fun nq h => ⟨false, rfl, ⟨fun h => (by cases h), fun e => absurd e (hno h)⟩, below_drewN HBR.out nq⟩
        have HFIN := Lib.hid hfin
        have FIN0 := Lib.hid fin1
        clear x0 y0 x1 y1 x2 y2 hga hgb hc1 hc2 hfin hno fin0 fin1
        cases k0 : (f1.toList == f2.toList) <;> cases k1 : (t1.toList == t2.toList) <;> cases k2 : (m1' == m2')
        all_goals first
          | (have hff := FIN0.out
             rw [k0, k1, k2] at hff
             have HFF := Lib.hid (fun nq => hff nq rfl)
             clear hff FIN0 HFIN
             skip
             go_upto_region 6 with fail
             go_quiet (fail)
             go_wp2_with fail
             go_ret
             exact HFF.out _)
          | (have hff := HFIN.out
             rw [k0, k1, k2] at hff
             have HFF := Lib.hid (hff rfl rfl rfl)
             clear hff FIN0 HFIN
             skip
             go_upto_region 6 with fail
             go_quiet (fail)
             go_wp2_with fail
             go_roundw
             case measure => simp [intOf]; omega
             case rel => exact ⟨i + 1, by omega, by go_num, HFF.out, below_drewN HBR.out _⟩)
      · have zi : ¬ (i : Int) < (n : Int) := by omega
        have he : La = Lb := anss_eq (by have := HN.out; have := HM.out; omega) (fun q hq => HE.out q (by have := HN.out; omega))
        have HEQ := Lib.hid he
        clear he
        go_wp2_with fail
        go_ret
        exact ⟨true, rfl, ⟨fun _ => HEQ.out, fun _ => rfl⟩, HBR.out⟩
  · have hne : ((n : Int) == (m : Int)) = false := by simp; omega
    have hne2 : ((n : Int) != (m : Int)) = true := by simp; omega
    have he : La ≠ Lb := fun e => hnm (by rw [HN.out, HM.out, e])
    have HEQ := Lib.hid he
    clear he
    go_enter Tryz.func34, Tryz.ntmps34
    go_wp2_with fail
    go_ret
    exact ⟨false, rfl, ⟨fun h => (by cases h), fun e => absurd e HEQ.out⟩, Below.refl _ _⟩
set_option maxRecDepth 100000 in
set_option maxHeartbeats 2000000 in
theorem q_EqI (va vb : Value) (La Lb : List Int) (w : World) (ha : IntsAt w (· < w.heap.size) va La) (hb : IntsAt w (· < w.heap.size) vb Lb) (hla : La.length ≤ 1000000) (hlb : Lb.length ≤ 1000000) :
    Calls Tryz.prog 33 #[va, vb] w (SameB (La = Lb) w) := by
  obtain ⟨A, n, c, rfl, hn, hnc, hA⟩ := ha
  obtain ⟨B, m, k, rfl, hm, hmk, hB⟩ := hb
  have n1 : n ≤ 1000000 := by omega
  have m1 : m ≤ 1000000 := by omega
  have HA := Lib.hid hA
  have HB := Lib.hid hB
  have HN := Lib.hid hn
  have HM := Lib.hid hm
  clear hA hB hn hm hla hlb
  by_cases hnm : n = m
  · subst hnm
    go_enter Tryz.func33, Tryz.ntmps33
    go_wp2_with fail
    go_loopw [5, 13] (fun v5 v13 wr => ∃ i : Nat, i ≤ n ∧ v13 = .int .i64 (i : Int) ∧ (∀ q, q < i → La.getD q 0 = Lb.getD q 0) ∧ Below w.heap.size w wr) (fun _ v13 _ => n - (intOf v13).toNat)
    case atStart => exact ⟨0, by omega, rfl, fun q hq => absurd hq (Nat.not_lt_zero _), Below.refl _ _⟩
    case round =>
      obtain ⟨i, hi, rfl, heq, hbr⟩ := hrel
      rename World => wr
      have HE := Lib.hid heq
      have HBR := Lib.hid hbr
      have hsz := hbr.size
      clear heq hbr
      by_cases hlt : i < n
      · obtain ⟨b1, o1, rfl, hS1, hc1⟩ := HA.out (by omega)
        obtain ⟨b2, o2, rfl, hS2, hc2⟩ := HB.out (by omega)
        have x0 := hc1 i hlt
        have y0 := hc2 i hlt
        obtain ⟨ga, hga⟩ : ∃ g, La.getD i 0 = g := ⟨_, rfl⟩
        obtain ⟨gb, hgb⟩ : ∃ g, Lb.getD i 0 = g := ⟨_, rfl⟩
        rw [hga] at x0
        rw [hgb] at y0
        obtain ⟨m1', hm1⟩ : ∃ x, ga = x := ⟨_, rfl⟩
        obtain ⟨m2', hm2⟩ : ∃ x, gb = x := ⟨_, rfl⟩
        rw [hm1] at hga x0
        rw [hm2] at hgb y0
        clear hm1 hm2 ga gb
        have e0 : wr.cell? ⟨b1, o1 + i, none⟩ = _ := (HBR.out.cell (p := ⟨b1, o1 + i, none⟩) hS1).trans x0
        have r0 : wr.cell? ⟨b2, o2 + i, none⟩ = _ := (HBR.out.cell (p := ⟨b2, o2 + i, none⟩) hS2).trans y0
        have HGA := Lib.hid hga
        have HGB := Lib.hid hgb
        have zi : (i : Int) < (n : Int) := by omega
        have z0 : (0 : Int) ≤ (i : Int) := by omega
        have hfin : (m1' == m2') = true → ∀ q, q < i + 1 → La.getD q 0 = Lb.getD q 0 := fun h0 q hq => by
          by_cases e : q = i
          · subst e
            rw [HGA.out, HGB.out, eq_of_beq h0]
          · exact HE.out q (by omega)
        have hno : ((m1' == m2')) = false → La ≠ Lb := fun h e => by
          subst e
          have h2 := HGA.out.symm.trans HGB.out
          subst h2
          simp at h
        have fin0 : ((m1' == m2')) = false → SameB (La = Lb) w (.returned (.bool false)) wr := fun h => ⟨false, rfl, ⟨fun h => (by cases h), fun e => absurd e (hno h)⟩, HBR.out⟩
        have fin1 : ∀ nq, ((m1' == m2')) = false → SameB (La = Lb) w (.returned (.bool false)) (wr.drewN nq) := fun nq h => ⟨false, rfl, ⟨fun h => (by cases h), fun e => absurd e (hno h)⟩, below_drewN HBR.out nq⟩
        have HFIN := Lib.hid hfin
        have FIN0 := Lib.hid fin1
        clear x0 y0 hga hgb hc1 hc2 hfin hno fin0 fin1
        cases k0 : (m1' == m2')
        all_goals first
          | (have hff := FIN0.out
             rw [k0] at hff
             have HFF := Lib.hid (fun nq => hff nq rfl)
             clear hff FIN0 HFIN
             have ki : (m1' != m2') = true := by simpa [bne] using k0
             go_upto_region 6 with fail
             go_quiet (fail)
             go_wp2_with fail
             go_ret
             exact HFF.out _)
          | (have hff := HFIN.out
             rw [k0] at hff
             have HFF := Lib.hid (hff rfl)
             clear hff FIN0 HFIN
             have ki : (m1' != m2') = false := by simpa [bne] using k0
             go_upto_region 6 with fail
             go_quiet (fail)
             go_wp2_with fail
             go_roundw
             case measure => simp [intOf]; omega
             case rel => exact ⟨i + 1, by omega, by go_num, HFF.out, below_drewN HBR.out _⟩)
      · have zi : ¬ (i : Int) < (n : Int) := by omega
        have he : La = Lb := ints_eq (by have := HN.out; have := HM.out; omega) (fun q hq => HE.out q (by have := HN.out; omega))
        have HEQ := Lib.hid he
        clear he
        go_wp2_with fail
        go_ret
        exact ⟨true, rfl, ⟨fun _ => HEQ.out, fun _ => rfl⟩, HBR.out⟩
  · have hne : ((n : Int) == (m : Int)) = false := by simp; omega
    have hne2 : ((n : Int) != (m : Int)) = true := by simp; omega
    have he : La ≠ Lb := fun e => hnm (by rw [HN.out, HM.out, e])
    have HEQ := Lib.hid he
    clear he
    go_enter Tryz.func33, Tryz.ntmps33
    go_wp2_with fail
    go_ret
    exact ⟨false, rfl, ⟨fun h => (by cases h), fun e => absurd e HEQ.out⟩, Below.refl _ _⟩
set_option maxRecDepth 100000 in
set_option maxHeartbeats 2000000 in
theorem q_EqS (va vb : Value) (La Lb : List Shw) (w : World) (ha : ShwsAt w (· < w.heap.size) va La) (hb : ShwsAt w (· < w.heap.size) vb Lb) (hla : La.length ≤ 1000000) (hlb : Lb.length ≤ 1000000) :
    Calls Tryz.prog 36 #[va, vb] w (SameB (La = Lb) w) := by
  obtain ⟨A, n, c, rfl, hn, hnc, hA⟩ := ha
  obtain ⟨B, m, k, rfl, hm, hmk, hB⟩ := hb
  have n1 : n ≤ 1000000 := by omega
  have m1 : m ≤ 1000000 := by omega
  have HA := Lib.hid hA
  have HB := Lib.hid hB
  have HN := Lib.hid hn
  have HM := Lib.hid hm
  clear hA hB hn hm hla hlb
  by_cases hnm : n = m
  · subst hnm
    go_enter Tryz.func36, Tryz.ntmps36
    go_wp2_with fail
    go_loopw [5, 13] (fun v5 v13 wr => ∃ i : Nat, i ≤ n ∧ v13 = .int .i64 (i : Int) ∧ (∀ q, q < i → shwAt La q = shwAt Lb q) ∧ Below w.heap.size w wr) (fun _ v13 _ => n - (intOf v13).toNat)
    case atStart => exact ⟨0, by omega, rfl, fun q hq => absurd hq (Nat.not_lt_zero _), Below.refl _ _⟩
    case round =>
      obtain ⟨i, hi, rfl, heq, hbr⟩ := hrel
      rename World => wr
      have HE := Lib.hid heq
      have HBR := Lib.hid hbr
      have hsz := hbr.size
      clear heq hbr
      by_cases hlt : i < n
      · obtain ⟨b1, o1, rfl, hS1, hc1⟩ := HA.out (by omega)
        obtain ⟨b2, o2, rfl, hS2, hc2⟩ := HB.out (by omega)
        obtain ⟨x0, x1⟩ := hc1 i hlt
        obtain ⟨y0, y1⟩ := hc2 i hlt
        obtain ⟨ga, hga⟩ : ∃ g, shwAt La i = g := ⟨_, rfl⟩
        obtain ⟨gb, hgb⟩ : ∃ g, shwAt Lb i = g := ⟨_, rfl⟩
        rw [hga] at x0 x1
        rw [hgb] at y0 y1
        obtain ⟨f1, t1⟩ := ga
        obtain ⟨f2, t2⟩ := gb
        have e0 : wr.cell? ⟨b1, o1 + i * 2, none⟩ = _ := (HBR.out.cell (p := ⟨b1, o1 + i * 2, none⟩) hS1).trans x0
        have r0 : wr.cell? ⟨b2, o2 + i * 2, none⟩ = _ := (HBR.out.cell (p := ⟨b2, o2 + i * 2, none⟩) hS2).trans y0
        have e1 : wr.cell? ⟨b1, o1 + i * 2 + 1, none⟩ = _ := (HBR.out.cell (p := ⟨b1, o1 + i * 2 + 1, none⟩) hS1).trans x1
        have r1 : wr.cell? ⟨b2, o2 + i * 2 + 1, none⟩ = _ := (HBR.out.cell (p := ⟨b2, o2 + i * 2 + 1, none⟩) hS2).trans y1
        have HGA := Lib.hid hga
        have HGB := Lib.hid hgb
        have zi : (i : Int) < (n : Int) := by omega
        have z0 : (0 : Int) ≤ (i : Int) := by omega
        have hfin : (f1.toList == f2.toList) = true → (t1.toList == t2.toList) = true → ∀ q, q < i + 1 → shwAt La q = shwAt Lb q := fun h0 h1 q hq => by
          by_cases e : q = i
          · subst e
            rw [HGA.out, HGB.out, bytes_of h0, bytes_of h1]
          · exact HE.out q (by omega)
        have hno : ((f1.toList == f2.toList) && (t1.toList == t2.toList)) = false → La ≠ Lb := fun h e => by
          subst e
          have h2 := HGA.out.symm.trans HGB.out
          injection h2 with i0 i1
          subst i0 i1
          simp at h
        have fin0 : ((f1.toList == f2.toList) && (t1.toList == t2.toList)) = false → SameB (La = Lb) w (.returned (.bool false)) wr := fun h => ⟨false, rfl, ⟨fun h => (by cases h), fun e => absurd e (hno h)⟩, HBR.out⟩
        have fin1 : ∀ nq, ((f1.toList == f2.toList) && (t1.toList == t2.toList)) = false → SameB (La = Lb) w (.returned (.bool false)) (wr.drewN nq) := fun nq h => ⟨false, rfl, ⟨fun h => (by cases h), fun e => absurd e (hno h)⟩, below_drewN HBR.out nq⟩
        have HFIN := Lib.hid hfin
        have FIN0 := Lib.hid fin1
        clear x0 y0 x1 y1 hga hgb hc1 hc2 hfin hno fin0 fin1
        cases k0 : (f1.toList == f2.toList) <;> cases k1 : (t1.toList == t2.toList)
        all_goals first
          | (have hff := FIN0.out
             rw [k0, k1] at hff
             have HFF := Lib.hid (fun nq => hff nq rfl)
             clear hff FIN0 HFIN
             skip
             go_upto_region 6 with fail
             go_quiet (fail)
             go_wp2_with fail
             go_ret
             exact HFF.out _)
          | (have hff := HFIN.out
             rw [k0, k1] at hff
             have HFF := Lib.hid (hff rfl rfl)
             clear hff FIN0 HFIN
             skip
             go_upto_region 6 with fail
             go_quiet (fail)
             go_wp2_with fail
             go_roundw
             case measure => simp [intOf]; omega
             case rel => exact ⟨i + 1, by omega, by go_num, HFF.out, below_drewN HBR.out _⟩)
      · have zi : ¬ (i : Int) < (n : Int) := by omega
        have he : La = Lb := shws_eq (by have := HN.out; have := HM.out; omega) (fun q hq => HE.out q (by have := HN.out; omega))
        have HEQ := Lib.hid he
        clear he
        go_wp2_with fail
        go_ret
        exact ⟨true, rfl, ⟨fun _ => HEQ.out, fun _ => rfl⟩, HBR.out⟩
  · have hne : ((n : Int) == (m : Int)) = false := by simp; omega
    have hne2 : ((n : Int) != (m : Int)) = true := by simp; omega
    have he : La ≠ Lb := fun e => hnm (by rw [HN.out, HM.out, e])
    have HEQ := Lib.hid he
    clear he
    go_enter Tryz.func36, Tryz.ntmps36
    go_wp2_with fail
    go_ret
    exact ⟨false, rfl, ⟨fun h => (by cases h), fun e => absurd e HEQ.out⟩, Below.refl _ _⟩
end Go.Proofs.YthibelndhcnifaaGreatDoor

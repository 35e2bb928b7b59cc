/- Contracts: slices.Equal of answers, of shows and of numbers. Contracts: statement.Same's comparison of terms, and slices.EqualFunc with it. -/
import Derived.Test.YtaljcojkcgjmcaaGreatDoorX20
import Derived.BigQuiet
set_option linter.unusedVariables false
set_option linter.unusedSimpArgs false
namespace Go.Proofs.YtaljcojkcgjmcaaGreatDoor
open Go.RowKit Num

set_option maxRecDepth 100000 in
set_option maxHeartbeats 2000000 in
theorem q_EqA (va vb : Value) (La Lb : List Ans) (w : World) (ha : AnssAt w (· < w.heap.size) va La) (hb : AnssAt w (· < w.heap.size) vb Lb) (hla : La.length ≤ 1000000) (hlb : Lb.length ≤ 1000000) :
    Calls Tryz.prog 28 #[va, vb] w (SameB (La = Lb) w) := by
  obtain ⟨A, n, c, rfl, hn, hnc, hA⟩ := ha
  obtain ⟨B, m, k, rfl, hm, hmk, hB⟩ := hb
  have n1 : n ≤ 1000000 := by omega
  have m1 : m ≤ 1000000 := by omega
  have HA := Lib.hid hA
  have HB := Lib.hid hB
  have HN := Lib.hid hn
  have HM := Lib.hid hm
  clear hA hB hn hm hla hlb
  by_cases hnm : n = m
  · subst hnm
    go_enter Tryz.func28, Tryz.ntmps28
    go_wp2_with fail
    go_loopw [5, 13] (fun v5 v13 wr => ∃ i : Nat, i ≤ n ∧ v13 = .int .i64 (i : Int) ∧ (∀ q, q < i → ansAt La q = ansAt Lb q) ∧ Below w.heap.size w wr) (fun _ v13 _ => n - (intOf v13).toNat)
    case atStart => exact ⟨0, by omega, rfl, fun q hq => absurd hq (Nat.not_lt_zero _), Below.refl _ _⟩
    case round =>
      obtain ⟨i, hi, rfl, heq, hbr⟩ := hrel
      rename World => wr
      have HE := Lib.hid heq
      have HBR := Lib.hid hbr
      have hsz := hbr.size
      clear heq hbr
      by_cases hlt : i < n
      · obtain ⟨b1, o1, rfl, hS1, hc1⟩ := HA.out (by omega)
        obtain ⟨b2, o2, rfl, hS2, hc2⟩ := HB.out (by omega)
        obtain ⟨x0, x1, x2⟩ := hc1 i hlt
        obtain ⟨y0, y1, y2⟩ := hc2 i hlt
        obtain ⟨ga, hga⟩ : ∃ g, ansAt La i = g := ⟨_, rfl⟩
        obtain ⟨gb, hgb⟩ : ∃ g, ansAt Lb i = g := ⟨_, rfl⟩
        rw [hga] at x0 x1 x2
        rw [hgb] at y0 y1 y2
        obtain ⟨f1, t1, m1'⟩ := ga
        obtain ⟨f2, t2, m2'⟩ := gb
        have e0 : wr.cell? ⟨b1, o1 + i * 3, none⟩ = _ := (HBR.out.cell (p := ⟨b1, o1 + i * 3, none⟩) hS1).trans x0
        have r0 : wr.cell? ⟨b2, o2 + i * 3, none⟩ = _ := (HBR.out.cell (p := ⟨b2, o2 + i * 3, none⟩) hS2).trans y0
        have e1 : wr.cell? ⟨b1, o1 + i * 3 + 1, none⟩ = _ := (HBR.out.cell (p := ⟨b1, o1 + i * 3 + 1, none⟩) hS1).trans x1
        have r1 : wr.cell? ⟨b2, o2 + i * 3 + 1, none⟩ = _ := (HBR.out.cell (p := ⟨b2, o2 + i * 3 + 1, none⟩) hS2).trans y1
        have e2 : wr.cell? ⟨b1, o1 + i * 3 + 2, none⟩ = _ := (HBR.out.cell (p := ⟨b1, o1 + i * 3 + 2, none⟩) hS1).trans x2
        have r2 : wr.cell? ⟨b2, o2 + i * 3 + 2, none⟩ = _ := (HBR.out.cell (p := ⟨b2, o2 + i * 3 + 2, none⟩) hS2).trans y2
        have HGA := Lib.hid hga
        have HGB := Lib.hid hgb
        have zi : (i : Int) < (n : Int) := by omega
        have z0 : (0 : Int) ≤ (i : Int) := by omega
        have hfin : (f1.toList == f2.toList) = true → (t1.toList == t2.toList) = true → (m1' == m2') = true → ∀ q, q < i + 1 → ansAt La q = ansAt Lb q := fun h0 h1 h2 q hq => by
          by_cases e : q = i
          · subst e
            rw [HGA.out, HGB.out, bytes_of h0, bytes_of h1, eq_of_beq h2]
          · exact HE.out q (by omega)
        have hno : ((f1.toList == f2.toList) && (t1.toList == t2.toList) && (m1' == m2')) = false → La ≠ Lb := fun h e => by
          subst e
          have h2 := HGA.out.symm.trans HGB.out
          injection h2 with i0 i1 i2
          subst i0 i1 i2
          simp at h
        have fin0 : ((f1.toList == f2.toList) && (t1.toList == t2.toList) && (m1' == m2')) = false → SameB (La = Lb) w (.returned (.bool false)) wr := fun h => ⟨false, rfl, ⟨fun h => (by cases h), fun e => absurd e (hno h)⟩, HBR.out⟩
        have fin1 : ∀ nq, ((f1.toList == f2.toList) && (t1.toList == t2.toList) && (m1' == m2')) = false → SameB (La = Lb) w (.returned (.bool false)) (wr.drewN nq) := fun nq h => ⟨false, rfl, ⟨fun h => (by cases h), fun e => absurd e (hno h)⟩, below_drewN HBR.out nq⟩
        have HFIN := Lib.hid hfin
        have FIN0 := Lib.hid fin1
        clear x0 y0 x1 y1 x2 y2 hga hgb hc1 hc2 hfin hno fin0 fin1
        cases k0 : (f1.toList == f2.toList) <;> cases k1 : (t1.toList == t2.toList) <;> cases k2 : (m1' == m2')
        all_goals first
          | (have hff := FIN0.out
             rw [k0, k1, k2] at hff
             have HFF := Lib.hid (fun nq => hff nq rfl)
             clear hff FIN0 HFIN
             skip
             go_upto_region 6 with fail
             go_quiet (fail)
             go_wp2_with fail
             go_ret
             exact HFF.out _)
          | (have hff := HFIN.out
             rw [k0, k1, k2] at hff
             have HFF := Lib.hid (hff rfl rfl rfl)
             clear hff FIN0 HFIN
             skip
             go_upto_region 6 with fail
             go_quiet (fail)
             go_wp2_with fail
             go_roundw
             case measure => simp [intOf]; omega
             case rel => exact ⟨i + 1, by omega, by go_num, HFF.out, below_drewN HBR.out _⟩)
      · have zi : ¬ (i : Int) < (n : Int) := by omega
        have he : La = Lb := anss_eq (by have := HN.out; have := HM.out; omega) (fun q hq => HE.out q (by have := HN.out; omega))
        have HEQ := Lib.hid he
        clear he
        go_wp2_with fail
        go_ret
        exact ⟨true, rfl, ⟨fun _ => HEQ.out, fun _ => rfl⟩, HBR.out⟩
  · have hne : ((n : Int) == (m : Int)) = false := by simp; omega
    have hne2 : ((n : Int) != (m : Int)) = true := by simp; omega
    have he : La ≠ Lb := fun e => hnm (by rw [HN.out, HM.out, e])
    have HEQ := Lib.hid he
    clear he
    go_enter Tryz.func28, Tryz.ntmps28
    go_wp2_with fail
    go_ret
    exact ⟨false, rfl, ⟨fun h => (by cases h), fun e => absurd e HEQ.out⟩, Below.refl _ _⟩
set_option maxRecDepth 100000 in
set_option maxHeartbeats 2000000 in
theorem q_EqI (va vb : Value) (La Lb : List Int) (w : World) (ha : IntsAt w (· < w.heap.size) va La) (hb : IntsAt w (· < w.heap.size) vb Lb) (hla : La.length ≤ 1000000) (hlb : Lb.length ≤ 1000000) :
    Calls Tryz.prog 27 #[va, vb] w (SameB (La = Lb) w) := by
  obtain ⟨A, n, c, rfl, hn, hnc, hA⟩ := ha
  obtain ⟨B, m, k, rfl, hm, hmk, hB⟩ := hb
  have n1 : n ≤ 1000000 := by omega
  have m1 : m ≤ 1000000 := by omega
  have HA := Lib.hid hA
  have HB := Lib.hid hB
  have HN := Lib.hid hn
  have HM := Lib.hid hm
  clear hA hB hn hm hla hlb
  by_cases hnm : n = m
  · subst hnm
    go_enter Tryz.func27, Tryz.ntmps27
    go_wp2_with fail
    go_loopw [5, 13] (fun v5 v13 wr => ∃ i : Nat, i ≤ n ∧ v13 = .int .i64 (i : Int) ∧ (∀ q, q < i → La.getD q 0 = Lb.getD q 0) ∧ Below w.heap.size w wr) (fun _ v13 _ => n - (intOf v13).toNat)
    case atStart => exact ⟨0, by omega, rfl, fun q hq => absurd hq (Nat.not_lt_zero _), Below.refl _ _⟩
    case round =>
      obtain ⟨i, hi, rfl, heq, hbr⟩ := hrel
      rename World => wr
      have HE := Lib.hid heq
      have HBR := Lib.hid hbr
      have hsz := hbr.size
      clear heq hbr
      by_cases hlt : i < n
      · obtain ⟨b1, o1, rfl, hS1, hc1⟩ := HA.out (by omega)
        obtain ⟨b2, o2, rfl, hS2, hc2⟩ := HB.out (by omega)
        have x0 := hc1 i hlt
        have y0 := hc2 i hlt
        obtain ⟨ga, hga⟩ : ∃ g, La.getD i 0 = g := ⟨_, rfl⟩
        obtain ⟨gb, hgb⟩ : ∃ g, Lb.getD i 0 = g := ⟨_, rfl⟩
        rw [hga] at x0
        rw [hgb] at y0
        obtain ⟨m1', hm1⟩ : ∃ x, ga = x := ⟨_, rfl⟩
        obtain ⟨m2', hm2⟩ : ∃ x, gb = x := ⟨_, rfl⟩
        rw [hm1] at hga x0
        rw [hm2] at hgb y0
        clear hm1 hm2 ga gb
        have e0 : wr.cell? ⟨b1, o1 + i, none⟩ = _ := (HBR.out.cell (p := ⟨b1, o1 + i, none⟩) hS1).trans x0
        have r0 : wr.cell? ⟨b2, o2 + i, none⟩ = _ := (HBR.out.cell (p := ⟨b2, o2 + i, none⟩) hS2).trans y0
        have HGA := Lib.hid hga
        have HGB := Lib.hid hgb
        have zi : (i : Int) < (n : Int) := by omega
        have z0 : (0 : Int) ≤ (i : Int) := by omega
        have hfin : (m1' == m2') = true → ∀ q, q < i + 1 → La.getD q 0 = Lb.getD q 0 := fun h0 q hq => by
          by_cases e : q = i
          · subst e
            rw [HGA.out, HGB.out, eq_of_beq h0]
          · exact HE.out q (by omega)
        have hno : ((m1' == m2')) = false → La ≠ Lb := fun h e => by
          subst e
          have h2 := HGA.out.symm.trans HGB.out
          subst h2
          simp at h
        have fin0 : ((m1' == m2')) = false → SameB (La = Lb) w (.returned (.bool false)) wr := fun h => ⟨false, rfl, ⟨fun h => (by cases h), fun e => absurd e (hno h)⟩, HBR.out⟩
        have fin1 : ∀ nq, ((m1' == m2')) = false → SameB (La = Lb) w (.returned (.bool false)) (wr.drewN nq) := fun nq h => ⟨false, rfl, ⟨fun h => (by cases h), fun e => absurd e (hno h)⟩, below_drewN HBR.out nq⟩
        have HFIN := Lib.hid hfin
        have FIN0 := Lib.hid fin1
        clear x0 y0 hga hgb hc1 hc2 hfin hno fin0 fin1
        cases k0 : (m1' == m2')
        all_goals first
          | (have hff := FIN0.out
             rw [k0] at hff
             have HFF := Lib.hid (fun nq => hff nq rfl)
             clear hff FIN0 HFIN
             have ki : (m1' != m2') = true := by simpa [bne] using k0
             go_upto_region 6 with fail
             go_quiet (fail)
             go_wp2_with fail
             go_ret
             exact HFF.out _)
          | (have hff := HFIN.out
             rw [k0] at hff
             have HFF := Lib.hid (hff rfl)
             clear hff FIN0 HFIN
             have ki : (m1' != m2') = false := by simpa [bne] using k0
             go_upto_region 6 with fail
             go_quiet (fail)
             go_wp2_with fail
             go_roundw
             case measure => simp [intOf]; omega
             case rel => exact ⟨i + 1, by omega, by go_num, HFF.out, below_drewN HBR.out _⟩)
      · have zi : ¬ (i : Int) < (n : Int) := by omega
        have he : La = Lb := ints_eq (by have := HN.out; have := HM.out; omega) (fun q hq => HE.out q (by have := HN.out; omega))
        have HEQ := Lib.hid he
        clear he
        go_wp2_with fail
        go_ret
        exact ⟨true, rfl, ⟨fun _ => HEQ.out, fun _ => rfl⟩, HBR.out⟩
  · have hne : ((n : Int) == (m : Int)) = false := by simp; omega
    have hne2 : ((n : Int) != (m : Int)) = true := by simp; omega
    have he : La ≠ Lb := fun e => hnm (by rw [HN.out, HM.out, e])
    have HEQ := Lib.hid he
    clear he
    go_enter Tryz.func27, Tryz.ntmps27
    go_wp2_with fail
    go_ret
    exact ⟨false, rfl, ⟨fun h => (by cases h), fun e => absurd e HEQ.out⟩, Below.refl _ _⟩
set_option maxRecDepth 100000 in
set_option maxHeartbeats 2000000 in
theorem q_EqS (va vb : Value) (La Lb : List Shw) (w : World) (ha : ShwsAt w (· < w.heap.size) va La) (hb : ShwsAt w (· < w.heap.size) vb Lb) (hla : La.length ≤ 1000000) (hlb : Lb.length ≤ 1000000) :
    Calls Tryz.prog 30 #[va, vb] w (SameB (La = Lb) w) := by
  obtain ⟨A, n, c, rfl, hn, hnc, hA⟩ := ha
  obtain ⟨B, m, k, rfl, hm, hmk, hB⟩ := hb
  have n1 : n ≤ 1000000 := by omega
  have m1 : m ≤ 1000000 := by omega
  have HA := Lib.hid hA
  have HB := Lib.hid hB
  have HN := Lib.hid hn
  have HM := Lib.hid hm
  clear hA hB hn hm hla hlb
  by_cases hnm : n = m
  · subst hnm
    go_enter Tryz.func30, Tryz.ntmps30
    go_wp2_with fail
    go_loopw [5, 13] (fun v5 v13 wr => ∃ i : Nat, i ≤ n ∧ v13 = .int .i64 (i : Int) ∧ (∀ q, q < i → shwAt La q = shwAt Lb q) ∧ Below w.heap.size w wr) (fun _ v13 _ => n - (intOf v13).toNat)
    case atStart => exact ⟨0, by omega, rfl, fun q hq => absurd hq (Nat.not_lt_zero _), Below.refl _ _⟩
    case round =>
      obtain ⟨i, hi, rfl, heq, hbr⟩ := hrel
      rename World => wr
      have HE := Lib.hid heq
      have HBR := Lib.hid hbr
      have hsz := hbr.size
      clear heq hbr
      by_cases hlt : i < n
      · obtain ⟨b1, o1, rfl, hS1, hc1⟩ := HA.out (by omega)
        obtain ⟨b2, o2, rfl, hS2, hc2⟩ := HB.out (by omega)
        obtain ⟨x0, x1⟩ := hc1 i hlt
        obtain ⟨y0, y1⟩ := hc2 i hlt
        obtain ⟨ga, hga⟩ : ∃ g, shwAt La i = g := ⟨_, rfl⟩
        obtain ⟨gb, hgb⟩ : ∃ g, shwAt Lb i = g := ⟨_, rfl⟩
        rw [hga] at x0 x1
        rw [hgb] at y0 y1
        obtain ⟨f1, t1⟩ := ga
        obtain ⟨f2, t2⟩ := gb
        have e0 : wr.cell? ⟨b1, o1 + i * 2, none⟩ = _ := (HBR.out.cell (p := ⟨b1, o1 + i * 2, none⟩) hS1).trans x0
        have r0 : wr.cell? ⟨b2, o2 + i * 2, none⟩ = _ := (HBR.out.cell (p := ⟨b2, o2 + i * 2, none⟩) hS2).trans y0
        have e1 : wr.cell? ⟨b1, o1 + i * 2 + 1, none⟩ = _ := (HBR.out.cell (p := ⟨b1, o1 + i * 2 + 1, none⟩) hS1).trans x1
        have r1 : wr.cell? ⟨b2, o2 + i * 2 + 1, none⟩ = _ := (HBR.out.cell (p := ⟨b2, o2 + i * 2 + 1, none⟩) hS2).trans y1
        have HGA := Lib.hid hga
        have HGB := Lib.hid hgb
        have zi : (i : Int) < (n : Int) := by omega
        have z0 : (0 : Int) ≤ (i : Int) := by omega
        have hfin : (f1.toList == f2.toList) = true → (t1.toList == t2.toList) = true → ∀ q, q < i + 1 → shwAt La q = shwAt Lb q := fun h0 h1 q hq => by
          by_cases e : q = i
          · subst e
            rw [HGA.out, HGB.out, bytes_of h0, bytes_of h1]
          · exact HE.out q (by omega)
        have hno : ((f1.toList == f2.toList) && (t1.toList == t2.toList)) = false → La ≠ Lb := fun h e => by
          subst e
          have h2 := HGA.out.symm.trans HGB.out
          injection h2 with i0 i1
          subst i0 i1
          simp at h
        have fin0 : ((f1.toList == f2.toList) && (t1.toList == t2.toList)) = false → SameB (La = Lb) w (.returned (.bool false)) wr := fun h => ⟨false, rfl, ⟨fun h => (by cases h), fun e => absurd e (hno h)⟩, HBR.out⟩
        have fin1 : ∀ nq, ((f1.toList == f2.toList) && (t1.toList == t2.toList)) = false → SameB (La = Lb) w (.returned (.bool false)) (wr.drewN nq) := fun nq h => ⟨false, rfl, ⟨fun h => (by cases h), fun e => absurd e (hno h)⟩, below_drewN HBR.out nq⟩
        have HFIN := Lib.hid hfin
        have FIN0 := Lib.hid fin1
        clear x0 y0 x1 y1 hga hgb hc1 hc2 hfin hno fin0 fin1
        cases k0 : (f1.toList == f2.toList) <;> cases k1 : (t1.toList == t2.toList)
        all_goals first
          | (have hff := FIN0.out
             rw [k0, k1] at hff
             have HFF := Lib.hid (fun nq => hff nq rfl)
             clear hff FIN0 HFIN
             skip
             go_upto_region 6 with fail
             go_quiet (fail)
             go_wp2_with fail
             go_ret
             exact HFF.out _)
          | (have hff := HFIN.out
             rw [k0, k1] at hff
             have HFF := Lib.hid (hff rfl rfl)
             clear hff FIN0 HFIN
             skip
             go_upto_region 6 with fail
             go_quiet (fail)
             go_wp2_with fail
             go_roundw
             case measure => simp [intOf]; omega
             case rel => exact ⟨i + 1, by omega, by go_num, HFF.out, below_drewN HBR.out _⟩)
      · have zi : ¬ (i : Int) < (n : Int) := by omega
        have he : La = Lb := shws_eq (by have := HN.out; have := HM.out; omega) (fun q hq => HE.out q (by have := HN.out; omega))
        have HEQ := Lib.hid he
        clear he
        go_wp2_with fail
        go_ret
        exact ⟨true, rfl, ⟨fun _ => HEQ.out, fun _ => rfl⟩, HBR.out⟩
  · have hne : ((n : Int) == (m : Int)) = false := by simp; omega
    have hne2 : ((n : Int) != (m : Int)) = true := by simp; omega
    have he : La ≠ Lb := fun e => hnm (by rw [HN.out, HM.out, e])
    have HEQ := Lib.hid he
    clear he
    go_enter Tryz.func30, Tryz.ntmps30
    go_wp2_with fail
    go_ret
    exact ⟨false, rfl, ⟨fun h => (by cases h), fun e => absurd e HEQ.out⟩, Below.refl _ _⟩
end Go.Proofs.YtaljcojkcgjmcaaGreatDoor
namespace Go.Proofs.YtaljcojkcgjmcaaGreatDoor
open Go.RowKit Num

theorem trm_ne {k1 n1 y1 k2 n2 y2 : Int} {f1 x1 f2 x2 : ByteArray} {a1 a2 : List Int} (h : (k1 == k2) = false ∨ (n1 == n2) = false ∨ (y1 == y2) = false ∨ (f1.toList == f2.toList) = false ∨ (x1.toList == x2.toList) = false) : (⟨k1, n1, y1, f1, x1, a1⟩ : Trm) ≠ ⟨k2, n2, y2, f2, x2, a2⟩ := by
  intro e
  injection e with e0 e1 e2 e3 e4 e5
  subst e0 e1 e2 e3 e4
  simp at h
abbrev trmV (t : Trm) (v : Value) : Value := .agg #[.int .i64 t.kind, .int .i64 t.num, .int .i64 t.yrs, .string t.field, .string t.text, v]
set_option maxRecDepth 100000 in
set_option maxHeartbeats 2000000 in
theorem t_Same (k1 n1 y1 k2 n2 y2 : Int) (f1 x1 f2 x2 : ByteArray) (a1 a2 : List Int) (A B : Option Addr) (p c q d : Nat) (w : World) (ha : IntsAt w (· < w.heap.size) (.slice A p c) a1) (hb : IntsAt w (· < w.heap.size) (.slice B q d) a2) (hla : a1.length ≤ 1000000) (hlb : a2.length ≤ 1000000) :
    Calls Tryz.prog 26 #[.agg #[.int .i64 k1, .int .i64 n1, .int .i64 y1, .string f1, .string x1, .slice A p c], .agg #[.int .i64 k2, .int .i64 n2, .int .i64 y2, .string f2, .string x2, .slice B q d]] w (SameB ((⟨k1, n1, y1, f1, x1, a1⟩ : Trm) = ⟨k2, n2, y2, f2, x2, a2⟩) w) := by
  have hb0 : Below w.heap.size w ((w.alloc (.cells #[.int .i64 k1, .int .i64 n1, .int .i64 y1, .string f1, .string x1, .slice A p c] 72)).alloc (.cells #[.int .i64 k2, .int .i64 n2, .int .i64 y2, .string f2, .string x2, .slice B q d] 72)) := ((Below.refl _ w).alloc (Nat.le_refl _) _).alloc (by simp) _
  have hsz := hb0.size
  have heq := q_EqI (.slice A p c) (.slice B q d) a1 a2 _ ((ha.keep fun g hg => hb0.block g hg).mono fun g hg => Nat.lt_of_lt_of_le hg hsz) ((hb.keep fun g hg => hb0.block g hg).mono fun g hg => Nat.lt_of_lt_of_le hg hsz) hla hlb
  have HEQ := Lib.hid heq
  have HB := Lib.hid hb0
  clear heq hb0 ha hb hsz
  have hno := fun (h : (k1 == k2) = false ∨ (n1 == n2) = false ∨ (y1 == y2) = false ∨ (f1.toList == f2.toList) = false ∨ (x1.toList == x2.toList) = false) => (show SameB ((⟨k1, n1, y1, f1, x1, a1⟩ : Trm) = ⟨k2, n2, y2, f2, x2, a2⟩) w (.returned (.bool false)) _ from ⟨false, rfl, ⟨fun h => (by cases h), fun e => absurd e (trm_ne h)⟩, HB.out⟩)
  have HNO := Lib.hid hno
  clear hno
  go_enter Tryz.func26, Tryz.ntmps26
  cases h0 : (k1 == k2)
  · go_wp2_with fail
    go_ret
    exact HNO.out (.inl h0)
  · cases h1 : (n1 == n2)
    · go_wp2_with fail
      go_ret
      exact HNO.out (.inr (.inl h1))
    · cases h2 : (y1 == y2)
      · go_wp2_with fail
        go_ret
        exact HNO.out (.inr (.inr (.inl h2)))
      · cases h3 : (f1.toList == f2.toList)
        · go_wp2_with fail
          go_ret
          exact HNO.out (.inr (.inr (.inr (.inl h3))))
        · cases h4 : (x1.toList == x2.toList)
          · go_wp2_with fail
            go_ret
            exact HNO.out (.inr (.inr (.inr (.inr h4))))
          · go_wp2_with fail
            refine HEQ.out.mono ?_
            rintro e w1 ⟨b, rfl, hbb, hB1⟩
            have HBB := Lib.hid hbb
            have HB1 := Lib.hid (HB.out.trans (hB1.mono HB.out.size))
            clear hbb hB1
            go_wp2_with fail
            go_ret
            refine ⟨b, rfl, ⟨fun h => ?_, fun e => HBB.out.2 (by injection e)⟩, HB1.out⟩
            rw [eq_of_beq h0, eq_of_beq h1, eq_of_beq h2, bytes_of h3, bytes_of h4, HBB.out.1 h]
set_option maxRecDepth 100000 in
set_option maxHeartbeats 4000000 in
theorem q_EqT (va vb : Value) (La Lb : List Trm) (w : World) (ha : TermsAt w (· < w.heap.size) va La) (hb : TermsAt w (· < w.heap.size) vb Lb) (hla : La.length ≤ 1000000) (hlb : Lb.length ≤ 1000000)
    (hka : ∀ t ∈ La, t.args.length ≤ 1000000) (hkb : ∀ t ∈ Lb, t.args.length ≤ 1000000) :
    Calls Tryz.prog 29 #[va, vb, .func (.func 26) #[] #[]] w (SameB (La = Lb) w) := by
  obtain ⟨A, n, c, rfl, hn, hnc, hA⟩ := ha
  obtain ⟨B, m, k, rfl, hm, hmk, hB⟩ := hb
  have n1 : n ≤ 1000000 := by omega
  have m1 : m ≤ 1000000 := by omega
  have HA := Lib.hid hA
  have HB := Lib.hid hB
  have HN := Lib.hid hn
  have HM := Lib.hid hm
  have HKA := Lib.hid hka
  have HKB := Lib.hid hkb
  clear hA hB hn hm hla hlb hka hkb
  by_cases hnm : n = m
  · subst hnm
    go_enter Tryz.func29, Tryz.ntmps29
    go_wp2_with fail
    go_loopw [7, 8, 9, 17] (fun v7 v8 v9 v17 wr => ∃ i : Nat, i ≤ n ∧ v17 = .int .i64 (i : Int) ∧ (∀ q, q < i → trmAt La q = trmAt Lb q) ∧ Below w.heap.size w wr) (fun _ _ _ v17 _ => n - (intOf v17).toNat)
    case atStart => exact ⟨0, by omega, rfl, fun q hq => absurd hq (Nat.not_lt_zero _), Below.refl _ _⟩
    case round =>
      obtain ⟨i, hi, rfl, heq, hbr⟩ := hrel
      rename World => wr
      have HE := Lib.hid heq
      have HBR := Lib.hid hbr
      have hsz := hbr.size
      clear heq hbr
      by_cases hlt : i < n
      · obtain ⟨b1, o1, rfl, hS1, hc1⟩ := HA.out (by omega)
        obtain ⟨b2, o2, rfl, hS2, hc2⟩ := HB.out (by omega)
        have hta := (hc1 i hlt).keep (S := (· < w.heap.size)) (HBR.out.block b1 hS1) (fun g hg => HBR.out.block g hg)
        have htb := (hc2 i hlt).keep (S := (· < w.heap.size)) (HBR.out.block b2 hS2) (fun g hg => HBR.out.block g hg)
        have hla : (trmAt La i).args.length ≤ 1000000 := HKA.out _ (trmAt_mem (by have := HN.out; omega))
        have hlb : (trmAt Lb i).args.length ≤ 1000000 := HKB.out _ (trmAt_mem (by have := HM.out; omega))
        obtain ⟨ta, hta'⟩ : ∃ ta, trmAt La i = ta := ⟨_, rfl⟩
        obtain ⟨tb, htb'⟩ : ∃ tb, trmAt Lb i = tb := ⟨_, rfl⟩
        rw [hta'] at hta hla
        rw [htb'] at htb hlb
        obtain ⟨k1, n1', y1, f1, x1, a1⟩ := ta
        obtain ⟨k2, n2', y2, f2, x2, a2⟩ := tb
        obtain ⟨c0, c1, c2, c3, c4, u, c5, hu⟩ := hta
        obtain ⟨d0, d1, d2, d3, d4, u', d5, hu'⟩ := htb
        dsimp only at c0 c1 c2 c3 c4 d0 d1 d2 d3 d4 hu hu' hla hlb
        obtain ⟨A1, q1, e1, hv1, -⟩ := id hu
        obtain ⟨A2, q2, e2, hv2, -⟩ := id hu'
        subst hv1 hv2
        have zi : (i : Int) < (n : Int) := by omega
        have z0 : (0 : Int) ≤ (i : Int) := by omega
        have hbl' : b2 < wr.heap.size := by omega
        have D0 : ∀ o : Obj, (wr.alloc o).cell? ⟨b2, o2 + i * 6, none⟩ = some (.int .i64 k2) := fun o => (World.cell?_alloc_lt wr o ⟨b2, o2 + i * 6, none⟩ hbl').trans d0
        have D1 : ∀ o : Obj, (wr.alloc o).cell? ⟨b2, o2 + i * 6 + 1, none⟩ = some (.int .i64 n2') := fun o => (World.cell?_alloc_lt wr o ⟨b2, o2 + i * 6 + 1, none⟩ hbl').trans d1
        have D2 : ∀ o : Obj, (wr.alloc o).cell? ⟨b2, o2 + i * 6 + 2, none⟩ = some (.int .i64 y2) := fun o => (World.cell?_alloc_lt wr o ⟨b2, o2 + i * 6 + 2, none⟩ hbl').trans d2
        have D3 : ∀ o : Obj, (wr.alloc o).cell? ⟨b2, o2 + i * 6 + 3, none⟩ = some (.string f2) := fun o => (World.cell?_alloc_lt wr o ⟨b2, o2 + i * 6 + 3, none⟩ hbl').trans d3
        have D4 : ∀ o : Obj, (wr.alloc o).cell? ⟨b2, o2 + i * 6 + 4, none⟩ = some (.string x2) := fun o => (World.cell?_alloc_lt wr o ⟨b2, o2 + i * 6 + 4, none⟩ hbl').trans d4
        have D5 : ∀ o : Obj, (wr.alloc o).cell? ⟨b2, o2 + i * 6 + 5, none⟩ = some (.slice A2 q2 e2) := fun o => (World.cell?_alloc_lt wr o ⟨b2, o2 + i * 6 + 5, none⟩ hbl').trans d5
        have HTA := Lib.hid hta'
        have HTB := Lib.hid htb'
        have hbx : Below wr.heap.size wr ((wr.alloc (.cells #[.int .i64 k1, .int .i64 n1', .int .i64 y1, .string f1, .string x1, .slice A1 q1 e1] 72)).alloc (.cells #[.int .i64 k2, .int .i64 n2', .int .i64 y2, .string f2, .string x2, .slice A2 q2 e2] 72)) := ((Below.refl _ _).alloc (Nat.le_refl _) _).alloc (by simp) _
        have hsx := hbx.size
        have hcl := t_Same k1 n1' y1 k2 n2' y2 f1 x1 f2 x2 a1 a2 A1 A2 q1 e1 q2 e2 _ ((hu.keep fun g hg => hbx.block g (by omega)).mono fun g hg => by omega) ((hu'.keep fun g hg => hbx.block g (by omega)).mono fun g hg => by omega) hla hlb
        have HCL := Lib.hid hcl
        have HX := Lib.hid (HBR.out.trans (hbx.mono hsz))
        clear hta' htb' hc1 hc2 d0 d1 d2 d3 d4 d5 hbx hcl hu hu' hsx
        go_wp2_with fail
        refine HCL.out.mono ?_
        rintro e w5 ⟨b, rfl, hbb, hB5⟩
        have HB5 := Lib.hid (HX.out.trans (hB5.mono HX.out.size))
        have HBB := Lib.hid hbb
        clear hbb hB5 HCL HX D0 D1 D2 D3 D4 D5 c0 c1 c2 c3 c4 c5
        cases b with
        | false =>
          go_wp2_with fail
          go_ret
          refine ⟨false, rfl, ⟨fun h => (by cases h), fun e => ?_⟩, HB5.out⟩
          subst e
          have h2 := HTA.out.symm.trans HTB.out
          exact absurd (HBB.out.2 h2) (by simp)
        | true =>
          go_wp2_with fail
          go_roundw
          case measure => simp [intOf]; omega
          case rel => exact ⟨i + 1, by omega, by go_num, (fun q hq => by
            by_cases e : q = i
            · subst e
              rw [HTA.out, HTB.out]; exact HBB.out.1 (by simp)
            · exact HE.out q (by omega)), HB5.out⟩
      · have zi : ¬ (i : Int) < (n : Int) := by omega
        have he : La = Lb := trms_eq (by have := HN.out; have := HM.out; omega) (fun q hq => HE.out q (by have := HN.out; omega))
        have HEQ := Lib.hid he
        clear he
        go_wp2_with fail
        go_ret
        exact ⟨true, rfl, ⟨fun _ => HEQ.out, fun _ => rfl⟩, HBR.out⟩
  · have hne : ((n : Int) == (m : Int)) = false := by simp; omega
    have hne2 : ((n : Int) != (m : Int)) = true := by simp; omega
    have he : La ≠ Lb := fun e => hnm (by rw [HN.out, HM.out, e])
    have HEQ := Lib.hid he
    clear he
    go_enter Tryz.func29, Tryz.ntmps29
    go_wp2_with fail
    go_ret
    exact ⟨false, rfl, ⟨fun h => (by cases h), fun e => absurd e HEQ.out⟩, Below.refl _ _⟩
end Go.Proofs.YtaljcojkcgjmcaaGreatDoor

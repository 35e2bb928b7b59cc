/- Contracts: pack.Pad in units of eight, pair.padded. Contracts: statements are compared, by the reference. Contracts: slices.Equal of answers, of shows and of numbers. -/
import Derived.Test.YtgeahbmaeaoeeaaGreatDoorQ31
import Derived.Test.YtgeahbmaeaoeeaaGreatDoorQ20
import Derived.Test.YtgeahbmaeaoeeaaGreatDoorQ24
import Derived.Test.YtgeahbmaeaoeeaaGreatDoorQ22
import Derived.BigQuiet
set_option linter.unusedVariables false
set_option linter.unusedSimpArgs false
namespace Go.Proofs.YtgeahbmaeaoeeaaGreatDoor
open Go.RowKit Num

/-- The length of a padding in units of eight. -/
def padN (n : Nat) : Nat := n + 8 - n % 8
def PadE (n : Nat) (w : World) (e : Ending) (w' : World) : Prop := ∃ (x : ByteArray) (z : Int), e = .returned (.tuple #[.string x, .int .i64 z]) ∧ (z = 0 ↔ padN n ≤ 16384) ∧ (z = 0 → x.size = padN n) ∧ x.size ≤ 1000000 ∧ Below w.heap.size w w'
theorem p_Pad8 (s : ByteArray) (w : World) (hs : s.size ≤ 1000000) :
    Calls Tryz.prog 57 #[.string s, .int .i64 8] w (PadE s.size w) := by
  have q0 : (0 : Int) ≤ (s.size : Int) := by omega
  have hm : ((s.size : Int).tmod 8) = ((s.size % 8 : Nat) : Int) := by rw [Int.tmod_eq_emod_of_nonneg q0]; omega
  have hr : s.size % 8 < 8 := Nat.mod_lt _ (by omega)
  obtain ⟨r, hrr⟩ : ∃ r, s.size % 8 = r := ⟨_, rfl⟩
  rw [hrr] at hm hr
  obtain ⟨z, hz⟩ : ∃ z : Nat, 7 - r = z := ⟨_, rfl⟩
  have hzr : (7 : Int) - (r : Int) = (z : Int) := by omega
  have hp : padN s.size = s.size + 1 + z := by unfold padN; omega
  have HRP := Lib.hid (Tryz.strings_Repeat ⟨#[0]⟩ z w (by omega) (by show 1 * z ≤ _; omega))
  have hrep : ∀ c, (Lib.repeatL [(0 : UInt8)] c).length = c := by
    intro c
    induction c with
    | zero => rfl
    | succ c ih => simp [Lib.repeatL, ih]
  have lim : ¬ 9223372036854775807 < s.size + 1 + (Lib.repeatL [(0 : UInt8)] z).length := by rw [hrep]; omega
  have HREP := Lib.hid hrep
  clear hrep
  have HP := Lib.hid hp
  have HZ := Lib.hid hz
  clear hp hz
  by_cases hl : s.size + 1 + z ≤ 16384
  · have zi : ¬ (16384 : Int) < (s.size : Int) + 1 + (z : Int) := by omega
    go_enter Tryz.func57, Tryz.ntmps57
    go_wp2_with fail
    refine HRP.out.mono ?_
    rintro e w1 ⟨rfl, hb1⟩
    go_wp2_with fail
    go_ret2
    refine (fun h => ⟨_, 0, rfl, ⟨fun _ => by rw [HP.out]; exact hl, fun _ => rfl⟩, fun _ => h, by rw [h, HP.out]; omega, hb1⟩) ?_
    rw [HP.out]
    have hrep := HREP.out
    rw [ByteArray.size_append, ByteArray.size_append]
    show s.size + 1 + (Lib.repeatL [(0 : UInt8)] z).toArray.size = _
    rw [List.size_toArray, hrep]
  · have zi : (16384 : Int) < (s.size : Int) + 1 + (z : Int) := by omega
    go_enter Tryz.func57, Tryz.ntmps57
    go_wp2_with fail
    go_ret2
    exact ⟨_, 3, rfl, ⟨fun h => absurd h (by decide), fun h => absurd h (by rw [HP.out]; exact hl)⟩, fun h => absurd h (by decide), by show (0 : Nat) ≤ _; omega, Below.refl _ _⟩
/-- A statement has padded bytes; how many. -/
def padOk (s : Stm) : Bool := decide (bytZ s = 0) && decide (padN (bytS s).size ≤ 16384)
def padLen (s : Stm) : Nat := padN (bytS s).size
def PaddE (s : Stm) (w : World) (e : Ending) (w' : World) : Prop := ∃ (x : ByteArray) (b : Bool), e = .returned (.tuple #[.string x, .bool b]) ∧ b = padOk s ∧ (b = true → x.size = padLen s) ∧ x.size ≤ 1000000 ∧ Below w.heap.size w w'
theorem bytS_size (s : Stm) : (bytS s).size ≤ 16384 := by
  unfold bytS
  split
  · split
    · split
      · rw [bO_size]; assumption
      · exact Nat.zero_le _
    · exact Nat.zero_le _
  · exact Nat.zero_le _
set_option maxHeartbeats 1000000 in
theorem q_padded (s : Stm) (va vc vs : Value) (w : World) (hv : StmAt w (· < w.heap.size) va vc vs s) (hok : StmOk s) (hl : LibOk w) :
    Calls Tryz.prog 37 #[.agg #[.string s.resp, .int .i64 s.dep, .int .i64 s.day, va, vc, vs], .int .i64 8] w (PaddE s w) := by
  obtain ⟨Aa, na, ca, hva, -⟩ := id hv.aa
  obtain ⟨Ac, nc, cc, hvc, -⟩ := id hv.cc
  obtain ⟨As, ns, cs, hvs, -⟩ := id hv.ss
  subst hva hvc hvs
  have hb0 : Below w.heap.size w (w.alloc (.cells #[.string s.resp, .int .i64 s.dep, .int .i64 s.day, .slice Aa na ca, .slice Ac nc cc, .slice As ns cs] 61)) := (Below.refl _ w).alloc (Nat.le_refl _) _
  have hx1 : Blk (w.alloc (.cells #[.string s.resp, .int .i64 s.dep, .int .i64 s.day, .slice Aa na ca, .slice Ac nc cc, .slice As ns cs] 61)) w.heap.size 61 #[.string s.resp, .int .i64 s.dep, .int .i64 s.day, .slice Aa na ca, .slice Ac nc cc, .slice As ns cs] := Blk.new w _ _
  have hby := s_Bytes s Aa Ac As na ca nc cc ns cs _ _ ((hv.keep fun b hb => hb0.block b hb).mono (T := (· < (w.alloc (.cells #[.string s.resp, .int .i64 s.dep, .int .i64 s.day, .slice Aa na ca, .slice Ac nc cc, .slice As ns cs] 61)).heap.size)) fun b hb => Nat.lt_of_lt_of_le hb hb0.size) (fun _ h => h) hok (hl.later hb0)
  have c0 := (hx1.cell 0).trans (show _ = some (Value.string s.resp) from rfl)
  have c1 := (hx1.cell 1).trans (show _ = some (Value.int .i64 s.dep) from rfl)
  have c2 := (hx1.cell 2).trans (show _ = some (Value.int .i64 s.day) from rfl)
  have c3 := (hx1.cell 3).trans (show _ = some (Value.slice Aa na ca) from rfl)
  have c4 := (hx1.cell 4).trans (show _ = some (Value.slice Ac nc cc) from rfl)
  have c5 := (hx1.cell 5).trans (show _ = some (Value.slice As ns cs) from rfl)
  have HB0 := Lib.hid hb0
  have HBY := Lib.hid hby
  have hsz := bytS_size s
  obtain ⟨y, hy⟩ : ∃ y, bytS s = y := ⟨_, rfl⟩
  obtain ⟨z, hz⟩ : ∃ z, bytZ s = z := ⟨_, rfl⟩
  have hpo : padOk s = (decide (z = 0) && decide (padN y.size ≤ 16384)) := by unfold padOk; rw [hy, hz]
  have hpl : padLen s = padN y.size := by unfold padLen; rw [hy]
  unfold BytE at HBY
  rw [hy, hz] at HBY
  rw [hy] at hsz
  have HPO := Lib.hid hpo
  have HPL := Lib.hid hpl
  clear hb0 hx1 hby hy hz hpo hpl hv hok hl
  have hpad := fun W => p_Pad8 y W (by omega)
  have HPAD := Lib.hid hpad
  clear hpad
  by_cases h0 : z = 0
  · have z0 : (z == 0) = true := by simpa using h0
    have z1 : (z != 0) = false := by simp [h0]
    have H0 := Lib.hid h0
    clear h0
    go_enter Tryz.func37, Tryz.ntmps37
    go_wp2_with fail
    refine HBY.out.mono ?_
    rintro e w1 ⟨rfl, hb1⟩
    have HB1 := Lib.hid (HB0.out.trans (hb1.mono HB0.out.size))
    clear hb1 c0 c1 c2 c3 c4 c5
    go_wp2_with fail
    refine (HPAD.out _).mono ?_
    rintro e w2 ⟨x, z2, rfl, hz2, hx2, hxs, hb2⟩
    have HB2 := Lib.hid (HB1.out.trans (hb2.mono HB1.out.size))
    have HZ2 := Lib.hid hz2
    have HX2 := Lib.hid hx2
    clear hb2 hz2 hx2
    by_cases h2 : z2 = 0
    · have y0 : (z2 == 0) = true := by simpa using h2
      have H2 := Lib.hid h2
      clear h2
      go_wp2_with fail
      go_ret2
      refine ⟨x, true, rfl, ?_, fun _ => ?_, ?_, HB2.out⟩
      · rw [HPO.out, H0.out, decide_eq_true (HZ2.out.1 H2.out)]; rfl
      · rw [HPL.out]; exact HX2.out H2.out
      · rw [HX2.out H2.out]; have := HZ2.out.1 H2.out; omega
    · have y0 : (z2 == 0) = false := by simpa using h2
      have H2 := Lib.hid h2
      clear h2
      go_wp2_with fail
      go_ret2
      refine ⟨x, false, rfl, ?_, fun h => absurd h (by decide), ?_, HB2.out⟩
      · rw [HPO.out, decide_eq_false (fun h => H2.out (HZ2.out.2 h)), Bool.and_false]
      · exact hxs
  · have z0 : (z == 0) = false := by simpa using h0
    have z1 : (z != 0) = true := by simp [h0]
    have H0 := Lib.hid h0
    clear h0
    go_enter Tryz.func37, Tryz.ntmps37
    go_wp2_with fail
    refine HBY.out.mono ?_
    rintro e w1 ⟨rfl, hb1⟩
    have HB1 := Lib.hid (HB0.out.trans (hb1.mono HB0.out.size))
    clear hb1 c0 c1 c2 c3 c4 c5
    go_wp2_with fail
    go_ret2
    refine ⟨_, false, rfl, ?_, fun h => absurd h (by decide), by show (0 : Nat) ≤ _; omega, HB1.out⟩
    rw [HPO.out, decide_eq_false H0.out, Bool.false_and]
end Go.Proofs.YtgeahbmaeaoeeaaGreatDoor
namespace Go.Proofs.YtgeahbmaeaoeeaaGreatDoor
open Go.RowKit Num

theorem anss_eq {La Lb : List Ans} (hl : La.length = Lb.length) (h : ∀ q, q < La.length → ansAt La q = ansAt Lb q) : La = Lb := by
  apply List.ext_getElem hl
  intro i h1 h2
  have := h i h1
  unfold ansAt at this
  rwa [List.getD_eq_getElem?_getD, List.getD_eq_getElem?_getD, List.getElem?_eq_getElem h1, List.getElem?_eq_getElem h2] at this
theorem shws_eq {La Lb : List Shw} (hl : La.length = Lb.length) (h : ∀ q, q < La.length → shwAt La q = shwAt Lb q) : La = Lb := by
  apply List.ext_getElem hl
  intro i h1 h2
  have := h i h1
  unfold shwAt at this
  rwa [List.getD_eq_getElem?_getD, List.getD_eq_getElem?_getD, List.getElem?_eq_getElem h1, List.getElem?_eq_getElem h2] at this
theorem below_drewN {B : Nat} {w w' : World} (h : Below B w w') (n : Nat) : Below B w (w'.drewN n) := ⟨h.os, h.tape, h.output, h.size, h.block⟩
def SameB (p : Prop) (w : World) (e : Ending) (w' : World) : Prop := ∃ b : Bool, e = .returned (.bool b) ∧ (b = true ↔ p) ∧ Below w.heap.size w w'
theorem bytes_of {a b : ByteArray} (h : (a.toList == b.toList) = true) : b = a := by
  have := eq_of_beq h
  rw [ByteArray.toList_eq, ByteArray.toList_eq] at this
  exact (blOf_inj this).symm
/-- A statement's argument. -/
abbrev stmV (s : Stm) (va vc vs : Value) : Value := .agg #[.string s.resp, .int .i64 s.dep, .int .i64 s.day, va, vc, vs]
theorem stm_eq {s t : Stm} (h1 : s.resp = t.resp) (h2 : s.dep = t.dep) (h3 : s.day = t.day) (h4 : s.ans = t.ans) (h5 : s.cond = t.cond) (h6 : s.shw = t.shw) : s = t := by
  cases s; cases t; simp_all
end Go.Proofs.YtgeahbmaeaoeeaaGreatDoor
namespace Go.Proofs.YtgeahbmaeaoeeaaGreatDoor
open Go.RowKit Num

set_option maxRecDepth 100000 in
set_option maxHeartbeats 2000000 in
theorem q_EqA (va vb : Value) (La Lb : List Ans) (w : World) (ha : AnssAt w (· < w.heap.size) va La) (hb : AnssAt w (· < w.heap.size) vb Lb) (hla : La.length ≤ 1000000) (hlb : Lb.length ≤ 1000000) :
    Calls Tryz.prog 60 #[va, vb] w (SameB (La = Lb) w) := by
  obtain ⟨A, n, c, rfl, hn, hnc, hA⟩ := ha
  obtain ⟨B, m, k, rfl, hm, hmk, hB⟩ := hb
  have n1 : n ≤ 1000000 := by omega
  have m1 : m ≤ 1000000 := by omega
  have HA := Lib.hid hA
  have HB := Lib.hid hB
  have HN := Lib.hid hn
  have HM := Lib.hid hm
  clear hA hB hn hm hla hlb
  by_cases hnm : n = m
  · subst hnm
    go_enter Tryz.func60, Tryz.ntmps60
    go_wp2_with fail
    go_loopw [5, 13] (fun v5 v13 wr => ∃ i : Nat, i ≤ n ∧ v13 = .int .i64 (i : Int) ∧ (∀ q, q < i → ansAt La q = ansAt Lb q) ∧ Below w.heap.size w wr) (fun _ v13 _ => n - (intOf v13).toNat)
    case atStart => exact ⟨0, by omega, rfl, fun q hq => absurd hq (Nat.not_lt_zero _), Below.refl _ _⟩
    case round =>
      obtain ⟨i, hi, rfl, heq, hbr⟩ := hrel
      rename World => wr
      have HE := Lib.hid heq
      have HBR := Lib.hid hbr
      have hsz := hbr.size
      clear heq hbr
      by_cases hlt : i < n
      · obtain ⟨b1, o1, rfl, hS1, hc1⟩ := HA.out (by omega)
        obtain ⟨b2, o2, rfl, hS2, hc2⟩ := HB.out (by omega)
        obtain ⟨x0, x1, x2⟩ := hc1 i hlt
        obtain ⟨y0, y1, y2⟩ := hc2 i hlt
        obtain ⟨ga, hga⟩ : ∃ g, ansAt La i = g := ⟨_, rfl⟩
        obtain ⟨gb, hgb⟩ : ∃ g, ansAt Lb i = g := ⟨_, rfl⟩
        rw [hga] at x0 x1 x2
        rw [hgb] at y0 y1 y2
        obtain ⟨f1, t1, m1'⟩ := ga
        obtain ⟨f2, t2, m2'⟩ := gb
        have e0 : wr.cell? ⟨b1, o1 + i * 3, none⟩ = _ := (HBR.out.cell (p := ⟨b1, o1 + i * 3, none⟩) hS1).trans x0
        have r0 : wr.cell? ⟨b2, o2 + i * 3, none⟩ = _ := (HBR.out.cell (p := ⟨b2, o2 + i * 3, none⟩) hS2).trans y0
        have e1 : wr.cell? ⟨b1, o1 + i * 3 + 1, none⟩ = _ := (HBR.out.cell (p := ⟨b1, o1 + i * 3 + 1, none⟩) hS1).trans x1
        have r1 : wr.cell? ⟨b2, o2 + i * 3 + 1, none⟩ = _ := (HBR.out.cell (p := ⟨b2, o2 + i * 3 + 1, none⟩) hS2).trans y1
        have e2 : wr.cell? ⟨b1, o1 + i * 3 + 2, none⟩ = _ := (HBR.out.cell (p := ⟨b1, o1 + i * 3 + 2, none⟩) hS1).trans x2
        have r2 : wr.cell? ⟨b2, o2 + i * 3 + 2, none⟩ = _ := (HBR.out.cell (p := ⟨b2, o2 + i * 3 + 2, none⟩) hS2).trans y2
        have HGA := Lib.hid hga
        have HGB := Lib.hid hgb
        have zi : (i : Int) < (n : Int) := by omega
        have z0 : (0 : Int) ≤ (i : Int) := by omega
        have hfin : (f1.toList == f2.toList) = true → (t1.toList == t2.toList) = true → (m1' == m2') = true → ∀ q, q < i + 1 → ansAt La q = ansAt Lb q := fun h0 h1 h2 q hq => by
          by_cases e : q = i
          · subst e
            rw [HGA.out, HGB.out, bytes_of h0, bytes_of h1, eq_of_beq h2]
          · exact HE.out q (by omega)
        have hno : ((f1.toList == f2.toList) && (t1.toList == t2.toList) && (m1' == m2')) = false → La ≠ Lb := fun h e => by
          subst e
          have h2 := HGA.out.symm.trans HGB.out
          injection h2 with i0 i1 i2
          subst i0 i1 i2
          simp at h
        have fin0 : ((f1.toList == f2.toList) && (t1.toList == t2.toList) && (m1' == m2')) = false → SameB (La = Lb) w (.returned (.bool false)) wr := fun h => ⟨false, rfl, ⟨fun h => (by cases h), fun e => absurd e (hno h)⟩, HBR.out⟩
        have fin1 : ∀ nq, ((f1.toList == f2.toList) && (t1.toList == t2.toList) && (m1' == m2')) = false → SameB (La = Lb) w (.returned (.bool false)) (wr.drewN nq) := fun nq h => ⟨false, rfl, ⟨fun h => (by cases h), fun e => absurd e (hno h)⟩, below_drewN HBR.out nq⟩
        have HFIN := Lib.hid hfin
        have FIN0 := Lib.hid fin1
        clear x0 y0 x1 y1 x2 y2 hga hgb hc1 hc2 hfin hno fin0 fin1
        cases k0 : (f1.toList == f2.toList) <;> cases k1 : (t1.toList == t2.toList) <;> cases k2 : (m1' == m2')
        all_goals first
          | (have hff := FIN0.out
             rw [k0, k1, k2] at hff
             have HFF := Lib.hid (fun nq => hff nq rfl)
             clear hff FIN0 HFIN
             skip
             go_upto_region 6 with fail
             go_quiet (fail)
             go_wp2_with fail
             go_ret
             exact HFF.out _)
          | (have hff := HFIN.out
             rw [k0, k1, k2] at hff
             have HFF := Lib.hid (hff rfl rfl rfl)
             clear hff FIN0 HFIN
             skip
             go_upto_region 6 with fail
             go_quiet (fail)
             go_wp2_with fail
             go_roundw
             case measure => simp [intOf]; omega
             case rel => exact ⟨i + 1, by omega, by go_num, HFF.out, below_drewN HBR.out _⟩)
      · have zi : ¬ (i : Int) < (n : Int) := by omega
        have he : La = Lb := anss_eq (by have := HN.out; have := HM.out; omega) (fun q hq => HE.out q (by have := HN.out; omega))
        have HEQ := Lib.hid he
        clear he
        go_wp2_with fail
        go_ret
        exact ⟨true, rfl, ⟨fun _ => HEQ.out, fun _ => rfl⟩, HBR.out⟩
  · have hne : ((n : Int) == (m : Int)) = false := by simp; omega
    have hne2 : ((n : Int) != (m : Int)) = true := by simp; omega
    have he : La ≠ Lb := fun e => hnm (by rw [HN.out, HM.out, e])
    have HEQ := Lib.hid he
    clear he
    go_enter Tryz.func60, Tryz.ntmps60
    go_wp2_with fail
    go_ret
    exact ⟨false, rfl, ⟨fun h => (by cases h), fun e => absurd e HEQ.out⟩, Below.refl _ _⟩
set_option maxRecDepth 100000 in
set_option maxHeartbeats 2000000 in
theorem q_EqI (va vb : Value) (La Lb : List Int) (w : World) (ha : IntsAt w (· < w.heap.size) va La) (hb : IntsAt w (· < w.heap.size) vb Lb) (hla : La.length ≤ 1000000) (hlb : Lb.length ≤ 1000000) :
    Calls Tryz.prog 59 #[va, vb] w (SameB (La = Lb) w) := by
  obtain ⟨A, n, c, rfl, hn, hnc, hA⟩ := ha
  obtain ⟨B, m, k, rfl, hm, hmk, hB⟩ := hb
  have n1 : n ≤ 1000000 := by omega
  have m1 : m ≤ 1000000 := by omega
  have HA := Lib.hid hA
  have HB := Lib.hid hB
  have HN := Lib.hid hn
  have HM := Lib.hid hm
  clear hA hB hn hm hla hlb
  by_cases hnm : n = m
  · subst hnm
    go_enter Tryz.func59, Tryz.ntmps59
    go_wp2_with fail
    go_loopw [5, 13] (fun v5 v13 wr => ∃ i : Nat, i ≤ n ∧ v13 = .int .i64 (i : Int) ∧ (∀ q, q < i → La.getD q 0 = Lb.getD q 0) ∧ Below w.heap.size w wr) (fun _ v13 _ => n - (intOf v13).toNat)
    case atStart => exact ⟨0, by omega, rfl, fun q hq => absurd hq (Nat.not_lt_zero _), Below.refl _ _⟩
    case round =>
      obtain ⟨i, hi, rfl, heq, hbr⟩ := hrel
      rename World => wr
      have HE := Lib.hid heq
      have HBR := Lib.hid hbr
      have hsz := hbr.size
      clear heq hbr
      by_cases hlt : i < n
      · obtain ⟨b1, o1, rfl, hS1, hc1⟩ := HA.out (by omega)
        obtain ⟨b2, o2, rfl, hS2, hc2⟩ := HB.out (by omega)
        have x0 := hc1 i hlt
        have y0 := hc2 i hlt
        obtain ⟨ga, hga⟩ : ∃ g, La.getD i 0 = g := ⟨_, rfl⟩
        obtain ⟨gb, hgb⟩ : ∃ g, Lb.getD i 0 = g := ⟨_, rfl⟩
        rw [hga] at x0
        rw [hgb] at y0
        obtain ⟨m1', hm1⟩ : ∃ x, ga = x := ⟨_, rfl⟩
        obtain ⟨m2', hm2⟩ : ∃ x, gb = x := ⟨_, rfl⟩
        rw [hm1] at hga x0
        rw [hm2] at hgb y0
        clear hm1 hm2 ga gb
        have e0 : wr.cell? ⟨b1, o1 + i, none⟩ = _ := (HBR.out.cell (p := ⟨b1, o1 + i, none⟩) hS1).trans x0
        have r0 : wr.cell? ⟨b2, o2 + i, none⟩ = _ := (HBR.out.cell (p := ⟨b2, o2 + i, none⟩) hS2).trans y0
        have HGA := Lib.hid hga
        have HGB := Lib.hid hgb
        have zi : (i : Int) < (n : Int) := by omega
        have z0 : (0 : Int) ≤ (i : Int) := by omega
        have hfin : (m1' == m2') = true → ∀ q, q < i + 1 → La.getD q 0 = Lb.getD q 0 := fun h0 q hq => by
          by_cases e : q = i
          · subst e
            rw [HGA.out, HGB.out, eq_of_beq h0]
          · exact HE.out q (by omega)
        have hno : ((m1' == m2')) = false → La ≠ Lb := fun h e => by
          subst e
          have h2 := HGA.out.symm.trans HGB.out
          subst h2
          simp at h
        have fin0 : ((m1' == m2')) = false → SameB (La = Lb) w (.returned (.bool false)) wr := fun h => ⟨false, rfl, ⟨fun h => (by cases h), fun e => absurd e (hno h)⟩, HBR.out⟩
        have fin1 : ∀ nq, ((m1' == m2')) = false → SameB (La = Lb) w (.returned (.bool false)) (wr.drewN nq) := fun nq h => ⟨false, rfl, ⟨fun h => (by cases h), fun e => absurd e (hno h)⟩, below_drewN HBR.out nq⟩
        have HFIN := Lib.hid hfin
        have FIN0 := Lib.hid fin1
        clear x0 y0 hga hgb hc1 hc2 hfin hno fin0 fin1
        cases k0 : (m1' == m2')
        all_goals first
          | (have hff := FIN0.out
             rw [k0] at hff
             have HFF := Lib.hid (fun nq => hff nq rfl)
             clear hff FIN0 HFIN
             have ki : (m1' != m2') = true := by simpa [bne] using k0
             go_upto_region 6 with fail
             go_quiet (fail)
             go_wp2_with fail
             go_ret
             exact HFF.out _)
          | (have hff := HFIN.out
             rw [k0] at hff
             have HFF := Lib.hid (hff rfl)
             clear hff FIN0 HFIN
             have ki : (m1' != m2') = false := by simpa [bne] using k0
             go_upto_region 6 with fail
             go_quiet (fail)
             go_wp2_with fail
             go_roundw
             case measure => simp [intOf]; omega
             case rel => exact ⟨i + 1, by omega, by go_num, HFF.out, below_drewN HBR.out _⟩)
      · have zi : ¬ (i : Int) < (n : Int) := by omega
        have he : La = Lb := ints_eq (by have := HN.out; have := HM.out; omega) (fun q hq => HE.out q (by have := HN.out; omega))
        have HEQ := Lib.hid he
        clear he
        go_wp2_with fail
        go_ret
        exact ⟨true, rfl, ⟨fun _ => HEQ.out, fun _ => rfl⟩, HBR.out⟩
  · have hne : ((n : Int) == (m : Int)) = false := by simp; omega
    have hne2 : ((n : Int) != (m : Int)) = true := by simp; omega
    have he : La ≠ Lb := fun e => hnm (by rw [HN.out, HM.out, e])
    have HEQ := Lib.hid he
    clear he
    go_enter Tryz.func59, Tryz.ntmps59
    go_wp2_with fail
    go_ret
    exact ⟨false, rfl, ⟨fun h => (by cases h), fun e => absurd e HEQ.out⟩, Below.refl _ _⟩
set_option maxRecDepth 100000 in
set_option maxHeartbeats 2000000 in
theorem q_EqS (va vb : Value) (La Lb : List Shw) (w : World) (ha : ShwsAt w (· < w.heap.size) va La) (hb : ShwsAt w (· < w.heap.size) vb Lb) (hla : La.length ≤ 1000000) (hlb : Lb.length ≤ 1000000) :
    Calls Tryz.prog 62 #[va, vb] w (SameB (La = Lb) w) := by
  obtain ⟨A, n, c, rfl, hn, hnc, hA⟩ := ha
  obtain ⟨B, m, k, rfl, hm, hmk, hB⟩ := hb
  have n1 : n ≤ 1000000 := by omega
  have m1 : m ≤ 1000000 := by omega
  have HA := Lib.hid hA
  have HB := Lib.hid hB
  have HN := Lib.hid hn
  have HM := Lib.hid hm
  clear hA hB hn hm hla hlb
  by_cases hnm : n = m
  · subst hnm
    go_enter Tryz.func62, Tryz.ntmps62
    go_wp2_with fail
    go_loopw [5, 13] (fun v5 v13 wr => ∃ i : Nat, i ≤ n ∧ v13 = .int .i64 (i : Int) ∧ (∀ q, q < i → shwAt La q = shwAt Lb q) ∧ Below w.heap.size w wr) (fun _ v13 _ => n - (intOf v13).toNat)
    case atStart => exact ⟨0, by omega, rfl, fun q hq => absurd hq (Nat.not_lt_zero _), Below.refl _ _⟩
    case round =>
      obtain ⟨i, hi, rfl, heq, hbr⟩ := hrel
      rename World => wr
      have HE := Lib.hid heq
      have HBR := Lib.hid hbr
      have hsz := hbr.size
      clear heq hbr
      by_cases hlt : i < n
      · obtain ⟨b1, o1, rfl, hS1, hc1⟩ := HA.out (by omega)
        obtain ⟨b2, o2, rfl, hS2, hc2⟩ := HB.out (by omega)
        obtain ⟨x0, x1⟩ := hc1 i hlt
        obtain ⟨y0, y1⟩ := hc2 i hlt
        obtain ⟨ga, hga⟩ : ∃ g, shwAt La i = g := ⟨_, rfl⟩
        obtain ⟨gb, hgb⟩ : ∃ g, shwAt Lb i = g := ⟨_, rfl⟩
        rw [hga] at x0 x1
        rw [hgb] at y0 y1
        obtain ⟨f1, t1⟩ := ga
        obtain ⟨f2, t2⟩ := gb
        have e0 : wr.cell? ⟨b1, o1 + i * 2, none⟩ = _ := (HBR.out.cell (p := ⟨b1, o1 + i * 2, none⟩) hS1).trans x0
        have r0 : wr.cell? ⟨b2, o2 + i * 2, none⟩ = _ := (HBR.out.cell (p := ⟨b2, o2 + i * 2, none⟩) hS2).trans y0
        have e1 : wr.cell? ⟨b1, o1 + i * 2 + 1, none⟩ = _ := (HBR.out.cell (p := ⟨b1, o1 + i * 2 + 1, none⟩) hS1).trans x1
        have r1 : wr.cell? ⟨b2, o2 + i * 2 + 1, none⟩ = _ := (HBR.out.cell (p := ⟨b2, o2 + i * 2 + 1, none⟩) hS2).trans y1
        have HGA := Lib.hid hga
        have HGB := Lib.hid hgb
        have zi : (i : Int) < (n : Int) := by omega
        have z0 : (0 : Int) ≤ (i : Int) := by omega
        have hfin : (f1.toList == f2.toList) = true → (t1.toList == t2.toList) = true → ∀ q, q < i + 1 → shwAt La q = shwAt Lb q := fun h0 h1 q hq => by
          by_cases e : q = i
          · subst e
            rw [HGA.out, HGB.out, bytes_of h0, bytes_of h1]
          · exact HE.out q (by omega)
        have hno : ((f1.toList == f2.toList) && (t1.toList == t2.toList)) = false → La ≠ Lb := fun h e => by
          subst e
          have h2 := HGA.out.symm.trans HGB.out
          injection h2 with i0 i1
          subst i0 i1
          simp at h
        have fin0 : ((f1.toList == f2.toList) && (t1.toList == t2.toList)) = false → SameB (La = Lb) w (.returned (.bool false)) wr := fun h => ⟨false, rfl, ⟨fun h => (by cases h), fun e => absurd e (hno h)⟩, HBR.out⟩
        have fin1 : ∀ nq, ((f1.toList == f2.toList) && (t1.toList == t2.toList)) = false → SameB (La = Lb) w (.returned (.bool false)) (wr.drewN nq) := fun nq h => ⟨false, rfl, ⟨fun h => (by cases h), fun e => absurd e (hno h)⟩, below_drewN HBR.out nq⟩
        have HFIN := Lib.hid hfin
        have FIN0 := Lib.hid fin1
        clear x0 y0 x1 y1 hga hgb hc1 hc2 hfin hno fin0 fin1
        cases k0 : (f1.toList == f2.toList) <;> cases k1 : (t1.toList == t2.toList)
        all_goals first
          | (have hff := FIN0.out
             rw [k0, k1] at hff
             have HFF := Lib.hid (fun nq => hff nq rfl)
             clear hff FIN0 HFIN
             skip
             go_upto_region 6 with fail
             go_quiet (fail)
             go_wp2_with fail
             go_ret
             exact HFF.out _)
          | (have hff := HFIN.out
             rw [k0, k1] at hff
             have HFF := Lib.hid (hff rfl rfl)
             clear hff FIN0 HFIN
             skip
             go_upto_region 6 with fail
             go_quiet (fail)
             go_wp2_with fail
             go_roundw
             case measure => simp [intOf]; omega
             case rel => exact ⟨i + 1, by omega, by go_num, HFF.out, below_drewN HBR.out _⟩)
      · have zi : ¬ (i : Int) < (n : Int) := by omega
        have he : La = Lb := shws_eq (by have := HN.out; have := HM.out; omega) (fun q hq => HE.out q (by have := HN.out; omega))
        have HEQ := Lib.hid he
        clear he
        go_wp2_with fail
        go_ret
        exact ⟨true, rfl, ⟨fun _ => HEQ.out, fun _ => rfl⟩, HBR.out⟩
  · have hne : ((n : Int) == (m : Int)) = false := by simp; omega
    have hne2 : ((n : Int) != (m : Int)) = true := by simp; omega
    have he : La ≠ Lb := fun e => hnm (by rw [HN.out, HM.out, e])
    have HEQ := Lib.hid he
    clear he
    go_enter Tryz.func62, Tryz.ntmps62
    go_wp2_with fail
    go_ret
    exact ⟨false, rfl, ⟨fun h => (by cases h), fun e => absurd e HEQ.out⟩, Below.refl _ _⟩
end Go.Proofs.YtgeahbmaeaoeeaaGreatDoor

/- Contracts: the statement OrderSlots. -/
import Derived.Test.YthfmmememdlekaaDoorOrAwk
set_option linter.unusedVariables false
set_option linter.unusedSimpArgs false
namespace Go.Proofs.YthfmmememdlekaaDoor
open Go.RowKit Num

theorem o_SlotI (ti pi : Int) (t p s : Nat) (w : World) (h1' : ti = (t : Int)) (h2' : pi = (p : Int)) (ht : t ≤ 1000000) (h1 : 1 ≤ p) (h2 : p ≤ 1000) (hs : slotN t p = s) : Calls Tryd.prog 11 #[.int .i64 ti, .int .i64 pi] w (SlotE s w) := by
  subst h1' h2'
  exact o_Slot t p s w ht h1 h2 hs
set_option maxRecDepth 100000 in
set_option maxHeartbeats 400000 in
theorem f_slots (t p : Nat) (w : World) (ht : t < 65536) (hp : p < 65536) : Calls Tryd.prog 5 #[.int .u16 (t : Int), .int .u16 (p : Int)] w (AwkO w) := by
  obtain ⟨q, hq⟩ : ∃ q : Nat, p % 1000 = q := ⟨_, rfl⟩
  have hq1 : q < 1000 := by omega
  have e1 : (p : Int) % 1000 = (q : Int) := by omega
  have e2 : (p : Int).tmod 1000 = (q : Int) := by rw [Int.tmod_eq_emod_of_nonneg (by omega)]; exact e1
  obtain ⟨s, hs⟩ : ∃ s, slotN t (1 + q) = s := ⟨_, rfl⟩
  obtain ⟨g1, g2, g3⟩ := slot_ge t (1 + q) (by omega)
  have g4 := slot_again t (1 + q) (by omega)
  have g5 := slot_first t (1 + q) (by omega)
  rw [hs] at g1 g2 g3 g4 g5
  obtain ⟨u, hu⟩ : ∃ u, s + 1 - (1 + q) = u := ⟨_, rfl⟩
  rw [hu] at g5
  have hmax : max 0 ((s : Int) - (1 + (q : Int)) + 1) = (u : Int) := by omega
  have hmod : (s : Int) % (1 + (q : Int)) = 0 := by
    have : ((s % (1 + q) : Nat) : Int) = 0 := by rw [g3]; rfl
    rw [← this]; simp
  have hmod2 : (s : Int).tmod (1 + (q : Int)) = 0 := by rw [Int.tmod_eq_emod_of_nonneg (by omega)]; exact hmod
  have z1 : ¬ (1 + (q : Int)) = 0 := by omega
  have z2 : (t : Int) ≤ (s : Int) := by omega
  have z3 : (s : Int) < (t : Int) + (1 + (q : Int)) := by omega
  have hub : u ≤ 70000 := by omega
  have hsb : s ≤ 70000 := by omega
  have HS := Lib.hid hs
  have H4 := Lib.hid g4
  have H5 := Lib.hid g5
  clear hs g4 g5 g1 g2 g3 hu hq
  go_enter Tryd.func5, Tryd.ntmps5
  go_wp2_with fail
  refine (o_SlotI _ _ t (1 + q) s _ rfl (by omega) (by omega) (by omega) (by omega) HS.out).mono ?_
  rintro e w1 ⟨rfl, rfl⟩
  go_wp2_with fail
  refine (o_SlotI _ _ s (1 + q) s _ rfl (by omega) (by omega) (by omega) (by omega) H4.out).mono ?_
  rintro e w1 ⟨rfl, rfl⟩
  go_wp2_with fail
  refine (o_SlotI _ _ u (1 + q) s _ (by first | rfl | exact hmax) (by omega) (by omega) (by omega) (by omega) H5.out).mono ?_
  rintro e w1 ⟨rfl, rfl⟩
  go_wp2_with fail
  refine (o_awake _).mono ?_
  rintro e w2 ⟨rfl, hb2⟩
  have HB2 := Lib.hid hb2
  clear hb2
  go_wp2_with fail
  go_ret
  exact ⟨rfl, HB2.out⟩
end Go.Proofs.YthfmmememdlekaaDoor

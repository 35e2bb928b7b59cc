/- The walk of CalendarDays: the law returns true at every input. -/
import Derived.Test.YtbgodionpdemeaaCalAdd2
import Derived.Test.YtbgodionpdemeaaCalAdd3
set_option linter.unusedVariables false
set_option linter.unusedSimpArgs false
namespace Go.Proofs.Ytbgodionpdemeaa
open Go.RowKit Cal

def pick3 (a b c : Int) (k : Nat) : Int := if k = 0 then a else if k = 1 then b else c
theorem cell3 (W : World) (a b c : Int) (T : TypeId) (k : Nat) (hk : k < 3) : (W.alloc (.cells #[.int .i64 a, .int .i64 b, .int .i64 c] T)).cell? ⟨W.heap.size, k, none⟩ = some (.int .i64 (pick3 a b c k)) := by
  have : k = 0 ∨ k = 1 ∨ k = 2 := by omega
  rcases this with rfl | rfl | rfl <;> simp [pick3]
theorem cell3_at {W wr : World} {a b c : Int} {T : TypeId} {k : Nat} (h : Below (W.heap.size + 1) (W.alloc (.cells #[.int .i64 a, .int .i64 b, .int .i64 c] T)) wr) (hk : k < 3) :
    wr.cell? ⟨W.heap.size, k, none⟩ = some (.int .i64 (pick3 a b c k)) := by
  rw [h.cell (p := ⟨W.heap.size, k, none⟩) (by simp)]; exact cell3 W a b c T k hk
theorem below_nest {W w0 w1 : World} {o' o : Obj} (h : Below (W.heap.size + 1) (W.alloc o') w0) (h2 : Below (w0.heap.size + 1) (w0.alloc o) w1) : Below (W.heap.size + 1) (W.alloc o') w1 := by
  have hs := h.size
  simp at hs
  exact (h.alloc hs o).trans (h2.mono (by omega))
theorem below_out {W w1 : World} {o : Obj} (h : Below (W.heap.size + 1) (W.alloc o) w1) : Below W.heap.size W w1 :=
  ((Below.refl _ _).alloc (Nat.le_refl _) o).trans (h.mono (by omega))
theorem below_call {a w0 w1 : World} {o : Obj} (h : Below (a.heap.size + 1) (a.alloc o) w0) (h2 : Below w0.heap.size w0 w1) : Below (a.heap.size + 1) (a.alloc o) w1 := by
  have hs := h.size
  simp at hs
  exact h.trans (h2.mono hs)

set_option maxRecDepth 100000 in
set_option maxHeartbeats 2000000 in
theorem law_days (a0 a1 a2 a3 : Int) (w : World) :
    Calls Try.prog 3 #[.int .i64 a0, .int .i64 a1, .int .i64 a2, .int .i64 a3] w fun e w' => e = .returned (.bool true) ∧ Below w.heap.size w w' := by
  have m1 := kmod_bd a0 (m := 10002) (by omega)
  have m2 := kmod_bd a0 (m := 9999) (by omega)
  have m3 := kmod_bd a1 (m := 14) (by omega)
  have m4 := kmod_bd a2 (m := 33) (by omega)
  have m5 := kmod_bd a2 (m := 5) (by omega)
  have m6 := kmod_bd a3 (m := 3652059) (by omega)
  have m7 := kmod_bd a3 (m := 3) (by omega)
  go_enter Try.func3, Try.ntmps3
  go_wp2_with (go_at_call 6; refine (kit_Mod _ _ _ (by omega) (by omega)).mono ?_; rintro e w' ⟨rfl, rfl⟩)
  go_loopw [38] (fun i wr => ∃ k : Nat, k ≤ 3 ∧ i = .int .i64 k ∧ Below (w.heap.size + 1) (w.alloc (.cells #[.int .i64 a0, .int .i64 (kmod a0 10002 - 1), .int .i64 (1 + kmod a0 9999)] 3)) wr) (fun i _ => 3 - (intOf i).toNat)
  case atStart => exact ⟨0, by omega, rfl, Below.refl _ _⟩
  case round =>
    obtain ⟨k, hk, rfl, hb⟩ := hrel
    by_cases hlt : k < 3
    · have hcell := cell3_at hb hlt
      obtain ⟨y, hy⟩ : ∃ y, pick3 a0 (kmod a0 10002 - 1) (1 + kmod a0 9999) k = y := ⟨_, rfl⟩
      rw [hy] at hcell
      clear hy
      obtain ⟨wo, rfl⟩ : ∃ wo : World, wo = wr := ⟨_, rfl⟩
      have HB := Lib.hid hb
      clear hb
      go_wp2_with (go_at_call 6; refine (kit_Mod _ _ _ (by omega) (by omega)).mono ?_; rintro e w' ⟨rfl, rfl⟩)
      go_loopw [47] (fun i wr => ∃ k : Nat, k ≤ 3 ∧ i = .int .i64 k ∧ Below (wo.heap.size + 1) (wo.alloc (.cells #[.int .i64 a1, .int .i64 (kmod a1 14), .int .i64 2] 3)) wr) (fun i _ => 3 - (intOf i).toNat)
      case atStart => exact ⟨0, by omega, rfl, Below.refl _ _⟩
      case round =>
        obtain ⟨k2, hk2, rfl, hb2⟩ := hrel
        by_cases hlt2 : k2 < 3
        · have hcell2 := cell3_at hb2 hlt2
          obtain ⟨m, hm⟩ : ∃ m, pick3 a1 (kmod a1 14) 2 k2 = m := ⟨_, rfl⟩
          rw [hm] at hcell2
          clear hm
          obtain ⟨wp, rfl⟩ : ∃ wp : World, wp = wr := ⟨_, rfl⟩
          have HB2 := Lib.hid hb2
          clear hb2
          go_wp2_with (go_at_call 6; refine (kit_Mod _ _ _ (by omega) (by omega)).mono ?_; rintro e w' ⟨rfl, rfl⟩)
          go_loopw [59] (fun i wr => ∃ k : Nat, k ≤ 3 ∧ i = .int .i64 k ∧ Below (wp.heap.size + 1) (wp.alloc (.cells #[.int .i64 a2, .int .i64 (kmod a2 33), .int .i64 (28 + kmod a2 5)] 3)) wr) (fun i _ => 3 - (intOf i).toNat)
          case atStart => exact ⟨0, by omega, rfl, Below.refl _ _⟩
          case round =>
            obtain ⟨k3, hk3, rfl, hb3⟩ := hrel
            by_cases hlt3 : k3 < 3
            · have hcell3 := cell3_at hb3 hlt3
              obtain ⟨d, hd⟩ : ∃ d, pick3 a2 (kmod a2 33) (28 + kmod a2 5) k3 = d := ⟨_, rfl⟩
              rw [hd] at hcell3
              clear hd
              obtain ⟨wq, rfl⟩ : ∃ wq : World, wq = wr := ⟨_, rfl⟩
              have HB3 := Lib.hid hb3
              clear hb3
              go_wp2_with fail
              refine (cal_Day _ _ _ _).mono ?_
              rintro e w1 ⟨rfl, hb4⟩
              go_wp2_with fail
              refine (ref_Day _ _ _ _).mono ?_
              rintro e w2 ⟨rfl, rfl⟩
              go_wp2_with fail
              go_roundw
              case rel => exact ⟨k3 + 1, by omega, by go_num, below_call HB3.out hb4⟩
              case measure => simp [intOf]; omega
            · have hk3' : k3 = 3 := by omega
              subst hk3'
              go_wp2_with fail
              go_roundw
              case rel => exact ⟨k2 + 1, by omega, by go_num, below_nest HB2.out hb3⟩
              case measure => simp [intOf]; omega
        · have hk2' : k2 = 3 := by omega
          subst hk2'
          go_wp2_with (first | (go_at_call 9; refine (cal_Leap _ _).mono ?_; rintro e w' ⟨rfl, rfl⟩) | (go_at_call 10; refine (ref_Leap _ _).mono ?_; rintro e w' ⟨rfl, rfl⟩))
          go_roundw
          case rel => exact ⟨k + 1, by omega, by go_num, below_nest HB.out hb2⟩
          case measure => simp [intOf]; omega
    · have hk' : k = 3 := by omega
      subst hk'
      obtain ⟨wo, rfl⟩ : ∃ wo : World, wo = wr := ⟨_, rfl⟩
      have HB := Lib.hid (below_out hb)
      clear hb
      go_wp2_with (go_at_call 6; refine (kit_Mod _ _ _ (by omega) (by omega)).mono ?_; rintro e w' ⟨rfl, rfl⟩)
      go_loopw [102] (fun i wr => ∃ k : Nat, k ≤ 3 ∧ i = .int .i64 k ∧ Below (wo.heap.size + 1) (wo.alloc (.cells #[.int .i64 a3, .int .i64 (kmod a3 3652059), .int .i64 (3652058 + kmod a3 3 - 1)] 3)) wr) (fun i _ => 3 - (intOf i).toNat)
      case atStart => exact ⟨0, by omega, rfl, Below.refl _ _⟩
      case round =>
        obtain ⟨k, hk, rfl, hb⟩ := hrel
        by_cases hlt : k < 3
        · have hcell := cell3_at hb hlt
          obtain ⟨n, hn⟩ : ∃ y, pick3 a3 (kmod a3 3652059) (3652058 + kmod a3 3 - 1) k = y := ⟨_, rfl⟩
          rw [hn] at hcell
          clear hn
          obtain ⟨wp, rfl⟩ : ∃ wp : World, wp = wr := ⟨_, rfl⟩
          have HB1 := Lib.hid hb
          clear hb
          go_wp2_with fail
          refine (cal_Date _ _).mono ?_
          rintro e w1 ⟨rfl, hb4⟩
          go_wp2_with fail
          refine (ref_Date _ _).mono ?_
          rintro e w2 ⟨rfl, rfl⟩
          go_wp2_with fail
          go_roundw
          case rel => exact ⟨k + 1, by omega, by go_num, below_call HB1.out hb4⟩
          case measure => simp [intOf]; omega
        · have hk' : k = 3 := by omega
          subst hk'
          go_wp2_with fail
          refine (law_awake _).mono ?_
          rintro e w3 ⟨rfl, hb5⟩
          go_wp2_with fail
          go_ret
          exact ⟨rfl, (HB.out.trans ((below_out hb).mono HB.out.size)).trans (hb5.mono (by have := HB.out.size; have := (below_out hb).size; omega))⟩
end Go.Proofs.Ytbgodionpdemeaa

/- Contracts: whether a number stands in a list; whether numbers differ (at any numbers). -/
import Derived.Test.YtjfphobfikadlaaDoorCoOne
set_option linter.unusedVariables false
set_option linter.unusedSimpArgs false
namespace Go.Proofs.YtjfphobfikadlaaDoor
open Go.RowKit Num

set_option maxRecDepth 100000 in
set_option maxHeartbeats 1000000 in
theorem c_Index (v : Value) (xs : List Int) (y : Int) (S : Nat → Prop) (w : World) (hv : IntsAt w S v xs) (hl : xs.length ≤ 1000000) :
    Calls Tryd.prog 85 #[v, .int .i64 y] w fun e w' => ∃ r : Int, e = .returned (.int .i64 r) ∧ ((r = -1 ∧ ∀ j, j < xs.length → xs.getD j 0 ≠ y) ∨ ∃ j : Nat, j < xs.length ∧ r = (j : Int) ∧ xs.getD j 0 = y) ∧ w = w' := by
  obtain ⟨A, n, ca, rfl, hn, hnc, hcc⟩ := id hv
  rw [← hn] at hl ⊢
  have HCC := Lib.hid hcc
  clear hv hn hcc
  go_enter Tryd.func85, Tryd.ntmps85
  go_wp2_with fail
  go_loopw [8] (fun t wr => ∃ i : Nat, i ≤ n ∧ t = .int .i64 i ∧ (∀ j, j < i → xs.getD j 0 ≠ y) ∧ w = wr) (fun t _ => n - (intOf t).toNat)
  case atStart => exact ⟨0, by omega, rfl, fun j hj => absurd hj (Nat.not_lt_zero j), rfl⟩
  case round =>
    obtain ⟨i, hin, rfl, hz, rfl⟩ := hrel
    have HZ := Lib.hid hz
    clear hz
    by_cases hlt : i < n
    · obtain ⟨b, off, rfl, _, hc⟩ := HCC.out (by omega)
      have cx := hc i hlt
      obtain ⟨x, hx⟩ : ∃ x, xs.getD i 0 = x := ⟨_, rfl⟩
      rw [hx] at cx
      have HX := Lib.hid hx
      have qi : (i : Int) < (n : Int) := by omega
      have qi0 : (0 : Int) ≤ (i : Int) := by omega
      clear hx hc
      by_cases hxy : y = x
      · have t0 : (y == x) = true := by simpa using hxy
        have HE := Lib.hid hxy
        clear hxy
        go_wp2_with fail
        go_ret
        exact ⟨_, rfl, .inr ⟨i, hlt, rfl, by rw [HX.out]; exact HE.out.symm⟩, rfl⟩
      · have t0 : (y == x) = false := by simpa using hxy
        have HE := Lib.hid hxy
        clear hxy
        go_wp2_with fail
        go_roundw
        case measure => simp [intOf]; omega
        case rel => exact ⟨i + 1, by omega, by go_num, fun j hj => by
          rcases Nat.lt_or_ge j i with h | h
          · exact HZ.out j h
          · rw [show j = i by omega, HX.out]; exact fun e => HE.out e.symm, by first | rfl | trivial⟩
    · have hi' : i = n := by omega
      subst hi'
      go_wp2_with fail
      go_ret
      exact ⟨_, rfl, .inl ⟨rfl, HZ.out⟩, rfl⟩
set_option maxHeartbeats 1000000 in
theorem c_Contains (v : Value) (xs : List Int) (y : Int) (S : Nat → Prop) (w : World) (hv : IntsAt w S v xs) (hl : xs.length ≤ 1000000) :
    Calls Tryd.prog 55 #[v, .int .i64 y] w fun e w' => ∃ b : Bool, e = .returned (.bool b) ∧ (b = true ↔ ∃ j, j < xs.length ∧ xs.getD j 0 = y) ∧ w = w' := by
  have h := c_Index v xs y S w hv hl
  have H := Lib.hid h
  clear h
  go_enter Tryd.func55, Tryd.ntmps55
  go_wp2_with fail
  refine H.out.mono ?_
  rintro e w' ⟨r, rfl, hr, rfl⟩
  have hb : (decide ((0 : Int) ≤ r) = true ↔ ∃ j, j < xs.length ∧ xs.getD j 0 = y) := by
    rw [decide_eq_true_iff]
    rcases hr with ⟨rfl, hn⟩ | ⟨j, h1, rfl, h3⟩
    · exact ⟨fun h => by omega, fun ⟨j, h1, h3⟩ => absurd h3 (hn j h1)⟩
    · exact ⟨fun _ => ⟨j, h1, h3⟩, fun _ => by omega⟩
  have HB := Lib.hid hb
  clear hr hb
  go_wp2_with fail
  go_ret
  exact ⟨_, rfl, HB.out, rfl⟩
set_option maxRecDepth 100000 in
set_option maxHeartbeats 1000000 in
theorem c_different (v : Value) (xs : List Int) (S : Nat → Prop) (w : World) (hv : IntsAt w S v xs) (hl : xs.length ≤ 1000000) :
    Calls Tryd.prog 36 #[v] w fun e w' => ∃ b : Bool, e = .returned (.bool b) ∧ (b = true ↔ ∀ i j, i < xs.length → j < i → xs.getD j 0 ≠ xs.getD i 0) ∧ w = w' := by
  obtain ⟨i0, hi, hz0, hz1, hz2⟩ := info_parts infoI
  obtain ⟨A, n, ca, rfl, hn, hnc, hcc⟩ := id hv
  have hsl := fun (W : World) (i : Nat) (h : i ≤ ca) => run_slice_hi (P := Tryd.prog) W 22 3 i0 Tryd.underlying22 hi A n ca i h (i : Int) rfl
  have hct := fun (i : Nat) (h : i ≤ n) (y : Int) => c_Contains (.slice A i ca) (xs.take i) y S w (hv.take i (by omega)) (by rw [List.length_take]; omega)
  have HCT := Lib.hid hct
  have HSL := Lib.hid hsl
  have HN := Lib.hid hn
  have HCC := Lib.hid hcc
  rw [← hn] at hl ⊢
  clear hv hn hcc hsl hct
  go_enter Tryd.func36, Tryd.ntmps36
  go_wp2_with fail
  go_loopw [7] (fun t wr => ∃ i : Nat, i ≤ n ∧ t = .int .i64 i ∧ (∀ k j, k < i → j < k → xs.getD j 0 ≠ xs.getD k 0) ∧ w = wr) (fun t _ => n - (intOf t).toNat)
  case atStart => exact ⟨0, by omega, rfl, fun k j hk => absurd hk (Nat.not_lt_zero k), rfl⟩
  case round =>
    obtain ⟨i, hin, rfl, hz, rfl⟩ := hrel
    have HZ := Lib.hid hz
    clear hz
    by_cases hlt : i < n
    · obtain ⟨b, off, rfl, _, hc⟩ := HCC.out (by omega)
      have cx := hc i hlt
      have hsl := fun W => HSL.out W i (by omega)
      obtain ⟨x, hx⟩ : ∃ x, xs.getD i 0 = x := ⟨_, rfl⟩
      rw [hx] at cx
      have hct := HCT.out i (by omega) x
      have HX := Lib.hid hx
      have HC := Lib.hid hct
      have qi : (i : Int) < (n : Int) := by omega
      have qi0 : (0 : Int) ≤ (i : Int) := by omega
      clear hx hc hct
      go_wp2_with fail
      refine HC.out.mono ?_
      rintro e w' ⟨bb, rfl, hbb, rfl⟩
      have hex : (∃ j, j < (xs.take i).length ∧ (xs.take i).getD j 0 = x) ↔ ∃ j, j < i ∧ xs.getD j 0 = x := by
        have e : ∀ j, j < i → (xs.take i).getD j 0 = xs.getD j 0 := fun j hj => by rw [List.getD_eq_getElem?_getD, List.getD_eq_getElem?_getD, List.getElem?_take, if_pos hj]
        have el : (xs.take i).length = i := by rw [List.length_take]; have := HN.out; omega
        rw [el]
        exact ⟨fun ⟨j, h1, h3⟩ => ⟨j, h1, by rw [← e j h1]; exact h3⟩, fun ⟨j, h1, h3⟩ => ⟨j, h1, by rw [e j h1]; exact h3⟩⟩
      rw [hex] at hbb
      have HBB := Lib.hid hbb
      clear hex hbb
      cases bb with
      | true =>
        go_wp2_with fail
        go_ret
        obtain ⟨j, h1, h3⟩ := HBB.out.1 (by simp)
        exact ⟨false, rfl, ⟨fun h => by simp at h, fun h => absurd (h3.trans HX.out.symm) (h i j hlt h1)⟩, rfl⟩
      | false =>
        go_wp2_with fail
        go_roundw
        case measure => simp [intOf]; omega
        case rel => exact ⟨i + 1, by omega, by go_num, (fun k j hk hj => by
          rcases Nat.lt_or_ge k i with h | h
          · exact HZ.out k j h hj
          · rw [show k = i by omega] at hj ⊢
            intro e
            have := HBB.out.2 ⟨j, hj, e.trans HX.out⟩
            simp at this), by first | rfl | trivial⟩
    · have hi' : i = n := by omega
      subst hi'
      go_wp2_with fail
      go_ret
      exact ⟨true, rfl, ⟨fun _ => HZ.out, fun _ => rfl⟩, rfl⟩
end Go.Proofs.YtjfphobfikadlaaDoor

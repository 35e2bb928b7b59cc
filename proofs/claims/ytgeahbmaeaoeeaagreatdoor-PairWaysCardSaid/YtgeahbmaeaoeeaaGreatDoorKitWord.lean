/- Contracts: the kit's Word; two lists of numbers, whether they are equal. -/
import Derived.Test.YtgeahbmaeaoeeaaGreatDoorRefShr
import Derived.Test.YtgeahbmaeaoeeaaGreatDoorKitDice
set_option linter.unusedVariables false
set_option linter.unusedSimpArgs false
namespace Go.Proofs.YtgeahbmaeaoeeaaGreatDoor
open Go.RowKit Num

def WordPost (b n : Nat) (ss : Nat → ByteArray) (w : World) (e : Ending) (w' : World) : Prop := ∃ r : Nat, r < n ∧ e = .returned (.string (ss r)) ∧ Dc w' b ∧ w.grownBy w' (some b)
set_option maxHeartbeats 1000000 in
theorem k_Word (b g off n c : Nat) (ss : Nat → ByteArray) (w : World) (hd : Dc w b) (hg : g < w.heap.size) (hne : g ≠ b) (h1 : 1 ≤ n) (h2 : n ≤ 1000000) (hc : ∀ i, i < n → w.cell? ⟨g, off + i, none⟩ = some (.string (ss i))) :
    Calls Tryz.prog 54 #[.pointer (some ⟨b, 0, none⟩), .slice (some ⟨g, off, none⟩) n c] w (WordPost b n ss w) := by
  have HC := Lib.hid hc
  have HD := Lib.hid hd
  clear hc hd
  go_enter Tryz.func54, Tryz.ntmps54
  go_wp2_with fail
  refine (k_Next b n _ HD.out h1 (by omega)).mono ?_
  rintro e w1 ⟨r, hr, rfl, hd1, hg1⟩
  have hcell : w1.cell? ⟨g, off + r, none⟩ = some (.string (ss r)) := (World.cell?_of_block (hg1.block g hg (by intro e; injection e with e; exact hne e))).trans (HC.out r hr)
  have HD1 := Lib.hid hd1
  have HG1 := Lib.hid hg1
  have qr : (r : Int) < (n : Int) := by omega
  have q0 : (0 : Int) ≤ (r : Int) := by omega
  clear hd1 hg1
  go_wp2_with fail
  go_ret
  exact ⟨r, hr, rfl, HD1.out, HG1.out⟩
theorem getD_eq_of {xs ys : List Int} (hl : xs.length = ys.length) (h : ∀ q, q < xs.length → xs.getD q 0 = ys.getD q 0) : xs = ys := by
  apply List.ext_getElem hl
  intro i h1 h2
  have := h i h1
  rwa [List.getD_eq_getElem?_getD, List.getD_eq_getElem?_getD, List.getElem?_eq_getElem h1, List.getElem?_eq_getElem h2] at this
set_option maxRecDepth 100000 in
set_option maxHeartbeats 1000000 in
theorem r_Same (v u : Value) (xs ys : List Int) (S T : Nat → Prop) (w : World) (hv : IntsAt w S v xs) (hu : IntsAt w T u ys) (hl : xs.length ≤ 1000000) (hl2 : ys.length ≤ 1000000) :
    Calls Tryz.prog 30 #[v, u] w fun e w' => e = .returned (.bool (decide (xs = ys))) ∧ w = w' := by
  obtain ⟨A, n, c, rfl, hn, hnc, hx⟩ := hv
  obtain ⟨B, m, k, rfl, hm, hmk, hy⟩ := hu
  have n1 : n ≤ 1000000 := by omega
  have m1 : m ≤ 1000000 := by omega
  have HN := Lib.hid hn
  have HM := Lib.hid hm
  have HX := Lib.hid hx
  have HY := Lib.hid hy
  clear hn hm hx hy hl hl2
  by_cases hnm : n = m
  · have t0 : ((n : Int) != (m : Int)) = false := by simp; omega
    have HNM := Lib.hid hnm
    clear hnm
    go_enter Tryz.func30, Tryz.ntmps30
    go_wp2_with fail
    go_loopw [14] (fun t wr => ∃ k : Nat, k ≤ n ∧ t = .int .i64 k ∧ w = wr ∧ ∀ q, q < k → xs.getD q 0 = ys.getD q 0) (fun t _ => n - (intOf t).toNat)
    case atStart => exact ⟨0, by omega, rfl, rfl, fun q hq => absurd hq (by omega)⟩
    case round =>
      obtain ⟨k, hk, rfl, rfl, hq⟩ := hrel
      have HQ := Lib.hid hq
      clear hq
      by_cases hlt : k < n
      · obtain ⟨b, off, rfl, -, hc⟩ := HX.out (by omega)
        obtain ⟨b', off', rfl, -, hc'⟩ := HY.out (by have := HNM.out; omega)
        have c0 := hc k hlt
        have c1 := hc' k (by have := HNM.out; omega)
        have qk : (k : Int) < (n : Int) := by omega
        have qm : (k : Int) < (m : Int) := by have := HNM.out; omega
        clear hc hc'
        obtain ⟨x, hx⟩ : ∃ x, xs.getD k 0 = x := ⟨_, rfl⟩
        obtain ⟨y, hy⟩ : ∃ y, ys.getD k 0 = y := ⟨_, rfl⟩
        rw [hx] at c0
        rw [hy] at c1
        have HXX := Lib.hid hx
        have HYY := Lib.hid hy
        clear hx hy
        by_cases hxy : x = y
        · have t1 : ((y : Int) != x) = false := by simp [hxy]
          have HXY := Lib.hid hxy
          clear hxy
          go_wp2_with fail
          go_roundw
          case measure => simp [intOf]; omega
          case rel => exact ⟨k + 1, by omega, by go_num, (by first | rfl | trivial), fun q hq => by
            rcases Nat.lt_or_ge q k with h | h
            · exact HQ.out q h
            · have : q = k := by omega
              subst this; rw [HXX.out, HYY.out]; exact HXY.out⟩
        · have t1 : ((y : Int) != x) = true := by rw [bne_iff_ne]; exact fun h => hxy h.symm
          go_wp2_with fail
          go_ret
          refine ⟨?_, rfl⟩
          rw [decide_eq_false (fun h => hxy (by rw [← HXX.out, ← HYY.out, h]))]
          rfl
      · have hkn : k = n := by omega
        have hj0 : ¬ (k : Int) < (n : Int) := by omega
        go_wp2_with fail
        go_ret
        refine ⟨?_, rfl⟩
        rw [decide_eq_true (getD_eq_of (by rw [← HN.out, ← HM.out]; exact HNM.out) (fun q hq => HQ.out q (by rw [← HN.out] at hq; omega)))]
        rfl
  · have t0 : ((n : Int) != (m : Int)) = true := by rw [bne_iff_ne]; omega
    go_enter Tryz.func30, Tryz.ntmps30
    go_wp2_with fail
    go_ret
    refine ⟨?_, rfl⟩
    rw [decide_eq_false (fun h => hnm (by rw [HN.out, HM.out, h]))]
    rfl
end Go.Proofs.YtgeahbmaeaoeeaaGreatDoor

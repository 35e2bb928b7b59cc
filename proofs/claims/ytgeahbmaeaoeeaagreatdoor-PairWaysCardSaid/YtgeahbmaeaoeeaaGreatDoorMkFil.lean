/- Contracts: the elements that follow from a seed. -/
import Derived.Test.YtgeahbmaeaoeeaaGreatDoorKitPlan
set_option linter.unusedVariables false
set_option linter.unusedSimpArgs false
namespace Go.Proofs.YtgeahbmaeaoeeaaGreatDoor
open Go.RowKit Num

/-- The numbers that follow from a seed. -/
def fillN (p s : Nat) : Nat → Nat
  | 0 => s
  | i + 1 => (fillN p s i * 7 + 3 * i + 5) % p
def fillL (p s n : Nat) : List Int := (List.range n).map fun i => ((fillN p s (i + 1) : Nat) : Int)
theorem fillL_len (p s n : Nat) : (fillL p s n).length = n := by simp [fillL]
theorem fillL_succ (p s n : Nat) : fillL p s (n + 1) = fillL p s n ++ [((fillN p s (n + 1) : Nat) : Int)] := by
  unfold fillL; rw [List.range_succ, List.map_append]; rfl
theorem fillN_lt (p s : Nat) (h : 1 ≤ p) (hs : s < p) : ∀ i, fillN p s i < p
  | 0 => hs
  | _ + 1 => Nat.mod_lt _ (by omega)
theorem fillL_in (p s n : Nat) (h : 1 ≤ p) : InF p (fillL p s n) := by
  intro k hk
  rw [fillL_len] at hk
  have e : (fillL p s n).getD k 0 = ((fillN p s (k + 1) : Nat) : Int) := by
    unfold fillL; rw [List.getD_eq_getElem?_getD, List.getElem?_map, List.getElem?_range hk]; rfl
  rw [e]
  have : fillN p s (k + 1) < p := Nat.mod_lt _ (by omega)
  omega
set_option maxRecDepth 100000 in
set_option maxHeartbeats 1000000 in
theorem y_Fill (p n : Nat) (seed : Int) (w : World) (h1 : 1 ≤ p) (h2 : p ≤ 1073741824) (hn : n ≤ 100000) :
    Calls Tryz.prog 10 #[.int .i64 (p : Int), .int .i64 seed, .int .i64 (n : Int)] w (IntsPost (fillL p (seed % (p : Int)).toNat n) w) := by
  obtain ⟨i0, hi, hz0, hz1, hz2⟩ := info_parts infoI
  obtain ⟨s, hs⟩ : ∃ s, (seed % (p : Int)).toNat = s := ⟨_, rfl⟩
  have hsl : s < p := by
    have := Int.emod_lt_of_pos seed (show (0 : Int) < p by omega)
    have := Int.emod_nonneg seed (show (p : Int) ≠ 0 by omega)
    omega
  have hse : seed % (p : Int) = (s : Int) := by
    have := Int.emod_nonneg seed (show (p : Int) ≠ 0 by omega)
    omega
  rw [hs]
  have hm := fun W => k_Mod seed p W (by omega) (by omega)
  rw [hse] at hm
  have HM := Lib.hid hm
  clear hs hse hm
  go_enter Tryz.func10, Tryz.ntmps10
  go_wp2_with fail
  refine (HM.out _).mono ?_
  rintro e w' ⟨rfl, rfl⟩
  go_wp2_with fail
  go_loopw [7, 8, 9] (fun o x t wr => ∃ k : Nat, k ≤ n ∧ t = .int .i64 (k : Int) ∧ x = .int .i64 ((fillN p s k : Nat) : Int) ∧ wr.ownsRow w.heap.size 3 1 o k ((fillL p s k).map (Value.int .i64)) ∧ Below w.heap.size w wr) (fun _ _ t _ => n - (intOf t).toNat)
  case atStart => exact ⟨0, by omega, rfl, rfl, World.ownsRow_nil _ _ _ _, Below.refl _ _⟩
  case round =>
    obtain ⟨k, hk, rfl, rfl, hown, hbl⟩ := hrel
    have hsz := hbl.size
    by_cases hlt : k < n
    · have qk : (k : Int) < (n : Int) := by omega
      have hx1 : fillN p s k < p := fillN_lt p s (by omega) hsl k
      have hx2 : fillN p s (k + 1) < p := fillN_lt p s (by omega) hsl (k + 1)
      have hnx : ((fillN p s k : Nat) * 7 + 3 * (k : Int) + 5).tmod (p : Int) = ((fillN p s (k + 1) : Nat) : Int) := by
        rw [Int.tmod_eq_emod_of_nonneg (by omega)]
        show _ = (((fillN p s k * 7 + 3 * k + 5) % p : Nat) : Int)
        rw [Int.natCast_emod]; rfl
      have hst := fillL_succ p s k
      obtain ⟨x, hx⟩ : ∃ x, fillN p s k = x := ⟨_, rfl⟩
      obtain ⟨y, hy⟩ : ∃ y, fillN p s (k + 1) = y := ⟨_, rfl⟩
      rw [hx] at hx1 hnx ⊢
      rw [hy] at hx2 hnx hst
      have HY := Lib.hid hy
      have HST := Lib.hid hst
      have HBL := Lib.hid hbl
      have p0 : ¬ (p : Int) = 0 := by omega
      clear hx hy hst hbl
      go_wp2_with (at_builtin; refine wpList_append_own _ rfl _ _ 22 rfl w.heap.size 3 i0 (.int .i64 0) 1 8 Tryz.underlying22 hi hz0 hz1 hz2 rfl (by decide) _ _ _ rfl (hown.alloc _) ⟨wr.heap.size, 0, none⟩ 1 1 [.int .i64 (y : Int)] rfl rfl (fun j u hj => by have := cell_one_new wr (.int .i64 (y : Int)) 3 j u hj; simpa using this) (ints_oneCell .i64 [_]) (by unfold maxLen; omega) (by omega) (by simp; omega) ?_)
      intro v' w2 hown' hgrow _
      have hg := grown_past hgrow
      have hown2 : w2.ownsRow w.heap.size 3 1 v' (k + 1) ((fillL p s (k + 1)).map (Value.int .i64)) := by rw [HST.out, List.map_append]; simpa using hown'
      have hul : ∀ g, u7.ownBlock = some g → w.heap.size ≤ g := fun g hg => (hown.lt g hg).1
      have HO2 := Lib.hid hown2
      have HB2 := Lib.hid (HBL.out.grown hg hsz hul)
      clear hown' hgrow hg hown2 hul hown
      go_wp2_with fail
      go_roundw
      case measure => simp [intOf]; omega
      case rel => exact ⟨k + 1, by omega, by go_num, by rw [HY.out], HO2.out, HB2.out⟩
    · have hkn : k = n := by omega
      subst hkn
      go_wp2_with fail
      go_ret
      exact ⟨_, rfl, IntsAt.of_own hown, hbl⟩
end Go.Proofs.YtgeahbmaeaoeeaaGreatDoor

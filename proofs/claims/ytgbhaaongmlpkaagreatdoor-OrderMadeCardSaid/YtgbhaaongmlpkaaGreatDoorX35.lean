/- Contracts: slots, or the error; here and in the reference. Contracts: slices.Chunk over statements. A region that draws its order, in a round of a range over a function: it is walked as a plain one, its last operation last. -/
import Derived.Test.YtgbhaaongmlpkaaGreatDoorX30
import Derived.Test.YtgbhaaongmlpkaaGreatDoorX31
import Derived.Test.YtgbhaaongmlpkaaGreatDoorX21
import Derived.RangeFuncNested
import Derived.RangeFuncBound
import Derived.RangeFuncCalls
import Derived.RangeFuncLeaves
import Derived.RangeFuncWrites
import Derived.RangeFuncBox
import Derived.Shelf.Abstract
import Derived.Shelf.RegionOpen
import Derived.WalkKit
import Derived.OwnWalkIn
import Derived.TacticsInMore
import Derived.LoopNIn
import Derived.LoopIn
import Derived.BigQuiet
import Derived.Test.YtgbhaaongmlpkaaGreatDoorX07
import Derived.OrdersIn
import Derived.TacticsIn
set_option linter.unusedVariables false
set_option linter.unusedSimpArgs false
namespace Go.Proofs.YtgbhaaongmlpkaaGreatDoor
open Go.RowKit Num

theorem o_In (n a b : Int) (w : World) : Calls Tryz.prog 21 #[.int .i64 n, .int .i64 a, .int .i64 b] w fun e w' => e = .returned (.bool (decide (a ≤ n ∧ n ≤ b))) ∧ w = w' := by
  by_cases h1 : a ≤ n
  · by_cases h2 : n ≤ b
    · have e : decide (a ≤ n ∧ n ≤ b) = true := decide_eq_true ⟨h1, h2⟩
      rw [e]
      clear e
      go_enter Tryz.func21, Tryz.ntmps21
      go_wp2_with fail
      go_ret
      exact ⟨rfl, rfl⟩
    · have e : decide (a ≤ n ∧ n ≤ b) = false := decide_eq_false fun h => h2 h.2
      rw [e]
      clear e
      go_enter Tryz.func21, Tryz.ntmps21
      go_wp2_with fail
      go_ret
      exact ⟨rfl, rfl⟩
  · have e : decide (a ≤ n ∧ n ≤ b) = false := decide_eq_false fun h => h1 h.1
    rw [e]
    clear e
    go_enter Tryz.func21, Tryz.ntmps21
    go_wp2_with fail
    go_ret
    exact ⟨rfl, rfl⟩
abbrev tMax : Int := 1099511627776
/-- The least multiple that is not earlier. -/
def slotI (t p : Int) : Int := (t + p - 1).tdiv p * p
def slotV (t p : Int) : Int := if (0 ≤ t ∧ t ≤ tMax) ∧ 1 ≤ p ∧ p ≤ tMax then (if slotI t p > tMax then 0 else slotI t p) else 0
def slotZ (t p : Int) : Int := if (0 ≤ t ∧ t ≤ tMax) ∧ 1 ≤ p ∧ p ≤ tMax then (if slotI t p > tMax then 16 else 0) else 2
theorem slotI_in {t p : Int} (h0 : 0 ≤ t) (h1 : t ≤ tMax) (h2 : 1 ≤ p) (h3 : p ≤ tMax) : 0 ≤ (t + p - 1).tdiv p ∧ (t + p - 1).tdiv p ≤ 2 * tMax ∧ 0 ≤ slotI t p ∧ slotI t p ≤ 2 * tMax := by
  unfold slotI tMax at *
  rw [Int.tdiv_eq_ediv_of_nonneg (by omega)]
  have a := Int.ediv_mul_le (t + p - 1) (b := p) (by omega)
  have b := Int.ediv_nonneg (a := t + p - 1) (b := p) (by omega) (by omega)
  have c := Int.ediv_le_self (a := t + p - 1) p (by omega)
  have d := Int.mul_nonneg b (by omega : (0 : Int) ≤ p)
  omega
def SltQ (t p : Int) (w : World) (e : Ending) (w' : World) : Prop := e = .returned (.tuple #[.int .i64 (slotV t p), .int .i64 (slotZ t p)]) ∧ w = w'
theorem slot_bad {t p : Int} (h : ¬ ((0 ≤ t ∧ t ≤ tMax) ∧ 1 ≤ p ∧ p ≤ tMax)) : slotV t p = 0 ∧ slotZ t p = 2 := by unfold slotV slotZ; rw [if_neg h, if_neg h]; exact ⟨rfl, rfl⟩
theorem slot_late {t p : Int} (h : (0 ≤ t ∧ t ≤ tMax) ∧ 1 ≤ p ∧ p ≤ tMax) (h2 : slotI t p > tMax) : slotV t p = 0 ∧ slotZ t p = 16 := by unfold slotV slotZ; rw [if_pos h, if_pos h, if_pos h2, if_pos h2]; exact ⟨rfl, rfl⟩
theorem slot_good {t p : Int} (h : (0 ≤ t ∧ t ≤ tMax) ∧ 1 ≤ p ∧ p ≤ tMax) (h2 : ¬ slotI t p > tMax) : slotV t p = slotI t p ∧ slotZ t p = 0 := by unfold slotV slotZ; rw [if_pos h, if_pos h, if_neg h2, if_neg h2]; exact ⟨rfl, rfl⟩
set_option maxRecDepth 100000 in
set_option maxHeartbeats 1000000 in
theorem o_SlotA (t p : Int) (w : World) : Calls Tryz.prog 9 #[.int .i64 t, .int .i64 p] w (SltQ t p w) := by
  unfold SltQ
  by_cases h1 : 0 ≤ t ∧ t ≤ tMax
  · by_cases h2 : 1 ≤ p ∧ p ≤ tMax
    · have hq := slotI_in h1.1 h1.2 h2.1 h2.2
      have hz : ¬ p = 0 := by omega
      have d1 : decide ((0 : Int) ≤ t ∧ t ≤ 1099511627776) = true := decide_eq_true h1
      have d2 : decide ((1 : Int) ≤ p ∧ p ≤ 1099511627776) = true := decide_eq_true h2
      have HG : Hid (∀ q : Int, q = slotI t p → (slotV t p = if q > 1099511627776 then 0 else q) ∧ slotZ t p = if q > 1099511627776 then 16 else 0) := Lib.hid fun q e => by
        subst e
        by_cases h3 : slotI t p > tMax
        · obtain ⟨a, b⟩ := slot_late ⟨h1, h2⟩ h3
          exact ⟨by rw [a, if_pos h3], by rw [b, if_pos h3]⟩
        · obtain ⟨a, b⟩ := slot_good ⟨h1, h2⟩ h3
          exact ⟨by rw [a, if_neg h3], by rw [b, if_neg h3]⟩
      obtain ⟨s, hs⟩ : ∃ s, slotI t p = s := ⟨_, rfl⟩
      obtain ⟨a, b⟩ := HG.out s hs.symm
      rw [a, b]
      rw [hs] at hq
      unfold slotI at hs
      clear a b HG
      obtain ⟨q, hqe⟩ : ∃ q, (t + p - 1).tdiv p = q := ⟨_, rfl⟩
      rw [hqe] at hs hq
      have t1 : (0 : Int) ≤ t := h1.1
      have t2 : t ≤ 1099511627776 := h1.2
      have p1 : (1 : Int) ≤ p := h2.1
      have p2 : p ≤ 1099511627776 := h2.2
      have q1 : (0 : Int) ≤ q := hq.1
      have q2 : q ≤ 2199023255552 := hq.2.1
      have q3 : (0 : Int) ≤ s := hq.2.2.1
      have q4 : s ≤ 2199023255552 := hq.2.2.2
      clear hq
      clear h1 h2
      by_cases h3 : s > 1099511627776
      · rw [if_pos h3, if_pos h3]
        go_enter Tryz.func9, Tryz.ntmps9
        go_wp2_with fail
        refine (o_In _ _ _ _).mono ?_
        rintro e w1 ⟨rfl, rfl⟩
        rw [d1]
        go_wp2_with fail
        refine (o_In _ _ _ _).mono ?_
        rintro e w1 ⟨rfl, rfl⟩
        rw [d2]
        go_wp2_with fail
        go_ret2
        exact ⟨rfl, rfl⟩
      · rw [if_neg h3, if_neg h3]
        go_enter Tryz.func9, Tryz.ntmps9
        go_wp2_with fail
        refine (o_In _ _ _ _).mono ?_
        rintro e w1 ⟨rfl, rfl⟩
        rw [d1]
        go_wp2_with fail
        refine (o_In _ _ _ _).mono ?_
        rintro e w1 ⟨rfl, rfl⟩
        rw [d2]
        go_wp2_with fail
        go_ret2
        exact ⟨rfl, rfl⟩
    · obtain ⟨a, b⟩ := slot_bad (t := t) (p := p) fun h => h2 h.2
      rw [a, b]
      have d1 : decide ((0 : Int) ≤ t ∧ t ≤ 1099511627776) = true := decide_eq_true h1
      have d2 : decide ((1 : Int) ≤ p ∧ p ≤ 1099511627776) = false := decide_eq_false h2
      clear a b h1 h2
      go_enter Tryz.func9, Tryz.ntmps9
      go_wp2_with fail
      refine (o_In _ _ _ _).mono ?_
      rintro e w1 ⟨rfl, rfl⟩
      rw [d1]
      go_wp2_with fail
      refine (o_In _ _ _ _).mono ?_
      rintro e w1 ⟨rfl, rfl⟩
      rw [d2]
      go_wp2_with fail
      go_ret2
      exact ⟨rfl, rfl⟩
  · obtain ⟨a, b⟩ := slot_bad (t := t) (p := p) fun h => h1 h.1
    rw [a, b]
    have d1 : decide ((0 : Int) ≤ t ∧ t ≤ 1099511627776) = false := decide_eq_false h1
    clear a b h1
    go_enter Tryz.func9, Tryz.ntmps9
    go_wp2_with fail
    refine (o_In _ _ _ _).mono ?_
    rintro e w1 ⟨rfl, rfl⟩
    rw [d1]
    go_wp2_with fail
    go_ret2
    exact ⟨rfl, rfl⟩
set_option maxRecDepth 100000 in
set_option maxHeartbeats 1000000 in
theorem r_SlotA (t p : Int) (w : World) : Calls Tryz.prog 10 #[.int .i64 t, .int .i64 p] w (SltQ t p w) := by
  unfold SltQ
  by_cases h1 : 0 ≤ t ∧ t ≤ tMax
  · by_cases h2 : 1 ≤ p ∧ p ≤ tMax
    · have hq := slotI_in h1.1 h1.2 h2.1 h2.2
      have hz : ¬ p = 0 := by omega
      have HG : Hid (∀ q : Int, q = slotI t p → (slotV t p = if q > 1099511627776 then 0 else q) ∧ slotZ t p = if q > 1099511627776 then 16 else 0) := Lib.hid fun q e => by
        subst e
        by_cases h3 : slotI t p > tMax
        · obtain ⟨a, b⟩ := slot_late ⟨h1, h2⟩ h3
          exact ⟨by rw [a, if_pos h3], by rw [b, if_pos h3]⟩
        · obtain ⟨a, b⟩ := slot_good ⟨h1, h2⟩ h3
          exact ⟨by rw [a, if_neg h3], by rw [b, if_neg h3]⟩
      obtain ⟨s, hs⟩ : ∃ s, slotI t p = s := ⟨_, rfl⟩
      obtain ⟨a, b⟩ := HG.out s hs.symm
      rw [a, b]
      rw [hs] at hq
      unfold slotI at hs
      clear a b HG
      obtain ⟨q, hqe⟩ : ∃ q, (t + p - 1).tdiv p = q := ⟨_, rfl⟩
      rw [hqe] at hs hq
      have t1 : (0 : Int) ≤ t := h1.1
      have t2 : t ≤ 1099511627776 := h1.2
      have p1 : (1 : Int) ≤ p := h2.1
      have p2 : p ≤ 1099511627776 := h2.2
      have q1 : (0 : Int) ≤ q := hq.1
      have q2 : q ≤ 2199023255552 := hq.2.1
      have q3 : (0 : Int) ≤ s := hq.2.2.1
      have q4 : s ≤ 2199023255552 := hq.2.2.2
      clear hq
      clear h1 h2
      by_cases h3 : s > 1099511627776
      · rw [if_pos h3, if_pos h3]
        go_enter Tryz.func10, Tryz.ntmps10
        go_wp2_with fail
        go_ret2
        exact ⟨rfl, rfl⟩
      · rw [if_neg h3, if_neg h3]
        go_enter Tryz.func10, Tryz.ntmps10
        go_wp2_with fail
        go_ret2
        exact ⟨rfl, rfl⟩
    · obtain ⟨a, b⟩ := slot_bad (t := t) (p := p) fun h => h2 h.2
      rw [a, b]
      have t1 : (0 : Int) ≤ t := h1.1
      have t2 : t ≤ 1099511627776 := h1.2
      have g1 : ¬ t < 0 := by omega
      have g2 : ¬ t > 1099511627776 := by omega
      by_cases p1 : p < 1
      · clear a b h1 h2
        go_enter Tryz.func10, Tryz.ntmps10
        go_wp2_with fail
        go_ret2
        exact ⟨rfl, rfl⟩
      · have p2 : p > 1099511627776 := by
          by_cases e : p > 1099511627776
          · exact e
          · exact absurd ⟨by omega, by show p ≤ 1099511627776; omega⟩ h2
        clear a b h1 h2
        go_enter Tryz.func10, Tryz.ntmps10
        go_wp2_with fail
        go_ret2
        exact ⟨rfl, rfl⟩
  · obtain ⟨a, b⟩ := slot_bad (t := t) (p := p) fun h => h1 h.1
    rw [a, b]
    by_cases t1 : t < 0
    · clear a b h1
      go_enter Tryz.func10, Tryz.ntmps10
      go_wp2_with fail
      go_ret2
      exact ⟨rfl, rfl⟩
    · have t2 : t > 1099511627776 := by
        by_cases e : t > 1099511627776
        · exact e
        · exact absurd ⟨by omega, by show t ≤ 1099511627776; omega⟩ h1
      clear a b h1
      go_enter Tryz.func10, Tryz.ntmps10
      go_wp2_with fail
      go_ret2
      exact ⟨rfl, rfl⟩
end Go.Proofs.YtgbhaaongmlpkaaGreatDoor
namespace Go.Proofs.YtgbhaaongmlpkaaGreatDoor
open Go.RowKit Go.Shelf Num

attribute [local go_sem] Oper.semAt_some

/-- What has come when k rounds are over. -/
def upN (k : Nat) : List Nat := List.range k
theorem upN_succ (k : Nat) : upN (k + 1) = upN k ++ [k] := by simp [upN, List.range_succ]
theorem upN_length (k : Nat) : (upN k).length = k := by simp [upN]
/-- How many parts there are, and how long each is. -/
def chQ (len z : Nat) : Nat := (len + z - 1) / z
def chM (len z k : Nat) : Nat := min z (len - k * z)
theorem chQ_lt {len z k : Nat} (hz : 1 ≤ z) : k < chQ len z ↔ k * z < len := by
  unfold chQ
  rw [Nat.lt_iff_add_one_le, Nat.le_div_iff_mul_le (by omega), Nat.succ_mul]
  omega
/-- What a round keeps. -/
def BKc (n₀ Bs Bz : Nat) (W W' : World) : Prop := Below n₀ W W' ∧ W'.heap[Bs]? = W.heap[Bs]? ∧ W'.heap[Bz]? = W.heap[Bz]?
theorem BKc.refl (n₀ Bs Bz : Nat) (W : World) : BKc n₀ Bs Bz W W := ⟨Below.refl _ _, rfl, rfl⟩
theorem BKc.trans {n₀ Bs Bz : Nat} {A B C : World} (h : BKc n₀ Bs Bz A B) (k : BKc n₀ Bs Bz B C) : BKc n₀ Bs Bz A C := ⟨h.1.trans k.1, k.2.1.trans h.2.1, k.2.2.trans h.2.2⟩
theorem bkc_b {n₀ Bs Bz : Nat} {w : World} (hn : n₀ ≤ w.heap.size) (hB : Bs < w.heap.size) (hZ : Bz < w.heap.size) (W : World) (l : Nat) (o o' : Obj) (hl : w.heap.size ≤ l) (h : W.heap[l]? = some o) (h1 : o.isCells = false) (h2 : o.isWalk = false) : BKc n₀ Bs Bz W (W.putObj l o') :=
  ⟨belowK_b hn W l o o' hl h h1 h2, World.putObj_heap_other (by omega), World.putObj_heap_other (by omega)⟩
theorem run_slice_full {P : Program} (w : World) (t e : TypeId) (i : TypeInfo) (size : Nat) (ht : P.underlying t = some (.slice e)) (hi : P.info? e = some i) (hz : i.size = size) (b off n c lo hg : Nat) (h1 : lo < hg) (h2 : hg ≤ c) (x y : Int) (hx : x = (lo : Int)) (hy : y = (hg : Int)) :
    (Instr.slice t (.slice (some ⟨b, off, none⟩) n c) (some (.int .i64 x)) (some (.int .i64 y)) (some (.int .i64 y))).run P w = .ok (.slice (some ⟨b, off + lo * size, none⟩) (hg - lo) (hg - lo)) w := by
  subst hx hy hz
  have e1 : (0 : Int) ≤ (hg : Int) ∧ (hg : Int) ≤ (c : Int) := by omega
  have e2 : (0 : Int) ≤ (lo : Int) ∧ (lo : Int) ≤ (hg : Int) := by omega
  have e3 : (0 : Int) ≤ (hg : Int) ∧ (hg : Int) ≤ (hg : Int) := by omega
  have e4 : ¬ hg = lo := by omega
  have h1' : lo ≤ hg := by omega
  simp [Instr.slice, run_underlying ht, Instr.sliceBounds, Instr.sliceBound, asIntOf, sizeOf, typeInfo, hi, go_sem, h1', h2, e4, Addr.add]
set_option maxRecDepth 100000 in
set_option maxHeartbeats 400000 in
theorem s_Chunk (A : Option Addr) (len cap z : Nat) (w : World) (hz : 1 ≤ z) : Calls Tryz.prog 27 #[.slice A len cap, .int .i64 (z : Int)] w fun e w' => e = .returned (.func (.func 40) #[] #[.pointer (some ⟨w.heap.size, 0, none⟩), .pointer (some ⟨w.heap.size + 1, 0, none⟩)]) ∧ w' = (w.alloc (.cells #[.slice A len cap] 28)).alloc (.cells #[.int .i64 (z : Int)] 3) := by
  have z1 : ¬ (z : Int) < 1 := by omega
  go_enter Tryz.func27, Tryz.ntmps27
  go_wp2_with fail
  go_ret
  exact ⟨rfl, rfl⟩
set_option maxRecDepth 100000 in
set_option maxHeartbeats 4000000 in
theorem chunk1_in (n : Nat) (hn : 1 ≤ n) (l Bs Bz n₀ len cap z b off : Nat) (hz : 1 ≤ z) (hz2 : z ≤ 256) (hlen : len ≤ 256) (hlc : len ≤ cap) (J Jx : List Nat → World → Prop)
    (hY : ∀ pre x W, J pre W → pre.length < chQ len z → YieldAt Fence.wide (n - 1) Tryz.prog l #[.slice (some ⟨b, off + x * z * 6, none⟩) (chM len z x) (chM len z x)] W fun e W' =>
      (e = .returned (.bool true) ∧ J (pre ++ [x]) W' ∧ BKc n₀ Bs Bz W W') ∨ (e = .returned (.bool false) ∧ Jx (pre ++ [x]) W'))
    (hJd : ∀ s W k, J s W → J s (W.drewN k)) (A : Option Addr) (hA : 0 < len → A = some ⟨b, off, none⟩) (W : World) (hBs : W.cell? ⟨Bs, 0, none⟩ = some (.slice A len cap)) (hBz : W.cell? ⟨Bz, 0, none⟩ = some (.int .i64 (z : Int))) (h0 : J [] W) :
    CallsIn Fence.wide n Tryz.prog 40 #[.func (.yield l) #[] #[], .pointer (some ⟨Bs, 0, none⟩), .pointer (some ⟨Bz, 0, none⟩)] W fun e W' => (∃ v, e = .returned v) ∧
      ((∃ ys, ys = upN (chQ len z) ∧ J ys W') ∨ (∃ pre, (∃ k, k ≤ chQ len z ∧ pre = upN k) ∧ Jx pre W')) := by
  obtain ⟨i0, hi, hz0, hz1, hzb⟩ := info_parts infoSt
  refine callsIn_of_wp Tryz.func40 rfl trivial ?_ rfl
  simp only [Tryz.ntmps40, List.size_toArray, List.length_cons, List.length_nil, Nat.reduceAdd, Nat.reduceSub, Array.replicate_succ, Array.replicate_zero, List.push_toArray, List.append_toArray, List.nil_append, List.cons_append]
  gi_wp2
  gi_loopw [4, 5] (fun i _ wr => ∃ k : Nat, k ≤ chQ len z ∧ i = .int .i64 ((k * z : Nat) : Int) ∧ J (upN k) wr ∧ BKc n₀ Bs Bz W wr)
    (fun i _ _ => chQ len z * z - (intOf i).toNat)
  case atStart => exact ⟨0, by omega, by simp, h0, BKc.refl _ _ _ _⟩
  case round =>
    obtain ⟨k, hk, rfl, hJs, hnx⟩ := hrel
    have cs : wr.cell? ⟨Bs, 0, none⟩ = some (.slice A len cap) := (World.cell?_of_block (a := ⟨Bs, 0, none⟩) hnx.2.1).trans hBs
    have cz : wr.cell? ⟨Bz, 0, none⟩ = some (.int .i64 (z : Int)) := (World.cell?_of_block (a := ⟨Bz, 0, none⟩) hnx.2.2).trans hBz
    have hkz := chQ_lt (len := len) (z := z) (k := k) hz
    by_cases hlt : k < chQ len z
    · obtain ⟨m, hm⟩ : ∃ m, chM len z k = m := ⟨_, rfl⟩
      have hsucc : (k + 1) * z = k * z + z := Nat.succ_mul k z
      have hqz : (k + 1) * z ≤ chQ len z * z := Nat.mul_le_mul_right z hlt
      obtain ⟨a, ha⟩ : ∃ a, k * z = a := ⟨_, rfl⟩
      rw [ha] at hkz hsucc ⊢
      have hal := hkz.1 hlt
      obtain rfl := hA (by omega)
      have hmz : m = min z (len - a) := by rw [← hm]; unfold chM; rw [ha]
      have hm1 : 1 ≤ m := by omega
      have hm2 : a + m ≤ len := by omega
      have ha6 : a ≤ 256 := by omega
      have hsl1 := fun (W : World) => run_slice_lo (P := Tryz.prog) W 28 36 i0 6 Tryz.underlying28 hi hz1 (some ⟨b, off, none⟩) len cap a (by omega) hlc (a : Int) rfl
      have hsl2 := fun (W : World) => run_slice_full (P := Tryz.prog) W 28 36 i0 6 Tryz.underlying28 hi hz1 b off len cap a (a + m) (by omega) (by omega) (a : Int) ((a : Int) + (m : Int)) rfl (by omega)
      rw [show a + m - a = m by omega] at hsl2
      have zi : (a : Int) < (len : Int) := by omega
      have za : (0 : Int) ≤ (a : Int) := by omega
      have HSU := Lib.hid hsucc
      have HA := Lib.hid ha
      have HM := Lib.hid hm
      have HQZ := Lib.hid hqz
      have HNX := Lib.hid hnx
      have HJS := Lib.hid hJs
      have HY := Lib.hid hY
      have HJD := Lib.hid hJd
      have HK := Lib.hid (And.intro hk hlt)
      have HSL2 := Lib.hid hsl2
      clear hsucc ha hm hqz hnx hJs hY hJd hk hlt hkz hBs hBz h0 hsl2
      have hmin : min (z : Int) ((len - a : Nat) : Int) = (m : Int) := by omega
      clear hmz
      gi_wp2
      refine wpIn_wide.2 ?_
      go_quiet (fail)
      have cs2 : (wr.drewN nq).cell? ⟨Bs, 0, none⟩ = some (.slice (some ⟨b, off, none⟩) len cap) := cs
      have cz2 : (wr.drewN nq).cell? ⟨Bz, 0, none⟩ = some (.int .i64 (z : Int)) := cz
      obtain ⟨fn, tmps, assign, body, hy, hR⟩ := HY.out _ k (wr.drewN nq) (HJD.out _ _ nq HJS.out) (by rw [upN_length]; exact HK.out.2)
      rw [HM.out, HA.out] at hy
      have hsl2 := HSL2.out
      clear hmin hsl1 cs cz
      gi_wp2
      refine hR.mono ?_
      rintro e W3 (⟨rfl, hJ3, hk3⟩ | ⟨rfl, hJx3⟩)
      · have cz3 : W3.cell? ⟨Bz, 0, none⟩ = some (.int .i64 (z : Int)) := (World.cell?_of_block (a := ⟨Bz, 0, none⟩) hk3.2.2).trans cz2
        gi_wp2
        go_roundw
        case rel =>
          refine ⟨k + 1, by have := HK.out; omega, ?_, by rw [upN_succ]; exact hJ3, HNX.out.trans (BKc.trans ⟨only_drewB _ _ nq, rfl, rfl⟩ hk3)⟩
          rw [HSU.out]; simp
        case measure =>
          have := HQZ.out
          have := HSU.out
          simp [intOf]; omega
      · gi_wp2
        refine bodyPost_ret (results_none rfl _ _ _) rfl ?_
        exact ⟨⟨_, rfl⟩, .inr ⟨_, ⟨k + 1, by have := HK.out; omega, (upN_succ k).symm⟩, hJx3⟩⟩
    · obtain rfl : k = chQ len z := by omega
      have zi : ¬ ((chQ len z * z : Nat) : Int) < (len : Int) := by
        have hz' : ¬ chQ len z * z < len := fun h => hlt (hkz.2 h)
        omega
      have HKZ := Lib.hid hkz
      clear hkz hlt
      gi_wp2
      go_end0
      first
        | exact ⟨⟨_, rfl⟩, .inl ⟨_, rfl, hJs⟩⟩
        | exact ⟨⟨_, rfl⟩, .inl hJs⟩
        | exact hJs
        | exact .inl hJs
theorem chunk_stops (Bs Bz n₀ len cap z b off : Nat) (hz : 1 ≤ z) (hz2 : z ≤ 256) (hlen : len ≤ 256) (hlc : len ≤ cap) (w : World) (hBs : Bs < w.heap.size) (hBz : Bz < w.heap.size) (hn₀ : n₀ ≤ w.heap.size)
    (A : Option Addr) (hA0 : 0 < len → A = some ⟨b, off, none⟩) (hcs : w.cell? ⟨Bs, 0, none⟩ = some (.slice A len cap)) (hcz : w.cell? ⟨Bz, 0, none⟩ = some (.int .i64 (z : Int))) :
    SeqStopsK Fence.wide 2 Tryz.prog 40 #[.pointer (some ⟨Bs, 0, none⟩), .pointer (some ⟨Bz, 0, none⟩)] (fun x : Nat => #[Value.slice (some ⟨b, off + x * z * 6, none⟩) (chM len z x) (chM len z x)]) (BKc n₀ Bs Bz) (fun ys => ys = upN (chQ len z))
      (fun pre => ∃ k, k ≤ chQ len z ∧ pre = upN k) (chQ len z) w := fun l J Jx W hW hA _ hY h0 =>
  chunk1_in 2 (by omega) l Bs Bz n₀ len cap z b off hz hz2 hlen hlc J Jx hY (fun s W k h => hA s W _ none h (only_drewN (World.grownBy.refl W none) k) (fun r e => by cases e)) A hA0 W ((hW.cell (p := ⟨Bs, 0, none⟩) hBs).trans hcs) ((hW.cell (p := ⟨Bz, 0, none⟩) hBz).trans hcz) h0
end Go.Proofs.YtgbhaaongmlpkaaGreatDoor
namespace Go.Proofs.YtgbhaaongmlpkaaGreatDoor

section
variable {P : Program} {Q : Exit → Act → World → Prop} {md : Region.Mode} {ops : Array Oper}
/-- The normal way out alone. -/
def NoOut (Q : Exit → Act → World → Prop) : Exit → Act → World → Prop
  | .normal, a, w => Q .normal a w
  | _, _, _ => False
theorem noOut_lets : ¬ LetsOut (NoOut Q) := fun ⟨_, _, h⟩ => h
theorem rows_wide {n : Nat} {row : String} {args : Array Value} {w : World} {R : Value → World → Prop} (h : Rows P row args w R) : RowsIn Fence.wide n P row args w R :=
  fun c cs _ => let ⟨v, w', r, s⟩ := h c cs; ⟨v, w', r, stepsIn_wide.2 s⟩
theorem upon_round {l n : Nat} {o : Oper} {a : Act} {K : Act → World → Prop} {r : Result Next} (h : o.upon P a K (NoOut Q) r) : o.uponIn (Fence.wide.inRound l) n P a K Q r := by
  cases r with
  | ok x w' =>
    cases x with
    | value v => exact h
    | skip => exact h
    | defer d => exact h
    | enter f args =>
      refine ⟨fun e => (by cases e), ?_⟩
      refine CallsIn.inRound l ((callsIn_wide.2 h).mono fun e w'' he => ?_)
      cases e with
      | returned v => exact he
      | panicked c => exact he.elim
      | outgrown => exact (noOut_lets he).elim
    | row row args => exact ⟨fun e => (by cases e), rows_wide h⟩
    | _ => exact (h : False).elim
  | halt x w' =>
    cases x <;> exact (h : False).elim
theorem wp_round {l n : Nat} {o : Oper} {a : Act} {w : World} {K : Act → World → Prop} (hd : ∀ c, o.op ≠ .defer c) (h : o.wp P a w K (NoOut Q)) : o.wpIn (Fence.wide.inRound l) n P a w K Q := by
  refine ⟨fun _ _ => trivial, ?_⟩
  rw [show (Fence.wide.inRound l).round = some l from rfl, Oper.semAt_some l _ _ hd]
  exact upon_round h
theorem wpAny_round {l n : Nat} (hd : ∀ (i : Nat) (o : Oper), ops[i]? = some o → ∀ c, o.op ≠ .defer c) : ∀ (fuel : Nat) (listed : Array Bool) (a : Act) (w : World), wpAny P md ops (NoOut Q) fuel listed a w → wpAnyIn (Fence.wide.inRound l) n P md ops Q fuel listed a w := by
  intro fuel
  induction fuel with
  | zero => intro listed a w h; exact ⟨h.1, h.2⟩
  | succ fuel ih =>
    intro listed a w h
    refine ⟨fun e => h.1 e, fun i hi => ?_⟩
    have h2 := h.2 i hi
    unfold wpOp at h2
    unfold wpOpIn
    cases ho : ops[i]? with
    | none => rw [ho] at h2; exact ih _ _ _ h2
    | some o =>
      rw [ho] at h2
      dsimp only at h2 ⊢
      by_cases hw : Region.wanted o (yielded ops a.tmps) = true
      · rw [if_pos hw] at h2 ⊢
        rcases h2 with h2 | ⟨_, h3⟩
        · exact Oper.wpIn_mono (fun a' w' hk => ih _ _ _ hk) (wp_round (hd i o ho) h2)
        · exact (noOut_lets h3).elim
      · rw [if_neg hw] at h2 ⊢
        exact ⟨fun _ _ => trivial, ih _ _ _ h2⟩
def noDeferB (L : List Oper) : Bool := L.all fun o => match o.op with | .defer _ => false | _ => true
theorem noDefer {L : List Oper} (h : noDeferB L = true) (i : Nat) (o : Oper) (ho : L.toArray[i]? = some o) (c : _) : o.op ≠ .defer c := by
  intro e
  have hm : o ∈ L := by
    have : L[i]? = some o := by simpa using ho
    exact List.mem_of_getElem? this
  have := List.all_eq_true.1 h o hm
  rw [e] at this
  cases this
/-- **THE REGION IN A ROUND, ITS LAST OPERATION LAST.** -/
theorem region_round_last {id l n : Nat} {a : Act} {w : World} (L : List Oper) (o : Oper) (S : World → Prop) (hm : P.follows .mixedOrders = true) (hd : noDeferB L = true) (hL : L.dropLast ++ [o] = L) (hB : lastB L.dropLast o = true) (hS : S w.drew)
    (h : S w.drew → wpAnyH P .any L.dropLast.toArray (LastQ P L.toArray L.dropLast.length (NoOut Q)) S L.dropLast.length (Array.replicate L.dropLast.length false) a w.drew) : (Code.region id L.toArray true).wpIn (Fence.wide.inRound l) n P Q a w := by
  refine wpIn_region_any hm (wpAny_round (fun i x hx => noDefer hd i x hx) _ _ _ _ ?_)
  have key0 := wpAny_of_held _ _ _ _ (h hS)
  have hl : L.length = L.dropLast.length + 1 := by have := congrArg List.length hL; rw [List.length_append] at this; exact this.symm
  have key : wpAny P .any (L.dropLast ++ [o]).toArray (NoOut Q) (L.dropLast.length + 1) (Array.replicate (L.dropLast.length + 1) false) a w.drew := by
    have key1 : wpAny P .any L.dropLast.toArray (LastQ P (L.dropLast ++ [o]).toArray L.dropLast.length (NoOut Q)) L.dropLast.length (Array.replicate L.dropLast.length false) a w.drew := by rw [hL]; exact key0
    have hB' := lastB_spec hB
    generalize L.dropLast = l' at *
    exact wpAny_last hB' l'.length _ (Array.replicate l'.length false) a _ ⟨fun j hj => by simp [hj, show j < l'.length + 1 by omega], by simp, by simp⟩ (by simp) key1
  rw [hL] at key
  rw [show L.toArray.size = L.dropLast.length + 1 by rw [List.size_toArray]; exact hl]
  exact key
end
end Go.Proofs.YtgbhaaongmlpkaaGreatDoor

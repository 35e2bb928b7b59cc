/- Contracts: a slice backwards (slices.Backward), a polynomial's value, its degree. -/
import Derived.Test.YtjfphobfikadlaaDoorPolW
import Derived.Test.YtjfphobfikadlaaDoorRsLoc
import Derived.RangeFuncNested
import Derived.RangeFuncBound
import Derived.RangeFuncCalls
import Derived.RangeFuncLeaves
import Derived.RangeFuncWrites
import Derived.RangeFuncBox
import Derived.Shelf.Abstract
import Derived.Shelf.RegionOpen
import Derived.WalkKit
import Derived.OwnWalkIn
import Derived.TacticsInMore
import Derived.LoopNIn
import Derived.LoopIn
set_option linter.unusedVariables false
set_option linter.unusedSimpArgs false
namespace Go.Proofs.YtjfphobfikadlaaDoor
open Go.RowKit Go.Shelf Num

attribute [local go_sem] Oper.semAt_some

/-- What has come when k rounds are over. -/
def upF {α : Type} (f : Nat → α) (k : Nat) : List α := (List.range k).map f
theorem upF_succ {α : Type} (f : Nat → α) (k : Nat) : upF f (k + 1) = upF f k ++ [f k] := by simp [upF, List.range_succ]
theorem upF_length {α : Type} (f : Nat → α) (k : Nat) : (upF f k).length = k := by simp [upF]
/-- What a round keeps. -/
def BKp (n₀ Bs : Nat) (W W' : World) : Prop := Below n₀ W W' ∧ W'.heap[Bs]? = W.heap[Bs]?
theorem BKp.trans {n₀ Bs : Nat} {A B C : World} (h : BKp n₀ Bs A B) (k : BKp n₀ Bs B C) : BKp n₀ Bs A C := ⟨h.1.trans k.1, k.2.trans h.2⟩
theorem bkp_b {n₀ Bs : Nat} {w : World} (hn : n₀ ≤ w.heap.size) (hB : Bs < w.heap.size) (W : World) (l : Nat) (o o' : Obj) (hl : w.heap.size ≤ l) (h : W.heap[l]? = some o) (h1 : o.isCells = false) (h2 : o.isWalk = false) : BKp n₀ Bs W (W.putObj l o') :=
  ⟨belowK_b hn W l o o' hl h h1 h2, World.putObj_heap_other (by omega)⟩

set_option maxRecDepth 100000 in
set_option maxHeartbeats 2000000 in
theorem back1_in {α : Type} (eN : α → Nat) (eI : α → Int) (f : Nat → α) (F : Fence) (n : Nat) (hF : F.fn 71) (hro : F.round = none) (hn : 1 ≤ n) (l Bs n₀ len cap : Nat) (A : Option Addr) (zs : List Int) (hreach : len ≤ 1000000) (hlen : len = zs.length) (hf : ∀ k, k < len → eN (f k) = len - 1 - k ∧ eI (f k) = zs.getD (len - 1 - k) 0) (J Jx : List α → World → Prop)
    (hY : ∀ pre x W, J pre W → pre.length < len → YieldAt F (n - 1) Tryd.prog l #[.int .i64 (eN x : Int), .int .i64 (eI x)] W fun e W' =>
      (e = .returned (.bool true) ∧ J (pre ++ [x]) W' ∧ BKp n₀ Bs W W') ∨ (e = .returned (.bool false) ∧ Jx (pre ++ [x]) W'))
    (W : World) (hBs : W.cell? ⟨Bs, 0, none⟩ = some (.slice A len cap)) (hc : 0 < len → ∃ b off, A = some ⟨b, off, none⟩ ∧ b < n₀ ∧ ∀ j, j < len → W.cell? ⟨b, off + j, none⟩ = some (.int .i64 (zs.getD j 0))) (h0 : J [] W) :
    CallsIn F n Tryd.prog 71 #[.func (.yield l) #[] #[], .pointer (some ⟨Bs, 0, none⟩)] W fun e W' => (∃ v, e = .returned v) ∧
      ((∃ ys, ys = upF f len ∧ J ys W') ∨ (∃ pre, (∃ k, k ≤ len ∧ pre = upF f k) ∧ Jx pre W')) := by
  refine callsIn_of_wp Tryd.func71 rfl hF ?_ hro
  simp only [Tryd.ntmps71, List.size_toArray, List.length_cons, List.length_nil, Nat.reduceAdd, Nat.reduceSub, Array.replicate_succ, Array.replicate_zero, List.push_toArray, List.append_toArray, List.nil_append, List.cons_append]
  have HLEN := Lib.hid hlen
  clear hlen
  gi_wp2
  gi_loopw [3] (fun i wr => ∃ k m : Nat, m + k = len ∧ i = .int .i64 ((m : Int) - 1) ∧ J (upF f k) wr ∧ BKp n₀ Bs W wr)
    (fun i _ => (intOf i + 1).toNat)
  case atStart => exact ⟨0, len, by omega, rfl, h0, Below.refl _ _, rfl⟩
  case round =>
    obtain ⟨k, m, hk, rfl, hJs, hnx⟩ := hrel
    have hbx : wr.cell? ⟨Bs, 0, none⟩ = some (.slice A len cap) := (World.cell?_of_block (a := ⟨Bs, 0, none⟩) hnx.2).trans hBs
    by_cases hlt : 0 < m
    · obtain ⟨m', rfl⟩ : ∃ m', m = m' + 1 := ⟨m - 1, by omega⟩
      obtain ⟨b, off, rfl, hb, hcs⟩ := hc (by omega)
      have hcx := (hnx.1.cell (p := ⟨b, off + m', none⟩) hb).trans (hcs m' (by omega))
      have HDS := Lib.hid (upF_succ f k)
      obtain ⟨hf1, hf2⟩ := hf k (by omega)
      rw [show len - 1 - k = m' by omega] at hf1 hf2
      obtain ⟨y, hy0⟩ : ∃ y, zs.getD m' 0 = y := ⟨_, rfl⟩
      rw [hy0] at hcx hf2
      obtain ⟨fn, tmps, assign, body, hy, hR⟩ := hY _ (f k) wr hJs (by rw [upF_length]; omega)
      rw [hf1, hf2] at hy
      clear hy0 hf1 hf2
      have q0 : ((m' + 1 : Nat) : Int) - 1 = (m' : Int) := by omega
      rw [q0]
      have q1 : (m' : Int) < (len : Int) := by omega
      have q2 : (0 : Int) ≤ (m' : Int) := by omega
      gi_wp2
      refine hR.mono ?_
      rintro e W3 (⟨rfl, hJ3, hk3⟩ | ⟨rfl, hJx3⟩)
      · gi_wp2
        go_roundw
        case rel => exact ⟨k + 1, m', by omega, rfl, by rw [HDS.out]; exact hJ3, hnx.trans hk3⟩
        case measure => simp [intOf]
      · gi_wp2
        refine bodyPost_ret (results_none rfl _ _ _) rfl ?_
        exact ⟨⟨_, rfl⟩, .inr ⟨_, ⟨k + 1, by omega, HDS.out.symm⟩, hJx3⟩⟩
    · obtain rfl : m = 0 := by omega
      obtain rfl : k = len := by omega
      gi_wp2
      go_end0
      exact ⟨⟨_, rfl⟩, .inl ⟨_, rfl, hJs⟩⟩

set_option maxHeartbeats 1000000 in
theorem back_in (F : Fence) (n : Nat) (hF : F.fn 49) (hro : F.round = none) (a : Option Addr) (len cap : Nat) (w : World) :
    CallsIn F n Tryd.prog 49 #[.slice a len cap] w fun e w' => e = .returned (.func (.func 71) #[] #[.pointer (some ⟨w.heap.size, 0, none⟩)]) ∧ w' = w.alloc (.cells #[.slice a len cap] 22) := by
  refine callsIn_of_wp Tryd.func49 rfl hF ?_ hro
  simp only [Tryd.ntmps49, List.size_toArray, List.length_cons, List.length_nil, Nat.reduceAdd, Nat.reduceSub, Array.replicate_succ, Array.replicate_zero, List.push_toArray, List.append_toArray, List.nil_append, List.cons_append]
  gi_wp2
  go_ret
  exact ⟨rfl, rfl⟩
theorem back_stops {α : Type} (eN : α → Nat) (eI : α → Int) (f : Nat → α) (F : Fence) (n : Nat) (hF : F.fn 71) (hro : F.round = none) (hn : 1 ≤ n) (Bs n₀ len cap : Nat) (A : Option Addr) (zs : List Int) (hreach : len ≤ 1000000) (hlen : len = zs.length) (hf : ∀ k, k < len → eN (f k) = len - 1 - k ∧ eI (f k) = zs.getD (len - 1 - k) 0) (w : World) (hBs : Bs < w.heap.size) (hn₀ : n₀ ≤ w.heap.size)
    (hcb : w.cell? ⟨Bs, 0, none⟩ = some (.slice A len cap)) (hc : 0 < len → ∃ b off, A = some ⟨b, off, none⟩ ∧ b < n₀ ∧ ∀ j, j < len → w.cell? ⟨b, off + j, none⟩ = some (.int .i64 (zs.getD j 0))) :
    SeqStopsK F n Tryd.prog 71 #[.pointer (some ⟨Bs, 0, none⟩)] (fun x : α => #[Value.int .i64 (eN x : Int), Value.int .i64 (eI x)]) (BKp n₀ Bs) (fun ys => ys = upF f len)
      (fun pre => ∃ k, k ≤ len ∧ pre = upF f k) len w := fun l J Jx W hW _ _ hY h0 =>
  back1_in eN eI f F n hF hro hn l Bs n₀ len cap A zs hreach hlen hf J Jx hY W ((hW.cell (p := ⟨Bs, 0, none⟩) hBs).trans hcb)
    (fun h => by obtain ⟨b, off, e, hb, hcs⟩ := hc h; exact ⟨b, off, e, hb, fun j hj => (hW.cell (p := ⟨b, off + j, none⟩) (by show b < _; omega)).trans (hcs j hj)⟩) h0
end Go.Proofs.YtjfphobfikadlaaDoor

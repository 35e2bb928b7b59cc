/- Contracts: slices.Chunk over statements. -/
import Derived.Test.YthfmmememdlekaaDoorOrSrt
import Derived.Test.YthfmmememdlekaaDoorOrSlot
import Derived.Test.YthfmmememdlekaaDoorSub
import Derived.RangeFuncNested
import Derived.RangeFuncBound
import Derived.RangeFuncCalls
import Derived.RangeFuncLeaves
import Derived.RangeFuncWrites
import Derived.RangeFuncBox
import Derived.Shelf.Abstract
import Derived.Shelf.RegionOpen
import Derived.WalkKit
import Derived.OwnWalkIn
import Derived.TacticsInMore
import Derived.LoopNIn
import Derived.LoopIn
import Derived.BigQuiet
set_option linter.unusedVariables false
set_option linter.unusedSimpArgs false
namespace Go.Proofs.YthfmmememdlekaaDoor
open Go.RowKit Go.Shelf Num

attribute [local go_sem] Oper.semAt_some

/-- What has come when k rounds are over. -/
def upN (k : Nat) : List Nat := List.range k
theorem upN_succ (k : Nat) : upN (k + 1) = upN k ++ [k] := by simp [upN, List.range_succ]
theorem upN_length (k : Nat) : (upN k).length = k := by simp [upN]
/-- How many parts there are, and how long each is. -/
def chQ (len z : Nat) : Nat := (len + z - 1) / z
def chM (len z k : Nat) : Nat := min z (len - k * z)
theorem chQ_lt {len z k : Nat} (hz : 1 ≤ z) : k < chQ len z ↔ k * z < len := by
  unfold chQ
  rw [Nat.lt_iff_add_one_le, Nat.le_div_iff_mul_le (by omega), Nat.succ_mul]
  omega
/-- What a round keeps. -/
def BKc (n₀ Bs Bz : Nat) (W W' : World) : Prop := Below n₀ W W' ∧ W'.heap[Bs]? = W.heap[Bs]? ∧ W'.heap[Bz]? = W.heap[Bz]?
theorem BKc.refl (n₀ Bs Bz : Nat) (W : World) : BKc n₀ Bs Bz W W := ⟨Below.refl _ _, rfl, rfl⟩
theorem BKc.trans {n₀ Bs Bz : Nat} {A B C : World} (h : BKc n₀ Bs Bz A B) (k : BKc n₀ Bs Bz B C) : BKc n₀ Bs Bz A C := ⟨h.1.trans k.1, k.2.1.trans h.2.1, k.2.2.trans h.2.2⟩
theorem bkc_b {n₀ Bs Bz : Nat} {w : World} (hn : n₀ ≤ w.heap.size) (hB : Bs < w.heap.size) (hZ : Bz < w.heap.size) (W : World) (l : Nat) (o o' : Obj) (hl : w.heap.size ≤ l) (h : W.heap[l]? = some o) (h1 : o.isCells = false) (h2 : o.isWalk = false) : BKc n₀ Bs Bz W (W.putObj l o') :=
  ⟨belowK_b hn W l o o' hl h h1 h2, World.putObj_heap_other (by omega), World.putObj_heap_other (by omega)⟩
theorem run_slice_full {P : Program} (w : World) (t e : TypeId) (i : TypeInfo) (size : Nat) (ht : P.underlying t = some (.slice e)) (hi : P.info? e = some i) (hz : i.size = size) (b off n c lo hg : Nat) (h1 : lo < hg) (h2 : hg ≤ c) (x y : Int) (hx : x = (lo : Int)) (hy : y = (hg : Int)) :
    (Instr.slice t (.slice (some ⟨b, off, none⟩) n c) (some (.int .i64 x)) (some (.int .i64 y)) (some (.int .i64 y))).run P w = .ok (.slice (some ⟨b, off + lo * size, none⟩) (hg - lo) (hg - lo)) w := by
  subst hx hy hz
  have e1 : (0 : Int) ≤ (hg : Int) ∧ (hg : Int) ≤ (c : Int) := by omega
  have e2 : (0 : Int) ≤ (lo : Int) ∧ (lo : Int) ≤ (hg : Int) := by omega
  have e3 : (0 : Int) ≤ (hg : Int) ∧ (hg : Int) ≤ (hg : Int) := by omega
  have e4 : ¬ hg = lo := by omega
  have h1' : lo ≤ hg := by omega
  simp [Instr.slice, run_underlying ht, Instr.sliceBounds, Instr.sliceBound, asIntOf, sizeOf, typeInfo, hi, go_sem, h1', h2, e4, Addr.add]
set_option maxRecDepth 100000 in
set_option maxHeartbeats 400000 in
theorem s_Chunk (A : Option Addr) (len cap z : Nat) (w : World) (hz : 1 ≤ z) : Calls Tryd.prog 30 #[.slice A len cap, .int .i64 (z : Int)] w fun e w' => e = .returned (.func (.func 47) #[] #[.pointer (some ⟨w.heap.size, 0, none⟩), .pointer (some ⟨w.heap.size + 1, 0, none⟩)]) ∧ w' = (w.alloc (.cells #[.slice A len cap] 40)).alloc (.cells #[.int .i64 (z : Int)] 3) := by
  have z1 : ¬ (z : Int) < 1 := by omega
  go_enter Tryd.func30, Tryd.ntmps30
  go_wp2_with fail
  go_ret
  exact ⟨rfl, rfl⟩
set_option maxRecDepth 100000 in
set_option maxHeartbeats 4000000 in
theorem chunk1_in (n : Nat) (hn : 1 ≤ n) (l Bs Bz n₀ len cap z b off : Nat) (hz : 1 ≤ z) (hz2 : z ≤ 256) (hlen : len ≤ 256) (hlc : len ≤ cap) (J Jx : List Nat → World → Prop)
    (hY : ∀ pre x W, J pre W → pre.length < chQ len z → YieldAt Fence.wide (n - 1) Tryd.prog l #[.slice (some ⟨b, off + x * z * 6, none⟩) (chM len z x) (chM len z x)] W fun e W' =>
      (e = .returned (.bool true) ∧ J (pre ++ [x]) W' ∧ BKc n₀ Bs Bz W W') ∨ (e = .returned (.bool false) ∧ Jx (pre ++ [x]) W'))
    (hJd : ∀ s W k, J s W → J s (W.drewN k)) (A : Option Addr) (hA : 0 < len → A = some ⟨b, off, none⟩) (W : World) (hBs : W.cell? ⟨Bs, 0, none⟩ = some (.slice A len cap)) (hBz : W.cell? ⟨Bz, 0, none⟩ = some (.int .i64 (z : Int))) (h0 : J [] W) :
    CallsIn Fence.wide n Tryd.prog 47 #[.func (.yield l) #[] #[], .pointer (some ⟨Bs, 0, none⟩), .pointer (some ⟨Bz, 0, none⟩)] W fun e W' => (∃ v, e = .returned v) ∧
      ((∃ ys, ys = upN (chQ len z) ∧ J ys W') ∨ (∃ pre, (∃ k, k ≤ chQ len z ∧ pre = upN k) ∧ Jx pre W')) := by
  obtain ⟨i0, hi, hz0, hz1, hzb⟩ := info_parts infoSt
  refine callsIn_of_wp Tryd.func47 rfl trivial ?_ rfl
  simp only [Tryd.ntmps47, List.size_toArray, List.length_cons, List.length_nil, Nat.reduceAdd, Nat.reduceSub, Array.replicate_succ, Array.replicate_zero, List.push_toArray, List.append_toArray, List.nil_append, List.cons_append]
  gi_wp2
  gi_loopw [4, 5] (fun i _ wr => ∃ k : Nat, k ≤ chQ len z ∧ i = .int .i64 ((k * z : Nat) : Int) ∧ J (upN k) wr ∧ BKc n₀ Bs Bz W wr)
    (fun i _ _ => chQ len z * z - (intOf i).toNat)
  case atStart => exact ⟨0, by omega, by simp, h0, BKc.refl _ _ _ _⟩
  case round =>
    obtain ⟨k, hk, rfl, hJs, hnx⟩ := hrel
    have cs : wr.cell? ⟨Bs, 0, none⟩ = some (.slice A len cap) := (World.cell?_of_block (a := ⟨Bs, 0, none⟩) hnx.2.1).trans hBs
    have cz : wr.cell? ⟨Bz, 0, none⟩ = some (.int .i64 (z : Int)) := (World.cell?_of_block (a := ⟨Bz, 0, none⟩) hnx.2.2).trans hBz
    have hkz := chQ_lt (len := len) (z := z) (k := k) hz
    by_cases hlt : k < chQ len z
    · obtain ⟨m, hm⟩ : ∃ m, chM len z k = m := ⟨_, rfl⟩
      have hsucc : (k + 1) * z = k * z + z := Nat.succ_mul k z
      have hqz : (k + 1) * z ≤ chQ len z * z := Nat.mul_le_mul_right z hlt
      obtain ⟨a, ha⟩ : ∃ a, k * z = a := ⟨_, rfl⟩
      rw [ha] at hkz hsucc ⊢
      have hal := hkz.1 hlt
      obtain rfl := hA (by omega)
      have hmz : m = min z (len - a) := by rw [← hm]; unfold chM; rw [ha]
      have hm1 : 1 ≤ m := by omega
      have hm2 : a + m ≤ len := by omega
      have ha6 : a ≤ 256 := by omega
      have hsl1 := fun (W : World) => run_slice_lo (P := Tryd.prog) W 40 44 i0 6 Tryd.underlying40 hi hz1 (some ⟨b, off, none⟩) len cap a (by omega) hlc (a : Int) rfl
      have hsl2 := fun (W : World) => run_slice_full (P := Tryd.prog) W 40 44 i0 6 Tryd.underlying40 hi hz1 b off len cap a (a + m) (by omega) (by omega) (a : Int) ((a : Int) + (m : Int)) rfl (by omega)
      rw [show a + m - a = m by omega] at hsl2
      have zi : (a : Int) < (len : Int) := by omega
      have za : (0 : Int) ≤ (a : Int) := by omega
      have HSU := Lib.hid hsucc
      have HA := Lib.hid ha
      have HM := Lib.hid hm
      have HQZ := Lib.hid hqz
      have HNX := Lib.hid hnx
      have HJS := Lib.hid hJs
      have HY := Lib.hid hY
      have HJD := Lib.hid hJd
      have HK := Lib.hid (And.intro hk hlt)
      have HSL2 := Lib.hid hsl2
      clear hsucc ha hm hqz hnx hJs hY hJd hk hlt hkz hBs hBz h0 hsl2
      have hmin : min (z : Int) ((len - a : Nat) : Int) = (m : Int) := by omega
      clear hmz
      gi_wp2
      refine wpIn_wide.2 ?_
      go_quiet (fail)
      have cs2 : (wr.drewN nq).cell? ⟨Bs, 0, none⟩ = some (.slice (some ⟨b, off, none⟩) len cap) := cs
      have cz2 : (wr.drewN nq).cell? ⟨Bz, 0, none⟩ = some (.int .i64 (z : Int)) := cz
      obtain ⟨fn, tmps, assign, body, hy, hR⟩ := HY.out _ k (wr.drewN nq) (HJD.out _ _ nq HJS.out) (by rw [upN_length]; exact HK.out.2)
      rw [HM.out, HA.out] at hy
      have hsl2 := HSL2.out
      clear hmin hsl1 cs cz
      gi_wp2
      refine hR.mono ?_
      rintro e W3 (⟨rfl, hJ3, hk3⟩ | ⟨rfl, hJx3⟩)
      · have cz3 : W3.cell? ⟨Bz, 0, none⟩ = some (.int .i64 (z : Int)) := (World.cell?_of_block (a := ⟨Bz, 0, none⟩) hk3.2.2).trans cz2
        gi_wp2
        go_roundw
        case rel =>
          refine ⟨k + 1, by have := HK.out; omega, ?_, by rw [upN_succ]; exact hJ3, HNX.out.trans (BKc.trans ⟨only_drewB _ _ nq, rfl, rfl⟩ hk3)⟩
          rw [HSU.out]; simp
        case measure =>
          have := HQZ.out
          have := HSU.out
          simp [intOf]; omega
      · gi_wp2
        refine bodyPost_ret (results_none rfl _ _ _) rfl ?_
        exact ⟨⟨_, rfl⟩, .inr ⟨_, ⟨k + 1, by have := HK.out; omega, (upN_succ k).symm⟩, hJx3⟩⟩
    · obtain rfl : k = chQ len z := by omega
      have zi : ¬ ((chQ len z * z : Nat) : Int) < (len : Int) := by
        have hz' : ¬ chQ len z * z < len := fun h => hlt (hkz.2 h)
        omega
      have HKZ := Lib.hid hkz
      clear hkz hlt
      gi_wp2
      go_end0
      first
        | exact ⟨⟨_, rfl⟩, .inl ⟨_, rfl, hJs⟩⟩
        | exact ⟨⟨_, rfl⟩, .inl hJs⟩
        | exact hJs
        | exact .inl hJs
theorem chunk_stops (Bs Bz n₀ len cap z b off : Nat) (hz : 1 ≤ z) (hz2 : z ≤ 256) (hlen : len ≤ 256) (hlc : len ≤ cap) (w : World) (hBs : Bs < w.heap.size) (hBz : Bz < w.heap.size) (hn₀ : n₀ ≤ w.heap.size)
    (A : Option Addr) (hA0 : 0 < len → A = some ⟨b, off, none⟩) (hcs : w.cell? ⟨Bs, 0, none⟩ = some (.slice A len cap)) (hcz : w.cell? ⟨Bz, 0, none⟩ = some (.int .i64 (z : Int))) :
    SeqStopsK Fence.wide 2 Tryd.prog 47 #[.pointer (some ⟨Bs, 0, none⟩), .pointer (some ⟨Bz, 0, none⟩)] (fun x : Nat => #[Value.slice (some ⟨b, off + x * z * 6, none⟩) (chM len z x) (chM len z x)]) (BKc n₀ Bs Bz) (fun ys => ys = upN (chQ len z))
      (fun pre => ∃ k, k ≤ chQ len z ∧ pre = upN k) (chQ len z) w := fun l J Jx W hW hA _ hY h0 =>
  chunk1_in 2 (by omega) l Bs Bz n₀ len cap z b off hz hz2 hlen hlc J Jx hY (fun s W k h => hA s W _ none h (only_drewN (World.grownBy.refl W none) k) (fun r e => by cases e)) A hA0 W ((hW.cell (p := ⟨Bs, 0, none⟩) hBs).trans hcs) ((hW.cell (p := ⟨Bz, 0, none⟩) hBz).trans hcz) h0
end Go.Proofs.YthfmmememdlekaaDoor

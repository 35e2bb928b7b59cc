/- Contracts of the codec: the bytes of a number. -/
import Derived.Test.YthfmmememdlekaaDoorHanSig
import Derived.OwnWalk
import Derived.Laws.OwnMore
set_option linter.unusedVariables false
set_option linter.unusedSimpArgs false
namespace Go.Proofs.YthfmmememdlekaaDoor
open Go.RowKit Num

def zig (n : Int) : Nat := if n < 0 then (-2 * n - 1).toNat else (2 * n).toNat
def vk (u : Nat) : Nat → List UInt8
  | 0 => []
  | k + 1 => vk u k ++ [UInt8.ofNat (u / 128 ^ k % 128 + 128)]
def rdN : Nat → Nat → Nat
  | 0, _ => 0
  | f + 1, u => if u < 128 then 0 else rdN f (u / 128) + 1
/-- The bytes of a number. -/
def putB (n : Int) : List UInt8 := vk (zig n) (rdN 10 (zig n)) ++ [UInt8.ofNat (zig n / 128 ^ rdN 10 (zig n))]
theorem vk_len (u : Nat) : ∀ k, (vk u k).length = k := by
  intro k
  induction k with
  | zero => rfl
  | succ k ih => simp [vk, ih]
theorem div_pow_succ (u k : Nat) : u / 128 ^ (k + 1) = u / 128 ^ k / 128 := by rw [Nat.pow_succ, Nat.div_div_eq_div_mul]
theorem rdN_of : ∀ (f k u : Nat), k ≤ f → (∀ j, j < k → 128 ≤ u / 128 ^ j) → u / 128 ^ k < 128 → rdN f u = k := by
  intro f
  induction f with
  | zero => intro k u hk _ _; show 0 = k; omega
  | succ f ih =>
    intro k u hk h1 h2
    show (if u < 128 then 0 else rdN f (u / 128) + 1) = k
    cases k with
    | zero => rw [if_pos (by simpa using h2)]
    | succ k =>
      have h0 := h1 0 (by omega)
      rw [Nat.pow_zero, Nat.div_one] at h0
      have e1 : ∀ j, j < k → 128 ≤ u / 128 / 128 ^ j := by
        intro j hj
        have := h1 (j + 1) (by omega)
        rwa [Nat.pow_succ, Nat.mul_comm, ← Nat.div_div_eq_div_mul] at this
      have e2 : u / 128 / 128 ^ k < 128 := by rwa [Nat.pow_succ, Nat.mul_comm, ← Nat.div_div_eq_div_mul] at h2
      rw [if_neg (by omega), ih k (u / 128) (by omega) e1 e2]
theorem zig_lt (n : Int) (h1 : -9223372036854775808 ≤ n) (h2 : n < 9223372036854775808) : zig n < 18446744073709551616 := by
  unfold zig; split <;> omega
theorem u_small (u k : Nat) (hu : u < 18446744073709551616) (h : ∀ j, j < k → 128 ≤ u / 128 ^ j) : k ≤ 9 := by
  rcases Nat.lt_or_ge 9 k with hk | hk
  · have h9 := h 9 hk
    have e : (128 : Nat) ^ 9 = 9223372036854775808 := by decide
    rw [e] at h9
    omega
  · exact hk
set_option maxRecDepth 100000 in
theorem or_128 : ∀ a : Fin 256, bits .or .u8 ((a.val : Nat) : Int) 128 = ((a.val % 128 + 128 : Nat) : Int) := by decide
theorem or_more (x : Nat) : bits .or .u8 (((x : Nat) : Int) % 256) 128 = ((x % 128 + 128 : Nat) : Int) := by
  have h := or_128 ⟨x % 256, Nat.mod_lt _ (by decide)⟩
  have e : ((x : Nat) : Int) % 256 = ((x % 256 : Nat) : Int) := by omega
  rw [e]
  have e2 : x % 256 % 128 = x % 128 := by omega
  simpa [e2] using h
theorem xor_zero (x : Int) (h0 : 0 ≤ x) (h1 : x < 18446744073709551616) : bits .xor .u64 x 0 = x := by
  obtain ⟨n, rfl⟩ := Int.eq_ofNat_of_zero_le h0
  show IntKind.u64.wrap ((BitVec.ofInt 64 (n : Int) ^^^ BitVec.ofInt 64 (0 : Int)).toNat : Int) = _
  have e : (BitVec.ofInt 64 (0 : Int)) = 0#64 := by decide
  rw [e, BitVec.xor_zero, BitVec.ofInt_natCast, BitVec.toNat_ofNat, Nat.mod_eq_of_lt (by omega)]
  show (n : Int) % 18446744073709551616 = _
  omega
theorem xor_all (x : Int) (h0 : 0 ≤ x) (h1 : x < 18446744073709551616) : bits .xor .u64 x 18446744073709551615 = 18446744073709551615 - x := by
  obtain ⟨n, rfl⟩ := Int.eq_ofNat_of_zero_le h0
  show IntKind.u64.wrap ((BitVec.ofInt 64 (n : Int) ^^^ BitVec.ofInt 64 (18446744073709551615 : Int)).toNat : Int) = _
  have e : (BitVec.ofInt 64 (18446744073709551615 : Int)) = BitVec.allOnes 64 := by decide
  rw [e, BitVec.xor_allOnes, BitVec.toNat_not, BitVec.ofInt_natCast, BitVec.toNat_ofNat, Nat.mod_eq_of_lt (by omega)]
  show ((2 ^ 64 - 1 - n : Nat) : Int) % 18446744073709551616 = _
  have : (2 : Nat) ^ 64 = 18446744073709551616 := by decide
  omega

def PutPost (b : ByteArray) (n : Int) (w : World) (e : Ending) (w' : World) : Prop := e = .returned (.string (b ++ ⟨(putB n).toArray⟩)) ∧ Below w.heap.size w w'
set_option maxRecDepth 100000 in
set_option maxHeartbeats 1000000 in
theorem c_PutInt (b : ByteArray) (n : Int) (w : World) (h1 : -9223372036854775808 ≤ n) (h2 : n < 9223372036854775808) (hb : b.size < 4294967296) :
    Calls Tryd.prog 66 #[.string b, .int .i64 n] w (PutPost b n w) := by
  have hu := zig_lt n h1 h2
  obtain ⟨i0, hi, hz0, hz1, hz2⟩ := info_parts infoB
  rcases (show 0 ≤ n ∨ n < 0 by omega) with hn | hn
  all_goals first
    | (have hn' : 0 ≤ n := by assumption
       have hx : bits .xor .u64 (n * 2) (n / 9223372036854775808) = ((zig n : Nat) : Int) := by
         rw [show n / 9223372036854775808 = 0 by omega, xor_zero _ (by omega) (by omega)]; unfold zig; rw [if_neg (by omega)]; omega
       have HX := Lib.hid hx
       clear hx
       go_enter Tryd.func66, Tryd.ntmps66
       go_wp2_with fail
       rw [HX.out])
    | (have hx : bits .xor .u64 (IntKind.u64.wrap (IntKind.u64.wrap n * 2)) (IntKind.u64.wrap (n / 9223372036854775808)) = ((zig n : Nat) : Int) := by
         have e1 : IntKind.u64.wrap (IntKind.u64.wrap n * 2) = 18446744073709551616 + n * 2 := by show (n % 18446744073709551616 * 2) % 18446744073709551616 = _; omega
         have e2 : IntKind.u64.wrap (n / 9223372036854775808) = 18446744073709551615 := by show (n / 9223372036854775808) % 18446744073709551616 = _; omega
         rw [e1, e2, xor_all _ (by omega) (by omega)]; unfold zig; rw [if_pos hn]; omega
       have HX := Lib.hid hx
       clear hx
       go_enter Tryd.func66, Tryd.ntmps66
       go_wp2_with fail
       rw [HX.out])
  all_goals
    have ep : ∀ k, k ≤ 9 → (∀ j, j < k → 128 ≤ zig n / 128 ^ j) → zig n / 128 ^ k < 128 → putB n = vk (zig n) k ++ [UInt8.ofNat (zig n / 128 ^ k)] := by
      intro k hk h3 h4
      have := rdN_of 10 k (zig n) (by omega) h3 h4
      unfold putB; rw [this]
    have EP := Lib.hid ep
    clear ep HX
    generalize zig n = u at *
    go_loopw [5, 6] (fun v x wr => ∃ k : Nat, x = .int .u64 ((u / 128 ^ k : Nat) : Int) ∧ wr.ownsRow w.heap.size 5 1 v k (Lib.byteCells (vk u k)) ∧ Below w.heap.size w wr ∧ (∀ j, j < k → 128 ≤ u / 128 ^ j)) (fun _ x _ => (intOf x).toNat)
    case atStart => exact ⟨0, by simp, World.ownsRow_nil _ _ _ _, Below.refl _ _, fun j hj => by omega⟩
    case round =>
      obtain ⟨k, rfl, hown, hbl, hj⟩ := hrel
      have hk9 := u_small u k hu hj
      have hsz := hbl.size
      have hvl := vk_len u k
      have HJ := Lib.hid hj
      have HBL := Lib.hid hbl
      clear hj hbl
      obtain ⟨x, hx⟩ : ∃ x, u / 128 ^ k = x := ⟨_, rfl⟩
      have hxu : x ≤ u := by rw [← hx]; exact Nat.div_le_self _ _
      have hnext := div_pow_succ u k
      rw [hx] at hnext ⊢
      have HN := Lib.hid hnext
      have HXX := Lib.hid hx
      clear hnext hx
      have hor := or_more x
      by_cases h128 : 128 ≤ x
      · go_wp2_with (at_builtin; refine wpList_append_own _ rfl _ _ 130 rfl w.heap.size 5 i0 (.int .u8 0) 1 1 Tryd.underlying130 hi hz0 hz1 hz2 rfl (by decide) _ _ _ rfl (hown.alloc _) ⟨wr.heap.size, 0, none⟩ 1 1 [.int .u8 ((x % 128 + 128 : Nat) : Int)] rfl rfl (cell_one_new _ _ _) (ints_oneCell .u8 [_]) (by unfold maxLen; omega) (by omega) (by simp; omega) ?_)
        intro v' w2 hown' hgrow _
        have hlt := hown.lt
        have hown2 : w2.ownsRow w.heap.size 5 1 v' (k + 1) (Lib.byteCells (vk u (k + 1))) := by
          have := hown'
          rw [show vk u (k + 1) = vk u k ++ [UInt8.ofNat (u / 128 ^ k % 128 + 128)] from rfl, byteCells_snoc1 _ _ (by omega), HXX.out]
          exact this
        have hb2 : Below w.heap.size w w2 := (HBL.out.alloc (by omega) _).grown hgrow (by simp; omega) (fun g hg => (hlt g hg).1)
        have HO2 := Lib.hid hown2
        have HB2 := Lib.hid hb2
        clear hown' hgrow hown hown2 hb2 hlt hor
        go_wp2_with fail
        go_roundw
        case measure => simp [intOf]; omega
        case rel => exact ⟨k + 1, by rw [HN.out]; go_num, HO2.out, HB2.out, fun j hj => by
          rcases Nat.lt_or_ge j k with h | h
          · exact HJ.out j h
          · rw [show j = k by omega, HXX.out]; exact h128⟩
      · go_wp2_with (at_builtin; refine wpList_append_own _ rfl _ _ 130 rfl w.heap.size 5 i0 (.int .u8 0) 1 1 Tryd.underlying130 hi hz0 hz1 hz2 rfl (by decide) _ _ _ rfl (hown.alloc _) ⟨wr.heap.size, 0, none⟩ 1 1 [.int .u8 ((x : Nat) : Int)] rfl rfl (cell_one_new _ _ _) (ints_oneCell .u8 [_]) (by unfold maxLen; omega) (by omega) (by simp; omega) ?_)
        intro v' w2 hown' hgrow _
        have hlt := hown.lt
        have hb2 : Below w.heap.size w w2 := (HBL.out.alloc (by omega) _).grown hgrow (by simp; omega) (fun g hg => (hlt g hg).1)
        have e1 := EP.out k hk9 HJ.out (by rw [HXX.out]; omega)
        rw [HXX.out] at e1
        have hpl : (putB n).length = k + 1 := by rw [e1]; simp [hvl]
        have hown2 : w2.ownsRow w.heap.size 5 1 v' (k + 1) (Lib.byteCells (putB n)) := by
          rw [e1, byteCells_snoc1 _ _ (by omega)]; exact hown'
        obtain ⟨g, cap, rfl⟩ : ∃ g cap, v' = .slice (some ⟨g, 0, none⟩) (k + 1) cap := by
          rcases hown'.2 with ⟨_, h0⟩ | ⟨g, cap, cur, hv, _⟩
          · omega
          · exact ⟨g, cap, hv⟩
        have hcell := hown2.cells (g := g) rfl
        have hcv := run_convert_bytes_arg (P := Tryd.prog) w2 130 5 Tryd.underlying130 Tryd.underlying5 g 0 (k + 1) cap ((putB n).map fun c => (c.toNat : Int)) (by simpa using hpl) (fun i hi => by
          have hi' : i < (putB n).length := by omega
          have := hcell i _ (by unfold Lib.byteCells; rw [List.getElem?_map, List.getElem?_eq_getElem hi']; rfl)
          rw [Nat.zero_add]
          have ha : (⟨g, 0, none⟩ : Addr).add i = ⟨g, i, none⟩ := by unfold Addr.add; split <;> simp_all
          rw [ha] at this
          rw [this, List.getD_eq_getElem?_getD, List.getElem?_map, List.getElem?_eq_getElem hi']; rfl) 9 Tryd.underlying9
        have hst : strOfNums ((putB n).map fun c => (c.toNat : Int)) = ⟨(putB n).toArray⟩ := by
          unfold strOfNums
          congr 2
          rw [List.map_map]
          conv => rhs; rw [← List.map_id (putB n)]
          congr 1
          funext c
          simp
        rw [hst] at hcv
        have hsz2 : (⟨(putB n).toArray⟩ : ByteArray).size ≤ 10 := by show (putB n).toArray.size ≤ 10; simp; omega
        have HB2 := Lib.hid hb2
        clear hown' hgrow hown hown2 hb2 hlt hor hcell hst e1 hpl
        go_wp2_with fail
        go_ret
        exact ⟨rfl, HB2.out⟩
theorem rdN_le : ∀ f u, rdN f u ≤ f := by
  intro f
  induction f with
  | zero => intro u; exact Nat.le_refl _
  | succ f ih => intro u; show (if u < 128 then 0 else rdN f (u / 128) + 1) ≤ f + 1; split; omega; have := ih (u / 128); omega
theorem putB_len (n : Int) : (putB n).length ≤ 11 := by
  have := rdN_le 10 (zig n)
  simp [putB, vk_len]; omega
end Go.Proofs.YthfmmememdlekaaDoor

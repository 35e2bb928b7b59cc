/- Contracts of the codec: the bytes of a number. Appending bytes, one by one, to what '[]byte(s)' gave. The reference's padding. -/
import Derived.Test.YtgeahbmaeaoeeaaGreatDoorQ10
import Derived.OwnWalk
import Derived.Laws.OwnMore
import Derived.ArgAppend
import Derived.Lib.ConvBytes
set_option linter.unusedVariables false
set_option linter.unusedSimpArgs false
namespace Go.Proofs.YtgeahbmaeaoeeaaGreatDoor
open Go.RowKit Num

def zig (n : Int) : Nat := if n < 0 then (-2 * n - 1).toNat else (2 * n).toNat
def vk (u : Nat) : Nat → List UInt8
  | 0 => []
  | k + 1 => vk u k ++ [UInt8.ofNat (u / 128 ^ k % 128 + 128)]
def rdN : Nat → Nat → Nat
  | 0, _ => 0
  | f + 1, u => if u < 128 then 0 else rdN f (u / 128) + 1
/-- The bytes of a number. -/
def putB (n : Int) : List UInt8 := vk (zig n) (rdN 10 (zig n)) ++ [UInt8.ofNat (zig n / 128 ^ rdN 10 (zig n))]
theorem vk_len (u : Nat) : ∀ k, (vk u k).length = k := by
  intro k
  induction k with
  | zero => rfl
  | succ k ih => simp [vk, ih]
theorem div_pow_succ (u k : Nat) : u / 128 ^ (k + 1) = u / 128 ^ k / 128 := by rw [Nat.pow_succ, Nat.div_div_eq_div_mul]
theorem rdN_of : ∀ (f k u : Nat), k ≤ f → (∀ j, j < k → 128 ≤ u / 128 ^ j) → u / 128 ^ k < 128 → rdN f u = k := by
  intro f
  induction f with
  | zero => intro k u hk _ _; show 0 = k; omega
  | succ f ih =>
    intro k u hk h1 h2
    show (if u < 128 then 0 else rdN f (u / 128) + 1) = k
    cases k with
    | zero => rw [if_pos (by simpa using h2)]
    | succ k =>
      have h0 := h1 0 (by omega)
      rw [Nat.pow_zero, Nat.div_one] at h0
      have e1 : ∀ j, j < k → 128 ≤ u / 128 / 128 ^ j := by
        intro j hj
        have := h1 (j + 1) (by omega)
        rwa [Nat.pow_succ, Nat.mul_comm, ← Nat.div_div_eq_div_mul] at this
      have e2 : u / 128 / 128 ^ k < 128 := by rwa [Nat.pow_succ, Nat.mul_comm, ← Nat.div_div_eq_div_mul] at h2
      rw [if_neg (by omega), ih k (u / 128) (by omega) e1 e2]
theorem zig_lt (n : Int) (h1 : -9223372036854775808 ≤ n) (h2 : n < 9223372036854775808) : zig n < 18446744073709551616 := by
  unfold zig; split <;> omega
theorem u_small (u k : Nat) (hu : u < 18446744073709551616) (h : ∀ j, j < k → 128 ≤ u / 128 ^ j) : k ≤ 9 := by
  rcases Nat.lt_or_ge 9 k with hk | hk
  · have h9 := h 9 hk
    have e : (128 : Nat) ^ 9 = 9223372036854775808 := by decide
    rw [e] at h9
    omega
  · exact hk
set_option maxRecDepth 100000 in
theorem or_128 : ∀ a : Fin 256, bits .or .u8 ((a.val : Nat) : Int) 128 = ((a.val % 128 + 128 : Nat) : Int) := by decide
theorem or_more (x : Nat) : bits .or .u8 (((x : Nat) : Int) % 256) 128 = ((x % 128 + 128 : Nat) : Int) := by
  have h := or_128 ⟨x % 256, Nat.mod_lt _ (by decide)⟩
  have e : ((x : Nat) : Int) % 256 = ((x % 256 : Nat) : Int) := by omega
  rw [e]
  have e2 : x % 256 % 128 = x % 128 := by omega
  simpa [e2] using h
theorem xor_zero (x : Int) (h0 : 0 ≤ x) (h1 : x < 18446744073709551616) : bits .xor .u64 x 0 = x := by
  obtain ⟨n, rfl⟩ := Int.eq_ofNat_of_zero_le h0
  show IntKind.u64.wrap ((BitVec.ofInt 64 (n : Int) ^^^ BitVec.ofInt 64 (0 : Int)).toNat : Int) = _
  have e : (BitVec.ofInt 64 (0 : Int)) = 0#64 := by decide
  rw [e, BitVec.xor_zero, BitVec.ofInt_natCast, BitVec.toNat_ofNat, Nat.mod_eq_of_lt (by omega)]
  show (n : Int) % 18446744073709551616 = _
  omega
theorem xor_all (x : Int) (h0 : 0 ≤ x) (h1 : x < 18446744073709551616) : bits .xor .u64 x 18446744073709551615 = 18446744073709551615 - x := by
  obtain ⟨n, rfl⟩ := Int.eq_ofNat_of_zero_le h0
  show IntKind.u64.wrap ((BitVec.ofInt 64 (n : Int) ^^^ BitVec.ofInt 64 (18446744073709551615 : Int)).toNat : Int) = _
  have e : (BitVec.ofInt 64 (18446744073709551615 : Int)) = BitVec.allOnes 64 := by decide
  rw [e, BitVec.xor_allOnes, BitVec.toNat_not, BitVec.ofInt_natCast, BitVec.toNat_ofNat, Nat.mod_eq_of_lt (by omega)]
  show ((2 ^ 64 - 1 - n : Nat) : Int) % 18446744073709551616 = _
  have : (2 : Nat) ^ 64 = 18446744073709551616 := by decide
  omega

def PutPost (b : ByteArray) (n : Int) (w : World) (e : Ending) (w' : World) : Prop := e = .returned (.string (b ++ ⟨(putB n).toArray⟩)) ∧ Below w.heap.size w w'
set_option maxRecDepth 100000 in
set_option maxHeartbeats 1000000 in
theorem c_PutInt (b : ByteArray) (n : Int) (w : World) (h1 : -9223372036854775808 ≤ n) (h2 : n < 9223372036854775808) (hb : b.size < 4294967296) :
    Calls Tryz.prog 81 #[.string b, .int .i64 n] w (PutPost b n w) := by
  have hu := zig_lt n h1 h2
  obtain ⟨i0, hi, hz0, hz1, hz2⟩ := info_parts infoB
  rcases (show 0 ≤ n ∨ n < 0 by omega) with hn | hn
  all_goals first
    | (have hn' : 0 ≤ n := by assumption
       have hx : bits .xor .u64 (n * 2) (n / 9223372036854775808) = ((zig n : Nat) : Int) := by
         rw [show n / 9223372036854775808 = 0 by omega, xor_zero _ (by omega) (by omega)]; unfold zig; rw [if_neg (by omega)]; omega
       have HX := Lib.hid hx
       clear hx
       go_enter Tryz.func81, Tryz.ntmps81
       go_wp2_with fail
       rw [HX.out])
    | (have hx : bits .xor .u64 (IntKind.u64.wrap (IntKind.u64.wrap n * 2)) (IntKind.u64.wrap (n / 9223372036854775808)) = ((zig n : Nat) : Int) := by
         have e1 : IntKind.u64.wrap (IntKind.u64.wrap n * 2) = 18446744073709551616 + n * 2 := by show (n % 18446744073709551616 * 2) % 18446744073709551616 = _; omega
         have e2 : IntKind.u64.wrap (n / 9223372036854775808) = 18446744073709551615 := by show (n / 9223372036854775808) % 18446744073709551616 = _; omega
         rw [e1, e2, xor_all _ (by omega) (by omega)]; unfold zig; rw [if_pos hn]; omega
       have HX := Lib.hid hx
       clear hx
       go_enter Tryz.func81, Tryz.ntmps81
       go_wp2_with fail
       rw [HX.out])
  all_goals
    have ep : ∀ k, k ≤ 9 → (∀ j, j < k → 128 ≤ zig n / 128 ^ j) → zig n / 128 ^ k < 128 → putB n = vk (zig n) k ++ [UInt8.ofNat (zig n / 128 ^ k)] := by
      intro k hk h3 h4
      have := rdN_of 10 k (zig n) (by omega) h3 h4
      unfold putB; rw [this]
    have EP := Lib.hid ep
    clear ep HX
    generalize zig n = u at *
    go_loopw [5, 6] (fun v x wr => ∃ k : Nat, x = .int .u64 ((u / 128 ^ k : Nat) : Int) ∧ wr.ownsRow w.heap.size 5 1 v k (Lib.byteCells (vk u k)) ∧ Below w.heap.size w wr ∧ (∀ j, j < k → 128 ≤ u / 128 ^ j)) (fun _ x _ => (intOf x).toNat)
    case atStart => exact ⟨0, by simp, World.ownsRow_nil _ _ _ _, Below.refl _ _, fun j hj => by omega⟩
    case round =>
      obtain ⟨k, rfl, hown, hbl, hj⟩ := hrel
      have hk9 := u_small u k hu hj
      have hsz := hbl.size
      have hvl := vk_len u k
      have HJ := Lib.hid hj
      have HBL := Lib.hid hbl
      clear hj hbl
      obtain ⟨x, hx⟩ : ∃ x, u / 128 ^ k = x := ⟨_, rfl⟩
      have hxu : x ≤ u := by rw [← hx]; exact Nat.div_le_self _ _
      have hnext := div_pow_succ u k
      rw [hx] at hnext ⊢
      have HN := Lib.hid hnext
      have HXX := Lib.hid hx
      clear hnext hx
      have hor := or_more x
      by_cases h128 : 128 ≤ x
      · go_wp2_with (at_builtin; refine wpList_append_own _ rfl _ _ 110 rfl w.heap.size 5 i0 (.int .u8 0) 1 1 Tryz.underlying110 hi hz0 hz1 hz2 rfl (by decide) _ _ _ rfl (hown.alloc _) ⟨wr.heap.size, 0, none⟩ 1 1 [.int .u8 ((x % 128 + 128 : Nat) : Int)] rfl rfl (cell_one_new _ _ _) (ints_oneCell .u8 [_]) (by unfold maxLen; omega) (by omega) (by simp; omega) ?_)
        intro v' w2 hown' hgrow _
        have hlt := hown.lt
        have hown2 : w2.ownsRow w.heap.size 5 1 v' (k + 1) (Lib.byteCells (vk u (k + 1))) := by
          have := hown'
          rw [show vk u (k + 1) = vk u k ++ [UInt8.ofNat (u / 128 ^ k % 128 + 128)] from rfl, byteCells_snoc1 _ _ (by omega), HXX.out]
          exact this
        have hb2 : Below w.heap.size w w2 := (HBL.out.alloc (by omega) _).grown hgrow (by simp; omega) (fun g hg => (hlt g hg).1)
        have HO2 := Lib.hid hown2
        have HB2 := Lib.hid hb2
        clear hown' hgrow hown hown2 hb2 hlt hor
        go_wp2_with fail
        go_roundw
        case measure => simp [intOf]; omega
        case rel => exact ⟨k + 1, by rw [HN.out]; go_num, HO2.out, HB2.out, fun j hj => by
          rcases Nat.lt_or_ge j k with h | h
          · exact HJ.out j h
          · rw [show j = k by omega, HXX.out]; exact h128⟩
      · go_wp2_with (at_builtin; refine wpList_append_own _ rfl _ _ 110 rfl w.heap.size 5 i0 (.int .u8 0) 1 1 Tryz.underlying110 hi hz0 hz1 hz2 rfl (by decide) _ _ _ rfl (hown.alloc _) ⟨wr.heap.size, 0, none⟩ 1 1 [.int .u8 ((x : Nat) : Int)] rfl rfl (cell_one_new _ _ _) (ints_oneCell .u8 [_]) (by unfold maxLen; omega) (by omega) (by simp; omega) ?_)
        intro v' w2 hown' hgrow _
        have hlt := hown.lt
        have hb2 : Below w.heap.size w w2 := (HBL.out.alloc (by omega) _).grown hgrow (by simp; omega) (fun g hg => (hlt g hg).1)
        have e1 := EP.out k hk9 HJ.out (by rw [HXX.out]; omega)
        rw [HXX.out] at e1
        have hpl : (putB n).length = k + 1 := by rw [e1]; simp [hvl]
        have hown2 : w2.ownsRow w.heap.size 5 1 v' (k + 1) (Lib.byteCells (putB n)) := by
          rw [e1, byteCells_snoc1 _ _ (by omega)]; exact hown'
        obtain ⟨g, cap, rfl⟩ : ∃ g cap, v' = .slice (some ⟨g, 0, none⟩) (k + 1) cap := by
          rcases hown'.2 with ⟨_, h0⟩ | ⟨g, cap, cur, hv, _⟩
          · omega
          · exact ⟨g, cap, hv⟩
        have hcell := hown2.cells (g := g) rfl
        have hcv := run_convert_bytes_arg (P := Tryz.prog) w2 110 5 Tryz.underlying110 Tryz.underlying5 g 0 (k + 1) cap ((putB n).map fun c => (c.toNat : Int)) (by simpa using hpl) (fun i hi => by
          have hi' : i < (putB n).length := by omega
          have := hcell i _ (by unfold Lib.byteCells; rw [List.getElem?_map, List.getElem?_eq_getElem hi']; rfl)
          rw [Nat.zero_add]
          have ha : (⟨g, 0, none⟩ : Addr).add i = ⟨g, i, none⟩ := by unfold Addr.add; split <;> simp_all
          rw [ha] at this
          rw [this, List.getD_eq_getElem?_getD, List.getElem?_map, List.getElem?_eq_getElem hi']; rfl) 9 Tryz.underlying9
        have hst : strOfNums ((putB n).map fun c => (c.toNat : Int)) = ⟨(putB n).toArray⟩ := by
          unfold strOfNums
          congr 2
          rw [List.map_map]
          conv => rhs; rw [← List.map_id (putB n)]
          congr 1
          funext c
          simp
        rw [hst] at hcv
        have hsz2 : (⟨(putB n).toArray⟩ : ByteArray).size ≤ 10 := by show (putB n).toArray.size ≤ 10; simp; omega
        have HB2 := Lib.hid hb2
        clear hown' hgrow hown hown2 hb2 hlt hor hcell hst e1 hpl
        go_wp2_with fail
        go_ret
        exact ⟨rfl, HB2.out⟩
theorem rdN_le : ∀ f u, rdN f u ≤ f := by
  intro f
  induction f with
  | zero => intro u; exact Nat.le_refl _
  | succ f ih => intro u; show (if u < 128 then 0 else rdN f (u / 128) + 1) ≤ f + 1; split; omega; have := ih (u / 128); omega
theorem putB_len (n : Int) : (putB n).length ≤ 11 := by
  have := rdN_le 10 (zig n)
  simp [putB, vk_len]; omega
end Go.Proofs.YtgeahbmaeaoeeaaGreatDoor
namespace Go.Proofs.YtgeahbmaeaoeeaaGreatDoor
open Go.RowKit Num

/-- A slice of one-cell elements in a block of the call's own, whose cells up to the capacity can be written. -/
def OwnB (w : World) (base : Nat) (v : Value) (xs : List Value) : Prop :=
  ∃ g cap, v = .slice (some ⟨g, 0, none⟩) xs.length cap ∧ base ≤ g ∧ g < w.heap.size ∧ xs.length ≤ cap ∧ (∀ j, j < cap → (w.cell? ⟨g, j, none⟩).isSome = true ∧ w.frozen? ⟨g, j, none⟩ = false) ∧ (∀ j u, xs[j]? = some u → w.cell? ⟨g, j, none⟩ = some u)
theorem addr_add (g j : Nat) : (⟨g, 0, none⟩ : Addr).add j = ⟨g, j, none⟩ := by unfold Addr.add; split <;> simp_all
theorem OwnB.of_block {w w' : World} {base : Nat} {v : Value} {xs : List Value} (h : OwnB w base v xs) (hb : ∀ g, g < w.heap.size → w'.heap[g]? = w.heap[g]?) (hs : w.heap.size ≤ w'.heap.size) : OwnB w' base v xs := by
  obtain ⟨g, cap, rfl, h1, h2, h3, h4, h5⟩ := h
  refine ⟨g, cap, rfl, h1, Nat.lt_of_lt_of_le h2 hs, h3, fun j hj => ?_, fun j u hu => ?_⟩
  · rw [World.cell?_of_block (a := ⟨g, j, none⟩) (hb g h2), World.frozen?_of_block (a := ⟨g, j, none⟩) (hb g h2)]; exact h4 j hj
  · rw [World.cell?_of_block (a := ⟨g, j, none⟩) (hb g h2)]; exact h5 j u hu
theorem OwnB.alloc {w : World} {base : Nat} {v : Value} {xs : List Value} (h : OwnB w base v xs) (o : Obj) : OwnB (w.alloc o) base v xs :=
  h.of_block (fun g hg => heap_alloc_old w o hg) (by simp)
theorem OwnB.of_row {w : World} {base : Nat} {e : TypeId} {v : Value} {xs : List Value} (h : w.ownsRow base e 1 v xs.length xs) (h0 : 0 < xs.length) : OwnB w base v xs := by
  rcases h.2 with ⟨_, hz⟩ | ⟨g, cap, cur, rfl, hb, hg, hn, _, hcs, ht⟩
  · omega
  · have hlt : g < w.heap.size := (Array.getElem?_eq_some_iff.1 hg).1
    refine ⟨g, cap, rfl, hb, hlt, hn, fun j hj => ⟨?_, ?_⟩, fun j u hu => ?_⟩
    · simp [World.cell?, hg, hcs, hj]
    · simp [World.frozen?, hg]
    · have := h.cells (g := g) rfl j u hu
      rwa [addr_add] at this
section
variable {P : Program}
theorem run_append_b (w : World) (base : Nat) (t ty e : TypeId) (i : TypeInfo) (z : Value) (ht : P.underlying t = some (.slice e)) (hi : P.info? e = some i) (hz : i.zero = some z)
    (hsize : i.size = 1) (hby : i.bytes = 1) (hzs : z.cells.size = 1) (v : Value) (xs : List Value) (hown : OwnB w base v xs)
    (ad : Addr) (c : Nat) (u : Value) (hu : w.cell? ad = some u) (h1 : u.oneCell' = true) (hlen : xs.length + 1 ≤ 140737488355328) (hbase : base ≤ w.heap.size) :
    ∃ v' w', (Builtin.append_ #[t, t] ty #[v, .slice (some ad) 1 c]).run P w = .ok v' w' ∧ OwnB w' base v' (xs ++ [u]) ∧ Below base w w' := by
  obtain ⟨g, cap, rfl, hb1, hb2, hb3, hb4, hb5⟩ := hown
  have hnews : ∀ j u', [u][j]? = some u' → w.cell? (ad.add j) = some u' := by
    intro j u' hj
    match j, hj with
    | 0, hj => simp at hj; subst hj; simpa [Addr.add] using hu
  by_cases hr : xs.length + 1 ≤ cap
  · have hrun := run_append_room_cells (P := P) w t ty e i ht hi g 0 xs.length cap ad 1 c [u] (by simp [hsize]) hnews (by intro x hx; simp at hx; subst hx; exact h1) hr
      (fun j hj => by simp at hj; subst hj; simp [hsize]; exact (hb4 _ (by omega)).1) (fun j hj => by simp at hj; subst hj; simp [hsize]; exact (hb4 _ (by omega)).2)
    have hsc : w.setCells g (0 + xs.length * i.size) [u] = w.setCell ⟨g, xs.length, none⟩ u := by simp [World.setCells, hsize]
    rw [hsc] at hrun
    obtain ⟨old, hold⟩ := Option.isSome_iff_exists.1 (hb4 xs.length (by omega)).1
    refine ⟨_, _, hrun, ⟨g, cap, by simp, hb1, by simp [World.setCell]; exact hb2, by simpa using hr, fun j hj => ⟨?_, ?_⟩, fun j x hx => ?_⟩, (Below.refl _ _).setCell (p := ⟨g, xs.length, none⟩) hb1 _⟩
    · by_cases hje : j = xs.length
      · subst hje; rw [World.cell?_setCell_same _ _ _ hold]; rfl
      · rw [World.cell?_setCell_other _ _ _ _ (by intro e; injection e with e1 e2; exact hje e2.symm)]; exact (hb4 j hj).1
    · rw [World.frozen?_setCell]; exact (hb4 j hj).2
    · by_cases hje : j = xs.length
      · subst hje; rw [World.cell?_setCell_same _ _ _ hold]; simpa using hx
      · rw [World.cell?_setCell_other _ _ _ _ (by intro e; injection e with e1 e2; exact hje e2.symm)]
        refine hb5 j x ?_
        have hj2 : j < (xs ++ [u]).length := (List.getElem?_eq_some_iff.1 hx).1
        rw [List.length_append, List.length_singleton] at hj2
        rwa [List.getElem?_append_left (by omega)] at hx
  · obtain ⟨v', w', hrun, ho, hg⟩ := run_append_arg_grows (P := P) w t ty e i z 1 1 ht hi hz hsize hby hzs (by omega) ⟨g, 0, none⟩ xs.length cap xs (by simp) (fun j x hx => by rw [addr_add]; exact hb5 j x hx) ad 1 c [u] (by simp) hnews (by omega) (by simp only [maxLen]; omega) (by omega)
    refine ⟨v', w', hrun, OwnB.of_row (e := e) ?_ (by simp), ?_⟩
    · have : w'.ownsRow base e 1 v' (xs.length + 1) (xs ++ [u]) := by
        refine ⟨ho.1, ?_⟩
        rcases ho.2 with hn | ⟨g', cap', cur, a1, a2, a3⟩
        · exact .inl hn
        · exact .inr ⟨g', cap', cur, a1, Nat.le_trans hbase a2, a3⟩
      simpa using this
    · exact (Below.refl _ _).grown hg hbase (fun r hr => by cases hr)
theorem wpList_append_b {w : World} {ops : Array Oper} {rest : List Oper} {o : Oper} {a : Act} {Q : Exit → Act → World → Prop} (hgd : o.guard = none) (s x : Operand) (t : TypeId)
    (ho : o.op = .call { callee := .builtin .append, args := #[s, x], argTypes := #[t, t] })
    (base : Nat) (e : TypeId) (i : TypeInfo) (z : Value) (ht : P.underlying t = some (.slice e)) (hi : P.info? e = some i) (hz : i.zero = some z)
    (hsize : i.size = 1) (hby : i.bytes = 1) (hzs : z.cells.size = 1) (v : Value) (xs : List Value) (hs : a.eval s = v) (hown : OwnB w base v xs)
    (ad : Addr) (c : Nat) (u : Value) (hx : a.eval x = .slice (some ad) 1 c) (hu : w.cell? ad = some u) (h1 : u.oneCell' = true) (hlen : xs.length + 1 ≤ 140737488355328) (hbase : base ≤ w.heap.size)
    (h : ∀ v' w', OwnB w' base v' (xs ++ [u]) → Below base w w' → wpList P ops Q rest (a.put o.dst v') w') : wpList P ops Q (o :: rest) a w := by
  refine wpList_plain hgd fun K hK => ?_
  obtain ⟨v', w', hr, h2, h3⟩ := run_append_b (P := P) w base t o.type e i z ht hi hz hsize hby hzs v xs hown ad c u hu h1 hlen hbase
  unfold Oper.wp execOp
  simp only [ho, resolve, invoke, builtin, Sem.run_bind, Sem.run_pure, Result.andThen_ok, List.map_toArray, List.map_cons, List.map_nil, hs, hx, hr]
  exact hK _ _ (h v' w' h2 h3)
end
theorem ownB_bytes (W : World) (s : ByteArray) (e : TypeId) : OwnB (Lib.bytesWorld W e s) W.heap.size (.slice (some ⟨W.heap.size, 0, none⟩) s.size (grownCap W s.size 0 e)) (Lib.byteCells s.data.toList) := by
  have hn := Lib.bytesWorld_at_new W e s
  have hge := grownCap_ge W s.size 0 e
  have hsz : (Lib.bytesCells W e s).size = grownCap W s.size 0 e := by
    have : s.data.size = s.size := rfl
    simp [Lib.bytesCells]; omega
  have hl : (Lib.byteCells s.data.toList).length = s.size := by simp [Lib.byteCells]
  refine ⟨W.heap.size, _, by rw [hl], Nat.le_refl _, by rw [Lib.bytesWorld_size]; omega, by rw [hl]; exact hge, fun j hj => ⟨?_, ?_⟩, fun j u hu => ?_⟩
  · simp [World.cell?, hn, hsz, hj]
  · simp [World.frozen?, hn]; omega
  · have hj : j < s.size := by rw [← hl]; exact (List.getElem?_eq_some_iff.1 hu).1
    rw [Lib.bytesWorld_cell W e s j hj]
    have hj2 : j < s.data.toList.length := by simpa using hj
    simp only [Lib.byteCells, List.getElem?_map, List.getElem?_eq_getElem hj2, Option.map_some] at hu
    rw [List.getD_eq_getElem?_getD, List.getElem?_eq_getElem hj2]
    exact hu
theorem below_bytes (W : World) (s : ByteArray) (e : TypeId) : Below W.heap.size W (Lib.bytesWorld W e s) :=
  ⟨rfl, rfl, rfl, by rw [Lib.bytesWorld_size]; omega, fun i hi => Lib.bytesWorld_at_old W e s i hi⟩
end Go.Proofs.YtgeahbmaeaoeeaaGreatDoor
namespace Go.Proofs.YtgeahbmaeaoeeaaGreatDoor
open Go.RowKit Num

theorem repeatL_rep (n : Nat) : Lib.repeatL [0] n = List.replicate n (0 : UInt8) := by
  induction n with
  | zero => rfl
  | succ k ih => simp [Lib.repeatL, ih, List.replicate_succ]
/-- What was laid so far. -/
def padK (s : List UInt8) (k : Nat) : List UInt8 := s ++ [128] ++ List.replicate k 0
theorem padK_len (s : List UInt8) (k : Nat) : (padK s k).length = s.length + 1 + k := by simp [padK]; omega
theorem padK_next (s : List UInt8) (k : Nat) : padK s (k + 1) = padK s k ++ [0] := by simp [padK, List.replicate_succ']
theorem cells_len (l : List UInt8) : (Lib.byteCells l).length = l.length := by simp [Lib.byteCells]
theorem OwnB.form {w : World} {base : Nat} {v : Value} {xs : List Value} {m : Nat} (h : OwnB w base v xs) (hm : xs.length = m) : ∃ g cap, v = .slice (some ⟨g, 0, none⟩) m cap := by
  obtain ⟨g, cap, rfl, _⟩ := h
  exact ⟨g, cap, by rw [hm]⟩
theorem cells_snoc (l : List UInt8) (c : Nat) (h : c < 256) : Lib.byteCells (l ++ [UInt8.ofNat c]) = Lib.byteCells l ++ [.int .u8 (c : Int)] := byteCells_snoc1 l c h

set_option maxRecDepth 100000 in
theorem own_string (w : World) (base g m cap : Nat) (l : List UInt8) (h : OwnB w base (.slice (some ⟨g, 0, none⟩) m cap) (Lib.byteCells l)) (hm : l.length = m) :
    (convert 110 9 (.slice (some ⟨g, 0, none⟩) m cap)).run Tryz.prog w = .ok (.string ⟨l.toArray⟩) w := by
  subst hm
  obtain ⟨g', cap', e, h1, h2, h3, h4, h5⟩ := h
  injection e with e1 e2 e3
  injection e1 with e1
  injection e1 with e1
  subst e1 e3
  have hcv := run_convert_bytes_arg (P := Tryz.prog) w 110 5 Tryz.underlying110 Tryz.underlying5 g 0 l.length cap (l.map fun c => (c.toNat : Int)) (by simp) (fun i hi => by
    rw [Nat.zero_add, h5 i _ (by unfold Lib.byteCells; rw [List.getElem?_map, List.getElem?_eq_getElem hi]; rfl), List.getD_eq_getElem?_getD, List.getElem?_map, List.getElem?_eq_getElem hi]; rfl) 9 Tryz.underlying9
  have hst : strOfNums (l.map fun c => (c.toNat : Int)) = ⟨l.toArray⟩ := by
    unfold strOfNums
    congr 2
    rw [List.map_map]
    conv => rhs; rw [← List.map_id l]
    congr 1
    funext c
    simp
  rwa [hst] at hcv
theorem zerosN_lt (n : Nat) : zerosN n < 64 := Nat.mod_lt _ (by decide)
theorem padS_eq (s : ByteArray) (hl : s.data.toList.length = s.size) : padS s = ⟨(padK s.data.toList (zerosN s.size) ++ lenB s.size 8).toArray⟩ := by
  unfold padS padL padK
  rw [repeatL_rep, hl]

end Go.Proofs.YtgeahbmaeaoeeaaGreatDoor

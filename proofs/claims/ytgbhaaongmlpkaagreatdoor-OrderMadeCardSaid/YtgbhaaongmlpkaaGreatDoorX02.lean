/- Contracts of the sum. Contracts of the dice: numbers that are given out, each below a bound. -/
import Derived.Test.YtgbhaaongmlpkaaGreatDoorX01
import Derived.BigRegion
set_option linter.unusedVariables false
set_option linter.unusedSimpArgs false
namespace Go.Proofs.YtgbhaaongmlpkaaGreatDoor
open Go.RowKit Num

theorem only_of_below {a w : World} (h : Below a.heap.size a w) (row : Option Nat) : a.grownBy w row := ⟨h.os, h.tape, h.output, h.size, fun i hi _ => h.block i hi⟩
theorem only_drewN {a w : World} {row : Option Nat} (h : a.grownBy w row) (n : Nat) : a.grownBy (w.drewN n) row := ⟨h.os, h.tape, h.output, h.size, h.block⟩
theorem only_drew {a w : World} {row : Option Nat} (h : a.grownBy w row) : a.grownBy w.drew row := ⟨h.os, h.tape, h.output, h.size, h.block⟩
theorem only_alloc {a w : World} {row : Option Nat} (h : a.grownBy w row) (o : Obj) : a.grownBy (w.alloc o) row :=
  ⟨h.os, h.tape, h.output, Nat.le_trans h.size (by simp), fun i hi hne => (Below.heap_alloc w o i (Nat.lt_of_lt_of_le hi h.size)).trans (h.block i hi hne)⟩
theorem only_setCell {a w : World} {g : Nat} (h : a.grownBy w (some g)) {p : Addr} (hp : p.block = g ∨ a.heap.size ≤ p.block) (u : Value) : a.grownBy (w.setCell p u) (some g) :=
  ⟨h.os, h.tape, h.output, by simpa [World.setCell] using h.size, fun i hi hne => (Below.heap_setCell w p u i (by
    rintro rfl
    rcases hp with hp | hp
    · exact hne (by rw [hp])
    · omega)).trans (h.block i hi hne)⟩
/-- A rotation to the right. -/
def rot (x : Int) (n : Nat) : Int := bits .or .u32 (x * ((2 ^ (32 - n) : Nat) : Int) % 4294967296) (x / ((2 ^ n : Nat) : Int))
def rots : List Nat := [2, 6, 7, 11, 13, 17, 18, 19, 22, 25]

set_option maxHeartbeats 1000000 in
theorem d_right (x : Int) (n : Nat) (w : World) (h : n ∈ rots) :
    Calls Tryz.prog 86 #[.int .u32 x, .int .i64 (n : Int)] w fun r w' => r = .returned (.int .u32 (rot x n)) ∧ w = w' := by
  have e2 : bits .and .u64 (IntKind.u64.wrap (-2)) 31 = 30 := by decide
  have e6 : bits .and .u64 (IntKind.u64.wrap (-6)) 31 = 26 := by decide
  have e7 : bits .and .u64 (IntKind.u64.wrap (-7)) 31 = 25 := by decide
  have e11 : bits .and .u64 (IntKind.u64.wrap (-11)) 31 = 21 := by decide
  have e13 : bits .and .u64 (IntKind.u64.wrap (-13)) 31 = 19 := by decide
  have e17 : bits .and .u64 (IntKind.u64.wrap (-17)) 31 = 15 := by decide
  have e18 : bits .and .u64 (IntKind.u64.wrap (-18)) 31 = 14 := by decide
  have e19 : bits .and .u64 (IntKind.u64.wrap (-19)) 31 = 13 := by decide
  have e22 : bits .and .u64 (IntKind.u64.wrap (-22)) 31 = 10 := by decide
  have e25 : bits .and .u64 (IntKind.u64.wrap (-25)) 31 = 7 := by decide
  simp only [rots, List.mem_cons, List.mem_nil_iff, or_false] at h
  rcases h with rfl | rfl | rfl | rfl | rfl | rfl | rfl | rfl | rfl | rfl <;>
  (go_enter Tryz.func86, Tryz.ntmps86
   go_wp2_with fail
   go_in
   go_wp2
   go_ret
   exact ⟨rfl, rfl⟩)

/-- A byte of a string. -/
def byteAt (b : ByteArray) (i : Nat) : Int := ((b.data[i]?).getD 0).toNat
theorem byteAt_bd (b : ByteArray) (i : Nat) : 0 ≤ byteAt b i ∧ byteAt b i < 256 := by
  have := ((b.data[i]?).getD 0).toNat_lt
  unfold byteAt; omega
theorem index_byte (b : ByteArray) (i : Nat) (h : i < b.size) (w : World) : (Instr.index 9 (.string b) (.int .i64 (i : Int))).run Tryz.prog w = .ok (.int .u8 (byteAt b i)) w := by
  rw [run_index_string w 9 b .i64 i Tryz.underlying9, dif_pos ⟨by omega, by omega⟩]
  have e : b.data[i]? = some (b[i]'h) := Array.getElem?_eq_getElem h
  unfold byteAt
  rw [e]
  rfl
/-- A word of four bytes. -/
def word4 (a b c d : Int) : Int := bits .or .u32 (bits .or .u32 (bits .or .u32 (a * 16777216) (b * 65536)) (c * 256)) d
def wordAt (b : ByteArray) (t : Nat) : Int := word4 (byteAt b (4 * t)) (byteAt b (4 * t + 1)) (byteAt b (4 * t + 2)) (byteAt b (4 * t + 3))

/-- Words in a row of cells. -/
structure Arr (w : World) (B n : Nat) (f : Nat → Int) : Prop where
  cell : ∀ i, i < n → w.cell? ⟨B, i, none⟩ = some (.int .u32 (f i))
  live : ∀ i, i < n → w.frozen? ⟨B, i, none⟩ = false
theorem Arr.set {w : World} {B n : Nat} {f g : Nat → Int} (h : Arr w B n f) {i : Nat} {v : Int} (hi : i < n) (hv : v = g i) (hg : ∀ j, j < n → j ≠ i → g j = f j) : Arr (w.setCell ⟨B, i, none⟩ (.int .u32 v)) B n g := by
  refine ⟨fun j hj => ?_, fun j hj => ?_⟩
  · by_cases hji : j = i
    · subst hji; rw [World.cell?_setCell_same _ _ _ (h.cell j hj), hv]
    · rw [World.cell?_setCell_other _ _ _ _ (by intro e; injection e with e1 e2; exact hji e2.symm), h.cell j hj, hg j hj hji]
  · rw [World.frozen?_setCell]; exact h.live j hj
theorem Arr.far {w : World} {B n : Nat} {f : Nat → Int} (h : Arr w B n f) {a : Addr} {v : Value} (ha : a.block ≠ B) : Arr (w.setCell a v) B n f := by
  refine ⟨fun j hj => ?_, fun j hj => ?_⟩
  · rw [World.cell?_setCell_other _ _ _ _ (by intro e; exact ha (by rw [e])), h.cell j hj]
  · rw [World.frozen?_setCell]; exact h.live j hj
theorem Arr.drew {w : World} {B n : Nat} {f : Nat → Int} (h : Arr w B n f) : Arr w.drew B n f := ⟨h.cell, h.live⟩
theorem Arr.drewN {w : World} {B n : Nat} {f : Nat → Int} (h : Arr w B n f) (k : Nat) : Arr (w.drewN k) B n f := ⟨h.cell, h.live⟩
theorem Arr.below {w w' : World} {B n m : Nat} {f : Nat → Int} (h : Arr w B n f) (hb : Below m w w') (hB : B < m) : Arr w' B n f :=
  ⟨fun j hj => by rw [hb.cell (by exact hB)]; exact h.cell j hj, fun j hj => by rw [hb.frozen (by exact hB)]; exact h.live j hj⟩
theorem Arr.alloc {w : World} {B n : Nat} {f : Nat → Int} (h : Arr w B n f) (hB : B < w.heap.size) (o : Obj) : Arr (w.alloc o) B n f :=
  h.below ((Below.refl _ _).alloc (Nat.le_refl _) _) hB

/-- The words of a block, so many of them laid. -/
def wds (b : ByteArray) (t : Nat) : Nat → Int := fun i => if i < t then wordAt b i else 0

/-- The next word of a schedule. -/
def stp (f : Nat → Int) (t : Nat) : Int :=
  (bits .xor .u32 (bits .xor .u32 (rot (f (t - 2)) 17) (rot (f (t - 2)) 19)) (f (t - 2) / 1024) + f (t - 7) + bits .xor .u32 (bits .xor .u32 (rot (f (t - 15)) 7) (rot (f (t - 15)) 18)) (f (t - 15) / 8) + f (t - 16)) % 4294967296
/-- The schedule, t words of it laid. -/
def sched (b : ByteArray) : Nat → Nat → Int
  | 0 => wds b 16
  | k + 1 => fun i => if i = 16 + k then stp (sched b k) (16 + k) else sched b k i

/-- One round: what is added, and the state behind it. -/
def rT1 (f : Nat → Int) (k w : Int) : Int := (f 7 + bits .xor .u32 (bits .xor .u32 (rot (f 4) 6) (rot (f 4) 11)) (rot (f 4) 25) + bits .xor .u32 (bits .and .u32 (f 4) (f 5)) (bits .and .u32 (bits .xor .u32 IntKind.u32.max (f 4)) (f 6)) + k + w) % 4294967296
def rT2 (f : Nat → Int) : Int := (bits .xor .u32 (bits .xor .u32 (rot (f 0) 2) (rot (f 0) 13)) (rot (f 0) 22) + bits .xor .u32 (bits .xor .u32 (bits .and .u32 (f 0) (f 1)) (bits .and .u32 (f 0) (f 2))) (bits .and .u32 (f 1) (f 2))) % 4294967296
def rndF (f : Nat → Int) (k w : Int) : Nat → Int
  | 0 => (rT1 f k w + rT2 f) % 4294967296
  | 1 => f 0
  | 2 => f 1
  | 3 => f 2
  | 4 => (f 3 + rT1 f k w) % 4294967296
  | 5 => f 4
  | 6 => f 5
  | _ => f 6

/-- The state behind so many rounds. -/
def rst (K W v : Nat → Int) : Nat → Nat → Int
  | 0 => v
  | t + 1 => rndF (rst K W v t) (K t) (W t)
/-- The old state and what was reckoned, added place by place, so many of them. -/
def fin (v r : Nat → Int) (t : Nat) : Nat → Int := fun i => if i < t then (v i + r i) % 4294967296 else v i
def compress (K v : Nat → Int) (b : ByteArray) : Nat → Int := fin v (rst K (sched b 48) v 64) 8

theorem Arr.congr {w : World} {B n : Nat} {f g : Nat → Int} (h : Arr w B n f) (e : ∀ i, i < n → f i = g i) : Arr w B n g :=
  ⟨fun i hi => by rw [h.cell i hi, e i hi], h.live⟩
def upd (f : Nat → Int) (i : Nat) (v : Int) : Nat → Int := fun j => if j = i then v else f j
theorem Arr.upd {w : World} {B n : Nat} {f : Nat → Int} (h : Arr w B n f) {i : Nat} (v : Int) (hi : i < n) : Arr (w.setCell ⟨B, i, none⟩ (.int .u32 v)) B n (upd f i v) :=
  h.set hi (if_pos rfl).symm fun j _ hj => if_neg hj
theorem set8_arr {w : World} {B : Nat} {f g : Nat → Int} (h : Arr w B 8 f) {a0 a1 a2 a3 a4 a5 a6 a7 : Int} (e0 : a0 = g 0) (e1 : a1 = g 1) (e2 : a2 = g 2) (e3 : a3 = g 3) (e4 : a4 = g 4) (e5 : a5 = g 5) (e6 : a6 = g 6) (e7 : a7 = g 7) :
    Arr ((((((((w.setCell ⟨B, 0, none⟩ (.int .u32 a0)).setCell ⟨B, 1, none⟩ (.int .u32 a1)).setCell ⟨B, 2, none⟩ (.int .u32 a2)).setCell ⟨B, 3, none⟩ (.int .u32 a3)).setCell ⟨B, 4, none⟩ (.int .u32 a4)).setCell ⟨B, 5, none⟩ (.int .u32 a5)).setCell ⟨B, 6, none⟩ (.int .u32 a6)).setCell ⟨B, 7, none⟩ (.int .u32 a7)) B 8 g := by
  subst e0 e1 e2 e3 e4 e5 e6 e7
  refine ((((((((h.upd _ (by omega)).upd _ (by omega)).upd _ (by omega)).upd _ (by omega)).upd _ (by omega)).upd _ (by omega)).upd _ (by omega)).upd _ (by omega)).congr fun i hi => ?_
  have : i = 0 ∨ i = 1 ∨ i = 2 ∨ i = 3 ∨ i = 4 ∨ i = 5 ∨ i = 6 ∨ i = 7 := by omega
  rcases this with rfl | rfl | rfl | rfl | rfl | rfl | rfl | rfl <;> rfl
theorem set8_far {w : World} {B C n : Nat} {f : Nat → Int} (h : Arr w C n f) (hne : B ≠ C) {a0 a1 a2 a3 a4 a5 a6 a7 : Value} :
    Arr ((((((((w.setCell ⟨B, 0, none⟩ a0).setCell ⟨B, 1, none⟩ a1).setCell ⟨B, 2, none⟩ a2).setCell ⟨B, 3, none⟩ a3).setCell ⟨B, 4, none⟩ a4).setCell ⟨B, 5, none⟩ a5).setCell ⟨B, 6, none⟩ a6).setCell ⟨B, 7, none⟩ a7) C n f :=
  (((((((h.far hne).far hne).far hne).far hne).far hne).far hne).far hne).far hne
theorem set8_below {w W : World} {B m : Nat} (h : Below m W w) (hB : m ≤ B) {a0 a1 a2 a3 a4 a5 a6 a7 : Value} :
    Below m W ((((((((w.setCell ⟨B, 0, none⟩ a0).setCell ⟨B, 1, none⟩ a1).setCell ⟨B, 2, none⟩ a2).setCell ⟨B, 3, none⟩ a3).setCell ⟨B, 4, none⟩ a4).setCell ⟨B, 5, none⟩ a5).setCell ⟨B, 6, none⟩ a6).setCell ⟨B, 7, none⟩ a7) :=
  (((((((h.setCell (p := ⟨B, 0, none⟩) hB _).setCell (p := ⟨B, 1, none⟩) hB _).setCell (p := ⟨B, 2, none⟩) hB _).setCell (p := ⟨B, 3, none⟩) hB _).setCell (p := ⟨B, 4, none⟩) hB _).setCell (p := ⟨B, 5, none⟩) hB _).setCell (p := ⟨B, 6, none⟩) hB _).setCell (p := ⟨B, 7, none⟩) hB _
theorem alloc8_arr (w : World) (v : Nat → Int) (T : TypeId) : Arr (w.alloc (.cells #[.int .u32 (v 0), .int .u32 (v 1), .int .u32 (v 2), .int .u32 (v 3), .int .u32 (v 4), .int .u32 (v 5), .int .u32 (v 6), .int .u32 (v 7)] T)) w.heap.size 8 v := by
  refine ⟨fun i hi => ?_, fun i hi => World.frozen?_alloc_new _ _ _ _⟩
  rw [World.cell?_alloc_new]
  have : i = 0 ∨ i = 1 ∨ i = 2 ∨ i = 3 ∨ i = 4 ∨ i = 5 ∨ i = 6 ∨ i = 7 := by omega
  rcases this with rfl | rfl | rfl | rfl | rfl | rfl | rfl | rfl <;> rfl
theorem index8 (r : Nat → Int) (t : Nat) (ht : t < 8) (W : World) : (Instr.index 113 (.agg #[.int .u32 (r 0), .int .u32 (r 1), .int .u32 (r 2), .int .u32 (r 3), .int .u32 (r 4), .int .u32 (r 5), .int .u32 (r 6), .int .u32 (r 7)]) (.int .i64 (t : Int))).run Tryz.prog W = .ok (.int .u32 (r t)) W := by
  have : t = 0 ∨ t = 1 ∨ t = 2 ∨ t = 3 ∨ t = 4 ∨ t = 5 ∨ t = 6 ∨ t = 7 := by omega
  rcases this with rfl | rfl | rfl | rfl | rfl | rfl | rfl | rfl <;> (clear ht; show Sem.run Tryz.prog _ W = Result.ok _ W; kernel_rfl)

set_option maxRecDepth 100000 in
set_option maxHeartbeats 1000000 in
theorem d_add (b : ByteArray) (hb k : Nat) (v K : Nat → Int) (w : World) (hbs : 64 ≤ b.size) (hv : Arr w hb 8 v) (hK : Arr w k 64 K) (hb1 : hb < w.heap.size) (k1 : k < hb) :
    Calls Tryz.prog 67 #[.pointer (some ⟨hb, 0, none⟩), .string b, .pointer (some ⟨k, 0, none⟩)] w fun r w' => r = .returned (.tuple #[]) ∧ w.grownBy w' (some hb) ∧ Arr w' hb 8 (compress K v b) := by
  go_enter Tryz.func67, Tryz.ntmps67
  go_wp2
  go_loopw [7, 21] (fun _ i wr => ∃ t : Nat, t ≤ 16 ∧ i = .int .i64 t ∧ Below w.heap.size w wr ∧ w.heap.size < wr.heap.size ∧ Arr wr w.heap.size 64 (wds b t)) (fun _ i _ => 16 - (intOf i).toNat)
  case atStart =>
    refine ⟨0, by omega, rfl, (Below.refl _ _).alloc (Nat.le_refl _) _, by simp, ⟨fun i hi => ?_, fun i hi => ?_⟩⟩
    · rw [World.cell?_alloc_new]
      have e : wds b 0 i = 0 := if_neg (by omega)
      rw [e]
      have : ∀ i : Nat, i < 64 → (Array.replicate 64 (Value.int .u32 0))[i]? = some (.int .u32 0) := fun i hi => by rw [Array.getElem?_eq_getElem (by simp; exact hi)]; simp
      exact this i hi
    · exact World.frozen?_alloc_new _ _ _ _
  case round =>
    obtain ⟨t, ht, rfl, hbl, hsz, hf⟩ := hrel
    by_cases hl : t < 16
    · have i0 : ∀ w, (Instr.index 9 (.string b) (.int .i64 (4 * (t : Int)))).run Tryz.prog w = .ok (.int .u8 (byteAt b (4 * t))) w := fun w => by
        rw [show (4 * (t : Int)) = ((4 * t : Nat) : Int) by omega]; exact index_byte b (4 * t) (by omega) w
      have i1 : ∀ w, (Instr.index 9 (.string b) (.int .i64 (4 * (t : Int) + 1))).run Tryz.prog w = .ok (.int .u8 (byteAt b (4 * t + 1))) w := fun w => by
        rw [show (4 * (t : Int) + 1) = ((4 * t + 1 : Nat) : Int) by omega]; exact index_byte b (4 * t + 1) (by omega) w
      have i2 : ∀ w, (Instr.index 9 (.string b) (.int .i64 (4 * (t : Int) + 2))).run Tryz.prog w = .ok (.int .u8 (byteAt b (4 * t + 2))) w := fun w => by
        rw [show (4 * (t : Int) + 2) = ((4 * t + 2 : Nat) : Int) by omega]; exact index_byte b (4 * t + 2) (by omega) w
      have i3 : ∀ w, (Instr.index 9 (.string b) (.int .i64 (4 * (t : Int) + 3))).run Tryz.prog w = .ok (.int .u8 (byteAt b (4 * t + 3))) w := fun w => by
        rw [show (4 * (t : Int) + 3) = ((4 * t + 3 : Nat) : Int) by omega]; exact index_byte b (4 * t + 3) (by omega) w
      have ee : wordAt b t = word4 (byteAt b (4 * t)) (byteAt b (4 * t + 1)) (byteAt b (4 * t + 2)) (byteAt b (4 * t + 3)) := rfl
      have EE := Lib.hid ee
      clear ee
      have z0 := byteAt_bd b (4 * t)
      have z1 := byteAt_bd b (4 * t + 1)
      have z2 := byteAt_bd b (4 * t + 2)
      have z3 := byteAt_bd b (4 * t + 3)
      obtain ⟨c0, hc0⟩ : ∃ c, byteAt b (4 * t) = c := ⟨_, rfl⟩
      simp only [hc0] at i0 z0 EE
      obtain ⟨c1, hc1⟩ : ∃ c, byteAt b (4 * t + 1) = c := ⟨_, rfl⟩
      simp only [hc1] at i1 z1 EE
      obtain ⟨c2, hc2⟩ : ∃ c, byteAt b (4 * t + 2) = c := ⟨_, rfl⟩
      simp only [hc2] at i2 z2 EE
      obtain ⟨c3, hc3⟩ : ∃ c, byteAt b (4 * t + 3) = c := ⟨_, rfl⟩
      simp only [hc3] at i3 z3 EE
      have s1 : (4 * (t : Int)) < b.size := by omega
      have cc := hf.cell t (by omega)
      have cl := hf.live t (by omega)
      have HF := Lib.hid hf
      clear hf
      go_wp2_with fail
      go_region
      go_wp2
      go_roundw
      case rel =>
        refine ⟨t + 1, by omega, by go_num, (hbl.setCell (p := ⟨w.heap.size, t, none⟩) (Nat.le_refl _) _).drew, by simp; exact hsz, (HF.out.set (g := wds b (t + 1)) (by omega) ?_ ?_).drew⟩
        · rw [show wds b (t + 1) t = wordAt b t from if_pos (by omega), EE.out]; rfl
        · intro j hj hne
          unfold wds
          by_cases hjt : j < t
          · rw [if_pos hjt, if_pos (by omega)]
          · rw [if_neg hjt, if_neg (by omega)]
      case measure => simp [intOf]; omega
    · have ht' : t = 16 := by omega
      subst ht'
      have HF := Lib.hid hf
      have HBL := Lib.hid hbl
      clear hf hbl
      go_wp2
      go_loopw [8] (fun i wq => ∃ t : Nat, 16 ≤ t ∧ t ≤ 64 ∧ i = .int .i64 t ∧ Below w.heap.size w wq ∧ w.heap.size < wq.heap.size ∧ Arr wq w.heap.size 64 (sched b (t - 16))) (fun i _ => 64 - (intOf i).toNat)
      case atStart => exact ⟨16, by omega, by omega, rfl, HBL.out, hsz, HF.out⟩
      case round =>
        obtain ⟨t, ht1, ht2, rfl, hbl, hsz, hf⟩ := hrel
        by_cases hl : t < 64
        · have q15 := hf.cell (t - 15) (by omega)
          have q2 := hf.cell (t - 2) (by omega)
          have q7 := hf.cell (t - 7) (by omega)
          have q16 := hf.cell (t - 16) (by omega)
          have q0 := hf.cell t (by omega)
          have l0 := hf.live t (by omega)
          have HG := Lib.hid hf
          clear hf
          go_wp2_with fail
          go_quiet (fail)
          go_wp2_with (go_at_call 86; refine (d_right _ _ _ (by decide)).mono ?_; rintro e w' ⟨rfl, rfl⟩)
          go_region
          go_wp2
          refine ⟨?_, ?measure⟩
          (repeat apply Exists.intro)
          refine ⟨?rel, rfl⟩
          case rel =>
            refine ⟨t + 1, by omega, by omega, by go_num, (below_dn hbl _).setCell (p := ⟨w.heap.size, t, none⟩) (Nat.le_refl _) _, by simp; exact hsz, ((HG.out.drewN _).set (g := sched b (t + 1 - 16)) (by omega) ?_ ?_)⟩
            · rw [show t + 1 - 16 = (t - 16) + 1 by omega, show sched b ((t - 16) + 1) t = stp (sched b (t - 16)) (16 + (t - 16)) from if_pos (by omega), show 16 + (t - 16) = t by omega]
              rfl
            · intro j hj hne
              rw [show t + 1 - 16 = (t - 16) + 1 by omega]
              exact if_neg (by omega)
          case measure => simp [intOf]; omega
        · have ht3 : t = 64 := by omega
          subst ht3
          have hv' := hv.below hbl hb1
          have hk' := hK.below hbl (by omega)
          have v0 := hv'.cell 0 (by omega)
          have v1 := hv'.cell 1 (by omega)
          have v2 := hv'.cell 2 (by omega)
          have v3 := hv'.cell 3 (by omega)
          have v4 := hv'.cell 4 (by omega)
          have v5 := hv'.cell 5 (by omega)
          have v6 := hv'.cell 6 (by omega)
          have v7 := hv'.cell 7 (by omega)
          have HV := Lib.hid hv'
          have HK := Lib.hid hk'
          have HG := Lib.hid hf
          have HB2 := Lib.hid hbl
          clear hv' hk' hf hbl
          go_wp2_with fail
          go_loopw [102] (fun i wq => ∃ t : Nat, t ≤ 64 ∧ i = .int .i64 t ∧ Below w.heap.size w wq ∧ wr.heap.size < wq.heap.size ∧ Arr wq w.heap.size 64 (sched b 48) ∧ Arr wq k 64 K ∧ Arr wq hb 8 v ∧ Arr wq wr.heap.size 8 (rst K (sched b 48) v t)) (fun i _ => 64 - (intOf i).toNat)
          case atStart => exact ⟨0, by omega, rfl, HB2.out.alloc (by omega) _, by simp, HG.out.alloc hsz _, HK.out.alloc (by omega) _, HV.out.alloc (by omega) _, alloc8_arr _ _ _⟩
          case round =>
            obtain ⟨t, ht1, rfl, hbl, hs2, hw, hk, hh, hf⟩ := hrel
            by_cases hl : t < 64
            · have es : rst K (sched b 48) v (t + 1) = rndF (rst K (sched b 48) v t) (K t) (sched b 48 t) := rfl
              have ES := Lib.hid es
              clear es
              obtain ⟨f, hfe⟩ : ∃ f, rst K (sched b 48) v t = f := ⟨_, rfl⟩
              rw [hfe] at hf ES
              clear hfe
              have g0 := hf.cell 0 (by omega)
              have g1 := hf.cell 1 (by omega)
              have g2 := hf.cell 2 (by omega)
              have g3 := hf.cell 3 (by omega)
              have g4 := hf.cell 4 (by omega)
              have g5 := hf.cell 5 (by omega)
              have g6 := hf.cell 6 (by omega)
              have g7 := hf.cell 7 (by omega)
              have l0 := hf.live 0 (by omega)
              have l1 := hf.live 1 (by omega)
              have l2 := hf.live 2 (by omega)
              have l3 := hf.live 3 (by omega)
              have l4 := hf.live 4 (by omega)
              have l5 := hf.live 5 (by omega)
              have l6 := hf.live 6 (by omega)
              have l7 := hf.live 7 (by omega)
              have kt := hk.cell t (by omega)
              have wt := hw.cell t (by omega)
              have HF := Lib.hid hf
              have HW := Lib.hid hw
              have HKK := Lib.hid hk
              have HHH := Lib.hid hh
              clear hf hw hk hh
              go_wp2_with fail
              go_quiet (fail)
              go_wp2_with fail
              go_quiet ((go_at_call 86; refine (d_right _ _ _ (by decide)).mono ?_; rintro e w' ⟨rfl, rfl⟩; exact ⟨rfl, _, rfl⟩))
              go_wp2_with fail
              go_quiet ((go_at_call 86; refine (d_right _ _ _ (by decide)).mono ?_; rintro e w' ⟨rfl, rfl⟩; exact ⟨rfl, _, rfl⟩))
              go_wp2_with fail
              refine ⟨?_, ?measure⟩
              (repeat apply Exists.intro)
              refine ⟨?rel, rfl⟩
              case measure => simp [intOf]; omega
              case rel =>
                refine ⟨t + 1, by omega, by go_num, set8_below (below_dn hbl _) (by omega), by simp; exact hs2, set8_far (HW.out.drewN _) (by omega), set8_far (HKK.out.drewN _) (by omega), set8_far (HHH.out.drewN _) (by omega), ?_⟩
                rw [ES.out]
                exact set8_arr (HF.out.drewN _) (by show _ = (rT1 f (K t) (sched b 48 t) + rT2 f) % 4294967296; unfold rT1 rT2; omega) rfl rfl rfl (by show _ = (f 3 + rT1 f (K t) (sched b 48 t)) % 4294967296; unfold rT1; omega) rfl rfl rfl
            · have ht4 : t = 64 := by omega
              subst ht4
              have ec : compress K v b = fin v (rst K (sched b 48) v 64) 8 := rfl
              have EC := Lib.hid ec
              clear ec
              obtain ⟨f, hfe⟩ : ∃ f, rst K (sched b 48) v 64 = f := ⟨_, rfl⟩
              rw [hfe] at hf EC
              clear hfe
              have g0 := hf.cell 0 (by omega)
              have g1 := hf.cell 1 (by omega)
              have g2 := hf.cell 2 (by omega)
              have g3 := hf.cell 3 (by omega)
              have g4 := hf.cell 4 (by omega)
              have g5 := hf.cell 5 (by omega)
              have g6 := hf.cell 6 (by omega)
              have g7 := hf.cell 7 (by omega)
              have HHH := Lib.hid hh
              have HBB := Lib.hid hbl
              clear hf hw hk hh hbl
              go_wp2_with fail
              clear g0 g1 g2 g3 g4 g5 g6 g7
              go_loopw [187] (fun i wq => ∃ t : Nat, t ≤ 8 ∧ i = .int .i64 t ∧ w.grownBy wq (some hb) ∧ Arr wq hb 8 (fin v f t)) (fun i _ => 8 - (intOf i).toNat)
              case atStart => exact ⟨0, by omega, rfl, only_of_below HBB.out _, HHH.out⟩
              case round =>
                obtain ⟨t, ht5, rfl, hbq, hq⟩ := hrel
                by_cases hl : t < 8
                · have ix := index8 f t hl
                  have qc := hq.cell t (by omega)
                  have ql := hq.live t (by omega)
                  have ef : fin v f t t = v t := if_neg (by omega)
                  rw [ef] at qc
                  have HQ := Lib.hid hq
                  clear hq ef
                  go_wp2_with fail
                  go_region
                  go_wp2
                  go_roundw
                  case measure => simp [intOf]; omega
                  case rel =>
                    refine ⟨t + 1, by omega, by go_num, only_drew (only_setCell hbq (p := ⟨hb, t, none⟩) (.inl rfl) _), (HQ.out.set (g := fin v f (t + 1)) (by omega) ?_ ?_).drew⟩
                    · exact (if_pos (by omega)).symm
                    · intro j hj hne
                      unfold fin
                      by_cases hjt : j < t
                      · rw [if_pos hjt, if_pos (by omega)]
                      · rw [if_neg hjt, if_neg (by omega)]
                · have ht6 : t = 8 := by omega
                  subst ht6
                  have HQ := Lib.hid hq
                  clear hq
                  go_wp2_with fail
                  go_end0
                  exact ⟨rfl, hbq, by rw [EC.out]; exact HQ.out⟩
end Go.Proofs.YtgbhaaongmlpkaaGreatDoor
namespace Go.Proofs.YtgbhaaongmlpkaaGreatDoor
open Go.RowKit Num

/-- A block of cells that is known whole. -/
def Blk (w : World) (g : Nat) (t : TypeId) (cs : Array Value) : Prop := w.heap[g]? = some (.cells cs t (0, 0))
section
variable {w w' : World} {g : Nat} {t : TypeId} {cs : Array Value}
theorem Blk.lt (h : Blk w g t cs) : g < w.heap.size := by
  rcases Nat.lt_or_ge g w.heap.size with hlt | hge
  · exact hlt
  · unfold Blk at h; rw [Array.getElem?_eq_none hge] at h; cases h
theorem Blk.cell (h : Blk w g t cs) (i : Nat) : w.cell? ⟨g, i, none⟩ = cs[i]? := cell_of_row w g i cs t (0, 0) h
theorem Blk.frozen (h : Blk w g t cs) (i : Nat) : w.frozen? ⟨g, i, none⟩ = false := by
  unfold Blk at h
  simp [World.frozen?, h]
theorem Blk.new (w : World) (t : TypeId) (cs : Array Value) : Blk (w.alloc (.cells cs t)) w.heap.size t cs := heap_alloc_new w _
theorem Blk.drew (h : Blk w g t cs) : Blk w.drew g t cs := h
theorem Blk.drewN (h : Blk w g t cs) (n : Nat) : Blk (w.drewN n) g t cs := h
theorem Blk.alloc (h : Blk w g t cs) (o : Obj) : Blk (w.alloc o) g t cs := (Below.heap_alloc w o g h.lt).trans h
theorem Blk.set_ (h : Blk w g t cs) (i : Nat) (u : Value) : Blk (w.setCell ⟨g, i, none⟩ u) g t (cs.setIfInBounds i u) := by
  unfold Blk at h ⊢
  simp [World.setCell, Array.getElem?_modify, h]
theorem Blk.far (h : Blk w g t cs) {p : Addr} (hp : g ≠ p.block) (u : Value) : Blk (w.setCell p u) g t cs := (Below.heap_setCell w p u g hp).trans h
end

/-- The dice that lie in a block: a list of numbers that lies below, and a place in it. -/
def Dc (w : World) (b : Nat) : Prop := ∃ (A : Option Addr) (n c k : Nat) (L : Nat → Int), Blk w b 56 #[.slice A n c, .int .i64 (k : Int)] ∧ n ≤ 500 ∧ k ≤ n ∧
  (0 < n → ∃ b0 off, A = some ⟨b0, off, none⟩ ∧ b0 < b ∧ ∀ i, i < n → w.cell? ⟨b0, off + i, none⟩ = some (.int .i64 (L i)))
theorem Dc.lt {w : World} {b : Nat} (h : Dc w b) : b < w.heap.size := by
  obtain ⟨A, n, c, k, L, hb, _⟩ := h; exact hb.lt
theorem Dc.keep {w w' : World} {b : Nat} (h : Dc w b) (hk : ∀ i, i ≤ b → w'.heap[i]? = w.heap[i]?) : Dc w' b := by
  obtain ⟨A, n, c, k, L, hb, h1, h2, h3⟩ := h
  refine ⟨A, n, c, k, L, (hk b (Nat.le_refl b)).trans hb, h1, h2, fun hn => ?_⟩
  obtain ⟨b0, off, hA, hlt, hc⟩ := h3 hn
  exact ⟨b0, off, hA, hlt, fun i hi => (World.cell?_of_block (hk b0 (by omega))).trans (hc i hi)⟩
theorem Dc.below {w w' : World} {b B : Nat} (h : Dc w b) (hb : Below B w w') (hB : b < B) : Dc w' b := h.keep fun i hi => hb.block i (by omega)
theorem Dc.grown {w w' : World} {b : Nat} {row : Option Nat} (h : Dc w b) (hg : w.grownBy w' row) (hr : ∀ g, row = some g → b < g) : Dc w' b :=
  h.keep fun i hi => hg.block i (by have := h.lt; omega) (fun e => by have := hr i e.symm; omega)
theorem Dc.alloc {w : World} {b : Nat} (h : Dc w b) (o : Obj) : Dc (w.alloc o) b := h.below ((Below.refl _ _).alloc (Nat.le_refl _) _) h.lt
theorem Dc.drew {w : World} {b : Nat} (h : Dc w b) : Dc w.drew b := h
theorem Dc.drewN {w : World} {b : Nat} (h : Dc w b) (n : Nat) : Dc (w.drewN n) b := h

/-- A list that came in, of at most 500 numbers. -/
def ArgL (w : World) (v : Value) : Prop := ∃ (A : Option Addr) (n c : Nat) (L : Nat → Int), v = .slice A n c ∧ n ≤ 500 ∧
  (0 < n → ∃ b0 off, A = some ⟨b0, off, none⟩ ∧ b0 < w.heap.size ∧ ∀ i, i < n → w.cell? ⟨b0, off + i, none⟩ = some (.int .i64 (L i)))

set_option maxHeartbeats 400000 in
theorem k_Mod (n m : Int) (w : World) (h1 : 1 ≤ m) (h2 : m ≤ 2305843009213693952) :
    Calls Tryz.prog 17 #[.int .i64 n, .int .i64 m] w fun e w' => e = .returned (.int .i64 (n % m)) ∧ w = w' := by
  have ht := Int.tmod_lt_of_pos n (b := m) (by omega)
  have ht' : -m < n.tmod m := Int.lt_tmod_of_pos n (by omega)
  go_enter Tryz.func17, Tryz.ntmps17
  go_wp2
  go_ret
  refine ⟨ret_int ?_, rfl⟩
  have e : (n.tmod m + m).tmod m = (n.tmod m + m) % m := Int.tmod_eq_emod_of_nonneg (by omega)
  first | (rw [e, Int.add_emod_right, ← emod_tmod]) | (rw [Int.add_emod_right, ← emod_tmod]) | (rw [← emod_tmod])
set_option maxHeartbeats 400000 in
theorem k_Light (A : Option Addr) (n c : Nat) (w : World) (h : n ≤ 9223372036854775807) :
    Calls Tryz.prog 4 #[.slice A n c] w fun e w' => e = .returned (.bool (decide ((n : Int) ≤ 500))) ∧ w = w' := by
  go_enter Tryz.func4, Tryz.ntmps4
  go_wp2
  go_ret
  exact ⟨by simp, rfl⟩
set_option maxHeartbeats 400000 in
theorem k_Roll (v : Value) (w : World) (h : ArgL w v) :
    Calls Tryz.prog 6 #[v] w fun e w' => e = .returned (.pointer (some ⟨w.heap.size, 0, none⟩)) ∧ Dc w' w.heap.size ∧ Below w.heap.size w w' := by
  obtain ⟨A, n, c, L, rfl, h1, h2⟩ := h
  go_enter Tryz.func6, Tryz.ntmps6
  go_wp2
  go_ret
  refine ⟨rfl, ⟨A, n, c, 0, L, Blk.new _ _ _, h1, Nat.zero_le _, fun hn => ?_⟩, (Below.refl _ _).alloc (Nat.le_refl _) _⟩
  obtain ⟨b0, off, hA, hlt, hc⟩ := h2 hn
  exact ⟨b0, off, hA, hlt, fun i hi => (World.cell?_alloc_lt w _ ⟨b0, off + i, none⟩ hlt).trans (hc i hi)⟩

def NextPost (b n : Nat) (w : World) (e : Ending) (w' : World) : Prop := ∃ r : Nat, r < n ∧ e = .returned (.int .i64 (r : Int)) ∧ Dc w' b ∧ w.grownBy w' (some b)
theorem quiet_left' {P : Program} {f : FuncId} {args : Array Value} {w : World} {n : Nat} {v : Value}
    (h : Calls P f args (w.drewN n) fun e w' => e = .returned v ∧ w.drewN n = w') : Calls P f args (w.drewN n) fun e w'' => e = .returned v ∧ ∃ m, w'' = w.drewN m :=
  h.mono fun _ _ ⟨he, hm⟩ => ⟨he, n, hm.symm⟩
theorem quiet_add_left {P : Program} {f : FuncId} {args : Array Value} {w : World} {a n : Nat} {v : Value}
    (h : Calls P f args (w.drewN (a + n)) fun e w' => e = .returned v ∧ w.drewN (a + n) = w') :
    Calls P f args (w.drewN (a + n)) fun e w'' => e = .returned v ∧ ∃ m, w'' = w.drewN (a + m) :=
  h.mono fun _ _ ⟨he, hm⟩ => ⟨he, n, hm.symm⟩
set_option maxHeartbeats 1000000 in
theorem k_Next (b n : Nat) (w : World) (hd : Dc w b) (h1 : 1 ≤ n) (h2 : n ≤ 2305843009213693952) :
    Calls Tryz.prog 7 #[.pointer (some ⟨b, 0, none⟩), .int .i64 (n : Int)] w (NextPost b n w) := by
  obtain ⟨A, m, c, k, L, hb, hm, hk, hL⟩ := id hd
  have c0 : w.cell? ⟨b, 0, none⟩ = some (.slice A m c) := hb.cell 0
  have c1 : w.cell? ⟨b, 1, none⟩ = some (.int .i64 (k : Int)) := hb.cell 1
  have f1 := hb.frozen 1
  by_cases hkm : k < m
  · obtain ⟨b0, off, rfl, hlt, hc⟩ := hL (by omega)
    have ck := hc k hkm
    have hne : (⟨b, 1, none⟩ : Addr) ≠ ⟨b0, off + k, none⟩ := by intro e; injection e with e1; omega
    have c0' : (w.setCell ⟨b, 1, none⟩ (.int .i64 ((k : Int) + 1))).cell? ⟨b, 0, none⟩ = some (.slice (some ⟨b0, off, none⟩) m c) := by
      rw [World.cell?_setCell_other _ _ _ _ (by intro e; injection e with e1 e2; cases e2)]; exact c0
    have ck' : (w.setCell ⟨b, 1, none⟩ (.int .i64 ((k : Int) + 1))).cell? ⟨b0, off + k, none⟩ = some (.int .i64 (L k)) := by
      rw [World.cell?_setCell_other _ _ _ _ hne]; exact ck
    have HC := Lib.hid hc
    have HB := Lib.hid hb
    clear hc hb hL
    go_enter Tryz.func7, Tryz.ntmps7
    go_wp2_with fail
    go_quiet (fail)
    go_wp2_with fail
    have hB2 : Blk ((w.drewN nq).setCell ⟨b, 1, none⟩ (.int .i64 ((k : Int) + 1))) b 56 #[.slice (some ⟨b0, off, none⟩) m c, .int .i64 ((k : Int) + 1)] := (HB.out.drewN nq).set_ 1 _
    have hg2 : w.grownBy ((w.drewN nq).setCell ⟨b, 1, none⟩ (.int .i64 ((k : Int) + 1))) (some b) := only_setCell (only_drewN (World.grownBy.refl w _) _) (.inl rfl) _
    generalize hwq : (w.drewN nq).setCell ⟨b, 1, none⟩ (.int .i64 ((k : Int) + 1)) = wq at *
    have d0 : wq.cell? ⟨b, 0, none⟩ = some (.slice (some ⟨b0, off, none⟩) m c) := hB2.cell 0
    have d1 : wq.cell? ⟨b, 1, none⟩ = some (.int .i64 ((k : Int) + 1)) := hB2.cell 1
    have dk : wq.cell? ⟨b0, off + k, none⟩ = some (.int .i64 (L k)) := (World.cell?_of_block (hg2.block b0 (by have := HB.out.lt; omega) (by simp; omega))).trans (HC.out k hkm)
    have q1 : (0 : Int) ≤ (k : Int) := by omega
    have q2 : (k : Int) < (m : Int) := by omega
    clear hwq c0 c1 f1 ck c0' ck' hne
    go_quiet ((go_at_call 17; exact quiet_left' (k_Mod _ _ _ (by omega) (by omega))))
    go_wp2_with fail
    go_ret
    have r0 := Int.emod_nonneg (L k) (show (n : Int) ≠ 0 by omega)
    have r1 := Int.emod_lt_of_pos (L k) (show (0 : Int) < (n : Int) by omega)
    refine ⟨((L k) % (n : Int)).toNat, by omega, ?_, ?_, only_drewN hg2 _⟩
    · show Ending.returned (.int .i64 (L k % (n : Int))) = _
      rw [Int.toNat_of_nonneg r0]
    · refine Dc.drewN ⟨_, m, c, k + 1, L, ?_, hm, by omega, fun _ => ⟨b0, off, rfl, hlt, fun i hi => ?_⟩⟩ _
      · have := hB2; rwa [show ((k : Int) + 1) = ((k + 1 : Nat) : Int) by omega] at this
      · exact (World.cell?_of_block (hg2.block b0 (by have := HB.out.lt; omega) (by simp; omega))).trans (HC.out i hi)
  · go_enter Tryz.func7, Tryz.ntmps7
    have hd2 := Lib.hid hd
    clear hL hb hd
    go_wp2_with fail
    go_quiet (fail)
    go_wp2_with fail
    go_ret
    exact ⟨0, by omega, rfl, hd2.out.drewN _, only_drewN (World.grownBy.refl w _) _⟩
theorem gb_trans {a b c : World} {g : Nat} (h : a.grownBy b (some g)) (k : b.grownBy c (some g)) : a.grownBy c (some g) :=
  ⟨k.os.trans h.os, k.tape.trans h.tape, k.output.trans h.output, Nat.le_trans h.size k.size, fun i hi hn => (k.block i (Nat.lt_of_lt_of_le hi h.size) hn).trans (h.block i hi hn)⟩
/-- The nine safe primes, by the dice. -/
def SafePost (b : Nat) (w : World) (e : Ending) (w' : World) : Prop := ∃ p : Nat, Num.Safe p ∧ e = .returned (.int .i64 (p : Int)) ∧ Dc w' b ∧ w.grownBy w' (some b)
end Go.Proofs.YtgbhaaongmlpkaaGreatDoor

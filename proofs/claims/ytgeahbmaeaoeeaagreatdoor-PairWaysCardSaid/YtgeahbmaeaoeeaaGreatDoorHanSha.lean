/- Contracts of the sum. -/
import Derived.Test.YtgeahbmaeaoeeaaGreatDoorHanGrp
import Derived.BigRegion
set_option linter.unusedVariables false
set_option linter.unusedSimpArgs false
namespace Go.Proofs.YtgeahbmaeaoeeaaGreatDoor
open Go.RowKit Num

theorem only_of_below {a w : World} (h : Below a.heap.size a w) (row : Option Nat) : a.grownBy w row := ⟨h.os, h.tape, h.output, h.size, fun i hi _ => h.block i hi⟩
theorem only_drewN {a w : World} {row : Option Nat} (h : a.grownBy w row) (n : Nat) : a.grownBy (w.drewN n) row := ⟨h.os, h.tape, h.output, h.size, h.block⟩
theorem only_drew {a w : World} {row : Option Nat} (h : a.grownBy w row) : a.grownBy w.drew row := ⟨h.os, h.tape, h.output, h.size, h.block⟩
theorem only_alloc {a w : World} {row : Option Nat} (h : a.grownBy w row) (o : Obj) : a.grownBy (w.alloc o) row :=
  ⟨h.os, h.tape, h.output, Nat.le_trans h.size (by simp), fun i hi hne => (Below.heap_alloc w o i (Nat.lt_of_lt_of_le hi h.size)).trans (h.block i hi hne)⟩
theorem only_setCell {a w : World} {g : Nat} (h : a.grownBy w (some g)) {p : Addr} (hp : p.block = g ∨ a.heap.size ≤ p.block) (u : Value) : a.grownBy (w.setCell p u) (some g) :=
  ⟨h.os, h.tape, h.output, by simpa [World.setCell] using h.size, fun i hi hne => (Below.heap_setCell w p u i (by
    rintro rfl
    rcases hp with hp | hp
    · exact hne (by rw [hp])
    · omega)).trans (h.block i hi hne)⟩
/-- A rotation to the right. -/
def rot (x : Int) (n : Nat) : Int := bits .or .u32 (x * ((2 ^ (32 - n) : Nat) : Int) % 4294967296) (x / ((2 ^ n : Nat) : Int))
def rots : List Nat := [2, 6, 7, 11, 13, 17, 18, 19, 22, 25]

/-- A byte of a string. -/
def byteAt (b : ByteArray) (i : Nat) : Int := ((b.data[i]?).getD 0).toNat
theorem byteAt_bd (b : ByteArray) (i : Nat) : 0 ≤ byteAt b i ∧ byteAt b i < 256 := by
  have := ((b.data[i]?).getD 0).toNat_lt
  unfold byteAt; omega
theorem index_byte (b : ByteArray) (i : Nat) (h : i < b.size) (w : World) : (Instr.index 9 (.string b) (.int .i64 (i : Int))).run Tryz.prog w = .ok (.int .u8 (byteAt b i)) w := by
  rw [run_index_string w 9 b .i64 i Tryz.underlying9, dif_pos ⟨by omega, by omega⟩]
  have e : b.data[i]? = some (b[i]'h) := Array.getElem?_eq_getElem h
  unfold byteAt
  rw [e]
  rfl
/-- A word of four bytes. -/
def word4 (a b c d : Int) : Int := bits .or .u32 (bits .or .u32 (bits .or .u32 (a * 16777216) (b * 65536)) (c * 256)) d
def wordAt (b : ByteArray) (t : Nat) : Int := word4 (byteAt b (4 * t)) (byteAt b (4 * t + 1)) (byteAt b (4 * t + 2)) (byteAt b (4 * t + 3))

/-- Words in a row of cells. -/
structure Arr (w : World) (B n : Nat) (f : Nat → Int) : Prop where
  cell : ∀ i, i < n → w.cell? ⟨B, i, none⟩ = some (.int .u32 (f i))
  live : ∀ i, i < n → w.frozen? ⟨B, i, none⟩ = false
theorem Arr.set {w : World} {B n : Nat} {f g : Nat → Int} (h : Arr w B n f) {i : Nat} {v : Int} (hi : i < n) (hv : v = g i) (hg : ∀ j, j < n → j ≠ i → g j = f j) : Arr (w.setCell ⟨B, i, none⟩ (.int .u32 v)) B n g := by
  refine ⟨fun j hj => ?_, fun j hj => ?_⟩
  · by_cases hji : j = i
    · subst hji; rw [World.cell?_setCell_same _ _ _ (h.cell j hj), hv]
    · rw [World.cell?_setCell_other _ _ _ _ (by intro e; injection e with e1 e2; exact hji e2.symm), h.cell j hj, hg j hj hji]
  · rw [World.frozen?_setCell]; exact h.live j hj
theorem Arr.far {w : World} {B n : Nat} {f : Nat → Int} (h : Arr w B n f) {a : Addr} {v : Value} (ha : a.block ≠ B) : Arr (w.setCell a v) B n f := by
  refine ⟨fun j hj => ?_, fun j hj => ?_⟩
  · rw [World.cell?_setCell_other _ _ _ _ (by intro e; exact ha (by rw [e])), h.cell j hj]
  · rw [World.frozen?_setCell]; exact h.live j hj
theorem Arr.drew {w : World} {B n : Nat} {f : Nat → Int} (h : Arr w B n f) : Arr w.drew B n f := ⟨h.cell, h.live⟩
theorem Arr.drewN {w : World} {B n : Nat} {f : Nat → Int} (h : Arr w B n f) (k : Nat) : Arr (w.drewN k) B n f := ⟨h.cell, h.live⟩
theorem Arr.below {w w' : World} {B n m : Nat} {f : Nat → Int} (h : Arr w B n f) (hb : Below m w w') (hB : B < m) : Arr w' B n f :=
  ⟨fun j hj => by rw [hb.cell (by exact hB)]; exact h.cell j hj, fun j hj => by rw [hb.frozen (by exact hB)]; exact h.live j hj⟩
theorem Arr.alloc {w : World} {B n : Nat} {f : Nat → Int} (h : Arr w B n f) (hB : B < w.heap.size) (o : Obj) : Arr (w.alloc o) B n f :=
  h.below ((Below.refl _ _).alloc (Nat.le_refl _) _) hB

/-- The words of a block, so many of them laid. -/
def wds (b : ByteArray) (t : Nat) : Nat → Int := fun i => if i < t then wordAt b i else 0

/-- The next word of a schedule. -/
def stp (f : Nat → Int) (t : Nat) : Int :=
  (bits .xor .u32 (bits .xor .u32 (rot (f (t - 2)) 17) (rot (f (t - 2)) 19)) (f (t - 2) / 1024) + f (t - 7) + bits .xor .u32 (bits .xor .u32 (rot (f (t - 15)) 7) (rot (f (t - 15)) 18)) (f (t - 15) / 8) + f (t - 16)) % 4294967296
/-- The schedule, t words of it laid. -/
def sched (b : ByteArray) : Nat → Nat → Int
  | 0 => wds b 16
  | k + 1 => fun i => if i = 16 + k then stp (sched b k) (16 + k) else sched b k i

/-- One round: what is added, and the state behind it. -/
def rT1 (f : Nat → Int) (k w : Int) : Int := (f 7 + bits .xor .u32 (bits .xor .u32 (rot (f 4) 6) (rot (f 4) 11)) (rot (f 4) 25) + bits .xor .u32 (bits .and .u32 (f 4) (f 5)) (bits .and .u32 (bits .xor .u32 IntKind.u32.max (f 4)) (f 6)) + k + w) % 4294967296
def rT2 (f : Nat → Int) : Int := (bits .xor .u32 (bits .xor .u32 (rot (f 0) 2) (rot (f 0) 13)) (rot (f 0) 22) + bits .xor .u32 (bits .xor .u32 (bits .and .u32 (f 0) (f 1)) (bits .and .u32 (f 0) (f 2))) (bits .and .u32 (f 1) (f 2))) % 4294967296
def rndF (f : Nat → Int) (k w : Int) : Nat → Int
  | 0 => (rT1 f k w + rT2 f) % 4294967296
  | 1 => f 0
  | 2 => f 1
  | 3 => f 2
  | 4 => (f 3 + rT1 f k w) % 4294967296
  | 5 => f 4
  | 6 => f 5
  | _ => f 6

/-- The state behind so many rounds. -/
def rst (K W v : Nat → Int) : Nat → Nat → Int
  | 0 => v
  | t + 1 => rndF (rst K W v t) (K t) (W t)
/-- The old state and what was reckoned, added place by place, so many of them. -/
def fin (v r : Nat → Int) (t : Nat) : Nat → Int := fun i => if i < t then (v i + r i) % 4294967296 else v i
def compress (K v : Nat → Int) (b : ByteArray) : Nat → Int := fin v (rst K (sched b 48) v 64) 8

theorem Arr.congr {w : World} {B n : Nat} {f g : Nat → Int} (h : Arr w B n f) (e : ∀ i, i < n → f i = g i) : Arr w B n g :=
  ⟨fun i hi => by rw [h.cell i hi, e i hi], h.live⟩
def upd (f : Nat → Int) (i : Nat) (v : Int) : Nat → Int := fun j => if j = i then v else f j
theorem Arr.upd {w : World} {B n : Nat} {f : Nat → Int} (h : Arr w B n f) {i : Nat} (v : Int) (hi : i < n) : Arr (w.setCell ⟨B, i, none⟩ (.int .u32 v)) B n (upd f i v) :=
  h.set hi (if_pos rfl).symm fun j _ hj => if_neg hj
theorem set8_arr {w : World} {B : Nat} {f g : Nat → Int} (h : Arr w B 8 f) {a0 a1 a2 a3 a4 a5 a6 a7 : Int} (e0 : a0 = g 0) (e1 : a1 = g 1) (e2 : a2 = g 2) (e3 : a3 = g 3) (e4 : a4 = g 4) (e5 : a5 = g 5) (e6 : a6 = g 6) (e7 : a7 = g 7) :
    Arr ((((((((w.setCell ⟨B, 0, none⟩ (.int .u32 a0)).setCell ⟨B, 1, none⟩ (.int .u32 a1)).setCell ⟨B, 2, none⟩ (.int .u32 a2)).setCell ⟨B, 3, none⟩ (.int .u32 a3)).setCell ⟨B, 4, none⟩ (.int .u32 a4)).setCell ⟨B, 5, none⟩ (.int .u32 a5)).setCell ⟨B, 6, none⟩ (.int .u32 a6)).setCell ⟨B, 7, none⟩ (.int .u32 a7)) B 8 g := by
  subst e0 e1 e2 e3 e4 e5 e6 e7
  refine ((((((((h.upd _ (by omega)).upd _ (by omega)).upd _ (by omega)).upd _ (by omega)).upd _ (by omega)).upd _ (by omega)).upd _ (by omega)).upd _ (by omega)).congr fun i hi => ?_
  have : i = 0 ∨ i = 1 ∨ i = 2 ∨ i = 3 ∨ i = 4 ∨ i = 5 ∨ i = 6 ∨ i = 7 := by omega
  rcases this with rfl | rfl | rfl | rfl | rfl | rfl | rfl | rfl <;> rfl
theorem set8_far {w : World} {B C n : Nat} {f : Nat → Int} (h : Arr w C n f) (hne : B ≠ C) {a0 a1 a2 a3 a4 a5 a6 a7 : Value} :
    Arr ((((((((w.setCell ⟨B, 0, none⟩ a0).setCell ⟨B, 1, none⟩ a1).setCell ⟨B, 2, none⟩ a2).setCell ⟨B, 3, none⟩ a3).setCell ⟨B, 4, none⟩ a4).setCell ⟨B, 5, none⟩ a5).setCell ⟨B, 6, none⟩ a6).setCell ⟨B, 7, none⟩ a7) C n f :=
  (((((((h.far hne).far hne).far hne).far hne).far hne).far hne).far hne).far hne
theorem set8_below {w W : World} {B m : Nat} (h : Below m W w) (hB : m ≤ B) {a0 a1 a2 a3 a4 a5 a6 a7 : Value} :
    Below m W ((((((((w.setCell ⟨B, 0, none⟩ a0).setCell ⟨B, 1, none⟩ a1).setCell ⟨B, 2, none⟩ a2).setCell ⟨B, 3, none⟩ a3).setCell ⟨B, 4, none⟩ a4).setCell ⟨B, 5, none⟩ a5).setCell ⟨B, 6, none⟩ a6).setCell ⟨B, 7, none⟩ a7) :=
  (((((((h.setCell (p := ⟨B, 0, none⟩) hB _).setCell (p := ⟨B, 1, none⟩) hB _).setCell (p := ⟨B, 2, none⟩) hB _).setCell (p := ⟨B, 3, none⟩) hB _).setCell (p := ⟨B, 4, none⟩) hB _).setCell (p := ⟨B, 5, none⟩) hB _).setCell (p := ⟨B, 6, none⟩) hB _).setCell (p := ⟨B, 7, none⟩) hB _
theorem alloc8_arr (w : World) (v : Nat → Int) (T : TypeId) : Arr (w.alloc (.cells #[.int .u32 (v 0), .int .u32 (v 1), .int .u32 (v 2), .int .u32 (v 3), .int .u32 (v 4), .int .u32 (v 5), .int .u32 (v 6), .int .u32 (v 7)] T)) w.heap.size 8 v := by
  refine ⟨fun i hi => ?_, fun i hi => World.frozen?_alloc_new _ _ _ _⟩
  rw [World.cell?_alloc_new]
  have : i = 0 ∨ i = 1 ∨ i = 2 ∨ i = 3 ∨ i = 4 ∨ i = 5 ∨ i = 6 ∨ i = 7 := by omega
  rcases this with rfl | rfl | rfl | rfl | rfl | rfl | rfl | rfl <;> rfl
end Go.Proofs.YtgeahbmaeaoeeaaGreatDoor

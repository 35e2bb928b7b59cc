/- Contracts of field and handle: numbers modulo a number. The test of Miller and Rabin: a prime passes it. No program stands in it. Contracts of the tests of Miller and Rabin. Contracts: which numbers are permitted primes and moduli, at primes. Contracts: the group of a safe prime. Contracts of the sum. -/
import Derived.Test.YtaljcojkcgjmcaaGreatDoorRows
import Derived.Test.YtaljcojkcgjmcaaGreatDoorX01
import Derived.WalkKit
import Derived.WalkSpells
import Derived.WalkLawsBesides
import Derived.Deep.QuietTactic
import Derived.BigQuiet
import Derived.Lib.Hide
import Derived.Laws.BitsLemmas
import Derived.BigRegion
set_option linter.unusedVariables false
set_option linter.unusedSimpArgs false
namespace Go.Proofs.YtaljcojkcgjmcaaGreatDoor
open Go.RowKit Num

theorem wraps_i64_63 (n : Int) (h₀ : 0 ≤ n) (h₁ : n < 2 ^ 63) : IntKind.i64.wrap n = n := by rw [IntKind.wrap_i64]; omega
theorem and_1 (t : Nat) (ht : t < 9223372036854775808) : bits .and .i64 (t : Int) 1 = ((t % 2 : Nat) : Int) := by
  have h := bits_mask .i64 63 (by decide) wraps_i64_63 1 (by decide) (t : Int) (by omega) (by omega)
  have e : ((2 : Int) ^ 1 - 1) = 1 := by decide
  have e2 : ((2 : Int) ^ 1) = 2 := by decide
  rw [e, e2] at h
  rw [h]; omega
theorem emod_tmod (n p : Int) : n % p = n.tmod p % p := by
  conv => lhs; rw [← Int.mul_tdiv_add_tmod n p, Int.add_comm, Int.add_mul_emod_self_left]
theorem emod_lo {n p : Int} (h : 1 ≤ p) (h1 : -p < n.tmod p) (h2 : n.tmod p < 0) : n.tmod p + p = n % p := by
  rw [emod_tmod, ← Int.add_emod_right, Int.emod_eq_of_lt (by omega) (by omega)]
theorem emod_hi {n p : Int} (h : 1 ≤ p) (h1 : n.tmod p < p) (h2 : 0 ≤ n.tmod p) : n.tmod p = n % p := by
  rw [emod_tmod, Int.emod_eq_of_lt (by omega) (by omega)]
theorem ret_int {k : IntKind} {a b : Int} (h : a = b) : Ending.returned (.int k a) = .returned (.int k b) := by rw [h]
theorem int_eq {k : IntKind} {a b : Int} (h : a = b) : Value.int k a = .int k b := by rw [h]
theorem ret_bool {a b : Bool} (h : a = b) : Ending.returned (.bool a) = .returned (.bool b) := by rw [h]

theorem quiet_left {P : Program} {f : FuncId} {args : Array Value} {w : World} {n : Nat} {v : Value}
    (h : Calls P f args (w.drewN n) fun e w' => e = .returned v ∧ w.drewN n = w') : Calls P f args (w.drewN n) fun e w' => e = .returned v ∧ ∃ m, w' = w.drewN m :=
  h.mono fun _ _ ⟨he, hm⟩ => ⟨he, n, hm.symm⟩

/-- No block below n turns, and the world may have drawn. -/
theorem below_dn {n : Nat} {w w' : World} (h : Below n w w') (k : Nat) : Below n w (w'.drewN k) := by
  exact ⟨h.os, h.tape, h.output, h.size, h.block⟩

/-- A number is of the group: above 0, below the modulus, and its power is 1. -/
def inG (p m : Nat) (x : Int) : Bool := decide (0 < x ∧ x < m ∧ pw m x.toNat p = 1)
theorem inG_f {p m : Nat} {x : Int} (h : ¬ (0 < x ∧ x < m)) : inG p m x = false := decide_eq_false fun hc => h ⟨hc.1, hc.2.1⟩
theorem inG_n {p m n : Nat} (h0 : 0 < n) (h : n < m) : (((pw m n p : Nat) : Int) == 1) = inG p m (n : Int) := by
  rw [Bool.eq_iff_iff, beq_iff_eq, inG, decide_eq_true_eq, Int.toNat_natCast]; omega

end Go.Proofs.YtaljcojkcgjmcaaGreatDoor
namespace Go.Proofs.YtaljcojkcgjmcaaGreatDoor.Num
open Classical

theorem sqrt_one {p y : Nat} (h : Prm p) (hy : y < p) (h1 : y * y % p = 1) : y = 1 ∨ y = p - 1 := by
  have h2 := h.1
  have y1 : 1 ≤ y := by
    cases y with
    | zero => rw [Nat.zero_mul, Nat.zero_mod] at h1; omega
    | succ y => omega
  have y2 : 1 ≤ y * y := Nat.mul_pos (by omega) (by omega)
  have d : p ∣ (y - 1) * (y + 1) := by
    have e : (y - 1) * (y + 1) = y * y - 1 := by
      obtain ⟨z, rfl⟩ : ∃ z, y = z + 1 := ⟨y - 1, by omega⟩
      have a : (z + 1) * (z + 1) = z * (z + 1) + (z + 1) := Nat.succ_mul _ _
      have b : z * (z + 1 + 1) = z * (z + 1) + z := Nat.mul_succ _ _
      rw [Nat.add_sub_cancel, b, a]; omega
    rw [e]
    apply Nat.dvd_of_mod_eq_zero
    apply Nat.sub_mod_eq_zero_of_mod_eq
    rw [h1]; exact (Nat.mod_eq_of_lt (by omega)).symm
  rcases prm_dvd h d with d | d
  · by_cases h0 : y = 1
    · exact .inl h0
    · have := Nat.le_of_dvd (by omega) d; omega
  · have := Nat.le_of_dvd (by omega) d; omega

/-- What the test asks, of the odd part o and of t twos. -/
def MRat (m b o t : Nat) : Prop := pw m b o = 1 ∨ ∃ i, i < t ∧ pw m b (o * 2 ^ i) = m - 1
def MRp (m b : Nat) : Prop := ∃ o t, o * 2 ^ t = m - 1 ∧ o % 2 = 1 ∧ MRat m b o t
noncomputable def mrB (m b : Nat) : Bool := decide (MRp m b)

theorem odd_uniq {o t o' t' : Nat} (h : o % 2 = 1) (h' : o' % 2 = 1) (he : o * 2 ^ t = o' * 2 ^ t') : o = o' ∧ t = t' := by
  have key : ∀ {o t o' t' : Nat}, o % 2 = 1 → o * 2 ^ t = o' * 2 ^ t' → ¬ t < t' := by
    intro o t o' t' ho he hlt
    have e : 2 ^ t' = 2 ^ (t' - t - 1) * 2 * 2 ^ t := by
      rw [← Nat.pow_succ, ← Nat.pow_add]; congr 1; omega
    rw [e, ← Nat.mul_assoc] at he
    have := Nat.eq_of_mul_eq_mul_right (Nat.two_pow_pos t) he
    rw [this, ← Nat.mul_assoc] at ho
    omega
  have ht : t = t' := by
    rcases Nat.lt_trichotomy t t' with hl | hl | hl
    · exact (key h he hl).elim
    · exact hl
    · exact (key h' he.symm hl).elim
  subst ht
  exact ⟨Nat.eq_of_mul_eq_mul_right (Nat.two_pow_pos t) he, rfl⟩
theorem mrB_at {m b o t : Nat} (he : o * 2 ^ t = m - 1) (ho : o % 2 = 1) : mrB m b = true ↔ MRat m b o t := by
  unfold mrB
  rw [decide_eq_true_eq]
  constructor
  · rintro ⟨o', t', he', ho', h⟩
    obtain ⟨rfl, rfl⟩ := odd_uniq ho ho' (he.trans he'.symm)
    exact h
  · intro h; exact ⟨o, t, he, ho, h⟩
theorem mrB_f {m b o t : Nat} (he : o * 2 ^ t = m - 1) (ho : o % 2 = 1) (h : ¬ MRat m b o t) : mrB m b = false := by
  cases hb : mrB m b with
  | false => rfl
  | true => exact absurd ((mrB_at he ho).1 hb) h

theorem odd_part : ∀ n : Nat, 0 < n → ∃ o t, o * 2 ^ t = n ∧ o % 2 = 1 := by
  intro n
  induction n using Nat.strongRecOn with
  | _ n ih =>
    intro hn
    rcases Nat.mod_two_eq_zero_or_one n with h | h
    · obtain ⟨o, t, he, ho⟩ := ih (n / 2) (by omega) (by omega)
      exact ⟨o, t + 1, by rw [Nat.pow_succ, ← Nat.mul_assoc, he]; omega, ho⟩
    · exact ⟨n, 0, by simp, h⟩

theorem mr_prime {p b : Nat} (h : Prm p) (h3 : 3 ≤ p) (hb : ¬ p ∣ b) : mrB p b = true := by
  have h2 := h.1
  obtain ⟨o, t, he, ho⟩ := odd_part (p - 1) (by omega)
  rw [mrB_at he ho]
  have hf : pw p b (o * 2 ^ t) = 1 := by rw [he]; exact fermat1 h hb
  clear he
  induction t with
  | zero => left; rwa [Nat.pow_zero, Nat.mul_one] at hf
  | succ t ih =>
    have e : o * 2 ^ (t + 1) = o * 2 ^ t + o * 2 ^ t := by rw [Nat.pow_succ, ← Nat.mul_assoc]; omega
    rw [e, ← pw_add] at hf
    rcases sqrt_one h (pw_lt (by omega) _ _) hf with h1 | h1
    · rcases ih h1 with h4 | ⟨i, hi, h4⟩
      · exact .inl h4
      · exact .inr ⟨i, by omega, h4⟩
    · exact .inr ⟨t, by omega, h1⟩
end Go.Proofs.YtaljcojkcgjmcaaGreatDoor.Num
namespace Go.Proofs.YtaljcojkcgjmcaaGreatDoor
open Go.RowKit Num

theorem two_lt {o t m : Nat} (h : o * 2 ^ t = m - 1) (hm : 3 ≤ m) : 1 ≤ o ∧ o < m ∧ t < m := by
  have o0 : o ≠ 0 := by rintro rfl; rw [Nat.zero_mul] at h; omega
  have h1 := Nat.lt_two_pow_self (n := t)
  have h2 := Nat.mul_le_mul (show 1 ≤ o by omega) (Nat.le_refl (2 ^ t))
  have h3 := Nat.mul_le_mul (Nat.le_refl o) (show 1 ≤ 2 ^ t by omega)
  omega
theorem pw_sq (m b o i : Nat) : pw m b (o * 2 ^ i) * pw m b (o * 2 ^ i) % m = pw m b (o * 2 ^ (i + 1)) := by
  rw [pw_add, show o * 2 ^ i + o * 2 ^ i = o * 2 ^ (i + 1) by rw [Nat.pow_succ, ← Nat.mul_assoc]; omega]

theorem wraps_u64_63 (n : Int) (h₀ : 0 ≤ n) (h₁ : n < 2 ^ 63) : IntKind.u64.wrap n = n := by rw [IntKind.wrap_u64]; omega
theorem and_1u (t : Nat) (ht : t < 9223372036854775808) : bits .and .u64 (t : Int) 1 = ((t % 2 : Nat) : Int) := by
  have h := bits_mask .u64 63 (by decide) wraps_u64_63 1 (by decide) (t : Int) (by omega) (by omega)
  have e : ((2 : Int) ^ 1 - 1) = 1 := by decide
  have e2 : ((2 : Int) ^ 1) = 2 := by decide
  rw [e, e2] at h
  rw [h]; omega

end Go.Proofs.YtaljcojkcgjmcaaGreatDoor
namespace Go.Proofs.YtaljcojkcgjmcaaGreatDoor
open Go.RowKit Num

theorem prm_mod {p b : Nat} (hp : Prm p) (hb : Prm b) (h : p ≠ b) : p % b ≠ 0 := by
  intro h0
  rcases hp.2 b (Nat.dvd_of_mod_eq_zero h0) with e | e
  · have := hb.1; omega
  · exact h e.symm
theorem prm_pw {p b : Nat} (hp : Prm p) (hb : Prm b) (h : p ≠ b) (o : Nat) : pw p b o ≠ 0 := by
  have hnd : ¬ p ∣ b := fun hd => by
    rcases hb.2 p hd with e | e
    · have := hp.1; omega
    · exact h e
  induction o with
  | zero => rw [pw_zero, Nat.mod_eq_of_lt (by have := hp.1; omega)]; decide
  | succ o ih =>
    intro h0
    have hd : p ∣ b ^ (o + 1) := Nat.dvd_of_mod_eq_zero h0
    rw [Nat.pow_succ] at hd
    rcases prm_dvd hp hd with d | d
    · exact ih (Nat.mod_eq_zero_of_dvd d)
    · exact hnd d
theorem prm_2 : Prm 2 := prm_of (f := 0) (by decide) (by kernel_rfl) (by decide)
theorem prm_3 : Prm 3 := prm_of (f := 1) (by decide) (by kernel_rfl) (by decide)
theorem prm_5 : Prm 5 := prm_of (f := 1) (by decide) (by kernel_rfl) (by decide)
theorem prm_7 : Prm 7 := prm_of (f := 1) (by decide) (by kernel_rfl) (by decide)
theorem prm_nd {p b : Nat} (hp : Prm p) (hb : Prm b) (h : p ≠ b) : ¬ p ∣ b := fun hd => by
  rcases hb.2 p hd with e | e
  · have := hp.1; omega
  · exact h e
theorem prm_odd {p : Nat} (hp : Prm p) (h : 3 ≤ p) : p % 2 = 1 := by
  have := prm_mod hp prm_2 (by omega); omega

end Go.Proofs.YtaljcojkcgjmcaaGreatDoor
namespace Go.Proofs.YtaljcojkcgjmcaaGreatDoor
open Go.RowKit Num

theorem cellOf {B : Nat} {w w' : World} (h : Below B w w') {a : Addr} {v : Value} (hc : w.cell? a = some v) (hB : w.heap.size ≤ B) : w'.cell? a = some v := by
  rw [h.cell (Nat.lt_of_lt_of_le (World.block_lt_of_cell? w a hc) hB)]
  exact hc
/-- A safe prime: it and twice it plus one are prime. -/
def SPrm (p : Nat) : Prop := Prm p ∧ Prm (2 * p + 1) ∧ 3 ≤ p ∧ p ≤ 1073741823
theorem safe_sprm {p : Nat} (h : Num.Safe p) : SPrm p := ⟨safe_prm h, safe_prm2 h, (safe_bd h).1, by have := (safe_bd h).2; omega⟩

end Go.Proofs.YtaljcojkcgjmcaaGreatDoor
namespace Go.Proofs.YtaljcojkcgjmcaaGreatDoor
open Go.RowKit Num

theorem only_of_below {a w : World} (h : Below a.heap.size a w) (row : Option Nat) : a.grownBy w row := ⟨h.os, h.tape, h.output, h.size, fun i hi _ => h.block i hi⟩
theorem only_drewN {a w : World} {row : Option Nat} (h : a.grownBy w row) (n : Nat) : a.grownBy (w.drewN n) row := ⟨h.os, h.tape, h.output, h.size, h.block⟩
theorem only_drew {a w : World} {row : Option Nat} (h : a.grownBy w row) : a.grownBy w.drew row := ⟨h.os, h.tape, h.output, h.size, h.block⟩
theorem only_alloc {a w : World} {row : Option Nat} (h : a.grownBy w row) (o : Obj) : a.grownBy (w.alloc o) row :=
  ⟨h.os, h.tape, h.output, Nat.le_trans h.size (by simp), fun i hi hne => (Below.heap_alloc w o i (Nat.lt_of_lt_of_le hi h.size)).trans (h.block i hi hne)⟩
theorem only_setCell {a w : World} {g : Nat} (h : a.grownBy w (some g)) {p : Addr} (hp : p.block = g ∨ a.heap.size ≤ p.block) (u : Value) : a.grownBy (w.setCell p u) (some g) :=
  ⟨h.os, h.tape, h.output, by simpa [World.setCell] using h.size, fun i hi hne => (Below.heap_setCell w p u i (by
    rintro rfl
    rcases hp with hp | hp
    · exact hne (by rw [hp])
    · omega)).trans (h.block i hi hne)⟩
/-- A rotation to the right. -/
def rot (x : Int) (n : Nat) : Int := bits .or .u32 (x * ((2 ^ (32 - n) : Nat) : Int) % 4294967296) (x / ((2 ^ n : Nat) : Int))
def rots : List Nat := [2, 6, 7, 11, 13, 17, 18, 19, 22, 25]

/-- A byte of a string. -/
def byteAt (b : ByteArray) (i : Nat) : Int := ((b.data[i]?).getD 0).toNat
theorem byteAt_bd (b : ByteArray) (i : Nat) : 0 ≤ byteAt b i ∧ byteAt b i < 256 := by
  have := ((b.data[i]?).getD 0).toNat_lt
  unfold byteAt; omega
theorem index_byte (b : ByteArray) (i : Nat) (h : i < b.size) (w : World) : (Instr.index 9 (.string b) (.int .i64 (i : Int))).run Tryz.prog w = .ok (.int .u8 (byteAt b i)) w := by
  rw [run_index_string w 9 b .i64 i Tryz.underlying9, dif_pos ⟨by omega, by omega⟩]
  have e : b.data[i]? = some (b[i]'h) := Array.getElem?_eq_getElem h
  unfold byteAt
  rw [e]
  rfl
/-- A word of four bytes. -/
def word4 (a b c d : Int) : Int := bits .or .u32 (bits .or .u32 (bits .or .u32 (a * 16777216) (b * 65536)) (c * 256)) d
def wordAt (b : ByteArray) (t : Nat) : Int := word4 (byteAt b (4 * t)) (byteAt b (4 * t + 1)) (byteAt b (4 * t + 2)) (byteAt b (4 * t + 3))

/-- Words in a row of cells. -/
structure Arr (w : World) (B n : Nat) (f : Nat → Int) : Prop where
  cell : ∀ i, i < n → w.cell? ⟨B, i, none⟩ = some (.int .u32 (f i))
  live : ∀ i, i < n → w.frozen? ⟨B, i, none⟩ = false
theorem Arr.set {w : World} {B n : Nat} {f g : Nat → Int} (h : Arr w B n f) {i : Nat} {v : Int} (hi : i < n) (hv : v = g i) (hg : ∀ j, j < n → j ≠ i → g j = f j) : Arr (w.setCell ⟨B, i, none⟩ (.int .u32 v)) B n g := by
  refine ⟨fun j hj => ?_, fun j hj => ?_⟩
  · by_cases hji : j = i
    · subst hji; rw [World.cell?_setCell_same _ _ _ (h.cell j hj), hv]
    · rw [World.cell?_setCell_other _ _ _ _ (by intro e; injection e with e1 e2; exact hji e2.symm), h.cell j hj, hg j hj hji]
  · rw [World.frozen?_setCell]; exact h.live j hj
theorem Arr.far {w : World} {B n : Nat} {f : Nat → Int} (h : Arr w B n f) {a : Addr} {v : Value} (ha : a.block ≠ B) : Arr (w.setCell a v) B n f := by
  refine ⟨fun j hj => ?_, fun j hj => ?_⟩
  · rw [World.cell?_setCell_other _ _ _ _ (by intro e; exact ha (by rw [e])), h.cell j hj]
  · rw [World.frozen?_setCell]; exact h.live j hj
theorem Arr.drew {w : World} {B n : Nat} {f : Nat → Int} (h : Arr w B n f) : Arr w.drew B n f := ⟨h.cell, h.live⟩
theorem Arr.drewN {w : World} {B n : Nat} {f : Nat → Int} (h : Arr w B n f) (k : Nat) : Arr (w.drewN k) B n f := ⟨h.cell, h.live⟩
theorem Arr.below {w w' : World} {B n m : Nat} {f : Nat → Int} (h : Arr w B n f) (hb : Below m w w') (hB : B < m) : Arr w' B n f :=
  ⟨fun j hj => by rw [hb.cell (by exact hB)]; exact h.cell j hj, fun j hj => by rw [hb.frozen (by exact hB)]; exact h.live j hj⟩
theorem Arr.alloc {w : World} {B n : Nat} {f : Nat → Int} (h : Arr w B n f) (hB : B < w.heap.size) (o : Obj) : Arr (w.alloc o) B n f :=
  h.below ((Below.refl _ _).alloc (Nat.le_refl _) _) hB

/-- The words of a block, so many of them laid. -/
def wds (b : ByteArray) (t : Nat) : Nat → Int := fun i => if i < t then wordAt b i else 0

/-- The next word of a schedule. -/
def stp (f : Nat → Int) (t : Nat) : Int :=
  (bits .xor .u32 (bits .xor .u32 (rot (f (t - 2)) 17) (rot (f (t - 2)) 19)) (f (t - 2) / 1024) + f (t - 7) + bits .xor .u32 (bits .xor .u32 (rot (f (t - 15)) 7) (rot (f (t - 15)) 18)) (f (t - 15) / 8) + f (t - 16)) % 4294967296
/-- The schedule, t words of it laid. -/
def sched (b : ByteArray) : Nat → Nat → Int
  | 0 => wds b 16
  | k + 1 => fun i => if i = 16 + k then stp (sched b k) (16 + k) else sched b k i

/-- One round: what is added, and the state behind it. -/
def rT1 (f : Nat → Int) (k w : Int) : Int := (f 7 + bits .xor .u32 (bits .xor .u32 (rot (f 4) 6) (rot (f 4) 11)) (rot (f 4) 25) + bits .xor .u32 (bits .and .u32 (f 4) (f 5)) (bits .and .u32 (bits .xor .u32 IntKind.u32.max (f 4)) (f 6)) + k + w) % 4294967296
def rT2 (f : Nat → Int) : Int := (bits .xor .u32 (bits .xor .u32 (rot (f 0) 2) (rot (f 0) 13)) (rot (f 0) 22) + bits .xor .u32 (bits .xor .u32 (bits .and .u32 (f 0) (f 1)) (bits .and .u32 (f 0) (f 2))) (bits .and .u32 (f 1) (f 2))) % 4294967296
def rndF (f : Nat → Int) (k w : Int) : Nat → Int
  | 0 => (rT1 f k w + rT2 f) % 4294967296
  | 1 => f 0
  | 2 => f 1
  | 3 => f 2
  | 4 => (f 3 + rT1 f k w) % 4294967296
  | 5 => f 4
  | 6 => f 5
  | _ => f 6

/-- The state behind so many rounds. -/
def rst (K W v : Nat → Int) : Nat → Nat → Int
  | 0 => v
  | t + 1 => rndF (rst K W v t) (K t) (W t)
/-- The old state and what was reckoned, added place by place, so many of them. -/
def fin (v r : Nat → Int) (t : Nat) : Nat → Int := fun i => if i < t then (v i + r i) % 4294967296 else v i
def compress (K v : Nat → Int) (b : ByteArray) : Nat → Int := fin v (rst K (sched b 48) v 64) 8

theorem Arr.congr {w : World} {B n : Nat} {f g : Nat → Int} (h : Arr w B n f) (e : ∀ i, i < n → f i = g i) : Arr w B n g :=
  ⟨fun i hi => by rw [h.cell i hi, e i hi], h.live⟩
def upd (f : Nat → Int) (i : Nat) (v : Int) : Nat → Int := fun j => if j = i then v else f j
theorem Arr.upd {w : World} {B n : Nat} {f : Nat → Int} (h : Arr w B n f) {i : Nat} (v : Int) (hi : i < n) : Arr (w.setCell ⟨B, i, none⟩ (.int .u32 v)) B n (upd f i v) :=
  h.set hi (if_pos rfl).symm fun j _ hj => if_neg hj
theorem set8_arr {w : World} {B : Nat} {f g : Nat → Int} (h : Arr w B 8 f) {a0 a1 a2 a3 a4 a5 a6 a7 : Int} (e0 : a0 = g 0) (e1 : a1 = g 1) (e2 : a2 = g 2) (e3 : a3 = g 3) (e4 : a4 = g 4) (e5 : a5 = g 5) (e6 : a6 = g 6) (e7 : a7 = g 7) :
    Arr ((((((((w.setCell ⟨B, 0, none⟩ (.int .u32 a0)).setCell ⟨B, 1, none⟩ (.int .u32 a1)).setCell ⟨B, 2, none⟩ (.int .u32 a2)).setCell ⟨B, 3, none⟩ (.int .u32 a3)).setCell ⟨B, 4, none⟩ (.int .u32 a4)).setCell ⟨B, 5, none⟩ (.int .u32 a5)).setCell ⟨B, 6, none⟩ (.int .u32 a6)).setCell ⟨B, 7, none⟩ (.int .u32 a7)) B 8 g := by
  subst e0 e1 e2 e3 e4 e5 e6 e7
  refine ((((((((h.upd _ (by omega)).upd _ (by omega)).upd _ (by omega)).upd _ (by omega)).upd _ (by omega)).upd _ (by omega)).upd _ (by omega)).upd _ (by omega)).congr fun i hi => ?_
  have : i = 0 ∨ i = 1 ∨ i = 2 ∨ i = 3 ∨ i = 4 ∨ i = 5 ∨ i = 6 ∨ i = 7 := by omega
  rcases this with rfl | rfl | rfl | rfl | rfl | rfl | rfl | rfl <;> rfl
theorem set8_far {w : World} {B C n : Nat} {f : Nat → Int} (h : Arr w C n f) (hne : B ≠ C) {a0 a1 a2 a3 a4 a5 a6 a7 : Value} :
    Arr ((((((((w.setCell ⟨B, 0, none⟩ a0).setCell ⟨B, 1, none⟩ a1).setCell ⟨B, 2, none⟩ a2).setCell ⟨B, 3, none⟩ a3).setCell ⟨B, 4, none⟩ a4).setCell ⟨B, 5, none⟩ a5).setCell ⟨B, 6, none⟩ a6).setCell ⟨B, 7, none⟩ a7) C n f :=
  (((((((h.far hne).far hne).far hne).far hne).far hne).far hne).far hne).far hne
theorem set8_below {w W : World} {B m : Nat} (h : Below m W w) (hB : m ≤ B) {a0 a1 a2 a3 a4 a5 a6 a7 : Value} :
    Below m W ((((((((w.setCell ⟨B, 0, none⟩ a0).setCell ⟨B, 1, none⟩ a1).setCell ⟨B, 2, none⟩ a2).setCell ⟨B, 3, none⟩ a3).setCell ⟨B, 4, none⟩ a4).setCell ⟨B, 5, none⟩ a5).setCell ⟨B, 6, none⟩ a6).setCell ⟨B, 7, none⟩ a7) :=
  (((((((h.setCell (p := ⟨B, 0, none⟩) hB _).setCell (p := ⟨B, 1, none⟩) hB _).setCell (p := ⟨B, 2, none⟩) hB _).setCell (p := ⟨B, 3, none⟩) hB _).setCell (p := ⟨B, 4, none⟩) hB _).setCell (p := ⟨B, 5, none⟩) hB _).setCell (p := ⟨B, 6, none⟩) hB _).setCell (p := ⟨B, 7, none⟩) hB _
theorem alloc8_arr (w : World) (v : Nat → Int) (T : TypeId) : Arr (w.alloc (.cells #[.int .u32 (v 0), .int .u32 (v 1), .int .u32 (v 2), .int .u32 (v 3), .int .u32 (v 4), .int .u32 (v 5), .int .u32 (v 6), .int .u32 (v 7)] T)) w.heap.size 8 v := by
  refine ⟨fun i hi => ?_, fun i hi => World.frozen?_alloc_new _ _ _ _⟩
  rw [World.cell?_alloc_new]
  have : i = 0 ∨ i = 1 ∨ i = 2 ∨ i = 3 ∨ i = 4 ∨ i = 5 ∨ i = 6 ∨ i = 7 := by omega
  rcases this with rfl | rfl | rfl | rfl | rfl | rfl | rfl | rfl <;> rfl
end Go.Proofs.YtaljcojkcgjmcaaGreatDoor

/- Contracts: the sum of two strings. Contracts: what a phrase is stretched to: the program's and the reference's. -/
import Derived.Test.YtjfphobfikadlaaGreatDoorZ28
import Derived.Test.YtjfphobfikadlaaGreatDoorZ25
import Derived.Test.YtjfphobfikadlaaGreatDoorZ34
set_option linter.unusedVariables false
set_option linter.unusedSimpArgs false
namespace Go.Proofs.YtjfphobfikadlaaGreatDoor
open Go.RowKit Num

/-- A number in four bytes. -/
def fourL (n : Nat) : List UInt8 := [UInt8.ofNat (n / 16777216), UInt8.ofNat (n / 65536 % 256), UInt8.ofNat (n / 256 % 256), UInt8.ofNat (n % 256)]
def fourB (n : Nat) : ByteArray := ⟨(fourL n).toArray⟩
theorem fourB_size (n : Nat) : (fourB n).size = 4 := rfl
def fourC (n : Nat) : Array Value := #[.int .u8 ((n : Int) / 16777216), .int .u8 ((n : Int) / 65536 % 256), .int .u8 ((n : Int) / 256 % 256), .int .u8 ((n : Int) % 256)]
set_option maxRecDepth 100000 in
theorem four_convert (n : Nat) (w : World) (h : n < 4294967296) :
    (convert 91 9 (.slice (some ⟨w.heap.size, 0, none⟩) 4 4)).run Tryz.prog (w.alloc (.cells (fourC n) 5)) = .ok (.string (fourB n)) (w.alloc (.cells (fourC n) 5)) := by
  have hb : Blk (w.alloc (.cells (fourC n) 5)) w.heap.size 5 (fourC n) := Blk.new w _ _
  have hcv := run_convert_bytes_arg (P := Tryz.prog) (w.alloc (.cells (fourC n) 5)) 91 5 Tryz.underlying91 Tryz.underlying5 w.heap.size 0 4 4
    [((n / 16777216 : Nat) : Int), ((n / 65536 % 256 : Nat) : Int), ((n / 256 % 256 : Nat) : Int), ((n % 256 : Nat) : Int)] rfl (fun i hi => by
      rw [Nat.zero_add]
      match i, hi with
      | 0, _ => rw [hb.cell 0]; show some (Value.int .u8 ((n : Int) / 16777216)) = _; congr 2
      | 1, _ => rw [hb.cell 1]; show some (Value.int .u8 ((n : Int) / 65536 % 256)) = _; congr 2
      | 2, _ => rw [hb.cell 2]; show some (Value.int .u8 ((n : Int) / 256 % 256)) = _; congr 2
      | 3, _ => rw [hb.cell 3]; show some (Value.int .u8 ((n : Int) % 256)) = _; congr 2) 9 Tryz.underlying9
  have hst : strOfNums [((n / 16777216 : Nat) : Int), ((n / 65536 % 256 : Nat) : Int), ((n / 256 % 256 : Nat) : Int), ((n % 256 : Nat) : Int)] = fourB n := rfl
  rwa [hst] at hcv
def FourPost (n : Nat) (w : World) (e : Ending) (w' : World) : Prop := e = .returned (.string (fourB n)) ∧ Below w.heap.size w w'
set_option maxRecDepth 100000 in
set_option maxHeartbeats 400000 in
theorem d_four (n : Nat) (w : World) (h : n < 4294967296) :
    Calls Tryz.prog 110 #[.int .i64 (n : Int)] w (FourPost n w) := by
  have hcv := four_convert n w h
  unfold fourC at hcv
  go_enter Tryz.func110, Tryz.ntmps110
  go_wp2_with fail
  go_ret
  exact ⟨rfl, (Below.refl _ _).alloc (Nat.le_refl _) _⟩
set_option maxRecDepth 100000 in
set_option maxHeartbeats 400000 in
theorem rf_Four (n : Nat) (w : World) (h : n < 4294967296) :
    Calls Tryz.prog 111 #[.int .i64 (n : Int)] w (FourPost n w) := by
  have hcv := four_convert n w h
  unfold fourC at hcv
  go_enter Tryz.func111, Tryz.ntmps111
  go_wp2_with fail
  go_ret
  exact ⟨rfl, (Below.refl _ _).alloc (Nat.le_refl _) _⟩
/-- What is summed of two strings. -/
def pairB (a b : ByteArray) : ByteArray := ⟨#[1]⟩ ++ fourB a.size ++ a ++ fourB b.size ++ b
def pairS (a b : ByteArray) : ByteArray := shaOf (pairB a b)
theorem pairS_size (a b : ByteArray) : (pairS a b).size = 32 := shaOf_size _
theorem pair_sizes (a b : ByteArray) : ((⟨#[1]⟩ : ByteArray) ++ fourB a.size).size = 5 ∧ ((⟨#[1]⟩ : ByteArray) ++ fourB a.size ++ a).size = 5 + a.size ∧ ((⟨#[1]⟩ : ByteArray) ++ fourB a.size ++ a ++ fourB b.size).size = 9 + a.size ∧ (pairB a b).size = 9 + a.size + b.size := by
  have z1 : ((⟨#[1]⟩ : ByteArray) ++ fourB a.size).size = 5 := by rw [ByteArray.size_append, fourB_size]; rfl
  have z2 : ((⟨#[1]⟩ : ByteArray) ++ fourB a.size ++ a).size = 5 + a.size := by rw [ByteArray.size_append, z1]
  have z3 : ((⟨#[1]⟩ : ByteArray) ++ fourB a.size ++ a ++ fourB b.size).size = 9 + a.size := by rw [ByteArray.size_append, z2, fourB_size]; omega
  exact ⟨z1, z2, z3, by unfold pairB; rw [ByteArray.size_append, z3]⟩
def PairPost (a b : ByteArray) (w : World) (e : Ending) (w' : World) : Prop := e = .returned (.string (pairS a b)) ∧ Below w.heap.size w w'
set_option maxRecDepth 100000 in
set_option maxHeartbeats 1000000 in
theorem d_Pair (a b : ByteArray) (w : World) (ha : a.size < 1000000000) (hb : b.size < 1000000000) :
    Calls Tryz.prog 58 #[.string a, .string b] w (PairPost a b w) := by
  obtain ⟨z1, z2, z3, z4⟩ := pair_sizes a b
  have f1 := fun W => d_four a.size W (by omega)
  have f2 := fun W => d_four b.size W (by omega)
  have s1 := fun W => d_Sum (pairB a b) W (by omega)
  obtain ⟨x, hx⟩ : ∃ x, fourB a.size = x := ⟨_, rfl⟩
  obtain ⟨y, hy⟩ : ∃ y, fourB b.size = y := ⟨_, rfl⟩
  have e4 : pairB a b = ⟨#[1]⟩ ++ x ++ a ++ y ++ b := by unfold pairB; rw [hx, hy]
  unfold FourPost at f1 f2
  rw [e4] at s1 z4
  rw [hx] at f1 z1 z2 z3
  rw [hy] at f2 z3
  have x4 : x.size = 4 := by rw [← hx]; rfl
  have y4 : y.size = 4 := by rw [← hy]; rfl
  have F1 := Lib.hid f1
  have F2 := Lib.hid f2
  have S1 := Lib.hid s1
  have E4 := Lib.hid e4
  have Z := Lib.hid (And.intro z1 (And.intro z2 (And.intro z3 z4)))
  clear f1 f2 s1 e4 hx hy z4
  go_enter Tryz.func58, Tryz.ntmps58
  go_wp2_with fail
  refine (F1.out _).mono ?_
  rintro e w1 ⟨rfl, hb1⟩
  have s1 := hb1.size
  go_wp2_with fail
  refine (F2.out _).mono ?_
  rintro e w2 ⟨rfl, hb2⟩
  have s2 := hb2.size
  go_wp2_with fail
  refine (S1.out _).mono ?_
  rintro e w3 ⟨rfl, hb3⟩
  go_wp2_with fail
  go_ret
  exact ⟨(by unfold pairS; rw [E4.out]; rfl), (hb1.trans (hb2.mono s1)).trans (hb3.mono (by omega))⟩
set_option maxRecDepth 100000 in
set_option maxHeartbeats 1000000 in
theorem rf_Pair (a b : ByteArray) (w : World) (ha : a.size < 1000000000) (hb : b.size < 1000000000) :
    Calls Tryz.prog 59 #[.string a, .string b] w (PairPost a b w) := by
  obtain ⟨z1, z2, z3, z4⟩ := pair_sizes a b
  have f1 := fun W => rf_Four a.size W (by omega)
  have f2 := fun W => rf_Four b.size W (by omega)
  have s1 := fun W => rf_Sum (pairB a b) W (by omega)
  obtain ⟨x, hx⟩ : ∃ x, fourB a.size = x := ⟨_, rfl⟩
  obtain ⟨y, hy⟩ : ∃ y, fourB b.size = y := ⟨_, rfl⟩
  have e4 : pairB a b = ⟨#[1]⟩ ++ x ++ a ++ y ++ b := by unfold pairB; rw [hx, hy]
  unfold FourPost at f1 f2
  rw [e4] at s1 z4
  rw [hx] at f1 z1 z2 z3
  rw [hy] at f2 z3
  have x4 : x.size = 4 := by rw [← hx]; rfl
  have y4 : y.size = 4 := by rw [← hy]; rfl
  have F1 := Lib.hid f1
  have F2 := Lib.hid f2
  have S1 := Lib.hid s1
  have E4 := Lib.hid e4
  have Z := Lib.hid (And.intro z1 (And.intro z2 (And.intro z3 z4)))
  clear f1 f2 s1 e4 hx hy z4
  go_enter Tryz.func59, Tryz.ntmps59
  go_wp2_with fail
  refine (F1.out _).mono ?_
  rintro e w1 ⟨rfl, hb1⟩
  have s1 := hb1.size
  go_wp2_with fail
  refine (F2.out _).mono ?_
  rintro e w2 ⟨rfl, hb2⟩
  have s2 := hb2.size
  go_wp2_with fail
  refine (S1.out _).mono ?_
  rintro e w3 ⟨rfl, hb3⟩
  go_wp2_with fail
  go_ret
  exact ⟨(by unfold pairS; rw [E4.out]; rfl), (hb1.trans (hb2.mono s1)).trans (hb3.mono (by omega))⟩
end Go.Proofs.YtjfphobfikadlaaGreatDoor
namespace Go.Proofs.YtjfphobfikadlaaGreatDoor
open Go.RowKit Num

/-- The sums one behind the other. -/
def strS (phrase salt : ByteArray) : Nat → ByteArray
  | 0 => pairS salt phrase
  | n + 1 => pairS (strS phrase salt n) phrase
theorem strS_size (phrase salt : ByteArray) : ∀ n, (strS phrase salt n).size = 32
  | 0 => pairS_size _ _
  | _ + 1 => pairS_size _ _
def strE (phrase salt : ByteArray) (n : Int) : Int :=
  if n < 0 ∨ 1000 < n then 2 else if 256 < phrase.size ∨ 256 < salt.size then 3 else if phrase.size = 0 then 4 else 0
def strR (phrase salt : ByteArray) (n : Int) : ByteArray :=
  if strE phrase salt n = 0 then (strS phrase salt n.toNat).extract 0 16 else ⟨#[]⟩
def StretchPost (phrase salt : ByteArray) (n : Int) (w : World) (e : Ending) (w' : World) : Prop :=
  e = .returned (.tuple #[.string (strR phrase salt n), .int .i64 (strE phrase salt n)]) ∧ Below w.heap.size w w'
theorem r_In (n a b : Int) (w : World) :
    Calls Tryz.prog 57 #[.int .i64 n, .int .i64 a, .int .i64 b] w fun e w' => e = .returned (.bool (decide (a ≤ n) && decide (n ≤ b))) ∧ w = w' := by
  rcases (show (n < a) ∨ (a ≤ n ∧ b < n) ∨ (a ≤ n ∧ n ≤ b) by omega) with h | ⟨h, h'⟩ | ⟨h, h'⟩
  · have t1 : decide (a ≤ n) = false := decide_eq_false (by omega)
    rw [t1]
    go_enter Tryz.func57, Tryz.ntmps57
    go_wp2_with fail
    go_ret
    exact ⟨rfl, rfl⟩
  · have t1 : decide (a ≤ n) = true := decide_eq_true h
    have t2 : decide (n ≤ b) = false := decide_eq_false (by omega)
    rw [t1, t2]
    go_enter Tryz.func57, Tryz.ntmps57
    go_wp2_with fail
    go_ret
    exact ⟨rfl, rfl⟩
  · have t1 : decide (a ≤ n) = true := decide_eq_true h
    have t2 : decide (n ≤ b) = true := decide_eq_true h'
    rw [t1, t2]
    go_enter Tryz.func57, Tryz.ntmps57
    go_wp2_with fail
    go_ret
    exact ⟨rfl, rfl⟩
set_option maxRecDepth 100000 in
set_option maxHeartbeats 1000000 in
theorem f_Stretch (phrase salt : ByteArray) (n : Int) (w : World) (h1 : phrase.size ≤ 1000) (h2 : salt.size ≤ 1000) :
    Calls Tryz.prog 12 #[.string phrase, .string salt, .int .i64 n] w (StretchPost phrase salt n w) := by
  unfold StretchPost
  have hp0 := fun W => d_Pair salt phrase W (by omega) (by omega)
  have hp1 := fun k W => d_Pair (strS phrase salt k) phrase W (by rw [strS_size]; omega) (by omega)
  have hin := fun W => r_In n 0 1000 W
  have hsz := strS_size phrase salt
  have HSZ := Lib.hid hsz
  have HP0 := Lib.hid hp0
  have HP1 := Lib.hid hp1
  clear hp0 hp1 hsz
  by_cases c1 : n < 0 ∨ 1000 < n
  · have e1 : (decide (0 ≤ n) && decide (n ≤ 1000)) = false := by
      rw [Bool.and_eq_false_iff]; rcases c1 with c | c
      · left; exact decide_eq_false (by omega)
      · right; exact decide_eq_false (by omega)
    have e2 : strE phrase salt n = 2 := by unfold strE; rw [if_pos c1]
    have e3 : strR phrase salt n = ⟨#[]⟩ := by unfold strR; rw [if_neg (by rw [e2]; decide)]
    rw [e2, e3]
    rw [e1] at hin
    have HIN := Lib.hid hin
    clear hin e1 e2 e3 c1
    go_enter Tryz.func12, Tryz.ntmps12
    go_wp2_with fail
    refine (HIN.out _).mono ?_
    rintro e w' ⟨rfl, rfl⟩
    go_wp2_with fail
    go_ret2
    exact ⟨rfl, Below.refl _ _⟩
  · have e1 : (decide (0 ≤ n) && decide (n ≤ 1000)) = true := by
      rw [Bool.and_eq_true]; exact ⟨decide_eq_true (by omega), decide_eq_true (by omega)⟩
    rw [e1] at hin
    have HIN := Lib.hid hin
    clear hin e1
    by_cases c2 : 256 < phrase.size ∨ 256 < salt.size
    · have e2 : strE phrase salt n = 3 := by unfold strE; rw [if_neg c1, if_pos c2]
      have e3 : strR phrase salt n = ⟨#[]⟩ := by unfold strR; rw [if_neg (by rw [e2]; decide)]
      rw [e2, e3]
      clear e2 e3 c1
      rcases (show (256 < phrase.size) ∨ (¬ 256 < phrase.size ∧ 256 < salt.size) by omega) with d | ⟨d, d'⟩
      · have t1 : decide ((256 : Int) < (phrase.size : Int)) = true := decide_eq_true (by omega)
        clear c2 d
        go_enter Tryz.func12, Tryz.ntmps12
        go_wp2_with fail
        refine (HIN.out _).mono ?_
        rintro e w' ⟨rfl, rfl⟩
        go_wp2_with fail
        go_ret2
        exact ⟨rfl, Below.refl _ _⟩
      · have t1 : decide ((256 : Int) < (phrase.size : Int)) = false := decide_eq_false (by omega)
        have t2 : decide ((256 : Int) < (salt.size : Int)) = true := decide_eq_true (by omega)
        clear c2 d d'
        go_enter Tryz.func12, Tryz.ntmps12
        go_wp2_with fail
        refine (HIN.out _).mono ?_
        rintro e w' ⟨rfl, rfl⟩
        go_wp2_with fail
        go_ret2
        exact ⟨rfl, Below.refl _ _⟩
    · have t1 : decide ((256 : Int) < (phrase.size : Int)) = false := decide_eq_false (by omega)
      have t2 : decide ((256 : Int) < (salt.size : Int)) = false := decide_eq_false (by omega)
      by_cases c3 : phrase.size = 0
      · have e2 : strE phrase salt n = 4 := by unfold strE; rw [if_neg c1, if_neg c2, if_pos c3]
        have e3 : strR phrase salt n = ⟨#[]⟩ := by unfold strR; rw [if_neg (by rw [e2]; decide)]
        have hb : phrase.toList.isEmpty = true := str_empty c3
        rw [e2, e3]
        clear e2 e3 c1 c2 c3
        go_enter Tryz.func12, Tryz.ntmps12
        go_wp2_with fail
        refine (HIN.out _).mono ?_
        rintro e w' ⟨rfl, rfl⟩
        go_wp2_with fail
        go_ret2
        exact ⟨rfl, Below.refl _ _⟩
      · have e2 : strE phrase salt n = 0 := by unfold strE; rw [if_neg c1, if_neg c2, if_neg c3]
        have e3 : strR phrase salt n = (strS phrase salt n.toNat).extract 0 16 := by unfold strR; rw [if_pos e2]
        have hb : phrase.toList.isEmpty = false := str_full (by omega)
        rw [e2, e3]
        obtain ⟨m, rfl⟩ := Int.eq_ofNat_of_zero_le (show 0 ≤ n by omega)
        have hm : m ≤ 1000 := by omega
        simp only [Int.toNat_natCast]
        clear e2 e3 c1 c2 c3
        go_enter Tryz.func12, Tryz.ntmps12
        go_wp2_with fail
        refine (HIN.out _).mono ?_
        rintro e w' ⟨rfl, rfl⟩
        go_wp2_with fail
        refine (HP0.out _).mono ?_
        rintro e w1 ⟨rfl, hb1⟩
        have HB1 := Lib.hid hb1
        clear hb1
        go_wp2_with fail
        go_loopw [8, 29] (fun x t wr => ∃ k : Nat, k ≤ m ∧ t = .int .i64 (k : Int) ∧ x = .string (strS phrase salt k) ∧ Below w.heap.size w wr) (fun _ t _ => m - (intOf t).toNat)
        case atStart => exact ⟨0, by omega, rfl, rfl, HB1.out⟩
        case round =>
          obtain ⟨k, hk, rfl, rfl, hbl⟩ := hrel
          have HBL := Lib.hid hbl
          clear hbl
          by_cases hlt : k < m
          · have qk : (k : Int) < (m : Int) := by omega
            go_wp2_with fail
            refine (HP1.out k _).mono ?_
            rintro e w2 ⟨rfl, hb2⟩
            have HB2 := Lib.hid (HBL.out.trans (hb2.mono HBL.out.size))
            clear hb2
            go_wp2_with fail
            go_roundw
            case measure => simp [intOf]; omega
            case rel => exact ⟨k + 1, by omega, by go_num, rfl, HB2.out⟩
          · have hkm : k = m := by omega
            subst hkm
            have hs := HSZ.out k
            go_wp2_with fail
            go_ret2
            exact ⟨rfl, HBL.out⟩
set_option maxRecDepth 100000 in
set_option maxHeartbeats 1000000 in
theorem r_Stretch (phrase salt : ByteArray) (n : Int) (w : World) (h1 : phrase.size ≤ 1000) (h2 : salt.size ≤ 1000) :
    Calls Tryz.prog 13 #[.string phrase, .string salt, .int .i64 n] w (StretchPost phrase salt n w) := by
  unfold StretchPost
  have hp0 := fun W => rf_Pair salt phrase W (by omega) (by omega)
  have hp1 := fun k W => rf_Pair (strS phrase salt k) phrase W (by rw [strS_size]; omega) (by omega)
  have hsz := strS_size phrase salt
  have HSZ := Lib.hid hsz
  have HP0 := Lib.hid hp0
  have HP1 := Lib.hid hp1
  clear hp0 hp1 hsz
  by_cases c1 : n < 0 ∨ 1000 < n
  · have e2 : strE phrase salt n = 2 := by unfold strE; rw [if_pos c1]
    have e3 : strR phrase salt n = ⟨#[]⟩ := by unfold strR; rw [if_neg (by rw [e2]; decide)]
    rw [e2, e3]
    clear e2 e3
    rcases (show (n < 0) ∨ (¬ n < 0 ∧ 1000 < n) by omega) with d | ⟨d, d'⟩
    · have t1 : decide (n < 0) = true := decide_eq_true d
      clear c1
      go_enter Tryz.func13, Tryz.ntmps13
      go_wp2_with fail
      go_ret2
      exact ⟨rfl, Below.refl _ _⟩
    · have t1 : decide (n < 0) = false := decide_eq_false d
      have t2 : decide (1000 < n) = true := decide_eq_true d'
      clear c1
      go_enter Tryz.func13, Tryz.ntmps13
      go_wp2_with fail
      go_ret2
      exact ⟨rfl, Below.refl _ _⟩
  · have u1 : decide (n < 0) = false := decide_eq_false (by omega)
    have u2 : decide (1000 < n) = false := decide_eq_false (by omega)
    by_cases c2 : 256 < phrase.size ∨ 256 < salt.size
    · have e2 : strE phrase salt n = 3 := by unfold strE; rw [if_neg c1, if_pos c2]
      have e3 : strR phrase salt n = ⟨#[]⟩ := by unfold strR; rw [if_neg (by rw [e2]; decide)]
      rw [e2, e3]
      clear e2 e3 c1
      rcases (show (256 < phrase.size) ∨ (¬ 256 < phrase.size ∧ 256 < salt.size) by omega) with d | ⟨d, d'⟩
      · have t1 : decide ((256 : Int) < (phrase.size : Int)) = true := decide_eq_true (by omega)
        clear c2 d
        go_enter Tryz.func13, Tryz.ntmps13
        go_wp2_with fail
        go_ret2
        exact ⟨rfl, Below.refl _ _⟩
      · have t1 : decide ((256 : Int) < (phrase.size : Int)) = false := decide_eq_false (by omega)
        have t2 : decide ((256 : Int) < (salt.size : Int)) = true := decide_eq_true (by omega)
        clear c2 d d'
        go_enter Tryz.func13, Tryz.ntmps13
        go_wp2_with fail
        go_ret2
        exact ⟨rfl, Below.refl _ _⟩
    · have t1 : decide ((256 : Int) < (phrase.size : Int)) = false := decide_eq_false (by omega)
      have t2 : decide ((256 : Int) < (salt.size : Int)) = false := decide_eq_false (by omega)
      by_cases c3 : phrase.size = 0
      · have e2 : strE phrase salt n = 4 := by unfold strE; rw [if_neg c1, if_neg c2, if_pos c3]
        have e3 : strR phrase salt n = ⟨#[]⟩ := by unfold strR; rw [if_neg (by rw [e2]; decide)]
        have hb : phrase.toList.isEmpty = true := str_empty c3
        rw [e2, e3]
        clear e2 e3 c1 c2 c3
        go_enter Tryz.func13, Tryz.ntmps13
        go_wp2_with fail
        go_ret2
        exact ⟨rfl, Below.refl _ _⟩
      · have e2 : strE phrase salt n = 0 := by unfold strE; rw [if_neg c1, if_neg c2, if_neg c3]
        have e3 : strR phrase salt n = (strS phrase salt n.toNat).extract 0 16 := by unfold strR; rw [if_pos e2]
        have hb : phrase.toList.isEmpty = false := str_full (by omega)
        rw [e2, e3]
        obtain ⟨m, rfl⟩ := Int.eq_ofNat_of_zero_le (show 0 ≤ n by omega)
        have hm : m ≤ 1000 := by omega
        simp only [Int.toNat_natCast]
        clear e2 e3 c1 c2 c3 u1 u2
        have u1 : decide ((m : Int) < 0) = false := decide_eq_false (by omega)
        have u2 : decide (1000 < (m : Int)) = false := decide_eq_false (by omega)
        go_enter Tryz.func13, Tryz.ntmps13
        go_wp2_with fail
        refine (HP0.out _).mono ?_
        rintro e w1 ⟨rfl, hb1⟩
        have HB1 := Lib.hid hb1
        clear hb1
        go_wp2_with fail
        go_loopw [8, 9] (fun x t wr => ∃ k : Nat, k ≤ m ∧ t = .int .i64 (k : Int) ∧ x = .string (strS phrase salt k) ∧ Below w.heap.size w wr) (fun _ t _ => m - (intOf t).toNat)
        case atStart => exact ⟨0, by omega, rfl, rfl, HB1.out⟩
        case round =>
          obtain ⟨k, hk, rfl, rfl, hbl⟩ := hrel
          have HBL := Lib.hid hbl
          clear hbl
          by_cases hlt : k < m
          · have qk : (k : Int) < (m : Int) := by omega
            go_wp2_with fail
            refine (HP1.out k _).mono ?_
            rintro e w2 ⟨rfl, hb2⟩
            have HB2 := Lib.hid (HBL.out.trans (hb2.mono HBL.out.size))
            clear hb2
            go_wp2_with fail
            go_roundw
            case measure => simp [intOf]; omega
            case rel => exact ⟨k + 1, by omega, by go_num, rfl, HB2.out⟩
          · have hkm : k = m := by omega
            subst hkm
            have hs := HSZ.out k
            go_wp2_with fail
            go_ret2
            exact ⟨rfl, HBL.out⟩
end Go.Proofs.YtjfphobfikadlaaGreatDoor

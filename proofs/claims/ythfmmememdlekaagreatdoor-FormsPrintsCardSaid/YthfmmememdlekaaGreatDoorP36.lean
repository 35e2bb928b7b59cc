/- Plain: the reference's reading of a condition is the program's: its test of a term, its walk over the terms, its text. Contracts: the reference's test of a term (printed by gen_fmrt.py). Plain: the trees of a term's arguments, by their numbers. -/
import Derived.Test.YthfmmememdlekaaGreatDoorP07
import Derived.Test.YthfmmememdlekaaGreatDoorP35
import Derived.Test.YthfmmememdlekaaGreatDoorP15
set_option linter.unusedVariables false
set_option linter.unusedSimpArgs false
namespace Go.Proofs.YthfmmememdlekaaGreatDoor
open Go.RowKit Num

/-- The reference's test of a term. -/
def rtermB (t : Trm) : Bool :=
  let counted := betwB t.num 64
  let plain := decide (t.yrs = 0 ∧ t.field.size = 0 ∧ t.text.size = 0)
  if t.kind = 1 ∨ t.kind = 2 then decide (2 ≤ t.args.length) && decide (t.num = 0) && plain
  else if t.kind = 3 ∨ t.kind = 4 then decide (t.args.length = 0) && counted && plain
  else if t.kind = 5 then decide (t.args.length = 0) && counted && decide (0 ≤ t.yrs ∧ t.yrs ≤ 100) && decide (t.field.size = 0 ∧ t.text.size = 0)
  else if t.kind = 6 ∨ t.kind = 8 then decide (t.args.length = 0) && decide (t.num = 0) && plain
  else if t.kind = 7 then decide (t.args.length = 0) && counted && decide (t.yrs = 0) && nameB (blOf t.field) && betwB t.text.size 256 && !(blOf t.text).contains 34
  else false
theorem rterm_eq (t : Trm) : rtermB t = (bareB t && argsOk t) := by
  have hsev : severalB t.kind = decide (t.kind = 1 ∨ t.kind = 2) := rfl
  rw [Bool.eq_iff_iff]
  unfold rtermB bareB argsOk
  rw [hsev]
  simp only
  by_cases c1 : t.kind = 1 ∨ t.kind = 2
  · have c1' : t.kind = 1 ∨ t.kind = 2 ∨ t.kind = 6 ∨ t.kind = 8 := by omega
    rw [if_pos c1, if_pos c1']
    simp only [c1, Bool.and_eq_true, decide_eq_true_eq, decide_true, beq_iff_eq, ne_eq]
    constructor
    · rintro ⟨⟨h1, h2⟩, h3, h4, h5⟩
      exact ⟨⟨h2, h3, h4, h5⟩, (decide_eq_true (by omega : 0 < t.args.length)).symm, by omega⟩
    · rintro ⟨⟨h2, h3, h4, h5⟩, h6, h7⟩
      have := of_decide_eq_true h6.symm
      exact ⟨⟨by omega, h2⟩, h3, h4, h5⟩
  · rw [if_neg c1]
    have hs : decide (t.kind = 1 ∨ t.kind = 2) = false := decide_eq_false c1
    rw [hs]
    have harg : ((false == decide (0 < t.args.length)) && decide (t.args.length ≠ 1)) = true ↔ t.args.length = 0 := by
      simp only [Bool.and_eq_true, beq_iff_eq, decide_eq_true_eq]
      constructor
      · rintro ⟨h1, _⟩
        have := of_decide_eq_false h1.symm
        omega
      · intro h
        exact ⟨(decide_eq_false (by omega)).symm, by omega⟩
    rw [Bool.and_eq_true, harg]
    by_cases c3 : t.kind = 3 ∨ t.kind = 4
    · rw [if_pos c3, if_neg (by omega), if_pos c3]
      simp only [Bool.and_eq_true, decide_eq_true_eq]
      constructor
      · rintro ⟨⟨h1, h2⟩, h3⟩; exact ⟨⟨h2, h3⟩, h1⟩
      · rintro ⟨⟨h2, h3⟩, h1⟩; exact ⟨⟨h1, h2⟩, h3⟩
    · rw [if_neg c3]
      by_cases c5 : t.kind = 5
      · rw [if_pos c5, if_neg (by omega), if_neg c3, if_pos c5]
        simp only [Bool.and_eq_true, decide_eq_true_eq]
        constructor
        · rintro ⟨⟨⟨h1, h2⟩, h3⟩, h4⟩; exact ⟨⟨h2, h3.1, h3.2, h4.1, h4.2⟩, h1⟩
        · rintro ⟨⟨h2, h3, h4, h5, h6⟩, h1⟩; exact ⟨⟨⟨h1, h2⟩, h3, h4⟩, h5, h6⟩
      · rw [if_neg c5]
        by_cases c6 : t.kind = 6 ∨ t.kind = 8
        · rw [if_pos c6, if_pos (by omega)]
          simp only [Bool.and_eq_true, decide_eq_true_eq]
          constructor
          · rintro ⟨⟨h1, h2⟩, h3⟩; exact ⟨⟨h2, h3⟩, h1⟩
          · rintro ⟨⟨h2, h3⟩, h1⟩; exact ⟨⟨h1, h2⟩, h3⟩
        · rw [if_neg c6]
          by_cases c7 : t.kind = 7
          · rw [if_pos c7, if_neg (by omega), if_neg c3, if_neg c5, if_pos c7]
            simp only [Bool.and_eq_true, decide_eq_true_eq]
            constructor
            · rintro ⟨⟨⟨⟨⟨h1, h2⟩, h3⟩, h4⟩, h5⟩, h6⟩; exact ⟨⟨⟨⟨⟨h2, h4⟩, h5⟩, h6⟩, h3⟩, h1⟩
            · rintro ⟨⟨⟨⟨⟨h2, h4⟩, h5⟩, h6⟩, h3⟩, h1⟩; exact ⟨⟨⟨⟨⟨h1, h2⟩, h3⟩, h4⟩, h5⟩, h6⟩
          · rw [if_neg c7, if_neg (by omega), if_neg c3, if_neg c5, if_neg c7]
            simp
/-- What the reference's walk gives: the number of the term behind, or -1. -/
def walkI (o : Option (Tree × Nat)) : Int := match o with
  | none => -1
  | some (_, n) => (n : Int)
theorem walk_whole {L : List Trm} : (decide (1 ≤ L.length) && decide (L.length ≤ 24) && decide (walkI (growF L 6 0) = (L.length : Int))) = (rootF L).isSome := by
  unfold rootF
  by_cases h24 : L.length ≤ 24
  · rw [if_pos h24]
    rcases hg : growF L 6 0 with _ | ⟨T, n⟩
    · have e : walkI (none : Option (Tree × Nat)) = -1 := rfl
      rw [e]
      have : ¬ (-1 : Int) = (L.length : Int) := by omega
      simp [this]
    · have e : walkI (some (T, n)) = (n : Int) := rfl
      rw [e]
      have h1 := (flat_grow 6 hg).2
      by_cases hn : n = L.length
      · simp only [hn, if_true]
        have : 1 ≤ L.length := by omega
        simp [h24, this]
      · simp only [if_neg hn]
        have : ¬ (n : Int) = (L.length : Int) := by omega
        simp [this]
  · rw [if_neg h24]
    simp [h24]
end Go.Proofs.YthfmmememdlekaaGreatDoor
namespace Go.Proofs.YthfmmememdlekaaGreatDoor
open Go.RowKit Num

/-- No years, no field, no text. -/
def plainB (y : Int) (f x : ByteArray) : Bool := decide (y = 0 ∧ f.size = 0 ∧ x.size = 0)
theorem ne_empty {s : ByteArray} (h : s.size ≠ 0) : (s.toList == []) = false ∧ ¬ s.toList = [] ∧ (!s.toList.isEmpty) = true := by
  rw [ByteArray.toList_eq]
  cases hl : s.data.toList with
  | nil => exact absurd (by rw [← blOf_len]; show s.data.toList.length = 0; rw [hl]; rfl) h
  | cons a r => exact ⟨rfl, by simp, rfl⟩
theorem eq_empty {s : ByteArray} (h : s.size = 0) : s = ⟨#[]⟩ := blOf_inj (List.eq_nil_of_length_eq_zero (by rw [blOf_len]; exact h))
theorem contains_quote (x : ByteArray) (w : World) : Calls Tryz.prog 141 #[.string x, .string ⟨#[34]⟩] w fun e w' => e = .returned (.bool ((blOf x).contains 34)) ∧ w' = w := by
  refine (Tryz.strings_Contains_one x 34 w).mono ?_
  rintro e w' ⟨rfl, rfl⟩
  exact ⟨congrArg (fun b => Ending.returned (.bool b)) (indexByte_has _ _), rfl⟩
set_option maxRecDepth 100000 in
set_option maxHeartbeats 4000000 in
theorem r_term (k n y : Int) (f x : ByteArray) (A : Option Addr) (m c : Nat) (args : List Int) (w : World) (hm : m = args.length) (hf : f.size ≤ 4294967296) (hx : x.size ≤ 4294967296) (hl : LibOk w) (hsp : SpcOk w) :
    Calls Tryz.prog 108 #[.agg #[.int .i64 k, .int .i64 n, .int .i64 y, .string f, .string x, .slice A m c]] w (BoolBel (rtermB ⟨k, n, y, f, x, args⟩) w) := by
  have hb1 : Below w.heap.size w (w.alloc (.cells #[.int .i64 k, .int .i64 n, .int .i64 y, .string f, .string x, .slice A m c] 29)) := (Below.refl _ _).alloc (Nat.le_refl _) _
  have hs1 : SpcOk (w.alloc (.cells #[.int .i64 k, .int .i64 n, .int .i64 y, .string f, .string x, .slice A m c] 29)) := spc_below hsp (by have := hl.size; show (0 : Nat) < _; omega) hb1
  have HB1 := Lib.hid hb1
  have HS1 := Lib.hid hs1
  have e : rtermB ⟨k, n, y, f, x, args⟩ = (if k = 1 ∨ k = 2 then decide (2 ≤ m) && decide (n = 0) && plainB y f x
    else if k = 3 ∨ k = 4 then decide (m = 0) && betwB n 64 && plainB y f x
    else if k = 5 then decide (m = 0) && betwB n 64 && decide (0 ≤ y ∧ y ≤ 100) && decide (f.size = 0 ∧ x.size = 0)
    else if k = 6 ∨ k = 8 then decide (m = 0) && decide (n = 0) && plainB y f x
    else if k = 7 then decide (m = 0) && betwB n 64 && decide (y = 0) && nameB (blOf f) && betwB x.size 256 && !(blOf x).contains 34
    else false) := by rw [hm]; rfl
  have E := Lib.hid e
  clear e hs1 hb1 hsp hm
  go_enter Tryz.func108, Tryz.ntmps108
  go_upto_region 1 with (fail)
  go_cut [3] from 5 to 13 (fun a wx => a = .bool (betwB n 64) ∧ wx = (w.alloc (.cells #[.int .i64 k, .int .i64 n, .int .i64 y, .string f, .string x, .slice A m c] 29)))
  case first =>
    clear E HS1 HB1
    have hbw : betwB n 64 = decide (1 ≤ n ∧ n ≤ 64) := rfl
    have HBW := Lib.hid hbw
    clear hbw
    by_cases c1 : 1 ≤ n
    · by_cases c2 : n ≤ 64
      · go_wp2_with fail
        go_meet
        exact ⟨by rw [HBW.out]; simp; omega, rfl⟩
      · go_wp2_with fail
        go_meet
        exact ⟨by rw [HBW.out]; simp; omega, rfl⟩
    · go_wp2_with fail
      go_meet
      exact ⟨by rw [HBW.out]; simp; omega, rfl⟩
  case rest =>
  obtain ⟨rfl, rfl⟩ := hcut
  obtain ⟨cb, hcb⟩ : ∃ b, betwB n 64 = b := ⟨_, rfl⟩
  rw [hcb]
  have HCB := Lib.hid hcb
  clear hcb
  go_upto_region 2 with (fail)
  go_cut [4] from 13 to 26 (fun b wx => b = .bool (plainB y f x) ∧ wx = (w.alloc (.cells #[.int .i64 k, .int .i64 n, .int .i64 y, .string f, .string x, .slice A m c] 29)))
  case first =>
    clear E HS1 HB1
    by_cases hy : y = 0
    · subst hy
      by_cases hfz : f.size = 0
      · obtain rfl := eq_empty hfz
        by_cases hxz : x.size = 0
        · obtain rfl := eq_empty hxz
          go_wp2_with fail
          go_meet
          exact ⟨by simp [plainB]; rfl, rfl⟩
        · obtain ⟨z1, z2, z3⟩ := ne_empty hxz
          go_wp2_with fail
          go_meet
          exact ⟨by simp [plainB, hxz], rfl⟩
      · obtain ⟨z1, z2, z3⟩ := ne_empty hfz
        go_wp2_with fail
        go_meet
        exact ⟨by simp [plainB, hfz], rfl⟩
    · have hyb : (y == 0) = false := by simp [hy]
      go_wp2_with fail
      go_meet
      exact ⟨by simp [plainB, hy], rfl⟩
  case rest =>
    obtain ⟨rfl, rfl⟩ := hcut
    obtain ⟨pb, hpb⟩ : ∃ b, plainB y f x = b := ⟨_, rfl⟩
    rw [hpb]
    have HPB := Lib.hid hpb
    clear hpb
    by_cases k1 : k = 1
    · obtain rfl := k1
      by_cases hm2 : 2 ≤ m
      · have hm3 : (2 : Int) ≤ (m : Int) := by omega
        by_cases hn0 : n = 0
        · subst hn0
          cases pb
          · skip
            go_wp2_with fail
            go_ret
            exact ⟨by rw [E.out]; simp [HCB.out, HPB.out, hm2] <;> (intros; omega), HB1.out⟩
          · skip
            go_wp2_with fail
            go_ret
            exact ⟨by rw [E.out]; simp [HCB.out, HPB.out, hm2] <;> (intros; omega), HB1.out⟩
        · have hn1 : (n == 0) = false := by simp [hn0]
          go_wp2_with fail
          go_ret
          exact ⟨by rw [E.out]; simp [HCB.out, HPB.out, hm2, hn0] <;> (intros; omega), HB1.out⟩
      · have hm3 : ¬ (2 : Int) ≤ (m : Int) := by omega
        go_wp2_with fail
        go_ret
        exact ⟨by rw [E.out]; simp [HCB.out, HPB.out, hm2] <;> (intros; omega), HB1.out⟩
    have kb1 : (k == 1) = false := by simp [k1]
    by_cases k2 : k = 2
    · obtain rfl := k2
      by_cases hm2 : 2 ≤ m
      · have hm3 : (2 : Int) ≤ (m : Int) := by omega
        by_cases hn0 : n = 0
        · subst hn0
          cases pb
          · skip
            go_wp2_with fail
            go_ret
            exact ⟨by rw [E.out]; simp [HCB.out, HPB.out, hm2] <;> (intros; omega), HB1.out⟩
          · skip
            go_wp2_with fail
            go_ret
            exact ⟨by rw [E.out]; simp [HCB.out, HPB.out, hm2] <;> (intros; omega), HB1.out⟩
        · have hn1 : (n == 0) = false := by simp [hn0]
          go_wp2_with fail
          go_ret
          exact ⟨by rw [E.out]; simp [HCB.out, HPB.out, hm2, hn0] <;> (intros; omega), HB1.out⟩
      · have hm3 : ¬ (2 : Int) ≤ (m : Int) := by omega
        go_wp2_with fail
        go_ret
        exact ⟨by rw [E.out]; simp [HCB.out, HPB.out, hm2] <;> (intros; omega), HB1.out⟩
    have kb2 : (k == 2) = false := by simp [k2]
    by_cases k3 : k = 3
    · obtain rfl := k3
      by_cases hm0 : m = 0
      · subst hm0
        cases cb
        · skip
          go_wp2_with fail
          go_ret
          exact ⟨by rw [E.out]; simp [HCB.out, HPB.out] <;> (intros; omega), HB1.out⟩
        · skip
          cases pb
          · skip
            go_wp2_with fail
            go_ret
            exact ⟨by rw [E.out]; simp [HCB.out, HPB.out] <;> (intros; omega), HB1.out⟩
          · skip
            go_wp2_with fail
            go_ret
            exact ⟨by rw [E.out]; simp [HCB.out, HPB.out] <;> (intros; omega), HB1.out⟩
      · have hm1 : ((m : Int) == 0) = false := by simp; omega
        have hm2 : ¬ (m : Int) = 0 := by omega
        go_wp2_with fail
        go_ret
        exact ⟨by rw [E.out]; simp [HCB.out, HPB.out, hm0] <;> (intros; omega), HB1.out⟩
    have kb3 : (k == 3) = false := by simp [k3]
    by_cases k4 : k = 4
    · obtain rfl := k4
      by_cases hm0 : m = 0
      · subst hm0
        cases cb
        · skip
          go_wp2_with fail
          go_ret
          exact ⟨by rw [E.out]; simp [HCB.out, HPB.out] <;> (intros; omega), HB1.out⟩
        · skip
          cases pb
          · skip
            go_wp2_with fail
            go_ret
            exact ⟨by rw [E.out]; simp [HCB.out, HPB.out] <;> (intros; omega), HB1.out⟩
          · skip
            go_wp2_with fail
            go_ret
            exact ⟨by rw [E.out]; simp [HCB.out, HPB.out] <;> (intros; omega), HB1.out⟩
      · have hm1 : ((m : Int) == 0) = false := by simp; omega
        have hm2 : ¬ (m : Int) = 0 := by omega
        go_wp2_with fail
        go_ret
        exact ⟨by rw [E.out]; simp [HCB.out, HPB.out, hm0] <;> (intros; omega), HB1.out⟩
    have kb4 : (k == 4) = false := by simp [k4]
    by_cases k5 : k = 5
    · obtain rfl := k5
      by_cases hm0 : m = 0
      · subst hm0
        cases cb
        · skip
          go_wp2_with fail
          go_ret
          exact ⟨by rw [E.out]; simp [HCB.out, HPB.out] <;> (intros; omega), HB1.out⟩
        · skip
          by_cases hy0 : 0 ≤ y
          · skip
            by_cases hy1 : y ≤ 100
            · skip
              by_cases hfz : f.size = 0
              · obtain rfl := eq_empty hfz
                by_cases hxz : x.size = 0
                · obtain rfl := eq_empty hxz
                  go_wp2_with fail
                  go_ret
                  exact ⟨by rw [E.out]; simp [HCB.out, HPB.out, hy0, hy1, hfz, hxz] <;> (intros; omega), HB1.out⟩
                · obtain ⟨z1, z2, z3⟩ := ne_empty hxz
                  go_wp2_with fail
                  go_ret
                  exact ⟨by rw [E.out]; simp [HCB.out, HPB.out, hy0, hy1, hfz, hxz] <;> (intros; omega), HB1.out⟩
              · obtain ⟨z1, z2, z3⟩ := ne_empty hfz
                go_wp2_with fail
                go_ret
                exact ⟨by rw [E.out]; simp [HCB.out, HPB.out, hy0, hy1, hfz] <;> (intros; omega), HB1.out⟩
            · skip
              go_wp2_with fail
              go_ret
              exact ⟨by rw [E.out]; simp [HCB.out, HPB.out, hy0, hy1] <;> (intros; omega), HB1.out⟩
          · skip
            go_wp2_with fail
            go_ret
            exact ⟨by rw [E.out]; simp [HCB.out, HPB.out, hy0] <;> (intros; omega), HB1.out⟩
      · have hm1 : ((m : Int) == 0) = false := by simp; omega
        have hm2 : ¬ (m : Int) = 0 := by omega
        go_wp2_with fail
        go_ret
        exact ⟨by rw [E.out]; simp [HCB.out, HPB.out, hm0] <;> (intros; omega), HB1.out⟩
    have kb5 : (k == 5) = false := by simp [k5]
    by_cases k6 : k = 6
    · obtain rfl := k6
      by_cases hm0 : m = 0
      · subst hm0
        by_cases hn0 : n = 0
        · subst hn0
          cases pb
          · skip
            go_wp2_with fail
            go_ret
            exact ⟨by rw [E.out]; simp [HCB.out, HPB.out] <;> (intros; omega), HB1.out⟩
          · skip
            go_wp2_with fail
            go_ret
            exact ⟨by rw [E.out]; simp [HCB.out, HPB.out] <;> (intros; omega), HB1.out⟩
        · have hn1 : (n == 0) = false := by simp [hn0]
          go_wp2_with fail
          go_ret
          exact ⟨by rw [E.out]; simp [HCB.out, HPB.out, hn0] <;> (intros; omega), HB1.out⟩
      · have hm1 : ((m : Int) == 0) = false := by simp; omega
        have hm2 : ¬ (m : Int) = 0 := by omega
        go_wp2_with fail
        go_ret
        exact ⟨by rw [E.out]; simp [HCB.out, HPB.out, hm0] <;> (intros; omega), HB1.out⟩
    have kb6 : (k == 6) = false := by simp [k6]
    by_cases k8 : k = 8
    · obtain rfl := k8
      by_cases hm0 : m = 0
      · subst hm0
        by_cases hn0 : n = 0
        · subst hn0
          cases pb
          · skip
            go_wp2_with fail
            go_ret
            exact ⟨by rw [E.out]; simp [HCB.out, HPB.out] <;> (intros; omega), HB1.out⟩
          · skip
            go_wp2_with fail
            go_ret
            exact ⟨by rw [E.out]; simp [HCB.out, HPB.out] <;> (intros; omega), HB1.out⟩
        · have hn1 : (n == 0) = false := by simp [hn0]
          go_wp2_with fail
          go_ret
          exact ⟨by rw [E.out]; simp [HCB.out, HPB.out, hn0] <;> (intros; omega), HB1.out⟩
      · have hm1 : ((m : Int) == 0) = false := by simp; omega
        have hm2 : ¬ (m : Int) = 0 := by omega
        go_wp2_with fail
        go_ret
        exact ⟨by rw [E.out]; simp [HCB.out, HPB.out, hm0] <;> (intros; omega), HB1.out⟩
    have kb8 : (k == 8) = false := by simp [k8]
    by_cases k7 : k = 7
    · obtain rfl := k7
      by_cases hm0 : m = 0
      · subst hm0
        cases cb
        · skip
          go_wp2_with fail
          go_ret
          exact ⟨by rw [E.out]; simp [HCB.out, HPB.out] <;> (intros; omega), HB1.out⟩
        · by_cases hy7 : y = 0
          · subst hy7
            obtain ⟨nb, hnb⟩ : ∃ b, nameB (blOf f) = b := ⟨_, rfl⟩
            obtain ⟨qb, hqb⟩ : ∃ b, (blOf x).contains 34 = b := ⟨_, rfl⟩
            have HN := Lib.hid hnb
            have HC := Lib.hid hqb
            clear hnb hqb
            cases nb
            · skip
              go_wp2_with (first | (go_at_call 29; refine (r_Name f _ hf HS1.out).mono ?_; rintro e wn ⟨rfl, hbn0⟩; rw [HN.out]; obtain ⟨hcc, hff⟩ := bcellx hbn0) | (go_at_call 141; refine (contains_quote x _).mono ?_; rintro e wq ⟨rfl, rfl⟩; rw [HC.out]))
              go_ret
              exact ⟨by rw [E.out, HCB.out, HN.out, HC.out]; simp [betwB, HPB.out] <;> (intros; omega), HB1.out.trans (hbn0.mono (by simp))⟩
            · by_cases hx1 : 1 ≤ x.size
              · have hx2 : (1 : Int) ≤ (x.size : Int) := by omega
                by_cases hx3 : x.size ≤ 256
                · have hx4 : (x.size : Int) ≤ 256 := by omega
                  cases qb
                  · skip
                    go_wp2_with (first | (go_at_call 29; refine (r_Name f _ hf HS1.out).mono ?_; rintro e wn ⟨rfl, hbn0⟩; rw [HN.out]; obtain ⟨hcc, hff⟩ := bcellx hbn0) | (go_at_call 141; refine (contains_quote x _).mono ?_; rintro e wq ⟨rfl, rfl⟩; rw [HC.out]))
                    go_ret
                    exact ⟨by rw [E.out, HCB.out, HN.out, HC.out]; simp [betwB, HPB.out, hx1, hx2, hx3, hx4] <;> (intros; omega), HB1.out.trans (hbn0.mono (by simp))⟩
                  · skip
                    go_wp2_with (first | (go_at_call 29; refine (r_Name f _ hf HS1.out).mono ?_; rintro e wn ⟨rfl, hbn0⟩; rw [HN.out]; obtain ⟨hcc, hff⟩ := bcellx hbn0) | (go_at_call 141; refine (contains_quote x _).mono ?_; rintro e wq ⟨rfl, rfl⟩; rw [HC.out]))
                    go_ret
                    exact ⟨by rw [E.out, HCB.out, HN.out, HC.out]; simp [betwB, HPB.out, hx1, hx2, hx3, hx4] <;> (intros; omega), HB1.out.trans (hbn0.mono (by simp))⟩
                · have hx4 : ¬ (x.size : Int) ≤ 256 := by omega
                  go_wp2_with (first | (go_at_call 29; refine (r_Name f _ hf HS1.out).mono ?_; rintro e wn ⟨rfl, hbn0⟩; rw [HN.out]; obtain ⟨hcc, hff⟩ := bcellx hbn0) | (go_at_call 141; refine (contains_quote x _).mono ?_; rintro e wq ⟨rfl, rfl⟩; rw [HC.out]))
                  go_ret
                  exact ⟨by rw [E.out, HCB.out, HN.out, HC.out]; simp [betwB, HPB.out, hx1, hx2, hx3, hx4] <;> (intros; omega), HB1.out.trans (hbn0.mono (by simp))⟩
              · have hx2 : ¬ (1 : Int) ≤ (x.size : Int) := by omega
                go_wp2_with (first | (go_at_call 29; refine (r_Name f _ hf HS1.out).mono ?_; rintro e wn ⟨rfl, hbn0⟩; rw [HN.out]; obtain ⟨hcc, hff⟩ := bcellx hbn0) | (go_at_call 141; refine (contains_quote x _).mono ?_; rintro e wq ⟨rfl, rfl⟩; rw [HC.out]))
                go_ret
                exact ⟨by rw [E.out, HCB.out, HN.out, HC.out]; simp [betwB, HPB.out, hx1, hx2] <;> (intros; omega), HB1.out.trans (hbn0.mono (by simp))⟩
          · have hy8 : (y == 0) = false := by simp [hy7]
            go_wp2_with fail
            go_ret
            exact ⟨by rw [E.out]; simp [HCB.out, HPB.out, hy7] <;> (intros; omega), HB1.out⟩
      · have hm1 : ((m : Int) == 0) = false := by simp; omega
        have hm2 : ¬ (m : Int) = 0 := by omega
        go_wp2_with fail
        go_ret
        exact ⟨by rw [E.out]; simp [HCB.out, HPB.out, hm0] <;> (intros; omega), HB1.out⟩
    have kb7 : (k == 7) = false := by simp [k7]
    go_wp2_with fail
    go_ret
    exact ⟨by rw [E.out]; simp [k1, k2, k3, k4, k5, k6, k7, k8], HB1.out⟩
end Go.Proofs.YthfmmememdlekaaGreatDoor
namespace Go.Proofs.YthfmmememdlekaaGreatDoor
open Go.RowKit Num

theorem growA_at {l : List Trm} {d : Nat} : ∀ {ks : List Int} {nx : Nat} {xs : List Tree} {n : Nat}, growA (growF l d) ks nx = some (xs, n) → ∀ (j : Nat) (a : Int), ks[j]? = some a → ∃ (k : Nat) (x : Tree) (m : Nat), a = (k : Int) ∧ growF l d k = some (x, m) ∧ xs[j]? = some x := by
  intro ks
  induction ks with
  | nil => intro nx xs n h j a ha; simp at ha
  | cons k ks ih =>
    intro nx xs n h j a ha
    unfold growA at h
    split at h
    · rename_i hk
      split at h
      · cases h
      · rename_i x af hx
        split at h
        · cases h
        · rename_i xs' n' hr
          injection h with h; injection h with h1 h2; subst h1
          cases j with
          | zero =>
            simp at ha
            exact ⟨nx, x, af, by rw [← ha]; exact hk, hx, rfl⟩
          | succ j =>
            simp at ha
            obtain ⟨k', x', m', e1, e2, e3⟩ := ih hr j a ha
            exact ⟨k', x', m', e1, e2, by simpa using e3⟩
    · cases h
/-- The arguments' texts, in their order. -/
theorem growA_txts {l : List Trm} {d : Nat} {ks : List Int} {nx : Nat} {xs : List Tree} {n : Nat} (h : growA (growF l d) ks nx = some (xs, n)) : xs.length = ks.length := growA_len h
end Go.Proofs.YthfmmememdlekaaGreatDoor

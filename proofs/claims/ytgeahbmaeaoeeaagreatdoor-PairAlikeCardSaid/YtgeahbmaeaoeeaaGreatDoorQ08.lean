/- Contracts: whether a term has what its kind asks for. Words for memory: terms, lists of terms, trees. Values in a row of cells. Contracts of the sum: its constants, its padding, the whole. -/
import Derived.Test.YtgeahbmaeaoeeaaGreatDoorQ07
import Derived.Test.YtgeahbmaeaoeeaaGreatDoorShelfF
import Derived.Test.YtgeahbmaeaoeeaaGreatDoorQ03
set_option linter.unusedVariables false
set_option linter.unusedSimpArgs false
namespace Go.Proofs.YtgeahbmaeaoeeaaGreatDoor
open Go.RowKit Num

def SamePost (b : Bool) (w : World) (e : Ending) (w' : World) : Prop := e = .returned (.bool b) ∧ Below w.heap.size w w'
set_option maxRecDepth 100000 in
set_option maxHeartbeats 1000000 in
theorem f_same (wk wn wy : Int) (wf wt : ByteArray) (A : Option Addr) (m c : Nat) (a b : Nat) (k n y : Int) (f x : ByteArray) (w : World) (ha : a < w.heap.size) (hb : b < w.heap.size)
    (h0 : w.cell? ⟨a, 0, none⟩ = some (.int .i64 k)) (h1 : w.cell? ⟨b, 1, none⟩ = some (.int .i64 n)) (h2 : w.cell? ⟨b, 2, none⟩ = some (.int .i64 y)) (h3 : w.cell? ⟨b, 3, none⟩ = some (.string f)) (h4 : w.cell? ⟨b, 4, none⟩ = some (.string x)) :
    Calls Tryz.prog 134 #[.agg #[.int .i64 wk, .int .i64 wn, .int .i64 wy, .string wf, .string wt, .slice A m c], .pointer (some ⟨a, 0, none⟩), .pointer (some ⟨b, 0, none⟩)] w (SamePost (decide (n = wn ∧ y = wy ∧ blOf f = blOf wf ∧ blOf x = blOf wt)) w) := by
  have na : a ≠ w.heap.size := by omega
  have nb : b ≠ w.heap.size := by omega
  by_cases e1 : n = wn
  · by_cases e2 : y = wy
    · by_cases e3 : blOf f = blOf wf
      · have q3 := seq_true (blOf_inj e3)
        by_cases e4 : blOf x = blOf wt
        · have q4 := seq_true (blOf_inj e4)
          have E := Lib.hid (decide_eq_true (show n = wn ∧ y = wy ∧ blOf f = blOf wf ∧ blOf x = blOf wt from ⟨e1, e2, e3, e4⟩))
          have d1 : (n == wn) = true := by simpa using e1
          have d2 : (y == wy) = true := by simpa using e2
          clear e1 e2 e3 e4
          go_enter Tryz.func134, Tryz.ntmps134
          go_wp2_with fail
          go_ret
          exact ⟨by rw [E.out]; rfl, (Below.refl _ _).alloc (Nat.le_refl _) _⟩
        · have q4 := seq_false e4
          have E := Lib.hid (decide_eq_false (show ¬ (n = wn ∧ y = wy ∧ blOf f = blOf wf ∧ blOf x = blOf wt) from fun h => e4 h.2.2.2))
          have d1 : (n == wn) = true := by simpa using e1
          have d2 : (y == wy) = true := by simpa using e2
          clear e1 e2 e3 e4
          go_enter Tryz.func134, Tryz.ntmps134
          go_wp2_with fail
          go_ret
          exact ⟨by rw [E.out]; rfl, (Below.refl _ _).alloc (Nat.le_refl _) _⟩
      · have q3 := seq_false e3
        have E := Lib.hid (decide_eq_false (show ¬ (n = wn ∧ y = wy ∧ blOf f = blOf wf ∧ blOf x = blOf wt) from fun h => e3 h.2.2.1))
        have d1 : (n == wn) = true := by simpa using e1
        have d2 : (y == wy) = true := by simpa using e2
        clear e1 e2 e3
        go_enter Tryz.func134, Tryz.ntmps134
        go_wp2_with fail
        go_ret
        exact ⟨by rw [E.out]; rfl, (Below.refl _ _).alloc (Nat.le_refl _) _⟩
    · have E := Lib.hid (decide_eq_false (show ¬ (n = wn ∧ y = wy ∧ blOf f = blOf wf ∧ blOf x = blOf wt) from fun h => e2 h.2.1))
      have d1 : (n == wn) = true := by simpa using e1
      have d2 : (y == wy) = false := by simpa using e2
      clear e1 e2
      go_enter Tryz.func134, Tryz.ntmps134
      go_wp2_with fail
      go_ret
      exact ⟨by rw [E.out]; rfl, (Below.refl _ _).alloc (Nat.le_refl _) _⟩
  · have E := Lib.hid (decide_eq_false (show ¬ (n = wn ∧ y = wy ∧ blOf f = blOf wf ∧ blOf x = blOf wt) from fun h => e1 h.1))
    have d1 : (n == wn) = false := by simpa using e1
    clear e1
    go_enter Tryz.func134, Tryz.ntmps134
    go_wp2_with fail
    go_ret
    exact ⟨by rw [E.out]; rfl, (Below.refl _ _).alloc (Nat.le_refl _) _⟩
theorem size_nil (s : ByteArray) : (s.size = 0) = (blOf s = blOf E0) := by
  apply propext
  constructor
  · intro h; exact List.eq_nil_of_length_eq_zero (by rw [blOf_len]; exact h)
  · intro h; rw [← blOf_len, h]; rfl
theorem indexByte_has (l : List UInt8) (c : UInt8) : decide (0 ≤ Lib.indexByte l c) = l.contains c := by
  have key : ∀ l : List UInt8, -1 ≤ Lib.indexByte l c ∧ (0 ≤ Lib.indexByte l c ↔ c ∈ l) := by
    intro l
    induction l with
    | nil => simp [Lib.indexByte]
    | cons x r ih =>
      unfold Lib.indexByte
      by_cases h : x = c
      · rw [if_pos (by simpa using h)]; simp [h]
      · rw [if_neg (by simpa using h)]
        have hc : ¬ c = x := fun e => h e.symm
        rw [List.mem_cons, or_iff_right hc, ← ih.2]
        split
        · rename_i h1
          have h2 : Lib.indexByte r c = -1 := by simpa using h1
          omega
        · rename_i h1
          have h2 : ¬ Lib.indexByte r c = -1 := by simpa using h1
          have := ih.1
          omega
  rw [Bool.eq_iff_iff, decide_eq_true_eq, (key l).2]; simp
def sameD (n wn y wy : Int) (f x : ByteArray) : Bool := decide (n = wn ∧ y = wy ∧ blOf f = blOf E0 ∧ blOf x = blOf E0)
abbrev aggT (k n y : Int) (f x : ByteArray) (A : Option Addr) (m c : Nat) : Value := .agg #[.int .i64 k, .int .i64 n, .int .i64 y, .string f, .string x, .slice A m c]
/-- The call of the closure, as it stands in the walk. -/
theorem c_same (wn wy k n y : Int) (f x : ByteArray) (A : Option Addr) (m c : Nat) (w : World) :
    Calls Tryz.prog 134 #[.agg #[.int .i64 0, .int .i64 wn, .int .i64 wy, .string ⟨#[]⟩, .string ⟨#[]⟩, .slice none 0 0], .pointer (some ⟨w.heap.size, 0, none⟩), .pointer (some ⟨w.heap.size + 1, 0, none⟩)]
      ((w.alloc (.cells #[.int .i64 k, .int .i64 n, .int .i64 y, .string f, .string x, .slice A m c] 115)).alloc (.cells #[.int .i64 k, .int .i64 n, .int .i64 y, .string f, .string x, .slice none 0 0] 115))
      fun e w' => e = .returned (.bool (sameD n wn y wy f x)) ∧ Below w.heap.size w w' := by
  refine (f_same 0 wn wy ⟨#[]⟩ ⟨#[]⟩ none 0 0 w.heap.size (w.heap.size + 1) k n y f x _ (by simp; omega) (by simp) ?_ ?_ ?_ ?_ ?_).mono ?_
  · go_simp
  · go_simp
  · go_simp
  · go_simp
  · go_simp
  · rintro e w' ⟨rfl, hb⟩
    exact ⟨rfl, (((Below.refl _ _).alloc (Nat.le_refl _) _).alloc (by simp) _).trans (hb.mono (by simp; omega))⟩
theorem bcellx {B : Nat} {W w1 : World} (hb : Below B W w1) : (∀ b o, b < B → w1.cell? ⟨b, o, none⟩ = W.cell? ⟨b, o, none⟩) ∧ (∀ b o, b < B → w1.frozen? ⟨b, o, none⟩ = W.frozen? ⟨b, o, none⟩) :=
  ⟨fun b o h => hb.cell (p := ⟨b, o, none⟩) h, fun b o h => hb.frozen (p := ⟨b, o, none⟩) h⟩
set_option maxRecDepth 100000 in
set_option maxHeartbeats 4000000 in
theorem f_bare (k n y : Int) (f x : ByteArray) (A : Option Addr) (m c : Nat) (args : List Int) (w : World) (hf : f.size ≤ 4294967296) (hx : x.size ≤ 4294967296) :
    Calls Tryz.prog 129 #[.agg #[.int .i64 k, .int .i64 n, .int .i64 y, .string f, .string x, .slice A m c]] w (SamePost (bareB ⟨k, n, y, f, x, args⟩) w) := by
  have hsb : Below w.heap.size w ((w.alloc (.cells #[.int .i64 k, .int .i64 n, .int .i64 y, .string f, .string x, .slice A m c] 115)).alloc (.cells #[.int .i64 k, .int .i64 n, .int .i64 y, .string f, .string x, .slice none 0 0] 115)) := ((Below.refl _ _).alloc (Nat.le_refl _) _).alloc (by simp) _
  have HSB := Lib.hid hsb
  clear hsb
  by_cases c1 : k = 1 ∨ k = 2 ∨ k = 6 ∨ k = 8
  · have e : bareB ⟨k, n, y, f, x, args⟩ = sameD n 0 y 0 f x := by
      unfold bareB sameD
      simp only
      rw [if_pos c1]
      simp only [size_nil]
    have E := Lib.hid e
    clear e
    rcases c1 with rfl | rfl | rfl | rfl
    all_goals
      go_enter Tryz.func129, Tryz.ntmps129
      go_wp2_with (first
        | (go_at_call 135; refine (f_between _ _ _).mono ?_; rintro e w' ⟨rfl, rfl⟩)
        | (refine (c_same _ _ _ _ _ _ _ _ _ _ _).mono ?_; rintro e w1 ⟨rfl, hb⟩))
      go_ret
      exact ⟨by rw [E.out]; rfl, hb⟩
  · have d1 : (k == 1) = false := by simp; omega
    have d2 : (k == 2) = false := by simp; omega
    have d6 : (k == 6) = false := by simp; omega
    have d8 : (k == 8) = false := by simp; omega
    by_cases c3 : k = 3 ∨ k = 4
    · have e : bareB ⟨k, n, y, f, x, args⟩ = (betwB n 64 && sameD n n y 0 f x) := by
        unfold bareB sameD
        simp only
        rw [if_neg c1, if_pos c3]
        simp only [size_nil, true_and]
      have E := Lib.hid e
      clear e c1 d1 d2 d6 d8
      cases hbt : betwB n 64
      · rw [hbt] at E
        have HB := Lib.hid hbt
        clear hbt
        rcases c3 with rfl | rfl
        all_goals
          go_enter Tryz.func129, Tryz.ntmps129
          go_wp2_with (first
            | (go_at_call 135; refine (f_between _ _ _).mono ?_; rintro e w' ⟨rfl, rfl⟩; rw [HB.out]))
          go_ret
          exact ⟨by rw [E.out]; rfl, HSB.out⟩
      · rw [hbt] at E
        have HB := Lib.hid hbt
        clear hbt
        rcases c3 with rfl | rfl
        all_goals
          go_enter Tryz.func129, Tryz.ntmps129
          go_wp2_with (first
            | (go_at_call 135; refine (f_between _ _ _).mono ?_; rintro e w' ⟨rfl, rfl⟩; rw [HB.out])
            | (refine (c_same _ _ _ _ _ _ _ _ _ _ _).mono ?_; rintro e w1 ⟨rfl, hb⟩))
          go_ret
          exact ⟨by rw [E.out]; rfl, hb⟩
    · have d3 : (k == 3) = false := by simp; omega
      have d4 : (k == 4) = false := by simp; omega
      by_cases c5 : k = 5
      · have e : bareB ⟨k, n, y, f, x, args⟩ = (betwB n 64 && (decide (0 ≤ y) && (decide (y ≤ 100) && sameD n n y y f x))) := by
          unfold bareB sameD
          simp only
          rw [if_neg c1, if_neg c3, if_pos c5]
          simp only [size_nil, true_and, Bool.decide_and, Bool.and_assoc]
        have E := Lib.hid e
        subst c5
        clear e c1 d1 d2 d6 d8 c3 d3 d4
        cases hbt : betwB n 64
        · rw [hbt] at E
          have HB := Lib.hid hbt
          clear hbt
          go_enter Tryz.func129, Tryz.ntmps129
          go_wp2_with (go_at_call 135; refine (f_between _ _ _).mono ?_; rintro e w' ⟨rfl, rfl⟩; rw [HB.out])
          go_ret
          exact ⟨by rw [E.out]; rfl, HSB.out⟩
        · rw [hbt] at E
          have HB := Lib.hid hbt
          clear hbt
          by_cases y0 : 0 ≤ y
          · have q0 : decide (0 ≤ y) = true := by simpa using y0
            by_cases y1 : y ≤ 100
            · have q1 : decide (y ≤ 100) = true := by simpa using y1
              rw [q0, q1] at E
              go_enter Tryz.func129, Tryz.ntmps129
              go_wp2_with (first
                | (go_at_call 135; refine (f_between _ _ _).mono ?_; rintro e w' ⟨rfl, rfl⟩; rw [HB.out])
                | (refine (c_same _ _ _ _ _ _ _ _ _ _ _).mono ?_; rintro e w1 ⟨rfl, hb⟩))
              go_ret
              exact ⟨by rw [E.out]; rfl, hb⟩
            · have q1 : decide (y ≤ 100) = false := by simpa using y1
              rw [q0, q1] at E
              go_enter Tryz.func129, Tryz.ntmps129
              go_wp2_with (go_at_call 135; refine (f_between _ _ _).mono ?_; rintro e w' ⟨rfl, rfl⟩; rw [HB.out])
              go_ret
              exact ⟨by rw [E.out]; rfl, HSB.out⟩
          · have q0 : decide (0 ≤ y) = false := by simpa using y0
            rw [q0] at E
            go_enter Tryz.func129, Tryz.ntmps129
            go_wp2_with (go_at_call 135; refine (f_between _ _ _).mono ?_; rintro e w' ⟨rfl, rfl⟩; rw [HB.out])
            go_ret
            exact ⟨by rw [E.out]; rfl, HSB.out⟩
      · have d5 : (k == 5) = false := by simp; omega
        by_cases c7 : k = 7
        · have e : bareB ⟨k, n, y, f, x, args⟩ = (betwB n 64 && (nameB (blOf f) && (betwB x.size 256 && (!(blOf x).contains 34 && decide (y = 0))))) := by
            unfold bareB
            simp only
            rw [if_neg c1, if_neg c3, if_neg c5, if_pos c7]
            simp only [Bool.and_assoc]
          have E := Lib.hid e
          subst c7
          clear e c1 d1 d2 d6 d8 c3 d3 d4 c5 d5
          cases hbt : betwB n 64
          · rw [hbt] at E
            have HB := Lib.hid hbt
            clear hbt
            go_enter Tryz.func129, Tryz.ntmps129
            go_wp2_with (go_at_call 135; refine (f_between _ _ _).mono ?_; rintro e w' ⟨rfl, rfl⟩; rw [HB.out])
            go_ret
            exact ⟨by rw [E.out]; rfl, HSB.out⟩
          · rw [hbt] at E
            have HB := Lib.hid hbt
            clear hbt
            cases hnm : nameB (blOf f)
            · rw [hnm] at E
              have HN := Lib.hid hnm
              clear hnm
              go_enter Tryz.func129, Tryz.ntmps129
              go_wp2_with (first
                | (go_at_call 135; refine (f_between _ _ _).mono ?_; rintro e w' ⟨rfl, rfl⟩; rw [HB.out])
                | (go_at_call 136; refine (f_Name _ _ hf).mono ?_; rintro e w1 ⟨rfl, hb⟩; rw [HN.out]))
              go_ret
              exact ⟨by rw [E.out]; rfl, HSB.out.trans (hb.mono (by simp; omega))⟩
            · rw [hnm] at E
              have HN := Lib.hid hnm
              clear hnm
              cases hlen : betwB x.size 256
              · rw [hlen] at E
                have HL := Lib.hid hlen
                clear hlen
                go_enter Tryz.func129, Tryz.ntmps129
                go_wp2_with (first
                  | (go_at_call 136; refine (f_Name _ _ hf).mono ?_; rintro e w1 ⟨rfl, hb⟩; rw [HN.out]; obtain ⟨hcc, hff⟩ := bcellx hb)
                  | (go_at_call 135; refine (f_between _ _ _).mono ?_; rintro e w' ⟨rfl, rfl⟩; first | rw [HB.out] | rw [HL.out]))
                go_ret
                exact ⟨by rw [E.out]; rfl, HSB.out.trans (hb.mono (by simp; omega))⟩
              · rw [hlen] at E
                have HL := Lib.hid hlen
                clear hlen
                cases hq : (blOf x).contains 34
                · rw [hq] at E
                  have hq' : decide (0 ≤ Lib.indexByte x.data.toList (34 : Int).toNat.toUInt8) = false := (indexByte_has _ _).trans hq
                  have HQ := Lib.hid hq'
                  clear hq hq'
                  by_cases y0 : y = 0
                  · have q0 : (y == 0) = true := by simpa using y0
                    have q2 : decide (y = 0) = true := by simpa using y0
                    rw [q2] at E
                    clear y0 q2
                    go_enter Tryz.func129, Tryz.ntmps129
                    go_wp2_with (first
                      | (go_at_call 136; refine (f_Name _ _ hf).mono ?_; rintro e w1 ⟨rfl, hb⟩; rw [HN.out]; obtain ⟨hcc, hff⟩ := bcellx hb)
                      | (go_at_call 137; refine (Tryz.strings_ContainsRune_ascii _ _ _ (by decide) (by decide)).mono ?_; rintro e w' ⟨rfl, rfl⟩; rw [HQ.out])
                      | (go_at_call 135; refine (f_between _ _ _).mono ?_; rintro e w' ⟨rfl, rfl⟩; first | rw [HB.out] | rw [HL.out]))
                    go_ret
                    exact ⟨by rw [E.out]; rfl, HSB.out.trans (hb.mono (by simp; omega))⟩
                  · have q0 : (y == 0) = false := by simpa using y0
                    have q2 : decide (y = 0) = false := by simpa using y0
                    rw [q2] at E
                    clear y0 q2
                    go_enter Tryz.func129, Tryz.ntmps129
                    go_wp2_with (first
                      | (go_at_call 136; refine (f_Name _ _ hf).mono ?_; rintro e w1 ⟨rfl, hb⟩; rw [HN.out]; obtain ⟨hcc, hff⟩ := bcellx hb)
                      | (go_at_call 137; refine (Tryz.strings_ContainsRune_ascii _ _ _ (by decide) (by decide)).mono ?_; rintro e w' ⟨rfl, rfl⟩; rw [HQ.out])
                      | (go_at_call 135; refine (f_between _ _ _).mono ?_; rintro e w' ⟨rfl, rfl⟩; first | rw [HB.out] | rw [HL.out]))
                    go_ret
                    exact ⟨by rw [E.out]; rfl, HSB.out.trans (hb.mono (by simp; omega))⟩
                · rw [hq] at E
                  have hq' : decide (0 ≤ Lib.indexByte x.data.toList (34 : Int).toNat.toUInt8) = true := (indexByte_has _ _).trans hq
                  have HQ := Lib.hid hq'
                  clear hq hq'
                  go_enter Tryz.func129, Tryz.ntmps129
                  go_wp2_with (first
                    | (go_at_call 136; refine (f_Name _ _ hf).mono ?_; rintro e w1 ⟨rfl, hb⟩; rw [HN.out]; obtain ⟨hcc, hff⟩ := bcellx hb)
                    | (go_at_call 137; refine (Tryz.strings_ContainsRune_ascii _ _ _ (by decide) (by decide)).mono ?_; rintro e w' ⟨rfl, rfl⟩; rw [HQ.out])
                    | (go_at_call 135; refine (f_between _ _ _).mono ?_; rintro e w' ⟨rfl, rfl⟩; first | rw [HB.out] | rw [HL.out]))
                  go_ret
                  exact ⟨by rw [E.out]; rfl, HSB.out.trans (hb.mono (by simp; omega))⟩
        · have e : bareB ⟨k, n, y, f, x, args⟩ = false := by
            unfold bareB
            simp only
            rw [if_neg c1, if_neg c3, if_neg c5, if_neg c7]
          have E := Lib.hid e
          have d7 : (k == 7) = false := by simp; omega
          clear e c1 c3 c5 c7
          go_enter Tryz.func129, Tryz.ntmps129
          go_wp2_with (go_at_call 135; refine (f_between _ _ _).mono ?_; rintro e w' ⟨rfl, rfl⟩)
          go_ret
          exact ⟨by rw [E.out]; rfl, HSB.out⟩
end Go.Proofs.YtgeahbmaeaoeeaaGreatDoor
namespace Go.Proofs.YtgeahbmaeaoeeaaGreatDoor
open Go.RowKit Num

def trm0 : Trm := ⟨0, 0, 0, E0, E0, []⟩
def trmAt (L : List Trm) (k : Nat) : Trm := L.getD k trm0
def TermAt (w : World) (S : Nat → Prop) (b off : Nat) (t : Trm) : Prop := w.cell? ⟨b, off, none⟩ = some (.int .i64 t.kind) ∧ w.cell? ⟨b, off + 1, none⟩ = some (.int .i64 t.num) ∧ w.cell? ⟨b, off + 2, none⟩ = some (.int .i64 t.yrs) ∧
  w.cell? ⟨b, off + 3, none⟩ = some (.string t.field) ∧ w.cell? ⟨b, off + 4, none⟩ = some (.string t.text) ∧ ∃ u, w.cell? ⟨b, off + 5, none⟩ = some u ∧ IntsAt w S u t.args
def TermsAt (w : World) (S : Nat → Prop) (v : Value) (L : List Trm) : Prop :=
  ∃ (A : Option Addr) (n c : Nat), v = .slice A n c ∧ n = L.length ∧ n ≤ c ∧ (0 < n → ∃ b off, A = some ⟨b, off, none⟩ ∧ S b ∧ ∀ k, k < n → TermAt w S b (off + k * 6) (trmAt L k))
theorem TermAt.keep {w w' : World} {S : Nat → Prop} {b off : Nat} {t : Trm} (h : TermAt w S b off t) (hb : w'.heap[b]? = w.heap[b]?) (hk : ∀ b, S b → w'.heap[b]? = w.heap[b]?) : TermAt w' S b off t := by
  obtain ⟨h0, h1, h2, h3, h4, u, h5, h6⟩ := h
  have e : ∀ o, w'.cell? ⟨b, o, none⟩ = w.cell? ⟨b, o, none⟩ := fun o => World.cell?_of_block hb
  exact ⟨(e _).trans h0, (e _).trans h1, (e _).trans h2, (e _).trans h3, (e _).trans h4, u, (e _).trans h5, h6.keep hk⟩
theorem TermAt.mono {w : World} {S T : Nat → Prop} {b off : Nat} {t : Trm} (h : TermAt w S b off t) (hk : ∀ b, S b → T b) : TermAt w T b off t := by
  obtain ⟨h0, h1, h2, h3, h4, u, h5, h6⟩ := h
  exact ⟨h0, h1, h2, h3, h4, u, h5, h6.mono hk⟩
theorem TermsAt.keep {w w' : World} {S : Nat → Prop} {v : Value} {L : List Trm} (h : TermsAt w S v L) (hk : ∀ b, S b → w'.heap[b]? = w.heap[b]?) : TermsAt w' S v L := by
  obtain ⟨A, n, c, h1, h2, h3, h4⟩ := h
  refine ⟨A, n, c, h1, h2, h3, fun hn => ?_⟩
  obtain ⟨b, off, hA, hS, hc⟩ := h4 hn
  exact ⟨b, off, hA, hS, fun k hk' => (hc k hk').keep (hk b hS) hk⟩
theorem TermsAt.mono {w : World} {S T : Nat → Prop} {v : Value} {L : List Trm} (h : TermsAt w S v L) (hk : ∀ b, S b → T b) : TermsAt w T v L := by
  obtain ⟨A, n, c, h1, h2, h3, h4⟩ := h
  refine ⟨A, n, c, h1, h2, h3, fun hn => ?_⟩
  obtain ⟨b, off, hA, hS, hc⟩ := h4 hn
  exact ⟨b, off, hA, hk b hS, fun k hk' => (hc k hk').mono hk⟩
theorem TermsAt.below {w w' : World} {B : Nat} {v : Value} {L : List Trm} (h : TermsAt w (· < B) v L) (hb : Below B w w') : TermsAt w' (· < B) v L := h.keep fun b hB => hb.block b hB

def TreeAt (w : World) (S : Nat → Prop) : Nat → Value → Tree → Prop
  | 0, _, _ => False
  | d + 1, v, .node t xs => ∃ b, v = .pointer (some ⟨b, 0, none⟩) ∧ S b ∧ TermAt w S b 0 t ∧ ∃ A n c, w.cell? ⟨b, 6, none⟩ = some (.slice A n c) ∧ n = xs.length ∧ n ≤ c ∧
    (0 < n → ∃ g off, A = some ⟨g, off, none⟩ ∧ S g ∧ ∀ k x, xs[k]? = some x → ∃ p, w.cell? ⟨g, off + k, none⟩ = some p ∧ TreeAt w S d p x)
theorem TreeAt.keep {w w' : World} {S : Nat → Prop} (hk : ∀ b, S b → w'.heap[b]? = w.heap[b]?) : ∀ {d v T}, TreeAt w S d v T → TreeAt w' S d v T := by
  intro d
  induction d with
  | zero => intro v T h; exact h.elim
  | succ d ih =>
    intro v T h
    obtain ⟨t, xs⟩ := T
    obtain ⟨b, h1, h2, h3, A, n, c, h4, h5, h6, h7⟩ := h
    refine ⟨b, h1, h2, h3.keep (hk b h2) hk, A, n, c, (World.cell?_of_block (hk b h2)).trans h4, h5, h6, fun hn => ?_⟩
    obtain ⟨g, off, hA, hg, hc⟩ := h7 hn
    refine ⟨g, off, hA, hg, fun k x hx => ?_⟩
    obtain ⟨p, hp, ht⟩ := hc k x hx
    exact ⟨p, (World.cell?_of_block (hk g hg)).trans hp, ih ht⟩
theorem TreeAt.mono {w : World} {S S' : Nat → Prop} (hk : ∀ b, S b → S' b) : ∀ {d v T}, TreeAt w S d v T → TreeAt w S' d v T := by
  intro d
  induction d with
  | zero => intro v T h; exact h.elim
  | succ d ih =>
    intro v T h
    obtain ⟨t, xs⟩ := T
    obtain ⟨b, h1, h2, h3, A, n, c, h4, h5, h6, h7⟩ := h
    refine ⟨b, h1, hk b h2, h3.mono hk, A, n, c, h4, h5, h6, fun hn => ?_⟩
    obtain ⟨g, off, hA, hg, hc⟩ := h7 hn
    refine ⟨g, off, hA, hk g hg, fun k x hx => ?_⟩
    obtain ⟨p, hp, ht⟩ := hc k x hx
    exact ⟨p, hp, ih ht⟩
theorem TreeAt.deeper {w : World} {S : Nat → Prop} : ∀ {d f v T}, d ≤ f → TreeAt w S d v T → TreeAt w S f v T := by
  intro d
  induction d with
  | zero => intro f v T hf h; exact h.elim
  | succ d ih =>
    intro f v T hf h
    obtain ⟨f, rfl⟩ : ∃ g, f = g + 1 := ⟨f - 1, by omega⟩
    obtain ⟨t, xs⟩ := T
    obtain ⟨b, h1, h2, h3, A, n, c, h4, h5, h6, h7⟩ := h
    refine ⟨b, h1, h2, h3, A, n, c, h4, h5, h6, fun hn => ?_⟩
    obtain ⟨g, off, hA, hg, hc⟩ := h7 hn
    refine ⟨g, off, hA, hg, fun k x hx => ?_⟩
    obtain ⟨p, hp, ht⟩ := hc k x hx
    exact ⟨p, hp, ih (by omega) ht⟩
theorem TreeAt.ptr {w : World} {S : Nat → Prop} {d : Nat} {v : Value} {T : Tree} (h : TreeAt w S d v T) : ∃ b, v = .pointer (some ⟨b, 0, none⟩) ∧ S b := by
  cases d with
  | zero => exact h.elim
  | succ d => obtain ⟨t, xs⟩ := T; obtain ⟨b, h1, h2, _⟩ := h; exact ⟨b, h1, h2⟩
end Go.Proofs.YtgeahbmaeaoeeaaGreatDoor
namespace Go.Proofs.YtgeahbmaeaoeeaaGreatDoor
open Go.RowKit Num

/-- Values in a row of cells. -/
structure ArrV (w : World) (B n : Nat) (f : Nat → Value) : Prop where
  cell : ∀ i, i < n → w.cell? ⟨B, i, none⟩ = some (f i)
  live : ∀ i, i < n → w.frozen? ⟨B, i, none⟩ = false
def updV (f : Nat → Value) (i : Nat) (v : Value) : Nat → Value := fun j => if j = i then v else f j
theorem ArrV.upd {w : World} {B n : Nat} {f : Nat → Value} (h : ArrV w B n f) {i : Nat} (v : Value) (hi : i < n) : ArrV (w.setCell ⟨B, i, none⟩ v) B n (updV f i v) := by
  refine ⟨fun j hj => ?_, fun j hj => ?_⟩
  · by_cases hji : j = i
    · subst hji; rw [World.cell?_setCell_same _ _ _ (h.cell j hj)]; unfold updV; rw [if_pos rfl]
    · rw [World.cell?_setCell_other _ _ _ _ (by intro e; injection e with e1 e2; exact hji e2.symm), h.cell j hj]; unfold updV; rw [if_neg hji]
  · rw [World.frozen?_setCell]; exact h.live j hj
theorem ArrV.congr {w : World} {B n : Nat} {f g : Nat → Value} (h : ArrV w B n f) (e : ∀ i, i < n → f i = g i) : ArrV w B n g :=
  ⟨fun i hi => by rw [h.cell i hi, e i hi], h.live⟩
theorem ArrV.drew {w : World} {B n : Nat} {f : Nat → Value} (h : ArrV w B n f) : ArrV w.drew B n f := ⟨h.cell, h.live⟩
end Go.Proofs.YtgeahbmaeaoeeaaGreatDoor
namespace Go.Proofs.YtgeahbmaeaoeeaaGreatDoor
open Go.RowKit Num

/-- The constants of the rounds, and the state at the beginning. -/
def shaK : List Int := [0x428a2f98, 0x71374491, 0xb5c0fbcf, 0xe9b5dba5, 0x3956c25b, 0x59f111f1, 0x923f82a4, 0xab1c5ed5, 0xd807aa98, 0x12835b01, 0x243185be, 0x550c7dc3, 0x72be5d74, 0x80deb1fe, 0x9bdc06a7, 0xc19bf174, 0xe49b69c1, 0xefbe4786, 0x0fc19dc6, 0x240ca1cc, 0x2de92c6f, 0x4a7484aa, 0x5cb0a9dc, 0x76f988da, 0x983e5152, 0xa831c66d, 0xb00327c8, 0xbf597fc7, 0xc6e00bf3, 0xd5a79147, 0x06ca6351, 0x14292967, 0x27b70a85, 0x2e1b2138, 0x4d2c6dfc, 0x53380d13, 0x650a7354, 0x766a0abb, 0x81c2c92e, 0x92722c85, 0xa2bfe8a1, 0xa81a664b, 0xc24b8b70, 0xc76c51a3, 0xd192e819, 0xd6990624, 0xf40e3585, 0x106aa070, 0x19a4c116, 0x1e376c08, 0x2748774c, 0x34b0bcb5, 0x391c0cb3, 0x4ed8aa4a, 0x5b9cca4f, 0x682e6ff3, 0x748f82ee, 0x78a5636f, 0x84c87814, 0x8cc70208, 0x90befffa, 0xa4506ceb, 0xbef9a3f7, 0xc67178f2]
def kOf (i : Nat) : Int := shaK.getD i 0
def shaB : List Int := [0x6a09e667, 0xbb67ae85, 0x3c6ef372, 0xa54ff53a, 0x510e527f, 0x9b05688c, 0x1f83d9ab, 0x5be0cd19]
def bOf (i : Nat) : Int := shaB.getD i 0

theorem map_get (l : List Int) (i : Nat) (h : i < l.length) : (l.map (Value.int .u32)).toArray[i]? = some (.int .u32 (l.getD i 0)) := by
  simp [List.getD, h]
end Go.Proofs.YtgeahbmaeaoeeaaGreatDoor

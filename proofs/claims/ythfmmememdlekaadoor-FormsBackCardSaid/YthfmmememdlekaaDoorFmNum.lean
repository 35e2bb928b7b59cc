/- Contracts: the conditions on words; a certain word is taken, and a number. -/
import Derived.Test.YthfmmememdlekaaDoorFmTak
set_option linter.unusedVariables false
set_option linter.unusedSimpArgs false
namespace Go.Proofs.YthfmmememdlekaaDoor
open Go.RowKit Num

set_option maxHeartbeats 1000000 in
theorem g_kind (x : List UInt8) (w : World) :
    Calls Tryd.prog 59 #[.string (bsOf x)] w (BoolBel (decide (0 < kindB x)) w) := by
  by_cases h : 0 < kindB x
  · have e : decide (0 < kindB x) = true := by simpa using h
    have E := Lib.hid e
    rw [e]
    clear e
    go_enter Tryd.func59, Tryd.ntmps59
    go_wp2_with (go_at_call 57; refine (f_kindOf (bsOf x) _).mono ?_; rintro e w1 ⟨rfl, hb⟩; rw [blOf_bsOf])
    go_ret
    exact ⟨by first | rfl | (show Ending.returned (.bool (decide (0 < kindB x))) = _; rw [E.out]), hb⟩
  · have e : decide (0 < kindB x) = false := by simpa using h
    have E := Lib.hid e
    rw [e]
    clear e
    go_enter Tryd.func59, Tryd.ntmps59
    go_wp2_with (go_at_call 57; refine (f_kindOf (bsOf x) _).mono ?_; rintro e w1 ⟨rfl, hb⟩; rw [blOf_bsOf])
    go_ret
    exact ⟨by first | rfl | (show Ending.returned (.bool (decide (0 < kindB x))) = _; rw [E.out]), hb⟩
set_option maxHeartbeats 1000000 in
theorem g_quote (x : List UInt8) (w : World) (hx : x ≠ []) :
    Calls Tryd.prog 63 #[.string (bsOf x)] w (BoolBel (x.headD 0 == 34) w) := by
  have hsz := bsOf_data' x
  have hpos : 0 < (bsOf x).size := by rw [hsz]; exact List.length_pos_iff.2 hx
  have hg : (bsOf x)[0] = x.headD 0 := by
    have := blOf_get (bsOf x) 0 hpos
    rw [blOf_bsOf] at this
    rw [← this, headD_get]
  have HG := Lib.hid hg
  clear hsz hg
  by_cases h : x.headD 0 = 34
  · have e : (x.headD 0 == 34) = true := by simpa using h
    have t1 : ((((bsOf x)[0]).toNat : Int) == 34) = true := by rw [HG.out, h]; rfl
    rw [e]
    clear e
    go_enter Tryd.func63, Tryd.ntmps63
    go_wp2_with fail
    go_ret
    exact ⟨rfl, Below.refl _ _⟩
  · have e : (x.headD 0 == 34) = false := by simpa using h
    have t1 : ((((bsOf x)[0]).toNat : Int) == 34) = false := u8_ne (n := 34) (by decide) (by rw [HG.out]; exact h)
    rw [e]
    clear e
    go_enter Tryd.func63, Tryd.ntmps63
    go_wp2_with fail
    go_ret
    exact ⟨rfl, Below.refl _ _⟩
set_option maxHeartbeats 1000000 in
theorem g_exact (x c : List UInt8) (q : Nat) (w : World) (hc : w.cell? ⟨q, 0, none⟩ = some (.string (bsOf c))) :
    Calls Tryd.prog 82 #[.string (bsOf x), .pointer (some ⟨q, 0, none⟩)] w (BoolBel (x == c) w) := by
  by_cases h : x = c
  · have e : (x == c) = true := by simpa using h
    have t1 := seq_true (show bsOf x = bsOf c by rw [h])
    rw [e]
    clear e h
    go_enter Tryd.func82, Tryd.ntmps82
    go_wp2_with fail
    go_ret
    exact ⟨rfl, Below.refl _ _⟩
  · have e : (x == c) = false := by simpa using h
    have t1 : ((bsOf x).toList == (bsOf c).toList) = false := seq_false (by rw [blOf_bsOf, blOf_bsOf]; exact h)
    rw [e]
    clear e h
    go_enter Tryd.func82, Tryd.ntmps82
    go_wp2_with fail
    go_ret
    exact ⟨rfl, Below.refl _ _⟩
set_option maxRecDepth 100000 in
set_option maxHeartbeats 1000000 in
theorem g_num (x : List UInt8) (w : World) (hx : x.length ≤ 100000) (hl : LibOk w) :
    Calls Tryd.prog 80 #[.string (bsOf x)] w (BoolBel (numB' x) w) := by
  have hsz := bsOf_data' x
  have hs1 : (bsOf x).size ≤ 100000 := by omega
  have HL := Lib.hid hl
  clear hl
  rcases hat : Lib.atoiAll x with u | _ | _
  · have HAT := Lib.hid hat
    by_cases h3 : x.length ≤ 3
    · have q3 : (bsOf x).size ≤ 3 := by omega
      have q4 : decide (((bsOf x).size : Int) ≤ 3) = true := by simp; omega
      by_cases hi : Lib.itoa u = x
      · have e : numB' x = true := by unfold numB' isNumB; rw [hat]; simp [h3, hi]
        have t1 : ((bsOf (Lib.itoa u)).toList == (bsOf x).toList) = true := seq_true (by rw [hi])
        rw [e]
        clear e hi hat hsz h3
        go_enter Tryd.func80, Tryd.ntmps80
        go_wp2_with fail
        refine (i_Atoi (bsOf x) _ (by omega) HL.out).mono ?_
        rw [blOf_bsOf]
        rintro e w1 (⟨v, hv, rfl, v1, v2, hb⟩ | ⟨hno, -⟩)
        · obtain rfl : u = v := by rw [HAT.out] at hv; injection hv
          have HL1 := Lib.hid (HL.out.later hb).tab
          clear hv
          go_wp2_with (go_at_call 56; refine (i_Itoa u _ HL1.out v1 v2).mono ?_; rintro e w2 ⟨rfl, hb2⟩)
          go_ret
          exact ⟨rfl, hb.trans (hb2.mono hb.size)⟩
        · exact absurd HAT.out (hno u)
      · have e : numB' x = false := by unfold numB' isNumB; rw [hat]; simp [h3, hi]
        have t1 : ((bsOf (Lib.itoa u)).toList == (bsOf x).toList) = false := seq_false (by rw [blOf_bsOf, blOf_bsOf]; exact hi)
        rw [e]
        clear e hi hat hsz h3
        go_enter Tryd.func80, Tryd.ntmps80
        go_wp2_with fail
        refine (i_Atoi (bsOf x) _ (by omega) HL.out).mono ?_
        rw [blOf_bsOf]
        rintro e w1 (⟨v, hv, rfl, v1, v2, hb⟩ | ⟨hno, -⟩)
        · obtain rfl : u = v := by rw [HAT.out] at hv; injection hv
          have HL1 := Lib.hid (HL.out.later hb).tab
          clear hv
          go_wp2_with (go_at_call 56; refine (i_Itoa u _ HL1.out v1 v2).mono ?_; rintro e w2 ⟨rfl, hb2⟩)
          go_ret
          exact ⟨rfl, hb.trans (hb2.mono hb.size)⟩
        · exact absurd HAT.out (hno u)
    · have q4 : decide (((bsOf x).size : Int) ≤ 3) = false := by simp; omega
      have e : numB' x = false := by unfold numB' isNumB; rw [hat]; simp [h3]
      rw [e]
      clear e hat hsz h3
      go_enter Tryd.func80, Tryd.ntmps80
      go_wp2_with fail
      refine (i_Atoi (bsOf x) _ (by omega) HL.out).mono ?_
      rw [blOf_bsOf]
      rintro e w1 (⟨v, hv, rfl, v1, v2, hb⟩ | ⟨hno, -⟩)
      · clear hv
        go_wp2_with fail
        go_ret
        exact ⟨rfl, hb⟩
      · exact absurd HAT.out (hno u)
  all_goals
    have e : numB' x = false := by unfold numB' isNumB; rw [hat]; rfl
    have HAT := Lib.hid hat
    rw [e]
    clear e hat hsz
    go_enter Tryd.func80, Tryd.ntmps80
    go_wp2_with fail
    refine (i_Atoi (bsOf x) _ (by omega) HL.out).mono ?_
    rw [blOf_bsOf]
    rintro e w1 (⟨v, hv, -⟩ | ⟨hno, v, tp, p, rfl, hb⟩)
    · rw [HAT.out] at hv; cases hv
    · clear hno
      go_wp2_with fail
      go_ret
      exact ⟨rfl, hb⟩
end Go.Proofs.YthfmmememdlekaaDoor

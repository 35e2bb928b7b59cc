/- Contracts: names of fields; the words with which terms begin. -/
import Derived.Test.YthfmmememdlekaaDoorFmNam
set_option linter.unusedVariables false
set_option linter.unusedSimpArgs false
namespace Go.Proofs.YthfmmememdlekaaDoor
open Go.RowKit Num

def BoolBel (b : Bool) (w : World) (e : Ending) (w' : World) : Prop := e = .returned (.bool b) ∧ Below w.heap.size w w'
theorem StrsAt'.below {w w' : World} {v : Value} {L : List (List UInt8)} (h : StrsAt' w v L) (hb : Below w.heap.size w w') : StrsAt' w' v L := by
  obtain ⟨g, off, n, c, h1, h2, h3, h4⟩ := h
  exact ⟨g, off, n, c, h1, h2, Nat.lt_of_lt_of_le h3 hb.size, fun k hk => (hb.cell (p := ⟨g, off + k, none⟩) h3).trans (h4 k hk)⟩
theorem blOf_len (s : ByteArray) : (blOf s).length = s.size := Array.length_toList
theorem blOf_get (s : ByteArray) (k : Nat) (h : k < s.size) : (blOf s).getD k 0 = s[k] := by
  rw [List.getD_eq_getElem?_getD, List.getElem?_eq_getElem (by rw [blOf_len]; exact h)]; rfl
theorem headD_get (l : List UInt8) : l.headD 0 = l.getD 0 0 := by cases l <;> rfl
theorem all_of {l : List UInt8} {p : UInt8 → Bool} (h : ∀ j, j < l.length → p (l.getD j 0) = true) : l.all p = true := by
  rw [List.all_eq_true]
  intro x hx
  obtain ⟨j, hj, rfl⟩ := List.getElem_of_mem hx
  have := h j hj
  rwa [List.getD_eq_getElem?_getD, List.getElem?_eq_getElem hj] at this
theorem not_all_of {l : List UInt8} {p : UInt8 → Bool} {j : Nat} (hj : j < l.length) (h : p (l.getD j 0) = false) : l.all p = false := by
  rw [List.all_eq_false]
  refine ⟨l[j], List.getElem_mem hj, ?_⟩
  rw [List.getD_eq_getElem?_getD, List.getElem?_eq_getElem hj] at h
  simpa using h
set_option maxRecDepth 100000 in
set_option maxHeartbeats 1000000 in
theorem f_Name (s : ByteArray) (w : World) (hs : s.size ≤ 4294967296) :
    Calls Tryd.prog 10 #[.string s] w (BoolBel (nameB (blOf s)) w) := by
  by_cases h0 : s.size = 0
  · have e : nameB (blOf s) = false := by unfold nameB; rw [blOf_len]; simp [h0]
    obtain rfl := (show s = ⟨#[]⟩ from blOf_inj (List.eq_nil_of_length_eq_zero (by rw [blOf_len]; exact h0)))
    rw [e]
    clear e h0 hs
    go_enter Tryd.func10, Tryd.ntmps10
    go_wp2_with fail
    go_ret
    exact ⟨rfl, Below.refl _ _⟩
  · have z1 : (s.toList == []) = false := by
      rw [ByteArray.toList_eq]
      cases hl : s.data.toList with
      | nil => exact absurd (by rw [← blOf_len]; show s.data.toList.length = 0; rw [hl]; rfl) h0
      | cons a r => rfl
    have z2 : (!s.toList.isEmpty) = true := by
      rw [ByteArray.toList_eq]
      cases hl : s.data.toList with
      | nil => exact absurd (by rw [← blOf_len]; show s.data.toList.length = 0; rw [hl]; rfl) h0
      | cons a r => rfl
    have z3 : ¬ s.toList = [] := by simpa using z1
    have hpos : 0 < s.size := by omega
    by_cases h32 : s.size ≤ 32
    · have g0 := blOf_get s 0 hpos
      by_cases hl : lowN (s[0]).toNat = true
      · by_cases hr : resB.contains (blOf s) = true
        · have e : nameB (blOf s) = false := by unfold nameB; rw [hr]; simp
          have HE := Lib.hid e
          have HR := Lib.hid hr
          have HL := Lib.hid hl
          clear e hr g0 hl h0
          go_enter Tryd.func10, Tryd.ntmps10
          go_wp2_with (first
            | (go_at_call 22; refine (f_letter _ _ (UInt8.toNat_lt _)).mono ?_; rintro e w' ⟨rfl, rfl⟩; rw [HL.out])
            | (go_at_call 24; refine (f_reserved _).mono ?_; rintro e w1 ⟨v, rfl, hv, hb⟩; have HV := Lib.hid hv; clear hv)
            | (go_at_call 23; refine (s_Contains _ resB s _ (by first | exact HV.out | assumption) (by decide)).mono ?_; rintro e w' ⟨rfl, rfl⟩; rw [HR.out]))
          go_ret
          exact ⟨by rw [HE.out]; rfl, hb⟩
        · have hrf : resB.contains (blOf s) = false := by simpa using hr
          have ht : nameB (blOf s) = (blOf s).all inWB := by
            unfold nameB
            rw [hrf, headD_get, g0, lowB_n, hl, blOf_len]
            simp [h32]; omega
          have HT := Lib.hid ht
          have HR := Lib.hid hrf
          have HL := Lib.hid hl
          clear ht hr hrf g0 hl h0
          go_enter Tryd.func10, Tryd.ntmps10
          go_wp2_with (first
            | (go_at_call 22; refine (f_letter _ _ (UInt8.toNat_lt _)).mono ?_; rintro e w' ⟨rfl, rfl⟩; rw [HL.out])
            | (go_at_call 24; refine (f_reserved _).mono ?_; rintro e w1 ⟨v, rfl, hv, hb⟩; have HV := Lib.hid hv; clear hv)
            | (go_at_call 23; refine (s_Contains _ resB s _ (by first | exact HV.out | assumption) (by decide)).mono ?_; rintro e w' ⟨rfl, rfl⟩; rw [HR.out]))
          go_loop [3, 24] (fun _ i => ∃ k : Nat, k ≤ s.size ∧ i = .int .i64 k ∧ ∀ j, j < k → inWB ((blOf s).getD j 0) = true) (fun _ i => s.size - (intOf i).toNat)
          case atStart => exact ⟨0, by omega, rfl, fun j hj => absurd hj (Nat.not_lt_zero _)⟩
          case round =>
            obtain ⟨k, hk, rfl, hne⟩ := hrel
            have HNE := Lib.hid hne
            clear hne
            by_cases hlt : k < s.size
            · have gk := blOf_get s k hlt
              have GK := Lib.hid gk
              clear gk
              by_cases hi : inWN (s[k]).toNat = true
              · have HI := Lib.hid hi
                clear hi
                go_wp2_with (go_at_call 25; refine (f_inWord _ _ (UInt8.toNat_lt _)).mono ?_; rintro e w' ⟨rfl, rfl⟩; rw [HI.out])
                go_round
                case rel => exact ⟨k + 1, by omega, by go_num, fun j hj => by
                  rcases Nat.lt_or_ge j k with h | h
                  · exact HNE.out j h
                  · rw [show j = k by omega, GK.out, inWB_n]; exact HI.out⟩
                case measure => simp [intOf]; omega
              · have hi' : inWN (s[k]).toNat = false := by simpa using hi
                have HI := Lib.hid hi'
                clear hi hi'
                go_wp2_with (go_at_call 25; refine (f_inWord _ _ (UInt8.toNat_lt _)).mono ?_; rintro e w' ⟨rfl, rfl⟩; rw [HI.out])
                go_ret
                refine ⟨?_, hb⟩
                rw [HT.out, not_all_of (j := k) (by rw [blOf_len]; exact hlt) (by rw [GK.out, inWB_n]; exact HI.out)]
                rfl
            · have hkn : k = s.size := by omega
              have hj0 : ¬ (k : Int) < (s.size : Int) := by omega
              have HKN := Lib.hid hkn
              clear hkn
              go_wp2_with fail
              go_ret
              refine ⟨?_, hb⟩
              rw [HT.out, all_of (fun j hj => HNE.out j (by rw [blOf_len] at hj; rw [HKN.out]; exact hj))]
              rfl
      · have hl' : lowN (s[0]).toNat = false := by simpa using hl
        have e : nameB (blOf s) = false := by unfold nameB; rw [headD_get, g0, lowB_n, hl']; simp
        have HE := Lib.hid e
        have HL := Lib.hid hl'
        clear e g0 hl hl' h0
        go_enter Tryd.func10, Tryd.ntmps10
        go_wp2_with (go_at_call 22; refine (f_letter _ _ (UInt8.toNat_lt _)).mono ?_; rintro e w' ⟨rfl, rfl⟩; rw [HL.out])
        go_ret
        exact ⟨by rw [HE.out]; rfl, Below.refl _ _⟩
    · have e : nameB (blOf s) = false := by unfold nameB; rw [blOf_len]; simp [h32]
      have q32 : (32 : Int) < (s.size : Int) := by omega
      have HE := Lib.hid e
      clear e h0
      go_enter Tryd.func10, Tryd.ntmps10
      go_wp2_with fail
      go_ret
      exact ⟨by rw [HE.out]; rfl, Below.refl _ _⟩
def IntBel (n : Int) (w : World) (e : Ending) (w' : World) : Prop := e = .returned (.int .i64 n) ∧ Below w.heap.size w w'
set_option maxHeartbeats 1000000 in
theorem f_kindOf (s : ByteArray) (w : World) :
    Calls Tryd.prog 57 #[.string s] w (IntBel (kindB (blOf s)) w) := by
  go_enter Tryd.func57, Tryd.ntmps57
  go_wp2_with (go_at_call 54; refine (f_names _).mono ?_; rintro e w1 ⟨v, rfl, hv, hb⟩; have HV := Lib.hid hv; clear hv)
  refine (s_Index _ nmB s _ HV.out (by decide)).mono ?_
  rintro e w' ⟨rfl, rfl⟩
  go_wp2_with fail
  go_ret
  exact ⟨rfl, hb⟩
end Go.Proofs.YthfmmememdlekaaDoor

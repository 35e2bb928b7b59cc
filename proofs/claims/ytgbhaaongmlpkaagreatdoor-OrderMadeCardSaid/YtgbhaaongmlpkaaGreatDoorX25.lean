/- Contracts: the reference's bytes of words and names of fields. Plain: the reference's reading of a condition is the program's: its test of a term, its walk over the terms, its text. Contracts: the reference's test of a term (printed by gen_fmrt.py). -/
import Derived.Test.YtgbhaaongmlpkaaGreatDoorX04
import Derived.Test.YtgbhaaongmlpkaaGreatDoorShelfF
import Derived.Test.YtgbhaaongmlpkaaGreatDoorX11
set_option linter.unusedVariables false
set_option linter.unusedSimpArgs false
namespace Go.Proofs.YtgbhaaongmlpkaaGreatDoor
open Go.RowKit Num

set_option maxHeartbeats 1000000 in
theorem r_inner (n : Nat) (w : World) (hn : n < 256) :
    Calls Tryz.prog 124 #[.int .u8 (n : Int)] w fun e w' => e = .returned (.bool (inWN n)) ∧ w = w' := by
  by_cases h1 : 97 ≤ n
  · by_cases h2 : n ≤ 122
    · have e : inWN n = true := by simp [inWN, lowN, h1, h2]
      rw [e]
      go_enter Tryz.func124, Tryz.ntmps124
      go_wp2_with fail
      go_ret
      exact ⟨rfl, rfl⟩
    · have e : inWN n = false := by
        have q : ¬ n ≤ 57 := by omega
        have q2 : ¬ n = 95 := by omega
        simp [inWN, lowN, h2, q, q2]
      have c1 : (48 : Int) ≤ (n : Int) := by omega
      have c2 : ¬ (n : Int) ≤ 57 := by omega
      have c3 : ¬ (n : Int) = 95 := by omega
      have c3b : ((n : Int) == 95) = false := by simp; omega
      have c4 : ¬ (n : Int) ≤ 122 := by omega
      rw [e]
      go_enter Tryz.func124, Tryz.ntmps124
      go_wp2_with fail
      go_ret
      exact ⟨rfl, rfl⟩
  · have z1 : ¬ (97 : Int) ≤ (n : Int) := by omega
    by_cases h3 : n = 95
    · subst h3
      go_enter Tryz.func124, Tryz.ntmps124
      go_wp2_with fail
      go_ret
      exact ⟨rfl, rfl⟩
    · have z3 : ¬ (n : Int) = 95 := by omega
      have z3b : ((n : Int) == 95) = false := by simp; omega
      by_cases h4 : 48 ≤ n
      · by_cases h5 : n ≤ 57
        · have e : inWN n = true := by simp [inWN, h4, h5]
          rw [e]
          go_enter Tryz.func124, Tryz.ntmps124
          go_wp2_with fail
          go_ret
          exact ⟨rfl, rfl⟩
        · have e : inWN n = false := by simp [inWN, lowN, h1, h5, h3]
          have z5 : ¬ (n : Int) ≤ 57 := by omega
          rw [e]
          go_enter Tryz.func124, Tryz.ntmps124
          go_wp2_with fail
          go_ret
          exact ⟨rfl, rfl⟩
      · have e : inWN n = false := by simp [inWN, lowN, h1, h4, h3]
        have z4 : ¬ (48 : Int) ≤ (n : Int) := by omega
        rw [e]
        go_enter Tryz.func124, Tryz.ntmps124
        go_wp2_with fail
        go_ret
        exact ⟨rfl, rfl⟩
/-- Go's table of spaces is as the library lays it. -/
def SpcOk (w : World) : Prop := Lib.TabIs Tryz.prog w "strings.asciiSpace" .u8 Lib.asciiSpaceTab
theorem spc_below {w w' : World} (h : SpcOk w) (hg : 2 < w.heap.size) (hb : Below w.heap.size w w') : SpcOk w' :=
  var?_below hb (by kernel_rfl) hg h
def resT : List UInt8 := [97, 108, 108, 32, 97, 110, 121, 32, 114, 101, 112, 111, 114, 116, 101, 114, 115, 32, 100, 101, 112, 97, 114, 116, 109, 101, 110, 116, 115, 32, 121, 101, 97, 114, 115, 32, 119, 105, 116, 104, 105, 110, 32, 110, 111, 116, 102, 105, 114, 115, 116, 32, 115, 97, 121, 115, 32, 97, 108, 119, 97, 121, 115, 32, 111, 102]
theorem res_fields : Lib.fields resT = resB := by decide
theorem res_ascii : ∀ (j : Nat) b, resT[j]? = some b → b.toNat < 128 := by
  intro j b h
  have : ∀ b ∈ resT, b.toNat < 128 := by decide
  exact this b (List.mem_of_getElem? h)
theorem r_words (w : World) (h : SpcOk w) : Calls Tryz.prog 125 #[.string (bsOf resT)] w fun e w' => ∃ v, e = .returned v ∧ StrsAt' w' v resB ∧ Below w.heap.size w w' := by
  refine (Tryz.strings_Fields (bsOf resT) w (by decide) (by simpa [bsOf] using res_ascii) h).mono ?_
  rintro e w' ⟨rfl, rfl⟩
  have e0 : (bsOf resT).data.toList = resT := by simp [bsOf]
  rw [e0, res_fields]
  refine ⟨_, rfl, ⟨w.heap.size, 0, _, _, rfl, rfl, by simp, fun k hk => ?_⟩, (Below.refl _ _).alloc (Nat.le_refl _) _⟩
  have hk' : k < 10 := hk
  have hb := Blk.new w 9 ((resB.map fun l => Value.string ⟨l.toArray⟩).toArray)
  refine (hb.cell (0 + k)).trans ?_
  have : k = 0 ∨ k = 1 ∨ k = 2 ∨ k = 3 ∨ k = 4 ∨ k = 5 ∨ k = 6 ∨ k = 7 ∨ k = 8 ∨ k = 9 := by omega
  rcases this with rfl | rfl | rfl | rfl | rfl | rfl | rfl | rfl | rfl | rfl <;> rfl
set_option maxRecDepth 100000 in
set_option maxHeartbeats 1000000 in
theorem r_Name (s : ByteArray) (w : World) (hs : s.size ≤ 4294967296) (hsp : SpcOk w) :
    Calls Tryz.prog 112 #[.string s] w (BoolBel (nameB (blOf s)) w) := by
  by_cases h0 : s.size = 0
  · have e : nameB (blOf s) = false := by unfold nameB; rw [blOf_len]; simp [h0]
    obtain rfl := (show s = ⟨#[]⟩ from blOf_inj (List.eq_nil_of_length_eq_zero (by rw [blOf_len]; exact h0)))
    rw [e]
    clear e h0 hs
    go_enter Tryz.func112, Tryz.ntmps112
    go_wp2_with fail
    go_ret
    exact ⟨rfl, Below.refl _ _⟩
  · have hpos : 0 < s.size := by omega
    have q1 : ¬ (s.size : Int) < 1 := by omega
    by_cases h32 : s.size ≤ 32
    · have q32 : ¬ (32 : Int) < (s.size : Int) := by omega
      have g0 := blOf_get s 0 hpos
      by_cases hlo : (s[0]).toNat < 97
      · have e : nameB (blOf s) = false := by unfold nameB; rw [headD_get, g0, lowB_n]; simp [lowN]; intro _ _ h; omega
        have q97 : ((s[0]).toNat : Int) < 97 := by omega
        have HE := Lib.hid e
        clear e g0 h0
        go_enter Tryz.func112, Tryz.ntmps112
        go_wp2_with fail
        go_ret
        exact ⟨by rw [HE.out]; rfl, Below.refl _ _⟩
      · have q97 : ¬ ((s[0]).toNat : Int) < 97 := by omega
        by_cases hhi : 122 < (s[0]).toNat
        · have e : nameB (blOf s) = false := by unfold nameB; rw [headD_get, g0, lowB_n]; simp [lowN]; intro _ _ h; omega
          have q122 : (122 : Int) < ((s[0]).toNat : Int) := by omega
          have HE := Lib.hid e
          clear e g0 h0
          go_enter Tryz.func112, Tryz.ntmps112
          go_wp2_with fail
          go_ret
          exact ⟨by rw [HE.out]; rfl, Below.refl _ _⟩
        · have q122 : ¬ (122 : Int) < ((s[0]).toNat : Int) := by omega
          have ht : nameB (blOf s) = ((blOf s).all inWB && !resB.contains (blOf s)) := by
            have hl : lowN (s[0]).toNat = true := by simp [lowN]; omega
            unfold nameB
            rw [headD_get, g0, lowB_n, hl, blOf_len]
            have h1 : 1 ≤ s.size := hpos
            simp only [h32, h1, decide_true, Bool.true_and, Bool.and_comm]
          have HT := Lib.hid ht
          have HSP := Lib.hid hsp
          clear ht g0 h0 hsp
          go_enter Tryz.func112, Tryz.ntmps112
          go_wp2_with fail
          go_loop [3, 26] (fun _ i => ∃ k : Nat, k ≤ s.size ∧ i = .int .i64 k ∧ ∀ j, j < k → inWB ((blOf s).getD j 0) = true) (fun _ i => s.size - (intOf i).toNat)
          case atStart => exact ⟨0, by omega, rfl, fun j hj => absurd hj (Nat.not_lt_zero _)⟩
          case round =>
            obtain ⟨k, hk, rfl, hne⟩ := hrel
            have HNE := Lib.hid hne
            clear hne
            by_cases hlt : k < s.size
            · have gk := blOf_get s k hlt
              have GK := Lib.hid gk
              clear gk
              by_cases hi : inWN (s[k]).toNat = true
              · have HI := Lib.hid hi
                clear hi
                go_wp2_with (go_at_call 124; refine (r_inner _ _ (UInt8.toNat_lt _)).mono ?_; rintro e w' ⟨rfl, rfl⟩; rw [HI.out])
                go_round
                case rel => exact ⟨k + 1, by omega, by go_num, fun j hj => by
                  rcases Nat.lt_or_ge j k with h | h
                  · exact HNE.out j h
                  · rw [show j = k by omega, GK.out, inWB_n]; exact HI.out⟩
                case measure => simp [intOf]; omega
              · have hi' : inWN (s[k]).toNat = false := by simpa using hi
                have HI := Lib.hid hi'
                clear hi hi'
                go_wp2_with (go_at_call 124; refine (r_inner _ _ (UInt8.toNat_lt _)).mono ?_; rintro e w' ⟨rfl, rfl⟩; rw [HI.out])
                go_ret
                refine ⟨?_, Below.refl _ _⟩
                rw [HT.out, not_all_of (j := k) (by rw [blOf_len]; exact hlt) (by rw [GK.out, inWB_n]; exact HI.out)]
                rfl
            · have hkn : k = s.size := by omega
              have hj0 : ¬ (k : Int) < (s.size : Int) := by omega
              have ha := all_of (l := blOf s) (p := inWB) (fun j hj => HNE.out j (by rw [blOf_len] at hj; rw [hkn]; exact hj))
              have ht2 : nameB (blOf s) = !resB.contains (blOf s) := by rw [HT.out, ha, Bool.true_and]
              have HT2 := Lib.hid ht2
              clear hkn ht2 ha
              go_wp2_with (go_at_call 125; go_loud (refine (r_words _ HSP.out).mono ?_; rintro e w1 ⟨v, rfl, ⟨g, off, n, c, rfl, hn, hg, hc⟩, hb⟩; obtain rfl : n = 10 := hn; have HC := Lib.hid hc; clear hc))
              go_loop [5, 37] (fun _ i => ∃ k : Nat, k ≤ 10 ∧ i = .int .i64 k ∧ ∀ j, j < k → resB.getD j [] ≠ blOf s) (fun _ i => 10 - (intOf i).toNat)
              case atStart => exact ⟨0, by omega, rfl, fun j hj => absurd hj (Nat.not_lt_zero _)⟩
              case round =>
                obtain ⟨k, hk, rfl, hne⟩ := hrel
                have HNE := Lib.hid hne
                clear hne
                by_cases hlt : k < 10
                · have hcell := HC.out k hlt
                  obtain ⟨x, hx⟩ : ∃ x, resB.getD k [] = x := ⟨_, rfl⟩
                  rw [hx] at hcell
                  have HX := Lib.hid hx
                  clear hx
                  by_cases hs : x = blOf s
                  · have e1 : ((bsOf x).toList == s.toList) = true := seq_true (by rw [hs, bsOf_blOf])
                    have hin : resB.contains (blOf s) = true := by
                      rw [← hs, ← HX.out]
                      exact List.contains_iff_mem.2 (by rw [List.getD_eq_getElem?_getD, List.getElem?_eq_getElem (show k < resB.length from hlt)]; exact List.getElem_mem _)
                    have HI := Lib.hid hin
                    clear hs hin
                    go_wp2_with fail
                    go_ret
                    exact ⟨by rw [HT2.out, HI.out]; rfl, hb⟩
                  · have e1 : ((bsOf x).toList == s.toList) = false := seq_false (fun h => hs (by rw [blOf_bsOf] at h; exact h))
                    have HS := Lib.hid hs
                    clear hs
                    go_wp2_with fail
                    go_round
                    case rel => exact ⟨k + 1, by omega, by go_num, fun j hj => by
                      rcases Nat.lt_or_ge j k with h | h
                      · exact HNE.out j h
                      · rw [show j = k by omega, HX.out]; exact HS.out⟩
                    case measure => simp [intOf]; omega
                · have hkn : k = 10 := by omega
                  have hj0 : ¬ (k : Int) < 10 := by omega
                  have hin : resB.contains (blOf s) = false := by
                    rw [Bool.eq_false_iff]
                    intro h
                    obtain ⟨j, hj, e⟩ := List.getElem_of_mem (List.contains_iff_mem.1 h)
                    have h1 := HNE.out j (by rw [hkn]; exact hj)
                    rw [List.getD_eq_getElem?_getD, List.getElem?_eq_getElem hj] at h1
                    exact h1 e
                  have HI := Lib.hid hin
                  clear hin
                  subst hkn
                  go_wp2_with fail
                  go_ret
                  exact ⟨by rw [HT2.out, HI.out]; rfl, hb⟩
    · have e : nameB (blOf s) = false := by unfold nameB; rw [blOf_len]; simp [h32]
      have q32 : (32 : Int) < (s.size : Int) := by omega
      have HE := Lib.hid e
      clear e h0
      go_enter Tryz.func112, Tryz.ntmps112
      go_wp2_with fail
      go_ret
      exact ⟨by rw [HE.out]; rfl, Below.refl _ _⟩
end Go.Proofs.YtgbhaaongmlpkaaGreatDoor
namespace Go.Proofs.YtgbhaaongmlpkaaGreatDoor
open Go.RowKit Num

/-- The reference's test of a term. -/
def rtermB (t : Trm) : Bool :=
  let counted := betwB t.num 64
  let plain := decide (t.yrs = 0 ∧ t.field.size = 0 ∧ t.text.size = 0)
  if t.kind = 1 ∨ t.kind = 2 then decide (2 ≤ t.args.length) && decide (t.num = 0) && plain
  else if t.kind = 3 ∨ t.kind = 4 then decide (t.args.length = 0) && counted && plain
  else if t.kind = 5 then decide (t.args.length = 0) && counted && decide (0 ≤ t.yrs ∧ t.yrs ≤ 100) && decide (t.field.size = 0 ∧ t.text.size = 0)
  else if t.kind = 6 ∨ t.kind = 8 then decide (t.args.length = 0) && decide (t.num = 0) && plain
  else if t.kind = 7 then decide (t.args.length = 0) && counted && decide (t.yrs = 0) && nameB (blOf t.field) && betwB t.text.size 256 && !(blOf t.text).contains 34
  else false
theorem rterm_eq (t : Trm) : rtermB t = (bareB t && argsOk t) := by
  have hsev : severalB t.kind = decide (t.kind = 1 ∨ t.kind = 2) := rfl
  rw [Bool.eq_iff_iff]
  unfold rtermB bareB argsOk
  rw [hsev]
  simp only
  by_cases c1 : t.kind = 1 ∨ t.kind = 2
  · have c1' : t.kind = 1 ∨ t.kind = 2 ∨ t.kind = 6 ∨ t.kind = 8 := by omega
    rw [if_pos c1, if_pos c1']
    simp only [c1, Bool.and_eq_true, decide_eq_true_eq, decide_true, beq_iff_eq, ne_eq]
    constructor
    · rintro ⟨⟨h1, h2⟩, h3, h4, h5⟩
      exact ⟨⟨h2, h3, h4, h5⟩, (decide_eq_true (by omega : 0 < t.args.length)).symm, by omega⟩
    · rintro ⟨⟨h2, h3, h4, h5⟩, h6, h7⟩
      have := of_decide_eq_true h6.symm
      exact ⟨⟨by omega, h2⟩, h3, h4, h5⟩
  · rw [if_neg c1]
    have hs : decide (t.kind = 1 ∨ t.kind = 2) = false := decide_eq_false c1
    rw [hs]
    have harg : ((false == decide (0 < t.args.length)) && decide (t.args.length ≠ 1)) = true ↔ t.args.length = 0 := by
      simp only [Bool.and_eq_true, beq_iff_eq, decide_eq_true_eq]
      constructor
      · rintro ⟨h1, _⟩
        have := of_decide_eq_false h1.symm
        omega
      · intro h
        exact ⟨(decide_eq_false (by omega)).symm, by omega⟩
    rw [Bool.and_eq_true, harg]
    by_cases c3 : t.kind = 3 ∨ t.kind = 4
    · rw [if_pos c3, if_neg (by omega), if_pos c3]
      simp only [Bool.and_eq_true, decide_eq_true_eq]
      constructor
      · rintro ⟨⟨h1, h2⟩, h3⟩; exact ⟨⟨h2, h3⟩, h1⟩
      · rintro ⟨⟨h2, h3⟩, h1⟩; exact ⟨⟨h1, h2⟩, h3⟩
    · rw [if_neg c3]
      by_cases c5 : t.kind = 5
      · rw [if_pos c5, if_neg (by omega), if_neg c3, if_pos c5]
        simp only [Bool.and_eq_true, decide_eq_true_eq]
        constructor
        · rintro ⟨⟨⟨h1, h2⟩, h3⟩, h4⟩; exact ⟨⟨h2, h3.1, h3.2, h4.1, h4.2⟩, h1⟩
        · rintro ⟨⟨h2, h3, h4, h5, h6⟩, h1⟩; exact ⟨⟨⟨h1, h2⟩, h3, h4⟩, h5, h6⟩
      · rw [if_neg c5]
        by_cases c6 : t.kind = 6 ∨ t.kind = 8
        · rw [if_pos c6, if_pos (by omega)]
          simp only [Bool.and_eq_true, decide_eq_true_eq]
          constructor
          · rintro ⟨⟨h1, h2⟩, h3⟩; exact ⟨⟨h2, h3⟩, h1⟩
          · rintro ⟨⟨h2, h3⟩, h1⟩; exact ⟨⟨h1, h2⟩, h3⟩
        · rw [if_neg c6]
          by_cases c7 : t.kind = 7
          · rw [if_pos c7, if_neg (by omega), if_neg c3, if_neg c5, if_pos c7]
            simp only [Bool.and_eq_true, decide_eq_true_eq]
            constructor
            · rintro ⟨⟨⟨⟨⟨h1, h2⟩, h3⟩, h4⟩, h5⟩, h6⟩; exact ⟨⟨⟨⟨⟨h2, h4⟩, h5⟩, h6⟩, h3⟩, h1⟩
            · rintro ⟨⟨⟨⟨⟨h2, h4⟩, h5⟩, h6⟩, h3⟩, h1⟩; exact ⟨⟨⟨⟨⟨h1, h2⟩, h3⟩, h4⟩, h5⟩, h6⟩
          · rw [if_neg c7, if_neg (by omega), if_neg c3, if_neg c5, if_neg c7]
            simp
/-- What the reference's walk gives: the number of the term behind, or -1. -/
def walkI (o : Option (Tree × Nat)) : Int := match o with
  | none => -1
  | some (_, n) => (n : Int)
theorem walk_whole {L : List Trm} : (decide (1 ≤ L.length) && decide (L.length ≤ 24) && decide (walkI (growF L 6 0) = (L.length : Int))) = (rootF L).isSome := by
  unfold rootF
  by_cases h24 : L.length ≤ 24
  · rw [if_pos h24]
    rcases hg : growF L 6 0 with _ | ⟨T, n⟩
    · have e : walkI (none : Option (Tree × Nat)) = -1 := rfl
      rw [e]
      have : ¬ (-1 : Int) = (L.length : Int) := by omega
      simp [this]
    · have e : walkI (some (T, n)) = (n : Int) := rfl
      rw [e]
      have h1 := (flat_grow 6 hg).2
      by_cases hn : n = L.length
      · simp only [hn, if_true]
        have : 1 ≤ L.length := by omega
        simp [h24, this]
      · simp only [if_neg hn]
        have : ¬ (n : Int) = (L.length : Int) := by omega
        simp [this]
  · rw [if_neg h24]
    simp [h24]
end Go.Proofs.YtgbhaaongmlpkaaGreatDoor
namespace Go.Proofs.YtgbhaaongmlpkaaGreatDoor
open Go.RowKit Num

/-- No years, no field, no text. -/
def plainB (y : Int) (f x : ByteArray) : Bool := decide (y = 0 ∧ f.size = 0 ∧ x.size = 0)
theorem ne_empty {s : ByteArray} (h : s.size ≠ 0) : (s.toList == []) = false ∧ ¬ s.toList = [] ∧ (!s.toList.isEmpty) = true := by
  rw [ByteArray.toList_eq]
  cases hl : s.data.toList with
  | nil => exact absurd (by rw [← blOf_len]; show s.data.toList.length = 0; rw [hl]; rfl) h
  | cons a r => exact ⟨rfl, by simp, rfl⟩
theorem eq_empty {s : ByteArray} (h : s.size = 0) : s = ⟨#[]⟩ := blOf_inj (List.eq_nil_of_length_eq_zero (by rw [blOf_len]; exact h))
theorem contains_quote (x : ByteArray) (w : World) : Calls Tryz.prog 113 #[.string x, .string ⟨#[34]⟩] w fun e w' => e = .returned (.bool ((blOf x).contains 34)) ∧ w' = w := by
  refine (Tryz.strings_Contains_one x 34 w).mono ?_
  rintro e w' ⟨rfl, rfl⟩
  exact ⟨congrArg (fun b => Ending.returned (.bool b)) (indexByte_has _ _), rfl⟩
set_option maxRecDepth 100000 in
set_option maxHeartbeats 4000000 in
theorem r_term (k n y : Int) (f x : ByteArray) (A : Option Addr) (m c : Nat) (args : List Int) (w : World) (hm : m = args.length) (hf : f.size ≤ 4294967296) (hx : x.size ≤ 4294967296) (hl : LibOk w) (hsp : SpcOk w) :
    Calls Tryz.prog 101 #[.agg #[.int .i64 k, .int .i64 n, .int .i64 y, .string f, .string x, .slice A m c]] w (BoolBel (rtermB ⟨k, n, y, f, x, args⟩) w) := by
  have hb1 : Below w.heap.size w (w.alloc (.cells #[.int .i64 k, .int .i64 n, .int .i64 y, .string f, .string x, .slice A m c] 46)) := (Below.refl _ _).alloc (Nat.le_refl _) _
  have hs1 : SpcOk (w.alloc (.cells #[.int .i64 k, .int .i64 n, .int .i64 y, .string f, .string x, .slice A m c] 46)) := spc_below hsp (by have := hl.size; show 2 < _; omega) hb1
  have HB1 := Lib.hid hb1
  have HS1 := Lib.hid hs1
  have e : rtermB ⟨k, n, y, f, x, args⟩ = (if k = 1 ∨ k = 2 then decide (2 ≤ m) && decide (n = 0) && plainB y f x
    else if k = 3 ∨ k = 4 then decide (m = 0) && betwB n 64 && plainB y f x
    else if k = 5 then decide (m = 0) && betwB n 64 && decide (0 ≤ y ∧ y ≤ 100) && decide (f.size = 0 ∧ x.size = 0)
    else if k = 6 ∨ k = 8 then decide (m = 0) && decide (n = 0) && plainB y f x
    else if k = 7 then decide (m = 0) && betwB n 64 && decide (y = 0) && nameB (blOf f) && betwB x.size 256 && !(blOf x).contains 34
    else false) := by rw [hm]; rfl
  have E := Lib.hid e
  clear e hs1 hb1 hsp hm
  go_enter Tryz.func101, Tryz.ntmps101
  go_upto_region 1 with (fail)
  go_cut [3] from 5 to 13 (fun a wx => a = .bool (betwB n 64) ∧ wx = (w.alloc (.cells #[.int .i64 k, .int .i64 n, .int .i64 y, .string f, .string x, .slice A m c] 46)))
  case first =>
    clear E HS1 HB1
    have hbw : betwB n 64 = decide (1 ≤ n ∧ n ≤ 64) := rfl
    have HBW := Lib.hid hbw
    clear hbw
    by_cases c1 : 1 ≤ n
    · by_cases c2 : n ≤ 64
      · go_wp2_with fail
        go_meet
        exact ⟨by rw [HBW.out]; simp; omega, rfl⟩
      · go_wp2_with fail
        go_meet
        exact ⟨by rw [HBW.out]; simp; omega, rfl⟩
    · go_wp2_with fail
      go_meet
      exact ⟨by rw [HBW.out]; simp; omega, rfl⟩
  case rest =>
  obtain ⟨rfl, rfl⟩ := hcut
  obtain ⟨cb, hcb⟩ : ∃ b, betwB n 64 = b := ⟨_, rfl⟩
  rw [hcb]
  have HCB := Lib.hid hcb
  clear hcb
  go_upto_region 2 with (fail)
  go_cut [4] from 13 to 26 (fun b wx => b = .bool (plainB y f x) ∧ wx = (w.alloc (.cells #[.int .i64 k, .int .i64 n, .int .i64 y, .string f, .string x, .slice A m c] 46)))
  case first =>
    clear E HS1 HB1
    by_cases hy : y = 0
    · subst hy
      by_cases hfz : f.size = 0
      · obtain rfl := eq_empty hfz
        by_cases hxz : x.size = 0
        · obtain rfl := eq_empty hxz
          go_wp2_with fail
          go_meet
          exact ⟨by simp [plainB]; rfl, rfl⟩
        · obtain ⟨z1, z2, z3⟩ := ne_empty hxz
          go_wp2_with fail
          go_meet
          exact ⟨by simp [plainB, hxz], rfl⟩
      · obtain ⟨z1, z2, z3⟩ := ne_empty hfz
        go_wp2_with fail
        go_meet
        exact ⟨by simp [plainB, hfz], rfl⟩
    · have hyb : (y == 0) = false := by simp [hy]
      go_wp2_with fail
      go_meet
      exact ⟨by simp [plainB, hy], rfl⟩
  case rest =>
    obtain ⟨rfl, rfl⟩ := hcut
    obtain ⟨pb, hpb⟩ : ∃ b, plainB y f x = b := ⟨_, rfl⟩
    rw [hpb]
    have HPB := Lib.hid hpb
    clear hpb
    by_cases k1 : k = 1
    · obtain rfl := k1
      by_cases hm2 : 2 ≤ m
      · have hm3 : (2 : Int) ≤ (m : Int) := by omega
        by_cases hn0 : n = 0
        · subst hn0
          cases pb
          · skip
            go_wp2_with fail
            go_ret
            exact ⟨by rw [E.out]; simp [HCB.out, HPB.out, hm2] <;> (intros; omega), HB1.out⟩
          · skip
            go_wp2_with fail
            go_ret
            exact ⟨by rw [E.out]; simp [HCB.out, HPB.out, hm2] <;> (intros; omega), HB1.out⟩
        · have hn1 : (n == 0) = false := by simp [hn0]
          go_wp2_with fail
          go_ret
          exact ⟨by rw [E.out]; simp [HCB.out, HPB.out, hm2, hn0] <;> (intros; omega), HB1.out⟩
      · have hm3 : ¬ (2 : Int) ≤ (m : Int) := by omega
        go_wp2_with fail
        go_ret
        exact ⟨by rw [E.out]; simp [HCB.out, HPB.out, hm2] <;> (intros; omega), HB1.out⟩
    have kb1 : (k == 1) = false := by simp [k1]
    by_cases k2 : k = 2
    · obtain rfl := k2
      by_cases hm2 : 2 ≤ m
      · have hm3 : (2 : Int) ≤ (m : Int) := by omega
        by_cases hn0 : n = 0
        · subst hn0
          cases pb
          · skip
            go_wp2_with fail
            go_ret
            exact ⟨by rw [E.out]; simp [HCB.out, HPB.out, hm2] <;> (intros; omega), HB1.out⟩
          · skip
            go_wp2_with fail
            go_ret
            exact ⟨by rw [E.out]; simp [HCB.out, HPB.out, hm2] <;> (intros; omega), HB1.out⟩
        · have hn1 : (n == 0) = false := by simp [hn0]
          go_wp2_with fail
          go_ret
          exact ⟨by rw [E.out]; simp [HCB.out, HPB.out, hm2, hn0] <;> (intros; omega), HB1.out⟩
      · have hm3 : ¬ (2 : Int) ≤ (m : Int) := by omega
        go_wp2_with fail
        go_ret
        exact ⟨by rw [E.out]; simp [HCB.out, HPB.out, hm2] <;> (intros; omega), HB1.out⟩
    have kb2 : (k == 2) = false := by simp [k2]
    by_cases k3 : k = 3
    · obtain rfl := k3
      by_cases hm0 : m = 0
      · subst hm0
        cases cb
        · skip
          go_wp2_with fail
          go_ret
          exact ⟨by rw [E.out]; simp [HCB.out, HPB.out] <;> (intros; omega), HB1.out⟩
        · skip
          cases pb
          · skip
            go_wp2_with fail
            go_ret
            exact ⟨by rw [E.out]; simp [HCB.out, HPB.out] <;> (intros; omega), HB1.out⟩
          · skip
            go_wp2_with fail
            go_ret
            exact ⟨by rw [E.out]; simp [HCB.out, HPB.out] <;> (intros; omega), HB1.out⟩
      · have hm1 : ((m : Int) == 0) = false := by simp; omega
        have hm2 : ¬ (m : Int) = 0 := by omega
        go_wp2_with fail
        go_ret
        exact ⟨by rw [E.out]; simp [HCB.out, HPB.out, hm0] <;> (intros; omega), HB1.out⟩
    have kb3 : (k == 3) = false := by simp [k3]
    by_cases k4 : k = 4
    · obtain rfl := k4
      by_cases hm0 : m = 0
      · subst hm0
        cases cb
        · skip
          go_wp2_with fail
          go_ret
          exact ⟨by rw [E.out]; simp [HCB.out, HPB.out] <;> (intros; omega), HB1.out⟩
        · skip
          cases pb
          · skip
            go_wp2_with fail
            go_ret
            exact ⟨by rw [E.out]; simp [HCB.out, HPB.out] <;> (intros; omega), HB1.out⟩
          · skip
            go_wp2_with fail
            go_ret
            exact ⟨by rw [E.out]; simp [HCB.out, HPB.out] <;> (intros; omega), HB1.out⟩
      · have hm1 : ((m : Int) == 0) = false := by simp; omega
        have hm2 : ¬ (m : Int) = 0 := by omega
        go_wp2_with fail
        go_ret
        exact ⟨by rw [E.out]; simp [HCB.out, HPB.out, hm0] <;> (intros; omega), HB1.out⟩
    have kb4 : (k == 4) = false := by simp [k4]
    by_cases k5 : k = 5
    · obtain rfl := k5
      by_cases hm0 : m = 0
      · subst hm0
        cases cb
        · skip
          go_wp2_with fail
          go_ret
          exact ⟨by rw [E.out]; simp [HCB.out, HPB.out] <;> (intros; omega), HB1.out⟩
        · skip
          by_cases hy0 : 0 ≤ y
          · skip
            by_cases hy1 : y ≤ 100
            · skip
              by_cases hfz : f.size = 0
              · obtain rfl := eq_empty hfz
                by_cases hxz : x.size = 0
                · obtain rfl := eq_empty hxz
                  go_wp2_with fail
                  go_ret
                  exact ⟨by rw [E.out]; simp [HCB.out, HPB.out, hy0, hy1, hfz, hxz] <;> (intros; omega), HB1.out⟩
                · obtain ⟨z1, z2, z3⟩ := ne_empty hxz
                  go_wp2_with fail
                  go_ret
                  exact ⟨by rw [E.out]; simp [HCB.out, HPB.out, hy0, hy1, hfz, hxz] <;> (intros; omega), HB1.out⟩
              · obtain ⟨z1, z2, z3⟩ := ne_empty hfz
                go_wp2_with fail
                go_ret
                exact ⟨by rw [E.out]; simp [HCB.out, HPB.out, hy0, hy1, hfz] <;> (intros; omega), HB1.out⟩
            · skip
              go_wp2_with fail
              go_ret
              exact ⟨by rw [E.out]; simp [HCB.out, HPB.out, hy0, hy1] <;> (intros; omega), HB1.out⟩
          · skip
            go_wp2_with fail
            go_ret
            exact ⟨by rw [E.out]; simp [HCB.out, HPB.out, hy0] <;> (intros; omega), HB1.out⟩
      · have hm1 : ((m : Int) == 0) = false := by simp; omega
        have hm2 : ¬ (m : Int) = 0 := by omega
        go_wp2_with fail
        go_ret
        exact ⟨by rw [E.out]; simp [HCB.out, HPB.out, hm0] <;> (intros; omega), HB1.out⟩
    have kb5 : (k == 5) = false := by simp [k5]
    by_cases k6 : k = 6
    · obtain rfl := k6
      by_cases hm0 : m = 0
      · subst hm0
        by_cases hn0 : n = 0
        · subst hn0
          cases pb
          · skip
            go_wp2_with fail
            go_ret
            exact ⟨by rw [E.out]; simp [HCB.out, HPB.out] <;> (intros; omega), HB1.out⟩
          · skip
            go_wp2_with fail
            go_ret
            exact ⟨by rw [E.out]; simp [HCB.out, HPB.out] <;> (intros; omega), HB1.out⟩
        · have hn1 : (n == 0) = false := by simp [hn0]
          go_wp2_with fail
          go_ret
          exact ⟨by rw [E.out]; simp [HCB.out, HPB.out, hn0] <;> (intros; omega), HB1.out⟩
      · have hm1 : ((m : Int) == 0) = false := by simp; omega
        have hm2 : ¬ (m : Int) = 0 := by omega
        go_wp2_with fail
        go_ret
        exact ⟨by rw [E.out]; simp [HCB.out, HPB.out, hm0] <;> (intros; omega), HB1.out⟩
    have kb6 : (k == 6) = false := by simp [k6]
    by_cases k8 : k = 8
    · obtain rfl := k8
      by_cases hm0 : m = 0
      · subst hm0
        by_cases hn0 : n = 0
        · subst hn0
          cases pb
          · skip
            go_wp2_with fail
            go_ret
            exact ⟨by rw [E.out]; simp [HCB.out, HPB.out] <;> (intros; omega), HB1.out⟩
          · skip
            go_wp2_with fail
            go_ret
            exact ⟨by rw [E.out]; simp [HCB.out, HPB.out] <;> (intros; omega), HB1.out⟩
        · have hn1 : (n == 0) = false := by simp [hn0]
          go_wp2_with fail
          go_ret
          exact ⟨by rw [E.out]; simp [HCB.out, HPB.out, hn0] <;> (intros; omega), HB1.out⟩
      · have hm1 : ((m : Int) == 0) = false := by simp; omega
        have hm2 : ¬ (m : Int) = 0 := by omega
        go_wp2_with fail
        go_ret
        exact ⟨by rw [E.out]; simp [HCB.out, HPB.out, hm0] <;> (intros; omega), HB1.out⟩
    have kb8 : (k == 8) = false := by simp [k8]
    by_cases k7 : k = 7
    · obtain rfl := k7
      by_cases hm0 : m = 0
      · subst hm0
        cases cb
        · skip
          go_wp2_with fail
          go_ret
          exact ⟨by rw [E.out]; simp [HCB.out, HPB.out] <;> (intros; omega), HB1.out⟩
        · by_cases hy7 : y = 0
          · subst hy7
            obtain ⟨nb, hnb⟩ : ∃ b, nameB (blOf f) = b := ⟨_, rfl⟩
            obtain ⟨qb, hqb⟩ : ∃ b, (blOf x).contains 34 = b := ⟨_, rfl⟩
            have HN := Lib.hid hnb
            have HC := Lib.hid hqb
            clear hnb hqb
            cases nb
            · skip
              go_wp2_with (first | (go_at_call 112; refine (r_Name f _ hf HS1.out).mono ?_; rintro e wn ⟨rfl, hbn0⟩; rw [HN.out]; obtain ⟨hcc, hff⟩ := bcellx hbn0) | (go_at_call 113; refine (contains_quote x _).mono ?_; rintro e wq ⟨rfl, rfl⟩; rw [HC.out]))
              go_ret
              exact ⟨by rw [E.out, HCB.out, HN.out, HC.out]; simp [betwB, HPB.out] <;> (intros; omega), HB1.out.trans (hbn0.mono (by simp))⟩
            · by_cases hx1 : 1 ≤ x.size
              · have hx2 : (1 : Int) ≤ (x.size : Int) := by omega
                by_cases hx3 : x.size ≤ 256
                · have hx4 : (x.size : Int) ≤ 256 := by omega
                  cases qb
                  · skip
                    go_wp2_with (first | (go_at_call 112; refine (r_Name f _ hf HS1.out).mono ?_; rintro e wn ⟨rfl, hbn0⟩; rw [HN.out]; obtain ⟨hcc, hff⟩ := bcellx hbn0) | (go_at_call 113; refine (contains_quote x _).mono ?_; rintro e wq ⟨rfl, rfl⟩; rw [HC.out]))
                    go_ret
                    exact ⟨by rw [E.out, HCB.out, HN.out, HC.out]; simp [betwB, HPB.out, hx1, hx2, hx3, hx4] <;> (intros; omega), HB1.out.trans (hbn0.mono (by simp))⟩
                  · skip
                    go_wp2_with (first | (go_at_call 112; refine (r_Name f _ hf HS1.out).mono ?_; rintro e wn ⟨rfl, hbn0⟩; rw [HN.out]; obtain ⟨hcc, hff⟩ := bcellx hbn0) | (go_at_call 113; refine (contains_quote x _).mono ?_; rintro e wq ⟨rfl, rfl⟩; rw [HC.out]))
                    go_ret
                    exact ⟨by rw [E.out, HCB.out, HN.out, HC.out]; simp [betwB, HPB.out, hx1, hx2, hx3, hx4] <;> (intros; omega), HB1.out.trans (hbn0.mono (by simp))⟩
                · have hx4 : ¬ (x.size : Int) ≤ 256 := by omega
                  go_wp2_with (first | (go_at_call 112; refine (r_Name f _ hf HS1.out).mono ?_; rintro e wn ⟨rfl, hbn0⟩; rw [HN.out]; obtain ⟨hcc, hff⟩ := bcellx hbn0) | (go_at_call 113; refine (contains_quote x _).mono ?_; rintro e wq ⟨rfl, rfl⟩; rw [HC.out]))
                  go_ret
                  exact ⟨by rw [E.out, HCB.out, HN.out, HC.out]; simp [betwB, HPB.out, hx1, hx2, hx3, hx4] <;> (intros; omega), HB1.out.trans (hbn0.mono (by simp))⟩
              · have hx2 : ¬ (1 : Int) ≤ (x.size : Int) := by omega
                go_wp2_with (first | (go_at_call 112; refine (r_Name f _ hf HS1.out).mono ?_; rintro e wn ⟨rfl, hbn0⟩; rw [HN.out]; obtain ⟨hcc, hff⟩ := bcellx hbn0) | (go_at_call 113; refine (contains_quote x _).mono ?_; rintro e wq ⟨rfl, rfl⟩; rw [HC.out]))
                go_ret
                exact ⟨by rw [E.out, HCB.out, HN.out, HC.out]; simp [betwB, HPB.out, hx1, hx2] <;> (intros; omega), HB1.out.trans (hbn0.mono (by simp))⟩
          · have hy8 : (y == 0) = false := by simp [hy7]
            go_wp2_with fail
            go_ret
            exact ⟨by rw [E.out]; simp [HCB.out, HPB.out, hy7] <;> (intros; omega), HB1.out⟩
      · have hm1 : ((m : Int) == 0) = false := by simp; omega
        have hm2 : ¬ (m : Int) = 0 := by omega
        go_wp2_with fail
        go_ret
        exact ⟨by rw [E.out]; simp [HCB.out, HPB.out, hm0] <;> (intros; omega), HB1.out⟩
    have kb7 : (k == 7) = false := by simp [k7]
    go_wp2_with fail
    go_ret
    exact ⟨by rw [E.out]; simp [k1, k2, k3, k4, k5, k6, k7, k8], HB1.out⟩
end Go.Proofs.YtgbhaaongmlpkaaGreatDoor

/- The reference's digits, Text, number and Parse: what they return. -/
import Derived.Test.YtbgodionpdemeaaDoorCalParse
import Derived.Test.YtbgodionpdemeaaDoorCalRefP
set_option linter.unusedVariables false
set_option linter.unusedSimpArgs false
namespace Go.Proofs.YtbgodionpdemeaaDoor
open Go.RowKit Cal

theorem ten_ext (n : Int) (j : Nat) (r : Nat) (hr : n.toNat / 10 ^ j % 10 = r) : (⟨#[48, 49, 50, 51, 52, 53, 54, 55, 56, 57]⟩ : ByteArray).extract r (r + 1) = ⟨([dg n j] : List UInt8).toArray⟩ := by
  apply ByteArray.ext
  apply Array.toList_inj.1
  rw [Lib.extract_data, show r + 1 - r = 1 from by omega]
  exact ten_at n j r hr

set_option maxHeartbeats 1000000 in
theorem ref_digits (n : Int) (wd : Nat) (w : World) (h0 : 0 ≤ n) (h1 : n < 10000) (hw : wd ≤ 4) :
    Calls Tryd.prog 21 #[.int .i64 n, .int .i64 wd] w fun e w' => e = .returned (.string ⟨(digs n wd).toArray⟩) ∧ w = w' := by
  go_enter Tryd.func21, Tryd.ntmps21
  go_wp2_with fail
  go_loop [0, 5, 7] (fun x s i => ∃ k : Nat, k ≤ wd ∧ i = .int .i64 k ∧ x = .int .i64 ((n.toNat / 10 ^ k : Nat) : Int) ∧ s = .string ⟨(digs n k).toArray⟩) (fun _ _ i => (wd - intOf i).toNat)
  case atStart => exact ⟨0, by omega, rfl, int_eq (by simp; omega), rfl⟩
  case round =>
    obtain ⟨k, hk, rfl, rfl, rfl⟩ := hrel
    by_cases hlt : k < wd
    · obtain ⟨q, hq⟩ : ∃ q, n.toNat / 10 ^ k = q := ⟨_, rfl⟩
      have hq2 : q < 10000 := by rw [← hq]; exact Nat.lt_of_le_of_lt (Nat.div_le_self _ _) (by omega)
      rw [hq]
      have hx := ten_ext n k (q % 10) (by rw [hq])
      have hlen := digs_len n k
      have HQ := Lib.hid hq
      have hm0 : 0 ≤ (q : Int) % 10 := by omega
      have hm1 : (q : Int) % 10 < 10 := by omega
      clear hq
      go_wp2_with fail
      go_round
      case rel => exact ⟨k + 1, by omega, by go_num, int_eq (by rw [Nat.pow_succ, ← Nat.div_div_eq_div_mul, HQ.out]; rfl), congrArg Value.string (bapp [dg n k] _)⟩
      case measure => simp [intOf]; omega
    · obtain rfl : k = wd := by omega
      go_wp2_with fail
      go_ret
      exact ⟨rfl, rfl⟩

set_option maxHeartbeats 1000000 in
theorem ref_Text_t (n : Int) (w : World) (h : okN n) :
    Calls Tryd.prog 10 #[.int .i64 n] w fun e w' => e = .returned (.tuple #[.string ⟨(textN n).toArray⟩, .int .i64 0]) ∧ w = w' := by
  have hE := dtE_ok h
  have hT : textN n = textL (dtY n) (dtM n) (dtD n) := if_pos h
  obtain ⟨a, b, c, d, e1, e2⟩ := (dt_ok h).1
  have hl := len_bd (dtY n) (dtM n)
  have HT := Lib.hid hT
  clear hT
  go_enter Tryd.func10, Tryd.ntmps10
  go_wp2_with fail
  refine (ref_Date _ _).mono ?_
  rintro e w1 ⟨rfl, rfl⟩
  go_wp2_with fail
  refine (ref_digits _ 4 _ (by omega) (by omega) (by omega)).mono ?_
  rintro e w1 ⟨rfl, rfl⟩
  rw [digs4]
  go_wp2_with fail
  refine (ref_digits _ 2 _ (by omega) (by omega) (by omega)).mono ?_
  rintro e w1 ⟨rfl, rfl⟩
  rw [digs2]
  go_wp2_with fail
  refine (ref_digits _ 2 _ (by omega) (by omega) (by omega)).mono ?_
  rintro e w1 ⟨rfl, rfl⟩
  rw [digs2]
  go_wp2_with fail
  go_ret2
  refine ⟨?_, rfl⟩
  show Ending.returned (.tuple #[.string ((⟨(dig4 (dtY n)).toArray⟩ : ByteArray) ++ ⟨([45] : List UInt8).toArray⟩ ++ ⟨(dig2 (dtM n)).toArray⟩ ++ ⟨([45] : List UInt8).toArray⟩ ++ ⟨(dig2 (dtD n)).toArray⟩), .int .i64 0]) = _
  rw [bapp, bapp, bapp, bapp, HT.out]
  rfl
set_option maxHeartbeats 1000000 in
theorem ref_Text_f (n : Int) (w : World) (h : ¬ okN n) :
    Calls Tryd.prog 10 #[.int .i64 n] w fun e w' => e = .returned (.tuple #[.string ⟨#[]⟩, .int .i64 2]) ∧ w = w' := by
  have hE := dtE_no h
  go_enter Tryd.func10, Tryd.ntmps10
  go_wp2_with fail
  refine (ref_Date _ _).mono ?_
  rintro e w1 ⟨rfl, rfl⟩
  go_wp2_with fail
  go_ret2
  exact ⟨rfl, rfl⟩
theorem ref_Text (n : Int) (w : World) :
    Calls Tryd.prog 10 #[.int .i64 n] w fun e w' => e = .returned (.tuple #[.string ⟨(textN n).toArray⟩, .int .i64 (dtE n)]) ∧ w = w' := by
  by_cases h : okN n
  · rw [dtE_ok h]; exact ref_Text_t n w h
  · rw [dtE_no h, show textN n = [] from if_neg h]; exact ref_Text_f n w h

set_option maxHeartbeats 1000000 in
theorem ref_number (l : List UInt8) (w : World) (hl : l.length ≤ 4) :
    Calls Tryd.prog 25 #[.string ⟨l.toArray⟩] w fun e w' => e = .returned (.int .i64 (numF 0 l)) ∧ w = w' := by
  have hls : (⟨l.toArray⟩ : ByteArray).size = l.length := ba_sz l
  go_enter Tryd.func25, Tryd.ntmps25
  go_wp2_with fail
  go_loop [3, 7] (fun x i => ∃ (k : Nat) (a : Int), k ≤ l.length ∧ i = .int .i64 k ∧ x = .int .i64 a ∧ 0 ≤ a ∧ a < 10 ^ k ∧ numF 0 l = numF a (l.drop k)) (fun _ i => (l.length - intOf i).toNat)
  case atStart => exact ⟨0, 0, by omega, rfl, rfl, by omega, by decide, rfl⟩
  case round =>
    obtain ⟨k, a, hk, rfl, rfl, ha, ha2, he⟩ := hrel
    have ha3 : a < 10000 := Int.lt_of_lt_of_le ha2 (by
      have : k = 0 ∨ k = 1 ∨ k = 2 ∨ k = 3 ∨ k = 4 := by omega
      rcases this with rfl | rfl | rfl | rfl | rfl <;> decide)
    have HE := Lib.hid he
    have H2 := Lib.hid ha2
    clear he ha2
    by_cases hlt : k < l.length
    · have hd : l.drop k = l[k] :: l.drop (k + 1) := List.drop_eq_getElem_cons hlt
      have HD := Lib.hid hd
      clear hd
      have hc := (l[k]).toNat_lt
      have hbk : ((⟨l.toArray⟩ : ByteArray)[k]'(by rw [hls]; exact hlt)) = l[k] := by
        show l.toArray[k]'_ = _
        simp
      obtain ⟨c, hcc⟩ : ∃ c, l[k] = c := ⟨_, rfl⟩
      rw [hcc] at hbk hc HD
      clear hcc
      by_cases hg : 48 ≤ c.toNat
      · by_cases hg2 : c.toNat ≤ 57
        · go_wp2_with fail
          go_round
          case rel => exact ⟨k + 1, 10 * a + ((c.toNat : Int) - 48), by omega, by go_num, rfl, by omega, by have := H2.out; rw [Int.pow_succ]; omega, by rw [HE.out, HD.out, numF, if_pos ⟨hg, hg2⟩]⟩
          case measure => simp [intOf]; omega
        · go_wp2_with fail
          go_ret
          exact ⟨ret_int (by rw [HE.out, HD.out, numF, if_neg (by omega)]), rfl⟩
      · go_wp2_with fail
        go_ret
        exact ⟨ret_int (by rw [HE.out, HD.out, numF, if_neg (by omega)]), rfl⟩
    · go_wp2_with fail
      go_ret
      exact ⟨ret_int (by rw [HE.out, List.drop_of_length_le (by omega)]; rfl), rfl⟩

theorem quiet_left {P : Program} {f : FuncId} {args : Array Value} {w : World} {n : Nat} {v : Value}
    (h : Calls P f args (w.drewN n) fun e w' => e = .returned v ∧ w.drewN n = w') : Calls P f args (w.drewN n) fun e w' => e = .returned v ∧ ∃ m, w' = w.drewN m :=
  h.mono fun _ _ ⟨he, hm⟩ => ⟨he, n, hm.symm⟩

set_option maxRecDepth 100000 in
set_option maxHeartbeats 1000000 in
theorem ref_Parse_t (l : List UInt8) (w : World) (hl : l.length = 10) (h4 : l[4]? = some 45) (h7 : l[7]? = some 45) :
    Calls Tryd.prog 13 #[.string ⟨l.toArray⟩] w fun e w' => e = .returned (.tuple #[.int .i64 (prN l), .int .i64 (prE l)]) ∧ Below w.heap.size w w' := by
  obtain ⟨e1, e2⟩ := ref_text hl h4 h7
  have hls : (⟨l.toArray⟩ : ByteArray).size = 10 := by rw [ba_sz]; exact hl
  have b4 : ((⟨l.toArray⟩ : ByteArray)[4]'(by rw [hls]; decide)) = 45 := by
    rw [List.getElem?_eq_getElem (by omega)] at h4
    have : l[4] = 45 := Option.some.inj h4
    show l.toArray[4]'_ = _
    simpa using this
  have b7 : ((⟨l.toArray⟩ : ByteArray)[7]'(by rw [hls]; decide)) = 45 := by
    rw [List.getElem?_eq_getElem (by omega)] at h7
    have : l[7] = 45 := Option.some.inj h7
    show l.toArray[7]'_ = _
    simpa using this
  have x1 : (⟨l.toArray⟩ : ByteArray).extract 0 4 = ⟨(l.take 4).toArray⟩ := by have := ba_ext l 0 4; simpa [ba] using this
  have x2 : (⟨l.toArray⟩ : ByteArray).extract 5 7 = ⟨((l.drop 5).take 2).toArray⟩ := ba_ext l 5 7
  have x3 : (⟨l.toArray⟩ : ByteArray).extract 8 10 = ⟨((l.drop 8).take 2).toArray⟩ := ba_ext l 8 10
  have y1 : (l.take 4).length ≤ 4 := List.length_take_le _ _
  have y2 : ((l.drop 5).take 2).length ≤ 2 := List.length_take_le _ _
  have y3 : ((l.drop 8).take 2).length ≤ 2 := List.length_take_le _ _
  rw [← e1, ← e2]
  clear e1 e2 h4 h7
  go_enter Tryd.func13, Tryd.ntmps13
  go_wp2_with fail
  go_quiet ((first | (go_at_call 25; exact quiet_left (ref_number _ _ (by omega))) | (go_at_call 24; exact quiet_left (ref_Day _ _ _ _))))
  go_wp2_with fail
  go_ret2
  exact ⟨rfl, below_dn (Below.refl _ _) _⟩

set_option maxRecDepth 100000 in
set_option maxHeartbeats 1000000 in
theorem ref_Parse_f (l : List UInt8) (w : World) (h : l.length ≠ 10 ∨ l[4]? ≠ some 45 ∨ l[7]? ≠ some 45) (hl : l.length ≤ 1000) :
    Calls Tryd.prog 13 #[.string ⟨l.toArray⟩] w fun e w' => e = .returned (.tuple #[.int .i64 0, .int .i64 10]) ∧ Below w.heap.size w w' := by
  have hls : (⟨l.toArray⟩ : ByteArray).size = l.length := ba_sz l
  by_cases hc : l.length = 10
  · rw [hc] at hls
    by_cases h4 : l[4]? = some 45
    · have h7 : l[7]? ≠ some 45 := by
        rcases h with h | h | h
        · exact absurd hc h
        · exact absurd h4 h
        · exact h
      have b4 : ((⟨l.toArray⟩ : ByteArray)[4]'(by rw [hls]; decide)) = 45 := by
        rw [List.getElem?_eq_getElem (by omega)] at h4
        have : l[4] = 45 := Option.some.inj h4
        show l.toArray[4]'_ = _
        simpa using this
      obtain ⟨c, b7⟩ : ∃ c, ((⟨l.toArray⟩ : ByteArray)[7]'(by rw [hls]; decide)) = c := ⟨_, rfl⟩
      have hne : ((c.toNat : Int) == 45) = false := by
        rw [beq_eq_false_iff_ne]
        intro e
        apply h7
        rw [List.getElem?_eq_getElem (by omega)]
        have : l[7] = c := by rw [← b7]; show _ = l.toArray[7]'_; simp
        rw [this]
        congr 1
        exact UInt8.toNat_inj.1 (by show c.toNat = 45; omega)
      have hne2 : ((c.toNat : Int) != 45) = true := by rw [bne, hne]; rfl
      clear h h4 h7
      go_enter Tryd.func13, Tryd.ntmps13
      go_wp2_with fail
      go_ret2
      exact ⟨rfl, Below.refl _ _⟩
    · obtain ⟨c, b4⟩ : ∃ c, ((⟨l.toArray⟩ : ByteArray)[4]'(by rw [hls]; decide)) = c := ⟨_, rfl⟩
      have hne : ((c.toNat : Int) == 45) = false := by
        rw [beq_eq_false_iff_ne]
        intro e
        apply h4
        rw [List.getElem?_eq_getElem (by omega)]
        have : l[4] = c := by rw [← b4]; show _ = l.toArray[4]'_; simp
        rw [this]
        congr 1
        exact UInt8.toNat_inj.1 (by show c.toNat = 45; omega)
      have hne2 : ((c.toNat : Int) != 45) = true := by rw [bne, hne]; rfl
      clear h h4
      go_enter Tryd.func13, Tryd.ntmps13
      go_wp2_with fail
      go_ret2
      exact ⟨rfl, Below.refl _ _⟩
  · have hne : ((l.length : Int) == 10) = false := by rw [beq_eq_false_iff_ne]; omega
    have hne2 : ((l.length : Int) != 10) = true := by rw [bne, hne]; rfl
    clear h
    go_enter Tryd.func13, Tryd.ntmps13
    go_wp2_with fail
    go_ret2
    exact ⟨rfl, Below.refl _ _⟩
theorem ref_Parse (l : List UInt8) (w : World) (hl : l.length ≤ 1000) :
    Calls Tryd.prog 13 #[.string ⟨l.toArray⟩] w fun e w' => e = .returned (.tuple #[.int .i64 (prN l), .int .i64 (prE l)]) ∧ Below w.heap.size w w' := by
  by_cases h : l.length ≠ 10 ∨ l[4]? ≠ some 45 ∨ l[7]? ≠ some 45
  · rw [(pr_f (not_text h)).1, (pr_f (not_text h)).2]
    exact ref_Parse_f l w h hl
  · refine ref_Parse_t l w ?_ ?_ ?_
    · exact Classical.byContradiction fun hc => h (Or.inl hc)
    · exact Classical.byContradiction fun hc => h (Or.inr (Or.inl hc))
    · exact Classical.byContradiction fun hc => h (Or.inr (Or.inr hc))
end Go.Proofs.YtbgodionpdemeaaDoor

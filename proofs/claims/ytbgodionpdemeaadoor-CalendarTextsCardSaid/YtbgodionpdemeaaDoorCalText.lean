/- The calendar's digits and Text: what they return. -/
import Derived.Test.YtbgodionpdemeaaDoorCalAdd2
import Derived.Test.YtbgodionpdemeaaDoorCalDig
import Derived.Test.YtbgodionpdemeaaDoorShelf
set_option linter.unusedVariables false
set_option linter.unusedSimpArgs false
namespace Go.Proofs.YtbgodionpdemeaaDoor
open Go.RowKit Cal

theorem below_gr (B : Nat) (w : World) (hB : B ≤ w.heap.size) (k : Nat) (os : Array Obj) : Below B w (Go.Sort.grow (w.drewN k) os) := by
  refine ⟨rfl, rfl, rfl, ?_, fun i hi => ?_⟩
  · show w.heap.size ≤ (w.heap ++ os).size
    simp
  · show (w.heap ++ os)[i]? = _
    rw [Array.getElem?_append_left (by omega)]

theorem bapp (a b : List UInt8) : (⟨a.toArray⟩ : ByteArray) ++ ⟨b.toArray⟩ = ⟨(a ++ b).toArray⟩ := by
  apply ByteArray.ext
  simp [ByteArray.data_append]

/-- Go's table of the powers of ten is as the library lays it. -/
def TabOk (w : World) : Prop := Lib.TabIs Tryd.prog w "internal/strconv.uint64pow10" .u64 Lib.pow10Tab

set_option maxHeartbeats 1000000 in
theorem cal_digits (n wd : Int) (w : World) (htab : TabOk w) (h0 : 0 ≤ n) (h1 : n < 10000) (hw : wd ≤ 4) (hw0 : 0 ≤ wd) (hl : ((Lib.itoa n).length : Int) ≤ wd) :
    Calls Tryd.prog 16 #[.int .i64 n, .int .i64 wd] w fun e w' => e = .returned (.string ⟨(Lib.repeatL [48] (wd.toNat - (Lib.itoa n).length) ++ Lib.itoa n).toArray⟩) ∧ Below w.heap.size w w' := by
  obtain ⟨L, hL⟩ : ∃ L, Lib.itoa n = L := ⟨_, rfl⟩
  rw [hL] at hl ⊢
  have HL := Lib.hid hL
  clear hL
  have hI := Lib.hid htab
  clear htab
  go_enter Tryd.func16, Tryd.ntmps16
  go_wp2_with fail
  refine (Tryd.strconv_Itoa n (by omega) (by omega) _ hI.out).mono ?_
  rintro e w1 ⟨rfl, k, os, rfl⟩
  rw [HL.out]
  go_wp2_with fail
  rw [show max (wd - (L.length : Int)) 0 = ((wd.toNat - L.length : Nat) : Int) from by omega]
  have hb0 := below_gr w.heap.size w (Nat.le_refl _) k os
  generalize Go.Sort.grow (w.drewN k) os = w1 at hb0 ⊢
  refine (Tryd.strings_Repeat ⟨#[48]⟩ (wd.toNat - L.length) _ (by omega) (by show 1 * _ ≤ _; omega)).mono ?_
  rintro e w2 ⟨rfl, hb⟩
  have hrl := Lib.repeatL_length [48] (wd.toNat - L.length)
  go_wp2_with fail
  go_ret
  exact ⟨by exact congrArg (fun x : ByteArray => Ending.returned (.string x)) (bapp _ _), hb0.trans (hb.mono hb0.size)⟩

theorem cal_dig4 (n : Int) (w : World) (htab : TabOk w) (h0 : 0 ≤ n) (h1 : n < 10000) :
    Calls Tryd.prog 16 #[.int .i64 n, .int .i64 4] w fun e w' => e = .returned (.string ⟨(dig4 n).toArray⟩) ∧ Below w.heap.size w w' := by
  have hl := itoa_len h0 h1
  have h := cal_digits n 4 w htab h0 h1 (by omega) (by omega) (by omega)
  rw [show (4 : Int).toNat = 4 from rfl, pad4 h0 h1] at h
  exact h
theorem cal_dig2 (n : Int) (w : World) (htab : TabOk w) (h0 : 0 ≤ n) (h1 : n < 100) :
    Calls Tryd.prog 16 #[.int .i64 n, .int .i64 2] w fun e w' => e = .returned (.string ⟨(dig2 n).toArray⟩) ∧ Below w.heap.size w w' := by
  have hl := itoa_len h0 (by omega)
  have h := cal_digits n 2 w htab h0 (by omega) (by omega) (by omega) (by omega)
  rw [show (2 : Int).toNat = 2 from rfl, pad2 h0 h1] at h
  exact h

/-- The table stays as it is while no old block turns. -/
theorem tab_below {w w' : World} (h : TabOk w) (hg : 3 < w.heap.size) (hb : Below w.heap.size w w') : TabOk w' :=
  var?_below hb (by kernel_rfl) hg h
theorem tab_lt {w : World} (h : TabOk w) : 3 < w.heap.size := by
  have e : Tryd.prog.globalNamed "internal/strconv.uint64pow10" = some 3 := by kernel_rfl
  unfold TabOk Lib.TabIs World.var? at h
  rw [e] at h
  simp only [Option.bind_some] at h
  refine Nat.not_le.1 fun hc => ?_
  rw [Array.getElem?_eq_none hc] at h
  cases h

set_option maxHeartbeats 1000000 in
theorem cal_Text_t (n : Int) (w : World) (htab : TabOk w) (h : okN n) :
    Calls Tryd.prog 7 #[.int .i64 n] w fun e w' => e = .returned (.tuple #[.string ⟨(textN n).toArray⟩, .int .i64 0]) ∧ Below w.heap.size w w' := by
  have hE := dtE_ok h
  have hT : textN n = textL (dtY n) (dtM n) (dtD n) := if_pos h
  obtain ⟨a, b, c, d, e1, e2⟩ := (dt_ok h).1
  have hl := len_bd (dtY n) (dtM n)
  have hI := Lib.hid htab
  have HT := Lib.hid hT
  have hg := tab_lt htab
  clear htab hT
  go_enter Tryd.func7, Tryd.ntmps7
  go_wp2_with fail
  refine (cal_Date _ _).mono ?_
  rintro e w1 ⟨rfl, hb1⟩
  have t1 := Lib.hid (tab_below hI.out hg hb1)
  have g1 : 3 < w1.heap.size := Nat.lt_of_lt_of_le hg hb1.size
  go_wp2_with fail
  refine (cal_dig4 _ _ t1.out (by omega) (by omega)).mono ?_
  rintro e w2 ⟨rfl, hb2⟩
  have t2 := Lib.hid (tab_below t1.out g1 hb2)
  have g2 : 3 < w2.heap.size := Nat.lt_of_lt_of_le g1 hb2.size
  go_wp2_with fail
  refine (cal_dig2 _ _ t2.out (by omega) (by omega)).mono ?_
  rintro e w3 ⟨rfl, hb3⟩
  have t3 := Lib.hid (tab_below t2.out g2 hb3)
  go_wp2_with fail
  refine (cal_dig2 _ _ t3.out (by omega) (by omega)).mono ?_
  rintro e w4 ⟨rfl, hb4⟩
  go_wp2_with fail
  go_ret2
  refine ⟨?_, ((hb1.trans (hb2.mono hb1.size)).trans (hb3.mono (Nat.le_trans hb1.size hb2.size))).trans (hb4.mono (Nat.le_trans (Nat.le_trans hb1.size hb2.size) hb3.size))⟩
  show Ending.returned (.tuple #[.string ((⟨(dig4 (dtY n)).toArray⟩ : ByteArray) ++ ⟨([45] : List UInt8).toArray⟩ ++ ⟨(dig2 (dtM n)).toArray⟩ ++ ⟨([45] : List UInt8).toArray⟩ ++ ⟨(dig2 (dtD n)).toArray⟩), .int .i64 0]) = _
  rw [bapp, bapp, bapp, bapp, HT.out]
  rfl

set_option maxHeartbeats 1000000 in
theorem cal_Text_f (n : Int) (w : World) (h : ¬ okN n) :
    Calls Tryd.prog 7 #[.int .i64 n] w fun e w' => e = .returned (.tuple #[.string ⟨#[]⟩, .int .i64 2]) ∧ Below w.heap.size w w' := by
  have hE := dtE_no h
  go_enter Tryd.func7, Tryd.ntmps7
  go_wp2_with fail
  refine (cal_Date _ _).mono ?_
  rintro e w1 ⟨rfl, hb1⟩
  go_wp2_with fail
  go_ret2
  exact ⟨rfl, hb1⟩
theorem cal_Text (n : Int) (w : World) (htab : TabOk w) :
    Calls Tryd.prog 7 #[.int .i64 n] w fun e w' => e = .returned (.tuple #[.string ⟨(textN n).toArray⟩, .int .i64 (dtE n)]) ∧ Below w.heap.size w w' := by
  by_cases h : okN n
  · rw [dtE_ok h]; exact cal_Text_t n w htab h
  · rw [dtE_no h, show textN n = [] from if_neg h]; exact cal_Text_f n w h
end Go.Proofs.YtbgodionpdemeaaDoor

/- The walk of CalendarOrder: the law returns true at every input, where the library's table of powers of ten is as it is laid. -/
import Derived.Test.YtbgodionpdemeaaDoorCalText
import Derived.Test.YtbgodionpdemeaaDoorCalOrd
set_option linter.unusedVariables false
set_option linter.unusedSimpArgs false
namespace Go.Proofs.YtbgodionpdemeaaDoor
open Go.RowKit Cal

theorem kmod_ok (a : Int) : okN (kmod a 3652059) := by have := kmod_bd a (m := 3652059) (by omega); unfold okN; omega
theorem below_seq {a b c : World} (h : Below a.heap.size a b) (k : Below b.heap.size b c) : Below a.heap.size a c := h.trans (k.mono h.size)

theorem tolist (b : ByteArray) : b.toList = b.data.toList := by
  obtain ⟨⟨l⟩⟩ := b
  exact ByteArray.toList_mk l
theorem drop5 {l : List UInt8} (h : l.length = 10) (hd : l.drop 5 = [48, 50, 45, 50, 57]) : ((⟨l.toArray⟩ : ByteArray).extract 5 10).toList = [48, 50, 45, 50, 57] := by
  rw [tolist, Lib.extract_data]
  show (l.drop 5).take 5 = _
  rw [hd]; rfl

set_option maxRecDepth 100000 in
set_option maxHeartbeats 1000000 in
theorem order_far (a0 a1 a2 x y n : Int) (w : World) (htab : TabOk w) (ha2 : 0 ≤ a2 ∧ a2 ≤ 255) (hx : kmod a0 3652059 = x) (hy : kmod a1 3652059 = y) (hn : a2 % 50 = n)
    (ox : okN x) (oy : okN y) (bn : 0 ≤ n ∧ n ≤ 49) (he : addE x n = 10) (hf : 3633758 < x) :
    Calls Tryd.prog 3 #[.int .i64 a0, .int .i64 a1, .int .u8 a2] w fun e w' => e = .returned (.bool true) ∧ Below w.heap.size w w' := by
  have hl := text_less ox oy
  have e1 := dtE_ok ox
  have e2 := dtE_ok oy
  have hI := Lib.hid htab
  have hg := tab_lt htab
  clear htab
  go_enter Tryd.func3, Tryd.ntmps3
  go_wp2_with (go_at_call 6; refine (kit_Mod _ _ _ (by omega) (by omega)).mono ?_; rintro e w' ⟨rfl, rfl⟩)
  refine (cal_Text _ _ hI.out).mono ?_
  rintro e w1 ⟨rfl, hb1⟩
  have t1 := Lib.hid (tab_below hI.out hg hb1)
  go_wp2_with fail
  refine (cal_Text _ _ t1.out).mono ?_
  rintro e w2 ⟨rfl, hb2⟩
  go_wp2_with fail
  refine (cal_Add _ _ _).mono ?_
  rintro e w3 ⟨rfl, hb3⟩
  go_wp2_with fail
  refine (law_awake _).mono ?_
  rintro e w4 ⟨rfl, hb4⟩
  go_wp2_with fail
  go_ret
  exact ⟨rfl, below_seq (below_seq (below_seq hb1 hb2) hb3) hb4⟩

set_option maxRecDepth 100000 in
set_option maxHeartbeats 1000000 in
theorem order_same (a0 a1 a2 x y n : Int) (w : World) (htab : TabOk w) (ha2 : 0 ≤ a2 ∧ a2 ≤ 255) (hx : kmod a0 3652059 = x) (hy : kmod a1 3652059 = y) (hn : a2 % 50 = n)
    (ox : okN x) (oy : okN y) (bn : 0 ≤ n ∧ n ≤ 49) (z : Int) (he : addE x n = 0) (hz : addN x n = z) (bz : 0 ≤ z ∧ z ≤ 3652058) (he2 : addE z (-n) = 0) (hz2 : addN z (-n) = x) :
    Calls Tryd.prog 3 #[.int .i64 a0, .int .i64 a1, .int .u8 a2] w fun e w' => e = .returned (.bool true) ∧ Below w.heap.size w w' := by
  have hl := text_less ox oy
  have e1 := dtE_ok ox
  have e2 := dtE_ok oy
  have hI := Lib.hid htab
  have hg := tab_lt htab
  clear htab
  go_enter Tryd.func3, Tryd.ntmps3
  go_wp2_with (go_at_call 6; refine (kit_Mod _ _ _ (by omega) (by omega)).mono ?_; rintro e w' ⟨rfl, rfl⟩)
  refine (cal_Text _ _ hI.out).mono ?_
  rintro e w1 ⟨rfl, hb1⟩
  have t1 := Lib.hid (tab_below hI.out hg hb1)
  go_wp2_with fail
  refine (cal_Text _ _ t1.out).mono ?_
  rintro e w2 ⟨rfl, hb2⟩
  go_wp2_with fail
  refine (cal_Add _ _ _).mono ?_
  rintro e w3 ⟨rfl, hb3⟩
  go_wp2_with fail
  refine (cal_Add _ _ _).mono ?_
  rintro e w4 ⟨rfl, hb4⟩
  go_wp2_with fail
  refine (law_awake _).mono ?_
  rintro e w5 ⟨rfl, hb5⟩
  go_wp2_with fail
  go_ret
  exact ⟨rfl, below_seq (below_seq (below_seq (below_seq hb1 hb2) hb3) hb4) hb5⟩

set_option maxRecDepth 100000 in
set_option maxHeartbeats 1000000 in
theorem order_leap (a0 a1 a2 x y n : Int) (w : World) (htab : TabOk w) (ha2 : 0 ≤ a2 ∧ a2 ≤ 255) (hx : kmod a0 3652059 = x) (hy : kmod a1 3652059 = y) (hn : a2 % 50 = n)
    (ox : okN x) (oy : okN y) (bn : 0 ≤ n ∧ n ≤ 49) (z : Int) (he : addE x n = 0) (hz : addN x n = z) (bz : 0 ≤ z ∧ z ≤ 3652058) (he2 : addE z (-n) = 0) (hz2 : addN z (-n) = x - 1) (hd : (textN x).drop 5 = [48, 50, 45, 50, 57]) :
    Calls Tryd.prog 3 #[.int .i64 a0, .int .i64 a1, .int .u8 a2] w fun e w' => e = .returned (.bool true) ∧ Below w.heap.size w w' := by
  have hl := text_less ox oy
  have hlen := text_len ox
  have hd5 := drop5 hlen hd
  have bx : 0 ≤ x ∧ x ≤ 3652058 := ox
  have e1 := dtE_ok ox
  have e2 := dtE_ok oy
  have hI := Lib.hid htab
  have hg := tab_lt htab
  clear htab
  go_enter Tryd.func3, Tryd.ntmps3
  go_wp2_with (go_at_call 6; refine (kit_Mod _ _ _ (by omega) (by omega)).mono ?_; rintro e w' ⟨rfl, rfl⟩)
  refine (cal_Text _ _ hI.out).mono ?_
  rintro e w1 ⟨rfl, hb1⟩
  have t1 := Lib.hid (tab_below hI.out hg hb1)
  go_wp2_with fail
  refine (cal_Text _ _ t1.out).mono ?_
  rintro e w2 ⟨rfl, hb2⟩
  go_wp2_with fail
  refine (cal_Add _ _ _).mono ?_
  rintro e w3 ⟨rfl, hb3⟩
  go_wp2_with fail
  refine (cal_Add _ _ _).mono ?_
  rintro e w4 ⟨rfl, hb4⟩
  go_wp2_with fail
  refine (law_awake _).mono ?_
  rintro e w5 ⟨rfl, hb5⟩
  go_wp2_with fail
  go_ret
  exact ⟨rfl, below_seq (below_seq (below_seq (below_seq hb1 hb2) hb3) hb4) hb5⟩

theorem law_order (a0 a1 a2 : Int) (w : World) (htab : TabOk w) (ha2 : 0 ≤ a2 ∧ a2 ≤ 255) :
    Calls Tryd.prog 3 #[.int .i64 a0, .int .i64 a1, .int .u8 a2] w fun e w' => e = .returned (.bool true) ∧ Below w.heap.size w w' := by
  have ox := kmod_ok a0
  have oy := kmod_ok a1
  have bn : 0 ≤ a2 % 50 ∧ a2 % 50 ≤ 49 := by omega
  by_cases he : addE (kmod a0 3652059) (a2 % 50) = 0
  · obtain ⟨e2, h | ⟨h, hm, hd⟩⟩ := back ox bn.1 (by omega) he
    · exact order_same a0 a1 a2 _ _ _ w htab ha2 rfl rfl rfl ox oy bn _ he rfl (addN_bd _ _) e2 h
    · exact order_leap a0 a1 a2 _ _ _ w htab ha2 rfl rfl rfl ox oy bn _ he rfl (addN_bd _ _) e2 h (leapday ox hm hd)
  · have hy : 9999 < dtY (kmod a0 3652059) + a2 % 50 := by
      refine Int.not_le.1 fun hc => he ?_
      exact (addE_0 ox (by have := (dt_ok ox).1.1; omega) hc).1
    have e10 := (addE_10 ox (l := a2 % 50) (by omega) (by omega) (Or.inr hy)).1
    have := (add_out ox bn.1 (by omega) hy).2
    exact order_far a0 a1 a2 _ _ _ w htab ha2 rfl rfl rfl ox oy bn e10 (by omega)
end Go.Proofs.YtbgodionpdemeaaDoor

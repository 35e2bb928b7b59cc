/- Contracts: the text of a tree. -/
import Derived.Test.YthfmmememdlekaaDoorFmLib
import Derived.Test.YthfmmememdlekaaDoorFmRoot
set_option linter.unusedVariables false
set_option linter.unusedSimpArgs false
namespace Go.Proofs.YthfmmememdlekaaDoor
open Go.RowKit Num

abbrev txT (d : Nat) (T : Tree) : List UInt8 := textG [] [] d T
theorem txT_node (d : Nat) (t : Trm) (xs : List Tree) : txT (d + 1) (.node t xs) =
    if t.kind = 1 ∨ t.kind = 2 then nmK t.kind ++ [40] ++ joinS [44, 32] (xs.map (txT d)) ++ [41]
    else if t.kind = 3 ∨ t.kind = 4 then nmK t.kind ++ [32] ++ Lib.itoa t.num
    else if t.kind = 5 then nmK 5 ++ [32] ++ Lib.itoa t.yrs ++ [32] ++ ofB ++ [32] ++ Lib.itoa t.num
    else if t.kind = 7 then nmK 7 ++ [32] ++ blOf t.field ++ [32, 34] ++ blOf t.text ++ [34, 32] ++ ofB ++ [32] ++ Lib.itoa t.num
    else nmK t.kind := rfl
theorem nm_len (k : Int) (h1 : 1 ≤ k) (h2 : k ≤ 8) : (nmK k).length ≤ 11 := by
  have : ∀ j : Fin 9, (nmK (j.val : Int)).length ≤ 11 := by decide
  obtain ⟨m, rfl⟩ := Int.eq_ofNat_of_zero_le (show 0 ≤ k by omega)
  exact this ⟨m, by omega⟩
theorem names_cell {w : World} {v : Value} (h : StrsAt' w v nmB) (k : Int) (h1 : 0 ≤ k) (h2 : k ≤ 8) : ∃ g off c, v = .slice (some ⟨g, off, none⟩) 9 c ∧ g < w.heap.size ∧ w.cell? ⟨g, off + k.toNat, none⟩ = some (.string (bsOf (nmK k))) := by
  obtain ⟨g, off, n, c, rfl, hn, hg, hc⟩ := h
  have hn9 : n = 9 := hn
  subst hn9
  exact ⟨g, off, c, rfl, hg, hc k.toNat (by omega)⟩
theorem joinS_join (sep : List UInt8) (xs : List (List UInt8)) : Lib.join xs sep = joinS sep xs := by
  cases xs with
  | nil => rfl
  | cons a r => exact Lib.join_cons a r sep
theorem bsOf_app (a b : List UInt8) : bsOf a ++ bsOf b = bsOf (a ++ b) := bapp a b
theorem bsOf_data (l : List UInt8) : (bsOf l).size = l.length := by show l.toArray.size = _; simp
set_option maxRecDepth 100000 in
set_option maxHeartbeats 4000000 in
theorem f_text_word (b : Nat) (k : Int) (w : World) (hk : k = 6 ∨ k = 8) (hb : b < w.heap.size) (c0 : w.cell? ⟨b, 0, none⟩ = some (.int .i64 k)) :
    Calls Tryd.prog 35 #[.pointer (some ⟨b, 0, none⟩)] w (StrBel (nmK k) w) := by
  have KS := Lib.hid (fun (W : World) (hW : Below w.heap.size w W) => (⟨(hW.cell (p := ⟨b, 0, none⟩) hb).trans c0, Lib.hid hW⟩ : W.cell? ⟨b, 0, none⟩ = some (.int .i64 k) ∧ Hid (Below w.heap.size w W)))
  have c0d : w.drew.cell? ⟨b, 0, none⟩ = some (.int .i64 k) := c0
  have KB : 0 ≤ k ∧ k ≤ 8 := by omega
  rcases hk with rfl | rfl
  all_goals
    go_enter Tryd.func35, Tryd.ntmps35
    go_wp2_with fail
    go_region_law (first
      | ((try go_simp); go_at_call 54; (refine (f_names _).mono ?_); rintro e wk ⟨v, rfl, hv, hbk⟩; have HK := Lib.hid (KS.out wk ((Below.refl w.heap.size w).drew.trans hbk)); obtain ⟨g, off, c, rfl, hg, hc⟩ := names_cell hv _ KB.1 KB.2; have k0 := HK.out.1; (try simp only [Int.reduceToNat] at hc); have HC := hc; clear hv hbk; go_simp))
    all_goals
      go_wp2_with fail
      go_ret
      exact ⟨rfl, HK.out.2.out⟩
theorem itoa_small (n : Int) (h0 : 0 ≤ n) (h1 : n ≤ 100) : (Lib.itoa n).length ≤ 3 := by
  obtain ⟨m, rfl⟩ := Int.eq_ofNat_of_zero_le h0
  rw [itoa_dec3 m (by omega)]
  exact (dec3_all ⟨m, by omega⟩).2.1
set_option maxRecDepth 100000 in
set_option maxHeartbeats 4000000 in
theorem f_text_num (b : Nat) (k n : Int) (w : World) (hk : k = 3 ∨ k = 4) (hn0 : 0 ≤ n) (hn1 : n ≤ 100) (hl : LibOk w) (hb : b < w.heap.size) (c0 : w.cell? ⟨b, 0, none⟩ = some (.int .i64 k)) (c1 : w.cell? ⟨b, 1, none⟩ = some (.int .i64 n)) :
    Calls Tryd.prog 35 #[.pointer (some ⟨b, 0, none⟩)] w (StrBel (nmK k ++ [32] ++ Lib.itoa n) w) := by
  have KS := Lib.hid (fun (W : World) (hW : Below w.heap.size w W) => (⟨(hW.cell (p := ⟨b, 0, none⟩) hb).trans c0, (hW.cell (p := ⟨b, 1, none⟩) hb).trans c1, Lib.hid hW, Lib.hid (hl.later hW)⟩ : W.cell? ⟨b, 0, none⟩ = some (.int .i64 k) ∧ W.cell? ⟨b, 1, none⟩ = some (.int .i64 n) ∧ Hid (Below w.heap.size w W) ∧ Hid (LibOk W)))
  have c0d : w.drew.cell? ⟨b, 0, none⟩ = some (.int .i64 k) := c0
  have KB : 0 ≤ k ∧ k ≤ 8 := by omega
  have hnl := nm_len k (by omega) (by omega)
  have s1 : (bsOf (nmK k)).size ≤ 11 := by rw [bsOf_data]; exact hnl
  have s2 : (bsOf (Lib.itoa n)).size ≤ 3 := by rw [bsOf_data]; exact itoa_small n hn0 hn1
  rcases hk with rfl | rfl
  all_goals
    go_enter Tryd.func35, Tryd.ntmps35
    go_wp2_with fail
    go_region_law (first
      | ((try go_simp); go_at_call 54; (refine (f_names _).mono ?_); rintro e wk ⟨v, rfl, hv, hbk⟩; have HK := Lib.hid (KS.out wk ((Below.refl w.heap.size w).drew.trans hbk)); obtain ⟨g, off, c, rfl, hg, hc⟩ := names_cell hv _ KB.1 KB.2; have k0 := HK.out.1; (try simp only [Int.reduceToNat] at hc); have HC := hc; clear hv hbk; go_simp))
    all_goals
      have k1 := HK.out.2.1
      go_wp2_with (go_at_call 56; refine (i_Itoa n _ HK.out.2.2.2.out.tab (by omega) (by omega)).mono ?_; rintro e w2 ⟨rfl, hb2⟩)
      go_ret
      refine ⟨?_, HK.out.2.2.1.out.trans (hb2.mono HK.out.2.2.1.out.size)⟩
      exact congrArg (fun x : ByteArray => Ending.returned (.string x)) (by show bsOf _ ++ bsOf [32] ++ bsOf _ = _; rw [bsOf_app, bsOf_app])
end Go.Proofs.YthfmmememdlekaaDoor

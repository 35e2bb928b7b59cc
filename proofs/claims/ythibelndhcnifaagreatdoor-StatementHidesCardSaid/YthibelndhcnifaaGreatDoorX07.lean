/- Contracts: decimal texts of numbers, and numbers of decimal texts; what they want of Go's own variables. -/
import Derived.Test.YthibelndhcnifaaGreatDoorX04
import Derived.Test.YthibelndhcnifaaGreatDoorX06
set_option linter.unusedVariables false
set_option linter.unusedSimpArgs false
namespace Go.Proofs.YthibelndhcnifaaGreatDoor
open Go.RowKit Num

theorem below_gr (B : Nat) (w : World) (hB : B ≤ w.heap.size) (k : Nat) (os : Array Obj) : Below B w (Go.Sort.grow (w.drewN k) os) := by
  refine ⟨rfl, rfl, rfl, ?_, fun i hi => ?_⟩
  · show w.heap.size ≤ (w.heap ++ os).size
    simp
  · show (w.heap ++ os)[i]? = _
    rw [Array.getElem?_append_left (by omega)]
theorem bapp (a b : List UInt8) : (⟨a.toArray⟩ : ByteArray) ++ ⟨b.toArray⟩ = ⟨(a ++ b).toArray⟩ := by
  apply ByteArray.ext
  simp [ByteArray.data_append]
/-- Go's table of the powers of ten is as the library lays it. -/
def TabOk (w : World) : Prop := Lib.TabIs Tryz.prog w "internal/strconv.uint64pow10" .u64 Lib.pow10Tab
theorem tab_below {w w' : World} (h : TabOk w) (hg : 1 < w.heap.size) (hb : Below w.heap.size w w') : TabOk w' :=
  var?_below hb (by kernel_rfl) hg h
theorem tab_lt {w : World} (h : TabOk w) : 1 < w.heap.size := by
  have e : Tryz.prog.globalNamed "internal/strconv.uint64pow10" = some 1 := by kernel_rfl
  unfold TabOk Lib.TabIs World.var? at h
  rw [e] at h
  simp only [Option.bind_some] at h
  refine Nat.not_le.1 fun hc => ?_
  rw [Array.getElem?_eq_none hc] at h
  cases h
/-- What Go's own variables hold. -/
structure LibOk (w : World) : Prop where
  tab : TabOk w
  most : ∃ m, w.cell? ⟨0, 0, none⟩ = some (.int .i64 m)
  size : 5 < w.heap.size
theorem LibOk.later {w w' : World} (h : LibOk w) (hb : Below w.heap.size w w') : LibOk w' := by
  have hs := h.size
  refine ⟨tab_below h.tab (tab_lt h.tab) hb, ?_, Nat.le_trans hs hb.size⟩
  obtain ⟨m, e⟩ := h.most; exact ⟨m, (hb.cell (p := ⟨0, 0, none⟩) (by show 0 < w.heap.size; omega)).trans e⟩
/-- And the errors of numbers: for the readers. -/
structure ParOk (w : World) : Prop where
  lib : LibOk w
  err1 : ∃ tp p, w.cell? ⟨2, 0, none⟩ = some (.iface tp p)
  err2 : ∃ tp p, w.cell? ⟨3, 0, none⟩ = some (.iface tp p)
theorem ParOk.tab {w : World} (h : ParOk w) : TabOk w := h.lib.tab
theorem ParOk.most {w : World} (h : ParOk w) : ∃ m, w.cell? ⟨0, 0, none⟩ = some (.int .i64 m) := h.lib.most
theorem ParOk.size {w : World} (h : ParOk w) : 5 < w.heap.size := h.lib.size
theorem ParOk.later {w w' : World} (h : ParOk w) (hb : Below w.heap.size w w') : ParOk w' := by
  have hs := h.size
  refine ⟨h.lib.later hb, ?_, ?_⟩
  · obtain ⟨tp, p, e⟩ := h.err1; exact ⟨tp, p, (hb.cell (p := ⟨2, 0, none⟩) (by show 2 < w.heap.size; omega)).trans e⟩
  · obtain ⟨tp, p, e⟩ := h.err2; exact ⟨tp, p, (hb.cell (p := ⟨3, 0, none⟩) (by show 3 < w.heap.size; omega)).trans e⟩
def StrBel (l : List UInt8) (w : World) (e : Ending) (w' : World) : Prop := e = .returned (.string (bsOf l)) ∧ Below w.heap.size w w'
theorem i_Itoa (n : Int) (w : World) (h : TabOk w) (h0 : -9223372036854775808 ≤ n) (h1 : n ≤ 9223372036854775807) :
    Calls Tryz.prog 64 #[.int .i64 n] w (StrBel (Lib.itoa n) w) := by
  refine (Tryz.strconv_Itoa n h0 h1 w h).mono ?_
  rintro e w' ⟨rfl, k, os, rfl⟩
  exact ⟨rfl, below_gr _ w (Nat.le_refl _) k os⟩
def AtoiPost (l : List UInt8) (w : World) (e : Ending) (w' : World) : Prop :=
  (∃ u, Lib.atoiAll l = .ok u ∧ e = .returned (.tuple #[.int .i64 u, .nilIface]) ∧ -9223372036854775808 ≤ u ∧ u ≤ 9223372036854775807 ∧ Below w.heap.size w w') ∨
  ((∀ u, Lib.atoiAll l ≠ .ok u) ∧ ∃ v tp p, e = .returned (.tuple #[.int .i64 v, .iface tp p]) ∧ Below w.heap.size w w')
theorem atoi_range (l : List UInt8) (u : Int) (h : Lib.atoiAll l = .ok u) : -9223372036854775808 ≤ u ∧ u ≤ 9223372036854775807 := by
  unfold Lib.atoiAll at h
  split at h
  · cases h
  · simp only at h
    split at h
    · cases h
    · cases h
    · split at h
      · cases h
      · split at h
        · cases h
        · injection h with h
          subst h
          split <;> omega
theorem i_Atoi (s : ByteArray) (w : World) (hs : s.size ≤ 1000000) (h : ParOk w) :
    Calls Tryz.prog 103 #[.string s] w (AtoiPost (blOf s) w) := by
  obtain ⟨t1, p1, c1⟩ := h.err1
  obtain ⟨t2, p2, c2⟩ := h.err2
  rcases hc : Lib.atoiAll s.data.toList with v | _ | _
  · refine (Tryz.strconv_Atoi_ok s (by omega) v hc w).mono ?_
    rintro e w' ⟨he, hw⟩
    obtain ⟨r1, r2⟩ := atoi_range _ _ hc
    refine .inl ⟨v, hc, he, r1, r2, ?_⟩
    rcases hw with rfl | ⟨t, rfl⟩
    · exact Below.refl _ _
    · exact Lib.bytesWorld_below _ _ _
  · refine (Any.strconv_Atoi_syntax Tryz.laysC172 s (by omega) hc _ w c1 (Or.inr ⟨_, _, rfl⟩)).mono ?_
    rintro e w' ⟨N, he, _, _, hb⟩
    exact .inr ⟨(fun u hu => by rw [hc] at hu; cases hu), _, _, _, he, hb⟩
  · refine (Tryz.strconv_Atoi_range s (by omega) hc _ w c2 (Or.inr ⟨_, _, rfl⟩)).mono ?_
    rintro e w' ⟨N, he, _, _, hb⟩
    exact .inr ⟨(fun u hu => by rw [hc] at hu; cases hu), _, _, _, he, hb⟩
end Go.Proofs.YthibelndhcnifaaGreatDoor

/- The calendar's Parse, and strconv.Atoi as it calls it. -/
import Derived.Test.YtbgodionpdemeaaDoorCalText
import Derived.Test.YtbgodionpdemeaaDoorCalPrs
import Derived.LoopN
set_option linter.unusedVariables false
set_option linter.unusedSimpArgs false
namespace Go.Proofs.YtbgodionpdemeaaDoor
open Go.RowKit Cal

/-- The package-level variables of the library that the walks read: the table, the two errors, the length bound of a search. -/
structure LibOk (w : World) : Prop where
  tab : TabOk w
  err1 : ∃ tp p, w.cell? ⟨0, 0, none⟩ = some (.iface tp p)
  err2 : ∃ tp p, w.cell? ⟨1, 0, none⟩ = some (.iface tp p)
  most : ∃ m, w.cell? ⟨2, 0, none⟩ = some (.int .i64 m)
  size : 4 ≤ w.heap.size
theorem LibOk.later {w w' : World} (h : LibOk w) (hb : Below w.heap.size w w') : LibOk w' := by
  have hs := h.size
  refine ⟨tab_below h.tab (tab_lt h.tab) hb, ?_, ?_, ?_, Nat.le_trans hs hb.size⟩
  · obtain ⟨tp, p, e⟩ := h.err1; exact ⟨tp, p, (hb.cell (p := ⟨0, 0, none⟩) (by show 0 < w.heap.size; omega)).trans e⟩
  · obtain ⟨tp, p, e⟩ := h.err2; exact ⟨tp, p, (hb.cell (p := ⟨1, 0, none⟩) (by show 1 < w.heap.size; omega)).trans e⟩
  · obtain ⟨m, e⟩ := h.most; exact ⟨m, (hb.cell (p := ⟨2, 0, none⟩) (by show 2 < w.heap.size; omega)).trans e⟩

theorem atoi_any (s : ByteArray) (w : World) (hs : s.size ≤ 1000000) (h : LibOk w) :
    Calls Tryd.prog 23 #[.string s] w fun e w' => ∃ v ie, e = .returned (.tuple #[.int .i64 v, ie]) ∧ (∀ u, Lib.atoiAll s.data.toList = .ok u → v = u) ∧ Below w.heap.size w w' := by
  obtain ⟨t1, p1, c1⟩ := h.err1
  obtain ⟨t2, p2, c2⟩ := h.err2
  rcases hc : Lib.atoiAll s.data.toList with v | _ | _
  · refine (Tryd.strconv_Atoi_ok s (by omega) v hc w).mono ?_
    rintro e w' ⟨he, hw⟩
    refine ⟨v, _, he, fun u hu => by injection hu, ?_⟩
    rcases hw with rfl | ⟨t, rfl⟩
    · exact Below.refl _ _
    · exact Lib.bytesWorld_below _ _ _
  · refine (Any.strconv_Atoi_syntax Tryd.laysC172 s (by omega) hc _ w c1 (Or.inr ⟨_, _, rfl⟩)).mono ?_
    rintro e w' ⟨N, he, _, _, hb⟩
    exact ⟨_, _, he, (fun u hu => nomatch hu), hb⟩
  · refine (Any.strconv_Atoi_range Tryd.laysC172 s (by omega) hc _ w c2 (Or.inr ⟨_, _, rfl⟩)).mono ?_
    rintro e w' ⟨N, he, _, _, hb⟩
    exact ⟨_, _, he, (fun u hu => nomatch hu), hb⟩

set_option maxRecDepth 100000 in
set_option maxHeartbeats 1000000 in
theorem cal_Parse_no (l : List UInt8) (w : World) (h : LibOk w) (hl : l.length ≤ 1000) (hc : Lib.countB ⟨l.toArray⟩ ⟨#[45]⟩ ≠ 2) :
    Calls Tryd.prog 12 #[.string ⟨l.toArray⟩] w fun e w' => e = .returned (.tuple #[.int .i64 0, .int .i64 10]) ∧ Below w.heap.size w w' := by
  obtain ⟨m, hm⟩ := h.most
  have hle := Lib.countB_le ⟨#[45]⟩ (by decide) _ ⟨l.toArray⟩ (Nat.le_refl _)
  have hls : (⟨l.toArray⟩ : ByteArray).size = l.length := by simp [ByteArray.size]
  rw [hls] at hle
  obtain ⟨c, hcc⟩ : ∃ c, Lib.countB ⟨l.toArray⟩ ⟨#[45]⟩ = c := ⟨_, rfl⟩
  rw [hcc] at hle hc
  have hs := Tryd.strings_Split ⟨l.toArray⟩ ⟨#[45]⟩ m w (by rw [hls]; omega) hm (by decide)
  rw [hcc] at hs
  have HS := Lib.hid hs
  have hne : ((c : Int) + 1 == 3) = false := by rw [beq_eq_false_iff_ne]; omega
  clear hs hcc hm
  go_enter Tryd.func12, Tryd.ntmps12
  go_wp2_with fail
  refine HS.out.mono ?_
  rintro e w1 ⟨rfl, rfl⟩
  go_wp2_with fail
  go_ret2
  exact ⟨rfl, (Below.refl _ _).alloc (Nat.le_refl _) _⟩

/-- Where the walk of Parse stands: the three pieces, the three numbers, and the library's variables. -/
structure PInv (w : World) (p0 p1 p2 : List UInt8) (a b c : Int) (W : World) : Prop where
  lib : LibOk W
  bel : Below w.heap.size w W
  size : w.heap.size + 2 ≤ W.heap.size
  s0 : W.cell? ⟨w.heap.size, 0, none⟩ = some (.string ⟨p0.toArray⟩)
  s1 : W.cell? ⟨w.heap.size, 1, none⟩ = some (.string ⟨p1.toArray⟩)
  s2 : W.cell? ⟨w.heap.size, 2, none⟩ = some (.string ⟨p2.toArray⟩)
  n0 : W.cell? ⟨w.heap.size + 1, 0, none⟩ = some (.int .i64 a)
  n1 : W.cell? ⟨w.heap.size + 1, 1, none⟩ = some (.int .i64 b)
  n2 : W.cell? ⟨w.heap.size + 1, 2, none⟩ = some (.int .i64 c)
  f0 : W.frozen? ⟨w.heap.size + 1, 0, none⟩ = false
  f1 : W.frozen? ⟨w.heap.size + 1, 1, none⟩ = false
  f2 : W.frozen? ⟨w.heap.size + 1, 2, none⟩ = false
theorem pinv_start {w : World} (h : LibOk w) (p0 p1 p2 : List UInt8) (T T' : TypeId) :
    PInv w p0 p1 p2 0 0 0 ((w.alloc (.cells #[.string ⟨p0.toArray⟩, .string ⟨p1.toArray⟩, .string ⟨p2.toArray⟩] T)).alloc (.cells #[.int .i64 0, .int .i64 0, .int .i64 0] T')) := by
  have hb : Below w.heap.size w ((w.alloc (.cells #[.string ⟨p0.toArray⟩, .string ⟨p1.toArray⟩, .string ⟨p2.toArray⟩] T)).alloc (.cells #[.int .i64 0, .int .i64 0, .int .i64 0] T')) := ((Below.refl _ _).alloc (Nat.le_refl _) _).alloc (by simp) _
  refine ⟨h.later hb, hb, by simp, ?_, ?_, ?_, ?_, ?_, ?_, ?_, ?_, ?_⟩ <;> simp [go_sem]
theorem PInv.call {w W W1 : World} {p0 p1 p2 : List UInt8} {a b c : Int} (h : PInv w p0 p1 p2 a b c W) (hb : Below W.heap.size W W1) : PInv w p0 p1 p2 a b c W1 := by
  have hs := h.size
  obtain ⟨hc, hf⟩ := bcell hb
  refine ⟨h.lib.later hb, h.bel.trans (hb.mono h.bel.size), Nat.le_trans hs hb.size, ?_, ?_, ?_, ?_, ?_, ?_, ?_, ?_, ?_⟩
  · rw [hc _ _ (by omega)]; exact h.s0
  · rw [hc _ _ (by omega)]; exact h.s1
  · rw [hc _ _ (by omega)]; exact h.s2
  · rw [hc _ _ (by omega)]; exact h.n0
  · rw [hc _ _ (by omega)]; exact h.n1
  · rw [hc _ _ (by omega)]; exact h.n2
  · rw [hf _ _ (by omega)]; exact h.f0
  · rw [hf _ _ (by omega)]; exact h.f1
  · rw [hf _ _ (by omega)]; exact h.f2
theorem lib_set {W : World} (h : LibOk W) (b o : Nat) (v : Value) (hb : 4 ≤ b) : LibOk (W.setCell ⟨b, o, none⟩ v) := by
  have hs := h.size
  have hbl : Below 4 W (W.setCell ⟨b, o, none⟩ v) := (Below.refl _ _).setCell hb v
  refine ⟨var?_below (g := 3) hbl (by kernel_rfl) (by omega) h.tab, ?_, ?_, ?_, Nat.le_trans hs hbl.size⟩
  · obtain ⟨tp, p, e⟩ := h.err1; exact ⟨tp, p, (hbl.cell (p := ⟨0, 0, none⟩) (by show 0 < 4; omega)).trans e⟩
  · obtain ⟨tp, p, e⟩ := h.err2; exact ⟨tp, p, (hbl.cell (p := ⟨1, 0, none⟩) (by show 1 < 4; omega)).trans e⟩
  · obtain ⟨m, e⟩ := h.most; exact ⟨m, (hbl.cell (p := ⟨2, 0, none⟩) (by show 2 < 4; omega)).trans e⟩
theorem PInv.store0 {w W : World} {p0 p1 p2 : List UInt8} {a b c : Int} (h : PInv w p0 p1 p2 a b c W) (hw : 4 ≤ w.heap.size) (v : Int) : PInv w p0 p1 p2 v b c (W.setCell ⟨w.heap.size + 1, 0, none⟩ (.int .i64 v)) := by
  obtain ⟨l, bl, s, a0, a1, a2, a3, a4, a5, a6, a7, a8⟩ := h
  refine ⟨lib_set l _ _ _ (by omega), bl.setCell (by show _ ≤ w.heap.size + 1; omega) _, by simpa [World.setCell] using s, ?_, ?_, ?_, ?_, ?_, ?_, ?_, ?_, ?_⟩ <;> simp [go_sem, *]
theorem PInv.store1 {w W : World} {p0 p1 p2 : List UInt8} {a b c : Int} (h : PInv w p0 p1 p2 a b c W) (hw : 4 ≤ w.heap.size) (v : Int) : PInv w p0 p1 p2 a v c (W.setCell ⟨w.heap.size + 1, 1, none⟩ (.int .i64 v)) := by
  obtain ⟨l, bl, s, a0, a1, a2, a3, a4, a5, a6, a7, a8⟩ := h
  refine ⟨lib_set l _ _ _ (by omega), bl.setCell (by show _ ≤ w.heap.size + 1; omega) _, by simpa [World.setCell] using s, ?_, ?_, ?_, ?_, ?_, ?_, ?_, ?_, ?_⟩ <;> simp [go_sem, *]
theorem PInv.store2 {w W : World} {p0 p1 p2 : List UInt8} {a b c : Int} (h : PInv w p0 p1 p2 a b c W) (hw : 4 ≤ w.heap.size) (v : Int) : PInv w p0 p1 p2 a b v (W.setCell ⟨w.heap.size + 1, 2, none⟩ (.int .i64 v)) := by
  obtain ⟨l, bl, s, a0, a1, a2, a3, a4, a5, a6, a7, a8⟩ := h
  refine ⟨lib_set l _ _ _ (by omega), bl.setCell (by show _ ≤ w.heap.size + 1; omega) _, by simpa [World.setCell] using s, ?_, ?_, ?_, ?_, ?_, ?_, ?_, ?_, ?_⟩ <;> simp [go_sem, *]

set_option maxRecDepth 100000 in
set_option maxHeartbeats 1000000 in
theorem cal_Parse_3 (l p0 p1 p2 : List UInt8) (R E : Int) (w : World) (h : LibOk w) (hl : l.length ≤ 1000) (hc : Lib.countB ⟨l.toArray⟩ ⟨#[45]⟩ = 2)
    (hp : Lib.splitB ⟨#[45]⟩ 0 2 ⟨l.toArray⟩ = [⟨p0.toArray⟩, ⟨p1.toArray⟩, ⟨p2.toArray⟩]) (l0 : p0.length ≤ 1000) (l1 : p1.length ≤ 1000) (l2 : p2.length ≤ 1000)
    (hfin : ∀ v0 v1 v2 : Int, (∀ u, Lib.atoiAll p0 = .ok u → v0 = u) → (∀ u, Lib.atoiAll p1 = .ok u → v1 = u) → (∀ u, Lib.atoiAll p2 = .ok u → v2 = u) →
      (dayE v0 v1 v2 = 0 ∧ textN (dayN v0 v1 v2) = l ∧ R = dayN v0 v1 v2 ∧ E = 0) ∨ (dayE v0 v1 v2 = 0 ∧ textN (dayN v0 v1 v2) ≠ l ∧ R = 0 ∧ E = 10) ∨ (dayE v0 v1 v2 ≠ 0 ∧ R = 0 ∧ E = 10)) :
    Calls Tryd.prog 12 #[.string ⟨l.toArray⟩] w fun e w' => e = .returned (.tuple #[.int .i64 R, .int .i64 E]) ∧ Below w.heap.size w w' := by
  obtain ⟨m, hm⟩ := h.most
  have hls : (⟨l.toArray⟩ : ByteArray).size = l.length := by simp [ByteArray.size]
  have hs := Tryd.strings_Split ⟨l.toArray⟩ ⟨#[45]⟩ m w (by rw [hls]; omega) hm (by decide)
  rw [hc, hp] at hs
  have HS := Lib.hid hs
  have HF := Lib.hid hfin
  clear hs hm hfin hc hp
  have hI := Lib.hid h
  have hw8 := h.size
  clear h
  go_enter Tryd.func12, Tryd.ntmps12
  go_wp2_with fail
  refine HS.out.mono ?_
  rintro e w1 ⟨rfl, rfl⟩
  go_wp2_with fail
  have i0 := pinv_start hI.out p0 p1 p2 9 44
  generalize (w.alloc (.cells #[.string ⟨p0.toArray⟩, .string ⟨p1.toArray⟩, .string ⟨p2.toArray⟩] 9)).alloc (.cells #[.int .i64 0, .int .i64 0, .int .i64 0] 44) = W0 at i0 ⊢
  have I0 := Lib.hid i0
  obtain ⟨_, _, _, a0, a1, a2, a3, a4, a5, a6, a7, a8⟩ := i0
  refine wp_loop_rounds 4 ?_
  rw [rounds_succ]
  go_wp2_with fail
  refine (atoi_any _ _ (by show ByteArray.size ⟨p0.toArray⟩ ≤ _; simp only [ByteArray.size, List.size_toArray]; omega) I0.out.lib).mono ?_
  rintro e w0 ⟨v0, ie0, rfl, hv0, hb0⟩
  have V0 := Lib.hid hv0
  have i1 := I0.out.call hb0
  have I1 := Lib.hid i1
  clear hv0 a0 a1 a2 a3 a4 a5 a6 a7 a8
  obtain ⟨_, _, _, a0, a1, a2, a3, a4, a5, a6, a7, a8⟩ := i1
  go_wp2_with fail
  have i2 := I1.out.store0 hw8 v0
  generalize w0.setCell ⟨w.heap.size + 1, 0, none⟩ (.int .i64 v0) = W1 at i2 ⊢
  have I2 := Lib.hid i2
  clear a0 a1 a2 a3 a4 a5 a6 a7 a8
  obtain ⟨_, _, _, a0, a1, a2, a3, a4, a5, a6, a7, a8⟩ := i2
  rw [rounds_succ]
  go_wp2_with fail
  refine (atoi_any _ _ (by show ByteArray.size ⟨p1.toArray⟩ ≤ _; simp only [ByteArray.size, List.size_toArray]; omega) I2.out.lib).mono ?_
  rintro e w1 ⟨v1, ie1, rfl, hv1, hb1⟩
  have V1 := Lib.hid hv1
  have i3 := I2.out.call hb1
  have I3 := Lib.hid i3
  clear hv1 a0 a1 a2 a3 a4 a5 a6 a7 a8
  obtain ⟨_, _, _, a0, a1, a2, a3, a4, a5, a6, a7, a8⟩ := i3
  go_wp2_with fail
  have i4 := I3.out.store1 hw8 v1
  generalize w1.setCell ⟨w.heap.size + 1, 1, none⟩ (.int .i64 v1) = W2 at i4 ⊢
  have I4 := Lib.hid i4
  clear a0 a1 a2 a3 a4 a5 a6 a7 a8
  obtain ⟨_, _, _, a0, a1, a2, a3, a4, a5, a6, a7, a8⟩ := i4
  rw [rounds_succ]
  go_wp2_with fail
  refine (atoi_any _ _ (by show ByteArray.size ⟨p2.toArray⟩ ≤ _; simp only [ByteArray.size, List.size_toArray]; omega) I4.out.lib).mono ?_
  rintro e w2 ⟨v2, ie2, rfl, hv2, hb2⟩
  have V2 := Lib.hid hv2
  have i5 := I4.out.call hb2
  have I5 := Lib.hid i5
  clear hv2 a0 a1 a2 a3 a4 a5 a6 a7 a8
  obtain ⟨_, _, _, a0, a1, a2, a3, a4, a5, a6, a7, a8⟩ := i5
  go_wp2_with fail
  have i6 := I5.out.store2 hw8 v2
  generalize w2.setCell ⟨w.heap.size + 1, 2, none⟩ (.int .i64 v2) = W3 at i6 ⊢
  have I6 := Lib.hid i6
  clear a0 a1 a2 a3 a4 a5 a6 a7 a8
  obtain ⟨_, _, _, a0, a1, a2, a3, a4, a5, a6, a7, a8⟩ := i6
  rw [rounds_succ]
  go_wp2_with fail
  refine (cal_Day _ _ _ _).mono ?_
  rintro e w4 ⟨rfl, hb4⟩
  have i7 := I6.out.call hb4
  have I7 := Lib.hid i7
  clear a0 a1 a2 a3 a4 a5 a6 a7 a8 i7
  go_wp2_with fail
  refine (cal_Text _ _ I7.out.lib.tab).mono ?_
  rintro e w5 ⟨rfl, hb5⟩
  have I8 := Lib.hid (I7.out.call hb5)
  rcases HF.out v0 v1 v2 V0.out V1.out V2.out with ⟨c1, c2, rfl, rfl⟩ | ⟨c1, c2, rfl, rfl⟩ | ⟨c1, rfl, rfl⟩
  · go_wp2_with fail
    go_ret2
    exact ⟨rfl, I8.out.bel⟩
  · have c2' : (textN (dayN v0 v1 v2) == l) = false := beq_eq_false_iff_ne.2 c2
    clear c2
    go_wp2_with fail
    go_ret2
    exact ⟨rfl, I8.out.bel⟩
  · have c1' : (dayE v0 v1 v2 == 0) = false := beq_eq_false_iff_ne.2 c1
    have c1'' : (dayE v0 v1 v2 != 0) = true := bne_iff_ne.2 c1
    have c3 : ¬ dayE v0 v1 v2 = 0 := c1
    clear c1
    go_wp2_with fail
    go_ret2
    exact ⟨rfl, I8.out.bel⟩

theorem split_le (sep : ByteArray) : ∀ (k : Nat) (s q : ByteArray), q ∈ Lib.splitB sep 0 k s → q.size ≤ s.size := by
  intro k
  induction k with
  | zero => intro s q h; simp [Lib.splitB] at h; subst h; exact Nat.le_refl _
  | succ k ih =>
    intro s q h
    unfold Lib.splitB at h
    split at h
    · simp at h; subst h; exact Nat.le_refl _
    · rcases List.mem_cons.1 h with rfl | h
      · rw [ByteArray.size_extract]; omega
      · have := ih _ _ h
        rw [ByteArray.size_extract] at this; omega
theorem ba_sz (l : List UInt8) : (⟨l.toArray⟩ : ByteArray).size = l.length := by simp [ByteArray.size]
theorem ba_eta (s : ByteArray) : s = ⟨s.data.toList.toArray⟩ := by
  apply ByteArray.ext
  simp
theorem cal_Parse (l : List UInt8) (w : World) (h : LibOk w) (hl : l.length ≤ 1000) :
    Calls Tryd.prog 12 #[.string ⟨l.toArray⟩] w fun e w' => e = .returned (.tuple #[.int .i64 (prN l), .int .i64 (prE l)]) ∧ Below w.heap.size w w' := by
  by_cases ht : IsText l
  · obtain ⟨n, ho, hn⟩ := ht
    obtain ⟨e1, e2⟩ := pr_t ho hn
    subst hn
    obtain ⟨c1, c2⟩ := text_split ho
    obtain ⟨hv, hnum⟩ := dt_ok ho
    have ll := len_bd (dtY n) (dtM n)
    obtain ⟨b1, b2, b3, b4, b5, b6⟩ := id hv
    rw [e1, e2]
    refine cal_Parse_3 (textN n) (dig4 (dtY n)) (dig2 (dtM n)) (dig2 (dtD n)) n 0 w h hl c1 c2 (by show 4 ≤ 1000; omega) (by show 2 ≤ 1000; omega) (by show 2 ≤ 1000; omega) ?_
    intro v0 v1 v2 h0 h1 h2
    have h0 := h0 _ (atoi_dig4 (by omega) (by omega))
    have h1 := h1 _ (atoi_dig2 (by omega) (by omega))
    have h2 := h2 _ (atoi_dig2 (by omega) (by omega))
    subst h0 h1 h2
    left
    have d1 : dayN (dtY n) (dtM n) (dtD n) = n := by rw [dayN, if_pos hv, hnum]
    have d2 : dayE (dtY n) (dtM n) (dtD n) = 0 := if_pos hv
    rw [d1]
    exact ⟨d2, rfl, rfl, rfl⟩
  · obtain ⟨e1, e2⟩ := pr_f ht
    rw [e1, e2]
    by_cases hc : Lib.countB ⟨l.toArray⟩ ⟨#[45]⟩ = 2
    · have hlen := Lib.splitB_all ⟨#[45]⟩ (by decide) 0 2 ⟨l.toArray⟩ hc
      obtain ⟨q0, q1, q2, hq⟩ : ∃ q0 q1 q2, Lib.splitB ⟨#[45]⟩ 0 2 ⟨l.toArray⟩ = [q0, q1, q2] := by
        match hh : Lib.splitB ⟨#[45]⟩ 0 2 ⟨l.toArray⟩, hlen with
        | [a, b, c], _ => exact ⟨a, b, c, rfl⟩
      rw [ba_eta q0, ba_eta q1, ba_eta q2] at hq
      have hls : (⟨l.toArray⟩ : ByteArray).size = l.length := by simp [ByteArray.size]
      have hsz : ∀ q ∈ Lib.splitB ⟨#[45]⟩ 0 2 ⟨l.toArray⟩, q.size ≤ l.length := by
        intro q hq'
        have := split_le _ _ _ _ hq'
        omega
      rw [hq] at hsz
      refine cal_Parse_3 l _ _ _ 0 10 w h hl hc hq ?_ ?_ ?_ ?_
      · have := hsz ⟨q0.data.toList.toArray⟩ (by simp); rw [ba_sz] at this; omega
      · have := hsz ⟨q1.data.toList.toArray⟩ (by simp); rw [ba_sz] at this; omega
      · have := hsz ⟨q2.data.toList.toArray⟩ (by simp); rw [ba_sz] at this; omega
      · intro v0 v1 v2 _ _ _
        by_cases hv : vld v0 v1 v2
        · right; left
          have o := (dt_of hv).1
          have d1 : dayN v0 v1 v2 = num v0 v1 v2 := if_pos hv
          rw [d1]
          exact ⟨if_pos hv, fun hh => ht ⟨_, o, hh⟩, rfl, rfl⟩
        · right; right
          exact ⟨by rw [dayE, if_neg hv]; decide, rfl, rfl⟩
    · exact cal_Parse_no l w h hl hc
end Go.Proofs.YtbgodionpdemeaaDoor

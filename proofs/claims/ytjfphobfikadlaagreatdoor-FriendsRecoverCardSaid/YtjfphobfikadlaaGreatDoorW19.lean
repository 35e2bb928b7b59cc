/- Contracts: shares are looked through, and those without their marks are taken out of a list. Contracts: slices.IndexFunc and slices.DeleteFunc over shares, whatever the closure says. Contracts: the shares that have their marks, whichever have them. Contracts: correct.Marked, whichever shares have their marks. -/
import Derived.Test.YtjfphobfikadlaaGreatDoorW18
import Derived.Lib.SliceRun
import Derived.BigRegion
set_option linter.unusedVariables false
set_option linter.unusedSimpArgs false
namespace Go.Proofs.YtjfphobfikadlaaGreatDoor
open Go.RowKit Num

/-- The shares that fit, of the first j. -/
def keepL (fb : Nat → Bool) (L : List Sh) (j : Nat) : List Sh := ((List.range j).filter fb).map (shAt L)
theorem keepL_succ (fb : Nat → Bool) (L : List Sh) (j : Nat) : keepL fb L (j + 1) = keepL fb L j ++ (if fb j then [shAt L j] else []) := by
  unfold keepL
  rw [List.range_succ, List.filter_append, List.map_append]
  cases h : fb j <;> simp [h]
theorem keepL_len (fb : Nat → Bool) (L : List Sh) (j : Nat) : (keepL fb L j).length ≤ j := by
  unfold keepL
  rw [List.length_map]
  exact Nat.le_trans (List.length_filter_le _ _) (by simp)
theorem shAt_snoc (F : List Sh) (x : Sh) : shAt (F ++ [x]) F.length = x := by unfold shAt; simp
theorem shAt_app (F : List Sh) (x : Sh) (k : Nat) (h : k < F.length) : shAt (F ++ [x]) k = shAt F k := by
  unfold shAt; rw [List.getD_eq_getElem?_getD, List.getElem?_append_left h, ← List.getD_eq_getElem?_getD]
/-- While shares are taken out of a list in one block. -/
structure DelI (w wr : World) (S : Nat → Prop) (g n : Nat) (L : List Sh) (fb : Nat → Bool) (i j : Nat) : Prop where
  ij : i ≤ j
  jn : j ≤ n
  len : (keepL fb L j).length = i
  kept : ∀ k, k < i → ∃ u, wr.cell? ⟨g, k * 2, none⟩ = some (.int .i64 (shAt (keepL fb L j) k).1) ∧ wr.cell? ⟨g, k * 2 + 1, none⟩ = some u ∧ IntsAt wr S u (shAt (keepL fb L j) k).2
  left : ∀ k, j ≤ k → k < n → ∃ u, wr.cell? ⟨g, k * 2, none⟩ = some (.int .i64 (shAt L k).1) ∧ wr.cell? ⟨g, k * 2 + 1, none⟩ = some u ∧ IntsAt wr S u (shAt L k).2
  live : ∀ q, q < 2 * n → (wr.cell? ⟨g, q, none⟩).isSome = true
  froz : ∀ q, q < 2 * n → wr.frozen? ⟨g, q, none⟩ = false
  grown : w.grownBy wr (some g)
section
variable {w wr wx : World} {S : Nat → Prop} {g n i j : Nat} {L : List Sh} {fb : Nat → Bool}
theorem DelI.below (h : DelI w wr S g n L fb i j) (hg : g < wr.heap.size) (hS : ∀ b, S b → b < wr.heap.size) (hb : Below wr.heap.size wr wx) : DelI w wx S g n L fb i j := by
  refine ⟨h.ij, h.jn, h.len, fun k hk => ?_, fun k h1 h2 => ?_, fun q hq => ?_, fun q hq => ?_, h.grown.trans (only_of_below hb _)⟩
  · obtain ⟨u, a, b, c⟩ := h.kept k hk
    exact ⟨u, (hb.cell (p := ⟨g, k * 2, none⟩) hg).trans a, (hb.cell (p := ⟨g, k * 2 + 1, none⟩) hg).trans b, c.keep fun b hb2 => hb.block b (hS b hb2)⟩
  · obtain ⟨u, a, b, c⟩ := h.left k h1 h2
    exact ⟨u, (hb.cell (p := ⟨g, k * 2, none⟩) hg).trans a, (hb.cell (p := ⟨g, k * 2 + 1, none⟩) hg).trans b, c.keep fun b hb2 => hb.block b (hS b hb2)⟩
  · rw [hb.cell (p := ⟨g, q, none⟩) hg]; exact h.live q hq
  · rw [hb.frozen (p := ⟨g, q, none⟩) hg]; exact h.froz q hq
theorem DelI.skip (h : DelI w wr S g n L fb i j) (hj : j < n) (hf : fb j = false) : DelI w wr S g n L fb i (j + 1) := by
  have e : keepL fb L (j + 1) = keepL fb L j := by rw [keepL_succ, hf]; simp
  exact ⟨by have := h.ij; omega, hj, by rw [e]; exact h.len, by rw [e]; exact h.kept, fun k h1 h2 => h.left k (by omega) h2, h.live, h.froz, h.grown⟩
theorem set2_cell (w : World) (g o : Nat) (a b : Value) (q : Nat) (h0 : (w.cell? ⟨g, o, none⟩).isSome = true) (h1 : (w.cell? ⟨g, o + 1, none⟩).isSome = true) :
    ((w.setCell ⟨g, o, none⟩ a).setCell ⟨g, o + 1, none⟩ b).cell? ⟨g, q, none⟩ = if q = o then some a else if q = o + 1 then some b else w.cell? ⟨g, q, none⟩ := by
  obtain ⟨x, hx⟩ := Option.isSome_iff_exists.1 h0
  obtain ⟨y, hy⟩ := Option.isSome_iff_exists.1 h1
  have hy' : (w.setCell ⟨g, o, none⟩ a).cell? ⟨g, o + 1, none⟩ = some y := by
    rw [World.cell?_setCell_other _ _ _ _ (by intro e; injection e with e1 e2; omega)]; exact hy
  by_cases c1 : q = o
  · subst c1
    rw [if_pos rfl, World.cell?_setCell_other _ _ _ _ (by intro e; injection e with e1 e2; omega), World.cell?_setCell_same _ _ _ hx]
  · rw [if_neg c1]
    by_cases c2 : q = o + 1
    · subst c2
      rw [if_pos rfl, World.cell?_setCell_same _ _ _ hy']
    · rw [if_neg c2, World.cell?_setCell_other _ _ _ _ (by intro e; injection e with e1 e2; omega), World.cell?_setCell_other _ _ _ _ (by intro e; injection e with e1 e2; omega)]
theorem DelI.store (h : DelI w wr S g n L fb i j) (hj : j < n) (hf : fb j = true) (hS : ∀ b, S b → b ≠ g) {u : Value} (hu : IntsAt wr S u (shAt L j).2) :
    DelI w ((wr.setCell ⟨g, i * 2, none⟩ (.int .i64 (shAt L j).1)).setCell ⟨g, i * 2 + 1, none⟩ u) S g n L fb (i + 1) (j + 1) := by
  have e : keepL fb L (j + 1) = keepL fb L j ++ [shAt L j] := by rw [keepL_succ, hf]; simp
  have hij := h.ij
  have c0 := h.live (i * 2) (by omega)
  have c1 := h.live (i * 2 + 1) (by omega)
  have hc := fun q => set2_cell wr g (i * 2) (.int .i64 (shAt L j).1) u q c0 c1
  have hk : ∀ b, S b → ((wr.setCell ⟨g, i * 2, none⟩ (.int .i64 (shAt L j).1)).setCell ⟨g, i * 2 + 1, none⟩ u).heap[b]? = wr.heap[b]? := fun b hb =>
    (Below.heap_setCell _ _ _ _ (fun e => hS b hb e)).trans (Below.heap_setCell _ _ _ _ (fun e => hS b hb e))
  have hl : (keepL fb L j).length = i := h.len
  refine ⟨by omega, hj, by rw [e, List.length_append, hl]; rfl, fun k hk2 => ?_, fun k h1 h2 => ?_, fun q hq => ?_, fun q hq => ?_, only_setCell (only_setCell h.grown (p := ⟨g, i * 2, none⟩) (.inl rfl) _) (p := ⟨g, i * 2 + 1, none⟩) (.inl rfl) _⟩
  · by_cases c : k = i
    · subst c
      have e2 : shAt (keepL fb L (j + 1)) k = shAt L j := by
        rw [e]
        have := shAt_snoc (keepL fb L j) (shAt L j)
        rw [hl] at this; exact this
      rw [e2]
      exact ⟨u, by rw [hc, if_pos rfl], by rw [hc, if_neg (by omega), if_pos rfl], hu.keep hk⟩
    · have e2 : shAt (keepL fb L (j + 1)) k = shAt (keepL fb L j) k := by rw [e, shAt_app _ _ _ (by omega)]
      rw [e2]
      obtain ⟨u', a, b, c'⟩ := h.kept k (by omega)
      exact ⟨u', by rw [hc, if_neg (by omega), if_neg (by omega)]; exact a, by rw [hc, if_neg (by omega), if_neg (by omega)]; exact b, c'.keep hk⟩
  · obtain ⟨u', a, b, c'⟩ := h.left k (by omega) h2
    exact ⟨u', by rw [hc, if_neg (by omega), if_neg (by omega)]; exact a, by rw [hc, if_neg (by omega), if_neg (by omega)]; exact b, c'.keep hk⟩
  · rw [hc]
    split
    · rfl
    · split
      · rfl
      · exact h.live q hq
  · rw [World.frozen?_setCell, World.frozen?_setCell]; exact h.froz q hq
end
variable {P : Program}
/-- 'clear(s)' where an element has two cells. -/
theorem run_clear2 (w : World) (t e ty : TypeId) (z : Value) (y0 y1 : Value) (ht : P.underlying t = some (.slice e)) (hv : ∀ w, (zeroValue e).run P w = .ok z w) (hz : z.cells = #[y0, y1]) (h0 : y0.oneCell' = true) (h1 : y1.oneCell' = true) (b o n c : Nat) (hn : 0 < n)
    (hc : ∀ j, j < 2 * n → (w.cell? ⟨b, o + j, none⟩).isSome = true) (hf : ∀ j, j < 2 * n → w.frozen? ⟨b, o + j, none⟩ = false) :
    (Builtin.clear_ #[t] ty #[.slice (some ⟨b, o, none⟩) n c]).run P w = .ok (.tuple #[]) (w.setCells b o (Builtin.zeroCells z.cells n).toList) ∧ (Builtin.zeroCells z.cells n).toList.length = 2 * n := by
  have hl : (Builtin.zeroCells z.cells n).toList.length = 2 * n := by rw [hz]; simp [Builtin.zeroCells]; omega
  have hst := run_storeCells_cells (P := P) b o (Builtin.zeroCells z.cells n).toList 0 w (by rw [hl]; simpa using hc) (by rw [hl]; simpa using hf) (by
    intro v hv'
    rw [hz] at hv'
    simp only [Builtin.zeroCells, Array.toList_map, List.mem_map, Array.mem_toList_iff] at hv'
    obtain ⟨q, _, rfl⟩ := hv'
    have : q % 2 = 0 ∨ q % 2 = 1 := by omega
    rcases this with h | h <;> simp [h, h0, h1])
  simp only [Nat.add_zero] at hst
  refine ⟨?_, hl⟩
  obtain ⟨m, rfl⟩ : ∃ m, n = m + 1 := ⟨n - 1, by omega⟩
  simp [Builtin.clear_, run_underlying ht, hv, hst]
theorem only_setCells {a : World} {g : Nat} : ∀ (l : List Value) (o : Nat) (w : World), a.grownBy w (some g) → a.grownBy (w.setCells g o l) (some g)
  | [], _, _, h => h
  | v :: l, o, w, h => only_setCells l (o + 1) _ (only_setCell h (p := ⟨g, o, none⟩) (.inl rfl) v)
end Go.Proofs.YtjfphobfikadlaaGreatDoor
namespace Go.Proofs.YtjfphobfikadlaaGreatDoor
open Go.RowKit Num

def IdxPost (n : Nat) (fb : Nat → Bool) (w : World) (e : Ending) (w' : World) : Prop :=
  (((∀ k, k < n → fb k = true) ∧ e = .returned (.int .i64 (-1))) ∨ ∃ k0 : Nat, k0 < n ∧ fb k0 = false ∧ (∀ k, k < k0 → fb k = true) ∧ e = .returned (.int .i64 (k0 : Int))) ∧ Below w.heap.size w w'
set_option maxRecDepth 100000 in
set_option maxHeartbeats 1000000 in
theorem s_IndexG (pb g n ca : Nat) (fb : Nat → Bool) (L : List Sh) (S : Nat → Prop) (w : World) (hcell : ∀ k, k < n → ∃ u, w.cell? ⟨g, k * 2, none⟩ = some (.int .i64 (shAt L k).1) ∧ w.cell? ⟨g, k * 2 + 1, none⟩ = some u ∧ IntsAt w S u (shAt L k).2) (hg : g < w.heap.size) (hS : ∀ b, S b → b < w.heap.size) (hl : n ≤ 1000) (hnc : n ≤ ca)
    (hcl : ∀ k, k < n → ∀ W u, Below w.heap.size w W → IntsAt W S u (shAt L k).2 → Calls Tryz.prog 107 #[.agg #[.int .i64 (shAt L k).1, u], .pointer (some ⟨pb, 0, none⟩)] W fun e w' => e = .returned (.bool (!fb k)) ∧ Below W.heap.size W w') :
    Calls Tryz.prog 149 #[.slice (some ⟨g, 0, none⟩) n ca, .func (.func 107) #[] #[.pointer (some ⟨pb, 0, none⟩)]] w (IdxPost n fb w) := by
  have HX := Lib.hid hcl
  have HCC := Lib.hid hcell
  clear hcell hcl
  go_enter Tryz.func149, Tryz.ntmps149
  go_wp2_with fail
  go_loopw [8] (fun t wr => ∃ i : Nat, i ≤ n ∧ t = .int .i64 i ∧ (∀ k, k < i → fb k = true) ∧ Below w.heap.size w wr) (fun t _ => n - (intOf t).toNat)
  case atStart => exact ⟨0, by omega, rfl, fun k hk => by omega, Below.refl _ _⟩
  case round =>
    obtain ⟨i, hin, rfl, hall, hbl⟩ := hrel
    have HALL := Lib.hid hall
    clear hall
    by_cases hlt : i < n
    · obtain ⟨u, m0, m1, hu⟩ := HCC.out i hlt
      have hur : IntsAt wr S u (shAt L i).2 := hu.keep fun b hb => hbl.block b (hS b hb)
      have c0 := (hbl.cell (p := ⟨g, i * 2, none⟩) hg).trans m0
      have c1 := (hbl.cell (p := ⟨g, i * 2 + 1, none⟩) hg).trans m1
      have he := HX.out i hlt wr u hbl hur
      obtain ⟨Au, nu, cu, rfl, -⟩ := id hur
      obtain ⟨h, hh⟩ : ∃ h, (shAt L i).1 = h := ⟨_, rfl⟩
      rw [hh] at c0 he
      have qi : (i : Int) < (n : Int) := by omega
      have qi0 : (0 : Int) ≤ (i : Int) := by omega
      have HBL := Lib.hid hbl
      clear hh m0 m1 hu hur hbl
      cases hfb : fb i with
      | true =>
        rw [hfb] at he
        have HE := Lib.hid he
        have HFB := Lib.hid hfb
        clear he hfb
        go_wp2_with fail
        refine HE.out.mono ?_
        rintro e w2 ⟨rfl, hb2⟩
        have HB2 := Lib.hid (HBL.out.trans (hb2.mono HBL.out.size))
        clear hb2
        go_wp2_with fail
        go_roundw
        case measure => simp [intOf]; omega
        case rel => exact ⟨i + 1, by omega, by go_num, fun k hk => by by_cases c : k = i; · rw [c]; exact HFB.out
                                                                      · exact HALL.out k (by omega), HB2.out⟩
      | false =>
        rw [hfb] at he
        have HE := Lib.hid he
        have HFB := Lib.hid hfb
        clear he hfb
        go_wp2_with fail
        refine HE.out.mono ?_
        rintro e w2 ⟨rfl, hb2⟩
        have HB2 := Lib.hid (HBL.out.trans (hb2.mono HBL.out.size))
        clear hb2
        go_wp2_with fail
        go_ret
        exact ⟨.inr ⟨i, hlt, HFB.out, HALL.out, rfl⟩, HB2.out⟩
    · have hi' : i = n := by omega
      subst hi'
      have HBL := Lib.hid hbl
      clear hbl
      go_wp2_with fail
      go_ret
      exact ⟨.inl ⟨HALL.out, rfl⟩, HBL.out⟩
theorem keepL_all (fb : Nat → Bool) (L : List Sh) : ∀ (j : Nat), j ≤ L.length → (∀ k, k < j → fb k = true) → keepL fb L j = L.take j
  | 0, _, _ => rfl
  | j + 1, hj, h => by
    rw [keepL_succ, h j (by omega), keepL_all fb L j (by omega) fun k hk => h k (by omega), take_snoc_sh L j (by omega)]
    rfl
theorem DelI.init {w : World} {S : Nat → Prop} {g n cap : Nat} {L : List Sh} {us : Nat → Value} {fb : Nat → Bool} {B k0 : Nat} (hn : L.length = n) (hrow : w.ownsRow B 49 2 (.slice (some ⟨g, 0, none⟩) n cap) n (shC L us)) (hu : ∀ k, k < n → IntsAt w S (us k) (shAt L k).2) (hk0 : k0 < n) (hf : fb k0 = false) (ha : ∀ k, k < k0 → fb k = true) :
    DelI w w S g n L fb k0 (k0 + 1) := by
  have e : keepL fb L k0 = L.take k0 := keepL_all fb L k0 (by omega) ha
  have hc : ∀ q, q < 2 * n → w.cell? ⟨g, q, none⟩ = some (if q % 2 = 0 then .int .i64 (shAt L (q / 2)).1 else us (q / 2)) := fun q hq => by
    have := hrow.cellAt q (by omega)
    rw [this, shC_get L us q (by rw [hn]; exact hq)]
  have base : DelI w w S g n L fb k0 k0 := by
    refine ⟨Nat.le_refl _, by omega, by rw [e, List.length_take]; omega, fun k hk => ?_, fun k h1 h2 => ?_, fun q hq => by rw [hc q hq]; rfl, fun q hq => hrow.frozenAt q, World.grownBy.refl w _⟩
    · rw [e, shAt_take L k0 k hk]
      exact ⟨us k, by rw [hc _ (by omega), if_pos (by omega), show k * 2 / 2 = k by omega], by rw [hc _ (by omega), if_neg (by omega), show (k * 2 + 1) / 2 = k by omega], hu k (by omega)⟩
    · exact ⟨us k, by rw [hc _ (by omega), if_pos (by omega), show k * 2 / 2 = k by omega], by rw [hc _ (by omega), if_neg (by omega), show (k * 2 + 1) / 2 = k by omega], hu k h2⟩
  exact base.skip hk0 hf
def DelPost (S : Nat → Prop) (g cap : Nat) (F : List Sh) (w : World) (e : Ending) (w' : World) : Prop :=
  e = .returned (.slice (some ⟨g, 0, none⟩) F.length cap) ∧ (∀ k, k < F.length → ∃ u, w'.cell? ⟨g, k * 2, none⟩ = some (.int .i64 (shAt F k).1) ∧ w'.cell? ⟨g, k * 2 + 1, none⟩ = some u ∧ IntsAt w' S u (shAt F k).2) ∧ w.grownBy w' (some g)
set_option maxRecDepth 100000 in
set_option maxHeartbeats 2000000 in
theorem s_DeleteG (pb B g n cap : Nat) (fb : Nat → Bool) (L : List Sh) (us : Nat → Value) (S : Nat → Prop) (w : World) (hn : L.length = n) (hrow : w.ownsRow B 49 2 (.slice (some ⟨g, 0, none⟩) n cap) n (shC L us)) (hus : ∀ k, k < n → IntsAt w S (us k) (shAt L k).2)
    (hS : ∀ b, S b → b < w.heap.size ∧ b ≠ g) (hl : n ≤ 1000)
    (hcl : ∀ k, k < n → ∀ W u, w.grownBy W (some g) → IntsAt W S u (shAt L k).2 → Calls Tryz.prog 107 #[.agg #[.int .i64 (shAt L k).1, u], .pointer (some ⟨pb, 0, none⟩)] W fun e w' => e = .returned (.bool (!fb k)) ∧ Below W.heap.size W w') :
    Calls Tryz.prog 105 #[.slice (some ⟨g, 0, none⟩) n cap, .func (.func 107) #[] #[.pointer (some ⟨pb, 0, none⟩)]] w (DelPost S g cap (keepL fb L n) w) := by
  have hgl := (hrow.lt g rfl).2
  have hnc : n ≤ cap := by
    rcases id hrow.2 with ⟨h, -⟩ | ⟨g', cap', cur, h, hB, hh, hnc, -⟩
    · cases h
    · injection h with h1 h2 h3; omega
  have hcell : ∀ k, k < n → w.cell? ⟨g, k * 2, none⟩ = some (.int .i64 (shAt L k).1) ∧ w.cell? ⟨g, k * 2 + 1, none⟩ = some (us k) := fun k hk => by
    constructor
    · rw [hrow.cellAt _ (by omega), shC_get L us _ (by omega), if_pos (by omega), show k * 2 / 2 = k by omega]
    · rw [hrow.cellAt _ (by omega), shC_get L us _ (by omega), if_neg (by omega), show (k * 2 + 1) / 2 = k by omega]
  have hix := s_IndexG pb g n cap fb L S w (fun k hk => ⟨us k, (hcell k hk).1, (hcell k hk).2, hus k hk⟩) hgl (fun b hb => (hS b hb).1) hl hnc (fun k hk W u hW hu => hcl k hk W u (only_of_below hW _) hu)
  have HIX := Lib.hid hix
  have HROW := Lib.hid hrow
  have HUS := Lib.hid hus
  have HCL := Lib.hid hcl
  have HN := Lib.hid hn
  have HCE := Lib.hid hcell
  obtain ⟨j0, hj, hy0, hy1, hy2⟩ := info_parts infoS
  have hzv : ∀ w, (zeroValue 49).run Tryz.prog w = .ok (.agg #[.int .i64 0, .slice none 0 0]) w := fun w => by simp [zeroValue, typeInfo, hj, hy0, go_sem]
  obtain ⟨F, hF⟩ : ∃ F, keepL fb L n = F := ⟨_, rfl⟩
  rw [hF]
  have HF := Lib.hid hF
  clear hix hrow hus hcl hn hcell hF
  go_enter Tryz.func105, Tryz.ntmps105
  go_wp2_with fail
  refine HIX.out.mono ?_
  rintro e w1 ⟨hcase, hb1⟩
  rcases hcase with ⟨hall, rfl⟩ | ⟨k0, hk0, hfk, hbef, rfl⟩
  · have hFL : F = L := by
      rw [← HF.out, keepL_all fb L n (by rw [HN.out]; exact Nat.le_refl _) hall, List.take_of_length_le (by rw [HN.out]; exact Nat.le_refl _)]
    have HFL := Lib.hid hFL
    have HB1 := Lib.hid hb1
    clear hall hb1 hFL
    go_wp2_with fail
    go_ret
    refine ⟨by rw [HFL.out, HN.out]; rfl, fun k hk => ?_, only_of_below HB1.out _⟩
    rw [HFL.out] at hk ⊢
    rw [HN.out] at hk
    exact ⟨us k, (HB1.out.cell (p := ⟨g, k * 2, none⟩) hgl).trans (HCE.out k hk).1, (HB1.out.cell (p := ⟨g, k * 2 + 1, none⟩) hgl).trans (HCE.out k hk).2, (HUS.out k hk).keep fun b hb => HB1.out.block b (hS b hb).1⟩
  · have hI := (DelI.init HN.out HROW.out HUS.out hk0 hfk hbef).below hgl (fun b hb => (hS b hb).1) hb1
    have HI := Lib.hid hI
    have hw1 : IntKind.i64.wrap ((k0 : Int) + 1) = (k0 : Int) + 1 := IntWalk.i64_in _ ⟨by omega, by omega⟩
    have hkm : ((k0 : Int) == -1) = false := beq_eq_false_iff_ne.2 (by omega)
    have hz1 := hb1.size
    clear hI hfk hbef hb1
    go_wp2_with fail
    go_loopw [5, 6] (fun x y wr => ∃ i j : Nat, x = .int .i64 (i : Int) ∧ y = .int .i64 (j : Int) ∧ i < j ∧ DelI w wr S g n L fb i j ∧ w.heap.size ≤ wr.heap.size) (fun _ y _ => n - (intOf y).toNat)
    case atStart => exact ⟨k0, k0 + 1, rfl, by go_num, by omega, HI.out, hz1⟩
    case round =>
      obtain ⟨i, j, rfl, rfl, hij, hD, hzr⟩ := hrel
      have hjn := hD.jn
      by_cases hlt : j < n
      · have qj : (j : Int) < (n : Int) := by omega
        have qj0 : (0 : Int) ≤ (j : Int) := by omega
        have qi : (i : Int) < (n : Int) := by omega
        have qi0 : (0 : Int) ≤ (i : Int) := by omega
        obtain ⟨u, c0, c1, hu⟩ := hD.left j (Nat.le_refl _) hlt
        obtain ⟨h, hh⟩ : ∃ h, (shAt L j).1 = h := ⟨_, rfl⟩
        rw [hh] at c0
        obtain ⟨Au, nu, cu, rfl, -⟩ := id hu
        have hgr : g < wr.heap.size := by omega
        have hSr : ∀ b, S b → b < wr.heap.size := fun b hb => by have := (hS b hb).1; omega
        have ha : Below wr.heap.size wr (wr.alloc (.cells #[.int .i64 h, .slice Au nu cu] 49)) := (Below.refl _ _).alloc (Nat.le_refl _) _
        have hDa := hD.below hgr hSr ha
        have hua : IntsAt (wr.alloc (.cells #[.int .i64 h, .slice Au nu cu] 49)) S (.slice Au nu cu) (shAt L j).2 := hu.keep fun b hb => ha.block b (hSr b hb)
        have hc := HCL.out j hlt _ _ hDa.grown hua
        rw [hh] at hc
        have g0 : (wr.alloc (.cells #[.int .i64 h, .slice Au nu cu] 49)).cell? ⟨wr.heap.size, 0, none⟩ = some (.int .i64 h) := by rw [World.cell?_alloc_new]; rfl
        have g1 : (wr.alloc (.cells #[.int .i64 h, .slice Au nu cu] 49)).cell? ⟨wr.heap.size, 1, none⟩ = some (.slice Au nu cu) := by rw [World.cell?_alloc_new]; rfl
        have hza : (wr.alloc (.cells #[.int .i64 h, .slice Au nu cu] 49)).heap.size = wr.heap.size + 1 := by simp
        have HDA := Lib.hid hDa
        have HUA := Lib.hid hua
        have HH := Lib.hid hh
        clear hD hDa hua hu hh ha
        cases hfb : fb j with
        | false =>
          rw [hfb] at hc
          have HC := Lib.hid hc
          have HFB := Lib.hid hfb
          clear hc hfb
          go_wp2_with fail
          generalize (wr.alloc (.cells #[.int .i64 h, .slice Au nu cu] 49)) = wa at *
          refine HC.out.mono ?_
          rintro e w2 ⟨rfl, hb2⟩
          have hz2 := hb2.size
          have hD2 := (HDA.out.below (by omega) (fun b hb => by have := hSr b hb; omega) hb2).skip hlt HFB.out
          have HD2 := Lib.hid hD2
          clear hD2 hb2 c0 c1 g0 g1
          go_wp2_with fail
          go_roundw
          case measure => simp [intOf]; omega
          case rel => exact ⟨i, j + 1, rfl, by go_num, by omega, HD2.out, by omega⟩
        | true =>
          rw [hfb] at hc
          have HC := Lib.hid hc
          have HFB := Lib.hid hfb
          clear hc hfb
          go_wp2_with fail
          generalize (wr.alloc (.cells #[.int .i64 h, .slice Au nu cu] 49)) = wa at *
          refine HC.out.mono ?_
          rintro e w2 ⟨rfl, hb2⟩
          have hz2 := hb2.size
          have hD2 := HDA.out.below (by omega) (fun b hb => by have := hSr b hb; omega) hb2
          have d0 := (hb2.cell (p := ⟨wr.heap.size, 0, none⟩) (by show wr.heap.size < _; omega)).trans g0
          have d1 := (hb2.cell (p := ⟨wr.heap.size, 1, none⟩) (by show wr.heap.size < _; omega)).trans g1
          obtain ⟨x0, hx0⟩ := Option.isSome_iff_exists.1 (hD2.live (i * 2) (by omega))
          obtain ⟨x1, hx1⟩ := Option.isSome_iff_exists.1 (hD2.live (i * 2 + 1) (by omega))
          have hf0 := hD2.froz (i * 2) (by omega)
          have hf1 := hD2.froz (i * 2 + 1) (by omega)
          have hu2 := HUA.out.keep (w' := w2) fun b hb => hb2.block b (by have := hSr b hb; omega)
          have hst := hD2.store hlt HFB.out (fun b hb => (hS b hb).2) hu2
          rw [HH.out] at hst
          have HST := Lib.hid hst
          clear hst hD2 hu2 hb2 c0 c1 g0 g1
          go_wp2_with fail
          go_roundw
          case measure => simp [intOf]; omega
          case rel => exact ⟨i + 1, j + 1, by go_num, by go_num, by omega, HST.out, by simp; omega⟩
      · have hjn' : j = n := by omega
        subst hjn'
        have qj : ¬ ((j : Int) < (j : Int)) := by omega
        have hs : subA (some ⟨g, 0, none⟩) cap i 2 = some ⟨g, i * 2, none⟩ := by
          unfold subA; rw [if_neg (by omega)]
          show some ((⟨g, 0, none⟩ : Addr).add (i * 2)) = _
          unfold Addr.add; split <;> simp_all
        have hsl := fun (W : World) => run_slice_lo (P := Tryz.prog) W 41 49 j0 2 Tryz.underlying41 hj hy1 (some ⟨g, 0, none⟩) j cap i (by omega) hnc (i : Int) rfl
        rw [hs] at hsl
        have hsh := fun (W : World) => run_slice_hi (P := Tryz.prog) W 41 49 j0 Tryz.underlying41 hj (some ⟨g, 0, none⟩) j cap i (by omega) (i : Int) rfl
        have hcr := fun ty => run_clear2 (P := Tryz.prog) wr 41 49 ty (.agg #[.int .i64 0, .slice none 0 0]) (.int .i64 0) (.slice none 0 0) Tryz.underlying41 hzv (by rfl) rfl rfl g (i * 2) (j - i) (cap - i) (by omega) (fun q hq => hD.live _ (by omega)) (fun q hq => hD.froz _ (by omega))
        have hlz := (hcr 0).2
        have hcl := fun ty => (hcr ty).1
        clear hcr
        generalize (Builtin.zeroCells (Value.agg #[.int .i64 0, .slice none 0 0]).cells (j - i)).toList = l at *
        have hgf := only_setCells l (i * 2) wr hD.grown
        have hgw := only_setCells l (i * 2) wr (World.grownBy.refl wr (some g))
        have hout := fun q (hq : q < i * 2) => World.cell?_setCells_out g l (i * 2) wr ⟨g, q, none⟩ (fun _ _ => .inl hq)
        have HDD := Lib.hid hD
        have HGF := Lib.hid hgf
        have HGW := Lib.hid hgw
        have HOUT := Lib.hid hout
        clear hD hgf hgw hout hlz
        go_wp2_with fail
        go_ret
        have hFF : keepL fb L j = F := HF.out
        have hFl : F.length = i := by rw [← hFF]; exact HDD.out.len
        refine ⟨by rw [hFl]; rfl, fun k hk => ?_, HGF.out⟩
        obtain ⟨u, a, b, c⟩ := HDD.out.kept k (by omega)
        rw [hFF] at a c
        exact ⟨u, (HOUT.out _ (by omega)).trans a, (HOUT.out _ (by omega)).trans b, c.keep fun b hb => HGW.out.block b (by have := (hS b hb).1; omega) (fun e => by injection e with e; exact (hS b hb).2 e)⟩
end Go.Proofs.YtjfphobfikadlaaGreatDoor
namespace Go.Proofs.YtjfphobfikadlaaGreatDoor
open Go.RowKit Num

set_option maxRecDepth 100000 in
set_option maxHeartbeats 2000000 in
theorem c_misfit (mm : ByteArray) (q n c b off mb : Nat) (u : Value) (xs : List Int) (S : Nat → Prop) (w : World) (hu : IntsAt w S u xs) (hS : ∀ b, S b → b < w.heap.size) (hl : xs.length ≤ 100000) (hr : I64s xs) (hq : q < n) (hnc : n ≤ c) (hn : n ≤ 1000)
    (hm : w.cell? ⟨mb, 0, none⟩ = some (.slice (some ⟨b, off, none⟩) n c)) (hc : w.cell? ⟨b, off + q, none⟩ = some (.string mm)) (hne : markS ((q : Int) + 1) xs ≠ mm) :
    Calls Tryz.prog 107 #[.agg #[.int .i64 ((q : Int) + 1), u], .pointer (some ⟨mb, 0, none⟩)] w fun e w' => e = .returned (.bool true) ∧ Below w.heap.size w w' := by
  obtain ⟨A, m, cu, rfl, -⟩ := id hu
  have hba := (Below.refl w.heap.size w).alloc (Nat.le_refl _) (.cells #[.int .i64 ((q : Int) + 1), .slice A m cu] 49)
  have hmk := fun (W : World) (hW : Below w.heap.size w W) => c_Mark ((q : Int) + 1) (.slice A m cu) xs S W (hu.keep fun b hb => hW.block b (hS b hb)) (fun b hb => Nat.lt_of_lt_of_le (hS b hb) hW.size) hl hr (by omega) (by omega)
  have p0 : (w.alloc (.cells #[.int .i64 ((q : Int) + 1), .slice A m cu] 49)).cell? ⟨w.heap.size, 0, none⟩ = some (.int .i64 ((q : Int) + 1)) := by rw [World.cell?_alloc_new]; rfl
  have p1 : (w.alloc (.cells #[.int .i64 ((q : Int) + 1), .slice A m cu] 49)).cell? ⟨w.heap.size, 1, none⟩ = some (.slice A m cu) := by rw [World.cell?_alloc_new]; rfl
  have p2 := (World.cell?_alloc_lt w (.cells #[.int .i64 ((q : Int) + 1), .slice A m cu] 49) ⟨mb, 0, none⟩ (World.block_lt_of_cell? _ _ hm)).trans hm
  have p3 := (World.cell?_alloc_lt w (.cells #[.int .i64 ((q : Int) + 1), .slice A m cu] 49) ⟨b, off + q, none⟩ (World.block_lt_of_cell? _ _ hc)).trans hc
  unfold MarkPost at hmk
  obtain ⟨mk, hmke⟩ : ∃ mk, markS ((q : Int) + 1) xs = mk := ⟨_, rfl⟩
  rw [hmke] at hmk hne
  have n2 : (mk.toList == mm.toList) = false := by
    rw [ByteArray.toList_eq, ByteArray.toList_eq]
    exact beq_eq_false_iff_ne.2 fun e => hne (ByteArray.ext (Array.toList_inj.1 e))
  have HMK := Lib.hid hmk
  have t1 : decide ((q : Int) + 1 < 1) = false := decide_eq_false (by omega)
  have t2 : decide ((n : Int) < (q : Int) + 1) = false := decide_eq_false (by omega)
  have t3 : IntKind.i64.wrap ((q : Int) + 1 - 1) = (q : Int) := by rw [show (q : Int) + 1 - 1 = (q : Int) by omega]; exact IntWalk.i64_in _ ⟨by omega, by omega⟩
  have t3' : IntKind.i64.wrap (q : Int) = (q : Int) := IntWalk.i64_in _ ⟨by omega, by omega⟩
  have t7 : (q : Int).toNat = q := by omega
  have t8 : decide ((n : Int) ≤ (q : Int)) = false := decide_eq_false (by omega)
  have t4 : (q : Int) < (n : Int) := by omega
  have t5 : (0 : Int) ≤ (q : Int) := by omega
  have t6 : decide ((q : Int) < 0) = false := decide_eq_false (by omega)
  clear hmk hu hc hm hmke hr hne
  go_enter Tryz.func107, Tryz.ntmps107
  go_wp2_with fail
  generalize w.alloc (.cells #[.int .i64 ((q : Int) + 1), .slice A m cu] 49) = w1 at *
  go_region_held3 (fun W => W.cell? ⟨w.heap.size, 0, none⟩ = some (.int .i64 ((q : Int) + 1)) ∧ W.cell? ⟨w.heap.size, 1, none⟩ = some (.slice A m cu) ∧ W.cell? ⟨mb, 0, none⟩ = some (.slice (some ⟨b, off, none⟩) n c) ∧ W.cell? ⟨b, off + q, none⟩ = some (.string mm) ∧ Below w.heap.size w W)
    (first
      | exact ⟨p0, p1, p2, p3, hba.drew⟩
      | (go_split_ands
         refine ⟨?_, ?_, ?_, ?_, ?_⟩
         · (rw [hbk.cell (World.block_lt_of_cell? _ _ ‹_›)]; assumption)
         · (rw [hbk.cell (World.block_lt_of_cell? _ _ ‹_›)]; assumption)
         · (rw [hbk.cell (World.block_lt_of_cell? _ _ ‹_›)]; assumption)
         · (rw [hbk.cell (World.block_lt_of_cell? _ _ ‹_›)]; assumption)
         · exact Below.trans ‹Below w.heap.size w _› (hbk.mono (‹Below w.heap.size w _›).size)))
    (first
      | (go_at_call 53; ((with_reducible refine (HMK.out _ (by go_split_ands; assumption)).mono ?_); rintro e wk ⟨rfl, hbk⟩)))
  all_goals
    go_split_ands
    have hbf : Below w.heap.size w wk := by assumption
    go_wp2_with fail
    go_ret
    exact ⟨rfl, hbf⟩
set_option maxRecDepth 100000 in
set_option maxHeartbeats 1000000 in
theorem s_CloneZ (ad : Addr) (c : Nat) (w : World) :
    Calls Tryz.prog 106 #[.slice (some ad) 0 c] w fun e w' => ∃ v, e = .returned v ∧ w'.ownsRow w.heap.size 49 2 v 0 [] ∧ Below w.heap.size w w' := by
  obtain ⟨i0, hi, hz0, hz1, hz2⟩ := info_parts infoS
  have hrd : Reads w w.heap.size 2 (some ad) 0 [] := ⟨by simp, fun h => absurd h (Nat.lt_irrefl 0)⟩
  have HRD := Lib.hid hrd
  clear hrd
  have q41 := fun (W : World) => Lib.run_eql_slice_nil (P := Tryz.prog) W 41 49 (some ad) 0 c 0 0 Tryz.underlying41
  go_enter Tryz.func106, Tryz.ntmps106
  go_wp2_with (at_builtin; refine wpList_append_any _ rfl _ _ 41 rfl w.heap.size 49 i0 (.agg #[.int .i64 0, .slice none 0 0]) 2 32 Tryz.underlying41 hi hz0 hz1 hz2 rfl (by decide) (.slice (some ⟨w.heap.size, 0, none⟩) 0 0) 0 [] rfl (World.ownsRow_lit w #[] 0 (Nat.le_refl _) (by simp only [maxLen]; omega) rfl) w.heap.size (some ad) 0 c [] rfl (HRD.out.alloc (Nat.le_refl _) _) (by simp) (by simp only [maxLen]; omega) (by omega) (by simp) ?_)
  intro v' w3 hown' hgrow hloc
  have hg0 : w.grownBy w3 (some w.heap.size) := ⟨hgrow.os, hgrow.tape, hgrow.output, Nat.le_trans (by simp) hgrow.size, fun i hi hn => (hgrow.block i (by simp; omega) (by simpa [Value.ownBlock] using hn)).trans (Below.heap_alloc w _ i hi)⟩
  have hbl := (Below.refl w.heap.size w).grown hg0 (Nat.le_refl _) (fun g hg => by injection hg with hg; omega)
  have HO := Lib.hid hown'
  have HB := Lib.hid hbl
  clear hown' hgrow hloc hg0 hbl
  go_wp2_with fail
  go_ret
  refine ⟨_, rfl, ?_, HB.out⟩
  simpa using HO.out
/-- A list of shares at new places. -/
def ShPost (L : List Sh) (w : World) (e : Ending) (w' : World) : Prop := ∃ v, e = .returned v ∧ ShAt w' (fun b => w.heap.size ≤ b ∧ b < w'.heap.size) v L ∧ Below w.heap.size w w'
theorem ShAt.nil {w : World} {S : Nat → Prop} (A : Option Addr) (c : Nat) : ShAt w S (.slice A 0 c) [] := ⟨A, 0, c, rfl, rfl, Nat.zero_le c, fun h => absurd h (Nat.lt_irrefl 0)⟩
set_option maxRecDepth 100000 in
set_option maxHeartbeats 1000000 in
theorem s_OwnZ (ad : Addr) (c : Nat) (w : World) :
    Calls Tryz.prog 104 #[.slice (some ad) 0 c] w (ShPost [] w) := by
  have hcl := s_CloneZ ad c w
  have HCL := Lib.hid hcl
  clear hcl
  go_enter Tryz.func104, Tryz.ntmps104
  go_wp2_with fail
  refine HCL.out.mono ?_
  rintro e w1 ⟨v1, rfl, hown, hb1⟩
  have hform : ∃ A cc, v1 = .slice A 0 cc := by
    rcases hown.2 with ⟨h, -⟩ | ⟨g, cap, cur, h, -⟩
    · exact ⟨_, _, h⟩
    · exact ⟨_, _, h⟩
  obtain ⟨A1, c1, rfl⟩ := hform
  have HB := Lib.hid hb1
  clear hown hb1
  go_wp2_with fail
  go_loopw [10] (fun t wr => t = .int .i64 0 ∧ wr = w1) (fun _ _ => 0)
  case atStart => exact ⟨rfl, rfl⟩
  case round =>
    obtain ⟨rfl, rfl⟩ := hrel
    go_wp2_with fail
    go_ret
    exact ⟨_, rfl, ShAt.nil _ _, HB.out⟩
end Go.Proofs.YtjfphobfikadlaaGreatDoor
namespace Go.Proofs.YtjfphobfikadlaaGreatDoor
open Go.RowKit Num

/-- Which shares have their marks. -/
structure FitG (ss : List ByteArray) (L : List Sh) (fb : Nat → Bool) : Prop where
  at_ : ∀ k, k < L.length → ∃ q : Nat, (shAt L k).1 = (q : Int) + 1 ∧ q < ss.length ∧ (fb k = true → ss.getD q ⟨#[]⟩ = markS (shAt L k).1 (shAt L k).2) ∧ (fb k = false → markS (shAt L k).1 (shAt L k).2 ≠ ss.getD q ⟨#[]⟩)
  len : ∀ k, k < L.length → (shAt L k).2.length ≤ 100000
  nums : ∀ k, k < L.length → I64s (shAt L k).2
theorem keepL_mem {fb : Nat → Bool} {L : List Sh} {j k : Nat} (hk : k < (keepL fb L j).length) : ∃ i, i < j ∧ fb i = true ∧ shAt (keepL fb L j) k = shAt L i := by
  have h : (keepL fb L j)[k] ∈ keepL fb L j := List.getElem_mem hk
  unfold keepL at h
  rw [List.mem_map] at h
  obtain ⟨i, hi, he⟩ := h
  rw [List.mem_filter, List.mem_range] at hi
  refine ⟨i, hi.1, hi.2, ?_⟩
  have : shAt (keepL fb L j) k = (keepL fb L j)[k] := by unfold shAt; rw [List.getD_eq_getElem?_getD, List.getElem?_eq_getElem hk]; rfl
  rw [this]
  unfold keepL
  exact he.symm
set_option maxRecDepth 100000 in
set_option maxHeartbeats 2000000 in
theorem c_MarkedG (v vm : Value) (L : List Sh) (ss : List ByteArray) (fb : Nat → Bool) (S T : Nat → Prop) (w : World) (hv : ShAt w S v L) (hS : ∀ b, S b → b < w.heap.size) (hl : L.length ≤ 1000) (h0 : 0 < L.length)
    (hm : StrsAt w T vm ss) (hT : ∀ b, T b → b < w.heap.size) (hml : ss.length ≤ 1000) (hf : FitG ss L fb) :
    Calls Tryz.prog 54 #[v, vm] w (ShPost (keepL fb L L.length) w) := by
  obtain ⟨F, hF⟩ : ∃ F, keepL fb L L.length = F := ⟨_, rfl⟩
  rw [hF]
  have HFE := Lib.hid hF
  clear hF
  obtain ⟨A, n, c, rfl, -⟩ := id hv
  obtain ⟨Am, nm, cm, rfl, hnm, hnmc, hmc⟩ := id hm
  have hba := (Below.refl w.heap.size w).alloc (Nat.le_refl _) (.cells #[.slice Am nm cm] 38)
  have kp : Blk (w.alloc (.cells #[.slice Am nm cm] 38)) w.heap.size 38 #[.slice Am nm cm] := Blk.new w _ _
  have hz : (w.alloc (.cells #[.slice Am nm cm] 38)).heap.size = w.heap.size + 1 := by simp
  have hcl := s_CloneSh (.slice A n c) L S (w.alloc (.cells #[.slice Am nm cm] 38)) (hv.keep fun b hb => hba.block b (hS b hb)) (fun b hb => by have := hS b hb; omega) hl h0
  have HCL := Lib.hid hcl
  have HBA := Lib.hid hba
  have HF := Lib.hid hf
  have HM := Lib.hid hm
  have KP := Lib.hid kp
  have HNM := Lib.hid hnm
  clear hcl hba hf hmc hnm hv hm kp
  go_enter Tryz.func54, Tryz.ntmps54
  go_wp2_with fail
  generalize (w.alloc (.cells #[.slice Am nm cm] 38)) = w0 at *
  refine HCL.out.mono ?_
  rintro e w1 ⟨v1, us, rfl, hown, hus, hb1⟩
  have hz1 := hb1.size
  have hw1 : Below w.heap.size w w1 := HBA.out.trans (hb1.mono (by omega))
  have hown' := hown.2
  rcases id hown' with ⟨rfl, h0'⟩ | ⟨g, cap, cur, rfl, hB, hh, hnc, hcap⟩
  · omega
  have k1 := KP.out.below hb1 KP.out.lt
  have hS1 : ∀ b, S b → b < w1.heap.size ∧ b ≠ g := fun b hb => by have := hS b hb; omega
  have hdl := s_DeleteG w.heap.size w0.heap.size g L.length cap fb L us S w1 rfl hown hus hS1 hl (fun k hk W u hW hu => by
    obtain ⟨q, e1, e2, e3, e4⟩ := HF.out.at_ k hk
    have hqn : q < nm := by rw [HNM.out]; exact e2
    have hmW : StrsAt W T (.slice Am nm cm) ss := HM.out.keep fun b hb => by
      have := hT b hb
      rw [hW.block b (by omega) (fun e => by injection e with e; omega)]
      exact hw1.block b this
    obtain ⟨A', n', c', hv', e5, e6, hcell⟩ := hmW
    injection hv' with v1 v2 v3
    subst v1 v2 v3
    obtain ⟨b, off, rfl, hTb, hcell⟩ := hcell (by omega)
    have c1 := hcell q hqn
    have pW : W.cell? ⟨w.heap.size, 0, none⟩ = some (.slice (some ⟨b, off, none⟩) nm cm) := (k1.grown hW (fun e => by injection e with e; omega)).cell 0
    have hSW : ∀ b, S b → b < W.heap.size := fun b hb => by have := hS b hb; have := hW.size; omega
    cases hfb : fb k with
    | true =>
      have e3 := e3 hfb
      rw [e3] at c1
      rw [e1] at c1 ⊢
      exact c_fits q nm cm b off w.heap.size u _ _ W hu hSW (HF.out.len k hk) (HF.out.nums k hk) hqn hnmc (by have := HNM.out; omega) pW c1
    | false =>
      have e4 := e4 hfb
      rw [e1] at e4 ⊢
      exact c_misfit _ q nm cm b off w.heap.size u _ _ W hu hSW (HF.out.len k hk) (HF.out.nums k hk) hqn hnmc (by have := HNM.out; omega) pW c1 e4)
  rw [HFE.out] at hdl
  have HDL := Lib.hid hdl
  have HW1 := Lib.hid hw1
  have hgw : w.heap.size ≤ g := by omega
  have hg1 : g < w1.heap.size := by have := (hown.lt g rfl).2; exact this
  have hF := HFE.out
  have hFl : F.length ≤ L.length := by rw [← hF]; exact keepL_len fb L _
  have hFx : ∀ k, k < F.length → (shAt F k).2.length ≤ 100000 := fun k hk => by
    rw [← hF] at hk ⊢
    obtain ⟨i, hi, -, he⟩ := keepL_mem hk
    rw [he]; exact HF.out.len i hi
  have HFX := Lib.hid hFx
  clear hdl hw1 hown hown' hus hb1 k1 hF hFx hh hB HCL
  go_wp2_with fail
  refine HDL.out.mono ?_
  rintro e w2 ⟨rfl, hcells, hg2⟩
  have hz2 := hg2.size
  have hw2 := HW1.out.grown hg2 HW1.out.size (fun x hx => by injection hx with hx; omega)
  have HW2 := Lib.hid hw2
  by_cases hF0 : F.length = 0
  · have hFn : F = [] := List.length_eq_zero_iff.1 hF0
    subst hFn
    have ho := s_OwnZ ⟨g, 0, none⟩ cap w2
    have HO := Lib.hid ho
    clear ho hcells hg2 hw2 hF0
    go_wp2_with fail
    refine HO.out.mono ?_
    rintro e w3 ⟨v3, rfl, hv3, hb3⟩
    go_wp2_with fail
    go_ret
    exact ⟨v3, rfl, hv3.mono fun b hb => ⟨by have := HW2.out.size; omega, hb.2⟩, HW2.out.trans (hb3.mono HW2.out.size)⟩
  · have hsh : ShAt w2 (fun b => S b ∨ b = g) (.slice (some ⟨g, 0, none⟩) F.length cap) F := ⟨_, F.length, cap, rfl, rfl, by omega, fun _ => ⟨g, 0, rfl, .inr rfl, fun k hk => by
      obtain ⟨u, a, b, c⟩ := hcells k hk
      exact ⟨u, by rw [Nat.zero_add]; exact a, by rw [Nat.zero_add]; exact b, c.mono fun b hb => .inl hb⟩⟩⟩
    have ho := s_Own _ F _ w2 hsh (fun b hb => by
      rcases hb with hb | hb
      · have := hS b hb; omega
      · omega) (by omega) (by omega) HFX.out
    have HO := Lib.hid ho
    clear ho hcells hg2 hw2 hsh
    go_wp2_with fail
    refine HO.out.mono ?_
    rintro e w3 ⟨v3, rfl, hv3, hb3⟩
    have h3 := hv3.at_
    have H3 := Lib.hid h3
    clear hv3 h3
    go_wp2_with fail
    go_ret
    exact ⟨v3, rfl, H3.out.mono fun b hb => ⟨by have := HW2.out.size; omega, hb.2⟩, HW2.out.trans (hb3.mono HW2.out.size)⟩
end Go.Proofs.YtjfphobfikadlaaGreatDoor

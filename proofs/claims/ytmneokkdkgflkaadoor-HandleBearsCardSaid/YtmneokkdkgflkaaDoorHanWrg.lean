/- Contracts: sorted numbers; the holders whose parts do not agree with chosen ones. -/
import Derived.Test.YtmneokkdkgflkaaDoorKitTurn2
import Derived.Test.YtmneokkdkgflkaaDoorShelf2
import Derived.Sort.OwnSortedInts
set_option linter.unusedVariables false
set_option linter.unusedSimpArgs false
namespace Go.Proofs.YtmneokkdkgflkaaDoor
open Go.RowKit Num Go.Sort

def srt (xs : List Int) : List Int := xs.mergeSort fun x y => decide (x ≤ y)
theorem srt_len (xs : List Int) : (srt xs).length = xs.length := List.length_mergeSort xs
def SortPost (B n : Nat) (v : Value) (xs : List Int) (w : World) (e : Ending) (w' : World) : Prop :=
  e = .returned (.tuple #[]) ∧ w'.ownsRow B 3 1 v n ((srt xs).map (Value.int .i64)) ∧ w.grownBy w' v.ownBlock
theorem s_Sort (B n : Nat) (v : Value) (xs : List Int) (w : World) (h : w.ownsRow B 3 1 v n (xs.map (Value.int .i64))) (hl : n ≤ 1000000) :
    Calls Tryd.prog 90 #[v] w (SortPost B n v xs w) := by
  have hlen : xs.length = n := by have := h.1; simpa using this
  rcases id h.2 with ⟨rfl, rfl⟩ | ⟨g, cap, cur, rfl, hB, hh, hnc, hm, hs, ht⟩
  · have hx : xs = [] := List.eq_nil_of_length_eq_zero hlen
    subst hx
    refine (Tryd.slices_Sort_int_none none 0 w).mono ?_
    rintro e w' ⟨rfl, rfl⟩
    exact ⟨rfl, by simpa [srt] using h, World.grownBy.refl _ _⟩
  · subst hlen
    refine (Tryd.slices_Sort_int g 0 cap xs w (holds_of_blockI hh (by rw [Nat.mul_one] at ht; exact ht)) (Array.getElem?_eq_some_iff.1 hh).1 (by omega)).mono ?_
    rintro e w' ⟨rfl, m, os, rfl⟩
    exact ⟨rfl, ownsRow_sortedI (ss := xs) (srt_len xs) hB hh hnc hm hs, grownBy_sortedI _⟩

/-- The holders whose parts do not agree with the chosen ones. -/
def wrL (p : Nat) (ch l : List Sh) : List Int := (l.filter fun s => decide ((hAt p ch s.1 ch.length : Int) ≠ s.2.getD 0 0)).map (·.1)
theorem wrL_snoc (p : Nat) (ch l : List Sh) (s : Sh) : wrL p ch (l ++ [s]) = wrL p ch l ++ (if (hAt p ch s.1 ch.length : Int) = s.2.getD 0 0 then [] else [s.1]) := by
  unfold wrL
  rw [List.filter_append, List.map_append]
  congr 1
  by_cases h : (hAt p ch s.1 ch.length : Int) = s.2.getD 0 0
  · rw [if_pos h, List.filter_cons_of_neg (by simpa using h)]; rfl
  · rw [if_neg h, List.filter_cons_of_pos (by simpa using h)]; rfl
theorem wrL_len (p : Nat) (ch l : List Sh) : (wrL p ch l).length ≤ l.length := by unfold wrL; rw [List.length_map]; exact List.length_filter_le _ _
def WrongPost (p : Nat) (ch l : List Sh) (w : World) (e : Ending) (w' : World) : Prop :=
  ∃ v, e = .returned v ∧ w'.ownsRow w.heap.size 3 1 v (wrL p ch l).length ((srt (wrL p ch l)).map (Value.int .i64)) ∧ Below w.heap.size w w'

set_option maxRecDepth 100000 in
set_option maxHeartbeats 4000000 in
theorem h_wrong (p hold : Nat) (vl vc : Value) (l ch : List Sh) (S T : Nat → Prop) (w : World) (hp : SPrm p) (hl : ShAt w S vl l) (hS : ∀ b, S b → b < w.heap.size) (hc : ShAt w T vc ch) (hT : ∀ b, T b → b < w.heap.size)
    (l1 : l.length ≤ 16) (c0 : 0 < ch.length) (c1 : ch.length ≤ 16) (hol : PartsOk p hold l) (hoc : PartsOk p hold ch) (hh : hold < p) :
    Calls Tryd.prog 71 #[.agg #[.int .i64 (p : Int), .int .i64 (2 * (p : Int) + 1)], vl, vc] w (WrongPost p ch l w) := by
  obtain ⟨A, n, c, rfl, hn, hnc, hcell⟩ := hl
  obtain ⟨i0, hi, hz0, hz1, hz2⟩ := info_parts infoI
  have p3 := hp.2.2.1
  have p4 := hp.2.2.2
  have hat : ∀ W (x : Int), Below w.heap.size w W → 0 ≤ x → x < 2147483648 → Calls Tryd.prog 72 #[.agg #[.int .i64 (p : Int), .int .i64 (2 * (p : Int) + 1)], vc, .int .i64 x] W (IntBelow (hAt p ch x ch.length : Int) W) := fun W x hb hx0 hx1 =>
    h_at p hold vc ch T x W hp.1 p4 (hc.keep fun b hb' => hb.block b (hT b hb')) (fun b hb' => by have := hT b hb'; have := hb.size; omega) c0 c1 hx0 hx1 hoc hh
  have hn1 : n ≤ 16 := by omega
  have HAT := Lib.hid hat
  have HN := Lib.hid hn
  have HC := Lib.hid hcell
  have HOL := Lib.hid hol
  have hol2 : ∀ k, k < n → 1 ≤ (shAt l k).1 ∧ (shAt l k).1 ≤ hold := fun k hk => hol.holder k (by omega)
  have HO2 := Lib.hid hol2
  clear hat hn hcell hol hc hT hoc hp l1 c0 c1 hol2
  go_enter Tryd.func71, Tryd.ntmps71
  go_wp2_with fail
  go_loopw [7, 12] (fun o t wr => ∃ (k : Nat) (m : Nat), k ≤ n ∧ t = .int .i64 k ∧ m = (wrL p ch (l.take k)).length ∧ wr.ownsRow w.heap.size 3 1 o m ((wrL p ch (l.take k)).map (Value.int .i64)) ∧ Blk wr w.heap.size 78 #[.int .i64 (p : Int), .int .i64 (2 * (p : Int) + 1)] ∧ Below w.heap.size w wr) (fun _ t _ => n - (intOf t).toNat)
  case atStart => exact ⟨0, 0, by omega, rfl, rfl, World.ownsRow_nil _ _ _ _, Blk.new _ _ _, (Below.refl _ _).alloc (Nat.le_refl _) _⟩
  case round =>
    obtain ⟨k, m, hk, rfl, hm, hown, hblk, hbl⟩ := hrel
    have HM := Lib.hid hm
    have HOWN := Lib.hid hown
    have HBK := Lib.hid hblk
    have HBL := Lib.hid hbl
    have hsz := hbl.size
    have hbz := hblk.lt
    clear hm hown hblk hbl
    by_cases hlt : k < n
    · obtain ⟨b, off, rfl, hSb, hcl⟩ := HC.out (by omega)
      obtain ⟨u, c0, c1, hu⟩ := hcl k hlt
      have hone := HOL.out.one k (by rw [← HN.out]; exact hlt)
      obtain ⟨Au, nu, cu, rfl, hnu, hnc2, hcu⟩ := id hu
      rw [hone] at hnu
      subst hnu
      obtain ⟨bu, ou, rfl, hSu, hcu2⟩ := hcu (by omega)
      have hbw := hS b hSb
      have hbu := hS bu hSu
      have d0 := (HBL.out.cell (p := ⟨b, off + k * 2, none⟩) hbw).trans c0
      have d1 := (HBL.out.cell (p := ⟨b, off + k * 2 + 1, none⟩) hbw).trans c1
      have d2 := (HBL.out.cell (p := ⟨bu, ou + 0, none⟩) hbu).trans (hcu2 0 (by omega))
      have hst := take_snoc_sh l k (by rw [← HN.out]; exact hlt)
      have hob := HO2.out k hlt
      obtain ⟨h, hh'⟩ : ∃ h, (shAt l k).1 = h := ⟨_, rfl⟩
      obtain ⟨y, hy⟩ : ∃ y, (shAt l k).2.getD 0 0 = y := ⟨_, rfl⟩
      rw [hh'] at d0 hob
      rw [hy] at d2
      have d2' : wr.cell? ⟨bu, ou, none⟩ = some (.int .i64 y) := d2
      have hwl := wrL_snoc p ch (l.take k) (shAt l k)
      rw [← hst, hh', hy] at hwl
      have hatk : ∀ W, Below w.heap.size w W → Calls Tryd.prog 72 #[.agg #[.int .i64 (p : Int), .int .i64 (2 * (p : Int) + 1)], vc, .int .i64 h] W (IntBelow (hAt p ch h ch.length : Int) W) := fun W hb => HAT.out W h hb (by omega) (by omega)
      obtain ⟨z, hz⟩ : ∃ z : Int, (hAt p ch h ch.length : Int) = z := ⟨_, rfl⟩
      rw [hz] at hatk hwl
      have qk : (k : Int) < (n : Int) := by omega
      have HWL := Lib.hid hwl
      have HATK := Lib.hid hatk
      clear hcl c0 c1 hu hcu hcu2 d2 hst hh' hy hwl hatk hz hone
      go_wp2_with fail
      have g0 := HBK.out.alloc (.cells #[.int .i64 h, .slice (some ⟨bu, ou, none⟩) 1 cu] 63)
      have g1 := Blk.new wr 63 #[.int .i64 h, .slice (some ⟨bu, ou, none⟩) 1 cu]
      have g2 := (HBL.out.alloc hsz (.cells #[.int .i64 h, .slice (some ⟨bu, ou, none⟩) 1 cu] 63))
      have g3 := HOWN.out.alloc (.cells #[.int .i64 h, .slice (some ⟨bu, ou, none⟩) 1 cu] 63)
      have g4 : (wr.alloc (.cells #[.int .i64 h, .slice (some ⟨bu, ou, none⟩) 1 cu] 63)).cell? ⟨bu, ou, none⟩ = some (.int .i64 y) := (World.cell?_alloc_lt wr _ ⟨bu, ou, none⟩ (by simp; omega)).trans d2'
      have g5 : (wr.alloc (.cells #[.int .i64 h, .slice (some ⟨bu, ou, none⟩) 1 cu] 63)).heap.size = wr.heap.size + 1 := by simp
      clear d0 d1 d2'
      generalize (wr.alloc (.cells #[.int .i64 h, .slice (some ⟨bu, ou, none⟩) 1 cu] 63)) = w0 at *
      have mk : ∀ W : World, Below w0.heap.size w0 W → W.cell? ⟨w.heap.size, 0, none⟩ = some (.int .i64 (p : Int)) ∧ W.cell? ⟨w.heap.size, 1, none⟩ = some (.int .i64 (2 * (p : Int) + 1)) ∧ W.cell? ⟨wr.heap.size, 0, none⟩ = some (.int .i64 h) ∧ W.cell? ⟨wr.heap.size, 1, none⟩ = some (.slice (some ⟨bu, ou, none⟩) 1 cu) ∧ W.cell? ⟨bu, ou, none⟩ = some (.int .i64 y) ∧ Hid (Below w0.heap.size w0 W) := fun W hW =>
        ⟨(g0.below hW g0.lt).cell 0, (g0.below hW g0.lt).cell 1, (g1.below hW g1.lt).cell 0, (g1.below hW g1.lt).cell 1, (hW.cell (p := ⟨bu, ou, none⟩) (by simp; omega)).trans g4, Lib.hid hW⟩
      have MK := Lib.hid mk
      have G0 := Lib.hid g0
      have G2 := Lib.hid g2
      have G3 := Lib.hid g3
      clear mk g0 g1 g2 g3 g4
      have q0 : (0 : Int) < ((1 : Nat) : Int) := by omega
      have zy : ((z != y) = true ∧ z ≠ y) ∨ ((z != y) = false ∧ z = y) := by
        by_cases h : z = y
        · exact .inr ⟨by simp [h], h⟩
        · exact .inl ⟨by simp [h], h⟩
      rcases zy with ⟨zy, zz⟩ | ⟨zy, zz⟩
      all_goals
        have ZZ := Lib.hid zz
        clear zz
        go_region_held3 (fun W => W.cell? ⟨w.heap.size, 0, none⟩ = some (.int .i64 (p : Int)) ∧ W.cell? ⟨w.heap.size, 1, none⟩ = some (.int .i64 (2 * (p : Int) + 1)) ∧ W.cell? ⟨wr.heap.size, 0, none⟩ = some (.int .i64 h) ∧ W.cell? ⟨wr.heap.size, 1, none⟩ = some (.slice (some ⟨bu, ou, none⟩) 1 cu) ∧ W.cell? ⟨bu, ou, none⟩ = some (.int .i64 y) ∧ Hid (Below w0.heap.size w0 W))
          (first
            | exact HP.out
            | exact MK.out _ (Below.refl _ _).drew)
          (first
            | (go_at_call 72
               (with_reducible refine (HATK.out _ G2.out.drew).mono ?_)
               rintro e wk ⟨rfl, hbk⟩
               have hbk' : Below w0.heap.size w0 wk := ((Below.refl w0.heap.size w0).drew).trans hbk
               have HB2 := Lib.hid hbk'
               have HP := Lib.hid (MK.out wk hbk')
               clear hbk hbk'))
      · all_goals
          have ho := G3.out.kept (only_of_below HB2.out none) (by cases u7.ownBlock <;> simp)
          have hb := G2.out.trans (HB2.out.mono (by omega))
          have hbk := G0.out.below HB2.out (by omega)
          have hwl := HWL.out
          rw [if_neg ZZ.out] at hwl
          have hs2 := HB2.out.size
          have m0 : m ≤ 16 := by
            have := HM.out; have := wrL_len p ch (l.take k); rw [List.length_take] at this; omega
          have HO := Lib.hid ho
          have HBB := Lib.hid hb
          have HKK := Lib.hid hbk
          have HWL2 := Lib.hid hwl
          have r0 : wk.cell? ⟨wr.heap.size, 0, none⟩ = some (.int .i64 h) := HP.out.2.2.1
          clear ho hb hbk hwl HWL
          go_split_ands
          clear HP
          go_wp2_with (at_builtin; refine wpList_append_own _ rfl _ _ 22 rfl w.heap.size 3 i0 (.int .i64 0) 1 8 Tryd.underlying22 hi hz0 hz1 hz2 rfl (by decide) _ _ _ rfl (HO.out.alloc _) ⟨wk.heap.size, 0, none⟩ 1 1 [.int .i64 h] rfl rfl (fun j u hj => by have := cell_one_new wk (.int .i64 h) 3 j u hj; simpa using this) (ints_oneCell .i64 [_]) (by unfold maxLen; omega) (by omega) (by simp; omega) ?_)
          intro v' w5 hown5 hgrow5 _
          have hg5 := grown_past hgrow5
          have hul : ∀ g, u7.ownBlock = some g → w.heap.size ≤ g := fun g hg => (HO.out.lt g hg).1
          have hb5 := HBB.out.grown hg5 (by omega) hul
          have hk5 := HKK.out.grown hg5 (Ne.symm (own_blk_ne HO.out HKK.out (by decide)))
          have hown6 : w5.ownsRow w.heap.size 3 1 v' (m + 1) ((wrL p ch (l.take (k + 1))).map (Value.int .i64)) := by rw [HWL2.out, List.map_append]; exact hown5
          have hm6 : m + 1 = (wrL p ch (l.take (k + 1))).length := by rw [HWL2.out, List.length_append, ← HM.out]; rfl
          have HO6 := Lib.hid hown6
          have HM6 := Lib.hid hm6
          have HB5 := Lib.hid hb5
          have HK5 := Lib.hid hk5
          clear hown5 hgrow5 hg5 hul hb5 hk5 hown6 hm6
          go_wp2_with fail
          go_roundw
          case measure => simp [intOf]; omega
          case rel => exact ⟨k + 1, m + 1, by omega, by go_num, HM6.out, HO6.out, HK5.out, HB5.out⟩
      · all_goals
          have ho := G3.out.kept (only_of_below HB2.out none) (by cases u7.ownBlock <;> simp)
          have hb := G2.out.trans (HB2.out.mono (by omega))
          have hbk := G0.out.below HB2.out (by omega)
          have hwl := HWL.out
          rw [if_pos ZZ.out, List.append_nil] at hwl
          have HO := Lib.hid ho
          have HBB := Lib.hid hb
          have HKK := Lib.hid hbk
          have HWL2 := Lib.hid hwl
          clear ho hb hbk hwl HWL HP
          go_split_ands
          go_wp2_with fail
          go_roundw
          case measure => simp [intOf]; omega
          case rel => exact ⟨k + 1, m, by omega, by go_num, by rw [HWL2.out]; exact HM.out, by rw [HWL2.out]; exact HO.out, HKK.out, HBB.out⟩
    · have hkn : k = n := by omega
      subst hkn
      have htk : l.take k = l := List.take_of_length_le (by rw [← HN.out]; exact Nat.le_refl _)
      have ho := HOWN.out
      have hm := HM.out
      rw [htk] at ho hm
      have m0 : m ≤ 16 := by
        have := wrL_len p ch l; have := HN.out; omega
      have hsr := s_Sort w.heap.size m u7 _ wr ho (by omega)
      have hul : ∀ g, u7.ownBlock = some g → w.heap.size ≤ g := fun g hg => (ho.lt g hg).1
      have HM2 := Lib.hid hm
      have HS := Lib.hid hsr
      have HUL := Lib.hid hul
      clear ho hm hsr htk hul
      go_wp2_with fail
      refine HS.out.mono ?_
      rintro e w5 ⟨rfl, ho5, hg5⟩
      have hb5 := HBL.out.grown hg5 hsz HUL.out
      go_wp2_with fail
      go_ret
      exact ⟨_, rfl, by rw [← HM2.out]; exact ho5, hb5⟩
end Go.Proofs.YtmneokkdkgflkaaDoor

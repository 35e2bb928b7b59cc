/- Contracts: the shares that have their marks, where all have them. Contracts: shares are looked through: those without their marks (none), those of a holder (none). Contracts: shares are looked through, and those without their marks are taken out of a list. -/
import Derived.Test.YtjfphobfikadlaaGreatDoorX25
import Derived.Lib.SliceRun
import Derived.BigRegion
set_option linter.unusedVariables false
set_option linter.unusedSimpArgs false
namespace Go.Proofs.YtjfphobfikadlaaGreatDoor
open Go.RowKit Num

set_option maxRecDepth 100000 in
set_option maxHeartbeats 2000000 in
theorem c_fits (q n c b off mb : Nat) (u : Value) (xs : List Int) (S : Nat → Prop) (w : World) (hu : IntsAt w S u xs) (hS : ∀ b, S b → b < w.heap.size) (hl : xs.length ≤ 100000) (hr : I64s xs) (hq : q < n) (hnc : n ≤ c) (hn : n ≤ 1000)
    (hm : w.cell? ⟨mb, 0, none⟩ = some (.slice (some ⟨b, off, none⟩) n c)) (hc : w.cell? ⟨b, off + q, none⟩ = some (.string (markS ((q : Int) + 1) xs))) :
    Calls Tryz.prog 107 #[.agg #[.int .i64 ((q : Int) + 1), u], .pointer (some ⟨mb, 0, none⟩)] w fun e w' => e = .returned (.bool false) ∧ Below w.heap.size w w' := by
  obtain ⟨A, m, cu, rfl, -⟩ := id hu
  have hba := (Below.refl w.heap.size w).alloc (Nat.le_refl _) (.cells #[.int .i64 ((q : Int) + 1), .slice A m cu] 49)
  have hmk := fun (W : World) (hW : Below w.heap.size w W) => c_Mark ((q : Int) + 1) (.slice A m cu) xs S W (hu.keep fun b hb => hW.block b (hS b hb)) (fun b hb => Nat.lt_of_lt_of_le (hS b hb) hW.size) hl hr (by omega) (by omega)
  have p0 : (w.alloc (.cells #[.int .i64 ((q : Int) + 1), .slice A m cu] 49)).cell? ⟨w.heap.size, 0, none⟩ = some (.int .i64 ((q : Int) + 1)) := by rw [World.cell?_alloc_new]; rfl
  have p1 : (w.alloc (.cells #[.int .i64 ((q : Int) + 1), .slice A m cu] 49)).cell? ⟨w.heap.size, 1, none⟩ = some (.slice A m cu) := by rw [World.cell?_alloc_new]; rfl
  have p2 := (World.cell?_alloc_lt w (.cells #[.int .i64 ((q : Int) + 1), .slice A m cu] 49) ⟨mb, 0, none⟩ (World.block_lt_of_cell? _ _ hm)).trans hm
  have p3 := (World.cell?_alloc_lt w (.cells #[.int .i64 ((q : Int) + 1), .slice A m cu] 49) ⟨b, off + q, none⟩ (World.block_lt_of_cell? _ _ hc)).trans hc
  unfold MarkPost at hmk
  obtain ⟨mk, hmke⟩ : ∃ mk, markS ((q : Int) + 1) xs = mk := ⟨_, rfl⟩
  rw [hmke] at hmk p3
  have HMK := Lib.hid hmk
  have t1 : decide ((q : Int) + 1 < 1) = false := decide_eq_false (by omega)
  have t2 : decide ((n : Int) < (q : Int) + 1) = false := decide_eq_false (by omega)
  have t3 : IntKind.i64.wrap ((q : Int) + 1 - 1) = (q : Int) := by rw [show (q : Int) + 1 - 1 = (q : Int) by omega]; exact IntWalk.i64_in _ ⟨by omega, by omega⟩
  have t3' : IntKind.i64.wrap (q : Int) = (q : Int) := IntWalk.i64_in _ ⟨by omega, by omega⟩
  have t7 : (q : Int).toNat = q := by omega
  have t8 : decide ((n : Int) ≤ (q : Int)) = false := decide_eq_false (by omega)
  have t4 : (q : Int) < (n : Int) := by omega
  have t5 : (0 : Int) ≤ (q : Int) := by omega
  have t6 : decide ((q : Int) < 0) = false := decide_eq_false (by omega)
  clear hmk hu hc hm hmke hr
  go_enter Tryz.func107, Tryz.ntmps107
  go_wp2_with fail
  generalize w.alloc (.cells #[.int .i64 ((q : Int) + 1), .slice A m cu] 49) = w1 at *
  go_region_held3 (fun W => W.cell? ⟨w.heap.size, 0, none⟩ = some (.int .i64 ((q : Int) + 1)) ∧ W.cell? ⟨w.heap.size, 1, none⟩ = some (.slice A m cu) ∧ W.cell? ⟨mb, 0, none⟩ = some (.slice (some ⟨b, off, none⟩) n c) ∧ W.cell? ⟨b, off + q, none⟩ = some (.string mk) ∧ Below w.heap.size w W)
    (first
      | exact ⟨p0, p1, p2, p3, hba.drew⟩
      | (go_split_ands
         refine ⟨?_, ?_, ?_, ?_, ?_⟩
         · (rw [hbk.cell (World.block_lt_of_cell? _ _ ‹_›)]; assumption)
         · (rw [hbk.cell (World.block_lt_of_cell? _ _ ‹_›)]; assumption)
         · (rw [hbk.cell (World.block_lt_of_cell? _ _ ‹_›)]; assumption)
         · (rw [hbk.cell (World.block_lt_of_cell? _ _ ‹_›)]; assumption)
         · exact Below.trans ‹Below w.heap.size w _› (hbk.mono (‹Below w.heap.size w _›).size)))
    (first
      | (go_at_call 53; ((with_reducible refine (HMK.out _ (by go_split_ands; assumption)).mono ?_); rintro e wk ⟨rfl, hbk⟩)))
  all_goals
    go_split_ands
    have hbf : Below w.heap.size w wk := by assumption
    go_wp2_with fail
    go_ret
    exact ⟨rfl, hbf⟩
end Go.Proofs.YtjfphobfikadlaaGreatDoor
namespace Go.Proofs.YtjfphobfikadlaaGreatDoor
open Go.RowKit Num

set_option maxRecDepth 100000 in
set_option maxHeartbeats 1000000 in
theorem s_IndexM (pb : Nat) (v : Value) (L : List Sh) (S : Nat → Prop) (w : World) (hv : ShAt w S v L) (hS : ∀ b, S b → b < w.heap.size) (hl : L.length ≤ 1000)
    (hcl : ∀ k, k < L.length → ∀ W u, Below w.heap.size w W → IntsAt W S u (shAt L k).2 → Calls Tryz.prog 107 #[.agg #[.int .i64 (shAt L k).1, u], .pointer (some ⟨pb, 0, none⟩)] W fun e w' => e = .returned (.bool false) ∧ Below W.heap.size W w') :
    Calls Tryz.prog 149 #[v, .func (.func 107) #[] #[.pointer (some ⟨pb, 0, none⟩)]] w fun e w' => e = .returned (.int .i64 (-1)) ∧ Below w.heap.size w w' := by
  obtain ⟨A, n, ca, rfl, hn, hnc, hcc⟩ := hv
  rw [← hn] at hl hcl
  have HX := Lib.hid hcl
  have HCC := Lib.hid hcc
  clear hn hcc hcl
  go_enter Tryz.func149, Tryz.ntmps149
  go_wp2_with fail
  go_loopw [8] (fun t wr => ∃ i : Nat, i ≤ n ∧ t = .int .i64 i ∧ Below w.heap.size w wr) (fun t _ => n - (intOf t).toNat)
  case atStart => exact ⟨0, by omega, rfl, Below.refl _ _⟩
  case round =>
    obtain ⟨i, hin, rfl, hbl⟩ := hrel
    by_cases hlt : i < n
    · obtain ⟨b, off, rfl, hSb, hcell⟩ := HCC.out (by omega)
      obtain ⟨u, m0, m1, hu⟩ := hcell i hlt
      have hur : IntsAt wr S u (shAt L i).2 := hu.keep fun b hb => hbl.block b (hS b hb)
      have c0 := (hbl.cell (p := ⟨b, off + i * 2, none⟩) (hS b hSb)).trans m0
      have c1 := (hbl.cell (p := ⟨b, off + i * 2 + 1, none⟩) (hS b hSb)).trans m1
      have he := HX.out i hlt wr u hbl hur
      obtain ⟨Au, nu, cu, rfl, -⟩ := id hur
      obtain ⟨h, hh⟩ : ∃ h, (shAt L i).1 = h := ⟨_, rfl⟩
      rw [hh] at c0 he
      have qi : (i : Int) < (n : Int) := by omega
      have qi0 : (0 : Int) ≤ (i : Int) := by omega
      have HE := Lib.hid he
      have HBL := Lib.hid hbl
      clear hh hcell he m0 m1 hu hur hbl
      go_wp2_with fail
      refine HE.out.mono ?_
      rintro e w2 ⟨rfl, hb2⟩
      have HB2 := Lib.hid (HBL.out.trans (hb2.mono HBL.out.size))
      clear hb2
      go_wp2_with fail
      go_roundw
      case measure => simp [intOf]; omega
      case rel => exact ⟨i + 1, by omega, by go_num, HB2.out⟩
    · have hi' : i = n := by omega
      subst hi'
      have HBL := Lib.hid hbl
      clear hbl
      go_wp2_with fail
      go_ret
      exact ⟨rfl, HBL.out⟩
set_option maxRecDepth 100000 in
set_option maxHeartbeats 1000000 in
theorem s_IndexF (pb : Nat) (v : Value) (L : List Sh) (S : Nat → Prop) (w : World) (hv : ShAt w S v L) (hS : ∀ b, S b → b < w.heap.size) (hl : L.length ≤ 1000)
    (hcl : ∀ k, k < L.length → ∀ W u, Below w.heap.size w W → IntsAt W S u (shAt L k).2 → Calls Tryz.prog 124 #[.agg #[.int .i64 (shAt L k).1, u], .pointer (some ⟨pb, 0, none⟩)] W fun e w' => e = .returned (.bool false) ∧ Below W.heap.size W w') :
    Calls Tryz.prog 149 #[v, .func (.func 124) #[] #[.pointer (some ⟨pb, 0, none⟩)]] w fun e w' => e = .returned (.int .i64 (-1)) ∧ Below w.heap.size w w' := by
  obtain ⟨A, n, ca, rfl, hn, hnc, hcc⟩ := hv
  rw [← hn] at hl hcl
  have HX := Lib.hid hcl
  have HCC := Lib.hid hcc
  clear hn hcc hcl
  go_enter Tryz.func149, Tryz.ntmps149
  go_wp2_with fail
  go_loopw [8] (fun t wr => ∃ i : Nat, i ≤ n ∧ t = .int .i64 i ∧ Below w.heap.size w wr) (fun t _ => n - (intOf t).toNat)
  case atStart => exact ⟨0, by omega, rfl, Below.refl _ _⟩
  case round =>
    obtain ⟨i, hin, rfl, hbl⟩ := hrel
    by_cases hlt : i < n
    · obtain ⟨b, off, rfl, hSb, hcell⟩ := HCC.out (by omega)
      obtain ⟨u, m0, m1, hu⟩ := hcell i hlt
      have hur : IntsAt wr S u (shAt L i).2 := hu.keep fun b hb => hbl.block b (hS b hb)
      have c0 := (hbl.cell (p := ⟨b, off + i * 2, none⟩) (hS b hSb)).trans m0
      have c1 := (hbl.cell (p := ⟨b, off + i * 2 + 1, none⟩) (hS b hSb)).trans m1
      have he := HX.out i hlt wr u hbl hur
      obtain ⟨Au, nu, cu, rfl, -⟩ := id hur
      obtain ⟨h, hh⟩ : ∃ h, (shAt L i).1 = h := ⟨_, rfl⟩
      rw [hh] at c0 he
      have qi : (i : Int) < (n : Int) := by omega
      have qi0 : (0 : Int) ≤ (i : Int) := by omega
      have HE := Lib.hid he
      have HBL := Lib.hid hbl
      clear hh hcell he m0 m1 hu hur hbl
      go_wp2_with fail
      refine HE.out.mono ?_
      rintro e w2 ⟨rfl, hb2⟩
      have HB2 := Lib.hid (HBL.out.trans (hb2.mono HBL.out.size))
      clear hb2
      go_wp2_with fail
      go_roundw
      case measure => simp [intOf]; omega
      case rel => exact ⟨i + 1, by omega, by go_num, HB2.out⟩
    · have hi' : i = n := by omega
      subst hi'
      have HBL := Lib.hid hbl
      clear hbl
      go_wp2_with fail
      go_ret
      exact ⟨rfl, HBL.out⟩
set_option maxHeartbeats 400000 in
theorem s_DeleteM (pb : Nat) (v : Value) (L : List Sh) (S : Nat → Prop) (w : World) (hv : ShAt w S v L) (hS : ∀ b, S b → b < w.heap.size) (hl : L.length ≤ 1000)
    (hcl : ∀ k, k < L.length → ∀ W u, Below w.heap.size w W → IntsAt W S u (shAt L k).2 → Calls Tryz.prog 107 #[.agg #[.int .i64 (shAt L k).1, u], .pointer (some ⟨pb, 0, none⟩)] W fun e w' => e = .returned (.bool false) ∧ Below W.heap.size W w') :
    Calls Tryz.prog 105 #[v, .func (.func 107) #[] #[.pointer (some ⟨pb, 0, none⟩)]] w fun e w' => e = .returned v ∧ Below w.heap.size w w' := by
  have h := s_IndexM pb v L S w hv hS hl hcl
  have H := Lib.hid h
  obtain ⟨A, n, c, rfl, -⟩ := id hv
  clear h hv hcl
  go_enter Tryz.func105, Tryz.ntmps105
  go_wp2_with fail
  refine H.out.mono ?_
  rintro e w1 ⟨rfl, hb1⟩
  go_wp2_with fail
  go_ret
  exact ⟨rfl, hb1⟩
set_option maxHeartbeats 400000 in
theorem s_ContainsF (pb : Nat) (v : Value) (L : List Sh) (S : Nat → Prop) (w : World) (hv : ShAt w S v L) (hS : ∀ b, S b → b < w.heap.size) (hl : L.length ≤ 1000)
    (hcl : ∀ k, k < L.length → ∀ W u, Below w.heap.size w W → IntsAt W S u (shAt L k).2 → Calls Tryz.prog 124 #[.agg #[.int .i64 (shAt L k).1, u], .pointer (some ⟨pb, 0, none⟩)] W fun e w' => e = .returned (.bool false) ∧ Below W.heap.size W w') :
    Calls Tryz.prog 123 #[v, .func (.func 124) #[] #[.pointer (some ⟨pb, 0, none⟩)]] w fun e w' => e = .returned (.bool false) ∧ Below w.heap.size w w' := by
  have h := s_IndexF pb v L S w hv hS hl hcl
  have H := Lib.hid h
  obtain ⟨A, n, c, rfl, -⟩ := id hv
  clear h hv hcl
  go_enter Tryz.func123, Tryz.ntmps123
  go_wp2_with fail
  refine H.out.mono ?_
  rintro e w1 ⟨rfl, hb1⟩
  go_wp2_with fail
  go_ret
  exact ⟨rfl, hb1⟩
/-- The closure of fitting: another holder. -/
theorem f_other (pb : Nat) (h h' : Int) (u : Value) (xs : List Int) (S : Nat → Prop) (w : World) (hu : IntsAt w S u xs) (hc : w.cell? ⟨pb, 0, none⟩ = some (.int .i64 h')) (hne : h ≠ h') :
    Calls Tryz.prog 124 #[.agg #[.int .i64 h, u], .pointer (some ⟨pb, 0, none⟩)] w fun e w' => e = .returned (.bool false) ∧ Below w.heap.size w w' := by
  obtain ⟨A, m, cu, rfl, -⟩ := id hu
  have hba := (Below.refl w.heap.size w).alloc (Nat.le_refl _) (.cells #[.int .i64 h, .slice A m cu] 49)
  have p2 := (World.cell?_alloc_lt w (.cells #[.int .i64 h, .slice A m cu] 49) ⟨pb, 0, none⟩ (World.block_lt_of_cell? _ _ hc)).trans hc
  have t1 : (h == h') = false := by simpa using hne
  clear hu hc hne
  go_enter Tryz.func124, Tryz.ntmps124
  go_wp2_with fail
  go_ret
  exact ⟨rfl, hba⟩
/-- Shares that have their marks. -/
structure Fit (ss : List ByteArray) (L : List Sh) : Prop where
  at_ : ∀ k, k < L.length → ∃ q : Nat, (shAt L k).1 = (q : Int) + 1 ∧ q < ss.length ∧ ss.getD q ⟨#[]⟩ = markS (shAt L k).1 (shAt L k).2
  len : ∀ k, k < L.length → (shAt L k).2.length ≤ 100000
  nums : ∀ k, k < L.length → I64s (shAt L k).2
set_option maxRecDepth 100000 in
set_option maxHeartbeats 1000000 in
theorem c_MarkedA (v vm : Value) (L : List Sh) (ss : List ByteArray) (S T : Nat → Prop) (w : World) (hv : ShAt w S v L) (hS : ∀ b, S b → b < w.heap.size) (hl : L.length ≤ 1000) (h0 : 0 < L.length)
    (hm : StrsAt w T vm ss) (hT : ∀ b, T b → b < w.heap.size) (hml : ss.length ≤ 1000) (hf : Fit ss L) :
    Calls Tryz.prog 54 #[v, vm] w (OwnShPost L w) := by
  obtain ⟨A, n, c, rfl, -⟩ := id hv
  obtain ⟨Am, nm, cm, rfl, hnm, hnmc, hmc⟩ := id hm
  have hba := (Below.refl w.heap.size w).alloc (Nat.le_refl _) (.cells #[.slice Am nm cm] 38)
  have p0 : (w.alloc (.cells #[.slice Am nm cm] 38)).cell? ⟨w.heap.size, 0, none⟩ = some (.slice Am nm cm) := by rw [World.cell?_alloc_new]; rfl
  have hz : (w.alloc (.cells #[.slice Am nm cm] 38)).heap.size = w.heap.size + 1 := by simp
  have hcl := s_CloneSh (.slice A n c) L S (w.alloc (.cells #[.slice Am nm cm] 38)) (hv.keep fun b hb => hba.block b (hS b hb)) (fun b hb => by have := hS b hb; omega) hl h0
  have HCL := Lib.hid hcl
  have HBA := Lib.hid hba
  have HF := Lib.hid hf
  have HMC := Lib.hid hmc
  have HNM := Lib.hid hnm
  clear hcl hba hf hmc hnm hv hm
  go_enter Tryz.func54, Tryz.ntmps54
  go_wp2_with fail
  refine HCL.out.mono ?_
  rintro e w1 ⟨v1, us, rfl, hown, hus, hb1⟩
  have hz1 := hb1.size
  have hw1 : Below w.heap.size w w1 := HBA.out.trans (hb1.mono (by omega))
  have hsh1 : ShAt w1 (fun b => b < w1.heap.size) v1 L := by
    rcases id hown.2 with ⟨rfl, h0'⟩ | ⟨g, cap, cur, rfl, hB, hh, hnc, -⟩
    · omega
    · refine ⟨_, L.length, cap, rfl, rfl, hnc, fun _ => ⟨g, 0, rfl, (Array.getElem?_eq_some_iff.1 hh).1, fun k hk => ⟨us k, ?_, ?_, (hus k hk).mono fun b hb => by have := hS b hb; omega⟩⟩⟩
      · rw [Nat.zero_add, hown.cellAt _ (by omega), Nat.mul_comm, shC_h L us k hk]
      · rw [Nat.zero_add, hown.cellAt _ (by omega), Nat.mul_comm, shC_v L us k hk]
  have p1 := (hb1.cell (p := ⟨w.heap.size, 0, none⟩) (by show w.heap.size < _; omega)).trans p0
  have hdl := s_DeleteM w.heap.size v1 L _ w1 hsh1 (fun b hb => hb) hl (fun k hk W u hW hu => by
    obtain ⟨q, e1, e2, e3⟩ := HF.out.at_ k hk
    have hqn : q < nm := by rw [HNM.out]; exact e2
    obtain ⟨b, off, rfl, hTb, hcell⟩ := HMC.out (by omega)
    have c1 := hcell q hqn
    rw [e3, e1] at c1
    rw [e1]
    have hww := hw1.trans (hW.mono (by omega))
    exact c_fits q nm cm b off w.heap.size u _ _ W hu (fun b hb => Nat.lt_of_lt_of_le hb hW.size) (HF.out.len k hk) (HF.out.nums k hk) hqn hnmc (by have := HNM.out; omega)
      ((hW.cell (p := ⟨w.heap.size, 0, none⟩) (by show w.heap.size < _; omega)).trans p1) ((hww.cell (p := ⟨b, off + q, none⟩) (hT b hTb)).trans c1))
  have HDL := Lib.hid hdl
  have HW1 := Lib.hid hw1
  have HSH := Lib.hid hsh1
  obtain ⟨A1, n1, c1, rfl, -⟩ := id hsh1
  clear hdl hw1 hsh1 hown hus hb1 p1
  go_wp2_with fail
  refine HDL.out.mono ?_
  rintro e w2 ⟨rfl, hb2⟩
  have hz2 := hb2.size
  have ho := s_Own _ L _ w2 (HSH.out.keep fun b hb => hb2.block b hb) (fun b hb => Nat.lt_of_lt_of_le hb hz2) hl h0 (fun k hk => HF.out.len k hk)
  have HO := Lib.hid ho
  have HW2 := Lib.hid (HW1.out.trans (hb2.mono (by omega)))
  clear ho hb2
  go_wp2_with fail
  refine HO.out.mono ?_
  rintro e w3 ⟨v3, rfl, hv3, hb3⟩
  go_wp2_with fail
  go_ret
  refine ⟨_, rfl, ?_, HW2.out.trans (hb3.mono HW2.out.size)⟩
  obtain ⟨cells, a1, a2⟩ := hv3
  exact ⟨cells, own_mono a1 HW2.out.size, fun k hk => by obtain ⟨u, b1, b2, b3⟩ := a2 k hk; exact ⟨u, b1, b2, own_mono b3 HW2.out.size⟩⟩
end Go.Proofs.YtjfphobfikadlaaGreatDoor
namespace Go.Proofs.YtjfphobfikadlaaGreatDoor
open Go.RowKit Num

/-- The shares that fit, of the first j. -/
def keepL (fb : Nat → Bool) (L : List Sh) (j : Nat) : List Sh := ((List.range j).filter fb).map (shAt L)
theorem keepL_succ (fb : Nat → Bool) (L : List Sh) (j : Nat) : keepL fb L (j + 1) = keepL fb L j ++ (if fb j then [shAt L j] else []) := by
  unfold keepL
  rw [List.range_succ, List.filter_append, List.map_append]
  cases h : fb j <;> simp [h]
theorem keepL_len (fb : Nat → Bool) (L : List Sh) (j : Nat) : (keepL fb L j).length ≤ j := by
  unfold keepL
  rw [List.length_map]
  exact Nat.le_trans (List.length_filter_le _ _) (by simp)
theorem shAt_snoc (F : List Sh) (x : Sh) : shAt (F ++ [x]) F.length = x := by unfold shAt; simp
theorem shAt_app (F : List Sh) (x : Sh) (k : Nat) (h : k < F.length) : shAt (F ++ [x]) k = shAt F k := by
  unfold shAt; rw [List.getD_eq_getElem?_getD, List.getElem?_append_left h, ← List.getD_eq_getElem?_getD]
/-- While shares are taken out of a list in one block. -/
structure DelI (w wr : World) (S : Nat → Prop) (g n : Nat) (L : List Sh) (fb : Nat → Bool) (i j : Nat) : Prop where
  ij : i ≤ j
  jn : j ≤ n
  len : (keepL fb L j).length = i
  kept : ∀ k, k < i → ∃ u, wr.cell? ⟨g, k * 2, none⟩ = some (.int .i64 (shAt (keepL fb L j) k).1) ∧ wr.cell? ⟨g, k * 2 + 1, none⟩ = some u ∧ IntsAt wr S u (shAt (keepL fb L j) k).2
  left : ∀ k, j ≤ k → k < n → ∃ u, wr.cell? ⟨g, k * 2, none⟩ = some (.int .i64 (shAt L k).1) ∧ wr.cell? ⟨g, k * 2 + 1, none⟩ = some u ∧ IntsAt wr S u (shAt L k).2
  live : ∀ q, q < 2 * n → (wr.cell? ⟨g, q, none⟩).isSome = true
  froz : ∀ q, q < 2 * n → wr.frozen? ⟨g, q, none⟩ = false
  grown : w.grownBy wr (some g)
section
variable {w wr wx : World} {S : Nat → Prop} {g n i j : Nat} {L : List Sh} {fb : Nat → Bool}
theorem DelI.below (h : DelI w wr S g n L fb i j) (hg : g < wr.heap.size) (hS : ∀ b, S b → b < wr.heap.size) (hb : Below wr.heap.size wr wx) : DelI w wx S g n L fb i j := by
  refine ⟨h.ij, h.jn, h.len, fun k hk => ?_, fun k h1 h2 => ?_, fun q hq => ?_, fun q hq => ?_, h.grown.trans (only_of_below hb _)⟩
  · obtain ⟨u, a, b, c⟩ := h.kept k hk
    exact ⟨u, (hb.cell (p := ⟨g, k * 2, none⟩) hg).trans a, (hb.cell (p := ⟨g, k * 2 + 1, none⟩) hg).trans b, c.keep fun b hb2 => hb.block b (hS b hb2)⟩
  · obtain ⟨u, a, b, c⟩ := h.left k h1 h2
    exact ⟨u, (hb.cell (p := ⟨g, k * 2, none⟩) hg).trans a, (hb.cell (p := ⟨g, k * 2 + 1, none⟩) hg).trans b, c.keep fun b hb2 => hb.block b (hS b hb2)⟩
  · rw [hb.cell (p := ⟨g, q, none⟩) hg]; exact h.live q hq
  · rw [hb.frozen (p := ⟨g, q, none⟩) hg]; exact h.froz q hq
theorem DelI.skip (h : DelI w wr S g n L fb i j) (hj : j < n) (hf : fb j = false) : DelI w wr S g n L fb i (j + 1) := by
  have e : keepL fb L (j + 1) = keepL fb L j := by rw [keepL_succ, hf]; simp
  exact ⟨by have := h.ij; omega, hj, by rw [e]; exact h.len, by rw [e]; exact h.kept, fun k h1 h2 => h.left k (by omega) h2, h.live, h.froz, h.grown⟩
theorem set2_cell (w : World) (g o : Nat) (a b : Value) (q : Nat) (h0 : (w.cell? ⟨g, o, none⟩).isSome = true) (h1 : (w.cell? ⟨g, o + 1, none⟩).isSome = true) :
    ((w.setCell ⟨g, o, none⟩ a).setCell ⟨g, o + 1, none⟩ b).cell? ⟨g, q, none⟩ = if q = o then some a else if q = o + 1 then some b else w.cell? ⟨g, q, none⟩ := by
  obtain ⟨x, hx⟩ := Option.isSome_iff_exists.1 h0
  obtain ⟨y, hy⟩ := Option.isSome_iff_exists.1 h1
  have hy' : (w.setCell ⟨g, o, none⟩ a).cell? ⟨g, o + 1, none⟩ = some y := by
    rw [World.cell?_setCell_other _ _ _ _ (by intro e; injection e with e1 e2; omega)]; exact hy
  by_cases c1 : q = o
  · subst c1
    rw [if_pos rfl, World.cell?_setCell_other _ _ _ _ (by intro e; injection e with e1 e2; omega), World.cell?_setCell_same _ _ _ hx]
  · rw [if_neg c1]
    by_cases c2 : q = o + 1
    · subst c2
      rw [if_pos rfl, World.cell?_setCell_same _ _ _ hy']
    · rw [if_neg c2, World.cell?_setCell_other _ _ _ _ (by intro e; injection e with e1 e2; omega), World.cell?_setCell_other _ _ _ _ (by intro e; injection e with e1 e2; omega)]
theorem DelI.store (h : DelI w wr S g n L fb i j) (hj : j < n) (hf : fb j = true) (hS : ∀ b, S b → b ≠ g) {u : Value} (hu : IntsAt wr S u (shAt L j).2) :
    DelI w ((wr.setCell ⟨g, i * 2, none⟩ (.int .i64 (shAt L j).1)).setCell ⟨g, i * 2 + 1, none⟩ u) S g n L fb (i + 1) (j + 1) := by
  have e : keepL fb L (j + 1) = keepL fb L j ++ [shAt L j] := by rw [keepL_succ, hf]; simp
  have hij := h.ij
  have c0 := h.live (i * 2) (by omega)
  have c1 := h.live (i * 2 + 1) (by omega)
  have hc := fun q => set2_cell wr g (i * 2) (.int .i64 (shAt L j).1) u q c0 c1
  have hk : ∀ b, S b → ((wr.setCell ⟨g, i * 2, none⟩ (.int .i64 (shAt L j).1)).setCell ⟨g, i * 2 + 1, none⟩ u).heap[b]? = wr.heap[b]? := fun b hb =>
    (Below.heap_setCell _ _ _ _ (fun e => hS b hb e)).trans (Below.heap_setCell _ _ _ _ (fun e => hS b hb e))
  have hl : (keepL fb L j).length = i := h.len
  refine ⟨by omega, hj, by rw [e, List.length_append, hl]; rfl, fun k hk2 => ?_, fun k h1 h2 => ?_, fun q hq => ?_, fun q hq => ?_, only_setCell (only_setCell h.grown (p := ⟨g, i * 2, none⟩) (.inl rfl) _) (p := ⟨g, i * 2 + 1, none⟩) (.inl rfl) _⟩
  · by_cases c : k = i
    · subst c
      have e2 : shAt (keepL fb L (j + 1)) k = shAt L j := by
        rw [e]
        have := shAt_snoc (keepL fb L j) (shAt L j)
        rw [hl] at this; exact this
      rw [e2]
      exact ⟨u, by rw [hc, if_pos rfl], by rw [hc, if_neg (by omega), if_pos rfl], hu.keep hk⟩
    · have e2 : shAt (keepL fb L (j + 1)) k = shAt (keepL fb L j) k := by rw [e, shAt_app _ _ _ (by omega)]
      rw [e2]
      obtain ⟨u', a, b, c'⟩ := h.kept k (by omega)
      exact ⟨u', by rw [hc, if_neg (by omega), if_neg (by omega)]; exact a, by rw [hc, if_neg (by omega), if_neg (by omega)]; exact b, c'.keep hk⟩
  · obtain ⟨u', a, b, c'⟩ := h.left k (by omega) h2
    exact ⟨u', by rw [hc, if_neg (by omega), if_neg (by omega)]; exact a, by rw [hc, if_neg (by omega), if_neg (by omega)]; exact b, c'.keep hk⟩
  · rw [hc]
    split
    · rfl
    · split
      · rfl
      · exact h.live q hq
  · rw [World.frozen?_setCell, World.frozen?_setCell]; exact h.froz q hq
end
variable {P : Program}
/-- 'clear(s)' where an element has two cells. -/
theorem run_clear2 (w : World) (t e ty : TypeId) (z : Value) (y0 y1 : Value) (ht : P.underlying t = some (.slice e)) (hv : ∀ w, (zeroValue e).run P w = .ok z w) (hz : z.cells = #[y0, y1]) (h0 : y0.oneCell' = true) (h1 : y1.oneCell' = true) (b o n c : Nat) (hn : 0 < n)
    (hc : ∀ j, j < 2 * n → (w.cell? ⟨b, o + j, none⟩).isSome = true) (hf : ∀ j, j < 2 * n → w.frozen? ⟨b, o + j, none⟩ = false) :
    (Builtin.clear_ #[t] ty #[.slice (some ⟨b, o, none⟩) n c]).run P w = .ok (.tuple #[]) (w.setCells b o (Builtin.zeroCells z.cells n).toList) ∧ (Builtin.zeroCells z.cells n).toList.length = 2 * n := by
  have hl : (Builtin.zeroCells z.cells n).toList.length = 2 * n := by rw [hz]; simp [Builtin.zeroCells]; omega
  have hst := run_storeCells_cells (P := P) b o (Builtin.zeroCells z.cells n).toList 0 w (by rw [hl]; simpa using hc) (by rw [hl]; simpa using hf) (by
    intro v hv'
    rw [hz] at hv'
    simp only [Builtin.zeroCells, Array.toList_map, List.mem_map, Array.mem_toList_iff] at hv'
    obtain ⟨q, _, rfl⟩ := hv'
    have : q % 2 = 0 ∨ q % 2 = 1 := by omega
    rcases this with h | h <;> simp [h, h0, h1])
  simp only [Nat.add_zero] at hst
  refine ⟨?_, hl⟩
  obtain ⟨m, rfl⟩ : ∃ m, n = m + 1 := ⟨n - 1, by omega⟩
  simp [Builtin.clear_, run_underlying ht, hv, hst]
theorem only_setCells {a : World} {g : Nat} : ∀ (l : List Value) (o : Nat) (w : World), a.grownBy w (some g) → a.grownBy (w.setCells g o l) (some g)
  | [], _, _, h => h
  | v :: l, o, w, h => only_setCells l (o + 1) _ (only_setCell h (p := ⟨g, o, none⟩) (.inl rfl) v)
end Go.Proofs.YtjfphobfikadlaaGreatDoor

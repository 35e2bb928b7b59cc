/- Contracts: which forms are valid, the program's and the reference's. Contracts: which forms are valid, by the reference. Values in a row of cells. -/
import Derived.Test.YthfmmememdlekaaGreatDoorV30
import Derived.Test.YthfmmememdlekaaGreatDoorV02
set_option linter.unusedVariables false
set_option linter.unusedSimpArgs false
namespace Go.Proofs.YthfmmememdlekaaGreatDoor
open Go.RowKit Num

/-- The first k fields are right, and have names of their own. -/
def valK (L : List Fld) (k : Nat) : Prop := ∀ i, i < k → fldB (fldAt L i) = true ∧ ∀ j, j < i → (fldAt L j).name ≠ (fldAt L i).name
noncomputable instance (L : List Fld) (k : Nat) : Decidable (valK L k) := Classical.propDecidable _
noncomputable def validB (t : ByteArray) (L : List Fld) : Bool := decide (t.size ≤ 256 ∧ L.length ≤ 32 ∧ valK L L.length)
theorem valK_step {L : List Fld} {k : Nat} (h : valK L k) (h1 : fldB (fldAt L k) = true) (h2 : ∀ j, j < k → (fldAt L j).name ≠ (fldAt L k).name) : valK L (k + 1) := fun i hi => by
  by_cases e : i = k
  · subst e; exact ⟨h1, h2⟩
  · exact h i (by omega)
theorem validB_not {t : ByteArray} {L : List Fld} {k : Nat} (hk : k < L.length) (h : ¬ (fldB (fldAt L k) = true ∧ ∀ j, j < k → (fldAt L j).name ≠ (fldAt L k).name)) : validB t L = false :=
  decide_eq_false fun hg => h (hg.2.2 k hk)
theorem validB_end {t : ByteArray} {L : List Fld} (h : valK L L.length) : validB t L = decide (t.size ≤ 256 ∧ L.length ≤ 32) := by
  unfold validB
  by_cases e : t.size ≤ 256 ∧ L.length ≤ 32
  · rw [decide_eq_true e]; exact decide_eq_true ⟨e.1, e.2, h⟩
  · rw [decide_eq_false e]; exact decide_eq_false fun hg => e ⟨hg.1, hg.2.1⟩
theorem fstF_self {L : List Fld} {k : Nat} (hk : k < L.length) : (fstF L (fldAt L k).name = some k ∧ ∀ j, j < k → (fldAt L j).name ≠ (fldAt L k).name) ∨ (∃ i, i < k ∧ fstF L (fldAt L k).name = some i) := by
  by_cases h : ∃ i, i < k ∧ (fldAt L i).name = (fldAt L k).name
  · refine .inr ?_
    cases hf : fstF L (fldAt L k).name with
    | none =>
      obtain ⟨i, h1, h2⟩ := h
      unfold fstF at hf
      rw [List.find?_eq_none] at hf
      have := hf i (List.mem_range.2 (by omega))
      simp [h2] at this
    | some m =>
      refine ⟨m, ?_, rfl⟩
      obtain ⟨i, h1, h2⟩ := h
      unfold fstF at hf
      rw [List.find?_eq_some_iff_getElem] at hf
      obtain ⟨_, q, hq, e, hlt⟩ := hf
      simp at e
      subst e
      refine Nat.lt_of_not_le fun hge => ?_
      have := hlt i (by omega)
      simp [h2] at this
  · have hn : ∀ j, j < k → (fldAt L j).name ≠ (fldAt L k).name := fun j hj e => h ⟨j, hj, e⟩
    exact .inl ⟨fstF_hit hk rfl hn, hn⟩
def FormOk (t : ByteArray) (L : List Fld) : Prop := t.size ≤ 4294967296 ∧ L.length ≤ 1000000 ∧ ∀ k, k < L.length → FldOk (fldAt L k)
set_option maxRecDepth 100000 in
set_option maxHeartbeats 4000000 in
theorem f_Valid (t : ByteArray) (v : Value) (L : List Fld) (S : Nat → Prop) (w : World) (hv : FldsAt w S v L) (hS : ∀ b, S b → b < w.heap.size) (hok : FormOk t L) :
    Calls Tryz.prog 23 #[.agg #[.string t, v]] w (BoolBel (validB t L) w) := by
  obtain ⟨A, n, c, rfl, hn, hnc, hc⟩ := id hv
  obtain ⟨ht, hl, hfo⟩ := hok
  have hb0 : Below w.heap.size w (w.alloc (.cells #[.string t, .slice A n c] 55)) := (Below.refl _ _).alloc (Nat.le_refl _) _
  have hs0 : (w.alloc (.cells #[.string t, .slice A n c] 55)).heap.size = w.heap.size + 1 := by simp
  have hbk : Blk (w.alloc (.cells #[.string t, .slice A n c] 55)) w.heap.size 55 #[.string t, .slice A n c] := Blk.new w _ _
  have hfind := fun (s : ByteArray) (W : World) (hb : Below w.heap.size w W) => f_Find t s (.slice A n c) L S W (hv.keep fun b hB => hb.block b (hS b hB)) (fun b hB => Nat.lt_of_lt_of_le (hS b hB) hb.size) hl
  have HB0 := Lib.hid hb0
  have HBK := Lib.hid hbk
  have HC := Lib.hid hc
  have HN := Lib.hid hn
  have HS := Lib.hid hS
  have HFO := Lib.hid hfo
  have HFI := Lib.hid hfind
  have hn1 : n ≤ 1000000 := by omega
  clear hc hn hS hl hb0 hbk hfo hfind hv
  by_cases h1 : t.size ≤ 256
  · have z1 : ¬ (256 : Int) < (t.size : Int) := by omega
    by_cases h2 : n ≤ 32
    · have z2 : ¬ (32 : Int) < (n : Int) := by omega
      go_enter Tryz.func23, Tryz.ntmps23
      go_wp2_with fail
      obtain ⟨w0, hw0⟩ : ∃ w0, w.alloc (.cells #[.string t, .slice A n c] 55) = w0 := ⟨_, rfl⟩
      rw [hw0] at HB0 HBK hs0 ⊢
      clear hw0
      go_loopw [20] (fun v20 wr => ∃ k : Nat, k ≤ n ∧ v20 = .int .i64 (k : Int) ∧ valK L k ∧ Below w0.heap.size w0 wr) (fun v20 _ => n - (intOf v20).toNat)
      case atStart => exact ⟨0, by omega, rfl, fun i hi => absurd hi (Nat.not_lt_zero _), Below.refl _ _⟩
      case round =>
        obtain ⟨k, hk, rfl, hg, hbr⟩ := hrel
        have HG := Lib.hid hg
        have HBR := Lib.hid hbr
        have hszr := hbr.size
        clear hg hbr
        by_cases hlt : k < n
        · obtain ⟨b, off, rfl, hSb, hcell⟩ := HC.out (by omega)
          have hbw := HS.out b hSb
          have hf := hcell k hlt
          have hbl : Below w.heap.size w wr := HB0.out.trans (HBR.out.mono (by omega))
          have hkl : k < L.length := by have := HN.out; omega
          have hfok := HFO.out k hkl
          have hself := fstF_self hkl
          have hnot : ∀ h, validB t L = false := fun (h : ¬ (fldB (fldAt L k) = true ∧ ∀ j, j < k → (fldAt L j).name ≠ (fldAt L k).name)) => validB_not hkl h
          have hstep := valK_step HG.out
          obtain ⟨f, hfe⟩ : ∃ f, fldAt L k = f := ⟨_, rfl⟩
          rw [hfe] at hf hfok hself hnot hstep
          obtain ⟨nm, kd, nd, le, mo, op⟩ := f
          obtain ⟨c0, c1, c2, c3, c4, u, c5, hu⟩ := hf
          have hue := hu
          obtain ⟨Au, nu, cu, rfl, -⟩ := hu
          have e0 : wr.cell? ⟨b, off + k * 6, none⟩ = _ := (hbl.cell (p := ⟨b, off + k * 6, none⟩) hbw).trans c0
          have e1 : wr.cell? ⟨b, off + k * 6 + 1, none⟩ = _ := (hbl.cell (p := ⟨b, off + k * 6 + 1, none⟩) hbw).trans c1
          have e2 : wr.cell? ⟨b, off + k * 6 + 2, none⟩ = _ := (hbl.cell (p := ⟨b, off + k * 6 + 2, none⟩) hbw).trans c2
          have e3 : wr.cell? ⟨b, off + k * 6 + 3, none⟩ = _ := (hbl.cell (p := ⟨b, off + k * 6 + 3, none⟩) hbw).trans c3
          have e4 : wr.cell? ⟨b, off + k * 6 + 4, none⟩ = _ := (hbl.cell (p := ⟨b, off + k * 6 + 4, none⟩) hbw).trans c4
          have e5 : wr.cell? ⟨b, off + k * 6 + 5, none⟩ = _ := (hbl.cell (p := ⟨b, off + k * 6 + 5, none⟩) hbw).trans c5
          have hbx := Blk.new wr 58 #[.string nm, .int .i64 kd, .bool nd, .int .i64 le, .int .i64 mo, .slice Au nu cu]
          have hbxb : Below w0.heap.size w0 (wr.alloc (.cells #[.string nm, .int .i64 kd, .bool nd, .int .i64 le, .int .i64 mo, .slice Au nu cu] 58)) := HBR.out.alloc hszr _
          have hf1 := HBK.out.below' hbxb (by omega)
          have f0 := (hf1.cell 0).trans (show _ = some (Value.string t) from rfl)
          have f1 := (hf1.cell 1).trans (show _ = some (Value.slice (some ⟨b, off, none⟩) n c) from rfl)
          have hbxw : Below w.heap.size w (wr.alloc (.cells #[.string nm, .int .i64 kd, .bool nd, .int .i64 le, .int .i64 mo, .slice Au nu cu] 58)) := hbl.alloc (by omega) _
          have hrt := fun (W : World) (hb : Below w.heap.size w W) => f_right nm kd nd le mo op (.slice Au nu cu) S W (hue.keep fun b hB => hb.block b (HS.out b hB)) (fun b hB => Nat.lt_of_lt_of_le (HS.out b hB) hb.size) hfok
          have HRT := Lib.hid hrt
          have HBX := Lib.hid hbx
          have HBXB := Lib.hid hbxb
          have HBXW := Lib.hid hbxw
          have HNOT := Lib.hid hnot
          have HSTEP := Lib.hid hstep
          have HFE := Lib.hid hfe
          have HKL := Lib.hid hkl
          clear hcell hfok hnot hstep hfe c0 c1 c2 c3 c4 c5 hbx hbxb hbxw hrt hue hbl hf1 hkl
          have zi : (k : Int) < (n : Int) := by omega
          have z0 : (0 : Int) ≤ (k : Int) := by omega
          simp only at hself
          rcases hself with ⟨hfs, hdis⟩ | ⟨i, hik, hfs⟩
          · have HDIS := Lib.hid hdis
            have HFS := Lib.hid hfs
            clear hdis hfs
            go_wp2_with fail
            refine (HFI.out nm _ HBXW.out).mono ?_
            rintro e w1 ⟨he, hb1⟩
            rw [HFS.out] at he
            obtain rfl : e = .returned (.tuple #[.int .i64 (k : Int), .bool true]) := he
            have hbk1 := HBX.out.below' hb1 (by simp)
            have g0 := (hbk1.cell 0).trans (show _ = some (Value.string nm) from rfl)
            have g1 := (hbk1.cell 1).trans (show _ = some (Value.int .i64 kd) from rfl)
            have g2 := (hbk1.cell 2).trans (show _ = some (Value.bool nd) from rfl)
            have g3 := (hbk1.cell 3).trans (show _ = some (Value.int .i64 le) from rfl)
            have g4 := (hbk1.cell 4).trans (show _ = some (Value.int .i64 mo) from rfl)
            have g5 := (hbk1.cell 5).trans (show _ = some (Value.slice Au nu cu) from rfl)
            have hbw1 := HBXW.out.trans (hb1.mono HBXW.out.size)
            have HBW1 := Lib.hid hbw1
            have HBO1 := Lib.hid (HBXB.out.trans (hb1.mono HBXB.out.size))
            have hkk : ((k : Int) == (k : Int)) = true := by simp
            clear hb1 hbk1 hbw1
            cases hr : fldB ⟨nm, kd, nd, le, mo, op⟩ with
            | true =>
              have hst := HSTEP.out hr HDIS.out
              have HST := Lib.hid hst
              have HR := Lib.hid hr
              clear hst hr
              go_wp2_with fail
              refine (HRT.out _ HBW1.out).mono ?_
              rw [HR.out]
              rintro e w2 ⟨rfl, hb2⟩
              have HBO2 := Lib.hid (HBO1.out.trans (hb2.mono HBO1.out.size))
              clear hb2
              go_wp2_with fail
              go_roundw
              case measure => simp [intOf]; omega
              case rel => exact ⟨k + 1, by omega, by go_num, HST.out, HBO2.out⟩
            | false =>
              have hno := HNOT.out (fun h => by rw [hr] at h; cases h.1)
              have HNO := Lib.hid hno
              have HR := Lib.hid hr
              clear hno hr
              go_wp2_with fail
              refine (HRT.out _ HBW1.out).mono ?_
              rw [HR.out]
              rintro e w2 ⟨rfl, hb2⟩
              have HBW2 := Lib.hid (HBW1.out.trans (hb2.mono HBW1.out.size))
              clear hb2
              go_wp2_with fail
              go_ret
              exact ⟨by rw [HNO.out]; rfl, HBW2.out⟩
          · have hno := HNOT.out (fun h => by
              have := fstF_hit (L := L) (s := nm) (k := k) HKL.out (by rw [HFE.out]) h.2
              rw [hfs] at this
              injection this with this
              omega)
            have HNO := Lib.hid hno
            have HFS := Lib.hid hfs
            clear hno hfs
            go_wp2_with fail
            refine (HFI.out nm _ HBXW.out).mono ?_
            rintro e w1 ⟨he, hb1⟩
            rw [HFS.out] at he
            obtain rfl : e = .returned (.tuple #[.int .i64 (i : Int), .bool true]) := he
            have HBW1 := Lib.hid (HBXW.out.trans (hb1.mono HBXW.out.size))
            have hki : ((i : Int) == (k : Int)) = false := by simp; omega
            clear hb1
            go_wp2_with fail
            go_ret
            exact ⟨by rw [HNO.out]; rfl, HBW1.out⟩
        · have zi : ¬ (k : Int) < (n : Int) := by omega
          have he : validB t L = true := by
            have h3 := HG.out
            rw [show k = L.length by have := HN.out; omega] at h3
            rw [validB_end h3]
            exact decide_eq_true ⟨h1, by have := HN.out; omega⟩
          have HE := Lib.hid he
          have HBW1 := Lib.hid (HB0.out.trans (HBR.out.mono (by omega)))
          clear he
          go_wp2_with fail
          go_ret
          exact ⟨by rw [HE.out]; rfl, HBW1.out⟩
    · have z2 : (32 : Int) < (n : Int) := by omega
      have he : validB t L = false := decide_eq_false fun h => h2 (by have := HN.out; omega)
      have HE := Lib.hid he
      clear he
      go_enter Tryz.func23, Tryz.ntmps23
      go_wp2_with fail
      go_ret
      exact ⟨by rw [HE.out]; rfl, HB0.out⟩
  · have z1 : (256 : Int) < (t.size : Int) := by omega
    have he : validB t L = false := decide_eq_false fun h => h1 h.1
    have HE := Lib.hid he
    clear he
    go_enter Tryz.func23, Tryz.ntmps23
    go_wp2_with fail
    go_ret
    exact ⟨by rw [HE.out]; rfl, HB0.out⟩
end Go.Proofs.YthfmmememdlekaaGreatDoor
namespace Go.Proofs.YthfmmememdlekaaGreatDoor
open Go.RowKit Num

set_option maxRecDepth 100000 in
set_option maxHeartbeats 4000000 in
theorem r_ValidF (t : ByteArray) (v : Value) (L : List Fld) (S : Nat → Prop) (w : World) (hv : FldsAt w S v L) (hS : ∀ b, S b → b < w.heap.size) (hok : FormOk t L) (hl : LibOk w) (hsp : SpcOk w) :
    Calls Tryz.prog 24 #[.agg #[.string t, v]] w (BoolBel (validB t L) w) := by
  obtain ⟨A, n, c, rfl, hn, hnc, hc⟩ := id hv
  obtain ⟨i0, hi, hz0, hz1, hz2⟩ := info_parts infoFd
  have hsl := fun (W : World) (i : Nat) (h : i ≤ c) => run_slice_hi (P := Tryz.prog) W 53 58 i0 Tryz.underlying53 hi A n c i h (i : Int) rfl
  obtain ⟨ht, hll, hfo⟩ := hok
  have hb0 : Below w.heap.size w (w.alloc (.cells #[.string t, .slice A n c] 55)) := (Below.refl _ _).alloc (Nat.le_refl _) _
  have hs0 : (w.alloc (.cells #[.string t, .slice A n c] 55)).heap.size = w.heap.size + 1 := by simp
  have hbk : Blk (w.alloc (.cells #[.string t, .slice A n c] 55)) w.heap.size 55 #[.string t, .slice A n c] := Blk.new w _ _
  have HSL := Lib.hid hsl
  have HLB := Lib.hid hl
  have HSP := Lib.hid hsp
  have HB0 := Lib.hid hb0
  have HBK := Lib.hid hbk
  have HC := Lib.hid hc
  have HN := Lib.hid hn
  have HS := Lib.hid hS
  have HFO := Lib.hid hfo
  have hn1 : n ≤ 1000000 := by omega
  clear hc hn hS hll hb0 hbk hfo hv hsl hi hz0 hz1 hz2 hl hsp
  go_enter Tryz.func24, Tryz.ntmps24
  go_wp2_with fail
  obtain ⟨w0, hw0⟩ : ∃ w0, w.alloc (.cells #[.string t, .slice A n c] 55) = w0 := ⟨_, rfl⟩
  rw [hw0] at HB0 HBK hs0 ⊢
  clear hw0
  go_loopw [10] (fun v10 wr => ∃ k : Nat, k ≤ n ∧ v10 = .int .i64 (k : Int) ∧ valK L k ∧ Below w0.heap.size w0 wr) (fun v10 _ => n - (intOf v10).toNat)
  case atStart => exact ⟨0, by omega, rfl, fun i hi => absurd hi (Nat.not_lt_zero _), Below.refl _ _⟩
  case round =>
    obtain ⟨k, hk, rfl, hg, hbr⟩ := hrel
    have HG := Lib.hid hg
    have HBR := Lib.hid hbr
    have hszr := hbr.size
    clear hg hbr
    by_cases hlt : k < n
    · obtain ⟨b, off, rfl, hSb, hcell⟩ := HC.out (by omega)
      have hbw := HS.out b hSb
      have hf := hcell k hlt
      have hbl : Below w.heap.size w wr := HB0.out.trans (HBR.out.mono (by omega))
      have hkl : k < L.length := by have := HN.out; omega
      have hfok := HFO.out k hkl
      have hnot : ∀ h, validB t L = false := fun (h : ¬ (fldB (fldAt L k) = true ∧ ∀ j, j < k → (fldAt L j).name ≠ (fldAt L k).name)) => validB_not hkl h
      have hstep := valK_step HG.out
      obtain ⟨f, hfe⟩ : ∃ f, fldAt L k = f := ⟨_, rfl⟩
      rw [hfe] at hf hfok hnot hstep
      obtain ⟨nm, kd, nd, le, mo, op⟩ := f
      obtain ⟨c0, c1, c2, c3, c4, u, c5, hu⟩ := hf
      have hue := hu
      obtain ⟨Au, nu, cu, rfl, -⟩ := hu
      have e0 : wr.cell? ⟨b, off + k * 6, none⟩ = _ := (hbl.cell (p := ⟨b, off + k * 6, none⟩) hbw).trans c0
      have e1 : wr.cell? ⟨b, off + k * 6 + 1, none⟩ = _ := (hbl.cell (p := ⟨b, off + k * 6 + 1, none⟩) hbw).trans c1
      have e2 : wr.cell? ⟨b, off + k * 6 + 2, none⟩ = _ := (hbl.cell (p := ⟨b, off + k * 6 + 2, none⟩) hbw).trans c2
      have e3 : wr.cell? ⟨b, off + k * 6 + 3, none⟩ = _ := (hbl.cell (p := ⟨b, off + k * 6 + 3, none⟩) hbw).trans c3
      have e4 : wr.cell? ⟨b, off + k * 6 + 4, none⟩ = _ := (hbl.cell (p := ⟨b, off + k * 6 + 4, none⟩) hbw).trans c4
      have e5 : wr.cell? ⟨b, off + k * 6 + 5, none⟩ = _ := (hbl.cell (p := ⟨b, off + k * 6 + 5, none⟩) hbw).trans c5
      have hbx := Blk.new wr 58 #[.string nm, .int .i64 kd, .bool nd, .int .i64 le, .int .i64 mo, .slice Au nu cu]
      have hbxb : Below w0.heap.size w0 (wr.alloc (.cells #[.string nm, .int .i64 kd, .bool nd, .int .i64 le, .int .i64 mo, .slice Au nu cu] 58)) := HBR.out.alloc hszr _
      have hbxw : Below w.heap.size w (wr.alloc (.cells #[.string nm, .int .i64 kd, .bool nd, .int .i64 le, .int .i64 mo, .slice Au nu cu] 58)) := hbl.alloc (by omega) _
      have hrt := fun (W : World) (hb : Below w.heap.size w W) => r_field nm kd nd le mo op (.slice Au nu cu) S W (hue.keep fun b hB => hb.block b (HS.out b hB)) (fun b hB => Nat.lt_of_lt_of_le (HS.out b hB) hb.size) hfok (spc_below HSP.out (by have := HLB.out.size; show (0 : Nat) < _; omega) hb) (HLB.out.later hb)
      have hsl1 := fun (W : World) => HSL.out W k (by omega)
      have HRT := Lib.hid hrt
      have HBX := Lib.hid hbx
      have HBXB := Lib.hid hbxb
      have HBXW := Lib.hid hbxw
      have HNOT := Lib.hid hnot
      have HSTEP := Lib.hid hstep
      have HCELL := Lib.hid hcell
      clear hcell hfok hnot hstep hfe c0 c1 c2 c3 c4 c5 hbx hbxb hbxw hrt hue hbl hkl
      have zi : (k : Int) < (n : Int) := by omega
      have z0 : (0 : Int) ≤ (k : Int) := by omega
      cases hr : fldB ⟨nm, kd, nd, le, mo, op⟩ with
      | false =>
        have hno := HNOT.out (fun h => by rw [hr] at h; cases h.1)
        have HNO := Lib.hid hno
        have HR := Lib.hid hr
        clear hno hr
        go_wp2_with fail
        refine (HRT.out _ HBXW.out).mono ?_
        rw [HR.out]
        rintro e w2 ⟨rfl, hb2⟩
        have HBW2 := Lib.hid (HBXW.out.trans (hb2.mono HBXW.out.size))
        clear hb2
        go_wp2_with fail
        go_ret
        exact ⟨by rw [HNO.out]; rfl, HBW2.out⟩
      | true =>
        have HR := Lib.hid hr
        clear hr
        go_wp2_with fail
        refine (HRT.out _ HBXW.out).mono ?_
        rw [HR.out]
        rintro e w1 ⟨rfl, hb1⟩
        have hbo1 := HBXB.out.trans (hb1.mono HBXB.out.size)
        have hbw1 := HBXW.out.trans (hb1.mono HBXW.out.size)
        have hf1 := HBK.out.below' hbo1 (by omega)
        have f1 := (hf1.cell 1).trans (show _ = some (Value.slice (some ⟨b, off, none⟩) n c) from rfl)
        have hbk1 := HBX.out.below' hb1 (by simp)
        have HBK1 := Lib.hid hbk1
        have HBO1 := Lib.hid hbo1
        have HBW1 := Lib.hid hbw1
        have hs1 := hb1.size
        simp only [World.size_alloc] at hs1
        clear hb1 hbo1 hbw1 hf1 hbk1 e0 e1 e2 e3 e4 e5
        go_wp2_with fail
        obtain ⟨xb, hxb⟩ : ∃ xb, wr.heap.size = xb := ⟨_, rfl⟩
        rw [hxb] at HBK1 hs1 ⊢
        have HXB := Lib.hid hxb
        clear hxb
        go_loopw [23] (fun v23 wq => ∃ i : Nat, i ≤ k ∧ v23 = .int .i64 (i : Int) ∧ (∀ j, j < i → (fldAt L j).name ≠ nm) ∧ Below w1.heap.size w1 wq) (fun v23 _ => k - (intOf v23).toNat)
        case atStart => exact ⟨0, by omega, rfl, fun i hi => absurd hi (Nat.not_lt_zero _), Below.refl _ _⟩
        case round =>
          rename World => wq
          obtain ⟨i, hik, rfl, hne, hbq⟩ := hrel
          have HNE := Lib.hid hne
          have HBQ := Lib.hid hbq
          have hsq := hbq.size
          clear hne hbq
          have hgx := HBK1.out.below' HBQ.out (by omega)
          have g0 := (hgx.cell 0).trans (show _ = some (Value.string nm) from rfl)
          clear hgx
          by_cases hlt2 : i < k
          · have hf2 := HCELL.out i (by omega)
            obtain ⟨f2, hf2e⟩ : ∃ f, fldAt L i = f := ⟨_, rfl⟩
            rw [hf2e] at hf2
            obtain ⟨nm2, kd2, nd2, le2, mo2, op2⟩ := f2
            obtain ⟨c0, c1, c2, c3, c4, u2, c5, hu2⟩ := hf2
            obtain ⟨Au2, nu2, cu2, rfl, -⟩ := hu2
            have hblq : Below w.heap.size w wq := HBW1.out.trans (HBQ.out.mono HBW1.out.size)
            have e0 : wq.cell? ⟨b, off + i * 6, none⟩ = _ := (hblq.cell (p := ⟨b, off + i * 6, none⟩) hbw).trans c0
            have e1 : wq.cell? ⟨b, off + i * 6 + 1, none⟩ = _ := (hblq.cell (p := ⟨b, off + i * 6 + 1, none⟩) hbw).trans c1
            have e2 : wq.cell? ⟨b, off + i * 6 + 2, none⟩ = _ := (hblq.cell (p := ⟨b, off + i * 6 + 2, none⟩) hbw).trans c2
            have e3 : wq.cell? ⟨b, off + i * 6 + 3, none⟩ = _ := (hblq.cell (p := ⟨b, off + i * 6 + 3, none⟩) hbw).trans c3
            have e4 : wq.cell? ⟨b, off + i * 6 + 4, none⟩ = _ := (hblq.cell (p := ⟨b, off + i * 6 + 4, none⟩) hbw).trans c4
            have e5 : wq.cell? ⟨b, off + i * 6 + 5, none⟩ = _ := (hblq.cell (p := ⟨b, off + i * 6 + 5, none⟩) hbw).trans c5
            have g1 : (wq.alloc (.cells #[.string nm2, .int .i64 kd2, .bool nd2, .int .i64 le2, .int .i64 mo2, .slice Au2 nu2 cu2] 58)).cell? ⟨xb, 0, none⟩ = some (.string nm) := (World.cell?_alloc_lt wq _ ⟨xb, 0, none⟩ (by show xb < _; omega)).trans g0
            have HBQ2 := Lib.hid (HBQ.out.alloc hsq (.cells #[.string nm2, .int .i64 kd2, .bool nd2, .int .i64 le2, .int .i64 mo2, .slice Au2 nu2 cu2] 58))
            have zj : (i : Int) < (k : Int) := by omega
            have z2 : (0 : Int) ≤ (i : Int) := by omega
            have HF2 := Lib.hid hf2e
            have HBLQ := Lib.hid (hblq.alloc hblq.size (.cells #[.string nm2, .int .i64 kd2, .bool nd2, .int .i64 le2, .int .i64 mo2, .slice Au2 nu2 cu2] 58))
            clear c0 c1 c2 c3 c4 c5 hblq hf2e
            by_cases hxy : nm = nm2
            · have hq : (nm.toList == nm2.toList) = true := seq_true hxy
              have hno := HNOT.out (fun h => h.2 i hlt2 (by rw [HF2.out]; exact hxy.symm))
              have HNO := Lib.hid hno
              clear hno hxy
              go_wp2_with fail
              go_ret
              exact ⟨by rw [HNO.out]; rfl, HBLQ.out⟩
            · have hq : (nm.toList == nm2.toList) = false := seq_false (fun h => hxy (blOf_inj h))
              have HXY := Lib.hid hxy
              clear hxy
              go_wp2_with fail
              go_roundw
              case measure => simp [intOf]; omega
              case rel => exact ⟨i + 1, by omega, by go_num, (fun j hj => by
                by_cases e : j = i
                · subst e; rw [HF2.out]; exact fun e => HXY.out e.symm
                · exact HNE.out j (by omega)), HBQ2.out⟩
          · have zj : ¬ (i : Int) < (k : Int) := by omega
            have hst := HSTEP.out HR.out (fun j hj => HNE.out j (by omega))
            have HST := Lib.hid hst
            have HBQ2 := Lib.hid (HBO1.out.trans (HBQ.out.mono HBO1.out.size))
            clear hst
            go_wp2_with fail
            go_roundw
            case measure => simp [intOf]; omega
            case rel => exact ⟨k + 1, by omega, by go_num, HST.out, HBQ2.out⟩
    · have zi : ¬ (k : Int) < (n : Int) := by omega
      have he : validB t L = decide (t.size ≤ 256 ∧ n ≤ 32) := by
        have h3 := HG.out
        rw [show k = L.length by have := HN.out; omega] at h3
        rw [validB_end h3, HN.out]
      have HE := Lib.hid he
      have HBW1 := Lib.hid (HB0.out.trans (HBR.out.mono (by omega)))
      have hf1 := HBK.out.below' HBR.out (by omega)
      have f0 := (hf1.cell 0).trans (show _ = some (Value.string t) from rfl)
      have f1 := (hf1.cell 1).trans (show _ = some (Value.slice A n c) from rfl)
      clear he hf1
      by_cases h1 : t.size ≤ 256
      · have z1 : (t.size : Int) ≤ 256 := by omega
        by_cases h2 : n ≤ 32
        · have z2 : (n : Int) ≤ 32 := by omega
          go_wp2_with fail
          go_ret
          exact ⟨by rw [HE.out, decide_eq_true ⟨h1, h2⟩]; rfl, HBW1.out⟩
        · have z2 : ¬ (n : Int) ≤ 32 := by omega
          go_wp2_with fail
          go_ret
          exact ⟨by rw [HE.out, decide_eq_false (fun h => h2 h.2)]; rfl, HBW1.out⟩
      · have z1 : ¬ (t.size : Int) ≤ 256 := by omega
        go_wp2_with fail
        go_ret
        exact ⟨by rw [HE.out, decide_eq_false (fun h => h1 h.1)]; rfl, HBW1.out⟩
end Go.Proofs.YthfmmememdlekaaGreatDoor
namespace Go.Proofs.YthfmmememdlekaaGreatDoor
open Go.RowKit Num

/-- Values in a row of cells. -/
structure ArrV (w : World) (B n : Nat) (f : Nat → Value) : Prop where
  cell : ∀ i, i < n → w.cell? ⟨B, i, none⟩ = some (f i)
  live : ∀ i, i < n → w.frozen? ⟨B, i, none⟩ = false
def updV (f : Nat → Value) (i : Nat) (v : Value) : Nat → Value := fun j => if j = i then v else f j
theorem ArrV.upd {w : World} {B n : Nat} {f : Nat → Value} (h : ArrV w B n f) {i : Nat} (v : Value) (hi : i < n) : ArrV (w.setCell ⟨B, i, none⟩ v) B n (updV f i v) := by
  refine ⟨fun j hj => ?_, fun j hj => ?_⟩
  · by_cases hji : j = i
    · subst hji; rw [World.cell?_setCell_same _ _ _ (h.cell j hj)]; unfold updV; rw [if_pos rfl]
    · rw [World.cell?_setCell_other _ _ _ _ (by intro e; injection e with e1 e2; exact hji e2.symm), h.cell j hj]; unfold updV; rw [if_neg hji]
  · rw [World.frozen?_setCell]; exact h.live j hj
theorem ArrV.congr {w : World} {B n : Nat} {f g : Nat → Value} (h : ArrV w B n f) (e : ∀ i, i < n → f i = g i) : ArrV w B n g :=
  ⟨fun i hi => by rw [h.cell i hi, e i hi], h.live⟩
theorem ArrV.drew {w : World} {B n : Nat} {f : Nat → Value} (h : ArrV w B n f) : ArrV w.drew B n f := ⟨h.cell, h.live⟩
end Go.Proofs.YthfmmememdlekaaGreatDoor

/- Contracts: the digests of forms, the program's and the reference's. -/
import Derived.Test.YthfmmememdlekaaGreatDoorV33
import Derived.Test.YthfmmememdlekaaGreatDoorV41
import Derived.Test.YthfmmememdlekaaGreatDoorV23
import Derived.RegionTactic
set_option linter.unusedVariables false
set_option linter.unusedSimpArgs false
namespace Go.Proofs.YthfmmememdlekaaGreatDoor
open Go.RowKit Num

/-- The bytes of a field's first i numbers. -/
def numI (f : Fld) : List Int := [f.kind, if f.need then 1 else 0, f.least, f.most]
def numN (f : Fld) (i : Nat) : ByteArray := ⟨(((numI f).take i).flatMap putB).toArray⟩
theorem numN_size (f : Fld) (i : Nat) (h : i ≤ 4) : (numN f i).size ≤ 44 := by
  have e : (numN f i).size = (((numI f).take i).flatMap putB).length := by show (((numI f).take i).flatMap putB).toArray.size = _; rw [List.size_toArray]
  rw [e, List.length_flatMap]
  have hsum : ∀ l : List Int, (l.map fun a => (putB a).length).sum ≤ 11 * l.length := by
    intro l
    induction l with
    | nil => simp
    | cons a r ih => rw [List.map_cons, List.sum_cons, List.length_cons]; have := putB_len a; omega
  have h1 := hsum ((numI f).take i)
  have h2 : ((numI f).take i).length ≤ 4 := by rw [List.length_take]; omega
  omega
theorem numN_succ (f : Fld) (i : Nat) (h : i < 4) : numN f i ++ ⟨(putB ((numI f).getD i 0)).toArray⟩ = numN f (i + 1) := by
  unfold numN
  rw [bytes_two]
  have hl : i < (numI f).length := h
  rw [List.take_succ_eq_append_getElem hl, List.flatMap_append, List.flatMap_cons, List.flatMap_nil, List.append_nil, List.getD_eq_getElem?_getD, List.getElem?_eq_getElem hl]
  rfl
/-- What is summed of a form: its title, then three texts for each of its fields. -/
def fld3 (f : Fld) : List ByteArray := [f.name, numN f 4, textsB f.opts]
def dgK (t : ByteArray) (L : List Fld) (k : Nat) : List ByteArray := t :: (L.take k).flatMap fld3
theorem dgK_succ {t : ByteArray} {L : List Fld} {k : Nat} (h : k < L.length) : dgK t L (k + 1) = dgK t L k ++ fld3 (fldAt L k) := by
  unfold dgK
  rw [List.take_succ_eq_append_getElem h, List.flatMap_append, List.flatMap_cons, List.flatMap_nil, List.append_nil]
  have e : fldAt L k = L[k] := by unfold fldAt; rw [List.getD_eq_getElem?_getD, List.getElem?_eq_getElem h]; rfl
  rw [e]
  rfl
theorem dgK_len {t : ByteArray} {L : List Fld} : ∀ k, k ≤ L.length → (dgK t L k).length = 1 + 3 * k := by
  intro k
  induction k with
  | zero => intro _; rfl
  | succ k ih => intro h; rw [dgK_succ (by omega), List.length_append, ih (by omega)]; show 1 + 3 * k + 3 = _; omega
theorem right_small {f : Fld} (h : fldB f = true) : f.name.size ≤ 32 ∧ f.opts.length ≤ 16 ∧ ∀ k, k < f.opts.length → (f.opts.getD k ⟨#[]⟩).size ≤ 256 := by
  unfold fldB at h
  rw [Bool.and_eq_true, Bool.and_eq_true, Bool.and_eq_true, Bool.or_eq_true] at h
  obtain ⟨⟨⟨h1, h2⟩, h3⟩, h4⟩ := h
  have hn := name_len h1
  rw [blOf_len] at hn
  by_cases h0 : f.opts.length = 0
  · exact ⟨hn, by omega, fun k hk => by omega⟩
  · have hk : f.kind = 4 := by
      rcases h3 with e | e
      · exact of_decide_eq_true e
      · exact absurd (of_decide_eq_true e) h0
    rw [if_neg (by omega), if_neg (by omega), if_neg (by omega), if_pos hk, Bool.and_eq_true] at h4
    have ho := of_decide_eq_true h4.2
    exact ⟨hn, ho.2.2, fun k hk => (ho.1 k hk).2.1⟩
theorem valid_small {t : ByteArray} {L : List Fld} (h : validB t L = true) : t.size ≤ 256 ∧ L.length ≤ 32 ∧ ∀ k, k < L.length → fldB (fldAt L k) = true := by
  have := of_decide_eq_true h
  exact ⟨this.1, this.2.1, fun k hk => (this.2.2 k hk).1⟩
theorem textsB_small {ss : List ByteArray} (h1 : ss.length ≤ 16) (h2 : ∀ k, k < ss.length → (ss.getD k ⟨#[]⟩).size ≤ 256) : (textsB ss).size ≤ 1000000 := by
  have := textsL_len h2 ss.length (Nat.le_refl _)
  show (textsL ss ss.length).toArray.size ≤ _
  rw [List.size_toArray]
  omega
theorem dg_small {t : ByteArray} {L : List Fld} (h : validB t L = true) : ∀ k, k ≤ L.length → ∀ s ∈ dgK t L k, s.size ≤ 1000000 := by
  obtain ⟨h1, h2, h3⟩ := valid_small h
  intro k
  induction k with
  | zero =>
    intro _ s hs
    have e : s = t := by simpa [dgK] using hs
    rw [e]; omega
  | succ k ih =>
    intro hk s hs
    rw [dgK_succ (by omega)] at hs
    rcases List.mem_append.1 hs with e | e
    · exact ih (by omega) s e
    · obtain ⟨r1, r2, r3⟩ := right_small (h3 k (by omega))
      simp [fld3] at e
      rcases e with rfl | rfl | rfl
      · omega
      · have := numN_size (fldAt L k) 4 (by omega); omega
      · exact textsB_small r2 r3
noncomputable def dgS (t : ByteArray) (L : List Fld) : ByteArray := if validB t L then listS (dgK t L L.length) else ⟨#[]⟩
noncomputable def dgZ (t : ByteArray) (L : List Fld) : Int := if validB t L then 0 else 1
def DgE (t : ByteArray) (L : List Fld) (w : World) (e : Ending) (w' : World) : Prop := e = .returned (.tuple #[.string (dgS t L), .int .i64 (dgZ t L)]) ∧ Below w.heap.size w w'
theorem index4 (a b c d : Int) (W : World) : (Instr.index 98 (.agg #[.int .i64 a, .int .i64 b, .int .i64 c, .int .i64 d]) (.int .i64 0)).run Tryz.prog W = .ok (.int .i64 a) W ∧ (Instr.index 98 (.agg #[.int .i64 a, .int .i64 b, .int .i64 c, .int .i64 d]) (.int .i64 1)).run Tryz.prog W = .ok (.int .i64 b) W ∧
    (Instr.index 98 (.agg #[.int .i64 a, .int .i64 b, .int .i64 c, .int .i64 d]) (.int .i64 2)).run Tryz.prog W = .ok (.int .i64 c) W ∧ (Instr.index 98 (.agg #[.int .i64 a, .int .i64 b, .int .i64 c, .int .i64 d]) (.int .i64 3)).run Tryz.prog W = .ok (.int .i64 d) W := by
  refine ⟨?_, ?_, ?_, ?_⟩ <;> (show Sem.run Tryz.prog _ W = Result.ok _ W; kernel_rfl)
set_option maxRecDepth 100000 in
set_option maxHeartbeats 8000000 in
theorem f_Digest (t : ByteArray) (v : Value) (L : List Fld) (S : Nat → Prop) (w : World) (hv : FldsAt w S v L) (hS : ∀ b, S b → b < w.heap.size) (hok : FormOk t L) :
    Calls Tryz.prog 21 #[.agg #[.string t, v]] w (DgE t L w) := by
  obtain ⟨A, n, c, rfl, hn, hnc, hc⟩ := id hv
  obtain ⟨i0, hi, hz0, hz1, hz2⟩ := info_parts infoTx
  have hb0 : Below w.heap.size w (w.alloc (.cells #[.string t, .slice A n c] 55)) := (Below.refl _ _).alloc (Nat.le_refl _) _
  have hs0 : (w.alloc (.cells #[.string t, .slice A n c] 55)).heap.size = w.heap.size + 1 := by simp
  have hbk : Blk (w.alloc (.cells #[.string t, .slice A n c] 55)) w.heap.size 55 #[.string t, .slice A n c] := Blk.new w _ _
  have hval := fun (W : World) (hb : Below w.heap.size w W) => f_Valid t (.slice A n c) L S W (hv.keep fun b hB => hb.block b (hS b hB)) (fun b hB => Nat.lt_of_lt_of_le (hS b hB) hb.size) hok
  have HB0 := Lib.hid hb0
  have HBK := Lib.hid hbk
  have HVAL := Lib.hid hval
  have HC := Lib.hid hc
  have HN := Lib.hid hn
  have HS := Lib.hid hS
  have HOK := Lib.hid hok
  clear hb0 hbk hval hc hn hS hv hok
  cases hvb : validB t L with
  | false =>
    have he : dgS t L = ⟨#[]⟩ ∧ dgZ t L = 1 := by unfold dgS dgZ; rw [hvb]; exact ⟨rfl, rfl⟩
    have HE := Lib.hid he
    have HVB := Lib.hid hvb
    clear he hvb
    go_enter Tryz.func21, Tryz.ntmps21
    go_wp2_with fail
    refine (HVAL.out _ HB0.out).mono ?_
    rw [HVB.out]
    rintro e w1 ⟨rfl, hb1⟩
    have HB1 := Lib.hid (HB0.out.trans (hb1.mono HB0.out.size))
    clear hb1
    go_wp2_with fail
    go_ret2
    exact ⟨by rw [HE.out.1, HE.out.2]; rfl, HB1.out⟩
  | true =>
    have he : dgS t L = listS (dgK t L L.length) ∧ dgZ t L = 0 := by unfold dgS dgZ; rw [hvb]; exact ⟨rfl, rfl⟩
    obtain ⟨v1, v2, v3⟩ := valid_small hvb
    have hn32 : n ≤ 32 := by have := HN.out; omega
    have hdg := dg_small hvb
    have HE := Lib.hid he
    have HVB := Lib.hid hvb
    have HV3 := Lib.hid v3
    have HDG := Lib.hid hdg
    clear he hvb v3 hdg v2
    go_enter Tryz.func21, Tryz.ntmps21
    go_wp2_with fail
    refine (HVAL.out _ HB0.out).mono ?_
    rw [HVB.out]
    rintro e w1 ⟨rfl, hb1⟩
    have hf1 := HBK.out.below' hb1 (by omega)
    have f0 := (hf1.cell 0).trans (show _ = some (Value.string t) from rfl)
    have f1 := (hf1.cell 1).trans (show _ = some (Value.slice A n c) from rfl)
    have f2 : (w1.alloc (.cells #[.string t] 9)).cell? ⟨w.heap.size, 1, none⟩ = some (.slice A n c) := (World.cell?_alloc_lt w1 _ ⟨w.heap.size, 1, none⟩ (by have := hb1.size; show w.heap.size < _; omega)).trans f1
    have hlow : Below w.heap.size w w1 := HB0.out.trans (hb1.mono HB0.out.size)
    have HLOW := Lib.hid hlow
    have hs1 := hlow.size
    have hrow0 : (w1.alloc (.cells #[.string t] 9)).ownsRow w1.heap.size 9 1 (.slice (some ⟨w1.heap.size, 0, none⟩) 1 1) 1 [.string t] := World.ownsRow_lit w1 #[.string t] 1 (Nat.le_refl _) (by simp only [maxLen]; omega) rfl
    have HROW0 := Lib.hid hrow0
    clear hb1 hf1 hlow hrow0
    go_wp2_with fail
    go_loopw [4, 20] (fun v4 v20 wr => ∃ (k : Nat) (A4 : Option Addr) (m c4 : Nat), k ≤ n ∧ m = 1 + 3 * k ∧ v20 = .int .i64 (k : Int) ∧ v4 = .slice A4 m c4 ∧ wr.ownsRow w1.heap.size 9 1 (.slice A4 m c4) m ((dgK t L k).map Value.string) ∧ Below w1.heap.size w1 wr) (fun _ v20 _ => n - (intOf v20).toNat)
    case atStart => exact ⟨0, _, 1, 1, by omega, rfl, rfl, rfl, HROW0.out, (Below.refl _ _).alloc (Nat.le_refl _) _⟩
    case round =>
      clear HROW0 f0 f1 f2
      obtain ⟨k, A4, m, c4, hk, hm, rfl, rfl, hown, hbr⟩ := hrel
      have HOWN := Lib.hid hown
      have HBR := Lib.hid hbr
      have HM := Lib.hid hm
      have hszr := hbr.size
      have hm97 : m ≤ 97 := by omega
      clear hown hbr hm
      by_cases hlt : k < n
      · obtain ⟨b, off, rfl, hSb, hcell⟩ := HC.out (by omega)
        have hbw := HS.out b hSb
        have hkl : k < L.length := by have := HN.out; omega
        have hf := hcell k hlt
        have hrs := right_small (HV3.out k hkl)
        have hfok := HOK.out.2.2 k hkl
        have hstep := dgK_succ (t := t) hkl
        have hbl : Below w.heap.size w wr := HLOW.out.trans (HBR.out.mono hs1)
        obtain ⟨f, hfe⟩ : ∃ f, fldAt L k = f := ⟨_, rfl⟩
        rw [hfe] at hf hrs hfok hstep
        clear hfe
        have hnz := fun i h => numN_size f i h
        have hpi := fun (i : Nat) (W : World) (hi4 : i < 4) (h1 : -9223372036854775808 ≤ (numI f).getD i 0) (h2 : (numI f).getD i 0 < 9223372036854775808) => c_PutInt (numN f i) ((numI f).getD i 0) W h1 h2 (by have := hnz i (by omega); omega)
        have hpj : ∀ (i : Nat) (W : World), i < 4 → -9223372036854775808 ≤ (numI f).getD i 0 → (numI f).getD i 0 < 9223372036854775808 → Calls Tryz.prog 49 #[.string (numN f i), .int .i64 ((numI f).getD i 0)] W fun e w' => e = .returned (.string (numN f (i + 1))) ∧ Below W.heap.size W w' := fun i W h h1 h2 => by
          have := hpi i W h h1 h2
          unfold PutPost at this
          rwa [numN_succ f i h] at this
        have htx := fun (W : World) (hb : Below w.heap.size w W) (u : Value) (hu : TxsAt w S u f.opts) => c_PutTexts u f.opts S W (hu.keep fun b hB => hb.block b (HS.out b hB)) (fun b hB => Nat.lt_of_lt_of_le (HS.out b hB) hb.size) (by have := hrs.2.1; omega) (fun k hk => by have := hrs.2.2 k hk; omega)
        unfold TxsE at htx
        have htz := textsB_small hrs.2.1 hrs.2.2
        obtain ⟨g1, g2, g3, g4, g5, g6, g7, g8, -⟩ := hfok
        have hf3 : fld3 f = [f.name, numN f 4, textsB f.opts] := rfl
        rw [hf3] at hstep
        obtain ⟨nm, kd, nd, le, mo, op⟩ := f
        simp only at g1 g2 g3 g4 g5 g6 g7 g8 htx htz hrs hstep
        have p0 := fun W => hpj 0 W (by omega) g3 g4
        have p2 := fun W => hpj 2 W (by omega) g5 g6
        have p3 := fun W => hpj 3 W (by omega) g7 g8
        have hn0 : numN ⟨nm, kd, nd, le, mo, op⟩ 0 = ⟨#[]⟩ := rfl
        obtain ⟨c0, c1, c2, c3, c4x, u, c5, hu⟩ := hf
        have htxu := fun W hb => htx W hb u hu
        obtain ⟨Au, nu, cu, rfl, -⟩ := id hu
        have e0 : wr.cell? ⟨b, off + k * 6, none⟩ = _ := (hbl.cell (p := ⟨b, off + k * 6, none⟩) hbw).trans c0
        have e1 : wr.cell? ⟨b, off + k * 6 + 1, none⟩ = _ := (hbl.cell (p := ⟨b, off + k * 6 + 1, none⟩) hbw).trans c1
        have e2 : wr.cell? ⟨b, off + k * 6 + 2, none⟩ = _ := (hbl.cell (p := ⟨b, off + k * 6 + 2, none⟩) hbw).trans c2
        have e3 : wr.cell? ⟨b, off + k * 6 + 3, none⟩ = _ := (hbl.cell (p := ⟨b, off + k * 6 + 3, none⟩) hbw).trans c3
        have e4 : wr.cell? ⟨b, off + k * 6 + 4, none⟩ = _ := (hbl.cell (p := ⟨b, off + k * 6 + 4, none⟩) hbw).trans c4x
        have e5 : wr.cell? ⟨b, off + k * 6 + 5, none⟩ = _ := (hbl.cell (p := ⟨b, off + k * 6 + 5, none⟩) hbw).trans c5
        obtain ⟨tx, htxe⟩ : ∃ tx, textsB op = tx := ⟨_, rfl⟩
        rw [htxe] at htxu htz hstep
        clear c0 c1 c2 c3 c4x c5 htx hpi hpj htxe hcell hkl hu
        have zi : (k : Int) < (n : Int) := by omega
        have z0 : (0 : Int) ≤ (k : Int) := by omega
        cases nd with
        | false =>
          have p1 : ∀ W : World, Calls Tryz.prog 49 #[.string (numN ⟨nm, kd, false, le, mo, op⟩ 1), .int .i64 0] W fun e w' => e = .returned (.string (numN ⟨nm, kd, false, le, mo, op⟩ 2)) ∧ Below W.heap.size W w' := fun W => by
            have := c_PutInt (numN ⟨nm, kd, false, le, mo, op⟩ 1) 0 W (by decide) (by decide) (by have := hnz 1 (by omega); omega)
            unfold PutPost at this
            have e2 := numN_succ ⟨nm, kd, false, le, mo, op⟩ 1 (by decide)
            rw [show (numI ⟨nm, kd, false, le, mo, op⟩).getD 1 0 = 0 from rfl] at e2
            rwa [e2] at this
          generalize numN ⟨nm, kd, false, le, mo, op⟩ = N at *
          have q0 : ∀ W : World, Calls Tryz.prog 49 #[.string (N 0), .int .i64 kd] W fun e w' => e = .returned (.string (N 1)) ∧ Below W.heap.size W w' := p0
          have q2 : ∀ W : World, Calls Tryz.prog 49 #[.string (N 2), .int .i64 le] W fun e w' => e = .returned (.string (N 3)) ∧ Below W.heap.size W w' := p2
          have q3 : ∀ W : World, Calls Tryz.prog 49 #[.string (N 3), .int .i64 mo] W fun e w' => e = .returned (.string (N 4)) ∧ Below W.heap.size W w' := p3
          have hbx := Blk.new wr 58 #[.string nm, .int .i64 kd, .bool false, .int .i64 le, .int .i64 mo, .slice Au nu cu]
          have hbxb : Below w1.heap.size w1 (wr.alloc (.cells #[.string nm, .int .i64 kd, .bool false, .int .i64 le, .int .i64 mo, .slice Au nu cu] 58)) := HBR.out.alloc hszr _
          have hbxo : Below wr.heap.size wr (wr.alloc (.cells #[.string nm, .int .i64 kd, .bool false, .int .i64 le, .int .i64 mo, .slice Au nu cu] 58)) := (Below.refl _ _).alloc (Nat.le_refl _) _
          have HBX := Lib.hid hbx
          have HBXB := Lib.hid hbxb
          have HBXO := Lib.hid hbxo
          have HN0 := Lib.hid hn0
          have HTXU := Lib.hid htxu
          have HSTEP := Lib.hid hstep
          have HNZ := Lib.hid hnz
          have HRS := Lib.hid hrs
          have Q0 := Lib.hid q0
          have P1 := Lib.hid p1
          have Q2 := Lib.hid q2
          have Q3 := Lib.hid q3
          clear hbx hbxb hbxo hn0 htxu hstep hnz hrs q0 q2 q3 p0 p1 p2 p3 hbl
          go_wp2_with fail
          obtain ⟨w2, hw2⟩ : ∃ w2, (wr.alloc (.cells #[.string nm, .int .i64 kd, .bool false, .int .i64 le, .int .i64 mo, .slice Au nu cu] 58)) = w2 := ⟨_, rfl⟩
          have hbx2 := HBX.out
          have hbr2 := HBXB.out
          have hbo2 := HBXO.out
          rw [hw2] at hbx2 hbr2 hbo2 ⊢
          clear hw2
          have HBX2 := Lib.hid hbx2
          have HBR2 := Lib.hid hbr2
          have HBO2 := Lib.hid hbo2
          have hlx := hbx2.lt
          clear hbx2 hbr2 hbo2 HBX HBXB HBXO e0 e1 e2 e3 e4 e5
          obtain ⟨xb, hxb⟩ : ∃ xb, wr.heap.size = xb := ⟨_, rfl⟩
          have HXE := Lib.hid hxb
          rw [hxb] at HBX2 hlx ⊢
          clear hxb
          go_loopw [8, 34] (fun v8 v9 wq => ∃ i : Nat, i ≤ 4 ∧ v9 = .int .i64 (i : Int) ∧ v8 = .string (N i) ∧ Below w2.heap.size w2 wq) (fun _ v9 _ => 4 - (intOf v9).toNat)
          case atStart => exact ⟨0, by omega, rfl, by rw [HN0.out], Below.refl _ _⟩
          case round =>
            rename World => wq
            obtain ⟨i, hi4, rfl, rfl, hbq⟩ := hrel
            have HBQ := Lib.hid hbq
            have hsq := hbq.size
            clear hbq
            have h5 : i = 0 ∨ i = 1 ∨ i = 2 ∨ i = 3 ∨ i = 4 := by omega
            rcases h5 with rfl | rfl | rfl | rfl | rfl
            · skip
              have ii := fun (W : World) => (index4 kd 0 le mo W).1
              go_wp2_with fail
              refine (Q0.out _).mono ?_
              rintro e w3 ⟨rfl, hb3⟩
              have HB3 := Lib.hid (HBQ.out.trans (hb3.mono hsq))
              clear hb3
              go_wp2_with fail
              go_roundw
              case measure => simp [intOf]
              case rel => exact ⟨1, by omega, by first | rfl | go_num, rfl, HB3.out⟩
            · skip
              have ii := fun (W : World) => (index4 kd 0 le mo W).2.1
              go_wp2_with fail
              refine (P1.out _).mono ?_
              rintro e w3 ⟨rfl, hb3⟩
              have HB3 := Lib.hid (HBQ.out.trans (hb3.mono hsq))
              clear hb3
              go_wp2_with fail
              go_roundw
              case measure => simp [intOf]
              case rel => exact ⟨2, by omega, by first | rfl | go_num, rfl, HB3.out⟩
            · skip
              have ii := fun (W : World) => (index4 kd 0 le mo W).2.2.1
              go_wp2_with fail
              refine (Q2.out _).mono ?_
              rintro e w3 ⟨rfl, hb3⟩
              have HB3 := Lib.hid (HBQ.out.trans (hb3.mono hsq))
              clear hb3
              go_wp2_with fail
              go_roundw
              case measure => simp [intOf]
              case rel => exact ⟨3, by omega, by first | rfl | go_num, rfl, HB3.out⟩
            · skip
              have ii := fun (W : World) => (index4 kd 0 le mo W).2.2.2
              go_wp2_with fail
              refine (Q3.out _).mono ?_
              rintro e w3 ⟨rfl, hb3⟩
              have HB3 := Lib.hid (HBQ.out.trans (hb3.mono hsq))
              clear hb3
              go_wp2_with fail
              go_roundw
              case measure => simp [intOf]
              case rel => exact ⟨4, by omega, by first | rfl | go_num, rfl, HB3.out⟩
            · skip
              have hbq4 : Below w1.heap.size w1 wq := HBR2.out.trans (HBQ.out.mono HBR2.out.size)
              have hbx4 := HBX2.out.below' HBQ.out hlx
              have y0 := (hbx4.cell 0).trans (show _ = some (Value.string nm) from rfl)
              have y5 := (hbx4.cell 5).trans (show _ = some (Value.slice Au nu cu) from rfl)
              have hxq : xb < wq.heap.size := by omega
              have how4 : wq.ownsRow w1.heap.size 9 1 (.slice A4 m c4) m ((dgK t L k).map Value.string) := HOWN.out.kept (only_of_below (HBO2.out.trans (HBQ.out.mono HBO2.out.size)) none) (by cases (Value.slice A4 m c4).ownBlock <;> simp)
              have mk : ∀ W, Below wq.heap.size wq W → W.cell? ⟨xb, 0, none⟩ = some (.string nm) ∧ W.cell? ⟨xb, 5, none⟩ = some (.slice Au nu cu) ∧ W.ownsRow w1.heap.size 9 1 (.slice A4 m c4) m ((dgK t L k).map Value.string) := fun W hW =>
                ⟨(hW.cell (p := ⟨xb, 0, none⟩) hxq).trans y0, (hW.cell (p := ⟨xb, 5, none⟩) hxq).trans y5, how4.kept (only_of_below hW none) (by cases (Value.slice A4 m c4).ownBlock <;> simp)⟩
              have htq : ∀ W, Below wq.heap.size wq W → Calls Tryz.prog 50 #[.string ⟨#[]⟩, .slice Au nu cu] W fun e w' => e = .returned (.string tx) ∧ Below W.heap.size W w' := fun W hW => HTXU.out W (HLOW.out.trans ((hbq4.trans (hW.mono hbq4.size)).mono hs1))
              have HMK := Lib.hid mk
              have HTQ := Lib.hid htq
              have HBQ4 := Lib.hid hbq4
              have hq4 := hbq4.size
              have HN4 := Lib.hid (HNZ.out 4 (by omega))
              obtain ⟨cells, hcells⟩ : ∃ cells, (dgK t L k).map Value.string = cells := ⟨_, rfl⟩
              rw [hcells] at HMK
              have HCELLS := Lib.hid hcells
              clear mk htq hbq4 hbx4 how4 hcells HBX2 HBR2 HBO2
              go_upto_region 16 with fail
              generalize N 4 = nums at *
              go_region_law (first
                | (refine step_append_lies _ (by rfl) _ _ _ (by rfl) w1.heap.size 9 i0 _ 1 16 Tryz.underlying56 hi hz0 hz1 hz2 rfl (by omega) (.slice A4 m c4) m cells (by rfl) (E2.out.alloc _) ⟨wk.heap.size, 0, none⟩ 3 3 [.string nm, .string nums, .string tx] (by rfl) (by rfl) (World.news_of_block (cs := #[.string nm, .string nums, .string tx]) (t := 9) (fr := (0, 0)) (heap_alloc_new wk _)) (by intro u hu; simp at hu; rcases hu with rfl | rfl | rfl <;> rfl) (by omega) (by simp only [maxLen]; omega) (by omega) (by simp; omega) (wk.heap.size + 1) (by simp) ?_; intro gg cap4 w4 hown4 hgrow4 hat4 hlt4)
                | ((try go_simp); go_at_call 50; ((with_reducible refine (HTQ.out _ ((Below.refl _ _).drew)).mono ?_); rintro e wk ⟨rfl, hbk⟩; have hbk2 : Below wq.heap.size wq wk := ((Below.refl wq.heap.size wq).drew).trans hbk; obtain ⟨y0k, y5k, e2⟩ := HMK.out wk hbk2; have E2 := Lib.hid e2; have HBK2 := Lib.hid hbk2; have hskk := hbk2.size; clear hbk hbk2 e2)))
              all_goals
                have hgw : wk.grownBy w4 (Value.slice A4 m c4).ownBlock := grown_past hgrow4
                have hbw4 : Below w1.heap.size w1 w4 := (HBQ4.out.trans (HBK2.out.mono hq4)).grown hgw (by omega) (fun g hg => (E2.out.lt g hg).1)
                have hown5 : w4.ownsRow w1.heap.size 9 1 (.slice (some ⟨gg, 0, none⟩) (m + 3) cap4) (m + 3) ((dgK t L (k + 1)).map Value.string) := by
                  rw [HSTEP.out, List.map_append, HCELLS.out]
                  exact hown4
                have HB4 := Lib.hid hbw4
                have HO4 := Lib.hid hown5
                clear hgw hbw4 hown5 hown4 hgrow4 hat4
                go_wp2_with fail
                go_roundw
                case measure => simp [intOf]; omega
                case rel => exact ⟨k + 1, _, m + 3, _, by omega, by have := HM.out; omega, by go_num, rfl, HO4.out, HB4.out⟩
        | true =>
          have p1 : ∀ W : World, Calls Tryz.prog 49 #[.string (numN ⟨nm, kd, true, le, mo, op⟩ 1), .int .i64 1] W fun e w' => e = .returned (.string (numN ⟨nm, kd, true, le, mo, op⟩ 2)) ∧ Below W.heap.size W w' := fun W => by
            have := c_PutInt (numN ⟨nm, kd, true, le, mo, op⟩ 1) 1 W (by decide) (by decide) (by have := hnz 1 (by omega); omega)
            unfold PutPost at this
            have e2 := numN_succ ⟨nm, kd, true, le, mo, op⟩ 1 (by decide)
            rw [show (numI ⟨nm, kd, true, le, mo, op⟩).getD 1 0 = 1 from rfl] at e2
            rwa [e2] at this
          generalize numN ⟨nm, kd, true, le, mo, op⟩ = N at *
          have q0 : ∀ W : World, Calls Tryz.prog 49 #[.string (N 0), .int .i64 kd] W fun e w' => e = .returned (.string (N 1)) ∧ Below W.heap.size W w' := p0
          have q2 : ∀ W : World, Calls Tryz.prog 49 #[.string (N 2), .int .i64 le] W fun e w' => e = .returned (.string (N 3)) ∧ Below W.heap.size W w' := p2
          have q3 : ∀ W : World, Calls Tryz.prog 49 #[.string (N 3), .int .i64 mo] W fun e w' => e = .returned (.string (N 4)) ∧ Below W.heap.size W w' := p3
          have hbx := Blk.new wr 58 #[.string nm, .int .i64 kd, .bool true, .int .i64 le, .int .i64 mo, .slice Au nu cu]
          have hbxb : Below w1.heap.size w1 (wr.alloc (.cells #[.string nm, .int .i64 kd, .bool true, .int .i64 le, .int .i64 mo, .slice Au nu cu] 58)) := HBR.out.alloc hszr _
          have hbxo : Below wr.heap.size wr (wr.alloc (.cells #[.string nm, .int .i64 kd, .bool true, .int .i64 le, .int .i64 mo, .slice Au nu cu] 58)) := (Below.refl _ _).alloc (Nat.le_refl _) _
          have HBX := Lib.hid hbx
          have HBXB := Lib.hid hbxb
          have HBXO := Lib.hid hbxo
          have HN0 := Lib.hid hn0
          have HTXU := Lib.hid htxu
          have HSTEP := Lib.hid hstep
          have HNZ := Lib.hid hnz
          have HRS := Lib.hid hrs
          have Q0 := Lib.hid q0
          have P1 := Lib.hid p1
          have Q2 := Lib.hid q2
          have Q3 := Lib.hid q3
          clear hbx hbxb hbxo hn0 htxu hstep hnz hrs q0 q2 q3 p0 p1 p2 p3 hbl
          go_wp2_with fail
          obtain ⟨w2, hw2⟩ : ∃ w2, (wr.alloc (.cells #[.string nm, .int .i64 kd, .bool true, .int .i64 le, .int .i64 mo, .slice Au nu cu] 58)) = w2 := ⟨_, rfl⟩
          have hbx2 := HBX.out
          have hbr2 := HBXB.out
          have hbo2 := HBXO.out
          rw [hw2] at hbx2 hbr2 hbo2 ⊢
          clear hw2
          have HBX2 := Lib.hid hbx2
          have HBR2 := Lib.hid hbr2
          have HBO2 := Lib.hid hbo2
          have hlx := hbx2.lt
          clear hbx2 hbr2 hbo2 HBX HBXB HBXO e0 e1 e2 e3 e4 e5
          obtain ⟨xb, hxb⟩ : ∃ xb, wr.heap.size = xb := ⟨_, rfl⟩
          have HXE := Lib.hid hxb
          rw [hxb] at HBX2 hlx ⊢
          clear hxb
          go_loopw [8, 34] (fun v8 v9 wq => ∃ i : Nat, i ≤ 4 ∧ v9 = .int .i64 (i : Int) ∧ v8 = .string (N i) ∧ Below w2.heap.size w2 wq) (fun _ v9 _ => 4 - (intOf v9).toNat)
          case atStart => exact ⟨0, by omega, rfl, by rw [HN0.out], Below.refl _ _⟩
          case round =>
            rename World => wq
            obtain ⟨i, hi4, rfl, rfl, hbq⟩ := hrel
            have HBQ := Lib.hid hbq
            have hsq := hbq.size
            clear hbq
            have h5 : i = 0 ∨ i = 1 ∨ i = 2 ∨ i = 3 ∨ i = 4 := by omega
            rcases h5 with rfl | rfl | rfl | rfl | rfl
            · skip
              have ii := fun (W : World) => (index4 kd 1 le mo W).1
              go_wp2_with fail
              refine (Q0.out _).mono ?_
              rintro e w3 ⟨rfl, hb3⟩
              have HB3 := Lib.hid (HBQ.out.trans (hb3.mono hsq))
              clear hb3
              go_wp2_with fail
              go_roundw
              case measure => simp [intOf]
              case rel => exact ⟨1, by omega, by first | rfl | go_num, rfl, HB3.out⟩
            · skip
              have ii := fun (W : World) => (index4 kd 1 le mo W).2.1
              go_wp2_with fail
              refine (P1.out _).mono ?_
              rintro e w3 ⟨rfl, hb3⟩
              have HB3 := Lib.hid (HBQ.out.trans (hb3.mono hsq))
              clear hb3
              go_wp2_with fail
              go_roundw
              case measure => simp [intOf]
              case rel => exact ⟨2, by omega, by first | rfl | go_num, rfl, HB3.out⟩
            · skip
              have ii := fun (W : World) => (index4 kd 1 le mo W).2.2.1
              go_wp2_with fail
              refine (Q2.out _).mono ?_
              rintro e w3 ⟨rfl, hb3⟩
              have HB3 := Lib.hid (HBQ.out.trans (hb3.mono hsq))
              clear hb3
              go_wp2_with fail
              go_roundw
              case measure => simp [intOf]
              case rel => exact ⟨3, by omega, by first | rfl | go_num, rfl, HB3.out⟩
            · skip
              have ii := fun (W : World) => (index4 kd 1 le mo W).2.2.2
              go_wp2_with fail
              refine (Q3.out _).mono ?_
              rintro e w3 ⟨rfl, hb3⟩
              have HB3 := Lib.hid (HBQ.out.trans (hb3.mono hsq))
              clear hb3
              go_wp2_with fail
              go_roundw
              case measure => simp [intOf]
              case rel => exact ⟨4, by omega, by first | rfl | go_num, rfl, HB3.out⟩
            · skip
              have hbq4 : Below w1.heap.size w1 wq := HBR2.out.trans (HBQ.out.mono HBR2.out.size)
              have hbx4 := HBX2.out.below' HBQ.out hlx
              have y0 := (hbx4.cell 0).trans (show _ = some (Value.string nm) from rfl)
              have y5 := (hbx4.cell 5).trans (show _ = some (Value.slice Au nu cu) from rfl)
              have hxq : xb < wq.heap.size := by omega
              have how4 : wq.ownsRow w1.heap.size 9 1 (.slice A4 m c4) m ((dgK t L k).map Value.string) := HOWN.out.kept (only_of_below (HBO2.out.trans (HBQ.out.mono HBO2.out.size)) none) (by cases (Value.slice A4 m c4).ownBlock <;> simp)
              have mk : ∀ W, Below wq.heap.size wq W → W.cell? ⟨xb, 0, none⟩ = some (.string nm) ∧ W.cell? ⟨xb, 5, none⟩ = some (.slice Au nu cu) ∧ W.ownsRow w1.heap.size 9 1 (.slice A4 m c4) m ((dgK t L k).map Value.string) := fun W hW =>
                ⟨(hW.cell (p := ⟨xb, 0, none⟩) hxq).trans y0, (hW.cell (p := ⟨xb, 5, none⟩) hxq).trans y5, how4.kept (only_of_below hW none) (by cases (Value.slice A4 m c4).ownBlock <;> simp)⟩
              have htq : ∀ W, Below wq.heap.size wq W → Calls Tryz.prog 50 #[.string ⟨#[]⟩, .slice Au nu cu] W fun e w' => e = .returned (.string tx) ∧ Below W.heap.size W w' := fun W hW => HTXU.out W (HLOW.out.trans ((hbq4.trans (hW.mono hbq4.size)).mono hs1))
              have HMK := Lib.hid mk
              have HTQ := Lib.hid htq
              have HBQ4 := Lib.hid hbq4
              have hq4 := hbq4.size
              have HN4 := Lib.hid (HNZ.out 4 (by omega))
              obtain ⟨cells, hcells⟩ : ∃ cells, (dgK t L k).map Value.string = cells := ⟨_, rfl⟩
              rw [hcells] at HMK
              have HCELLS := Lib.hid hcells
              clear mk htq hbq4 hbx4 how4 hcells HBX2 HBR2 HBO2
              go_upto_region 16 with fail
              generalize N 4 = nums at *
              go_region_law (first
                | (refine step_append_lies _ (by rfl) _ _ _ (by rfl) w1.heap.size 9 i0 _ 1 16 Tryz.underlying56 hi hz0 hz1 hz2 rfl (by omega) (.slice A4 m c4) m cells (by rfl) (E2.out.alloc _) ⟨wk.heap.size, 0, none⟩ 3 3 [.string nm, .string nums, .string tx] (by rfl) (by rfl) (World.news_of_block (cs := #[.string nm, .string nums, .string tx]) (t := 9) (fr := (0, 0)) (heap_alloc_new wk _)) (by intro u hu; simp at hu; rcases hu with rfl | rfl | rfl <;> rfl) (by omega) (by simp only [maxLen]; omega) (by omega) (by simp; omega) (wk.heap.size + 1) (by simp) ?_; intro gg cap4 w4 hown4 hgrow4 hat4 hlt4)
                | ((try go_simp); go_at_call 50; ((with_reducible refine (HTQ.out _ ((Below.refl _ _).drew)).mono ?_); rintro e wk ⟨rfl, hbk⟩; have hbk2 : Below wq.heap.size wq wk := ((Below.refl wq.heap.size wq).drew).trans hbk; obtain ⟨y0k, y5k, e2⟩ := HMK.out wk hbk2; have E2 := Lib.hid e2; have HBK2 := Lib.hid hbk2; have hskk := hbk2.size; clear hbk hbk2 e2)))
              all_goals
                have hgw : wk.grownBy w4 (Value.slice A4 m c4).ownBlock := grown_past hgrow4
                have hbw4 : Below w1.heap.size w1 w4 := (HBQ4.out.trans (HBK2.out.mono hq4)).grown hgw (by omega) (fun g hg => (E2.out.lt g hg).1)
                have hown5 : w4.ownsRow w1.heap.size 9 1 (.slice (some ⟨gg, 0, none⟩) (m + 3) cap4) (m + 3) ((dgK t L (k + 1)).map Value.string) := by
                  rw [HSTEP.out, List.map_append, HCELLS.out]
                  exact hown4
                have HB4 := Lib.hid hbw4
                have HO4 := Lib.hid hown5
                clear hgw hbw4 hown5 hown4 hgrow4 hat4
                go_wp2_with fail
                go_roundw
                case measure => simp [intOf]; omega
                case rel => exact ⟨k + 1, _, m + 3, _, by omega, by have := HM.out; omega, by go_num, rfl, HO4.out, HB4.out⟩
      · have zi : ¬ (k : Int) < (n : Int) := by omega
        have hkn : k = L.length := by have := HN.out; omega
        have hlen := dgK_len (t := t) (L := L) k (by omega)
        have hall := HDG.out k (by omega)
        have hown := HOWN.out
        have hds : dgS t L = listS (dgK t L k) := by rw [hkn]; exact HE.out.1
        obtain ⟨D, hD⟩ : ∃ D, dgK t L k = D := ⟨_, rfl⟩
        rw [hD] at hlen hall hown hds
        have htx := TxsAt.of_own hown
        have hli := d_List (.slice A4 m c4) D _ wr htx (fun b hb => hb.2) (by rw [hlen]; omega) (fun j hj => hall _ (by rw [List.getD_eq_getElem?_getD, List.getElem?_eq_getElem hj]; exact List.getElem_mem hj))
        unfold LstE at hli
        obtain ⟨z, hz⟩ : ∃ z, listS D = z := ⟨_, rfl⟩
        rw [hz] at hli hds
        have HLI := Lib.hid hli
        have HDS := Lib.hid hds
        have HLB := Lib.hid (HLOW.out.trans (HBR.out.mono hs1))
        clear hkn hlen hall hown hds hD htx hli hz
        go_wp2_with fail
        refine HLI.out.mono ?_
        rintro e w5 ⟨rfl, hb5⟩
        have HB5 := Lib.hid (HLB.out.trans (hb5.mono HLB.out.size))
        clear hb5
        go_wp2_with fail
        go_ret2
        exact ⟨by rw [HDS.out, HE.out.2]; rfl, HB5.out⟩
set_option maxRecDepth 100000 in
set_option maxHeartbeats 8000000 in
theorem r_Digest (t : ByteArray) (v : Value) (L : List Fld) (S : Nat → Prop) (w : World) (hv : FldsAt w S v L) (hS : ∀ b, S b → b < w.heap.size) (hok : FormOk t L) (hl : LibOk w) (hsp : SpcOk w) :
    Calls Tryz.prog 22 #[.agg #[.string t, v]] w (DgE t L w) := by
  obtain ⟨A, n, c, rfl, hn, hnc, hc⟩ := id hv
  obtain ⟨i0, hi, hz0, hz1, hz2⟩ := info_parts infoTx
  have hb0 : Below w.heap.size w (w.alloc (.cells #[.string t, .slice A n c] 55)) := (Below.refl _ _).alloc (Nat.le_refl _) _
  have hs0 : (w.alloc (.cells #[.string t, .slice A n c] 55)).heap.size = w.heap.size + 1 := by simp
  have hbk : Blk (w.alloc (.cells #[.string t, .slice A n c] 55)) w.heap.size 55 #[.string t, .slice A n c] := Blk.new w _ _
  have hval := fun (W : World) (hb : Below w.heap.size w W) => r_ValidF t (.slice A n c) L S W (hv.keep fun b hB => hb.block b (hS b hB)) (fun b hB => Nat.lt_of_lt_of_le (hS b hB) hb.size) hok (hl.later hb) (spc_below hsp (by have := hl.size; show (0 : Nat) < _; omega) hb)
  have HB0 := Lib.hid hb0
  have HBK := Lib.hid hbk
  have HVAL := Lib.hid hval
  have HC := Lib.hid hc
  have HN := Lib.hid hn
  have HS := Lib.hid hS
  have HOK := Lib.hid hok
  clear hb0 hbk hval hc hn hS hv hok hl hsp
  cases hvb : validB t L with
  | false =>
    have he : dgS t L = ⟨#[]⟩ ∧ dgZ t L = 1 := by unfold dgS dgZ; rw [hvb]; exact ⟨rfl, rfl⟩
    have HE := Lib.hid he
    have HVB := Lib.hid hvb
    clear he hvb
    go_enter Tryz.func22, Tryz.ntmps22
    go_wp2_with fail
    refine (HVAL.out _ HB0.out).mono ?_
    rw [HVB.out]
    rintro e w1 ⟨rfl, hb1⟩
    have HB1 := Lib.hid (HB0.out.trans (hb1.mono HB0.out.size))
    clear hb1
    go_wp2_with fail
    go_ret2
    exact ⟨by rw [HE.out.1, HE.out.2]; rfl, HB1.out⟩
  | true =>
    have he : dgS t L = listS (dgK t L L.length) ∧ dgZ t L = 0 := by unfold dgS dgZ; rw [hvb]; exact ⟨rfl, rfl⟩
    obtain ⟨v1, v2, v3⟩ := valid_small hvb
    have hn32 : n ≤ 32 := by have := HN.out; omega
    have hdg := dg_small hvb
    have HE := Lib.hid he
    have HVB := Lib.hid hvb
    have HV3 := Lib.hid v3
    have HDG := Lib.hid hdg
    clear he hvb v3 hdg v2
    go_enter Tryz.func22, Tryz.ntmps22
    go_wp2_with fail
    refine (HVAL.out _ HB0.out).mono ?_
    rw [HVB.out]
    rintro e w1 ⟨rfl, hb1⟩
    have hf1 := HBK.out.below' hb1 (by omega)
    have f0 := (hf1.cell 0).trans (show _ = some (Value.string t) from rfl)
    have f1 := (hf1.cell 1).trans (show _ = some (Value.slice A n c) from rfl)
    have f2 : (w1.alloc (.cells #[.string t] 9)).cell? ⟨w.heap.size, 1, none⟩ = some (.slice A n c) := (World.cell?_alloc_lt w1 _ ⟨w.heap.size, 1, none⟩ (by have := hb1.size; show w.heap.size < _; omega)).trans f1
    have hlow : Below w.heap.size w w1 := HB0.out.trans (hb1.mono HB0.out.size)
    have HLOW := Lib.hid hlow
    have hs1 := hlow.size
    have hrow0 : (w1.alloc (.cells #[.string t] 9)).ownsRow w1.heap.size 9 1 (.slice (some ⟨w1.heap.size, 0, none⟩) 1 1) 1 [.string t] := World.ownsRow_lit w1 #[.string t] 1 (Nat.le_refl _) (by simp only [maxLen]; omega) rfl
    have HROW0 := Lib.hid hrow0
    clear hb1 hf1 hlow hrow0
    go_wp2_with fail
    go_loopw [4, 20] (fun v4 v20 wr => ∃ (k : Nat) (A4 : Option Addr) (m c4 : Nat), k ≤ n ∧ m = 1 + 3 * k ∧ v20 = .int .i64 (k : Int) ∧ v4 = .slice A4 m c4 ∧ wr.ownsRow w1.heap.size 9 1 (.slice A4 m c4) m ((dgK t L k).map Value.string) ∧ Below w1.heap.size w1 wr) (fun _ v20 _ => n - (intOf v20).toNat)
    case atStart => exact ⟨0, _, 1, 1, by omega, rfl, rfl, rfl, HROW0.out, (Below.refl _ _).alloc (Nat.le_refl _) _⟩
    case round =>
      clear HROW0 f0 f1 f2
      obtain ⟨k, A4, m, c4, hk, hm, rfl, rfl, hown, hbr⟩ := hrel
      have HOWN := Lib.hid hown
      have HBR := Lib.hid hbr
      have HM := Lib.hid hm
      have hszr := hbr.size
      have hm97 : m ≤ 97 := by omega
      clear hown hbr hm
      by_cases hlt : k < n
      · obtain ⟨b, off, rfl, hSb, hcell⟩ := HC.out (by omega)
        have hbw := HS.out b hSb
        have hkl : k < L.length := by have := HN.out; omega
        have hf := hcell k hlt
        have hrs := right_small (HV3.out k hkl)
        have hfok := HOK.out.2.2 k hkl
        have hstep := dgK_succ (t := t) hkl
        have hbl : Below w.heap.size w wr := HLOW.out.trans (HBR.out.mono hs1)
        obtain ⟨f, hfe⟩ : ∃ f, fldAt L k = f := ⟨_, rfl⟩
        rw [hfe] at hf hrs hfok hstep
        clear hfe
        have hnz := fun i h => numN_size f i h
        have hpi := fun (i : Nat) (W : World) (hi4 : i < 4) (h1 : -9223372036854775808 ≤ (numI f).getD i 0) (h2 : (numI f).getD i 0 < 9223372036854775808) => rf_PutIntG (numN f i) ((numI f).getD i 0) W h1 h2 (by have := hnz i (by omega); omega)
        have hpj : ∀ (i : Nat) (W : World), i < 4 → -9223372036854775808 ≤ (numI f).getD i 0 → (numI f).getD i 0 < 9223372036854775808 → Calls Tryz.prog 52 #[.string (numN f i), .int .i64 ((numI f).getD i 0)] W fun e w' => e = .returned (.string (numN f (i + 1))) ∧ Below W.heap.size W w' := fun i W h h1 h2 => by
          have := hpi i W h h1 h2
          unfold PutPost at this
          rwa [numN_succ f i h] at this
        have htx := fun (W : World) (hb : Below w.heap.size w W) (u : Value) (hu : TxsAt w S u f.opts) => rf_PutTexts u f.opts S W (hu.keep fun b hB => hb.block b (HS.out b hB)) (fun b hB => Nat.lt_of_lt_of_le (HS.out b hB) hb.size) (by have := hrs.2.1; omega) (fun k hk => by have := hrs.2.2 k hk; omega)
        unfold TxsE at htx
        have htz := textsB_small hrs.2.1 hrs.2.2
        obtain ⟨g1, g2, g3, g4, g5, g6, g7, g8, -⟩ := hfok
        have hf3 : fld3 f = [f.name, numN f 4, textsB f.opts] := rfl
        rw [hf3] at hstep
        obtain ⟨nm, kd, nd, le, mo, op⟩ := f
        simp only at g1 g2 g3 g4 g5 g6 g7 g8 htx htz hrs hstep
        have p0 := fun W => hpj 0 W (by omega) g3 g4
        have p2 := fun W => hpj 2 W (by omega) g5 g6
        have p3 := fun W => hpj 3 W (by omega) g7 g8
        have hn0 : numN ⟨nm, kd, nd, le, mo, op⟩ 0 = ⟨#[]⟩ := rfl
        obtain ⟨c0, c1, c2, c3, c4x, u, c5, hu⟩ := hf
        have htxu := fun W hb => htx W hb u hu
        obtain ⟨Au, nu, cu, rfl, -⟩ := id hu
        have e0 : wr.cell? ⟨b, off + k * 6, none⟩ = _ := (hbl.cell (p := ⟨b, off + k * 6, none⟩) hbw).trans c0
        have e1 : wr.cell? ⟨b, off + k * 6 + 1, none⟩ = _ := (hbl.cell (p := ⟨b, off + k * 6 + 1, none⟩) hbw).trans c1
        have e2 : wr.cell? ⟨b, off + k * 6 + 2, none⟩ = _ := (hbl.cell (p := ⟨b, off + k * 6 + 2, none⟩) hbw).trans c2
        have e3 : wr.cell? ⟨b, off + k * 6 + 3, none⟩ = _ := (hbl.cell (p := ⟨b, off + k * 6 + 3, none⟩) hbw).trans c3
        have e4 : wr.cell? ⟨b, off + k * 6 + 4, none⟩ = _ := (hbl.cell (p := ⟨b, off + k * 6 + 4, none⟩) hbw).trans c4x
        have e5 : wr.cell? ⟨b, off + k * 6 + 5, none⟩ = _ := (hbl.cell (p := ⟨b, off + k * 6 + 5, none⟩) hbw).trans c5
        obtain ⟨tx, htxe⟩ : ∃ tx, textsB op = tx := ⟨_, rfl⟩
        rw [htxe] at htxu htz hstep
        clear c0 c1 c2 c3 c4x c5 htx hpi hpj htxe hcell hkl hu
        have zi : (k : Int) < (n : Int) := by omega
        have z0 : (0 : Int) ≤ (k : Int) := by omega
        cases nd with
        | false =>
          have p1 : ∀ W : World, Calls Tryz.prog 52 #[.string (numN ⟨nm, kd, false, le, mo, op⟩ 1), .int .i64 0] W fun e w' => e = .returned (.string (numN ⟨nm, kd, false, le, mo, op⟩ 2)) ∧ Below W.heap.size W w' := fun W => by
            have := rf_PutIntG (numN ⟨nm, kd, false, le, mo, op⟩ 1) 0 W (by decide) (by decide) (by have := hnz 1 (by omega); omega)
            unfold PutPost at this
            have e2 := numN_succ ⟨nm, kd, false, le, mo, op⟩ 1 (by decide)
            rw [show (numI ⟨nm, kd, false, le, mo, op⟩).getD 1 0 = 0 from rfl] at e2
            rwa [e2] at this
          generalize numN ⟨nm, kd, false, le, mo, op⟩ = N at *
          have q0 : ∀ W : World, Calls Tryz.prog 52 #[.string (N 0), .int .i64 kd] W fun e w' => e = .returned (.string (N 1)) ∧ Below W.heap.size W w' := p0
          have q2 : ∀ W : World, Calls Tryz.prog 52 #[.string (N 2), .int .i64 le] W fun e w' => e = .returned (.string (N 3)) ∧ Below W.heap.size W w' := p2
          have q3 : ∀ W : World, Calls Tryz.prog 52 #[.string (N 3), .int .i64 mo] W fun e w' => e = .returned (.string (N 4)) ∧ Below W.heap.size W w' := p3
          have hbx := Blk.new wr 58 #[.string nm, .int .i64 kd, .bool false, .int .i64 le, .int .i64 mo, .slice Au nu cu]
          have hbxb : Below w1.heap.size w1 (wr.alloc (.cells #[.string nm, .int .i64 kd, .bool false, .int .i64 le, .int .i64 mo, .slice Au nu cu] 58)) := HBR.out.alloc hszr _
          have hbxo : Below wr.heap.size wr (wr.alloc (.cells #[.string nm, .int .i64 kd, .bool false, .int .i64 le, .int .i64 mo, .slice Au nu cu] 58)) := (Below.refl _ _).alloc (Nat.le_refl _) _
          have HBX := Lib.hid hbx
          have HBXB := Lib.hid hbxb
          have HBXO := Lib.hid hbxo
          have HN0 := Lib.hid hn0
          have HTXU := Lib.hid htxu
          have HSTEP := Lib.hid hstep
          have HNZ := Lib.hid hnz
          have HRS := Lib.hid hrs
          have Q0 := Lib.hid q0
          have P1 := Lib.hid p1
          have Q2 := Lib.hid q2
          have Q3 := Lib.hid q3
          clear hbx hbxb hbxo hn0 htxu hstep hnz hrs q0 q2 q3 p0 p1 p2 p3 hbl
          go_wp2_with fail
          have hib := Blk.new (wr.alloc (.cells #[.string nm, .int .i64 kd, .bool false, .int .i64 le, .int .i64 mo, .slice Au nu cu] 58)) 3 #[.int .i64 kd, .int .i64 0, .int .i64 le, .int .i64 mo]
          obtain ⟨w2, hw2⟩ : ∃ w2, (wr.alloc (.cells #[.string nm, .int .i64 kd, .bool false, .int .i64 le, .int .i64 mo, .slice Au nu cu] 58)).alloc (.cells #[.int .i64 kd, .int .i64 0, .int .i64 le, .int .i64 mo] 3) = w2 := ⟨_, rfl⟩
          have hw2b : Below (wr.alloc (.cells #[.string nm, .int .i64 kd, .bool false, .int .i64 le, .int .i64 mo, .slice Au nu cu] 58)).heap.size (wr.alloc (.cells #[.string nm, .int .i64 kd, .bool false, .int .i64 le, .int .i64 mo, .slice Au nu cu] 58)) w2 := by rw [← hw2]; exact (Below.refl _ _).alloc (Nat.le_refl _) _
          have hszx : (wr.alloc (.cells #[.string nm, .int .i64 kd, .bool false, .int .i64 le, .int .i64 mo, .slice Au nu cu] 58)).heap.size = wr.heap.size + 1 := by simp
          rw [hw2] at hib ⊢
          rw [hszx] at hib
          try rw [hszx]
          have HIB := Lib.hid hib
          have hbx2 := HBX.out.below' hw2b (by simp)
          have hbr2 : Below w1.heap.size w1 w2 := HBXB.out.trans (hw2b.mono HBXB.out.size)
          have hbo2 : Below wr.heap.size wr w2 := HBXO.out.trans (hw2b.mono HBXO.out.size)
          clear hib hw2
          have HBX2 := Lib.hid hbx2
          have HBR2 := Lib.hid hbr2
          have HBO2 := Lib.hid hbo2
          have hlx := hbx2.lt
          clear hbx2 hbr2 hbo2 HBX HBXB HBXO e0 e1 e2 e3 e4 e5 hw2b hszx
          obtain ⟨xb, hxb⟩ : ∃ xb, wr.heap.size = xb := ⟨_, rfl⟩
          have HXE := Lib.hid hxb
          rw [hxb] at HBX2 hlx HIB ⊢
          clear hxb
          go_loopw [8, 35] (fun v8 v9 wq => ∃ i : Nat, i ≤ 4 ∧ v9 = .int .i64 (i : Int) ∧ v8 = .string (N i) ∧ Below w2.heap.size w2 wq) (fun _ v9 _ => 4 - (intOf v9).toNat)
          case atStart => exact ⟨0, by omega, rfl, by rw [HN0.out], Below.refl _ _⟩
          case round =>
            rename World => wq
            obtain ⟨i, hi4, rfl, rfl, hbq⟩ := hrel
            have HBQ := Lib.hid hbq
            have hsq := hbq.size
            clear hbq
            have hib := HIB.out.below' HBQ.out HIB.out.lt
            have h5 : i = 0 ∨ i = 1 ∨ i = 2 ∨ i = 3 ∨ i = 4 := by omega
            rcases h5 with rfl | rfl | rfl | rfl | rfl
            · skip
              have ii := (hib.cell 0).trans (show _ = some (Value.int .i64 kd) from rfl)
              clear hib
              go_wp2_with fail
              refine (Q0.out _).mono ?_
              rintro e w3 ⟨rfl, hb3⟩
              have HB3 := Lib.hid (HBQ.out.trans (hb3.mono hsq))
              clear hb3
              go_wp2_with fail
              go_roundw
              case measure => simp [intOf]
              case rel => exact ⟨1, by omega, by first | rfl | go_num, rfl, HB3.out⟩
            · skip
              have ii := (hib.cell 1).trans (show _ = some (Value.int .i64 0) from rfl)
              clear hib
              go_wp2_with fail
              refine (P1.out _).mono ?_
              rintro e w3 ⟨rfl, hb3⟩
              have HB3 := Lib.hid (HBQ.out.trans (hb3.mono hsq))
              clear hb3
              go_wp2_with fail
              go_roundw
              case measure => simp [intOf]
              case rel => exact ⟨2, by omega, by first | rfl | go_num, rfl, HB3.out⟩
            · skip
              have ii := (hib.cell 2).trans (show _ = some (Value.int .i64 le) from rfl)
              clear hib
              go_wp2_with fail
              refine (Q2.out _).mono ?_
              rintro e w3 ⟨rfl, hb3⟩
              have HB3 := Lib.hid (HBQ.out.trans (hb3.mono hsq))
              clear hb3
              go_wp2_with fail
              go_roundw
              case measure => simp [intOf]
              case rel => exact ⟨3, by omega, by first | rfl | go_num, rfl, HB3.out⟩
            · skip
              have ii := (hib.cell 3).trans (show _ = some (Value.int .i64 mo) from rfl)
              clear hib
              go_wp2_with fail
              refine (Q3.out _).mono ?_
              rintro e w3 ⟨rfl, hb3⟩
              have HB3 := Lib.hid (HBQ.out.trans (hb3.mono hsq))
              clear hb3
              go_wp2_with fail
              go_roundw
              case measure => simp [intOf]
              case rel => exact ⟨4, by omega, by first | rfl | go_num, rfl, HB3.out⟩
            · skip
              clear hib
              have hbq4 : Below w1.heap.size w1 wq := HBR2.out.trans (HBQ.out.mono HBR2.out.size)
              have hbx4 := HBX2.out.below' HBQ.out hlx
              have y0 := (hbx4.cell 0).trans (show _ = some (Value.string nm) from rfl)
              have y5 := (hbx4.cell 5).trans (show _ = some (Value.slice Au nu cu) from rfl)
              have hxq : xb < wq.heap.size := by omega
              have how4 : wq.ownsRow w1.heap.size 9 1 (.slice A4 m c4) m ((dgK t L k).map Value.string) := HOWN.out.kept (only_of_below (HBO2.out.trans (HBQ.out.mono HBO2.out.size)) none) (by cases (Value.slice A4 m c4).ownBlock <;> simp)
              have mk : ∀ W, Below wq.heap.size wq W → W.cell? ⟨xb, 0, none⟩ = some (.string nm) ∧ W.cell? ⟨xb, 5, none⟩ = some (.slice Au nu cu) ∧ W.ownsRow w1.heap.size 9 1 (.slice A4 m c4) m ((dgK t L k).map Value.string) := fun W hW =>
                ⟨(hW.cell (p := ⟨xb, 0, none⟩) hxq).trans y0, (hW.cell (p := ⟨xb, 5, none⟩) hxq).trans y5, how4.kept (only_of_below hW none) (by cases (Value.slice A4 m c4).ownBlock <;> simp)⟩
              have htq : ∀ W, Below wq.heap.size wq W → Calls Tryz.prog 53 #[.string ⟨#[]⟩, .slice Au nu cu] W fun e w' => e = .returned (.string tx) ∧ Below W.heap.size W w' := fun W hW => HTXU.out W (HLOW.out.trans ((hbq4.trans (hW.mono hbq4.size)).mono hs1))
              have HMK := Lib.hid mk
              have HTQ := Lib.hid htq
              have HBQ4 := Lib.hid hbq4
              have hq4 := hbq4.size
              have HN4 := Lib.hid (HNZ.out 4 (by omega))
              obtain ⟨cells, hcells⟩ : ∃ cells, (dgK t L k).map Value.string = cells := ⟨_, rfl⟩
              rw [hcells] at HMK
              have HCELLS := Lib.hid hcells
              clear mk htq hbq4 hbx4 how4 hcells HBX2 HBR2 HBO2
              go_upto_region 16 with fail
              generalize N 4 = nums at *
              go_region_law (first
                | (refine step_append_lies _ (by rfl) _ _ _ (by rfl) w1.heap.size 9 i0 _ 1 16 Tryz.underlying56 hi hz0 hz1 hz2 rfl (by omega) (.slice A4 m c4) m cells (by rfl) (E2.out.alloc _) ⟨wk.heap.size, 0, none⟩ 3 3 [.string nm, .string nums, .string tx] (by rfl) (by rfl) (World.news_of_block (cs := #[.string nm, .string nums, .string tx]) (t := 9) (fr := (0, 0)) (heap_alloc_new wk _)) (by intro u hu; simp at hu; rcases hu with rfl | rfl | rfl <;> rfl) (by omega) (by simp only [maxLen]; omega) (by omega) (by simp; omega) (wk.heap.size + 1) (by simp) ?_; intro gg cap4 w4 hown4 hgrow4 hat4 hlt4)
                | ((try go_simp); go_at_call 53; ((with_reducible refine (HTQ.out _ ((Below.refl _ _).drew)).mono ?_); rintro e wk ⟨rfl, hbk⟩; have hbk2 : Below wq.heap.size wq wk := ((Below.refl wq.heap.size wq).drew).trans hbk; obtain ⟨y0k, y5k, e2⟩ := HMK.out wk hbk2; have E2 := Lib.hid e2; have HBK2 := Lib.hid hbk2; have hskk := hbk2.size; clear hbk hbk2 e2)))
              all_goals
                have hgw : wk.grownBy w4 (Value.slice A4 m c4).ownBlock := grown_past hgrow4
                have hbw4 : Below w1.heap.size w1 w4 := (HBQ4.out.trans (HBK2.out.mono hq4)).grown hgw (by omega) (fun g hg => (E2.out.lt g hg).1)
                have hown5 : w4.ownsRow w1.heap.size 9 1 (.slice (some ⟨gg, 0, none⟩) (m + 3) cap4) (m + 3) ((dgK t L (k + 1)).map Value.string) := by
                  rw [HSTEP.out, List.map_append, HCELLS.out]
                  exact hown4
                have HB4 := Lib.hid hbw4
                have HO4 := Lib.hid hown5
                clear hgw hbw4 hown5 hown4 hgrow4 hat4
                go_wp2_with fail
                go_roundw
                case measure => simp [intOf]; omega
                case rel => exact ⟨k + 1, _, m + 3, _, by omega, by have := HM.out; omega, by go_num, rfl, HO4.out, HB4.out⟩
        | true =>
          have p1 : ∀ W : World, Calls Tryz.prog 52 #[.string (numN ⟨nm, kd, true, le, mo, op⟩ 1), .int .i64 1] W fun e w' => e = .returned (.string (numN ⟨nm, kd, true, le, mo, op⟩ 2)) ∧ Below W.heap.size W w' := fun W => by
            have := rf_PutIntG (numN ⟨nm, kd, true, le, mo, op⟩ 1) 1 W (by decide) (by decide) (by have := hnz 1 (by omega); omega)
            unfold PutPost at this
            have e2 := numN_succ ⟨nm, kd, true, le, mo, op⟩ 1 (by decide)
            rw [show (numI ⟨nm, kd, true, le, mo, op⟩).getD 1 0 = 1 from rfl] at e2
            rwa [e2] at this
          generalize numN ⟨nm, kd, true, le, mo, op⟩ = N at *
          have q0 : ∀ W : World, Calls Tryz.prog 52 #[.string (N 0), .int .i64 kd] W fun e w' => e = .returned (.string (N 1)) ∧ Below W.heap.size W w' := p0
          have q2 : ∀ W : World, Calls Tryz.prog 52 #[.string (N 2), .int .i64 le] W fun e w' => e = .returned (.string (N 3)) ∧ Below W.heap.size W w' := p2
          have q3 : ∀ W : World, Calls Tryz.prog 52 #[.string (N 3), .int .i64 mo] W fun e w' => e = .returned (.string (N 4)) ∧ Below W.heap.size W w' := p3
          have hbx := Blk.new wr 58 #[.string nm, .int .i64 kd, .bool true, .int .i64 le, .int .i64 mo, .slice Au nu cu]
          have hbxb : Below w1.heap.size w1 (wr.alloc (.cells #[.string nm, .int .i64 kd, .bool true, .int .i64 le, .int .i64 mo, .slice Au nu cu] 58)) := HBR.out.alloc hszr _
          have hbxo : Below wr.heap.size wr (wr.alloc (.cells #[.string nm, .int .i64 kd, .bool true, .int .i64 le, .int .i64 mo, .slice Au nu cu] 58)) := (Below.refl _ _).alloc (Nat.le_refl _) _
          have HBX := Lib.hid hbx
          have HBXB := Lib.hid hbxb
          have HBXO := Lib.hid hbxo
          have HN0 := Lib.hid hn0
          have HTXU := Lib.hid htxu
          have HSTEP := Lib.hid hstep
          have HNZ := Lib.hid hnz
          have HRS := Lib.hid hrs
          have Q0 := Lib.hid q0
          have P1 := Lib.hid p1
          have Q2 := Lib.hid q2
          have Q3 := Lib.hid q3
          clear hbx hbxb hbxo hn0 htxu hstep hnz hrs q0 q2 q3 p0 p1 p2 p3 hbl
          go_wp2_with fail
          have hib := Blk.new (wr.alloc (.cells #[.string nm, .int .i64 kd, .bool true, .int .i64 le, .int .i64 mo, .slice Au nu cu] 58)) 3 #[.int .i64 kd, .int .i64 1, .int .i64 le, .int .i64 mo]
          obtain ⟨w2, hw2⟩ : ∃ w2, (wr.alloc (.cells #[.string nm, .int .i64 kd, .bool true, .int .i64 le, .int .i64 mo, .slice Au nu cu] 58)).alloc (.cells #[.int .i64 kd, .int .i64 1, .int .i64 le, .int .i64 mo] 3) = w2 := ⟨_, rfl⟩
          have hw2b : Below (wr.alloc (.cells #[.string nm, .int .i64 kd, .bool true, .int .i64 le, .int .i64 mo, .slice Au nu cu] 58)).heap.size (wr.alloc (.cells #[.string nm, .int .i64 kd, .bool true, .int .i64 le, .int .i64 mo, .slice Au nu cu] 58)) w2 := by rw [← hw2]; exact (Below.refl _ _).alloc (Nat.le_refl _) _
          have hszx : (wr.alloc (.cells #[.string nm, .int .i64 kd, .bool true, .int .i64 le, .int .i64 mo, .slice Au nu cu] 58)).heap.size = wr.heap.size + 1 := by simp
          rw [hw2] at hib ⊢
          rw [hszx] at hib
          try rw [hszx]
          have HIB := Lib.hid hib
          have hbx2 := HBX.out.below' hw2b (by simp)
          have hbr2 : Below w1.heap.size w1 w2 := HBXB.out.trans (hw2b.mono HBXB.out.size)
          have hbo2 : Below wr.heap.size wr w2 := HBXO.out.trans (hw2b.mono HBXO.out.size)
          clear hib hw2
          have HBX2 := Lib.hid hbx2
          have HBR2 := Lib.hid hbr2
          have HBO2 := Lib.hid hbo2
          have hlx := hbx2.lt
          clear hbx2 hbr2 hbo2 HBX HBXB HBXO e0 e1 e2 e3 e4 e5 hw2b hszx
          obtain ⟨xb, hxb⟩ : ∃ xb, wr.heap.size = xb := ⟨_, rfl⟩
          have HXE := Lib.hid hxb
          rw [hxb] at HBX2 hlx HIB ⊢
          clear hxb
          go_loopw [8, 35] (fun v8 v9 wq => ∃ i : Nat, i ≤ 4 ∧ v9 = .int .i64 (i : Int) ∧ v8 = .string (N i) ∧ Below w2.heap.size w2 wq) (fun _ v9 _ => 4 - (intOf v9).toNat)
          case atStart => exact ⟨0, by omega, rfl, by rw [HN0.out], Below.refl _ _⟩
          case round =>
            rename World => wq
            obtain ⟨i, hi4, rfl, rfl, hbq⟩ := hrel
            have HBQ := Lib.hid hbq
            have hsq := hbq.size
            clear hbq
            have hib := HIB.out.below' HBQ.out HIB.out.lt
            have h5 : i = 0 ∨ i = 1 ∨ i = 2 ∨ i = 3 ∨ i = 4 := by omega
            rcases h5 with rfl | rfl | rfl | rfl | rfl
            · skip
              have ii := (hib.cell 0).trans (show _ = some (Value.int .i64 kd) from rfl)
              clear hib
              go_wp2_with fail
              refine (Q0.out _).mono ?_
              rintro e w3 ⟨rfl, hb3⟩
              have HB3 := Lib.hid (HBQ.out.trans (hb3.mono hsq))
              clear hb3
              go_wp2_with fail
              go_roundw
              case measure => simp [intOf]
              case rel => exact ⟨1, by omega, by first | rfl | go_num, rfl, HB3.out⟩
            · skip
              have ii := (hib.cell 1).trans (show _ = some (Value.int .i64 1) from rfl)
              clear hib
              go_wp2_with fail
              refine (P1.out _).mono ?_
              rintro e w3 ⟨rfl, hb3⟩
              have HB3 := Lib.hid (HBQ.out.trans (hb3.mono hsq))
              clear hb3
              go_wp2_with fail
              go_roundw
              case measure => simp [intOf]
              case rel => exact ⟨2, by omega, by first | rfl | go_num, rfl, HB3.out⟩
            · skip
              have ii := (hib.cell 2).trans (show _ = some (Value.int .i64 le) from rfl)
              clear hib
              go_wp2_with fail
              refine (Q2.out _).mono ?_
              rintro e w3 ⟨rfl, hb3⟩
              have HB3 := Lib.hid (HBQ.out.trans (hb3.mono hsq))
              clear hb3
              go_wp2_with fail
              go_roundw
              case measure => simp [intOf]
              case rel => exact ⟨3, by omega, by first | rfl | go_num, rfl, HB3.out⟩
            · skip
              have ii := (hib.cell 3).trans (show _ = some (Value.int .i64 mo) from rfl)
              clear hib
              go_wp2_with fail
              refine (Q3.out _).mono ?_
              rintro e w3 ⟨rfl, hb3⟩
              have HB3 := Lib.hid (HBQ.out.trans (hb3.mono hsq))
              clear hb3
              go_wp2_with fail
              go_roundw
              case measure => simp [intOf]
              case rel => exact ⟨4, by omega, by first | rfl | go_num, rfl, HB3.out⟩
            · skip
              clear hib
              have hbq4 : Below w1.heap.size w1 wq := HBR2.out.trans (HBQ.out.mono HBR2.out.size)
              have hbx4 := HBX2.out.below' HBQ.out hlx
              have y0 := (hbx4.cell 0).trans (show _ = some (Value.string nm) from rfl)
              have y5 := (hbx4.cell 5).trans (show _ = some (Value.slice Au nu cu) from rfl)
              have hxq : xb < wq.heap.size := by omega
              have how4 : wq.ownsRow w1.heap.size 9 1 (.slice A4 m c4) m ((dgK t L k).map Value.string) := HOWN.out.kept (only_of_below (HBO2.out.trans (HBQ.out.mono HBO2.out.size)) none) (by cases (Value.slice A4 m c4).ownBlock <;> simp)
              have mk : ∀ W, Below wq.heap.size wq W → W.cell? ⟨xb, 0, none⟩ = some (.string nm) ∧ W.cell? ⟨xb, 5, none⟩ = some (.slice Au nu cu) ∧ W.ownsRow w1.heap.size 9 1 (.slice A4 m c4) m ((dgK t L k).map Value.string) := fun W hW =>
                ⟨(hW.cell (p := ⟨xb, 0, none⟩) hxq).trans y0, (hW.cell (p := ⟨xb, 5, none⟩) hxq).trans y5, how4.kept (only_of_below hW none) (by cases (Value.slice A4 m c4).ownBlock <;> simp)⟩
              have htq : ∀ W, Below wq.heap.size wq W → Calls Tryz.prog 53 #[.string ⟨#[]⟩, .slice Au nu cu] W fun e w' => e = .returned (.string tx) ∧ Below W.heap.size W w' := fun W hW => HTXU.out W (HLOW.out.trans ((hbq4.trans (hW.mono hbq4.size)).mono hs1))
              have HMK := Lib.hid mk
              have HTQ := Lib.hid htq
              have HBQ4 := Lib.hid hbq4
              have hq4 := hbq4.size
              have HN4 := Lib.hid (HNZ.out 4 (by omega))
              obtain ⟨cells, hcells⟩ : ∃ cells, (dgK t L k).map Value.string = cells := ⟨_, rfl⟩
              rw [hcells] at HMK
              have HCELLS := Lib.hid hcells
              clear mk htq hbq4 hbx4 how4 hcells HBX2 HBR2 HBO2
              go_upto_region 16 with fail
              generalize N 4 = nums at *
              go_region_law (first
                | (refine step_append_lies _ (by rfl) _ _ _ (by rfl) w1.heap.size 9 i0 _ 1 16 Tryz.underlying56 hi hz0 hz1 hz2 rfl (by omega) (.slice A4 m c4) m cells (by rfl) (E2.out.alloc _) ⟨wk.heap.size, 0, none⟩ 3 3 [.string nm, .string nums, .string tx] (by rfl) (by rfl) (World.news_of_block (cs := #[.string nm, .string nums, .string tx]) (t := 9) (fr := (0, 0)) (heap_alloc_new wk _)) (by intro u hu; simp at hu; rcases hu with rfl | rfl | rfl <;> rfl) (by omega) (by simp only [maxLen]; omega) (by omega) (by simp; omega) (wk.heap.size + 1) (by simp) ?_; intro gg cap4 w4 hown4 hgrow4 hat4 hlt4)
                | ((try go_simp); go_at_call 53; ((with_reducible refine (HTQ.out _ ((Below.refl _ _).drew)).mono ?_); rintro e wk ⟨rfl, hbk⟩; have hbk2 : Below wq.heap.size wq wk := ((Below.refl wq.heap.size wq).drew).trans hbk; obtain ⟨y0k, y5k, e2⟩ := HMK.out wk hbk2; have E2 := Lib.hid e2; have HBK2 := Lib.hid hbk2; have hskk := hbk2.size; clear hbk hbk2 e2)))
              all_goals
                have hgw : wk.grownBy w4 (Value.slice A4 m c4).ownBlock := grown_past hgrow4
                have hbw4 : Below w1.heap.size w1 w4 := (HBQ4.out.trans (HBK2.out.mono hq4)).grown hgw (by omega) (fun g hg => (E2.out.lt g hg).1)
                have hown5 : w4.ownsRow w1.heap.size 9 1 (.slice (some ⟨gg, 0, none⟩) (m + 3) cap4) (m + 3) ((dgK t L (k + 1)).map Value.string) := by
                  rw [HSTEP.out, List.map_append, HCELLS.out]
                  exact hown4
                have HB4 := Lib.hid hbw4
                have HO4 := Lib.hid hown5
                clear hgw hbw4 hown5 hown4 hgrow4 hat4
                go_wp2_with fail
                go_roundw
                case measure => simp [intOf]; omega
                case rel => exact ⟨k + 1, _, m + 3, _, by omega, by have := HM.out; omega, by go_num, rfl, HO4.out, HB4.out⟩
      · have zi : ¬ (k : Int) < (n : Int) := by omega
        have hkn : k = L.length := by have := HN.out; omega
        have hlen := dgK_len (t := t) (L := L) k (by omega)
        have hall := HDG.out k (by omega)
        have hown := HOWN.out
        have hds : dgS t L = listS (dgK t L k) := by rw [hkn]; exact HE.out.1
        obtain ⟨D, hD⟩ : ∃ D, dgK t L k = D := ⟨_, rfl⟩
        rw [hD] at hlen hall hown hds
        have htx := TxsAt.of_own hown
        have hli := rf_List (.slice A4 m c4) D _ wr htx (fun b hb => hb.2) (by rw [hlen]; omega) (fun j hj => hall _ (by rw [List.getD_eq_getElem?_getD, List.getElem?_eq_getElem hj]; exact List.getElem_mem hj))
        unfold LstE at hli
        obtain ⟨z, hz⟩ : ∃ z, listS D = z := ⟨_, rfl⟩
        rw [hz] at hli hds
        have HLI := Lib.hid hli
        have HDS := Lib.hid hds
        have HLB := Lib.hid (HLOW.out.trans (HBR.out.mono hs1))
        clear hkn hlen hall hown hds hD htx hli hz
        go_wp2_with fail
        refine HLI.out.mono ?_
        rintro e w5 ⟨rfl, hb5⟩
        have HB5 := Lib.hid (HLB.out.trans (hb5.mono HLB.out.size))
        clear hb5
        go_wp2_with fail
        go_ret2
        exact ⟨by rw [HDS.out, HE.out.2]; rfl, HB5.out⟩
end Go.Proofs.YthfmmememdlekaaGreatDoor

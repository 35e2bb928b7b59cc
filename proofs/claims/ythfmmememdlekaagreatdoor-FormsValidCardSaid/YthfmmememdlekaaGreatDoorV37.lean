/- The reference's sum: a block. Contracts: numbers of sums, the square of a text, an element, the bytes of a number. -/
import Derived.Test.YthfmmememdlekaaGreatDoorV36
import Derived.Test.YthfmmememdlekaaGreatDoorV35
import Derived.Test.YthfmmememdlekaaGreatDoorV03
import Derived.Lib.ConvBytes
set_option linter.unusedVariables false
set_option linter.unusedSimpArgs false
namespace Go.Proofs.YthfmmememdlekaaGreatDoor
open Go.RowKit Num

theorem allocK_arr (w : World) (K : Nat → Int) (n : Nat) (KC : Array Value) (h : ∀ i, i < n → KC[i]? = some (.int .u32 (K i))) (T : TypeId) : Arr (w.alloc (.cells KC T)) w.heap.size n K := by
  refine ⟨fun i hi => ?_, fun i hi => World.frozen?_alloc_new _ _ _ _⟩
  rw [World.cell?_alloc_new]
  exact h i hi
theorem alloc0_arr (w : World) (n : Nat) (T : TypeId) : Arr (w.alloc (.cells (Array.replicate n (.int .u32 0)) T)) w.heap.size n (fun _ => 0) :=
  allocK_arr w _ n _ (fun i hi => by rw [Array.getElem?_eq_getElem (by simp; exact hi)]; simp) T

theorem rf_wordAt (b : ByteArray) (t : Nat) (w : World) (h : 4 * t + 4 ≤ b.size) :
    Calls Tryz.prog 151 #[.string (b.extract (4 * t) b.size)] w fun r w' => r = .returned (.int .u32 (wordAt b t)) ∧ ∃ n, w' = w.drewN n := by
  refine (rf_word _ w (by rw [ByteArray.size_extract]; omega)).mono ?_
  rintro e w' ⟨rfl, hn⟩
  refine ⟨?_, hn⟩
  rw [extract_byte b (4 * t) 0 (by omega), extract_byte b (4 * t) 1 (by omega), extract_byte b (4 * t) 2 (by omega), extract_byte b (4 * t) 3 (by omega)]
  rfl
theorem Arr.at {w : World} {B C n : Nat} {f : Nat → Int} (h : Arr w B n f) (e : B = C) : Arr w C n f := e ▸ h

/-- What was reckoned and the old state, added place by place, so many of them. -/
def finR (v r : Nat → Int) (t : Nat) : Nat → Int := fun i => if i < t then (v i + r i) % 4294967296 else r i
theorem finR_8 (v r : Nat → Int) (i : Nat) (h : i < 8) : finR v r 8 i = fin v r 8 i := by unfold finR fin; rw [if_pos h, if_pos h]

set_option maxRecDepth 100000 in
set_option maxHeartbeats 1000000 in
theorem rf_block (b : ByteArray) (v K : Nat → Int) (KC : Array Value) (w : World) (hbs : 64 ≤ b.size) (hKC : ∀ i, i < 64 → KC[i]? = some (.int .u32 (K i))) :
    Calls Tryz.prog 127 #[.agg #[.int .u32 (v 0), .int .u32 (v 1), .int .u32 (v 2), .int .u32 (v 3), .int .u32 (v 4), .int .u32 (v 5), .int .u32 (v 6), .int .u32 (v 7)], .agg KC, .string b] w fun r w' =>
      r = .returned (.agg #[.int .u32 (compress K v b 0), .int .u32 (compress K v b 1), .int .u32 (compress K v b 2), .int .u32 (compress K v b 3), .int .u32 (compress K v b 4), .int .u32 (compress K v b 5), .int .u32 (compress K v b 6), .int .u32 (compress K v b 7)]) ∧ Below w.heap.size w w' := by
  have HKC := Lib.hid hKC
  clear hKC
  go_enter Tryz.func127, Tryz.ntmps127
  go_wp2_with fail
  go_loopw [8, 21] (fun _ i wr => ∃ t : Nat, t ≤ 16 ∧ i = .int .i64 t ∧ Below w.heap.size w wr ∧ w.heap.size + 3 < wr.heap.size ∧ Arr wr w.heap.size 8 v ∧ Arr wr (w.heap.size + 1) 64 K ∧ Arr wr (w.heap.size + 1 + 1) 8 (fun _ => 0) ∧ Arr wr (w.heap.size + 1 + 1 + 1) 64 (wds b t)) (fun _ i _ => 16 - (intOf i).toNat)
  case atStart =>
    refine ⟨0, by omega, rfl, ((((Below.refl _ _).alloc (Nat.le_refl _) _).alloc (by simp) _).alloc (by simp; omega) _).alloc (by simp; omega) _, by simp, ?_, ?_, ?_, ?_⟩
    · exact (((alloc8_arr w v _).alloc (by simp) _).alloc (by simp; omega) _).alloc (by simp; omega) _
    · exact (((allocK_arr (w.alloc _) K 64 KC HKC.out _).at (C := w.heap.size + 1) (by simp)).alloc (by simp) _).alloc (by simp) _
    · exact ((alloc0_arr ((w.alloc _).alloc _) 8 _).at (C := w.heap.size + 1 + 1) (by simp)).alloc (by simp) _
    · exact ((alloc0_arr (((w.alloc _).alloc _).alloc _) 64 _).at (C := w.heap.size + 1 + 1 + 1) (by simp)).congr fun i hi => (if_neg (by omega)).symm
  case round =>
    obtain ⟨t, ht, rfl, hbl, hsz, hh, hk, hr, hf⟩ := hrel
    have HH := Lib.hid hh
    have HK := Lib.hid hk
    have HR := Lib.hid hr
    by_cases hl : t < 16
    · have q1 : (0 : Int) ≤ 4 * (t : Int) := by omega
      have q2 : 4 * (t : Int) ≤ (b.size : Int) := by omega
      have q3 : (4 * (t : Int)).toNat = 4 * t := by omega
      have cc := hf.cell t (by omega)
      have cl := hf.live t (by omega)
      have HF := Lib.hid hf
      clear hf hh hk hr
      have hdt : decide ((t : Int) < 16) = true := decide_eq_true (by omega)
      go_wp2_with fail
      refine (rf_wordAt b t wr (by omega)).mono ?_
      rintro e w1 ⟨rfl, n, rfl⟩
      go_wp2_with fail
      go_roundw
      case measure => simp [intOf]; omega
      case rel =>
        refine ⟨t + 1, by omega, by go_num, (below_dn hbl _).setCell (p := ⟨w.heap.size + 1 + 1 + 1, t, none⟩) (by simp; omega) _, by simp; exact hsz, (HH.out.drewN _).far (by simp <;> omega), (HK.out.drewN _).far (by simp <;> omega), (HR.out.drewN _).far (by simp <;> omega), (HF.out.drewN _).set (g := wds b (t + 1)) (by omega) ?_ ?_⟩
        · exact (if_pos (by omega)).symm
        · intro j hj hne
          unfold wds
          by_cases hjt : j < t
          · rw [if_pos hjt, if_pos (by omega)]
          · rw [if_neg hjt, if_neg (by omega)]
    · have ht' : t = 16 := by omega
      subst ht'
      have HF := Lib.hid hf
      have HBL := Lib.hid hbl
      clear hf hbl hh hk hr
      go_wp2_with fail
      go_loopw [9] (fun i wq => ∃ t : Nat, 16 ≤ t ∧ t ≤ 64 ∧ i = .int .i64 t ∧ Below w.heap.size w wq ∧ w.heap.size + 1 + 1 + 1 < wq.heap.size ∧ Arr wq w.heap.size 8 v ∧ Arr wq (w.heap.size + 1) 64 K ∧ Arr wq (w.heap.size + 1 + 1) 8 (fun _ => 0) ∧ Arr wq (w.heap.size + 1 + 1 + 1) 64 (sched b (t - 16))) (fun i _ => 64 - (intOf i).toNat)
      case atStart => exact ⟨16, by omega, by omega, rfl, HBL.out, hsz, HH.out, HK.out, HR.out, HF.out⟩
      case round =>
        clear HH HK HR HBL
        obtain ⟨t, ht1, ht2, rfl, hbl, hsz, hh, hk, hr, hf⟩ := hrel
        have HH := Lib.hid hh
        have HK := Lib.hid hk
        have HR := Lib.hid hr
        by_cases hl : t < 64
        · have q15 := hf.cell (t - 15) (by omega)
          have q2 := hf.cell (t - 2) (by omega)
          have q7 := hf.cell (t - 7) (by omega)
          have q16 := hf.cell (t - 16) (by omega)
          have q0 := hf.cell t (by omega)
          have l0 := hf.live t (by omega)
          have HG := Lib.hid hf
          clear hf hh hk hr
          go_wp2_with fail
          go_quiet (fail)
          go_wp2_with (go_at_call 152; refine (rf_right _ _ _ (by decide)).mono ?_; rintro e w' ⟨rfl, rfl⟩)
          go_region
          go_wp2
          refine ⟨?_, ?measure⟩
          (repeat apply Exists.intro)
          refine ⟨?rel, rfl⟩
          case rel =>
            refine ⟨t + 1, by omega, by omega, by go_num, (below_dn hbl _).setCell (p := ⟨w.heap.size + 1 + 1 + 1, t, none⟩) (by simp; omega) _, by simp; exact hsz, (HH.out.drewN _).far (by simp <;> omega), (HK.out.drewN _).far (by simp <;> omega), (HR.out.drewN _).far (by simp <;> omega), ((HG.out.drewN _).set (g := sched b (t + 1 - 16)) (by omega) ?_ ?_)⟩
            · rw [show t + 1 - 16 = (t - 16) + 1 by omega, show sched b ((t - 16) + 1) t = stp (sched b (t - 16)) (16 + (t - 16)) from if_pos (by omega), show 16 + (t - 16) = t by omega]
              rfl
            · intro j hj hne
              rw [show t + 1 - 16 = (t - 16) + 1 by omega]
              exact if_neg (by omega)
          case measure => simp [intOf]; omega
        · have ht3 : t = 64 := by omega
          subst ht3
          have v0 := hh.cell 0 (by omega)
          have v1 := hh.cell 1 (by omega)
          have v2 := hh.cell 2 (by omega)
          have v3 := hh.cell 3 (by omega)
          have v4 := hh.cell 4 (by omega)
          have v5 := hh.cell 5 (by omega)
          have v6 := hh.cell 6 (by omega)
          have v7 := hh.cell 7 (by omega)
          have HG := Lib.hid hf
          have HB2 := Lib.hid hbl
          clear hh hk hr hf hbl
          go_wp2_with fail
          obtain ⟨wr', hwr'⟩ : ∃ w', w' = wr := ⟨wr, rfl⟩
          subst hwr'
          go_loopw [15, 76] (fun _ i wq => ∃ t : Nat, t ≤ 64 ∧ i = .int .i64 t ∧ Below w.heap.size w wq ∧ wr'.heap.size < wq.heap.size ∧ Arr wq (w.heap.size + 1 + 1 + 1) 64 (sched b 48) ∧ Arr wq (w.heap.size + 1) 64 K ∧ Arr wq w.heap.size 8 v ∧ Arr wq (w.heap.size + 1 + 1) 8 (fun _ => 0) ∧ Arr wq wr'.heap.size 8 (rst K (sched b 48) v t)) (fun _ i _ => 64 - (intOf i).toNat)
          case atStart => exact ⟨0, by omega, rfl, HB2.out.alloc (by omega) _, by simp, HG.out.alloc hsz _, HK.out.alloc (by omega) _, HH.out.alloc (by omega) _, HR.out.alloc (by omega) _, alloc8_arr _ _ _⟩
          case round =>
            obtain ⟨t, ht1, rfl, hbl, hs2, hw, hk, hh, hr, hf⟩ := hrel
            by_cases hl : t < 64
            · have es : rst K (sched b 48) v (t + 1) = rndF (rst K (sched b 48) v t) (K t) (sched b 48 t) := rfl
              have ES := Lib.hid es
              clear es
              obtain ⟨f, hfe⟩ : ∃ f, rst K (sched b 48) v t = f := ⟨_, rfl⟩
              rw [hfe] at hf ES
              clear hfe
              have g0 := hf.cell 0 (by omega)
              have g1 := hf.cell 1 (by omega)
              have g2 := hf.cell 2 (by omega)
              have g3 := hf.cell 3 (by omega)
              have g4 := hf.cell 4 (by omega)
              have g5 := hf.cell 5 (by omega)
              have g6 := hf.cell 6 (by omega)
              have g7 := hf.cell 7 (by omega)
              have l0 := hf.live 0 (by omega)
              have l1 := hf.live 1 (by omega)
              have l2 := hf.live 2 (by omega)
              have l3 := hf.live 3 (by omega)
              have l4 := hf.live 4 (by omega)
              have l5 := hf.live 5 (by omega)
              have l6 := hf.live 6 (by omega)
              have l7 := hf.live 7 (by omega)
              have kt := hk.cell t (by omega)
              have wt := hw.cell t (by omega)
              have HF := Lib.hid hf
              have HW := Lib.hid hw
              have HKK := Lib.hid hk
              have HHH := Lib.hid hh
              have HRR := Lib.hid hr
              clear hf hw hk hh hr HG HH HK HR HB2
              go_wp2_with fail
              go_quiet (fail)
              go_wp2_with fail
              go_quiet ((go_at_call 152; refine (rf_right _ _ _ (by decide)).mono ?_; rintro e w' ⟨rfl, rfl⟩; exact ⟨rfl, _, rfl⟩))
              go_wp2_with fail
              go_quiet ((go_at_call 152; refine (rf_right _ _ _ (by decide)).mono ?_; rintro e w' ⟨rfl, rfl⟩; exact ⟨rfl, _, rfl⟩))
              go_wp2_with fail
              refine ⟨?_, ?measure⟩
              (repeat apply Exists.intro)
              refine ⟨?rel, rfl⟩
              case measure => simp [intOf]; omega
              case rel =>
                refine ⟨t + 1, by omega, by go_num, set8_below (below_dn hbl _) (by omega), by simp; exact hs2, set8_far (HW.out.drewN _) (by omega), set8_far (HKK.out.drewN _) (by omega), set8_far (HHH.out.drewN _) (by omega), set8_far (HRR.out.drewN _) (by omega), ?_⟩
                rw [ES.out]
                exact set8_arr (HF.out.drewN _) (by show _ = (rT1 f (K t) (sched b 48 t) + rT2 f) % 4294967296; unfold rT1 rT2; omega) rfl rfl rfl (by show _ = (f 3 + rT1 f (K t) (sched b 48 t)) % 4294967296; unfold rT1; omega) rfl rfl rfl
            · have ht4 : t = 64 := by omega
              subst ht4
              have ec : compress K v b = fin v (rst K (sched b 48) v 64) 8 := rfl
              have EC := Lib.hid ec
              clear ec
              obtain ⟨f, hfe⟩ : ∃ f, rst K (sched b 48) v 64 = f := ⟨_, rfl⟩
              rw [hfe] at hf EC
              clear hfe
              obtain ⟨wA, hwA⟩ : ∃ wA, wA = wr := ⟨wr, rfl⟩
              subst hwA
              have HHH := Lib.hid hh
              have HRR := Lib.hid hr
              have HBB := Lib.hid hbl
              have HFF := Lib.hid hf
              clear hf hw hk hh hr hbl HG HH HK HR HB2
              go_wp2_with fail
              go_loopw [20, 156] (fun _ i wq => ∃ t : Nat, t ≤ 8 ∧ i = .int .i64 t ∧ Below w.heap.size w wq ∧ wr'.heap.size < wq.heap.size ∧ Arr wq w.heap.size 8 v ∧ Arr wq (w.heap.size + 1 + 1) 8 (fun _ => 0) ∧ Arr wq wr'.heap.size 8 (finR v f t)) (fun _ i _ => 8 - (intOf i).toNat)
              case atStart => exact ⟨0, by omega, rfl, HBB.out, hs2, HHH.out, HRR.out, HFF.out.congr fun i _ => (if_neg (by omega)).symm⟩
              case round =>
                clear HHH HRR HBB HFF
                obtain ⟨t, ht5, rfl, hbq, hsq, hh, hr, hq⟩ := hrel
                have HHH := Lib.hid hh
                have HRR := Lib.hid hr
                by_cases hl : t < 8
                · have qc := hq.cell t (by omega)
                  have ql := hq.live t (by omega)
                  have hc := hh.cell t (by omega)
                  have ef : finR v f t t = f t := if_neg (by omega)
                  rw [ef] at qc
                  have HQ := Lib.hid hq
                  clear hq ef hh hr
                  go_wp2_with fail
                  go_region
                  go_wp2
                  go_roundw
                  case measure => simp [intOf]; omega
                  case rel =>
                    refine ⟨t + 1, by omega, by go_num, ((hbq.setCell (p := ⟨wr'.heap.size, t, none⟩) (by simp; omega) _)).drew, by simp; exact hsq, (HHH.out.far (by simp <;> omega)).drew, (HRR.out.far (by simp <;> omega)).drew, (HQ.out.set (g := finR v f (t + 1)) (by omega) ?_ ?_).drew⟩
                    · unfold finR
                      rw [if_pos (by omega), Int.add_comm (v t)]
                    · intro j hj hne
                      unfold finR
                      by_cases hjt : j < t
                      · rw [if_pos hjt, if_pos (by omega)]
                      · rw [if_neg hjt, if_neg (by omega)]
                · have ht6 : t = 8 := by omega
                  subst ht6
                  have hq2 : Arr wr wr'.heap.size 8 (compress K v b) := hq.congr fun i hi => by rw [finR_8 v f i hi, EC.out]
                  obtain ⟨F, hF⟩ : ∃ F, F = compress K v b := ⟨_, rfl⟩
                  rw [← hF] at hq2
                  have g0 := hq2.cell 0 (by omega)
                  have g1 := hq2.cell 1 (by omega)
                  have g2 := hq2.cell 2 (by omega)
                  have g3 := hq2.cell 3 (by omega)
                  have g4 := hq2.cell 4 (by omega)
                  have g5 := hq2.cell 5 (by omega)
                  have g6 := hq2.cell 6 (by omega)
                  have g7 := hq2.cell 7 (by omega)
                  have r0 := hr.cell 0 (by omega)
                  have r1 := hr.cell 1 (by omega)
                  have r2 := hr.cell 2 (by omega)
                  have r3 := hr.cell 3 (by omega)
                  have r4 := hr.cell 4 (by omega)
                  have r5 := hr.cell 5 (by omega)
                  have r6 := hr.cell 6 (by omega)
                  have r7 := hr.cell 7 (by omega)
                  have l0 := hr.live 0 (by omega)
                  have l1 := hr.live 1 (by omega)
                  have l2 := hr.live 2 (by omega)
                  have l3 := hr.live 3 (by omega)
                  have l4 := hr.live 4 (by omega)
                  have l5 := hr.live 5 (by omega)
                  have l6 := hr.live 6 (by omega)
                  have l7 := hr.live 7 (by omega)
                  have HBQ := Lib.hid hbq
                  clear hq hq2 hh hr hbq
                  have HFE := Lib.hid hF
                  clear hF
                  go_wp2_with fail
                  have hF := HFE.out
                  subst hF
                  refine bodyPost_ret (v := .agg #[.int .u32 (compress K v b 0), .int .u32 (compress K v b 1), .int .u32 (compress K v b 2), .int .u32 (compress K v b 3), .int .u32 (compress K v b 4), .int .u32 (compress K v b 5), .int .u32 (compress K v b 6), .int .u32 (compress K v b 7)]) ?_ rfl ⟨rfl, set8_below HBQ.out (by omega)⟩
                  simp [results, Tryz.results127, go_sem, r0, r1, r2, r3, r4, r5, r6, r7]
end Go.Proofs.YthfmmememdlekaaGreatDoor
namespace Go.Proofs.YthfmmememdlekaaGreatDoor
open Go.RowKit Num

/-- The number of the first bytes of a string. -/
def numB (s : ByteArray) : Nat → Int
  | 0 => 0
  | k + 1 => numB s k * 256 + byteAt s k
theorem numB_bd (s : ByteArray) : ∀ k, 0 ≤ numB s k ∧ numB s k < ((256 ^ k : Nat) : Int) := by
  intro k
  induction k with
  | zero => exact ⟨by simp [numB], by simp [numB]⟩
  | succ k ih =>
    have := byteAt_bd s k
    show 0 ≤ numB s k * 256 + byteAt s k ∧ numB s k * 256 + byteAt s k < _
    have e : ((256 ^ (k + 1) : Nat) : Int) = ((256 ^ k : Nat) : Int) * 256 := by rw [Nat.pow_succ]; exact Int.natCast_mul _ _
    omega
theorem numB_le (s : ByteArray) (k : Nat) (h : k ≤ 7) : numB s k < 72057594037927936 := by
  have := (numB_bd s k).2
  have : (256 ^ k : Nat) ≤ 256 ^ 7 := Nat.pow_le_pow_right (by decide) h
  have e : (256 : Nat) ^ 7 = 72057594037927936 := by decide
  omega
theorem numB_le6 (s : ByteArray) (k : Nat) (h : k < 7) : numB s k < 281474976710656 := by
  have := (numB_bd s k).2
  have : (256 ^ k : Nat) ≤ 256 ^ 6 := Nat.pow_le_pow_right (by decide) (by omega)
  have e : (256 : Nat) ^ 6 = 281474976710656 := by decide
  omega
theorem ofInt_i64 (a : Nat) (ha : a < 9223372036854775808) : (BitVec.ofInt 64 (a : Int)).toNat = a := by
  rw [BitVec.ofInt_natCast, BitVec.toNat_ofNat]; exact Nat.mod_eq_of_lt (by omega)
theorem i64_or_nat (a b : Nat) (ha : a < 9223372036854775808) (hb : b < 9223372036854775808) : bits .or .i64 (a : Int) (b : Int) = ((a ||| b : Nat) : Int) := by
  have hx : a ||| b < 2 ^ 63 := Nat.or_lt_two_pow (by omega) (by omega)
  show IntKind.i64.wrap ((BitVec.ofInt 64 (a : Int) ||| BitVec.ofInt 64 (b : Int)).toNat : Int) = _
  rw [BitVec.toNat_or, ofInt_i64 a ha, ofInt_i64 b hb, IntKind.wrap_i64]
  omega
theorem or_byte (a b : Int) (ha : 0 ≤ a) (ha' : a < 281474976710656) (hb : 0 ≤ b) (hb' : b < 256) : bits .or .i64 (a * 256) b = a * 256 + b := by
  obtain ⟨x, rfl⟩ := Int.eq_ofNat_of_zero_le ha
  obtain ⟨y, rfl⟩ := Int.eq_ofNat_of_zero_le hb
  have e : (x : Int) * 256 = ((x * 256 : Nat) : Int) := (Int.natCast_mul x 256).symm
  rw [e, i64_or_nat _ _ (by omega) (by omega)]
  have h1 := Nat.shiftLeft_add_eq_or_of_lt (show y < 2 ^ 8 by omega) x
  rw [Nat.shiftLeft_eq] at h1
  rw [← h1]; simp
end Go.Proofs.YthfmmememdlekaaGreatDoor

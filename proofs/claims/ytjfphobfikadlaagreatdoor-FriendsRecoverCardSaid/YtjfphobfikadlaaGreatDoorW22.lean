/- Contracts: the key of a circle is recovered out of the shares that fit, or there are too few of them. Contracts: sixteen bytes as bits. -/
import Derived.Test.YtjfphobfikadlaaGreatDoorW20
import Derived.Test.YtjfphobfikadlaaGreatDoorW21
import Derived.Test.YtjfphobfikadlaaGreatDoorW15
set_option linter.unusedVariables false
set_option linter.unusedSimpArgs false
namespace Go.Proofs.YtjfphobfikadlaaGreatDoor
open Go.RowKit Num

set_option maxRecDepth 100000 in
set_option maxHeartbeats 1000000 in
theorem f_CheckE (ep : Int) (e0 : 0 ≤ ep) (e1 : ep ≤ 1099511627776) (p need hold : Nat) (vm : Value) (ss : List ByteArray) (lock : ByteArray) (S : Nat → Prop) (w : World) (hw : BasesOk w) (hp : Prm p) (h2 : p ≤ 1073741824) (n1 : 1 ≤ need) (n2 : need ≤ hold) (n3 : hold ≤ 12) (n4 : hold < p)
    (hv : StrsAt w S vm ss) (hS : ∀ b, S b → b < w.heap.size) (hl : ss.length = hold) (hx : ∀ k, k < ss.length → (ss.getD k ⟨#[]⟩).size = 32) (hk : lock.size = 32) :
    Calls Tryz.prog 56 #[circV p need hold ep vm lock] w fun e w' => e = .returned (.int .i64 0) ∧ Below w.heap.size w w' := by
  unfold circV
  obtain ⟨A, n, c, rfl, hn, hnc, hcc⟩ := id hv
  have hnh : n = hold := by omega
  subst hnh
  have kp : Blk (w.alloc (.cells #[.int .i64 (p : Int), .int .i64 (need : Int), .int .i64 (n : Int), .int .i64 ep, .slice A n c, .string lock] 40)) w.heap.size 40 #[.int .i64 (p : Int), .int .i64 (need : Int), .int .i64 (n : Int), .int .i64 ep, .slice A n c, .string lock] := Blk.new w _ _
  have hba : Below w.heap.size w (w.alloc (.cells #[.int .i64 (p : Int), .int .i64 (need : Int), .int .i64 (n : Int), .int .i64 ep, .slice A n c, .string lock] 40)) := (Below.refl _ _).alloc (Nat.le_refl _) _
  have hval := s_Valid p need n _ (hw.alloc (.cells #[.int .i64 (p : Int), .int .i64 (need : Int), .int .i64 (n : Int), .int .i64 ep, .slice A n c, .string lock] 40)) hp h2 n1 n2 (by omega) n4
  have hin := fun W => r_In ep 0 1099511627776 W
  rw [show (decide ((0 : Int) ≤ ep) && decide (ep ≤ 1099511627776)) = true by rw [decide_eq_true e0, decide_eq_true e1]; rfl] at hin
  have hct := fun (W : World) (hW : Below w.heap.size w W) => f_ContainsS _ ss S W (hv.keep fun b hb => hW.block b (hS b hb)) (by omega) hx
  have hbd := fun W => f_bad lock W hk
  have KP := Lib.hid kp
  have HBA := Lib.hid hba
  have HVAL := Lib.hid hval
  have HIN := Lib.hid hin
  have HCT := Lib.hid hct
  have HBD := Lib.hid hbd
  have tn : decide ((12 : Int) < (n : Int)) = false := decide_eq_false (by omega)
  clear kp hba hval hin hct hbd hv hcc hn hl hx hk hw
  go_enter Tryz.func56, Tryz.ntmps56
  go_wp2_with fail
  refine HVAL.out.mono ?_
  rintro e w1 ⟨rfl, hb1⟩
  have kq := KP.out.below hb1 KP.out.lt
  have hq := HBA.out.trans (hb1.mono HBA.out.size)
  have s2 : w1.cell? ⟨w.heap.size, 2, none⟩ = some (.int .i64 (n : Int)) := kq.cell 2
  have s3 : w1.cell? ⟨w.heap.size, 3, none⟩ = some (.int .i64 ep) := kq.cell 3
  have s4 : w1.cell? ⟨w.heap.size, 4, none⟩ = some (.slice A n c) := kq.cell 4
  have s5 : w1.cell? ⟨w.heap.size, 5, none⟩ = some (.string lock) := kq.cell 5
  have HB1 := Lib.hid hq
  clear kq hq hb1
  go_wp2_with fail
  refine (HIN.out _).mono ?_
  rintro e w' ⟨rfl, rfl⟩
  go_wp2_with fail
  refine (HCT.out _ HB1.out).mono ?_
  rintro e w' ⟨rfl, rfl⟩
  go_wp2_with fail
  refine (HBD.out _).mono ?_
  rintro e w' ⟨rfl, rfl⟩
  go_wp2_with fail
  go_ret
  exact ⟨rfl, HB1.out⟩
set_option maxRecDepth 100000 in
set_option maxHeartbeats 2000000 in
theorem f_RecoverG (ep : Int) (e0 : 0 ≤ ep) (e1 : ep ≤ 1099511627776) (fb : Nat → Bool) (m : Nat) (sec : List Int) (p need hold : Nat) (vm v : Value) (L : List Sh) (ss : List ByteArray) (key : ByteArray) (S T : Nat → Prop) (w : World) (hw : BasesOk w) (hp : Prm p) (h2 : p ≤ 1073741824) (n1 : 1 ≤ need) (n2 : need ≤ hold) (n3 : hold ≤ 12) (n4 : hold < p) (hm2 : m ≤ 2048)
    (hv : ShAt w S v L) (hS : ∀ b, S b → b < w.heap.size) (hl : L.length ≤ 16) (h0 : 0 < L.length)
    (hm : StrsAt w T vm ss) (hT : ∀ b, T b → b < w.heap.size) (hml : ss.length = hold) (hx : ∀ k, k < ss.length → (ss.getD k ⟨#[]⟩).size = 32) (hf : FitG ss L fb) (ho : GoodSh p hold m (keepL fb L L.length)) (hk : key.size = 16)
    (hup : ∀ (W : World) (u : Value) (U : Nat → Prop), BasesOk W → IntsAt W U u sec → (∀ b, U b → b < W.heap.size) → Calls Tryz.prog 73 #[.int .i64 (p : Int), u, .int .i64 16] W fun e w' => e = .returned (.tuple #[.string key, .int .i64 0]) ∧ Below W.heap.size W w')
    (hc : need ≤ (keepL fb L L.length).length → combL p need (keepL fb L L.length) m = sec) :
    Calls Tryz.prog 27 #[circV p need hold ep vm (shaOf key), v] w (RecPost need (keepL fb L L.length) key w) := by
  have hft0 := fun (W : World) vm v S T (hv : ShAt W S v L) hS (hm : StrsAt W T vm ss) hT => f_fittingG fb p need hold ep vm v L ss (shaOf key) S T W hv hS (by omega) h0 hm hT (by omega) hf ho.once
  have hFl : (keepL fb L L.length).length ≤ L.length := keepL_len fb L _
  obtain ⟨F, hF⟩ : ∃ F, keepL fb L L.length = F := ⟨_, rfl⟩
  rw [hF] at hft0 ho hc hFl ⊢
  clear hF
  unfold RecPost circV
  obtain ⟨R, hR⟩ : ∃ R : ByteArray, (if F.length < need then ⟨#[]⟩ else key) = R := ⟨_, rfl⟩
  obtain ⟨E, hE⟩ : ∃ E : Int, (if F.length < need then 5 else 0) = E := ⟨_, rfl⟩
  rw [hR, hE]
  have HR := Lib.hid hR
  have HE := Lib.hid hE
  clear hR hE
  obtain ⟨A, n, c, rfl, hn, -⟩ := id hv
  obtain ⟨Am, nm, cm, rfl, -⟩ := id hm
  have kp : Blk (w.alloc (.cells #[.int .i64 (p : Int), .int .i64 (need : Int), .int .i64 (hold : Int), .int .i64 ep, .slice Am nm cm, .string (shaOf key)] 40)) w.heap.size 40 #[.int .i64 (p : Int), .int .i64 (need : Int), .int .i64 (hold : Int), .int .i64 ep, .slice Am nm cm, .string (shaOf key)] := Blk.new w _ _
  have hba := (Below.refl w.heap.size w).alloc (Nat.le_refl _) (.cells #[.int .i64 (p : Int), .int .i64 (need : Int), .int .i64 (hold : Int), .int .i64 ep, .slice Am nm cm, .string (shaOf key)] 40)
  unfold circV at hft0
  have hck := fun (W : World) (hW : Below w.heap.size w W) => f_CheckE ep e0 e1 p need hold (.slice Am nm cm) ss (shaOf key) T W (hw.below hW) hp h2 n1 n2 n3 n4 (hm.keep fun b hb => hW.block b (hT b hb)) (fun b hb => Nat.lt_of_lt_of_le (hT b hb) hW.size) hml hx (shaOf_size key)
  have hft := fun (W : World) (hW : Below w.heap.size w W) => hft0 W (.slice Am nm cm) (.slice A n c) S T (hv.keep fun b hb => hW.block b (hS b hb)) (fun b hb => Nat.lt_of_lt_of_le (hS b hb) hW.size)
    (hm.keep fun b hb => hW.block b (hT b hb)) (fun b hb => Nat.lt_of_lt_of_le (hT b hb) hW.size)
  have hcb := fun (W : World) (hW : Below w.heap.size w W) (u : Value) (U : Nat → Prop) (hu : ShAt W U u F) (hU : ∀ b, U b → b < W.heap.size) (hnl : need ≤ F.length) => s_Combine p need hold m u F U W (hw.below hW) hp h2 n1 n2 (by omega) n4 hu hU hnl (by omega) hm2 ho
  have hup := fun (W : World) (hW : Below w.heap.size w W) (u : Value) (U : Nat → Prop) (hu : IntsAt W U u sec) (hU : ∀ b, U b → b < W.heap.size) => hup W u U (hw.below hW) hu hU
  have hlk := fun (W : World) => f_Lock key W (by omega)
  unfold circV at hck
  unfold planV at hcb
  have KP := Lib.hid kp
  have HBA := Lib.hid hba
  have HCK := Lib.hid hck
  have HFT := Lib.hid hft
  have HCB := Lib.hid hcb
  have HUP := Lib.hid hup
  have HLK := Lib.hid hlk
  have HC := Lib.hid hc
  have hl16 : F.length ≤ 16 := by omega
  clear kp hba hck hft hft0 hcb hup hlk hc hn hv hm hml hx hf ho hw h0 hl hk hFl
  go_enter Tryz.func27, Tryz.ntmps27
  go_wp2_with fail
  refine (HCK.out _ HBA.out).mono ?_
  rintro e w1 ⟨rfl, hb1⟩
  have k1 := KP.out.below hb1 KP.out.lt
  have hq1 := HBA.out.trans (hb1.mono HBA.out.size)
  have s0 : w1.cell? ⟨w.heap.size, 0, none⟩ = some (.int .i64 (p : Int)) := k1.cell 0
  have s1 : w1.cell? ⟨w.heap.size, 1, none⟩ = some (.int .i64 (need : Int)) := k1.cell 1
  have s2 : w1.cell? ⟨w.heap.size, 2, none⟩ = some (.int .i64 (hold : Int)) := k1.cell 2
  have s3 : w1.cell? ⟨w.heap.size, 3, none⟩ = some (.int .i64 ep) := k1.cell 3
  have s4 : w1.cell? ⟨w.heap.size, 4, none⟩ = some (.slice Am nm cm) := k1.cell 4
  have s5 : w1.cell? ⟨w.heap.size, 5, none⟩ = some (.string (shaOf key)) := k1.cell 5
  have K1 := Lib.hid k1
  have HB1 := Lib.hid hq1
  clear k1 hq1 hb1
  go_wp2_with fail
  refine (HFT.out _ HB1.out).mono ?_
  rintro e w2 ⟨v2, rfl, hv2, hb2⟩
  have k2 := K1.out.below hb2 K1.out.lt
  have hq2 := HB1.out.trans (hb2.mono HB1.out.size)
  have t0 : w2.cell? ⟨w.heap.size, 0, none⟩ = some (.int .i64 (p : Int)) := k2.cell 0
  have t1 : w2.cell? ⟨w.heap.size, 1, none⟩ = some (.int .i64 (need : Int)) := k2.cell 1
  have t2 : w2.cell? ⟨w.heap.size, 2, none⟩ = some (.int .i64 (hold : Int)) := k2.cell 2
  have hsh := hv2.at_
  obtain ⟨A2, n2', c2, rfl, hn2', -⟩ := id hsh
  have HN := Lib.hid hn2'
  have hl17 : n2' ≤ 16 := by omega
  have HSH := Lib.hid hsh
  have K2 := Lib.hid k2
  have HB2 := Lib.hid hq2
  clear k2 hq2 hb2 hv2 hsh s0 s1 s2 s3 s4 s5 hn2' hl16
  by_cases hfew : n2' < need
  · have d1 : decide ((n2' : Int) < (need : Int)) = true := decide_eq_true (by omega)
    have d2 : decide (n2' < need) = true := decide_eq_true hfew
    have e1 : F.length < need := by rw [← HN.out]; exact hfew
    have r1 : R = ⟨#[]⟩ := by rw [← HR.out, if_pos e1]
    have r2 : E = 5 := by rw [← HE.out, if_pos e1]
    have R1 := Lib.hid r1
    have R2 := Lib.hid r2
    clear e1 hfew r1 r2
    go_wp2_with fail
    go_ret2
    exact ⟨by rw [R1.out, R2.out]; rfl, HB2.out⟩
  · have d1 : decide ((n2' : Int) < (need : Int)) = false := decide_eq_false (by omega)
    have d2 : decide (n2' < need) = false := decide_eq_false hfew
    have e1 : ¬ F.length < need := by rw [← HN.out]; exact hfew
    have hnl : need ≤ F.length := by omega
    have r1 : R = key := by rw [← HR.out, if_neg e1]
    have r2 : E = 0 := by rw [← HE.out, if_neg e1]
    have R1 := Lib.hid r1
    have R2 := Lib.hid r2
    clear r1 r2
    have hcb2 := HCB.out w2 HB2.out _ _ HSH.out (fun b hb => hb.2) hnl
    rw [HC.out hnl] at hcb2
    have HCB2 := Lib.hid hcb2
    clear e1 hfew hnl hcb2
    go_wp2_with fail
    refine HCB2.out.mono ?_
    rintro e w3 ⟨v3, rfl, hv3, hb3⟩
    have k3 := K2.out.below hb3 K2.out.lt
    have hq3 := HB2.out.trans (hb3.mono HB2.out.size)
    have s0 : w3.cell? ⟨w.heap.size, 0, none⟩ = some (.int .i64 (p : Int)) := k3.cell 0
    have hup := HUP.out w3 hq3 v3 _ hv3 (fun b hb => hb.2)
    have HUP3 := Lib.hid hup
    have K3 := Lib.hid k3
    have HB3 := Lib.hid hq3
    clear k3 hq3 hb3 hv3 hup t0 t1 t2
    go_wp2_with fail
    refine HUP3.out.mono ?_
    rintro e w4 ⟨rfl, hb4⟩
    have k4 := K3.out.below hb4 K3.out.lt
    have hq4 := HB3.out.trans (hb4.mono HB3.out.size)
    have t5 : w4.cell? ⟨w.heap.size, 5, none⟩ = some (.string (shaOf key)) := k4.cell 5
    clear s0 hb4 k4
    go_wp2_with fail
    go_region_held3 (fun W => W.cell? ⟨w.heap.size, 5, none⟩ = some (.string (shaOf key)) ∧ Below w.heap.size w W)
      (first
        | exact ⟨t5, hq4.drew⟩
        | (go_split_ands
           refine ⟨?_, ?_⟩
           · (rw [hbk.cell (World.block_lt_of_cell? _ _ ‹_›)]; assumption)
           · exact Below.trans ‹Below w.heap.size w _› (hbk.mono (‹Below w.heap.size w _›).size)))
      (first
        | (go_at_call 14; ((with_reducible refine (HLK.out _).mono ?_); rintro e wk ⟨rfl, hbk⟩)))
    all_goals
      go_split_ands
      have hbf : Below w.heap.size w wk := by assumption
      go_wp2_with fail
      go_ret2
      exact ⟨by rw [R1.out, R2.out]; rfl, hbf⟩
end Go.Proofs.YtjfphobfikadlaaGreatDoor
namespace Go.Proofs.YtjfphobfikadlaaGreatDoor
open Go.RowKit Num

/-- The bits of bytes, the greatest first. -/
def bitsL (l : List UInt8) : List Int := (List.range (8 * l.length)).map fun i => (((l.getD (i / 8) 0).toNat / 2 ^ (7 - i % 8) % 2 : Nat) : Int)
theorem bitsL_len (l : List UInt8) : (bitsL l).length = 8 * l.length := by simp [bitsL]
theorem bit_get (l : List UInt8) (k j : Nat) (hk : k < l.length) (hj : j < 8) : (bitsL l).getD (8 * k + j) 0 = (((l[k]).toNat / 2 ^ (7 - j) % 2 : Nat) : Int) := by
  unfold bitsL
  rw [List.getD_eq_getElem?_getD, List.getElem?_map, List.getElem?_range (by omega)]
  simp only [Option.map_some, Option.getD_some]
  rw [show (8 * k + j) / 8 = k by omega, show (8 * k + j) % 8 = j by omega, List.getD_eq_getElem?_getD, List.getElem?_eq_getElem hk]; rfl
theorem take_more (l : List Int) (k : Nat) (h : k < l.length) : l.take (k + 1) = l.take k ++ [l.getD k 0] := by
  rw [List.take_succ_eq_append_getElem h, List.getD_eq_getElem?_getD, List.getElem?_eq_getElem h]; rfl
set_option maxRecDepth 100000 in
theorem and_1B : ∀ a : Fin 256, bits .and .u8 ((a.val : Nat) : Int) 1 = ((a.val % 2 : Nat) : Int) := by decide
theorem and_one (x : Nat) (h : x < 256) : bits .and .u8 ((x : Nat) : Int) 1 = ((x % 2 : Nat) : Int) := and_1B ⟨x, h⟩
theorem wid0 {p : Nat} (h : p < 256) : widP p = 0 := by unfold widP; rw [if_pos h]
theorem cnt0 {p : Nat} (h : p < 256) : cntP p = 128 := by unfold cntP; rw [wid0 h]; rfl
set_option maxRecDepth 100000 in
set_option maxHeartbeats 4000000 in
theorem p_Pack0 (p : Nat) (s : ByteArray) (w : World) (hw : BasesOk w) (hp : Prm p) (h2 : p < 256) (hs : s.size = 16) :
    Calls Tryz.prog 67 #[.int .i64 (p : Int), .string s] w (IntsPost2 (bitsL s.data.toList) w) := by
  obtain ⟨i0, hi, hz0, hz1, hz2⟩ := info_parts infoI
  have hv := f_Valid p w hw hp (by omega)
  have hwid := fun W => p_Width p W (by omega)
  rw [wid0 h2] at hwid
  have hcnt := fun W => p_Count p W (by omega)
  rw [cnt0 h2] at hcnt
  have hll : s.data.toList.length = 16 := by simpa using hs
  have hcp := fun W => conv_part W s s.data.toList 16 rfl hll
  have HV := Lib.hid hv
  have HWID := Lib.hid hwid
  have HCNT := Lib.hid hcnt
  have HLL := Lib.hid hll
  have HCP := Lib.hid hcp
  clear hv hwid hcnt hw hll hcp
  go_enter Tryz.func67, Tryz.ntmps67
  go_wp2_with fail
  refine HV.out.mono ?_
  rintro e w' ⟨rfl, rfl⟩
  go_wp2_with fail
  refine (HCNT.out _).mono ?_
  rintro e w1 ⟨rfl, hb1⟩
  have HB1 := Lib.hid hb1
  clear hb1
  go_wp2_with fail
  refine (HWID.out _).mono ?_
  rintro e w' ⟨rfl, rfl⟩
  obtain ⟨cap, w2, hcv, hcap, hb2, hcell⟩ := HCP.out w1
  have HCL := Lib.hid hcell
  have HB2 := Lib.hid (HB1.out.trans (hb2.mono HB1.out.size))
  have hz1w := HB1.out.size
  have hz2w := hb2.size
  clear hcell hb2 hs
  go_wp2_with fail
  go_loopw [31, 6] (fun t o wr => ∃ k : Nat, k ≤ 16 ∧ t = .int .i64 (k : Int) ∧ wr.ownsRow w2.heap.size 3 1 o (8 * k) (((bitsL s.data.toList).take (8 * k)).map (Value.int .i64)) ∧ Below w2.heap.size w2 wr) (fun t _ _ => 16 - (intOf t).toNat)
  case atStart => exact ⟨0, by omega, rfl, World.ownsRow_nil _ _ _ _, Below.refl _ _⟩
  case round =>
    obtain ⟨k, hk, rfl, hown, hbl⟩ := hrel
    have hzz := hbl.size
    by_cases hlt : k < 16
    · have hkl : k < s.data.toList.length := by rw [HLL.out]; exact hlt
      have hcx0 := HCL.out k _ (List.getElem?_eq_getElem hkl)
      have hcx1 := (hbl.cell (p := ⟨w1.heap.size, k, none⟩) (World.block_lt_of_cell? _ _ hcx0)).trans hcx0
      have hc8 := (s.data.toList[k]).toNat_lt
      obtain ⟨c, hcx⟩ : ∃ c, (s.data.toList[k]).toNat = c := ⟨_, rfl⟩
      rw [hcx] at hcx1 hc8
      have qk : (k : Int) < 16 := by omega
      have HOWN := Lib.hid hown
      have HBL := Lib.hid hbl
      have HCX := Lib.hid hcx
      clear hown hbl hcx0 hcx
      obtain ⟨wo, hwo⟩ : ∃ wo : World, wo = wr := ⟨_, rfl⟩
      subst hwo
      go_wp2_with fail
      go_loopw [10, 6] (fun t o wr => ∃ j : Nat, j ≤ 8 ∧ t = .int .i64 (7 - (j : Int)) ∧ wr.ownsRow w2.heap.size 3 1 o (8 * k + j) (((bitsL s.data.toList).take (8 * k + j)).map (Value.int .i64)) ∧ Below w2.heap.size w2 wr) (fun t _ _ => (intOf t + 1).toNat)
      case atStart => exact ⟨0, by omega, rfl, HOWN.out, HBL.out⟩
      case round =>
        obtain ⟨j, hj, rfl, hownj, hblj⟩ := hrel
        have hzj := hblj.size
        have hcx := HCX.out
        have HOJ := Lib.hid hownj
        have HBJ := Lib.hid hblj
        clear hblj hownj
        rcases (show j = 0 ∨ j = 1 ∨ j = 2 ∨ j = 3 ∨ j = 4 ∨ j = 5 ∨ j = 6 ∨ j = 7 ∨ j = 8 by omega) with rfl | rfl | rfl | rfl | rfl | rfl | rfl | rfl | rfl
        · have hbit := bit_get s.data.toList k 0 hkl (by decide)
          rw [hcx] at hbit
          clear hcx
          have hst := take_more (bitsL s.data.toList) (8 * k + 0) (by rw [bitsL_len, HLL.out]; omega)
          rw [hbit] at hst
          have hand : bits .and .u8 (((c / 128 : Nat)) : Int) 1 = ((c / 128 % 2 : Nat) : Int) := and_one _ (by omega)
          have hdiv : (c : Int) / 128 = ((c / 128 : Nat) : Int) := by omega
          obtain ⟨y, hy⟩ : ∃ y, c / 128 % 2 = y := ⟨_, rfl⟩
          rw [show c / 2 ^ (7 - 0) % 2 = y from hy] at hst
          rw [hy] at hand
          rw [← hdiv] at hand
          have HST := Lib.hid hst
          have hy2 : y < 2 := by omega
          clear hst hbit hy hdiv
          go_wp2_with (at_builtin; refine wpList_append_own _ rfl _ _ 24 rfl w2.heap.size 3 i0 (.int .i64 0) 1 8 Tryz.underlying24 hi hz0 hz1 hz2 rfl (by decide) _ _ _ rfl (HOJ.out.alloc _) ⟨wr.heap.size, 0, none⟩ 1 1 [.int .i64 (y : Int)] rfl rfl (fun j u hj => by have := cell_one_new wr (.int .i64 (y : Int)) 3 j u hj; simpa using this) (ints_oneCell .i64 [_]) (by unfold maxLen; omega) (by omega) (by simp; omega) ?_)
          intro v' w5 hown' hgrow _
          have hg := grown_past hgrow
          have hown2 : w5.ownsRow w2.heap.size 3 1 v' (8 * k + 1) (((bitsL s.data.toList).take (8 * k + 1)).map (Value.int .i64)) := by
            rw [show 8 * k + 1 = 8 * k + 0 + 1 from rfl, HST.out, List.map_append]; simpa using hown'
          have hul : ∀ g, (u6 : Value).ownBlock = some g → w2.heap.size ≤ g := fun g hg => (HOJ.out.lt g hg).1
          have HO5 := Lib.hid hown2
          have HB5 := Lib.hid (HBJ.out.grown hg hzj hul)
          clear hown' hgrow hg hown2 hul
          go_wp2_with fail
          go_roundw
          case measure => simp [intOf]
          case rel => exact ⟨1, by omega, rfl, HO5.out, HB5.out⟩
        · have hbit := bit_get s.data.toList k 1 hkl (by decide)
          rw [hcx] at hbit
          clear hcx
          have hst := take_more (bitsL s.data.toList) (8 * k + 1) (by rw [bitsL_len, HLL.out]; omega)
          rw [hbit] at hst
          have hand : bits .and .u8 (((c / 64 : Nat)) : Int) 1 = ((c / 64 % 2 : Nat) : Int) := and_one _ (by omega)
          have hdiv : (c : Int) / 64 = ((c / 64 : Nat) : Int) := by omega
          obtain ⟨y, hy⟩ : ∃ y, c / 64 % 2 = y := ⟨_, rfl⟩
          rw [show c / 2 ^ (7 - 1) % 2 = y from hy] at hst
          rw [hy] at hand
          rw [← hdiv] at hand
          have HST := Lib.hid hst
          have hy2 : y < 2 := by omega
          clear hst hbit hy hdiv
          go_wp2_with (at_builtin; refine wpList_append_own _ rfl _ _ 24 rfl w2.heap.size 3 i0 (.int .i64 0) 1 8 Tryz.underlying24 hi hz0 hz1 hz2 rfl (by decide) _ _ _ rfl (HOJ.out.alloc _) ⟨wr.heap.size, 0, none⟩ 1 1 [.int .i64 (y : Int)] rfl rfl (fun j u hj => by have := cell_one_new wr (.int .i64 (y : Int)) 3 j u hj; simpa using this) (ints_oneCell .i64 [_]) (by unfold maxLen; omega) (by omega) (by simp; omega) ?_)
          intro v' w5 hown' hgrow _
          have hg := grown_past hgrow
          have hown2 : w5.ownsRow w2.heap.size 3 1 v' (8 * k + 2) (((bitsL s.data.toList).take (8 * k + 2)).map (Value.int .i64)) := by
            rw [show 8 * k + 2 = 8 * k + 1 + 1 from rfl, HST.out, List.map_append]; simpa using hown'
          have hul : ∀ g, (u6 : Value).ownBlock = some g → w2.heap.size ≤ g := fun g hg => (HOJ.out.lt g hg).1
          have HO5 := Lib.hid hown2
          have HB5 := Lib.hid (HBJ.out.grown hg hzj hul)
          clear hown' hgrow hg hown2 hul
          go_wp2_with fail
          go_roundw
          case measure => simp [intOf]
          case rel => exact ⟨2, by omega, rfl, HO5.out, HB5.out⟩
        · have hbit := bit_get s.data.toList k 2 hkl (by decide)
          rw [hcx] at hbit
          clear hcx
          have hst := take_more (bitsL s.data.toList) (8 * k + 2) (by rw [bitsL_len, HLL.out]; omega)
          rw [hbit] at hst
          have hand : bits .and .u8 (((c / 32 : Nat)) : Int) 1 = ((c / 32 % 2 : Nat) : Int) := and_one _ (by omega)
          have hdiv : (c : Int) / 32 = ((c / 32 : Nat) : Int) := by omega
          obtain ⟨y, hy⟩ : ∃ y, c / 32 % 2 = y := ⟨_, rfl⟩
          rw [show c / 2 ^ (7 - 2) % 2 = y from hy] at hst
          rw [hy] at hand
          rw [← hdiv] at hand
          have HST := Lib.hid hst
          have hy2 : y < 2 := by omega
          clear hst hbit hy hdiv
          go_wp2_with (at_builtin; refine wpList_append_own _ rfl _ _ 24 rfl w2.heap.size 3 i0 (.int .i64 0) 1 8 Tryz.underlying24 hi hz0 hz1 hz2 rfl (by decide) _ _ _ rfl (HOJ.out.alloc _) ⟨wr.heap.size, 0, none⟩ 1 1 [.int .i64 (y : Int)] rfl rfl (fun j u hj => by have := cell_one_new wr (.int .i64 (y : Int)) 3 j u hj; simpa using this) (ints_oneCell .i64 [_]) (by unfold maxLen; omega) (by omega) (by simp; omega) ?_)
          intro v' w5 hown' hgrow _
          have hg := grown_past hgrow
          have hown2 : w5.ownsRow w2.heap.size 3 1 v' (8 * k + 3) (((bitsL s.data.toList).take (8 * k + 3)).map (Value.int .i64)) := by
            rw [show 8 * k + 3 = 8 * k + 2 + 1 from rfl, HST.out, List.map_append]; simpa using hown'
          have hul : ∀ g, (u6 : Value).ownBlock = some g → w2.heap.size ≤ g := fun g hg => (HOJ.out.lt g hg).1
          have HO5 := Lib.hid hown2
          have HB5 := Lib.hid (HBJ.out.grown hg hzj hul)
          clear hown' hgrow hg hown2 hul
          go_wp2_with fail
          go_roundw
          case measure => simp [intOf]
          case rel => exact ⟨3, by omega, rfl, HO5.out, HB5.out⟩
        · have hbit := bit_get s.data.toList k 3 hkl (by decide)
          rw [hcx] at hbit
          clear hcx
          have hst := take_more (bitsL s.data.toList) (8 * k + 3) (by rw [bitsL_len, HLL.out]; omega)
          rw [hbit] at hst
          have hand : bits .and .u8 (((c / 16 : Nat)) : Int) 1 = ((c / 16 % 2 : Nat) : Int) := and_one _ (by omega)
          have hdiv : (c : Int) / 16 = ((c / 16 : Nat) : Int) := by omega
          obtain ⟨y, hy⟩ : ∃ y, c / 16 % 2 = y := ⟨_, rfl⟩
          rw [show c / 2 ^ (7 - 3) % 2 = y from hy] at hst
          rw [hy] at hand
          rw [← hdiv] at hand
          have HST := Lib.hid hst
          have hy2 : y < 2 := by omega
          clear hst hbit hy hdiv
          go_wp2_with (at_builtin; refine wpList_append_own _ rfl _ _ 24 rfl w2.heap.size 3 i0 (.int .i64 0) 1 8 Tryz.underlying24 hi hz0 hz1 hz2 rfl (by decide) _ _ _ rfl (HOJ.out.alloc _) ⟨wr.heap.size, 0, none⟩ 1 1 [.int .i64 (y : Int)] rfl rfl (fun j u hj => by have := cell_one_new wr (.int .i64 (y : Int)) 3 j u hj; simpa using this) (ints_oneCell .i64 [_]) (by unfold maxLen; omega) (by omega) (by simp; omega) ?_)
          intro v' w5 hown' hgrow _
          have hg := grown_past hgrow
          have hown2 : w5.ownsRow w2.heap.size 3 1 v' (8 * k + 4) (((bitsL s.data.toList).take (8 * k + 4)).map (Value.int .i64)) := by
            rw [show 8 * k + 4 = 8 * k + 3 + 1 from rfl, HST.out, List.map_append]; simpa using hown'
          have hul : ∀ g, (u6 : Value).ownBlock = some g → w2.heap.size ≤ g := fun g hg => (HOJ.out.lt g hg).1
          have HO5 := Lib.hid hown2
          have HB5 := Lib.hid (HBJ.out.grown hg hzj hul)
          clear hown' hgrow hg hown2 hul
          go_wp2_with fail
          go_roundw
          case measure => simp [intOf]
          case rel => exact ⟨4, by omega, rfl, HO5.out, HB5.out⟩
        · have hbit := bit_get s.data.toList k 4 hkl (by decide)
          rw [hcx] at hbit
          clear hcx
          have hst := take_more (bitsL s.data.toList) (8 * k + 4) (by rw [bitsL_len, HLL.out]; omega)
          rw [hbit] at hst
          have hand : bits .and .u8 (((c / 8 : Nat)) : Int) 1 = ((c / 8 % 2 : Nat) : Int) := and_one _ (by omega)
          have hdiv : (c : Int) / 8 = ((c / 8 : Nat) : Int) := by omega
          obtain ⟨y, hy⟩ : ∃ y, c / 8 % 2 = y := ⟨_, rfl⟩
          rw [show c / 2 ^ (7 - 4) % 2 = y from hy] at hst
          rw [hy] at hand
          rw [← hdiv] at hand
          have HST := Lib.hid hst
          have hy2 : y < 2 := by omega
          clear hst hbit hy hdiv
          go_wp2_with (at_builtin; refine wpList_append_own _ rfl _ _ 24 rfl w2.heap.size 3 i0 (.int .i64 0) 1 8 Tryz.underlying24 hi hz0 hz1 hz2 rfl (by decide) _ _ _ rfl (HOJ.out.alloc _) ⟨wr.heap.size, 0, none⟩ 1 1 [.int .i64 (y : Int)] rfl rfl (fun j u hj => by have := cell_one_new wr (.int .i64 (y : Int)) 3 j u hj; simpa using this) (ints_oneCell .i64 [_]) (by unfold maxLen; omega) (by omega) (by simp; omega) ?_)
          intro v' w5 hown' hgrow _
          have hg := grown_past hgrow
          have hown2 : w5.ownsRow w2.heap.size 3 1 v' (8 * k + 5) (((bitsL s.data.toList).take (8 * k + 5)).map (Value.int .i64)) := by
            rw [show 8 * k + 5 = 8 * k + 4 + 1 from rfl, HST.out, List.map_append]; simpa using hown'
          have hul : ∀ g, (u6 : Value).ownBlock = some g → w2.heap.size ≤ g := fun g hg => (HOJ.out.lt g hg).1
          have HO5 := Lib.hid hown2
          have HB5 := Lib.hid (HBJ.out.grown hg hzj hul)
          clear hown' hgrow hg hown2 hul
          go_wp2_with fail
          go_roundw
          case measure => simp [intOf]
          case rel => exact ⟨5, by omega, rfl, HO5.out, HB5.out⟩
        · have hbit := bit_get s.data.toList k 5 hkl (by decide)
          rw [hcx] at hbit
          clear hcx
          have hst := take_more (bitsL s.data.toList) (8 * k + 5) (by rw [bitsL_len, HLL.out]; omega)
          rw [hbit] at hst
          have hand : bits .and .u8 (((c / 4 : Nat)) : Int) 1 = ((c / 4 % 2 : Nat) : Int) := and_one _ (by omega)
          have hdiv : (c : Int) / 4 = ((c / 4 : Nat) : Int) := by omega
          obtain ⟨y, hy⟩ : ∃ y, c / 4 % 2 = y := ⟨_, rfl⟩
          rw [show c / 2 ^ (7 - 5) % 2 = y from hy] at hst
          rw [hy] at hand
          rw [← hdiv] at hand
          have HST := Lib.hid hst
          have hy2 : y < 2 := by omega
          clear hst hbit hy hdiv
          go_wp2_with (at_builtin; refine wpList_append_own _ rfl _ _ 24 rfl w2.heap.size 3 i0 (.int .i64 0) 1 8 Tryz.underlying24 hi hz0 hz1 hz2 rfl (by decide) _ _ _ rfl (HOJ.out.alloc _) ⟨wr.heap.size, 0, none⟩ 1 1 [.int .i64 (y : Int)] rfl rfl (fun j u hj => by have := cell_one_new wr (.int .i64 (y : Int)) 3 j u hj; simpa using this) (ints_oneCell .i64 [_]) (by unfold maxLen; omega) (by omega) (by simp; omega) ?_)
          intro v' w5 hown' hgrow _
          have hg := grown_past hgrow
          have hown2 : w5.ownsRow w2.heap.size 3 1 v' (8 * k + 6) (((bitsL s.data.toList).take (8 * k + 6)).map (Value.int .i64)) := by
            rw [show 8 * k + 6 = 8 * k + 5 + 1 from rfl, HST.out, List.map_append]; simpa using hown'
          have hul : ∀ g, (u6 : Value).ownBlock = some g → w2.heap.size ≤ g := fun g hg => (HOJ.out.lt g hg).1
          have HO5 := Lib.hid hown2
          have HB5 := Lib.hid (HBJ.out.grown hg hzj hul)
          clear hown' hgrow hg hown2 hul
          go_wp2_with fail
          go_roundw
          case measure => simp [intOf]
          case rel => exact ⟨6, by omega, rfl, HO5.out, HB5.out⟩
        · have hbit := bit_get s.data.toList k 6 hkl (by decide)
          rw [hcx] at hbit
          clear hcx
          have hst := take_more (bitsL s.data.toList) (8 * k + 6) (by rw [bitsL_len, HLL.out]; omega)
          rw [hbit] at hst
          have hand : bits .and .u8 (((c / 2 : Nat)) : Int) 1 = ((c / 2 % 2 : Nat) : Int) := and_one _ (by omega)
          have hdiv : (c : Int) / 2 = ((c / 2 : Nat) : Int) := by omega
          obtain ⟨y, hy⟩ : ∃ y, c / 2 % 2 = y := ⟨_, rfl⟩
          rw [show c / 2 ^ (7 - 6) % 2 = y from hy] at hst
          rw [hy] at hand
          rw [← hdiv] at hand
          have HST := Lib.hid hst
          have hy2 : y < 2 := by omega
          clear hst hbit hy hdiv
          go_wp2_with (at_builtin; refine wpList_append_own _ rfl _ _ 24 rfl w2.heap.size 3 i0 (.int .i64 0) 1 8 Tryz.underlying24 hi hz0 hz1 hz2 rfl (by decide) _ _ _ rfl (HOJ.out.alloc _) ⟨wr.heap.size, 0, none⟩ 1 1 [.int .i64 (y : Int)] rfl rfl (fun j u hj => by have := cell_one_new wr (.int .i64 (y : Int)) 3 j u hj; simpa using this) (ints_oneCell .i64 [_]) (by unfold maxLen; omega) (by omega) (by simp; omega) ?_)
          intro v' w5 hown' hgrow _
          have hg := grown_past hgrow
          have hown2 : w5.ownsRow w2.heap.size 3 1 v' (8 * k + 7) (((bitsL s.data.toList).take (8 * k + 7)).map (Value.int .i64)) := by
            rw [show 8 * k + 7 = 8 * k + 6 + 1 from rfl, HST.out, List.map_append]; simpa using hown'
          have hul : ∀ g, (u6 : Value).ownBlock = some g → w2.heap.size ≤ g := fun g hg => (HOJ.out.lt g hg).1
          have HO5 := Lib.hid hown2
          have HB5 := Lib.hid (HBJ.out.grown hg hzj hul)
          clear hown' hgrow hg hown2 hul
          go_wp2_with fail
          go_roundw
          case measure => simp [intOf]
          case rel => exact ⟨7, by omega, rfl, HO5.out, HB5.out⟩
        · have hbit := bit_get s.data.toList k 7 hkl (by decide)
          rw [hcx] at hbit
          clear hcx
          have hst := take_more (bitsL s.data.toList) (8 * k + 7) (by rw [bitsL_len, HLL.out]; omega)
          rw [hbit] at hst
          have hand : bits .and .u8 ((c : Nat) : Int) 1 = ((c / 1 % 2 : Nat) : Int) := by rw [Nat.div_one]; exact and_one _ (by omega)
          have hdiv : (c : Int) / 1 = ((c / 1 : Nat) : Int) := by omega
          obtain ⟨y, hy⟩ : ∃ y, c / 1 % 2 = y := ⟨_, rfl⟩
          rw [show c / 2 ^ (7 - 7) % 2 = y from hy] at hst
          rw [hy] at hand
          skip
          have HST := Lib.hid hst
          have hy2 : y < 2 := by omega
          clear hst hbit hy hdiv
          go_wp2_with (at_builtin; refine wpList_append_own _ rfl _ _ 24 rfl w2.heap.size 3 i0 (.int .i64 0) 1 8 Tryz.underlying24 hi hz0 hz1 hz2 rfl (by decide) _ _ _ rfl (HOJ.out.alloc _) ⟨wr.heap.size, 0, none⟩ 1 1 [.int .i64 (y : Int)] rfl rfl (fun j u hj => by have := cell_one_new wr (.int .i64 (y : Int)) 3 j u hj; simpa using this) (ints_oneCell .i64 [_]) (by unfold maxLen; omega) (by omega) (by simp; omega) ?_)
          intro v' w5 hown' hgrow _
          have hg := grown_past hgrow
          have hown2 : w5.ownsRow w2.heap.size 3 1 v' (8 * k + 8) (((bitsL s.data.toList).take (8 * k + 8)).map (Value.int .i64)) := by
            rw [show 8 * k + 8 = 8 * k + 7 + 1 from rfl, HST.out, List.map_append]; simpa using hown'
          have hul : ∀ g, (u6 : Value).ownBlock = some g → w2.heap.size ≤ g := fun g hg => (HOJ.out.lt g hg).1
          have HO5 := Lib.hid hown2
          have HB5 := Lib.hid (HBJ.out.grown hg hzj hul)
          clear hown' hgrow hg hown2 hul
          go_wp2_with fail
          go_roundw
          case measure => simp [intOf]
          case rel => exact ⟨8, by omega, rfl, HO5.out, HB5.out⟩
        · clear hcx
          go_wp2_with fail
          go_roundw
          case measure => simp [intOf]; omega
          case rel => exact ⟨k + 1, by omega, by go_num, HOJ.out, HBJ.out⟩
    · have hk6 : k = 16 := by omega
      subst hk6
      have HOWN := Lib.hid hown
      have HBL := Lib.hid hbl
      clear hown hbl
      go_wp2_with fail
      go_ret2
      have h := HOWN.out
      rw [List.take_of_length_le (by rw [bitsL_len, HLL.out]; decide)] at h
      exact ⟨_, rfl, (IntsAt.of_own h).mono (fun b hb => ⟨by have := hb.1; omega, hb.2⟩), HB2.out.trans (HBL.out.mono HB2.out.size)⟩
end Go.Proofs.YtjfphobfikadlaaGreatDoor

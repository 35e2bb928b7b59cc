/- Contracts: how many bytes one element holds, how many elements bytes are, how many random numbers a circle needs. Contracts: the shares of a secret, by the program. Plain numbers: bytes as elements of three bytes each. No program stands in it. Contracts of the sum: its constants, its padding, the whole. -/
import Derived.Test.YtjfphobfikadlaaGreatDoorX16
import Derived.Test.YtjfphobfikadlaaGreatDoorX17
import Derived.Test.YtjfphobfikadlaaGreatDoorX03
set_option linter.unusedVariables false
set_option linter.unusedSimpArgs false
namespace Go.Proofs.YtjfphobfikadlaaGreatDoor
open Go.RowKit Num

/-- How many bytes one element holds. -/
def widP (p : Nat) : Nat := if p < 256 then 0 else if p < 65536 then 1 else if p < 16777216 then 2 else 3
theorem widP_le (p : Nat) : widP p ≤ 3 := by
  unfold widP; repeat' split
  all_goals omega
/-- How many elements sixteen bytes are. -/
def cntP (p : Nat) : Nat := if widP p = 0 then 128 else if widP p = 1 then 16 else if widP p = 2 then 8 else 6
theorem cntP_le (p : Nat) : cntP p ≤ 128 := by
  unfold cntP; repeat' split
  all_goals omega
set_option maxHeartbeats 1000000 in
theorem p_Width (p : Nat) (w : World) (h2 : p ≤ 1073741824) :
    Calls Tryz.prog 119 #[.int .i64 (p : Int)] w fun e w' => e = .returned (.int .i64 ((widP p : Nat) : Int)) ∧ w = w' := by
  obtain ⟨v, hv⟩ : ∃ v, widP p = v := ⟨_, rfl⟩
  have hc : (v = 0 ∧ p < 256) ∨ (v = 1 ∧ 256 ≤ p ∧ p < 65536) ∨ (v = 2 ∧ 65536 ≤ p ∧ p < 16777216) ∨ (v = 3 ∧ 16777216 ≤ p) := by
    unfold widP at hv; repeat' split at hv
    all_goals omega
  rw [hv]
  clear hv
  go_enter Tryz.func119, Tryz.ntmps119
  go_wp2_with fail
  go_loopw [3, 4] (fun x t wr => ∃ k : Nat, k ≤ v ∧ x = .int .i64 (k : Int) ∧ t = .int .i64 ((256 ^ (k + 1) : Nat) : Int) ∧ w = wr) (fun x _ _ => 3 - (intOf x).toNat)
  case atStart => exact ⟨0, by omega, rfl, rfl, rfl⟩
  case round =>
    obtain ⟨k, hk, rfl, rfl, rfl⟩ := hrel
    rcases (show (k = 0 ∧ v = 0) ∨ (k = 0 ∧ 0 < v) ∨ (k = 1 ∧ v = 1) ∨ (k = 1 ∧ 1 < v) ∨ (k = 2 ∧ v = 2) ∨ (k = 2 ∧ 2 < v) ∨ (k = 3 ∧ v = 3) by omega) with ⟨rfl, rfl⟩ | ⟨rfl, hv⟩ | ⟨rfl, rfl⟩ | ⟨rfl, hv⟩ | ⟨rfl, rfl⟩ | ⟨rfl, hv⟩ | ⟨rfl, rfl⟩
    · have t : decide ((256 : Int) ≤ (p : Int)) = false := decide_eq_false (by omega)
      go_wp2_with fail
      go_ret
      exact ⟨rfl, rfl⟩
    · have t : decide ((256 : Int) ≤ (p : Int)) = true := decide_eq_true (by omega)
      go_wp2_with fail
      go_roundw
      case measure => simp [intOf]
      case rel => exact ⟨1, by omega, rfl, rfl, trivial⟩
    · have t : decide ((65536 : Int) ≤ (p : Int)) = false := decide_eq_false (by omega)
      go_wp2_with fail
      go_ret
      exact ⟨rfl, rfl⟩
    · have t : decide ((65536 : Int) ≤ (p : Int)) = true := decide_eq_true (by omega)
      go_wp2_with fail
      go_roundw
      case measure => simp [intOf]
      case rel => exact ⟨2, by omega, rfl, rfl, trivial⟩
    · have t : decide ((16777216 : Int) ≤ (p : Int)) = false := decide_eq_false (by omega)
      go_wp2_with fail
      go_ret
      exact ⟨rfl, rfl⟩
    · have t : decide ((16777216 : Int) ≤ (p : Int)) = true := decide_eq_true (by omega)
      go_wp2_with fail
      go_roundw
      case measure => simp [intOf]
      case rel => exact ⟨3, by omega, rfl, rfl, trivial⟩
    · go_wp2_with fail
      go_ret
      exact ⟨rfl, rfl⟩
def IntBelowM (n : Int) (w : World) (e : Ending) (w' : World) : Prop := e = .returned (.int .i64 n) ∧ Below w.heap.size w w'
set_option maxHeartbeats 1000000 in
theorem p_Count (p : Nat) (w : World) (h2 : p ≤ 1073741824) :
    Calls Tryz.prog 70 #[.int .i64 (p : Int), .int .i64 16] w (IntBelowM ((cntP p : Nat) : Int) w) := by
  have hw := fun W => p_Width p W h2
  have hle := widP_le p
  unfold cntP
  obtain ⟨v, hv⟩ : ∃ v, widP p = v := ⟨_, rfl⟩
  rw [hv] at hw hle ⊢
  have HW := Lib.hid hw
  clear hw hv
  rcases (show v = 0 ∨ v = 1 ∨ v = 2 ∨ v = 3 by omega) with rfl | rfl | rfl | rfl
  · go_enter Tryz.func70, Tryz.ntmps70
    go_wp2_with fail
    refine (HW.out _).mono ?_
    rintro e w' ⟨rfl, rfl⟩
    go_wp2_with fail
    go_ret
    exact ⟨rfl, Below.refl _ _⟩
  all_goals
    go_enter Tryz.func70, Tryz.ntmps70
    go_wp2_with fail
    refine (HW.out _).mono ?_
    rintro e w' ⟨rfl, rfl⟩
    go_wp2_with fail
    go_region
    all_goals
      go_wp2_with fail
      go_ret
      exact ⟨rfl, (Below.refl _ _).drew⟩
/-- How many random numbers a circle needs. -/
theorem c_Random (p need hold count : Nat) (w : World) (n2 : 1 ≤ need) (n3 : need ≤ 16) (hc : count ≤ 1000000) :
    Calls Tryz.prog 69 #[planV p need hold, .int .i64 (count : Int)] w fun e w' => e = .returned (.int .i64 ((count * (need - 1) : Nat) : Int)) ∧ Below w.heap.size w w' := by
  unfold planV
  have e : (count : Int) * ((need : Int) - 1) = ((count * (need - 1) : Nat) : Int) := by rw [Int.natCast_mul, Int.natCast_sub n2]; rfl
  have hb : count * (need - 1) ≤ 1000000 * 16 := Nat.mul_le_mul hc (by omega)
  have b0 : (0 : Int) ≤ (count : Int) * ((need : Int) - 1) := by omega
  have b1 : (count : Int) * ((need : Int) - 1) ≤ 16000000 := by omega
  have E := Lib.hid e
  clear e hb
  go_enter Tryz.func69, Tryz.ntmps69
  go_wp2_with fail
  go_ret
  exact ⟨ret_int E.out, (Below.refl _ _).alloc (Nat.le_refl _) _⟩
set_option maxHeartbeats 1000000 in
theorem f_Needs (p need hold : Nat) (w : World) (h2 : p ≤ 1073741824) (n2 : 1 ≤ need) (n3 : need ≤ 16) :
    Calls Tryz.prog 24 #[planV p need hold] w fun e w' => e = .returned (.int .i64 ((cntP p * (need - 1) : Nat) : Int)) ∧ Below w.heap.size w w' := by
  have hcl := cntP_le p
  have hc := fun W => p_Count p W h2
  have hr := fun W => c_Random p need hold (cntP p) W n2 n3 (by omega)
  have HC := Lib.hid hc
  have HR := Lib.hid hr
  clear hc hr
  unfold planV at *
  generalize cntP p = v at *
  have p1 : (w.alloc (.cells #[.int .i64 (p : Int), .int .i64 (need : Int), .int .i64 (hold : Int)] 34)).cell? ⟨w.heap.size, 0, none⟩ = some (.int .i64 (p : Int)) := by rw [World.cell?_alloc_new]; rfl
  have p2 : (w.alloc (.cells #[.int .i64 (p : Int), .int .i64 (need : Int), .int .i64 (hold : Int)] 34)).cell? ⟨w.heap.size, 1, none⟩ = some (.int .i64 (need : Int)) := by rw [World.cell?_alloc_new]; rfl
  have p3 : (w.alloc (.cells #[.int .i64 (p : Int), .int .i64 (need : Int), .int .i64 (hold : Int)] 34)).cell? ⟨w.heap.size, 2, none⟩ = some (.int .i64 (hold : Int)) := by rw [World.cell?_alloc_new]; rfl
  have HB := Lib.hid ((Below.refl w.heap.size w).alloc (Nat.le_refl _) (.cells #[.int .i64 (p : Int), .int .i64 (need : Int), .int .i64 (hold : Int)] 34))
  go_enter Tryz.func24, Tryz.ntmps24
  go_wp2_with fail
  generalize w.alloc (.cells #[.int .i64 (p : Int), .int .i64 (need : Int), .int .i64 (hold : Int)] 34) = w1 at *
  have hba := HB.out
  go_region_held3 (fun W => W.cell? ⟨w.heap.size, 0, none⟩ = some (.int .i64 (p : Int)) ∧ W.cell? ⟨w.heap.size, 1, none⟩ = some (.int .i64 (need : Int)) ∧ W.cell? ⟨w.heap.size, 2, none⟩ = some (.int .i64 (hold : Int)) ∧ Below w.heap.size w W)
    (first
      | exact ⟨p1, p2, p3, hba.drew⟩
      | (go_split_ands
         refine ⟨?_, ?_, ?_, ?_⟩
         · (rw [hbk.cell (World.block_lt_of_cell? _ _ ‹_›)]; assumption)
         · (rw [hbk.cell (World.block_lt_of_cell? _ _ ‹_›)]; assumption)
         · (rw [hbk.cell (World.block_lt_of_cell? _ _ ‹_›)]; assumption)
         · exact Below.trans ‹Below w.heap.size w _› (hbk.mono (‹Below w.heap.size w _›).size)))
    (first
      | (go_at_call 70; ((with_reducible refine (HC.out _).mono ?_); rintro e wk ⟨rfl, hbk⟩))
      | (go_at_call 69; ((with_reducible refine (HR.out _).mono ?_); rintro e wk ⟨rfl, hbk⟩)))
  all_goals
    go_split_ands
    have hbf : Below w.heap.size w wk := by assumption
    go_wp2_with fail
    go_ret
    exact ⟨rfl, hbf⟩
end Go.Proofs.YtjfphobfikadlaaGreatDoor
namespace Go.Proofs.YtjfphobfikadlaaGreatDoor
open Go.RowKit Num

theorem DealT.sh {w : World} {B g cap hold p k : Nat} {us : Nat → Value} {sec rnd : List Int} (h : DealT w B g cap hold us (fun j => (List.range sec.length).map (dealV p k (j + 1) sec rnd))) : OwnSh w B (.slice (some ⟨g, 0, none⟩) hold cap) (dealL p k sec rnd hold) := by
  have hl : (dealL p k sec rnd hold).length = hold := by simp [dealL]
  refine ⟨shCells us hold, by rw [hl]; exact h.row, fun j hj => ?_⟩
  rw [hl] at hj
  have hat : shAt (dealL p k sec rnd hold) j = (((j + 1 : Nat) : Int), (List.range sec.length).map (dealV p k (j + 1) sec rnd)) := by
    unfold dealL shAt; rw [List.getD_eq_getElem?_getD, List.getElem?_map, List.getElem?_range hj]; rfl
  rw [hat]
  exact ⟨us j, by rw [shCells_h us hold j hj]; rfl, shCells_v us hold j hj, h.own j hj⟩
theorem DealT.mono {w : World} {B B' g cap hold : Nat} {us : Nat → Value} {xs : Nat → List Int} (h : DealT w B g cap hold us xs) (hB : B' ≤ B) : DealT w B' g cap hold us xs :=
  ⟨own_mono h.row hB, fun k hk => own_mono (h.own k hk) hB, h.apart⟩
set_option maxRecDepth 100000 in
set_option maxHeartbeats 4000000 in
theorem s_Deal (p k hold : Nat) (sec rnd : List Int) (vs vr : Value) (w : World) (hw : BasesOk w) (hp : Prm p) (h2 : p ≤ 1073741824) (n2 : k + 1 ≤ hold) (n3 : hold ≤ 16) (n4 : hold < p)
    (hs : IntsAt w (Old w) vs sec) (hr : IntsAt w (Old w) vr rnd) (fs : InF p sec) (fr : InF p rnd) (ls : sec.length ≤ 2048) (lr : rnd.length = sec.length * k) :
    Calls Tryz.prog 68 #[planV p (k + 1) hold, vs, vr] w (DealPost p k hold sec rnd w) := by
  obtain ⟨i0, hi, hz0, hz1, hz2⟩ := info_parts infoI
  have hp1 : 1 ≤ p := by omega
  have lr2 : rnd.length ≤ 1000000 := by
    have : sec.length * k ≤ 2048 * 16 := Nat.mul_le_mul ls (by omega)
    omega
  obtain ⟨As, ns, cs, rfl, hns, hcs, hcells⟩ := id hs
  obtain ⟨Ar, nr, cr, rfl, hnr, hcr, hcellr⟩ := id hr
  have hrr := hr.reads (B := w.heap.size) (fun b hb => hb)
  have HNS := Lib.hid hns
  have HNR := Lib.hid hnr
  have HS := Lib.hid hs
  have HR := Lib.hid hr
  have HRR := Lib.hid hrr
  have LR := Lib.hid lr
  have lns : ns ≤ 2048 := by omega
  have lnr : nr ≤ 1000000 := by omega
  have hnn : nr = ns * k := by rw [hnr, lr, ← hns]
  have HNN := Lib.hid hnn
  have hvalid := fun W (hW : BasesOk W) => s_Valid p (k + 1) hold W hW hp h2 (by omega) n2 n3 n4
  have hes := fun W (hW : Below w.heap.size w W) => s_elements p (k + 1) hold (.slice As ns cs) sec _ W (hs.below hW) (fun b hb => Nat.lt_of_lt_of_le hb hW.size) (by omega) fs
  have her := fun W (hW : Below w.heap.size w W) => s_elements p (k + 1) hold (.slice Ar nr cr) rnd _ W (hr.below hW) (fun b hb => Nat.lt_of_lt_of_le hb hW.size) (by omega) fr
  have hrd := fun W => c_Random p (k + 1) hold ns W (by omega) (by omega) (by omega)
  have hnd := fun W => s_newDealer p (k + 1) hold W (by omega) n3
  unfold planV at hrd hnd
  rw [show ((k + 1 : Nat) : Int) = (k : Int) + 1 from rfl] at hvalid hes her hrd hnd
  rw [show k + 1 - 1 = k from rfl, ← hnn] at hrd
  unfold DealerPost at hnd
  rw [show ((k + 1 : Nat) : Int) = (k : Int) + 1 from rfl] at hnd
  have HVA := Lib.hid hvalid
  have HES := Lib.hid hes
  have HER := Lib.hid her
  have HRD := Lib.hid hrd
  have HND := Lib.hid hnd
  have hba := (Below.refl w.heap.size w).alloc (Nat.le_refl _) (.cells #[.int .i64 (p : Int), .int .i64 ((k : Int) + 1), .int .i64 (hold : Int)] 34)
  have kp : Blk (w.alloc (.cells #[.int .i64 (p : Int), .int .i64 ((k : Int) + 1), .int .i64 (hold : Int)] 34)) w.heap.size 34 #[.int .i64 (p : Int), .int .i64 ((k : Int) + 1), .int .i64 (hold : Int)] := Blk.new w _ _
  have hwa := hw.alloc (.cells #[.int .i64 (p : Int), .int .i64 ((k : Int) + 1), .int .i64 (hold : Int)] 34)
  have HBA := Lib.hid hba
  have KP := Lib.hid kp
  have HWA := Lib.hid hwa
  clear hns hnr hs hr hrr lr hvalid hes her hrd hnd hba kp hwa hnn hcells hcellr hw
  have epl : planV p (k + 1) hold = .agg #[.int .i64 (p : Int), .int .i64 ((k : Int) + 1), .int .i64 (hold : Int)] := rfl
  rw [epl]
  go_enter Tryz.func68, Tryz.ntmps68
  go_wp2_with fail
  refine (HVA.out _ HWA.out).mono ?_
  rintro e w1 ⟨rfl, hb1⟩
  have kp1 := KP.out.below hb1 KP.out.lt
  have hw1 := HBA.out.trans (hb1.mono HBA.out.size)
  have s0 : w1.cell? ⟨w.heap.size, 0, none⟩ = some (.int .i64 (p : Int)) := kp1.cell 0
  have s1 : w1.cell? ⟨w.heap.size, 1, none⟩ = some (.int .i64 ((k : Int) + 1)) := kp1.cell 1
  have s2 : w1.cell? ⟨w.heap.size, 2, none⟩ = some (.int .i64 (hold : Int)) := kp1.cell 2
  have KP1 := Lib.hid kp1
  have HW1 := Lib.hid hw1
  clear kp1 hw1 hb1 epl
  go_wp2_with fail
  refine (HES.out _ HW1.out).mono ?_
  rintro e w2 ⟨rfl, hb2⟩
  have kp2 := KP1.out.below hb2 KP1.out.lt
  have hw2 := HW1.out.trans (hb2.mono HW1.out.size)
  have t0 : w2.cell? ⟨w.heap.size, 0, none⟩ = some (.int .i64 (p : Int)) := kp2.cell 0
  have t1 : w2.cell? ⟨w.heap.size, 1, none⟩ = some (.int .i64 ((k : Int) + 1)) := kp2.cell 1
  have t2 : w2.cell? ⟨w.heap.size, 2, none⟩ = some (.int .i64 (hold : Int)) := kp2.cell 2
  have KP2 := Lib.hid kp2
  have HW2 := Lib.hid hw2
  clear kp2 hw2 hb2 s0 s1 s2
  go_wp2_with fail
  refine (HER.out _ HW2.out).mono ?_
  rintro e w3 ⟨rfl, hb3⟩
  have kp3 := KP2.out.below hb3 KP2.out.lt
  have hw3 := HW2.out.trans (hb3.mono HW2.out.size)
  have s0 : w3.cell? ⟨w.heap.size, 0, none⟩ = some (.int .i64 (p : Int)) := kp3.cell 0
  have s1 : w3.cell? ⟨w.heap.size, 1, none⟩ = some (.int .i64 ((k : Int) + 1)) := kp3.cell 1
  have s2 : w3.cell? ⟨w.heap.size, 2, none⟩ = some (.int .i64 (hold : Int)) := kp3.cell 2
  have KP3 := Lib.hid kp3
  have HW3 := Lib.hid hw3
  clear kp3 hw3 hb3 t0 t1 t2
  go_wp2_with fail
  refine (HRD.out _).mono ?_
  rintro e w4 ⟨rfl, hb4⟩
  have kp4 := KP3.out.below hb4 KP3.out.lt
  have hw4 := HW3.out.trans (hb4.mono HW3.out.size)
  have t0 : w4.cell? ⟨w.heap.size, 0, none⟩ = some (.int .i64 (p : Int)) := kp4.cell 0
  have t1 : w4.cell? ⟨w.heap.size, 1, none⟩ = some (.int .i64 ((k : Int) + 1)) := kp4.cell 1
  have t2 : w4.cell? ⟨w.heap.size, 2, none⟩ = some (.int .i64 (hold : Int)) := kp4.cell 2
  have KP4 := Lib.hid kp4
  have HW4 := Lib.hid hw4
  clear kp4 hw4 hb4 s0 s1 s2
  go_wp2_with fail
  refine (HND.out _).mono ?_
  rintro e w5 ⟨D, g, cap, rfl, hD, hbd, hdt, hb5⟩
  have z4 := KP4.out.lt
  have kp5 := KP4.out.below hb5 KP4.out.lt
  have hw5 := HW4.out.trans (hb5.mono HW4.out.size)
  have s1 : w5.cell? ⟨w.heap.size, 1, none⟩ = some (.int .i64 ((k : Int) + 1)) := kp5.cell 1
  have hsz4 := HW4.out.size
  have HBD := Lib.hid hbd
  have HDT := Lib.hid hdt
  have HW5 := Lib.hid hw5
  have HB5 := Lib.hid hb5
  clear kp5 hw5 hb5 hbd hdt t0 t1 t2
  have hgB : w4.heap.size ≤ g := (HDT.out.row.lt g rfl).1
  have hcap : hold ≤ cap := by
    rcases id HDT.out.row.2 with ⟨h, _⟩ | ⟨g', cap', cur, h, _, _, h3, _⟩
    · cases h
    · injection h with _ _ e3; omega
  go_wp2_with fail
  obtain ⟨B, hBe⟩ : ∃ B, w4.heap.size = B := ⟨_, rfl⟩
  rw [hBe] at hD hgB hsz4 z4 HDT
  have hw5s := HB5.out.size
  rw [hBe] at hw5s
  clear hBe HB5 KP4 KP3 KP2 KP1 HW4 HW3 HW2 HW1 KP HVA HES HER HRD HND HBA HWA s1
  go_loopw [47] (fun i wr => ∃ (t : Nat) (us : Nat → Value), t ≤ ns ∧ i = .int .i64 (t : Int) ∧ Blk wr D 138 #[.int .i64 (p : Int), .int .i64 ((k : Int) + 1), .int .i64 (hold : Int), .slice (some ⟨g, 0, none⟩) hold cap] ∧
    DealT wr B g cap hold us (fun j => (List.range t).map (dealV p k (j + 1) sec rnd)) ∧ Below w.heap.size w wr) (fun i _ => ns - (intOf i).toNat)
  case atStart => exact ⟨0, nilU, by omega, rfl, HBD.out, HDT.out, HW5.out⟩
  case round =>
    clear HBD HDT HW5
    obtain ⟨t, us, ht, rfl, hbd, hdt, hbl⟩ := hrel
    have hzz := hbl.size
    have zD := hbd.lt
    have zg := (hdt.row.lt g rfl).2
    by_cases htn : t < ns
    · have hsr := HS.out.below hbl
      obtain ⟨A', n', c', hv, e2, e3, hcs'⟩ := hsr
      injection hv with v1 v2 v3
      subst v1 v2 v3
      obtain ⟨b, off, rfl, hSo, hcell⟩ := hcs' (by omega)
      have ck := hcell t htn
      have hle : (t + 1) * k ≤ ns * k := Nat.mul_le_mul_right k htn
      have hle2 : t * k ≤ (t + 1) * k := Nat.mul_le_mul_right k (by omega)
      have g1 : (t : Int) * (k : Int) = ((t * k : Nat) : Int) := (Int.natCast_mul t k).symm
      have g2 : ((t : Int) + 1) * (k : Int) = (((t + 1) * k : Nat) : Int) := by rw [Int.natCast_mul]; rfl
      have hnn := HNN.out
      have m0 : 0 ≤ (t : Int) * (k : Int) := by omega
      have m1 : (t : Int) * (k : Int) ≤ ((t : Int) + 1) * (k : Int) := by omega
      have m2 : ((t : Int) + 1) * (k : Int) ≤ (cr : Int) := by omega
      have m3 : ((t : Int) * (k : Int)).toNat = t * k := by omega
      have m4 : (((t : Int) + 1) * (k : Int)).toNat = (t + 1) * k := by omega
      have m5 : ((t : Int) + 1) * (k : Int) ≤ 1000000 := by omega
      have q1 : (t : Int) < (ns : Int) := by omega
      have HBD := Lib.hid hbd
      have HDT := Lib.hid hdt
      have HBL := Lib.hid hbl
      have hsl := fun (W : World) => run_slice_lohi (P := Tryz.prog) W 24 3 i0 1 Tryz.underlying24 hi hz1 Ar nr cr (t * k) ((t + 1) * k) hle2 (by omega) ((t : Int) * (k : Int)) (((t : Int) + 1) * (k : Int)) g1 g2
      have hdk : (t + 1) * k - t * k = k := by rw [Nat.add_mul, Nat.one_mul, Nat.add_sub_cancel_left]
      simp only [hdk] at hsl
      obtain ⟨x, hx⟩ : ∃ x, sec.getD t 0 = x := ⟨_, rfl⟩
      obtain ⟨R, hR⟩ : ∃ R, (rnd.drop (t * k)).take k = R := ⟨_, rfl⟩
      rw [hx] at ck
      have hrd : Reads wr w.heap.size 1 (subA Ar cr (t * k) 1) k (R.map (Value.int .i64)) := by
        have := (HRR.out.below HBL.out).sub (lo := t * k) (hg := (t + 1) * k) (cap := cr) hle2 (by omega) hcr
        rw [hdk, Nat.mul_one, Nat.mul_one, ← List.map_drop, ← List.map_take, hR] at this
        exact this
      have hRl : R.length = k := by have := hrd.1; simpa using this
      have hval : ∀ j : Nat, dealV p k (j + 1) sec rnd t = ev (x :: R) ((j : Int) + 1) % (p : Int) := fun j => by unfold dealV; rw [hx, hR, evH_eq _ _ hp1]; rfl
      have hin : InF p (x :: R) := by
        intro i hi
        cases i with
        | zero => have := fs t (by have := HNS.out; omega); rw [hx] at this; exact this
        | succ i =>
          have hi' : i < R.length := by simpa using hi
          have h3 := LR.out
          have h5 := HNS.out
          have h4 := HNN.out
          have h6 := HNR.out
          have := fr (t * k + i) (by omega)
          have e : (x :: R).getD (i + 1) 0 = rnd.getD (t * k + i) 0 := by
            rw [List.getD_eq_getElem?_getD, List.getElem?_cons_succ, ← hR, List.getElem?_take, if_pos (by omega), List.getElem?_drop, ← List.getD_eq_getElem?_getD]
          rwa [e]
      have HRD := Lib.hid hrd
      have HVAL := Lib.hid hval
      have HIN := Lib.hid hin
      have kl : k ≤ 16 := by omega
      have lR : (x :: R).length ≤ 1000 := by simp; omega
      clear hbd hdt hbl hcell hcs' g1 g2 hnn e2 e3 hdk hrd hx hR hval hin
      go_wp2_with (at_builtin; refine wpList_append_any _ rfl (.tmp 54) (.tmp 63) _ rfl wr.heap.size 3 i0 _ 1 8 Tryz.underlying24 hi hz0 hz1 hz2 rfl (by omega) (.slice (some ⟨wr.heap.size, 0, none⟩) 1 1) 1 [.int .i64 x] rfl (own_built wr wr.heap.size 3 _ (Nat.le_refl _)) w.heap.size (subA Ar cr (t * k) 1) k (cr - t * k) (R.map (Value.int .i64)) rfl (HRD.out.alloc (by omega) _) (ints_oneCell .i64 _) (by simp only [maxLen]; omega) (by omega) (by simp) ?_)
      intro v' w6 hown' hgrow hloc
      have hg0 : wr.grownBy w6 (some wr.heap.size) := ⟨hgrow.os, hgrow.tape, hgrow.output, Nat.le_trans (by simp) hgrow.size, fun i hi hn => (hgrow.block i (by simp; omega) (by simpa [Value.ownBlock] using hn)).trans (Below.heap_alloc wr _ i hi)⟩
      have hb6' : Below wr.heap.size wr w6 := (Below.refl _ _).grown hg0 (Nat.le_refl _) (fun g hg => by injection hg with hg; omega)
      have hb6 := HBL.out.trans (hb6'.mono (by omega))
      have hbd6 := HBD.out.below hb6' zD
      have hdt6 := HDT.out.below hb6'
      have hpo : IntsAt w6 (fun b => wr.heap.size ≤ b ∧ b < w6.heap.size) v' (x :: R) := IntsAt.of_own (n := 1 + k) hown'
      have hzw6 := hb6'.size
      have hdl := s_deal p (k + 1) hold D B g cap us _ v' (x :: R) _ w6 hp1 h2 n3 hbd6 (by omega) hcap hdt6 hgB hpo (fun b hb => ⟨hb.2, by have := hb.1; omega, fun i hi e => by have := ((HDT.out.own i hi).lt b e).2; have := hb.1; omega⟩) lR HIN.out (fun j hj => by simp; omega)
      have HDL := Lib.hid hdl
      have HB6 := Lib.hid hb6
      clear hown' hgrow hloc hg0 hb6' hb6 hbd6 hdt6 hpo hsl hdl
      go_wp2_with fail
      refine HDL.out.mono ?_
      rintro e w7 ⟨us', rfl, hbd7, hdt7, hb7⟩
      have hb8 := HB6.out.trans (hb7.mono hsz4)
      have HBD7 := Lib.hid hbd7
      have HDT7 := Lib.hid hdt7
      have HB8 := Lib.hid hb8
      clear hbd7 hdt7 hb7 hb8
      go_wp2_with fail
      go_roundw
      case measure => simp [intOf]; omega
      case rel =>
        refine ⟨t + 1, us', by omega, by go_num, HBD7.out, ?_, HB8.out⟩
        have e : (fun j : Nat => (List.range (t + 1)).map (dealV p k (j + 1) sec rnd)) = fun j : Nat => (List.range t).map (dealV p k (j + 1) sec rnd) ++ [ev (x :: R) ((j : Int) + 1) % (p : Int)] := by
          funext j
          rw [List.range_succ, List.map_append, ← HVAL.out j]; rfl
        rw [e]
        exact HDT7.out
    · have htn' : t = ns := by omega
      subst htn'
      have c3 : wr.cell? ⟨D, 3, none⟩ = some (.slice (some ⟨g, 0, none⟩) hold cap) := hbd.cell 3
      have HDT := Lib.hid hdt
      have HBL := Lib.hid hbl
      clear hbd hdt hbl
      go_wp2_with fail
      go_ret2
      refine ⟨_, rfl, ?_, HBL.out⟩
      have h := (HDT.out.mono (B' := w.heap.size) hsz4)
      rw [HNS.out] at h
      exact h.sh
end Go.Proofs.YtjfphobfikadlaaGreatDoor
namespace Go.Proofs.YtjfphobfikadlaaGreatDoor
/-- The number that some bytes are. -/
def chunkN (l : List UInt8) : Nat := l.foldl (fun n c => n * 256 + c.toNat) 0
theorem chunk_snoc (l : List UInt8) (c : UInt8) : chunkN (l ++ [c]) = chunkN l * 256 + c.toNat := by simp [chunkN]
theorem chunk_lt : ∀ (n : Nat) (l : List UInt8), l.length = n → chunkN l < 256 ^ n := by
  intro n
  induction n with
  | zero => intro l h; rw [List.eq_nil_of_length_eq_zero h]; decide
  | succ n ih =>
    intro l h
    have hne : l ≠ [] := by intro e; subst e; simp at h
    rw [← List.dropLast_concat_getLast hne, chunk_snoc, Nat.pow_succ]
    have h1 := ih l.dropLast (by rw [List.length_dropLast]; omega)
    have h2 := (l.getLast hne).toNat_lt
    omega
/-- What byte is at a place of the number. -/
theorem chunk_byte (a b : List UInt8) (c : UInt8) : chunkN (a ++ c :: b) / 256 ^ b.length % 256 = c.toNat := by
  have hg : ∀ (b : List UInt8) (a : List UInt8), chunkN (a ++ b) = chunkN a * 256 ^ b.length + chunkN b := by
    intro b
    induction b with
    | nil => intro a; simp [chunkN]
    | cons x l ih =>
      intro a
      rw [show a ++ x :: l = (a ++ [x]) ++ l by simp, ih, chunk_snoc, show x :: l = [x] ++ l from rfl, ih [x]]
      have : chunkN [x] = x.toNat := by simp [chunkN]
      rw [this, List.length_append, Nat.pow_add]
      simp only [List.length_singleton, Nat.pow_one]
      rw [Nat.add_mul, Nat.mul_assoc, Nat.add_assoc, Nat.mul_comm 256]
  have h1 := hg (c :: b) a
  have h2 := hg b [c]
  have hc : chunkN [c] = c.toNat := by simp [chunkN]
  have hb := chunk_lt _ b rfl
  have hcl := c.toNat_lt
  rw [h1, show c :: b = [c] ++ b from rfl, h2, hc, List.length_append]
  simp only [List.length_singleton]
  rw [Nat.pow_add, Nat.pow_one, ← Nat.mul_assoc, ← Nat.add_assoc, ← Nat.add_mul, Nat.add_comm, Nat.add_mul_div_right _ _ (Nat.pow_pos (by decide)), Nat.div_eq_of_lt hb]
  omega
def pk3 (l : List UInt8) (k : Nat) : Nat := chunkN ((l.drop (3 * k)).take 3)
/-- The elements of three bytes each. -/
def pack3 (l : List UInt8) : List Int := (List.range ((l.length + 2) / 3)).map fun k => ((pk3 l k : Nat) : Int)
theorem pack3_len (l : List UInt8) : (pack3 l).length = (l.length + 2) / 3 := by simp [pack3]
theorem pack3_get (l : List UInt8) (k : Nat) (h : k < (l.length + 2) / 3) : (pack3 l).getD k 0 = ((pk3 l k : Nat) : Int) := by
  unfold pack3; rw [List.getD_eq_getElem?_getD, List.getElem?_map, List.getElem?_range h]; rfl
theorem pk3_lt (l : List UInt8) (k : Nat) : pk3 l k < 256 ^ (min 3 (l.length - 3 * k)) := by
  unfold pk3; exact chunk_lt _ _ (by simp)
/-- The byte of an element at a place. -/
theorem pk3_byte (l : List UInt8) (k j : Nat) (h : 3 * k + j < l.length) (hj : j < 3) : UInt8.ofNat (pk3 l k / 256 ^ (min 3 (l.length - 3 * k) - 1 - j) % 256) = l[3 * k + j] := by
  have hd : j < ((l.drop (3 * k)).take 3).length := by simp; omega
  have e : (l.drop (3 * k)).take 3 = ((l.drop (3 * k)).take 3).take j ++ ((l.drop (3 * k)).take 3)[j] :: ((l.drop (3 * k)).take 3).drop (j + 1) := by
    rw [List.getElem_cons_drop, List.take_append_drop]
  have hl : (((l.drop (3 * k)).take 3).drop (j + 1)).length = min 3 (l.length - 3 * k) - 1 - j := by simp; omega
  unfold pk3
  rw [e, ← hl, chunk_byte]
  simp
end Go.Proofs.YtjfphobfikadlaaGreatDoor
namespace Go.Proofs.YtjfphobfikadlaaGreatDoor
open Go.RowKit Num

/-- The constants of the rounds, and the state at the beginning. -/
def shaK : List Int := [0x428a2f98, 0x71374491, 0xb5c0fbcf, 0xe9b5dba5, 0x3956c25b, 0x59f111f1, 0x923f82a4, 0xab1c5ed5, 0xd807aa98, 0x12835b01, 0x243185be, 0x550c7dc3, 0x72be5d74, 0x80deb1fe, 0x9bdc06a7, 0xc19bf174, 0xe49b69c1, 0xefbe4786, 0x0fc19dc6, 0x240ca1cc, 0x2de92c6f, 0x4a7484aa, 0x5cb0a9dc, 0x76f988da, 0x983e5152, 0xa831c66d, 0xb00327c8, 0xbf597fc7, 0xc6e00bf3, 0xd5a79147, 0x06ca6351, 0x14292967, 0x27b70a85, 0x2e1b2138, 0x4d2c6dfc, 0x53380d13, 0x650a7354, 0x766a0abb, 0x81c2c92e, 0x92722c85, 0xa2bfe8a1, 0xa81a664b, 0xc24b8b70, 0xc76c51a3, 0xd192e819, 0xd6990624, 0xf40e3585, 0x106aa070, 0x19a4c116, 0x1e376c08, 0x2748774c, 0x34b0bcb5, 0x391c0cb3, 0x4ed8aa4a, 0x5b9cca4f, 0x682e6ff3, 0x748f82ee, 0x78a5636f, 0x84c87814, 0x8cc70208, 0x90befffa, 0xa4506ceb, 0xbef9a3f7, 0xc67178f2]
def kOf (i : Nat) : Int := shaK.getD i 0
def shaB : List Int := [0x6a09e667, 0xbb67ae85, 0x3c6ef372, 0xa54ff53a, 0x510e527f, 0x9b05688c, 0x1f83d9ab, 0x5be0cd19]
def bOf (i : Nat) : Int := shaB.getD i 0

theorem map_get (l : List Int) (i : Nat) (h : i < l.length) : (l.map (Value.int .u32)).toArray[i]? = some (.int .u32 (l.getD i 0)) := by
  simp [List.getD, h]
theorem d_begin (w : World) :
    Calls Tryz.prog 112 #[] w fun r w' => r = .returned (.agg (shaB.map (Value.int .u32)).toArray) ∧ Below w.heap.size w w' := by
  go_enter Tryz.func112, Tryz.ntmps112
  go_wp2_with fail
  exact bodyPost_ret (v := .agg (shaB.map (Value.int .u32)).toArray) (by simp [results, Tryz.results112, go_sem, shaB]) rfl ⟨rfl, (Below.refl _ _).alloc (Nat.le_refl _) _⟩
set_option maxRecDepth 100000 in
set_option maxHeartbeats 2000000 in
theorem d_constants (w : World) :
    Calls Tryz.prog 113 #[] w fun r w' => r = .returned (.pointer (some ⟨w.heap.size, 0, none⟩)) ∧ Below w.heap.size w w' ∧ w.heap.size < w'.heap.size ∧ Arr w' w.heap.size 64 kOf := by
  go_enter Tryz.func113, Tryz.ntmps113
  go_wp2_with fail
  go_ret
  refine ⟨rfl, (Below.refl _ _).alloc (Nat.le_refl _) _, by simp, ⟨fun i hi => ?_, fun i hi => World.frozen?_alloc_new _ _ _ _⟩⟩
  rw [World.cell?_alloc_new]
  exact map_get shaK i hi
end Go.Proofs.YtjfphobfikadlaaGreatDoor

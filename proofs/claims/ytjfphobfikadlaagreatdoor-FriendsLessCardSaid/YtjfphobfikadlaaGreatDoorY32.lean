/- Contracts: the shares of a secret, by the program. Contracts: the mark of a share: the program's. -/
import Derived.Test.YtjfphobfikadlaaGreatDoorY31
import Derived.Test.YtjfphobfikadlaaGreatDoorY26
import Derived.Test.YtjfphobfikadlaaGreatDoorY27
import Derived.Test.YtjfphobfikadlaaGreatDoorY21
set_option linter.unusedVariables false
set_option linter.unusedSimpArgs false
namespace Go.Proofs.YtjfphobfikadlaaGreatDoor
open Go.RowKit Num

theorem DealT.sh {w : World} {B g cap hold p k : Nat} {us : Nat → Value} {sec rnd : List Int} (h : DealT w B g cap hold us (fun j => (List.range sec.length).map (dealV p k (j + 1) sec rnd))) : OwnSh w B (.slice (some ⟨g, 0, none⟩) hold cap) (dealL p k sec rnd hold) := by
  have hl : (dealL p k sec rnd hold).length = hold := by simp [dealL]
  refine ⟨shCells us hold, by rw [hl]; exact h.row, fun j hj => ?_⟩
  rw [hl] at hj
  have hat : shAt (dealL p k sec rnd hold) j = (((j + 1 : Nat) : Int), (List.range sec.length).map (dealV p k (j + 1) sec rnd)) := by
    unfold dealL shAt; rw [List.getD_eq_getElem?_getD, List.getElem?_map, List.getElem?_range hj]; rfl
  rw [hat]
  exact ⟨us j, by rw [shCells_h us hold j hj]; rfl, shCells_v us hold j hj, h.own j hj⟩
theorem DealT.mono {w : World} {B B' g cap hold : Nat} {us : Nat → Value} {xs : Nat → List Int} (h : DealT w B g cap hold us xs) (hB : B' ≤ B) : DealT w B' g cap hold us xs :=
  ⟨own_mono h.row hB, fun k hk => own_mono (h.own k hk) hB, h.apart⟩
set_option maxRecDepth 100000 in
set_option maxHeartbeats 4000000 in
theorem s_Deal (p k hold : Nat) (sec rnd : List Int) (vs vr : Value) (w : World) (hw : BasesOk w) (hp : Prm p) (h2 : p ≤ 1073741824) (n2 : k + 1 ≤ hold) (n3 : hold ≤ 16) (n4 : hold < p)
    (hs : IntsAt w (Old w) vs sec) (hr : IntsAt w (Old w) vr rnd) (fs : InF p sec) (fr : InF p rnd) (ls : sec.length ≤ 2048) (lr : rnd.length = sec.length * k) :
    Calls Tryz.prog 68 #[planV p (k + 1) hold, vs, vr] w (DealPost p k hold sec rnd w) := by
  obtain ⟨i0, hi, hz0, hz1, hz2⟩ := info_parts infoI
  have hp1 : 1 ≤ p := by omega
  have lr2 : rnd.length ≤ 1000000 := by
    have : sec.length * k ≤ 2048 * 16 := Nat.mul_le_mul ls (by omega)
    omega
  obtain ⟨As, ns, cs, rfl, hns, hcs, hcells⟩ := id hs
  obtain ⟨Ar, nr, cr, rfl, hnr, hcr, hcellr⟩ := id hr
  have hrr := hr.reads (B := w.heap.size) (fun b hb => hb)
  have HNS := Lib.hid hns
  have HNR := Lib.hid hnr
  have HS := Lib.hid hs
  have HR := Lib.hid hr
  have HRR := Lib.hid hrr
  have LR := Lib.hid lr
  have lns : ns ≤ 2048 := by omega
  have lnr : nr ≤ 1000000 := by omega
  have hnn : nr = ns * k := by rw [hnr, lr, ← hns]
  have HNN := Lib.hid hnn
  have hvalid := fun W (hW : BasesOk W) => s_Valid p (k + 1) hold W hW hp h2 (by omega) n2 n3 n4
  have hes := fun W (hW : Below w.heap.size w W) => s_elements p (k + 1) hold (.slice As ns cs) sec _ W (hs.below hW) (fun b hb => Nat.lt_of_lt_of_le hb hW.size) (by omega) fs
  have her := fun W (hW : Below w.heap.size w W) => s_elements p (k + 1) hold (.slice Ar nr cr) rnd _ W (hr.below hW) (fun b hb => Nat.lt_of_lt_of_le hb hW.size) (by omega) fr
  have hrd := fun W => c_Random p (k + 1) hold ns W (by omega) (by omega) (by omega)
  have hnd := fun W => s_newDealer p (k + 1) hold W (by omega) n3
  unfold planV at hrd hnd
  rw [show ((k + 1 : Nat) : Int) = (k : Int) + 1 from rfl] at hvalid hes her hrd hnd
  rw [show k + 1 - 1 = k from rfl, ← hnn] at hrd
  unfold DealerPost at hnd
  rw [show ((k + 1 : Nat) : Int) = (k : Int) + 1 from rfl] at hnd
  have HVA := Lib.hid hvalid
  have HES := Lib.hid hes
  have HER := Lib.hid her
  have HRD := Lib.hid hrd
  have HND := Lib.hid hnd
  have hba := (Below.refl w.heap.size w).alloc (Nat.le_refl _) (.cells #[.int .i64 (p : Int), .int .i64 ((k : Int) + 1), .int .i64 (hold : Int)] 34)
  have kp : Blk (w.alloc (.cells #[.int .i64 (p : Int), .int .i64 ((k : Int) + 1), .int .i64 (hold : Int)] 34)) w.heap.size 34 #[.int .i64 (p : Int), .int .i64 ((k : Int) + 1), .int .i64 (hold : Int)] := Blk.new w _ _
  have hwa := hw.alloc (.cells #[.int .i64 (p : Int), .int .i64 ((k : Int) + 1), .int .i64 (hold : Int)] 34)
  have HBA := Lib.hid hba
  have KP := Lib.hid kp
  have HWA := Lib.hid hwa
  clear hns hnr hs hr hrr lr hvalid hes her hrd hnd hba kp hwa hnn hcells hcellr hw
  have epl : planV p (k + 1) hold = .agg #[.int .i64 (p : Int), .int .i64 ((k : Int) + 1), .int .i64 (hold : Int)] := rfl
  rw [epl]
  go_enter Tryz.func68, Tryz.ntmps68
  go_wp2_with fail
  refine (HVA.out _ HWA.out).mono ?_
  rintro e w1 ⟨rfl, hb1⟩
  have kp1 := KP.out.below hb1 KP.out.lt
  have hw1 := HBA.out.trans (hb1.mono HBA.out.size)
  have s0 : w1.cell? ⟨w.heap.size, 0, none⟩ = some (.int .i64 (p : Int)) := kp1.cell 0
  have s1 : w1.cell? ⟨w.heap.size, 1, none⟩ = some (.int .i64 ((k : Int) + 1)) := kp1.cell 1
  have s2 : w1.cell? ⟨w.heap.size, 2, none⟩ = some (.int .i64 (hold : Int)) := kp1.cell 2
  have KP1 := Lib.hid kp1
  have HW1 := Lib.hid hw1
  clear kp1 hw1 hb1 epl
  go_wp2_with fail
  refine (HES.out _ HW1.out).mono ?_
  rintro e w2 ⟨rfl, hb2⟩
  have kp2 := KP1.out.below hb2 KP1.out.lt
  have hw2 := HW1.out.trans (hb2.mono HW1.out.size)
  have t0 : w2.cell? ⟨w.heap.size, 0, none⟩ = some (.int .i64 (p : Int)) := kp2.cell 0
  have t1 : w2.cell? ⟨w.heap.size, 1, none⟩ = some (.int .i64 ((k : Int) + 1)) := kp2.cell 1
  have t2 : w2.cell? ⟨w.heap.size, 2, none⟩ = some (.int .i64 (hold : Int)) := kp2.cell 2
  have KP2 := Lib.hid kp2
  have HW2 := Lib.hid hw2
  clear kp2 hw2 hb2 s0 s1 s2
  go_wp2_with fail
  refine (HER.out _ HW2.out).mono ?_
  rintro e w3 ⟨rfl, hb3⟩
  have kp3 := KP2.out.below hb3 KP2.out.lt
  have hw3 := HW2.out.trans (hb3.mono HW2.out.size)
  have s0 : w3.cell? ⟨w.heap.size, 0, none⟩ = some (.int .i64 (p : Int)) := kp3.cell 0
  have s1 : w3.cell? ⟨w.heap.size, 1, none⟩ = some (.int .i64 ((k : Int) + 1)) := kp3.cell 1
  have s2 : w3.cell? ⟨w.heap.size, 2, none⟩ = some (.int .i64 (hold : Int)) := kp3.cell 2
  have KP3 := Lib.hid kp3
  have HW3 := Lib.hid hw3
  clear kp3 hw3 hb3 t0 t1 t2
  go_wp2_with fail
  refine (HRD.out _).mono ?_
  rintro e w4 ⟨rfl, hb4⟩
  have kp4 := KP3.out.below hb4 KP3.out.lt
  have hw4 := HW3.out.trans (hb4.mono HW3.out.size)
  have t0 : w4.cell? ⟨w.heap.size, 0, none⟩ = some (.int .i64 (p : Int)) := kp4.cell 0
  have t1 : w4.cell? ⟨w.heap.size, 1, none⟩ = some (.int .i64 ((k : Int) + 1)) := kp4.cell 1
  have t2 : w4.cell? ⟨w.heap.size, 2, none⟩ = some (.int .i64 (hold : Int)) := kp4.cell 2
  have KP4 := Lib.hid kp4
  have HW4 := Lib.hid hw4
  clear kp4 hw4 hb4 s0 s1 s2
  go_wp2_with fail
  refine (HND.out _).mono ?_
  rintro e w5 ⟨D, g, cap, rfl, hD, hbd, hdt, hb5⟩
  have z4 := KP4.out.lt
  have kp5 := KP4.out.below hb5 KP4.out.lt
  have hw5 := HW4.out.trans (hb5.mono HW4.out.size)
  have s1 : w5.cell? ⟨w.heap.size, 1, none⟩ = some (.int .i64 ((k : Int) + 1)) := kp5.cell 1
  have hsz4 := HW4.out.size
  have HBD := Lib.hid hbd
  have HDT := Lib.hid hdt
  have HW5 := Lib.hid hw5
  have HB5 := Lib.hid hb5
  clear kp5 hw5 hb5 hbd hdt t0 t1 t2
  have hgB : w4.heap.size ≤ g := (HDT.out.row.lt g rfl).1
  have hcap : hold ≤ cap := by
    rcases id HDT.out.row.2 with ⟨h, _⟩ | ⟨g', cap', cur, h, _, _, h3, _⟩
    · cases h
    · injection h with _ _ e3; omega
  go_wp2_with fail
  obtain ⟨B, hBe⟩ : ∃ B, w4.heap.size = B := ⟨_, rfl⟩
  rw [hBe] at hD hgB hsz4 z4 HDT
  have hw5s := HB5.out.size
  rw [hBe] at hw5s
  clear hBe HB5 KP4 KP3 KP2 KP1 HW4 HW3 HW2 HW1 KP HVA HES HER HRD HND HBA HWA s1
  go_loopw [47] (fun i wr => ∃ (t : Nat) (us : Nat → Value), t ≤ ns ∧ i = .int .i64 (t : Int) ∧ Blk wr D 138 #[.int .i64 (p : Int), .int .i64 ((k : Int) + 1), .int .i64 (hold : Int), .slice (some ⟨g, 0, none⟩) hold cap] ∧
    DealT wr B g cap hold us (fun j => (List.range t).map (dealV p k (j + 1) sec rnd)) ∧ Below w.heap.size w wr) (fun i _ => ns - (intOf i).toNat)
  case atStart => exact ⟨0, nilU, by omega, rfl, HBD.out, HDT.out, HW5.out⟩
  case round =>
    clear HBD HDT HW5
    obtain ⟨t, us, ht, rfl, hbd, hdt, hbl⟩ := hrel
    have hzz := hbl.size
    have zD := hbd.lt
    have zg := (hdt.row.lt g rfl).2
    by_cases htn : t < ns
    · have hsr := HS.out.below hbl
      obtain ⟨A', n', c', hv, e2, e3, hcs'⟩ := hsr
      injection hv with v1 v2 v3
      subst v1 v2 v3
      obtain ⟨b, off, rfl, hSo, hcell⟩ := hcs' (by omega)
      have ck := hcell t htn
      have hle : (t + 1) * k ≤ ns * k := Nat.mul_le_mul_right k htn
      have hle2 : t * k ≤ (t + 1) * k := Nat.mul_le_mul_right k (by omega)
      have g1 : (t : Int) * (k : Int) = ((t * k : Nat) : Int) := (Int.natCast_mul t k).symm
      have g2 : ((t : Int) + 1) * (k : Int) = (((t + 1) * k : Nat) : Int) := by rw [Int.natCast_mul]; rfl
      have hnn := HNN.out
      have m0 : 0 ≤ (t : Int) * (k : Int) := by omega
      have m1 : (t : Int) * (k : Int) ≤ ((t : Int) + 1) * (k : Int) := by omega
      have m2 : ((t : Int) + 1) * (k : Int) ≤ (cr : Int) := by omega
      have m3 : ((t : Int) * (k : Int)).toNat = t * k := by omega
      have m4 : (((t : Int) + 1) * (k : Int)).toNat = (t + 1) * k := by omega
      have m5 : ((t : Int) + 1) * (k : Int) ≤ 1000000 := by omega
      have q1 : (t : Int) < (ns : Int) := by omega
      have HBD := Lib.hid hbd
      have HDT := Lib.hid hdt
      have HBL := Lib.hid hbl
      have hsl := fun (W : World) => run_slice_lohi (P := Tryz.prog) W 24 3 i0 1 Tryz.underlying24 hi hz1 Ar nr cr (t * k) ((t + 1) * k) hle2 (by omega) ((t : Int) * (k : Int)) (((t : Int) + 1) * (k : Int)) g1 g2
      have hdk : (t + 1) * k - t * k = k := by rw [Nat.add_mul, Nat.one_mul, Nat.add_sub_cancel_left]
      simp only [hdk] at hsl
      obtain ⟨x, hx⟩ : ∃ x, sec.getD t 0 = x := ⟨_, rfl⟩
      obtain ⟨R, hR⟩ : ∃ R, (rnd.drop (t * k)).take k = R := ⟨_, rfl⟩
      rw [hx] at ck
      have hrd : Reads wr w.heap.size 1 (subA Ar cr (t * k) 1) k (R.map (Value.int .i64)) := by
        have := (HRR.out.below HBL.out).sub (lo := t * k) (hg := (t + 1) * k) (cap := cr) hle2 (by omega) hcr
        rw [hdk, Nat.mul_one, Nat.mul_one, ← List.map_drop, ← List.map_take, hR] at this
        exact this
      have hRl : R.length = k := by have := hrd.1; simpa using this
      have hval : ∀ j : Nat, dealV p k (j + 1) sec rnd t = ev (x :: R) ((j : Int) + 1) % (p : Int) := fun j => by unfold dealV; rw [hx, hR, evH_eq _ _ hp1]; rfl
      have hin : InF p (x :: R) := by
        intro i hi
        cases i with
        | zero => have := fs t (by have := HNS.out; omega); rw [hx] at this; exact this
        | succ i =>
          have hi' : i < R.length := by simpa using hi
          have h3 := LR.out
          have h5 := HNS.out
          have h4 := HNN.out
          have h6 := HNR.out
          have := fr (t * k + i) (by omega)
          have e : (x :: R).getD (i + 1) 0 = rnd.getD (t * k + i) 0 := by
            rw [List.getD_eq_getElem?_getD, List.getElem?_cons_succ, ← hR, List.getElem?_take, if_pos (by omega), List.getElem?_drop, ← List.getD_eq_getElem?_getD]
          rwa [e]
      have HRD := Lib.hid hrd
      have HVAL := Lib.hid hval
      have HIN := Lib.hid hin
      have kl : k ≤ 16 := by omega
      have lR : (x :: R).length ≤ 1000 := by simp; omega
      clear hbd hdt hbl hcell hcs' g1 g2 hnn e2 e3 hdk hrd hx hR hval hin
      go_wp2_with (at_builtin; refine wpList_append_any _ rfl (.tmp 54) (.tmp 63) _ rfl wr.heap.size 3 i0 _ 1 8 Tryz.underlying24 hi hz0 hz1 hz2 rfl (by omega) (.slice (some ⟨wr.heap.size, 0, none⟩) 1 1) 1 [.int .i64 x] rfl (own_built wr wr.heap.size 3 _ (Nat.le_refl _)) w.heap.size (subA Ar cr (t * k) 1) k (cr - t * k) (R.map (Value.int .i64)) rfl (HRD.out.alloc (by omega) _) (ints_oneCell .i64 _) (by simp only [maxLen]; omega) (by omega) (by simp) ?_)
      intro v' w6 hown' hgrow hloc
      have hg0 : wr.grownBy w6 (some wr.heap.size) := ⟨hgrow.os, hgrow.tape, hgrow.output, Nat.le_trans (by simp) hgrow.size, fun i hi hn => (hgrow.block i (by simp; omega) (by simpa [Value.ownBlock] using hn)).trans (Below.heap_alloc wr _ i hi)⟩
      have hb6' : Below wr.heap.size wr w6 := (Below.refl _ _).grown hg0 (Nat.le_refl _) (fun g hg => by injection hg with hg; omega)
      have hb6 := HBL.out.trans (hb6'.mono (by omega))
      have hbd6 := HBD.out.below hb6' zD
      have hdt6 := HDT.out.below hb6'
      have hpo : IntsAt w6 (fun b => wr.heap.size ≤ b ∧ b < w6.heap.size) v' (x :: R) := IntsAt.of_own (n := 1 + k) hown'
      have hzw6 := hb6'.size
      have hdl := s_deal p (k + 1) hold D B g cap us _ v' (x :: R) _ w6 hp1 h2 n3 hbd6 (by omega) hcap hdt6 hgB hpo (fun b hb => ⟨hb.2, by have := hb.1; omega, fun i hi e => by have := ((HDT.out.own i hi).lt b e).2; have := hb.1; omega⟩) lR HIN.out (fun j hj => by simp; omega)
      have HDL := Lib.hid hdl
      have HB6 := Lib.hid hb6
      clear hown' hgrow hloc hg0 hb6' hb6 hbd6 hdt6 hpo hsl hdl
      go_wp2_with fail
      refine HDL.out.mono ?_
      rintro e w7 ⟨us', rfl, hbd7, hdt7, hb7⟩
      have hb8 := HB6.out.trans (hb7.mono hsz4)
      have HBD7 := Lib.hid hbd7
      have HDT7 := Lib.hid hdt7
      have HB8 := Lib.hid hb8
      clear hbd7 hdt7 hb7 hb8
      go_wp2_with fail
      go_roundw
      case measure => simp [intOf]; omega
      case rel =>
        refine ⟨t + 1, us', by omega, by go_num, HBD7.out, ?_, HB8.out⟩
        have e : (fun j : Nat => (List.range (t + 1)).map (dealV p k (j + 1) sec rnd)) = fun j : Nat => (List.range t).map (dealV p k (j + 1) sec rnd) ++ [ev (x :: R) ((j : Int) + 1) % (p : Int)] := by
          funext j
          rw [List.range_succ, List.map_append, ← HVAL.out j]; rfl
        rw [e]
        exact HDT7.out
    · have htn' : t = ns := by omega
      subst htn'
      have c3 : wr.cell? ⟨D, 3, none⟩ = some (.slice (some ⟨g, 0, none⟩) hold cap) := hbd.cell 3
      have HDT := Lib.hid hdt
      have HBL := Lib.hid hbl
      clear hbd hdt hbl
      go_wp2_with fail
      go_ret2
      refine ⟨_, rfl, ?_, HBL.out⟩
      have h := (HDT.out.mono (B' := w.heap.size) hsz4)
      rw [HNS.out] at h
      exact h.sh
end Go.Proofs.YtjfphobfikadlaaGreatDoor
namespace Go.Proofs.YtjfphobfikadlaaGreatDoor
open Go.RowKit Num

/-- What is summed of a share. -/
def markB (h : Int) (xs : List Int) : ByteArray := ⟨(putB h ++ putsB xs).toArray⟩
def markS (h : Int) (xs : List Int) : ByteArray := shaOf (markB h xs)
theorem markS_size (h : Int) (xs : List Int) : (markS h xs).size = 32 := shaOf_size _
def MarkPost (h : Int) (xs : List Int) (w : World) (e : Ending) (w' : World) : Prop := e = .returned (.string (markS h xs)) ∧ Below w.heap.size w w'
theorem putsB_len (xs : List Int) : (putsB xs).length ≤ 11 * xs.length + 11 := by
  unfold putsB; rw [List.length_append]; have := putB_len (xs.length : Int); have := putsL_len xs; omega
set_option maxRecDepth 100000 in
set_option maxHeartbeats 1000000 in
theorem c_Mark (h : Int) (v : Value) (xs : List Int) (S : Nat → Prop) (w : World) (hv : IntsAt w S v xs) (hS : ∀ b, S b → b < w.heap.size) (hl : xs.length ≤ 100000) (hr : I64s xs) (h1 : -9223372036854775808 ≤ h) (h2 : h < 9223372036854775808) :
    Calls Tryz.prog 53 #[.agg #[.int .i64 h, v]] w (MarkPost h xs w) := by
  obtain ⟨A, n, c, rfl, hn, hnc, hcc⟩ := id hv
  have hp := fun (W : World) => c_PutInt ⟨#[]⟩ h W h1 h2 (by decide)
  unfold PutPost at hp
  simp only [bytes_empty] at hp
  have hlen := putB_len h
  have hz : (⟨(putB h).toArray⟩ : ByteArray).size < 4294967296 := by show (putB h).toArray.size < _; rw [List.size_toArray]; omega
  have hq := fun (W : World) (hW : Below w.heap.size w W) => c_PutInts ⟨(putB h).toArray⟩ (.slice A n c) xs S W (hv.keep fun b hb => hW.block b (hS b hb)) (fun b hb => by have := hS b hb; have := hW.size; omega) (by omega) hr hz
  unfold PutsPost at hq
  simp only [bytes_two] at hq
  have hm := putsB_len xs
  have hs := fun (W : World) => d_Sum (markB h xs) W (by show (putB h ++ putsB xs).toArray.size < _; rw [List.size_toArray, List.length_append]; omega)
  unfold markB at hs
  have HP := Lib.hid hp
  have HQ := Lib.hid hq
  have HS := Lib.hid hs
  clear hp hq hs hv hn hcc hr
  have p1 : (w.alloc (.cells #[.int .i64 h, .slice A n c] 49)).cell? ⟨w.heap.size, 0, none⟩ = some (.int .i64 h) := by rw [World.cell?_alloc_new]; rfl
  have p2 : (w.alloc (.cells #[.int .i64 h, .slice A n c] 49)).cell? ⟨w.heap.size, 1, none⟩ = some (.slice A n c) := by rw [World.cell?_alloc_new]; rfl
  have hba := (Below.refl w.heap.size w).alloc (Nat.le_refl _) (.cells #[.int .i64 h, .slice A n c] 49)
  go_enter Tryz.func53, Tryz.ntmps53
  go_wp2_with fail
  generalize w.alloc (.cells #[.int .i64 h, .slice A n c] 49) = w1 at *
  go_region_held3 (fun W => W.cell? ⟨w.heap.size, 0, none⟩ = some (.int .i64 h) ∧ W.cell? ⟨w.heap.size, 1, none⟩ = some (.slice A n c) ∧ Below w.heap.size w W)
    (first
      | exact ⟨p1, p2, hba.drew⟩
      | (go_split_ands
         refine ⟨?_, ?_, ?_⟩
         · (rw [hbk.cell (World.block_lt_of_cell? _ _ ‹_›)]; assumption)
         · (rw [hbk.cell (World.block_lt_of_cell? _ _ ‹_›)]; assumption)
         · exact Below.trans ‹Below w.heap.size w _› (hbk.mono (‹Below w.heap.size w _›).size)))
    (first
      | (go_at_call 103; ((with_reducible refine (HP.out _).mono ?_); rintro e wk ⟨rfl, hbk⟩))
      | (go_at_call 102; ((with_reducible refine (HQ.out _ (by go_split_ands; assumption)).mono ?_); rintro e wk ⟨rfl, hbk⟩))
      | (go_at_call 60; ((with_reducible refine (HS.out _).mono ?_); rintro e wk ⟨rfl, hbk⟩)))
  all_goals
    go_split_ands
    have hbf : Below w.heap.size w wk := by assumption
    go_wp2_with fail
    go_ret
    exact ⟨rfl, hbf⟩
end Go.Proofs.YtjfphobfikadlaaGreatDoor

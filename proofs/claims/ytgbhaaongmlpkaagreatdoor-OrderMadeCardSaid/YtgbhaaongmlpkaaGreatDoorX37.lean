/- Contracts: the reference's Batches. Contracts: slices.IsSortedFunc of ranked statements. Contracts: order.Sorted. -/
import Derived.Test.YtgbhaaongmlpkaaGreatDoorX36
import Derived.Test.YtgbhaaongmlpkaaGreatDoorX31
import Derived.Test.YtgbhaaongmlpkaaGreatDoorX21
import Derived.Test.YtgbhaaongmlpkaaGreatDoorX30
import Derived.BigRegion
import Derived.Deep.RegionLaw
set_option linter.unusedVariables false
set_option linter.unusedSimpArgs false
namespace Go.Proofs.YtgbhaaongmlpkaaGreatDoor
open Go.RowKit Num

theorem subA_some {b off c a size : Nat} (h : a < c) : subA (some ⟨b, off, none⟩) c a size = some ⟨b, off + a * size, none⟩ := by
  unfold subA
  rw [if_neg (by omega)]
  unfold Addr.add
  simp only [Option.map_some]
  split
  · rename_i h0; rw [h0, Nat.add_zero]
  · rfl
theorem range_map (L : List Stm) : (List.range L.length).map (stmL L) = L := by
  apply List.ext_getElem?
  intro k
  rw [List.getElem?_map]
  by_cases hk : k < L.length
  · rw [List.getElem?_range hk, List.getElem?_eq_getElem hk]
    unfold stmL
    rw [Option.map_some, List.getD_eq_getElem?_getD, List.getElem?_eq_getElem hk]; rfl
  · rw [List.getElem?_eq_none (by simpa using Nat.le_of_not_lt hk), List.getElem?_eq_none (by omega)]; rfl
theorem src_reads {w : World} {S : Nat → Prop} {A : Option Addr} {L : List Stm} {us : Nat → V3} (h : SrcAt w S A L us) (hS : ∀ b, S b → b < w.heap.size) : Reads w w.heap.size 6 A L.length (rowO L us (List.range L.length)) := by
  refine ⟨by rw [rowO_len, List.length_range], fun h0 => ?_⟩
  obtain ⟨b, off, hA, hb, hc⟩ := h h0
  refine ⟨⟨b, off, none⟩, hA, hS b hb, fun j u hu => ?_⟩
  have hl : j < L.length * 6 := by
    have := (List.getElem?_eq_some_iff.1 hu).1
    rw [rowO_len, List.length_range] at this; exact this
  have hk : j / 6 < L.length := by omega
  have hj : j % 6 < 6 := Nat.mod_lt _ (by decide)
  have hg := fm_get (fun q => stmCell (stmL L q) (us q)) 6 (fun _ => rfl) (List.range L.length) (j / 6) (j % 6) (by simpa using hk) hj
  have e : j / 6 * 6 + j % 6 = j := by omega
  have er : (List.range L.length).getD (j / 6) 0 = j / 6 := by rw [List.getD_eq_getElem?_getD, List.getElem?_range hk]; rfl
  rw [e, er] at hg
  have hu2 : (stmCell (stmL L (j / 6)) (us (j / 6)))[j % 6]? = some u := hg.symm.trans hu
  have h1 := (hc (j / 6) hk).1 (j % 6) hj
  rw [List.getD_eq_getElem?_getD, hu2, show off + j / 6 * 6 + j % 6 = off + j by omega] at h1
  have ha : (⟨b, off, none⟩ : Addr).add j = ⟨b, off + j, none⟩ := by
    unfold Addr.add
    split
    · rename_i h0; subst h0; rfl
    · rfl
  rw [ha]; exact h1
theorem part_eq (L : List Stm) (z k m : Nat) (hm : m = chM L.length z k) : (((List.range L.length).drop (k * z)).take m).map (stmL L) = partL L z k := by
  rw [List.map_take, List.map_drop, range_map]
  unfold partL
  rw [hm]
  unfold chM
  rw [List.take_eq_take_iff, List.length_drop]; omega
set_option maxRecDepth 100000 in
set_option maxHeartbeats 4000000 in
theorem r_BatchesQ (zi : Int) (A : Option Addr) (n c : Nat) (L : List Stm) (S : Nat → Prop) (w : World) (hv : StmsAt w S (.slice A n c) L) (hS : ∀ b, S b → b < w.heap.size) (hL : L.length ≤ 1000) (hz9 : -9223372036854775808 ≤ zi ∧ zi < 9223372036854775808) :
    Calls Tryz.prog 23 #[.slice A n c, .int .i64 zi] w (BtsQ L zi w) := by
  by_cases h : 1 ≤ zi ∧ zi ≤ 256
  · by_cases h2 : L.length ≤ 256
    · obtain ⟨i0, hi, hz0, hz1, hz2⟩ := info_parts infoSt
      obtain ⟨j0, hj, hy0, hy1, hy2⟩ := info_parts infoL
      obtain ⟨A', c', us, he, hnc, hsrc⟩ := hv.src
      injection he with e1 e2 e3
      subst e1 e2 e3
      have hrds := src_reads hsrc hS
      have hone := rowO_one (S := S) (w := w) (L := L) (us := us) (P := List.range L.length) (fun q hq => by
        obtain ⟨b, off, -, -, hc⟩ := hsrc (by have := List.mem_range.1 hq; omega)
        exact (hc q (List.mem_range.1 hq)).2)
      have hsts : ∀ q, q < L.length → StmAt w S (us q).a (us q).c (us q).s (stmL L q) := fun q hq => by
        obtain ⟨b, off, -, -, hc⟩ := hsrc (by omega)
        exact (hc q hq).2
      have hA : 0 < L.length → ∃ b off, A = some ⟨b, off, none⟩ := fun h0 => by
        obtain ⟨b, off, hA, -, -⟩ := hsrc h0
        exact ⟨b, off, hA⟩
      obtain ⟨z, rfl⟩ : ∃ z : Nat, zi = (z : Int) := ⟨zi.toNat, by omega⟩
      have hz : 1 ≤ z := by omega
      have hz6 : z ≤ 256 := by omega
      have hqlt := fun k => chQ_lt (len := L.length) (z := z) (k := k) hz
      have hQ0 : btsZ L (z : Int) = 0 := by unfold btsZ; rw [if_pos h, if_pos h2]
      have hN : btsN L (z : Int) = chQ L.length z := by unfold btsN; rw [if_pos hQ0]; rfl
      have hq6 := chQ_le (len := L.length) hz h2
      obtain ⟨q, hq⟩ : ∃ q, chQ L.length z = q := ⟨_, rfl⟩
      rw [hq] at hN hq6
      have hpart := fun k m => part_eq L z k m
      have hchm : ∀ k, chM L.length z k = min z (L.length - k * z) := fun k => rfl
      have hsplit : ∀ a m, a + m ≤ L.length → ∀ x ∈ ((List.range L.length).drop a).take m, x < L.length := fun a m _ x hx => List.mem_range.1 (List.mem_of_mem_drop (List.mem_of_mem_take hx))
      have hplen : ∀ a m, a + m ≤ L.length → (((List.range L.length).drop a).take m).length = m := fun a m h => by rw [List.length_take, List.length_drop, List.length_range]; omega
      have hrow : ∀ a m, ((rowO L us (List.range L.length)).drop (a * 6)).take (m * 6) = rowO L us (((List.range L.length).drop a).take m) := fun a m => by
        unfold rowO; rw [fm_drop _ 6 (fun _ => rfl), fm_take _ 6 (fun _ => rfl)]
      obtain ⟨n, hn⟩ : ∃ n, L.length = n := ⟨_, rfl⟩
      rw [hn] at hnc hrds hone hA hqlt h2 hpart hchm hsplit hplen hrow hq ⊢
      have hsts' : ∀ q, q < n → StmAt w S (us q).a (us q).c (us q).s (stmL L q) := fun q hq => hsts q (by omega)
      have HRDS := Lib.hid hrds
      have HONE := Lib.hid hone
      have HSTS := Lib.hid hsts'
      have HAA := Lib.hid hA
      have HQLT := Lib.hid hqlt
      have HQ0 := Lib.hid hQ0
      have HNN := Lib.hid hN
      have HPART := Lib.hid hpart
      have HCHM := Lib.hid hchm
      have HSPL := Lib.hid hsplit
      have HPLEN := Lib.hid hplen
      have HROW := Lib.hid hrow
      have HS := Lib.hid hS
      have HQQ := Lib.hid hq
      have zz : ¬ (z : Int) < 1 := by omega
      have zy : ¬ (256 : Int) < (z : Int) := by omega
      have zl : ¬ (256 : Int) < (n : Int) := by omega
      have HNL := Lib.hid hn
      clear hv hsrc hrds hone hsts hsts' hA hqlt hQ0 hN hpart hchm hsplit hplen hrow hS hq hL h hn hz9
      go_enter Tryz.func23, Tryz.ntmps23
      go_wp2_with fail
      go_loopw [6, 7] (fun v6 v7 wr => ∃ (k : Nat) (A6 : Option Addr) (c6 : Nat) (outs : Nat → Value), k ≤ q ∧ v7 = .int .i64 ((k * z : Nat) : Int) ∧ v6 = .slice A6 k c6 ∧ wr.ownsRow w.heap.size 28 1 v6 k ((List.range k).map outs) ∧ (∀ j, j < k → StmsAt wr (fun b => b < wr.heap.size ∧ v6.ownBlock ≠ some b) (outs j) (partL L z j)) ∧ Below w.heap.size w wr) (fun _ v7 _ => q * z - (intOf v7).toNat)
      case atStart => exact ⟨0, none, 0, fun _ => undef, by omega, by simp, rfl, World.ownsRow_nil _ _ _ _, (fun j hj => absurd hj (by omega)), Below.refl _ _⟩
      case round =>
        obtain ⟨k, A6, c6, outs, hk, rfl, rfl, ho, hp, hb⟩ := hrel
        have HO := Lib.hid ho
        have HP := Lib.hid hp
        have HB := Lib.hid hb
        have hsz := hb.size
        clear ho hp hb
        have hkz := HQLT.out k
        rw [HQQ.out] at hkz
        by_cases hlt : k < q
        · have hlz := hkz.1 hlt
          have hsucc : (k + 1) * z = k * z + z := Nat.succ_mul k z
          have hqz : (k + 1) * z ≤ q * z := Nat.mul_le_mul_right z hlt
          have hm0 := HCHM.out k
          have hpq := HPART.out k (chM n z k) rfl
          have HPQ := Lib.hid hpq
          obtain ⟨m, hm⟩ : ∃ m, chM n z k = m := ⟨_, rfl⟩
          rw [hm] at hm0 HPQ
          obtain ⟨a, ha⟩ : ∃ a, k * z = a := ⟨_, rfl⟩
          rw [ha] at hlz hsucc hm0 HPQ ⊢
          have hm1 : 1 ≤ m := by omega
          have ham : a + m ≤ n := by omega
          obtain ⟨h, hh⟩ : ∃ h, a + m = h := ⟨_, rfl⟩
          have hmin : min (n : Int) ((a : Int) + (z : Int)) = (h : Int) := by omega
          obtain ⟨b, off, rfl⟩ := HAA.out (by omega)
          have hsl : ∀ W : World, (Instr.slice 28 (.slice (some ⟨b, off, none⟩) n c) (some (.int .i64 (a : Int))) (some (.int .i64 (h : Int))) none).run Tryz.prog W = .ok (.slice (some ⟨b, off + a * 6, none⟩) m (c - a)) W := fun W => by
            rw [run_slice_lohi (P := Tryz.prog) W 28 36 i0 6 Tryz.underlying28 hi hz1 (some ⟨b, off, none⟩) n c a h (by omega) (by omega) (a : Int) (h : Int) rfl rfl, subA_some (by omega), show h - a = m by omega]
          have hrp : Reads wr w.heap.size 6 (some ⟨b, off + a * 6, none⟩) m (rowO L us (((List.range n).drop a).take m)) := by
            have := (HRDS.out.below HB.out).sub (lo := a) (hg := h) (cap := c) (by omega) (by omega) hnc
            rw [subA_some (by omega), show h - a = m by omega, HROW.out a m] at this
            exact this
          have hro : ∀ u ∈ rowO L us (((List.range n).drop a).take m), u.oneCell' = true := fun u hu => HONE.out u (by rw [← HROW.out a m] at hu; exact List.mem_of_mem_drop (List.mem_of_mem_take hu))
          have hpl := HPLEN.out a m ham
          have hpm := HSPL.out a m ham
          generalize ((List.range n).drop a).take m = Q at *
          have zi : (a : Int) < (n : Int) := by omega
          have za : (0 : Int) ≤ (a : Int) := by omega
          have ha6 : a ≤ 256 := by omega
          have hm6 : m ≤ 256 := by omega
          have HSU := Lib.hid hsucc
          have HQZ := Lib.hid hqz
          have HAE := Lib.hid ha
          have HPL := Lib.hid hpl
          have HPM := Lib.hid hpm
          have HRP := Lib.hid hrp
          have HRO := Lib.hid hro
          have HKQ := Lib.hid hlt
          have HHH := Lib.hid hh
          have hn9 : n ≤ 256 := h2
          clear hlz hsucc hqz hm0 hm hpq ha hpl hpm hrp hro hkz hlt hh ham
          go_wp2_with (at_builtin; refine wpList_append_any _ rfl _ _ 28 rfl wr.heap.size 36 i0 (.agg #[.string ⟨#[]⟩, .int .i64 0, .int .i64 0, .slice none 0 0, .slice none 0 0, .slice none 0 0]) 6 104 Tryz.underlying28 hi hz0 hz1 hz2 rfl (by decide) (.slice none 0 0) 0 [] rfl (World.ownsRow_nil _ _ _ _) w.heap.size (some ⟨b, off + a * 6, none⟩) m (c - a) (rowO L us Q) rfl HRP.out HRO.out (by unfold maxLen; omega) (by omega) (Nat.le_refl _) ?_)
          intro v1 w1 hown1 hgrow1 hat1
          have hg1 : wr.grownBy w1 none := ⟨hgrow1.os, hgrow1.tape, hgrow1.output, hgrow1.size, hgrow1.block⟩
          have hb1 : Below wr.heap.size wr w1 := (Below.refl _ _).grown hg1 (Nat.le_refl _) (fun g hg => by cases hg)
          have hs1 := hb1.size
          have ho1 : w1.ownsRow wr.heap.size 36 6 v1 m (rowO L us Q) := by simpa using hown1
          obtain ⟨g1, cap1, hv1, hg1a, hg1b⟩ := World.ownsRow.form ho1 (by omega)
          subst hv1
          have HO1 := Lib.hid ho1
          have HB1 := Lib.hid hb1
          have hor := (HO.out.kept hg1 (by cases (Value.slice A6 k c6).ownBlock <;> simp)).alloc (.cells #[.slice (some ⟨g1, 0, none⟩) m cap1] 28)
          have HOR := Lib.hid hor
          clear hown1 hgrow1 hat1 hg1 hb1 ho1 hor
          go_wp2_with (at_builtin; refine wpList_append_own_at _ rfl _ _ 47 rfl w.heap.size 28 j0 (.slice none 0 0) 1 24 Tryz.underlying47 hj hy0 hy1 hy2 rfl (by decide) _ _ _ rfl HOR.out ⟨w1.heap.size, 0, none⟩ 1 1 [.slice (some ⟨g1, 0, none⟩) m cap1] rfl rfl (cell_one_new _ _ _) (by intro u hu; rw [List.mem_singleton.1 hu]; rfl) (by unfold maxLen; omega) (by omega) (by simp; omega) ?_)
          intro v2 w2 hown2 hgrow2 _ hat2
          obtain ⟨A7, c7, rfl⟩ := own_slice hown2
          have hlow : ∀ g, (Value.slice A6 k c6).ownBlock = some g → w.heap.size ≤ g ∧ g < wr.heap.size := fun g hg => HO.out.lt g hg
          have hg2 : w1.grownBy w2 (Value.slice A6 k c6).ownBlock := ⟨hgrow2.os, hgrow2.tape, hgrow2.output, Nat.le_trans (by simp) hgrow2.size, fun i hi hn => (hgrow2.block i (by simp; omega) hn).trans (Below.heap_alloc w1 _ i hi)⟩
          have hs2 := hg2.size
          have hb2 : Below w.heap.size w w2 := (HB.out.trans (HB1.out.mono hsz)).grown hg2 (by omega) (fun g hg => (hlow g hg).1)
          have hkp : ∀ q, q < wr.heap.size → (Value.slice A6 k c6).ownBlock ≠ some q → w2.heap[q]? = wr.heap[q]? := fun q hq hne => (hg2.block q (by omega) (fun e => hne e.symm)).trans (HB1.out.block q hq)
          have hatn : ∀ q, (Value.slice A7 (k + 1) c7).ownBlock = some q → (Value.slice A6 k c6).ownBlock = some q ∨ w1.heap.size ≤ q := fun q hq => by
            rcases hat2 with e | e
            · exact .inl (e ▸ hq)
            · rw [e] at hq; injection hq with hq; exact .inr (by omega)
          have hold : ∀ j, j < k → StmsAt w2 (fun b => b < w2.heap.size ∧ (Value.slice A7 (k + 1) c7).ownBlock ≠ some b) (outs j) (partL L z j) := fun j hj => ((HP.out j hj).keep fun b hb => hkp b hb.1 hb.2).mono fun b hb => ⟨by have := hb.1; omega, fun e => by
            rcases hatn b e with e2 | e2
            · exact hb.2 e2
            · have := hb.1; omega⟩
          have ho1w : w2.ownsRow wr.heap.size 36 6 (.slice (some ⟨g1, 0, none⟩) m cap1) m (rowO L us Q) := HO1.out.kept hg2 (by
            refine .inr fun e => ?_
            have := (hlow g1 e.symm).2
            omega)
          have hnew : StmsAt w2 (fun b => b < w2.heap.size ∧ (Value.slice A7 (k + 1) c7).ownBlock ≠ some b) (.slice (some ⟨g1, 0, none⟩) m cap1) (partL L z k) := by
            have h1 := stms_rowS (L := L) (us := us) (P := Q) (T := S) (by rw [HPL.out]; exact ho1w) (fun x hx => (HSTS.out x (HPM.out x hx)).keep fun b hb => hb2.block b (HS.out b hb))
            rw [HPQ.out] at h1
            refine h1.mono fun b hb => ?_
            rcases hb with hb | hb
            · have := HS.out b hb
              refine ⟨by omega, fun e => ?_⟩
              rcases hatn b e with e2 | e2
              · have := (hlow b e2).1; omega
              · omega
            · have hb' : b = g1 := by
                obtain hb := hb
                injection hb with hb
                exact hb.symm
              subst hb'
              refine ⟨by omega, fun e => ?_⟩
              rcases hatn b e with e2 | e2
              · have := (hlow b e2).2; omega
              · omega
          have HOLD := Lib.hid hold
          have HNEW := Lib.hid hnew
          have HO2 := Lib.hid hown2
          have HB2 := Lib.hid hb2
          clear hown2 hgrow2 hat2 hlow hg2 hb2 hkp hatn hold ho1w hnew
          go_wp2_with fail
          go_roundw
          case measure =>
            have := HQZ.out
            have := HSU.out
            simp [intOf]; omega
          case rel =>
            refine ⟨k + 1, A7, c7, fun j => if j = k then .slice (some ⟨g1, 0, none⟩) m cap1 else outs j, HKQ.out, ?_, rfl, ?_, fun j hj => ?_, HB2.out⟩
            · rw [HSU.out]; go_num
            · have e : (List.range (k + 1)).map (fun j => if j = k then Value.slice (some ⟨g1, 0, none⟩) m cap1 else outs j) = (List.range k).map outs ++ [.slice (some ⟨g1, 0, none⟩) m cap1] := by
                rw [List.range_succ, List.map_append]
                congr 1
                · apply List.map_congr_left
                  intro j hj
                  have := List.mem_range.1 hj
                  rw [if_neg (by omega)]
                · simp
              rw [e]; exact HO2.out
            · dsimp only
              by_cases e : j = k
              · subst e; rw [if_pos rfl]; exact HNEW.out
              · rw [if_neg e]; exact HOLD.out j (by omega)
        · obtain rfl : k = q := by omega
          have zi : ¬ ((k * z : Nat) : Int) < (n : Int) := by
            have hz' : ¬ k * z < n := fun h => hlt (hkz.2 h)
            omega
          clear hkz hlt
          obtain ⟨a, ha⟩ : ∃ a, ((k * z : Nat) : Int) = a := ⟨_, rfl⟩
          rw [ha] at zi ⊢
          clear ha
          go_wp2_with fail
          go_ret2
          refine ⟨A6, c6, outs, by rw [HNN.out, HQ0.out]; rfl, fun j hj => ?_, fun j hj => ?_, HB.out⟩
          · rw [HNN.out] at hj
            obtain ⟨g, cap, hv, hg1, hg2⟩ := World.ownsRow.form HO.out (by omega)
            injection hv with e1 e2 e3
            subst e1 e3
            exact ⟨g, c6, rfl, rfl, hg2, own_cell HO.out j _ (by rw [List.getElem?_map, List.getElem?_range hj]; rfl)⟩
          · rw [HNN.out] at hj
            exact (HP.out j hj).mono fun b hb => hb.1
    · have HQ := Lib.hid (show btsZ L zi = 3 by unfold btsZ; rw [if_pos h, if_neg h2])
      obtain ⟨A', n', c', he, hn, hnc, hc⟩ := hv
      injection he with e1 e2 e3
      subst e1 e2 e3
      have z1 : (256 : Int) < (n : Int) := by omega
      have zz : ¬ zi < 1 := by omega
      have zy : ¬ (256 : Int) < zi := by omega
      clear hc hn hS h h2 hL
      go_enter Tryz.func23, Tryz.ntmps23
      go_wp2_with fail
      go_ret2
      exact BtsQ.err HQ.out (by decide) (Below.refl _ _)
  · have HQ := Lib.hid (show btsZ L zi = 2 by unfold btsZ; rw [if_neg h])
    by_cases zz : zi < 1
    · clear h hv hS hL
      go_enter Tryz.func23, Tryz.ntmps23
      go_wp2_with fail
      go_ret2
      exact BtsQ.err HQ.out (by decide) (Below.refl _ _)
    · have zy : (256 : Int) < zi := by omega
      clear h hv hS hL
      go_enter Tryz.func23, Tryz.ntmps23
      go_wp2_with fail
      go_ret2
      exact BtsQ.err HQ.out (by decide) (Below.refl _ _)
end Go.Proofs.YtgbhaaongmlpkaaGreatDoor
namespace Go.Proofs.YtgbhaaongmlpkaaGreatDoor
open Go.RowKit Num

/-- No rank is less than the one ahead. -/
def dnR (seed : ByteArray) (L : List Stm) (k : Nat) : Bool := decide (k = 0) || !rLess (rkAt seed L k) (rkAt seed L (k - 1))
def downR (seed : ByteArray) (L : List Stm) : Bool := (List.range L.length).all (dnR seed L)
theorem downR_yes {seed : ByteArray} {L : List Stm} (h : ∀ k, k < L.length → dnR seed L k = true) : downR seed L = true := by
  unfold downR; rw [List.all_eq_true]; intro k hk; exact h k (List.mem_range.1 hk)
theorem downR_no {seed : ByteArray} {L : List Stm} {k : Nat} (hk : k < L.length) (h : dnR seed L k = false) : downR seed L = false := by
  cases e : downR seed L with
  | false => rfl
  | true =>
    unfold downR at e
    rw [List.all_eq_true] at e
    have := e k (List.mem_range.2 hk)
    rw [h] at this; cases this
set_option maxRecDepth 100000 in
set_option maxHeartbeats 2000000 in
theorem s_IsSortedG (seed : ByteArray) (A : Option Addr) (n c : Nat) (L : List Stm) (us : Nat → V3) (B : Nat) (w : World) (hn : n = L.length) (ho : StsOwn w B 78 7 (.slice A n c) L us (rnkX seed L)) (hl : L.length ≤ 1000) :
    Calls Tryz.prog 35 #[.slice A n c, .func (.func 32) #[] #[]] w fun e w' => e = .returned (.bool (downR seed L)) ∧ Below w.heap.size w w' := by
  have hcells : ∀ k, k < n → ∃ g, A = some ⟨g, 0, none⟩ ∧ g < w.heap.size ∧ ∀ j, j < 7 → w.cell? ⟨g, k * 7 + j, none⟩ = (stmCell (stmL L k) (us k) ++ [.string (rkAt seed L k)])[j]? := fun k hk => by
    obtain ⟨g, cap, he, hB, hlt⟩ := ho.row.form (by omega)
    injection he with e1 e2 e3
    subst e1 e3
    refine ⟨g, rfl, hlt, fun j hj => ?_⟩
    have h2 := ho
    rw [hn] at h2
    exact h2.cells (fun _ => rfl) (by omega) hj
  have HC := Lib.hid hcells
  have HN := Lib.hid hn
  have hn1 : n ≤ 1000 := by omega
  clear hcells ho hn hl
  go_enter Tryz.func35, Tryz.ntmps35
  go_wp2_with fail
  go_loopw [5] (fun v5 wr => ∃ k : Nat, k ≤ n ∧ v5 = .int .i64 ((k : Int) - 1) ∧ (∀ q, k ≤ q → q < n → dnR seed L q = true) ∧ Below w.heap.size w wr) (fun v5 _ => (intOf v5 + 1).toNat)
  case atStart => exact ⟨n, by omega, by go_num, (fun q h1 h2 => absurd h1 (by omega)), Below.refl _ _⟩
  case round =>
    obtain ⟨k, hk, rfl, hzq, hb⟩ := hrel
    have HB := Lib.hid hb
    have HZQ := Lib.hid hzq
    have hsz := hb.size
    clear hb hzq
    by_cases hlt : 2 ≤ k
    · obtain ⟨i, rfl⟩ : ∃ i, k = i + 2 := ⟨k - 2, by omega⟩
      obtain ⟨g, rfl, hg, hc1⟩ := HC.out (i + 1) (by omega)
      obtain ⟨g', he, hg', hc0⟩ := HC.out i (by omega)
      injection he with he
      injection he with he
      subst he
      obtain ⟨a, ha⟩ : ∃ a, rkAt seed L (i + 1) = a := ⟨_, rfl⟩
      obtain ⟨b, hbb⟩ : ∃ b, rkAt seed L i = b := ⟨_, rfl⟩
      rw [ha] at hc1
      rw [hbb] at hc0
      have HAA := Lib.hid ha
      have HBB := Lib.hid hbb
      clear ha hbb
      generalize stmL L (i + 1) = s1 at hc1
      generalize stmL L i = s0 at hc0
      generalize us (i + 1) = u1 at hc1
      generalize us i = u0 at hc0
      obtain ⟨x3, x4, x5⟩ := u1
      obtain ⟨y3, y4, y5⟩ := u0
      obtain ⟨x0, x1, x2, z1, z2, z3⟩ := s1
      obtain ⟨y0, y1, y2, z4, z5, z6⟩ := s0
      have E : ∀ j u, j < 7 → (stmCell ⟨x0, x1, x2, z1, z2, z3⟩ ⟨x3, x4, x5⟩ ++ [.string a])[j]? = some u → wr.drew.cell? ⟨g, (i + 1) * 7 + j, none⟩ = some u := fun j u hj hu => (HB.out.cell (p := ⟨g, (i + 1) * 7 + j, none⟩) hg).trans ((hc1 j hj).trans hu)
      have D : ∀ j u, j < 7 → (stmCell ⟨y0, y1, y2, z4, z5, z6⟩ ⟨y3, y4, y5⟩ ++ [.string b])[j]? = some u → wr.drew.cell? ⟨g, i * 7 + j, none⟩ = some u := fun j u hj hu => (HB.out.cell (p := ⟨g, i * 7 + j, none⟩) hg).trans ((hc0 j hj).trans hu)
      have E0 := E 0 _ (by decide) rfl
      have E1 := E 1 _ (by decide) rfl
      have E2 := E 2 _ (by decide) rfl
      have E3 := E 3 _ (by decide) rfl
      have E4 := E 4 _ (by decide) rfl
      have E5 := E 5 _ (by decide) rfl
      have E6 := E 6 _ (by decide) rfl
      have D0 := D 0 _ (by decide) rfl
      have D1 := D 1 _ (by decide) rfl
      have D2 := D 2 _ (by decide) rfl
      have D3 := D 3 _ (by decide) rfl
      have D4 := D 4 _ (by decide) rfl
      have D5 := D 5 _ (by decide) rfl
      have D6 := D 6 _ (by decide) rfl
      have HCM := Lib.hid (c_compare (.string x0) (.int .i64 x1) (.int .i64 x2) x3 x4 x5 (.string y0) (.int .i64 y1) (.int .i64 y2) y3 y4 y5 a b wr.drew)
      clear E D hc0 hc1
      simp only [Nat.add_zero] at E0 D0
      have w1 : ((i + 2 : Nat) : Int) - 1 = ((i + 1 : Nat) : Int) := by omega
      rw [w1]
      obtain ⟨p, hp⟩ : ∃ p, i + 1 = p := ⟨_, rfl⟩
      rw [hp] at E0 E1 E2 E3 E4 E5 E6 HAA ⊢
      have hsub : (p : Int) - 1 = (i : Int) := by omega
      have hwi : IntKind.i64.wrap (i : Int) = (i : Int) := IntWalk.i64_in _ ⟨by omega, by omega⟩
      have t1 : (p : Int) < (n : Int) := by omega
      have t2 : (i : Int) < (n : Int) := by omega
      have t3 : (0 : Int) < (p : Int) := by omega
      have HP := Lib.hid hp
      clear hp w1
      go_upto_region 4 with fail
      cases hl : rLess a b
      · have HLE := Lib.hid hl
        have hneg : decide (cmpS a b < 0) = false := (cmpS_neg a b).trans hl
        clear hl
        obtain ⟨z, hz⟩ : ∃ z, cmpS a b = z := ⟨_, rfl⟩
        rw [hz] at HCM hneg
        have hz2 : ¬ z < 0 := of_decide_eq_false hneg
        clear hz hneg
        go_region_law (first
          | ((try go_simp); go_at_call 32; (refine HCM.out.mono ?_); rintro e w5 ⟨rfl, hw5⟩; have hb5 : Below w.heap.size w w5 := (by rw [hw5]; exact HB.out.trans (((Below.refl w.heap.size wr).drew.alloc (by exact hsz) _).alloc (by first | (simp; done) | (simp; omega)) _)); have HB5 := Lib.hid hb5; clear hw5 hb5))
        all_goals
          go_wp2_with fail
          go_roundw
          case measure => have := HP.out; simp [intOf]; omega
          case rel => exact ⟨i + 1, by omega, by go_num, fun q h1 h2 => by
              by_cases e : i + 2 ≤ q
              · exact HZQ.out q e h2
              · obtain rfl : q = i + 1 := by omega
                unfold dnR
                rw [HP.out, HAA.out, ← HP.out, Nat.add_sub_cancel, HBB.out, HLE.out]; simp, HB5.out⟩
      · have hneg : decide (cmpS a b < 0) = true := (cmpS_neg a b).trans hl
        have hno : dnR seed L (i + 1) = false := by
          unfold dnR
          rw [Nat.add_sub_cancel, HBB.out, HP.out, HAA.out, hl, ← HP.out]; simp
        have HNO := Lib.hid (downR_no (k := i + 1) (by have := HN.out; omega) hno)
        clear hl hno
        obtain ⟨z, hz⟩ : ∃ z, cmpS a b = z := ⟨_, rfl⟩
        rw [hz] at HCM hneg
        have hz2 : z < 0 := of_decide_eq_true hneg
        clear hz hneg
        go_region_law (first
          | ((try go_simp); go_at_call 32; (refine HCM.out.mono ?_); rintro e w5 ⟨rfl, hw5⟩; have hb5 : Below w.heap.size w w5 := (by rw [hw5]; exact HB.out.trans (((Below.refl w.heap.size wr).drew.alloc (by exact hsz) _).alloc (by first | (simp; done) | (simp; omega)) _)); have HB5 := Lib.hid hb5; clear hw5 hb5))
        all_goals
          go_wp2_with fail
          go_ret
          exact ⟨by rw [HNO.out]; rfl, HB5.out⟩
    · have HYES := Lib.hid (downR_yes (seed := seed) (L := L) fun q hq => by
        by_cases e : k ≤ q
        · exact HZQ.out q e (by have := HN.out; omega)
        · obtain rfl : q = 0 := by omega
          rfl)
      have zi : ¬ ((k : Int) - 1) > 0 := by omega
      go_wp2_with fail
      go_ret
      exact ⟨by rw [HYES.out]; rfl, HB.out⟩
end Go.Proofs.YtgbhaaongmlpkaaGreatDoor
namespace Go.Proofs.YtgbhaaongmlpkaaGreatDoor
open Go.RowKit Num

theorem rLess_nil (a : ByteArray) : rLess a ⟨#[]⟩ = false := by
  unfold rLess
  have e : (⟨#[]⟩ : ByteArray).toList = [] := by
    unfold ByteArray.toList
    unfold ByteArray.toList.loop
    rw [if_neg (by decide)]; rfl
  rw [e]
  cases a.toList <;> rfl
theorem okR_dn {seed : ByteArray} {L : List Stm} {k : Nat} (h : bytZ (stmL L k) = 0) : okR seed L k = dnR seed L k := by
  unfold okR dnR lastR
  by_cases h0 : k = 0
  · subst h0
    rw [if_pos rfl, rLess_nil, h]; rfl
  · rw [if_neg h0, h]; simp [h0]
theorem sorted_down {seed : ByteArray} {L : List Stm} (h : ∀ q, q < L.length → bytZ (stmL L q) = 0) : sortedR seed L = downR seed L := by
  cases e : downR seed L with
  | true =>
    refine sortedR_yes fun k hk => ?_
    rw [okR_dn (h k hk)]
    unfold downR at e
    rw [List.all_eq_true] at e
    exact e k (List.mem_range.2 hk)
  | false =>
    cases e2 : sortedR seed L with
    | false => rfl
    | true =>
      unfold sortedR at e2
      rw [List.all_eq_true] at e2
      have := downR_yes (seed := seed) (L := L) fun k hk => by rw [← okR_dn (h k hk)]; exact e2 k (List.mem_range.2 hk)
      rw [e] at this; cases this
theorem sorted_bad {seed : ByteArray} {L : List Stm} {k : Nat} (hk : k < L.length) (h : bytZ (stmL L k) ≠ 0) : sortedR seed L = false := by
  refine sortedR_no hk ?_
  unfold okR
  simp [h]
set_option maxRecDepth 100000 in
set_option maxHeartbeats 1000000 in
theorem o_Sorted (seed : ByteArray) (A : Option Addr) (n c : Nat) (L : List Stm) (S : Nat → Prop) (w : World) (hsd : seed.size ≤ 1000) (hv : StmsAt w S (.slice A n c) L) (hS : ∀ b, S b → b < w.heap.size) (hL : L.length ≤ 1000) (hok : ∀ s ∈ L, StmOk s ∧ ∀ t ∈ s.cond, t.args.length ≤ 1000000) (hl : LibOk w) (hsp : SpcOk w) :
    Calls Tryz.prog 16 #[.string seed, .slice A n c] w fun e w' => e = .returned (.bool (sortedR seed L)) ∧ Below w.heap.size w w' := by
  have hrk := o_rank seed A n c L S w hsd hv hS hL hok hl hsp
  have HRK := Lib.hid hrk
  have HLL := Lib.hid hL
  clear hrk hv hS hok hl hsp hL hsd
  go_enter Tryz.func16, Tryz.ntmps16
  go_wp2_with fail
  refine HRK.out.mono ?_
  rintro e w1 ⟨hc, hb1⟩
  have HB1 := Lib.hid hb1
  clear hb1
  rcases hc with ⟨k, hk, hq, hz, rfl⟩ | ⟨hq, v, us, rfl, ho⟩
  · have HNO := Lib.hid (sorted_bad (seed := seed) hk hz)
    have hzi := bytZ_in (stmL L k)
    obtain ⟨z, hze⟩ : ∃ z, bytZ (stmL L k) = z := ⟨_, rfl⟩
    rw [hze] at hz hzi ⊢
    clear hq hze
    rcases hzi with rfl | rfl | rfl
    · exact absurd rfl hz
    · go_wp2_with fail
      go_ret
      exact ⟨by rw [HNO.out]; rfl, HB1.out⟩
    · go_wp2_with fail
      go_ret
      exact ⟨by rw [HNO.out]; rfl, HB1.out⟩
  · obtain ⟨Av, cv, hve⟩ := own_slice ho.row
    subst hve
    have his := s_IsSortedG seed Av L.length cv L us w.heap.size w1 rfl ho HLL.out
    have HIS := Lib.hid his
    have HSD := Lib.hid (sorted_down (seed := seed) hq)
    obtain ⟨m, hm⟩ : ∃ m, L.length = m := ⟨_, rfl⟩
    rw [hm] at HIS ⊢
    clear hq ho his hm
    go_wp2_with fail
    refine HIS.out.mono ?_
    rintro e w2 ⟨rfl, hb2⟩
    have HB2 := Lib.hid (HB1.out.trans (hb2.mono HB1.out.size))
    clear hb2
    go_wp2_with fail
    go_ret
    exact ⟨by rw [HSD.out]; rfl, HB2.out⟩
end Go.Proofs.YtgbhaaongmlpkaaGreatDoor

/- Contracts: order.Sort. -/
import Derived.Test.YtgbhaaongmlpkaaGreatDoorX31
set_option linter.unusedVariables false
set_option linter.unusedSimpArgs false
namespace Go.Proofs.YtgbhaaongmlpkaaGreatDoor
open Go.RowKit Num Go.Shelf Go.Sort Go.Lib

theorem stms_nil (w : World) (S : Nat → Prop) : StmsAt w S (.slice none 0 0) [] := ⟨none, 0, 0, rfl, rfl, Nat.le_refl _, fun h => absurd h (Nat.lt_irrefl 0)⟩
theorem srt_err {seed : ByteArray} {L : List Stm} {w w' : World} {z : Int} (hz : srtZ L = z) (h0 : z ≠ 0) (hb : Below w.heap.size w w') : SrtQ seed L w (.returned (.tuple #[.slice none 0 0, .int .i64 z])) w' := by
  refine ⟨_, by rw [hz], ?_, hb⟩
  unfold srtL
  rw [if_neg (by rw [hz]; exact h0)]
  exact stms_nil _ _
theorem StsOwn.congr {w : World} {B z : Nat} {e : TypeId} {v : Value} {L : List Stm} {us us' : Nat → V3} {ex : Nat → List Value} (h : StsOwn w B e z v L us ex) (hu : ∀ k, k < L.length → us k = us' k) : StsOwn w B e z v L us' ex := by
  have he : stsC L us' ex = stsC L us ex := (flat_congr _ _ _ fun k hk => by rw [hu k hk]).symm
  exact ⟨by rw [he]; exact h.row, fun k hk => by rw [← hu k hk]; exact h.at_ k hk⟩
set_option maxRecDepth 100000 in
set_option maxHeartbeats 400000 in
theorem o_ins0 (A : Option Addr) (c : Nat) (f : Value) (w : World) : Calls Tryz.prog 59 #[.slice A 0 c, .int .i64 0, .int .i64 ((0 : Nat) : Int), f] w fun e w' => e = .returned (.tuple #[]) ∧ w = w' := by
  go_enter Tryz.func59, Tryz.ntmps59
  go_wp2_with fail
  go_loopw [8, 9] (fun v8 _ wr => v8 = .int .i64 1 ∧ w = wr) (fun _ _ _ => 0)
  case atStart => exact ⟨rfl, rfl⟩
  case round =>
    obtain ⟨rfl, rfl⟩ := hrel
    go_wp2_with fail
    go_end0
    exact ⟨rfl, rfl⟩
/-- The world behind the sort: where each statement lies. -/
def SrtW (seed : ByteArray) (L : List Stm) (us : Nat → V3) (A : Option Addr) (B : Nat) (w w' : World) : Prop :=
  Below B w w' ∧ (∀ k, k < L.length → ∃ g, A = some ⟨g, 0, none⟩ ∧ g < w'.heap.size ∧ ∀ j, j < 7 → w'.cell? ⟨g, k * 7 + j, none⟩ = some ((rkEnc seed L us ((srtP seed L L.length).getD k 0)).getD j undef)) ∧ ∀ q, q < L.length → StmAt w' (· < w'.heap.size) (us q).a (us q).c (us q).s (stmL L q)
theorem o_srtA (seed : ByteArray) (L : List Stm) (us : Nat → V3) (A : Option Addr) (c B : Nat) (w : World) (h20 : L.length < 20) (ho : StsOwn w B 78 7 (.slice A L.length c) L us (rnkX seed L)) :
    Calls Tryz.prog 31 #[.slice A L.length c, .func (.func 32) #[] #[]] w fun e w' => e = .returned (.tuple #[]) ∧ SrtW seed L (totU L.length us) A B w w' := by
  have hone := totU_one ho.at_
  have hc := ho.congr (us' := totU L.length us) fun k hk => (totU_at hk).symm
  rcases Nat.eq_zero_or_pos L.length with h0 | h0
  · rw [h0]
    refine s_SortStableG A 0 c _ w (fun w' => SrtW seed L (totU 0 us) A B w w') (by decide) ((o_ins0 A c _ w).mono ?_)
    rintro e w' ⟨rfl, rfl⟩
    exact ⟨rfl, Below.refl _ _, fun k hk => absurd hk (by omega), fun k hk => absurd hk (by omega)⟩
  · obtain ⟨g, cap, he, hB, hg⟩ := ho.row.form h0
    injection he with e1 e2 e3
    subst e1 e3
    refine (o_srt seed L (totU L.length us) g L.length c B w hone rfl h20 hg hc).mono ?_
    rintro e w' ⟨rfl, hch, P, hP, hH⟩
    have hps : P.size = L.length := by rw [← Array.length_toList, hP, srtP_len]
    have hsz := hch.size
    refine ⟨rfl, ⟨hch.os, hch.tape, hch.output, hsz, fun i hi => ?_⟩, fun k hk => ⟨g, rfl, by omega, fun j hj => ?_⟩, fun q hq => ?_⟩
    · by_cases hl : i < w.heap.size
      · exact hch.block i hl (by omega)
      · omega
    · have := holdsK_cell hH (k := k) (by omega) hj
      rw [hP] at this
      exact this
    · have := hc.at_ q hq
      exact (this.keep fun b hb => hch.block b hb.2.1 (fun e => hb.2.2 (by rw [e]; rfl))).mono fun b hb => Nat.lt_of_lt_of_le hb.2.1 hsz
set_option maxRecDepth 100000 in
set_option maxHeartbeats 2000000 in
theorem o_Sort (seed : ByteArray) (A : Option Addr) (n c : Nat) (L : List Stm) (S : Nat → Prop) (w : World) (hsd : seed.size ≤ 1000) (hv : StmsAt w S (.slice A n c) L) (hS : ∀ b, S b → b < w.heap.size) (hL : L.length ≤ 1000) (hok : ∀ s ∈ L, StmOk s ∧ ∀ t ∈ s.cond, t.args.length ≤ 1000000) (h20 : frst L = 0 → L.length < 20) (hl : LibOk w) (hsp : SpcOk w) :
    Calls Tryz.prog 14 #[.string seed, .slice A n c] w (SrtQ seed L w) := by
  have hrk := o_rank seed A n c L S w hsd hv hS hL hok hl hsp
  obtain ⟨A', n', c', he, hn, hnc, -⟩ := id hv
  injection he with e1 e2 e3
  subst e1 e2 e3
  have HRK := Lib.hid hrk
  have HN := Lib.hid hn
  have H20 := Lib.hid h20
  have hn1 : n ≤ 1000 := by omega
  clear hrk hv hS hok hl hsp hsd hn h20
  by_cases hbig : 256 < n
  · have zi : (256 : Int) < (n : Int) := by omega
    have HZ := Lib.hid (show srtZ L = 3 by unfold srtZ; rw [if_pos (by have := HN.out; omega)])
    go_enter Tryz.func14, Tryz.ntmps14
    go_wp2_with fail
    go_ret2
    exact srt_err HZ.out (by decide) (Below.refl _ _)
  · have zi : ¬ (256 : Int) < (n : Int) := by omega
    have HZ := Lib.hid (show srtZ L = frst L by unfold srtZ; rw [if_neg (by have := HN.out; omega)])
    go_enter Tryz.func14, Tryz.ntmps14
    go_wp2_with fail
    refine HRK.out.mono ?_
    rintro e w1 ⟨hc, hb1⟩
    have HB1 := Lib.hid hb1
    clear hb1
    rcases hc with ⟨k, hk, hq, hz, rfl⟩ | ⟨hq, v, us, rfl, ho⟩
    · have hf := HZ.out.trans (frst_some L k hk hq hz)
      have hzi := bytZ_in (stmL L k)
      obtain ⟨z, hze⟩ : ∃ z, bytZ (stmL L k) = z := ⟨_, rfl⟩
      rw [hze] at hz hzi hf ⊢
      have HF := Lib.hid hf
      clear hq hze hf
      rcases hzi with rfl | rfl | rfl
      · exact absurd rfl hz
      · go_wp2_with fail
        go_ret2
        exact srt_err HF.out (by decide) HB1.out
      · go_wp2_with fail
        go_ret2
        exact srt_err HF.out (by decide) HB1.out
    · have hlt := H20.out (frst_none L hq)
      have hz0 : srtZ L = 0 := HZ.out.trans (frst_none L hq)
      have hll := HN.out
      obtain ⟨Av, cv, hve⟩ := own_slice ho.row
      subst hve
      have hsrt := o_srtA seed L us Av cv w.heap.size w1 hlt ho
      rw [← hll] at hsrt ⊢
      generalize totU n us = ut at hsrt
      have HSRT := Lib.hid hsrt
      have HZ0 := Lib.hid hz0
      obtain ⟨i0, hi, hy0, hy1, hy2⟩ := info_parts infoSt
      clear hq ho hll hz0 hsrt
      go_wp2_with fail
      refine HSRT.out.mono ?_
      rintro e w2 ⟨rfl, hb2, hc2, hs2⟩
      have HC2 := Lib.hid hc2
      have HS2 := Lib.hid hs2
      have hB2 := HB1.out.trans hb2
      have HBB := Lib.hid hB2
      have hz2 := hB2.size
      clear hb2 hc2 hs2 hB2 HSRT
      go_wp2_with fail
      go_loopw [8, 10, 27] (fun v8 _ v27 wr => ∃ (k : Nat) (A5 : Option Addr) (c5 : Nat), k ≤ n ∧ v27 = .int .i64 (k : Int) ∧ v8 = .slice A5 k c5 ∧ wr.ownsRow w2.heap.size 36 6 v8 k (rowO L ut ((srtP seed L n).take k)) ∧ Below w2.heap.size w2 wr) (fun _ _ v27 _ => n - (intOf v27).toNat)
      case atStart => exact ⟨0, none, 0, by omega, rfl, rfl, World.ownsRow_nil _ _ _ _, Below.refl _ _⟩
      case round =>
        obtain ⟨k, A5, c5, hk, rfl, rfl, ho, hb⟩ := hrel
        have HO := Lib.hid ho
        have HB := Lib.hid hb
        have hsz := hb.size
        clear ho hb
        by_cases hlt2 : k < n
        · obtain ⟨g, rfl, hg, hc⟩ := HC2.out k (by have := HN.out; omega)
          have hpl := srtP_len seed L n
          rw [← HN.out] at hc
          obtain ⟨q, hq⟩ : ∃ q, (srtP seed L n).getD k 0 = q := ⟨_, rfl⟩
          have hql : q < n := by rw [← hq]; exact srtP_mem seed L n _ (getD_mem0 (by omega))
          have htk : (srtP seed L n).take (k + 1) = (srtP seed L n).take k ++ [q] := by
            rw [List.take_succ_eq_append_getElem (by omega), ← hq, List.getD_eq_getElem?_getD, List.getElem?_eq_getElem (by omega)]; rfl
          rw [hq] at hc
          have hst := HS2.out q (by have := HN.out; omega)
          have HTK := Lib.hid htk
          have HQ := Lib.hid hql
          clear hpl htk hq hql
          obtain ⟨s, hs⟩ : ∃ s, stmL L q = s := ⟨_, rfl⟩
          obtain ⟨⟨va, vc, vs⟩, hu⟩ : ∃ u, ut q = u := ⟨_, rfl⟩
          obtain ⟨r, hr⟩ : ∃ r, rkAt seed L q = r := ⟨_, rfl⟩
          unfold rkEnc at hc
          rw [hu, hs, hr] at hc
          rw [hu, hs] at hst
          dsimp only at hst
          obtain ⟨Aa, na, ca, Ac, nc, cc, As, ns, cs, rfl, rfl, rfl⟩ := stm_forms hst
          have HU := Lib.hid hu
          have HSS := Lib.hid hs
          have E : ∀ j u, j < 7 → (stmCell s ⟨.slice Aa na ca, .slice Ac nc cc, .slice As ns cs⟩ ++ [Value.string r]).getD j undef = u → wr.cell? ⟨g, k * 7 + j, none⟩ = some u := fun j u hj hu => (HB.out.cell (p := ⟨g, k * 7 + j, none⟩) hg).trans ((hc j hj).trans (congrArg some hu))
          have e0 := E 0 (.string s.resp) (by decide) rfl
          have e1 := E 1 (.int .i64 s.dep) (by decide) rfl
          have e2 := E 2 (.int .i64 s.day) (by decide) rfl
          have e3 := E 3 (.slice Aa na ca) (by decide) rfl
          have e4 := E 4 (.slice Ac nc cc) (by decide) rfl
          have e5 := E 5 (.slice As ns cs) (by decide) rfl
          have e6 := E 6 (.string r) (by decide) rfl
          simp only [Nat.add_zero] at e0
          have zi : (k : Int) < (n : Int) := by omega
          clear hc hst hs hu hr E
          have hbk := Blk.new wr 78 #[.string s.resp, .int .i64 s.dep, .int .i64 s.day, .slice Aa na ca, .slice Ac nc cc, .slice As ns cs, .string r]
          have x0 := (hbk.cell 0).trans (show _ = some (Value.string s.resp) from rfl)
          have x1 := (hbk.cell 1).trans (show _ = some (Value.int .i64 s.dep) from rfl)
          have x2 := (hbk.cell 2).trans (show _ = some (Value.int .i64 s.day) from rfl)
          have x3 := (hbk.cell 3).trans (show _ = some (Value.slice Aa na ca) from rfl)
          have x4 := (hbk.cell 4).trans (show _ = some (Value.slice Ac nc cc) from rfl)
          have x5 := (hbk.cell 5).trans (show _ = some (Value.slice As ns cs) from rfl)
          have hoA := (HO.out.alloc (.cells #[.string s.resp, .int .i64 s.dep, .int .i64 s.day, .slice Aa na ca, .slice Ac nc cc, .slice As ns cs, .string r] 78)).alloc (.cells #[.string s.resp, .int .i64 s.dep, .int .i64 s.day, .slice Aa na ca, .slice Ac nc cc, .slice As ns cs] 36)
          have hbA := (HB.out.alloc hsz (.cells #[.string s.resp, .int .i64 s.dep, .int .i64 s.day, .slice Aa na ca, .slice Ac nc cc, .slice As ns cs, .string r] 78)).alloc (by simp; omega) (.cells #[.string s.resp, .int .i64 s.dep, .int .i64 s.day, .slice Aa na ca, .slice Ac nc cc, .slice As ns cs] 36)
          have hnw := cell_six_new (wr.alloc (.cells #[.string s.resp, .int .i64 s.dep, .int .i64 s.day, .slice Aa na ca, .slice Ac nc cc, .slice As ns cs, .string r] 78)) (.string s.resp) (.int .i64 s.dep) (.int .i64 s.day) (.slice Aa na ca) (.slice Ac nc cc) (.slice As ns cs) 36
          rw [World.size_alloc] at hnw
          have HOA := Lib.hid hoA
          have HBA := Lib.hid hbA
          have HNW := Lib.hid hnw
          clear hbk hoA hbA hnw
          go_wp2_with (at_builtin; refine wpList_append_own_at _ rfl _ _ 28 rfl w2.heap.size 36 i0 (.agg #[.string ⟨#[]⟩, .int .i64 0, .int .i64 0, .slice none 0 0, .slice none 0 0, .slice none 0 0]) 6 104 Tryz.underlying28 hi hy0 hy1 hy2 rfl (by decide) _ _ _ rfl HOA.out ⟨wr.heap.size + 1, 0, none⟩ 1 1 [.string s.resp, .int .i64 s.dep, .int .i64 s.day, .slice Aa na ca, .slice Ac nc cc, .slice As ns cs] rfl rfl HNW.out (by intro u hu; simp at hu; rcases hu with rfl | rfl | rfl | rfl | rfl | rfl <;> rfl) (by unfold maxLen; omega) (by omega) (by simp; omega) ?_)
          intro v2 w3 hown2 hgrow2 _ _
          obtain ⟨A6, c6, rfl⟩ := own_slice hown2
          have hb4 : Below w2.heap.size w2 w3 := HBA.out.grown hgrow2 (by simp; omega) (fun g hg => (HO.out.lt g hg).1)
          have hrow : rowO L ut ((srtP seed L n).take (k + 1)) = rowO L ut ((srtP seed L n).take k) ++ [.string s.resp, .int .i64 s.dep, .int .i64 s.day, .slice Aa na ca, .slice Ac nc cc, .slice As ns cs] := by
            rw [HTK.out, rowO_snoc, HU.out, HSS.out]; rfl
          have HROW := Lib.hid hrow
          have HO3 := Lib.hid hown2
          have HB4 := Lib.hid hb4
          clear hown2 hgrow2 hb4 hrow e0 e1 e2 e3 e4 e5 e6 x0 x1 x2 x3 x4 x5
          go_wp2_with fail
          go_roundw
          case measure => simp [intOf]; omega
          case rel => exact ⟨k + 1, A6, c6, by omega, by go_num, rfl, by rw [HROW.out]; exact HO3.out, HB4.out⟩
        · obtain rfl : k = n := by omega
          have zi : ¬ (k : Int) < (k : Int) := by omega
          go_wp2_with fail
          go_ret2
          refine ⟨.slice A5 k c5, by rw [HZ0.out]; rfl, ?_, HBB.out.trans (HB.out.mono hz2)⟩
          unfold srtL
          rw [if_pos HZ0.out, ← HN.out]
          have hpl := srtP_len seed L k
          have h1 := HO.out
          rw [List.take_of_length_le (by omega)] at h1
          refine stms_rowP (T := (· < w2.heap.size)) (by rw [hpl]; exact h1) (fun q hq => ?_) (fun b hb => Nat.lt_of_lt_of_le hb hsz)
          exact (HS2.out q (by have := srtP_mem seed L k q hq; have := HN.out; omega)).keep fun b hb => HB.out.block b hb
end Go.Proofs.YtgbhaaongmlpkaaGreatDoor

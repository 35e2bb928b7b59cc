/- Contracts: the reference's Sort. -/
import Derived.Test.YtgbhaaongmlpkaaGreatDoorX32
import Derived.Test.YtgbhaaongmlpkaaGreatDoorX21
import Derived.Test.YtgbhaaongmlpkaaGreatDoorX33
import Derived.BigRegion
import Derived.Deep.RegionLaw
set_option linter.unusedVariables false
set_option linter.unusedSimpArgs false
namespace Go.Proofs.YtgbhaaongmlpkaaGreatDoor
open Go.RowKit Num Go.Shelf Go.Sort Go.Lib

theorem own_cap {W : World} {B : Nat} {e : TypeId} {s n c : Nat} {A : Option Addr} {xs : List Value} (h : W.ownsRow B e s (.slice A n c) n xs) : n ≤ c := by
  rcases h.2 with ⟨h, _⟩ | ⟨g, cap, cur, h, _, _, hc, _⟩
  · injection h with _ h1 h2; omega
  · injection h with _ _ h; omega
theorem own_base9 {W : World} {B B' : Nat} {e : TypeId} {s n : Nat} {v : Value} {xs : List Value} (h : W.ownsRow B e s v n xs) (hb : B' ≤ B) : W.ownsRow B' e s v n xs := by
  refine ⟨h.1, ?_⟩
  rcases h.2 with h2 | ⟨g, cap, cur, a, b, rest⟩
  · exact .inl h2
  · exact .inr ⟨g, cap, cur, a, Nat.le_trans hb b, rest⟩
theorem rowO_ins (seed : ByteArray) (L : List Stm) (us : Nat → V3) (i k : Nat) (hk : posK (rkLt seed L) i (srtP seed L i) i = k) : rowO L us (srtP seed L (i + 1)) = (rowO L us (srtP seed L i)).take (k * 6) ++ stmCell (stmL L i) (us i) ++ (rowO L us (srtP seed L i)).drop (k * 6) := by
  have hl := srtP_len seed L i
  rw [srtP_succ]
  unfold insX rowO
  rw [hl, hk, fm_take _ 6 (fun _ => rfl), fm_drop _ 6 (fun _ => rfl), List.flatMap_append, List.flatMap_cons, List.append_assoc]
theorem rowR_ins (seed : ByteArray) (L : List Stm) (i k : Nat) (hk : posK (rkLt seed L) i (srtP seed L i) i = k) : rowR seed L (srtP seed L (i + 1)) = (rowR seed L (srtP seed L i)).take (k * 1) ++ [Value.string (rkAt seed L i)] ++ (rowR seed L (srtP seed L i)).drop (k * 1) := by
  have hl := srtP_len seed L i
  rw [srtP_succ]
  unfold insX rowR
  rw [hl, hk, Nat.mul_one, List.map_append, List.map_cons, List.map_take, List.map_drop, List.append_assoc]; rfl
theorem posK_down (seed : ByteArray) (L : List Stm) (i k : Nat) (P : List Nat) (h : rLess (rkAt seed L i) (rkAt seed L (P.getD k 0)) = true) (hk : k < P.length) : posK (rkLt seed L) i P (k + 1) = posK (rkLt seed L) i P k := by
  have e : P[k]! = P.getD k 0 := by rw [getElem!_pos P k hk, List.getD_eq_getElem?_getD, List.getElem?_eq_getElem hk]; rfl
  show (if rkLt seed L i P[k]! then _ else _) = _
  unfold rkLt
  rw [e, if_pos h]
theorem posK_stay (seed : ByteArray) (L : List Stm) (i k : Nat) (P : List Nat) (h : rLess (rkAt seed L i) (rkAt seed L (P.getD k 0)) = false) (hk : k < P.length) : posK (rkLt seed L) i P (k + 1) = k + 1 := by
  have e : P[k]! = P.getD k 0 := by rw [getElem!_pos P k hk, List.getD_eq_getElem?_getD, List.getElem?_eq_getElem hk]; rfl
  show (if rkLt seed L i P[k]! then _ else _) = _
  unfold rkLt
  rw [e, if_neg (by rw [h]; decide)]
set_option maxRecDepth 100000 in
set_option maxHeartbeats 4000000 in
theorem r_Sort (seed : ByteArray) (A : Option Addr) (n c : Nat) (L : List Stm) (S : Nat → Prop) (w : World) (hsd : seed.size ≤ 1000) (hv : StmsAt w S (.slice A n c) L) (hS : ∀ b, S b → b < w.heap.size) (hL : L.length ≤ 1000) (hok : ∀ s ∈ L, StmOk s) (hl : LibOk w) (hsp : SpcOk w) :
    Calls Tryz.prog 22 #[.string seed, .slice A n c] w (SrtQ seed L w) := by
  obtain ⟨i0, hi, hz0, hz1, hz2⟩ := info_parts infoSt
  obtain ⟨j0, hj, hy0, hy1, hy2⟩ := info_parts infoStr
  obtain ⟨A', c', us, he, hnc, hsrc⟩ := hv.src
  injection he with e1 e2 e3
  subst e1 e2 e3
  obtain ⟨n, hn⟩ : ∃ n, L.length = n := ⟨_, rfl⟩
  have hn1 : n ≤ 1000 := by omega
  rw [hn]
  have HSRC := Lib.hid hsrc
  have HN := Lib.hid hn
  have HS := Lib.hid hS
  have HOK := Lib.hid hok
  have HL := Lib.hid hl
  have HSP := Lib.hid hsp
  clear hv hsrc hS hok hl hsp hL hn hnc
  by_cases hbig : 256 < n
  · have zi : (256 : Int) < (n : Int) := by omega
    have HZ := Lib.hid (show srtZ L = 3 by unfold srtZ; rw [if_pos (by have := HN.out; omega)])
    go_enter Tryz.func22, Tryz.ntmps22
    go_wp2_with fail
    go_ret2
    exact srt_err HZ.out (by decide) (Below.refl _ _)
  · have zi : ¬ (256 : Int) < (n : Int) := by omega
    have HZ := Lib.hid (show srtZ L = frst L by unfold srtZ; rw [if_neg (by have := HN.out; omega)])
    go_enter Tryz.func22, Tryz.ntmps22
    go_wp2_with fail
    go_loopw [6, 7, 8, 9, 10, 11] (fun v6 v7 v8 _ _ _ wr => ∃ (i : Nat) (A6 : Option Addr) (c6 : Nat) (A7 : Option Addr) (c7 : Nat), i ≤ n ∧ v8 = .int .i64 (i : Int) ∧ v6 = .slice A6 i c6 ∧ v7 = .slice A7 i c7 ∧ wr.ownsRow w.heap.size 36 6 v6 i (rowO L us (srtP seed L i)) ∧ wr.ownsRow w.heap.size 9 1 v7 i (rowR seed L (srtP seed L i)) ∧ (∀ q, q < i → bytZ (stmL L q) = 0) ∧ Below w.heap.size w wr) (fun _ _ v8 _ _ _ _ => n - (intOf v8).toNat)
    case atStart => exact ⟨0, none, 0, none, 0, by omega, rfl, rfl, rfl, World.ownsRow_nil _ _ _ _, World.ownsRow_nil _ _ _ _, (fun q hq => absurd hq (by omega)), Below.refl _ _⟩
    case round =>
      obtain ⟨i, A6, c6, A7, c7, hin, rfl, rfl, rfl, hoO, hoR, hzq, hb⟩ := hrel
      have HOO := Lib.hid hoO
      have HOR := Lib.hid hoR
      have HB := Lib.hid hb
      have HZQ := Lib.hid hzq
      have hsz := hb.size
      have hic6 := own_cap hoO
      have hic7 := own_cap hoR
      clear hoO hoR hb hzq
      by_cases hlt : i < n
      · obtain ⟨b, off, rfl, hbw, hc⟩ := HSRC.out (by have := HN.out; omega)
        have hbw := HS.out b hbw
        have hkl : i < L.length := by have := HN.out; omega
        obtain ⟨hcl, hst⟩ := hc i hkl
        have hoks := HOK.out _ (stmL_mem hkl)
        have hsO : ∀ q ∈ srtP seed L i, StmAt w S (us q).a (us q).c (us q).s (stmL L q) := fun q hq => (hc q (by have := srtP_mem seed L i q hq; omega)).2
        have honeO := rowO_one hsO
        have HONE := Lib.hid honeO
        have HKL := Lib.hid hkl
        obtain ⟨s, hs⟩ : ∃ s, stmL L i = s := ⟨_, rfl⟩
        obtain ⟨⟨va, vc, vs⟩, hu⟩ : ∃ u, us i = u := ⟨_, rfl⟩
        rw [hs, hu] at hcl hst
        rw [hs] at hoks
        dsimp only at hst
        obtain ⟨Aa, na, ca, Ac, nc, cc, As, ns, cs, rfl, rfl, rfl⟩ := stm_forms hst
        have HSS := Lib.hid hs
        have HU := Lib.hid hu
        have hcells : ∀ W, Below w.heap.size w W → ∀ j u, j < 6 → (stmCell s ⟨.slice Aa na ca, .slice Ac nc cc, .slice As ns cs⟩).getD j undef = u → W.cell? ⟨b, off + i * 6 + j, none⟩ = some u := fun W hW j u hj hu => (hW.cell (p := ⟨b, off + i * 6 + j, none⟩) hbw).trans ((hcl j hj).trans (congrArg some hu))
        have HCE := Lib.hid hcells
        have e0 := hcells wr HB.out 0 (.string s.resp) (by decide) rfl
        have e1 := hcells wr HB.out 1 (.int .i64 s.dep) (by decide) rfl
        have e2 := hcells wr HB.out 2 (.int .i64 s.day) (by decide) rfl
        have e3 := hcells wr HB.out 3 (.slice Aa na ca) (by decide) rfl
        have e4 := hcells wr HB.out 4 (.slice Ac nc cc) (by decide) rfl
        have e5 := hcells wr HB.out 5 (.slice As ns cs) (by decide) rfl
        simp only [Nat.add_zero] at e0
        have hrk := r_RankS seed s Aa Ac As na ca nc cc ns cs S wr hsd (hst.keep fun q hq => HB.out.block q (HS.out q hq)) (fun q hq => Nat.lt_of_lt_of_le (HS.out q hq) hsz) hoks (HL.out.later HB.out) (spc_below HSP.out (by have := HL.out.size; show 2 < _; omega) HB.out)
        have HRK := Lib.hid hrk
        clear hcl hst hs hu hcells hrk hoks hc honeO hsO hkl
        have zi : (i : Int) < (n : Int) := by omega
        have zj : (0 : Int) ≤ (i : Int) := by omega
        go_wp2_with fail
        refine HRK.out.mono ?_
        rintro e w1 ⟨rfl, hb1⟩
        have hB1 := HB.out.trans (hb1.mono hsz)
        have hs1 := hb1.size
        have HB1 := Lib.hid hB1
        have hkeep : wr.grownBy w1 none := only_of_below hb1 none
        have HO1 := Lib.hid (HOO.out.kept hkeep (by cases (Value.slice A6 i c6).ownBlock <;> simp))
        have HR1 := Lib.hid (HOR.out.kept hkeep (by cases (Value.slice A7 i c7).ownBlock <;> simp))
        clear hb1 hkeep e0 e1 e2 e3 e4 e5 HRK HOO HOR hB1
        obtain ⟨r, hr⟩ : ∃ r, rnkS seed s = r := ⟨_, rfl⟩
        rw [hr]
        have hr2 : rkAt seed L i = r := by unfold rkAt; rw [HSS.out]; exact hr
        have HR := Lib.hid hr2
        obtain ⟨z, hz⟩ : ∃ z, bytZ s = z := ⟨_, rfl⟩
        have hzi := bytZ_in s
        have hz2 : bytZ (stmL L i) = z := by rw [HSS.out]; exact hz
        rw [hz] at hzi ⊢
        have HZZ := Lib.hid hz2
        clear hr hz hr2 hz2
        rcases hzi with rfl | rfl | rfl
        · go_wp2_with fail
          go_loopw [11] (fun v11 wq => ∃ k : Nat, k ≤ i ∧ v11 = .int .i64 (k : Int) ∧ posK (rkLt seed L) i (srtP seed L i) i = posK (rkLt seed L) i (srtP seed L i) k ∧ w1 = wq) (fun v11 _ => (intOf v11).toNat)
          case atStart => exact ⟨i, Nat.le_refl _, rfl, rfl, rfl⟩
          case round =>
            obtain ⟨k, hk, rfl, hpos, rfl⟩ := hrel
            have hpl := srtP_len seed L i
            by_cases hgo : ∃ j, k = j + 1 ∧ rLess r (rkAt seed L ((srtP seed L i).getD j 0)) = true
            · obtain ⟨j, rfl, hless⟩ := hgo
              have hnx := posK_down seed L i j (srtP seed L i) (by rw [HR.out]; exact hless) (by omega)
              have HPOS := Lib.hid (hpos.trans hnx)
              obtain ⟨g, cap, he, hg1, hg2⟩ := World.ownsRow.form HR1.out (by omega)
              injection he with e1 e2 e3
              subst e1
              have e0 : w1.cell? ⟨g, j, none⟩ = some (.string (rkAt seed L ((srtP seed L i).getD j 0))) := own_cell HR1.out j _ (by
                unfold rowR
                rw [List.getElem?_map, List.getElem?_eq_getElem (by omega), List.getD_eq_getElem?_getD, List.getElem?_eq_getElem (by omega)]; rfl)
              generalize rkAt seed L ((srtP seed L i).getD j 0) = y at e0 hless
              unfold rLess at hless
              have zk : (0 : Int) < ((j + 1 : Nat) : Int) := by omega
              have zs : ((j + 1 : Nat) : Int) - 1 = (j : Int) := by omega
              have zt : (j : Int) < (i : Int) := by omega
              have zu : (0 : Int) ≤ (j : Int) := by omega
              obtain ⟨p, hp⟩ : ∃ p, j + 1 = p := ⟨_, rfl⟩
              rw [hp] at zk zs hk ⊢
              have HP := Lib.hid hp
              clear hpos hnx hp e2 e3 hpl
              go_wp2_with fail
              go_roundw
              case measure => have := HP.out; simp [intOf]; omega
              case rel => exact ⟨j, by have := HP.out; omega, by go_num, HPOS.out, by first | rfl | trivial⟩
            · have hst : posK (rkLt seed L) i (srtP seed L i) i = k := by
                rw [hpos]
                cases k with
                | zero => rfl
                | succ j =>
                  refine posK_stay seed L i j (srtP seed L i) ?_ (by omega)
                  rw [HR.out]
                  cases e : rLess r (rkAt seed L ((srtP seed L i).getD j 0)) with
                  | false => rfl
                  | true => exact absurd ⟨j, rfl, e⟩ hgo
              have HST := Lib.hid hst
              have hA : ¬ (0 : Int) < (k : Int) ∨ ∃ (j : Nat) (g : Nat) (y : ByteArray), (k : Int) - 1 = (j : Int) ∧ (0 : Int) < (k : Int) ∧ (j : Int) < (i : Int) ∧ A7 = some ⟨g, 0, none⟩ ∧ w1.cell? ⟨g, j, none⟩ = some (.string y) ∧ Op.bytesLess r.toList y.toList = false := by
                cases k with
                | zero => exact .inl (by omega)
                | succ j =>
                  obtain ⟨g, cap, he, hg1, hg2⟩ := World.ownsRow.form HR1.out (by omega)
                  injection he with e1 e2 e3
                  refine .inr ⟨j, g, _, by omega, by omega, by omega, e1, own_cell (by rw [e1] at HR1; exact HR1.out) j (.string (rkAt seed L ((srtP seed L i).getD j 0))) ?_, ?_⟩
                  · unfold rowR
                    rw [List.getElem?_map, List.getElem?_eq_getElem (by omega), List.getD_eq_getElem?_getD, List.getElem?_eq_getElem (by omega)]; rfl
                  · cases e : rLess r (rkAt seed L ((srtP seed L i).getD j 0)) with
                    | false => exact e
                    | true => exact absurd ⟨j, rfl, e⟩ hgo
              clear hgo hpos hst
              have hnext : ∀ (hd : Nat → Prop), True := fun _ => trivial
              clear hnext
              have hhi := run_slice_hi (P := Tryz.prog) w1 28 36 i0 Tryz.underlying28 hi A6 i c6 k (by omega) (k : Int) rfl
              have hhi : ∀ W : World, (Instr.slice 28 (.slice A6 i c6) none (some (.int .i64 (k : Int))) none).run Tryz.prog W = .ok (.slice A6 k c6) W := fun W => run_slice_hi (P := Tryz.prog) W 28 36 i0 Tryz.underlying28 hi A6 i c6 k (by omega) (k : Int) rfl
              have hlo : ∀ W : World, (Instr.slice 28 (.slice A6 i c6) (some (.int .i64 (k : Int))) none none).run Tryz.prog W = .ok (.slice (subA A6 c6 k 6) (i - k) (c6 - k)) W := fun W => run_slice_lo (P := Tryz.prog) W 28 36 i0 6 Tryz.underlying28 hi hz1 A6 i c6 k (by omega) (by omega) (k : Int) rfl
              have hkh : ∀ W : World, (Instr.slice 63 (.slice A7 i c7) none (some (.int .i64 (k : Int))) none).run Tryz.prog W = .ok (.slice A7 k c7) W := fun W => run_slice_hi (P := Tryz.prog) W 63 9 j0 Tryz.underlying63 hj A7 i c7 k (by omega) (k : Int) rfl
              have hkl : ∀ W : World, (Instr.slice 63 (.slice A7 i c7) (some (.int .i64 (k : Int))) none none).run Tryz.prog W = .ok (.slice (subA A7 c7 k 1) (i - k) (c7 - k)) W := fun W => run_slice_lo (P := Tryz.prog) W 63 9 j0 1 Tryz.underlying63 hj hy1 A7 i c7 k (by omega) (by omega) (k : Int) rfl
              have hrd := Reads.of_own HO1.out
              have hrd2 := Reads.of_own HR1.out
              have hone2 := rowR_one seed L (srtP seed L i)
              have hrh := hrd.head hk
              have hrc : Reads w1 w1.heap.size 6 (subA A6 c6 k 6) (i - k) ((rowO L us (srtP seed L i)).drop (k * 6)) := hrd.cut (cap := c6) hk hic6
              have hrh2 := hrd2.head hk
              have hrc2 : Reads w1 w1.heap.size 1 (subA A7 c7 k 1) (i - k) ((rowR seed L (srtP seed L i)).drop (k * 1)) := hrd2.cut (cap := c7) hk hic7
              have hroI := rowO_ins seed L us i k HST.out
              have hrrI := rowR_ins seed L i k HST.out
              rw [HSS.out, HU.out] at hroI
              rw [HR.out] at hrrI
              generalize rowO L us (srtP seed L i) = RO at *
              generalize rowR seed L (srtP seed L i) = RR at *
              obtain ⟨A2, hA2⟩ : ∃ A2, subA A6 c6 k 6 = A2 := ⟨_, rfl⟩
              obtain ⟨A3, hA3⟩ : ∃ A3, subA A7 c7 k 1 = A3 := ⟨_, rfl⟩
              obtain ⟨d2, hd2⟩ : ∃ d2, i - k = d2 := ⟨_, rfl⟩
              obtain ⟨c2, hc2⟩ : ∃ c2, c6 - k = c2 := ⟨_, rfl⟩
              obtain ⟨c3, hc3⟩ : ∃ c3, c7 - k = c3 := ⟨_, rfl⟩
              simp only [hA2, hd2, hc2] at hlo
              simp only [hA3, hd2, hc3] at hkl
              rw [hA2, hd2] at hrc
              rw [hA3, hd2] at hrc2
              have hkd : k + 1 + d2 = i + 1 := by omega
              have hkd2 : d2 ≤ 1000 := by omega
              have hk9 : k ≤ 1000 := by omega
              have HRHa := Lib.hid hrh
              have HRDa := Lib.hid hrc
              have HRHb0 := Lib.hid hrh2
              have HRDb0 := Lib.hid hrc2
              have HONEa := HONE
              have HONEb := Lib.hid hone2
              have HROI := Lib.hid hroI
              have HRRI := Lib.hid hrrI
              have HKD := Lib.hid hkd
              have HBWa := Lib.hid (fun (W : World) (hW : Below w1.heap.size w1 W) => HB1.out.trans (hW.mono (Nat.le_trans hsz hs1)))
              have HHI := Lib.hid hhi
              have HLO := Lib.hid hlo
              have HKH := Lib.hid hkh
              have HKL2 := Lib.hid hkl
              have HIC := Lib.hid (And.intro hic6 hic7)
              clear hrd hrd2 hone2 hrh hrc hrh2 hrc2 hroI hrrI hA2 hA3 hd2 hc2 hc3 hkd hhi hlo hkh hkl hpl hic6 hic7 HONE
              have e0 := HCE.out w1 HB1.out 0 (.string s.resp) (by decide) rfl
              have e1 := HCE.out w1 HB1.out 1 (.int .i64 s.dep) (by decide) rfl
              have e2 := HCE.out w1 HB1.out 2 (.int .i64 s.day) (by decide) rfl
              have e3 := HCE.out w1 HB1.out 3 (.slice Aa na ca) (by decide) rfl
              have e4 := HCE.out w1 HB1.out 4 (.slice Ac nc cc) (by decide) rfl
              have e5 := HCE.out w1 HB1.out 5 (.slice As ns cs) (by decide) rfl
              simp only [Nat.add_zero] at e0
              have E0 := cell_drew' e0
              have E1 := cell_drew' e1
              have E2 := cell_drew' e2
              have E3 := cell_drew' e3
              have E4 := cell_drew' e4
              have E5 := cell_drew' e5
              have hhi := HHI.out
              have hlo := HLO.out
              rcases hA with zk | ⟨j, g, y, zs, zk, zt, hA7, hcy, hly⟩
              · go_upto_region 14 with fail
                go_region_law (first
                  | (refine step_append_any w1.drew (by rfl) (.const (.slice none 0 0)) _ _ (by rfl) w1.heap.size 36 i0 _ 6 104 Tryz.underlying28 hi hz0 hz1 hz2 rfl (by omega) (.slice none 0 0) 0 [] (by rfl) (World.ownsRow_nil _ _ _ _) w1.heap.size A6 k c6 ((RO).take (k * 6)) (by (try simp only [List.getElem_toArray, List.getElem_cons_succ, List.getElem_cons_zero, Act.put, List.setIfInBounds_toArray, List.set_cons_zero, List.set_cons_succ]); rfl) HRHa.out (fun u hu => HONEa.out u (List.mem_of_mem_take hu)) (by simp only [maxLen]; omega) (by omega) (Nat.le_refl _) ?_
                     intro vC wk hownC hgrowC hatC
                     have hgC : w1.grownBy wk none := ⟨hgrowC.os, hgrowC.tape, hgrowC.output, hgrowC.size, hgrowC.block⟩
                     have hbC : Below w1.heap.size w1 wk := (Below.refl _ _).grown hgC (Nat.le_refl _) (fun g hg => by cases hg)
                     have hoC : wk.ownsRow w1.heap.size 36 6 vC k ((RO).take (k * 6)) := by simpa using hownC
                     have hsC := hbC.size
                     have HOC := Lib.hid hoC
                     have HBC := Lib.hid hbC
                     have f0 := HCE.out _ (HBWa.out _ HBC.out) 0 (.string s.resp) (by decide) rfl; have f1 := HCE.out _ (HBWa.out _ HBC.out) 1 (.int .i64 s.dep) (by decide) rfl; have f2 := HCE.out _ (HBWa.out _ HBC.out) 2 (.int .i64 s.day) (by decide) rfl; have f3 := HCE.out _ (HBWa.out _ HBC.out) 3 (.slice Aa na ca) (by decide) rfl; have f4 := HCE.out _ (HBWa.out _ HBC.out) 4 (.slice Ac nc cc) (by decide) rfl; have f5 := HCE.out _ (HBWa.out _ HBC.out) 5 (.slice As ns cs) (by decide) rfl; simp only [Nat.add_zero] at f0; have F0 := cell_drew' f0; have F1 := cell_drew' f1; have F2 := cell_drew' f2; have F3 := cell_drew' f3; have F4 := cell_drew' f4; have F5 := cell_drew' f5; clear hownC hgrowC hatC hgC hbC hoC)
                  | (refine step_append_lies _ (by rfl) _ _ _ (by rfl) w1.heap.size 36 i0 _ 6 104 Tryz.underlying28 hi hz0 hz1 hz2 rfl (by omega) vC k _ (by (try simp only [List.getElem_toArray, List.getElem_cons_succ, List.getElem_cons_zero, Act.put, List.setIfInBounds_toArray, List.set_cons_zero, List.set_cons_succ]); rfl) (by first | exact HOC.out.alloc _ | exact (HOC.out.alloc _).drew | exact World.ownsRow.alloc (World.ownsRow.drew HOC.out) _) ⟨wk.heap.size, 0, none⟩ 1 1 [.string s.resp, .int .i64 s.dep, .int .i64 s.day, .slice Aa na ca, .slice Ac nc cc, .slice As ns cs] (by (try simp only [List.getElem_toArray, List.getElem_cons_succ, List.getElem_cons_zero, Act.put, List.setIfInBounds_toArray, List.set_cons_zero, List.set_cons_succ]); rfl) (by rfl) (by first | exact World.news_of_block (cs := #[.string s.resp, .int .i64 s.dep, .int .i64 s.day, .slice Aa na ca, .slice Ac nc cc, .slice As ns cs]) (t := 36) (fr := (0, 0)) (heap_alloc_new wk _) | exact World.news_of_block (cs := #[.string s.resp, .int .i64 s.dep, .int .i64 s.day, .slice Aa na ca, .slice Ac nc cc, .slice As ns cs]) (t := 36) (fr := (0, 0)) (heap_alloc_new wk.drew _)) (by intro u hu; simp at hu; rcases hu with rfl | rfl | rfl | rfl | rfl | rfl <;> rfl) (by omega) (by simp only [maxLen]; omega) (by omega) (by have := HBC.out.size; simp; omega) (wk.heap.size + 1) (by simp) ?_
                     intro g1 cap1 w6 hown6 hgrow6 hat6 hlt6
                     have hg6 : wk.grownBy w6 vC.ownBlock := ⟨hgrow6.os, hgrow6.tape, hgrow6.output, Nat.le_trans (by simp) hgrow6.size, fun i hi hn => (hgrow6.block i (by simp; omega) hn).trans (Below.heap_alloc wk _ i hi)⟩
                     have hb6 := HBC.out.grown hg6 HBC.out.size (fun g hg => (World.ownsRow.lt HOC.out g hg).1)
                     have HO6 := Lib.hid hown6
                     have HB6 := Lib.hid hb6
                     have hs6 := hb6.size
                     clear hown6 hgrow6 hat6 hg6 hb6)
                  | (refine step_append_any (w1.alloc (.cells #[.string s.resp, .int .i64 s.dep, .int .i64 s.day, .slice Aa na ca, .slice Ac nc cc, .slice As ns cs] 36)).drew (by rfl) (.const (.slice none 0 0)) _ _ (by rfl) w1.heap.size 36 i0 _ 6 104 Tryz.underlying28 hi hz0 hz1 hz2 rfl (by omega) (.slice none 0 0) 0 [] (by rfl) (World.ownsRow_nil _ _ _ _) w1.heap.size A6 k c6 ((RO).take (k * 6)) (by (try simp only [List.getElem_toArray, List.getElem_cons_succ, List.getElem_cons_zero, Act.put, List.setIfInBounds_toArray, List.set_cons_zero, List.set_cons_succ]); rfl) (HRHa.out.below (((Below.refl w1.heap.size w1).alloc (Nat.le_refl _) (.cells #[.string s.resp, .int .i64 s.dep, .int .i64 s.day, .slice Aa na ca, .slice Ac nc cc, .slice As ns cs] 36)).drew)) (fun u hu => HONEa.out u (List.mem_of_mem_take hu)) (by simp only [maxLen]; omega) (by omega) (by simp) ?_
                     intro vC wk hownC hgrowC hatC
                     have hbC : Below w1.heap.size w1 wk := (((Below.refl w1.heap.size w1).alloc (Nat.le_refl _) (.cells #[.string s.resp, .int .i64 s.dep, .int .i64 s.day, .slice Aa na ca, .slice Ac nc cc, .slice As ns cs] 36)).drew).grown hgrowC (by simp) (fun g hg => by cases hg)
                     have hcc : Blk wk w1.heap.size 36 #[.string s.resp, .int .i64 s.dep, .int .i64 s.day, .slice Aa na ca, .slice Ac nc cc, .slice As ns cs] := (hgrowC.block w1.heap.size (by simp) (by simp [Value.ownBlock])).trans (Blk.new w1 36 #[.string s.resp, .int .i64 s.dep, .int .i64 s.day, .slice Aa na ca, .slice Ac nc cc, .slice As ns cs])
                     have hoC : wk.ownsRow w1.heap.size 36 6 vC k ((RO).take (k * 6)) := by simpa using hownC
                     have hsC := hbC.size
                     have HOC := Lib.hid hoC
                     have HBC := Lib.hid hbC
                     have HCC := Lib.hid hcc
                     clear hownC hgrowC hatC hbC hoC hcc)
                  | (refine step_append_lies _ (by rfl) _ _ _ (by rfl) w1.heap.size 36 i0 _ 6 104 Tryz.underlying28 hi hz0 hz1 hz2 rfl (by omega) vC k _ (by (try simp only [List.getElem_toArray, List.getElem_cons_succ, List.getElem_cons_zero, Act.put, List.setIfInBounds_toArray, List.set_cons_zero, List.set_cons_succ]); rfl) (by first | exact HOC.out | exact HOC.out.drew) ⟨w1.heap.size, 0, none⟩ 1 1 [.string s.resp, .int .i64 s.dep, .int .i64 s.day, .slice Aa na ca, .slice Ac nc cc, .slice As ns cs] (by (try simp only [List.getElem_toArray, List.getElem_cons_succ, List.getElem_cons_zero, Act.put, List.setIfInBounds_toArray, List.set_cons_zero, List.set_cons_succ]); rfl) (by rfl) (World.news_of_block (cs := #[.string s.resp, .int .i64 s.dep, .int .i64 s.day, .slice Aa na ca, .slice Ac nc cc, .slice As ns cs]) (t := 36) (fr := (0, 0)) HCC.out) (by intro u hu; simp at hu; rcases hu with rfl | rfl | rfl | rfl | rfl | rfl <;> rfl) (by omega) (by simp only [maxLen]; omega) (by omega) (by exact HBC.out.size) wk.heap.size (by rfl) ?_
                     intro g1 cap1 w6 hown6 hgrow6 hat6 hlt6
                     have hg6 : wk.grownBy w6 vC.ownBlock := ⟨hgrow6.os, hgrow6.tape, hgrow6.output, hgrow6.size, hgrow6.block⟩
                     have hb6 := HBC.out.grown hg6 HBC.out.size (fun g hg => (World.ownsRow.lt HOC.out g hg).1)
                     have HO6 := Lib.hid hown6
                     have HB6 := Lib.hid hb6
                     have hs6 := hb6.size
                     clear hown6 hgrow6 hat6 hg6 hb6)
                  | (refine step_append_any w6 (by rfl) _ _ _ (by rfl) w1.heap.size 36 i0 _ 6 104 Tryz.underlying28 hi hz0 hz1 hz2 rfl (by omega) _ (k + 1) _ (by (try simp only [List.getElem_toArray, List.getElem_cons_succ, List.getElem_cons_zero, Act.put, List.setIfInBounds_toArray, List.set_cons_zero, List.set_cons_succ]); rfl) HO6.out w1.heap.size A2 d2 c2 ((RO).drop (k * 6)) (by (try simp only [List.getElem_toArray, List.getElem_cons_succ, List.getElem_cons_zero, Act.put, List.setIfInBounds_toArray, List.set_cons_zero, List.set_cons_succ]); rfl) (HRDa.out.below HB6.out) (fun u hu => HONEa.out u (List.mem_of_mem_drop hu)) (by simp only [maxLen]; omega) (by omega) hs6 ?_
                     intro v8 w8 hown8 hgrow8 hat8
                     have hb8 := HB6.out.grown hgrow8 hs6 (fun g hg => (World.ownsRow.lt HO6.out g hg).1)
                     have HO8 := Lib.hid hown8
                     have HB8 := Lib.hid hb8
                     clear hown8 hgrow8 hat8 hb8))
                all_goals
                  obtain ⟨A8, c8, hv8⟩ := own_slice HO8.out
                  subst hv8
                  have hb8s := HB8.out.size
                  have hx1 := (HRHb0.out.below HB8.out).more hb8s
                  have hx2 := (HRDb0.out.below HB8.out).more hb8s
                  have HRHb := Lib.hid hx1
                  have HRDb := Lib.hid hx2
                  have hkh := HKH.out
                  have hkl := HKL2.out
                  clear hx1 hx2 hhi hlo e0 e1 e2 e3 e4 e5 E0 E1 E2 E3 E4 E5
                  go_upto_region 15 with fail
                  go_region_law (first
                    | (refine step_append_any w8.drew (by rfl) (.const (.slice none 0 0)) _ _ (by rfl) w8.heap.size 9 j0 _ 1 16 Tryz.underlying63 hj hy0 hy1 hy2 rfl (by omega) (.slice none 0 0) 0 [] (by rfl) (World.ownsRow_nil _ _ _ _) w8.heap.size A7 k c7 ((RR).take (k * 1)) (by (try simp only [List.getElem_toArray, List.getElem_cons_succ, List.getElem_cons_zero, Act.put, List.setIfInBounds_toArray, List.set_cons_zero, List.set_cons_succ]); rfl) HRHb.out (fun u hu => HONEb.out u (List.mem_of_mem_take hu)) (by simp only [maxLen]; omega) (by omega) (Nat.le_refl _) ?_
                       intro vC wk hownC hgrowC hatC
                       have hgC : w8.grownBy wk none := ⟨hgrowC.os, hgrowC.tape, hgrowC.output, hgrowC.size, hgrowC.block⟩
                       have hbC : Below w8.heap.size w8 wk := (Below.refl _ _).grown hgC (Nat.le_refl _) (fun g hg => by cases hg)
                       have hoC : wk.ownsRow w8.heap.size 9 1 vC k ((RR).take (k * 1)) := by simpa using hownC
                       have hsC := hbC.size
                       have HOC := Lib.hid hoC
                       have HBC := Lib.hid hbC
                       clear hownC hgrowC hatC hgC hbC hoC)
                    | (refine step_append_lies _ (by rfl) _ _ _ (by rfl) w8.heap.size 9 j0 _ 1 16 Tryz.underlying63 hj hy0 hy1 hy2 rfl (by omega) vC k _ (by (try simp only [List.getElem_toArray, List.getElem_cons_succ, List.getElem_cons_zero, Act.put, List.setIfInBounds_toArray, List.set_cons_zero, List.set_cons_succ]); rfl) (by first | exact HOC.out.alloc _ | exact (HOC.out.alloc _).drew | exact World.ownsRow.alloc (World.ownsRow.drew HOC.out) _) ⟨wk.heap.size, 0, none⟩ 1 1 [.string r] (by (try simp only [List.getElem_toArray, List.getElem_cons_succ, List.getElem_cons_zero, Act.put, List.setIfInBounds_toArray, List.set_cons_zero, List.set_cons_succ]); rfl) (by rfl) (by first | exact World.news_of_block (cs := #[.string r]) (t := 9) (fr := (0, 0)) (heap_alloc_new wk _) | exact World.news_of_block (cs := #[.string r]) (t := 9) (fr := (0, 0)) (heap_alloc_new wk.drew _)) (by intro u hu; simp at hu; subst hu; rfl) (by omega) (by simp only [maxLen]; omega) (by omega) (by have := HBC.out.size; simp; omega) (wk.heap.size + 1) (by simp) ?_
                       intro g1 cap1 w6 hown6 hgrow6 hat6 hlt6
                       have hg6 : wk.grownBy w6 vC.ownBlock := ⟨hgrow6.os, hgrow6.tape, hgrow6.output, Nat.le_trans (by simp) hgrow6.size, fun i hi hn => (hgrow6.block i (by simp; omega) hn).trans (Below.heap_alloc wk _ i hi)⟩
                       have hb6 := HBC.out.grown hg6 HBC.out.size (fun g hg => (World.ownsRow.lt HOC.out g hg).1)
                       have HO6 := Lib.hid hown6
                       have HB6 := Lib.hid hb6
                       have hs6 := hb6.size
                       clear hown6 hgrow6 hat6 hg6 hb6)
                    | (refine step_append_any (w8.alloc (.cells #[.string r] 9)).drew (by rfl) (.const (.slice none 0 0)) _ _ (by rfl) w8.heap.size 9 j0 _ 1 16 Tryz.underlying63 hj hy0 hy1 hy2 rfl (by omega) (.slice none 0 0) 0 [] (by rfl) (World.ownsRow_nil _ _ _ _) w8.heap.size A7 k c7 ((RR).take (k * 1)) (by (try simp only [List.getElem_toArray, List.getElem_cons_succ, List.getElem_cons_zero, Act.put, List.setIfInBounds_toArray, List.set_cons_zero, List.set_cons_succ]); rfl) (HRHb.out.below (((Below.refl w8.heap.size w8).alloc (Nat.le_refl _) (.cells #[.string r] 9)).drew)) (fun u hu => HONEb.out u (List.mem_of_mem_take hu)) (by simp only [maxLen]; omega) (by omega) (by simp) ?_
                       intro vC wk hownC hgrowC hatC
                       have hbC : Below w8.heap.size w8 wk := (((Below.refl w8.heap.size w8).alloc (Nat.le_refl _) (.cells #[.string r] 9)).drew).grown hgrowC (by simp) (fun g hg => by cases hg)
                       have hcc : Blk wk w8.heap.size 9 #[.string r] := (hgrowC.block w8.heap.size (by simp) (by simp [Value.ownBlock])).trans (Blk.new w8 9 #[.string r])
                       have hoC : wk.ownsRow w8.heap.size 9 1 vC k ((RR).take (k * 1)) := by simpa using hownC
                       have hsC := hbC.size
                       have HOC := Lib.hid hoC
                       have HBC := Lib.hid hbC
                       have HCC := Lib.hid hcc
                       clear hownC hgrowC hatC hbC hoC hcc)
                    | (refine step_append_lies _ (by rfl) _ _ _ (by rfl) w8.heap.size 9 j0 _ 1 16 Tryz.underlying63 hj hy0 hy1 hy2 rfl (by omega) vC k _ (by (try simp only [List.getElem_toArray, List.getElem_cons_succ, List.getElem_cons_zero, Act.put, List.setIfInBounds_toArray, List.set_cons_zero, List.set_cons_succ]); rfl) (by first | exact HOC.out | exact HOC.out.drew) ⟨w8.heap.size, 0, none⟩ 1 1 [.string r] (by (try simp only [List.getElem_toArray, List.getElem_cons_succ, List.getElem_cons_zero, Act.put, List.setIfInBounds_toArray, List.set_cons_zero, List.set_cons_succ]); rfl) (by rfl) (World.news_of_block (cs := #[.string r]) (t := 9) (fr := (0, 0)) HCC.out) (by intro u hu; simp at hu; subst hu; rfl) (by omega) (by simp only [maxLen]; omega) (by omega) (by exact HBC.out.size) wk.heap.size (by rfl) ?_
                       intro g1 cap1 w6 hown6 hgrow6 hat6 hlt6
                       have hg6 : wk.grownBy w6 vC.ownBlock := ⟨hgrow6.os, hgrow6.tape, hgrow6.output, hgrow6.size, hgrow6.block⟩
                       have hb6 := HBC.out.grown hg6 HBC.out.size (fun g hg => (World.ownsRow.lt HOC.out g hg).1)
                       have HO6 := Lib.hid hown6
                       have HB6 := Lib.hid hb6
                       have hs6 := hb6.size
                       clear hown6 hgrow6 hat6 hg6 hb6)
                    | (refine step_append_any w6 (by rfl) _ _ _ (by rfl) w8.heap.size 9 j0 _ 1 16 Tryz.underlying63 hj hy0 hy1 hy2 rfl (by omega) _ (k + 1) _ (by (try simp only [List.getElem_toArray, List.getElem_cons_succ, List.getElem_cons_zero, Act.put, List.setIfInBounds_toArray, List.set_cons_zero, List.set_cons_succ]); rfl) HO6.out w8.heap.size A3 d2 c3 ((RR).drop (k * 1)) (by (try simp only [List.getElem_toArray, List.getElem_cons_succ, List.getElem_cons_zero, Act.put, List.setIfInBounds_toArray, List.set_cons_zero, List.set_cons_succ]); rfl) (HRDb.out.below HB6.out) (fun u hu => HONEb.out u (List.mem_of_mem_drop hu)) (by simp only [maxLen]; omega) (by omega) hs6 ?_
                       intro v9 w9 hown8 hgrow8 hat8
                       have hb8 := HB6.out.grown hgrow8 hs6 (fun g hg => (World.ownsRow.lt HO6.out g hg).1)
                       have HO9 := Lib.hid hown8
                       have HB9 := Lib.hid hb8
                       clear hown8 hgrow8 hat8 hb8))
                  all_goals
                    obtain ⟨A9, c9, hv9⟩ := own_slice HO9.out
                    subst hv9
                    have ho8 := own_base9 (HO8.out.kept (only_of_below HB9.out none) (by cases (Value.slice A8 (k + 1 + d2) c8).ownBlock <;> simp)) (Nat.le_trans hsz hs1)
                    have ho9 := own_base9 HO9.out (Nat.le_trans (Nat.le_trans hsz hs1) hb8s)
                    have hbb := HB1.out.trans ((HB8.out.trans (HB9.out.mono hb8s)).mono (Nat.le_trans hsz hs1))
                    have eO : ∀ (W : World) (v : Value), W.ownsRow w.heap.size 36 6 v (k + 1 + d2) (RO.take (k * 6) ++ [.string s.resp, .int .i64 s.dep, .int .i64 s.day, .slice Aa na ca, .slice Ac nc cc, .slice As ns cs] ++ RO.drop (k * 6)) → W.ownsRow w.heap.size 36 6 v (i + 1) (rowO L us (srtP seed L (i + 1))) := fun W v h => by rw [HROI.out, ← HKD.out]; exact h
                    have eR : ∀ (W : World) (v : Value), W.ownsRow w.heap.size 9 1 v (k + 1 + d2) (RR.take (k * 1) ++ [.string r] ++ RR.drop (k * 1)) → W.ownsRow w.heap.size 9 1 v (i + 1) (rowR seed L (srtP seed L (i + 1))) := fun W v h => by rw [HRRI.out, ← HKD.out]; exact h
                    have HO8F := Lib.hid (eO _ _ ho8)
                    have HO9F := Lib.hid (eR _ _ ho9)
                    have HBF := Lib.hid hbb
                    have hkd := HKD.out
                    rw [hkd] at HO8F HO9F ⊢
                    clear ho8 ho9 hbb eO eR hkh hkl hkd
                    go_wp2_with fail
                    go_roundw
                    case measure => simp [intOf]; omega
                    case rel => exact ⟨i + 1, A8, c8, A9, c9, by omega, by go_num, rfl, rfl, HO8F.out, HO9F.out, (fun q hq => by
                      by_cases e : q < i
                      · exact HZQ.out q e
                      · obtain rfl : q = i := by omega
                        exact HZZ.out), HBF.out⟩
              · have zu : (0 : Int) ≤ (j : Int) := by omega
                subst hA7
                go_upto_region 14 with fail
                go_region_law (first
                  | (refine step_append_any w1.drew (by rfl) (.const (.slice none 0 0)) _ _ (by rfl) w1.heap.size 36 i0 _ 6 104 Tryz.underlying28 hi hz0 hz1 hz2 rfl (by omega) (.slice none 0 0) 0 [] (by rfl) (World.ownsRow_nil _ _ _ _) w1.heap.size A6 k c6 ((RO).take (k * 6)) (by (try simp only [List.getElem_toArray, List.getElem_cons_succ, List.getElem_cons_zero, Act.put, List.setIfInBounds_toArray, List.set_cons_zero, List.set_cons_succ]); rfl) HRHa.out (fun u hu => HONEa.out u (List.mem_of_mem_take hu)) (by simp only [maxLen]; omega) (by omega) (Nat.le_refl _) ?_
                     intro vC wk hownC hgrowC hatC
                     have hgC : w1.grownBy wk none := ⟨hgrowC.os, hgrowC.tape, hgrowC.output, hgrowC.size, hgrowC.block⟩
                     have hbC : Below w1.heap.size w1 wk := (Below.refl _ _).grown hgC (Nat.le_refl _) (fun g hg => by cases hg)
                     have hoC : wk.ownsRow w1.heap.size 36 6 vC k ((RO).take (k * 6)) := by simpa using hownC
                     have hsC := hbC.size
                     have HOC := Lib.hid hoC
                     have HBC := Lib.hid hbC
                     have f0 := HCE.out _ (HBWa.out _ HBC.out) 0 (.string s.resp) (by decide) rfl; have f1 := HCE.out _ (HBWa.out _ HBC.out) 1 (.int .i64 s.dep) (by decide) rfl; have f2 := HCE.out _ (HBWa.out _ HBC.out) 2 (.int .i64 s.day) (by decide) rfl; have f3 := HCE.out _ (HBWa.out _ HBC.out) 3 (.slice Aa na ca) (by decide) rfl; have f4 := HCE.out _ (HBWa.out _ HBC.out) 4 (.slice Ac nc cc) (by decide) rfl; have f5 := HCE.out _ (HBWa.out _ HBC.out) 5 (.slice As ns cs) (by decide) rfl; simp only [Nat.add_zero] at f0; have F0 := cell_drew' f0; have F1 := cell_drew' f1; have F2 := cell_drew' f2; have F3 := cell_drew' f3; have F4 := cell_drew' f4; have F5 := cell_drew' f5; clear hownC hgrowC hatC hgC hbC hoC)
                  | (refine step_append_lies _ (by rfl) _ _ _ (by rfl) w1.heap.size 36 i0 _ 6 104 Tryz.underlying28 hi hz0 hz1 hz2 rfl (by omega) vC k _ (by (try simp only [List.getElem_toArray, List.getElem_cons_succ, List.getElem_cons_zero, Act.put, List.setIfInBounds_toArray, List.set_cons_zero, List.set_cons_succ]); rfl) (by first | exact HOC.out.alloc _ | exact (HOC.out.alloc _).drew | exact World.ownsRow.alloc (World.ownsRow.drew HOC.out) _) ⟨wk.heap.size, 0, none⟩ 1 1 [.string s.resp, .int .i64 s.dep, .int .i64 s.day, .slice Aa na ca, .slice Ac nc cc, .slice As ns cs] (by (try simp only [List.getElem_toArray, List.getElem_cons_succ, List.getElem_cons_zero, Act.put, List.setIfInBounds_toArray, List.set_cons_zero, List.set_cons_succ]); rfl) (by rfl) (by first | exact World.news_of_block (cs := #[.string s.resp, .int .i64 s.dep, .int .i64 s.day, .slice Aa na ca, .slice Ac nc cc, .slice As ns cs]) (t := 36) (fr := (0, 0)) (heap_alloc_new wk _) | exact World.news_of_block (cs := #[.string s.resp, .int .i64 s.dep, .int .i64 s.day, .slice Aa na ca, .slice Ac nc cc, .slice As ns cs]) (t := 36) (fr := (0, 0)) (heap_alloc_new wk.drew _)) (by intro u hu; simp at hu; rcases hu with rfl | rfl | rfl | rfl | rfl | rfl <;> rfl) (by omega) (by simp only [maxLen]; omega) (by omega) (by have := HBC.out.size; simp; omega) (wk.heap.size + 1) (by simp) ?_
                     intro g1 cap1 w6 hown6 hgrow6 hat6 hlt6
                     have hg6 : wk.grownBy w6 vC.ownBlock := ⟨hgrow6.os, hgrow6.tape, hgrow6.output, Nat.le_trans (by simp) hgrow6.size, fun i hi hn => (hgrow6.block i (by simp; omega) hn).trans (Below.heap_alloc wk _ i hi)⟩
                     have hb6 := HBC.out.grown hg6 HBC.out.size (fun g hg => (World.ownsRow.lt HOC.out g hg).1)
                     have HO6 := Lib.hid hown6
                     have HB6 := Lib.hid hb6
                     have hs6 := hb6.size
                     clear hown6 hgrow6 hat6 hg6 hb6)
                  | (refine step_append_any (w1.alloc (.cells #[.string s.resp, .int .i64 s.dep, .int .i64 s.day, .slice Aa na ca, .slice Ac nc cc, .slice As ns cs] 36)).drew (by rfl) (.const (.slice none 0 0)) _ _ (by rfl) w1.heap.size 36 i0 _ 6 104 Tryz.underlying28 hi hz0 hz1 hz2 rfl (by omega) (.slice none 0 0) 0 [] (by rfl) (World.ownsRow_nil _ _ _ _) w1.heap.size A6 k c6 ((RO).take (k * 6)) (by (try simp only [List.getElem_toArray, List.getElem_cons_succ, List.getElem_cons_zero, Act.put, List.setIfInBounds_toArray, List.set_cons_zero, List.set_cons_succ]); rfl) (HRHa.out.below (((Below.refl w1.heap.size w1).alloc (Nat.le_refl _) (.cells #[.string s.resp, .int .i64 s.dep, .int .i64 s.day, .slice Aa na ca, .slice Ac nc cc, .slice As ns cs] 36)).drew)) (fun u hu => HONEa.out u (List.mem_of_mem_take hu)) (by simp only [maxLen]; omega) (by omega) (by simp) ?_
                     intro vC wk hownC hgrowC hatC
                     have hbC : Below w1.heap.size w1 wk := (((Below.refl w1.heap.size w1).alloc (Nat.le_refl _) (.cells #[.string s.resp, .int .i64 s.dep, .int .i64 s.day, .slice Aa na ca, .slice Ac nc cc, .slice As ns cs] 36)).drew).grown hgrowC (by simp) (fun g hg => by cases hg)
                     have hcc : Blk wk w1.heap.size 36 #[.string s.resp, .int .i64 s.dep, .int .i64 s.day, .slice Aa na ca, .slice Ac nc cc, .slice As ns cs] := (hgrowC.block w1.heap.size (by simp) (by simp [Value.ownBlock])).trans (Blk.new w1 36 #[.string s.resp, .int .i64 s.dep, .int .i64 s.day, .slice Aa na ca, .slice Ac nc cc, .slice As ns cs])
                     have hoC : wk.ownsRow w1.heap.size 36 6 vC k ((RO).take (k * 6)) := by simpa using hownC
                     have hsC := hbC.size
                     have HOC := Lib.hid hoC
                     have HBC := Lib.hid hbC
                     have HCC := Lib.hid hcc
                     clear hownC hgrowC hatC hbC hoC hcc)
                  | (refine step_append_lies _ (by rfl) _ _ _ (by rfl) w1.heap.size 36 i0 _ 6 104 Tryz.underlying28 hi hz0 hz1 hz2 rfl (by omega) vC k _ (by (try simp only [List.getElem_toArray, List.getElem_cons_succ, List.getElem_cons_zero, Act.put, List.setIfInBounds_toArray, List.set_cons_zero, List.set_cons_succ]); rfl) (by first | exact HOC.out | exact HOC.out.drew) ⟨w1.heap.size, 0, none⟩ 1 1 [.string s.resp, .int .i64 s.dep, .int .i64 s.day, .slice Aa na ca, .slice Ac nc cc, .slice As ns cs] (by (try simp only [List.getElem_toArray, List.getElem_cons_succ, List.getElem_cons_zero, Act.put, List.setIfInBounds_toArray, List.set_cons_zero, List.set_cons_succ]); rfl) (by rfl) (World.news_of_block (cs := #[.string s.resp, .int .i64 s.dep, .int .i64 s.day, .slice Aa na ca, .slice Ac nc cc, .slice As ns cs]) (t := 36) (fr := (0, 0)) HCC.out) (by intro u hu; simp at hu; rcases hu with rfl | rfl | rfl | rfl | rfl | rfl <;> rfl) (by omega) (by simp only [maxLen]; omega) (by omega) (by exact HBC.out.size) wk.heap.size (by rfl) ?_
                     intro g1 cap1 w6 hown6 hgrow6 hat6 hlt6
                     have hg6 : wk.grownBy w6 vC.ownBlock := ⟨hgrow6.os, hgrow6.tape, hgrow6.output, hgrow6.size, hgrow6.block⟩
                     have hb6 := HBC.out.grown hg6 HBC.out.size (fun g hg => (World.ownsRow.lt HOC.out g hg).1)
                     have HO6 := Lib.hid hown6
                     have HB6 := Lib.hid hb6
                     have hs6 := hb6.size
                     clear hown6 hgrow6 hat6 hg6 hb6)
                  | (refine step_append_any w6 (by rfl) _ _ _ (by rfl) w1.heap.size 36 i0 _ 6 104 Tryz.underlying28 hi hz0 hz1 hz2 rfl (by omega) _ (k + 1) _ (by (try simp only [List.getElem_toArray, List.getElem_cons_succ, List.getElem_cons_zero, Act.put, List.setIfInBounds_toArray, List.set_cons_zero, List.set_cons_succ]); rfl) HO6.out w1.heap.size A2 d2 c2 ((RO).drop (k * 6)) (by (try simp only [List.getElem_toArray, List.getElem_cons_succ, List.getElem_cons_zero, Act.put, List.setIfInBounds_toArray, List.set_cons_zero, List.set_cons_succ]); rfl) (HRDa.out.below HB6.out) (fun u hu => HONEa.out u (List.mem_of_mem_drop hu)) (by simp only [maxLen]; omega) (by omega) hs6 ?_
                     intro v8 w8 hown8 hgrow8 hat8
                     have hb8 := HB6.out.grown hgrow8 hs6 (fun g hg => (World.ownsRow.lt HO6.out g hg).1)
                     have HO8 := Lib.hid hown8
                     have HB8 := Lib.hid hb8
                     clear hown8 hgrow8 hat8 hb8))
                all_goals
                  obtain ⟨A8, c8, hv8⟩ := own_slice HO8.out
                  subst hv8
                  have hb8s := HB8.out.size
                  have hx1 := (HRHb0.out.below HB8.out).more hb8s
                  have hx2 := (HRDb0.out.below HB8.out).more hb8s
                  have HRHb := Lib.hid hx1
                  have HRDb := Lib.hid hx2
                  have hkh := HKH.out
                  have hkl := HKL2.out
                  clear hx1 hx2 hhi hlo e0 e1 e2 e3 e4 e5 E0 E1 E2 E3 E4 E5
                  go_upto_region 15 with fail
                  go_region_law (first
                    | (refine step_append_any w8.drew (by rfl) (.const (.slice none 0 0)) _ _ (by rfl) w8.heap.size 9 j0 _ 1 16 Tryz.underlying63 hj hy0 hy1 hy2 rfl (by omega) (.slice none 0 0) 0 [] (by rfl) (World.ownsRow_nil _ _ _ _) w8.heap.size (some ⟨g, 0, none⟩) k c7 ((RR).take (k * 1)) (by (try simp only [List.getElem_toArray, List.getElem_cons_succ, List.getElem_cons_zero, Act.put, List.setIfInBounds_toArray, List.set_cons_zero, List.set_cons_succ]); rfl) HRHb.out (fun u hu => HONEb.out u (List.mem_of_mem_take hu)) (by simp only [maxLen]; omega) (by omega) (Nat.le_refl _) ?_
                       intro vC wk hownC hgrowC hatC
                       have hgC : w8.grownBy wk none := ⟨hgrowC.os, hgrowC.tape, hgrowC.output, hgrowC.size, hgrowC.block⟩
                       have hbC : Below w8.heap.size w8 wk := (Below.refl _ _).grown hgC (Nat.le_refl _) (fun g hg => by cases hg)
                       have hoC : wk.ownsRow w8.heap.size 9 1 vC k ((RR).take (k * 1)) := by simpa using hownC
                       have hsC := hbC.size
                       have HOC := Lib.hid hoC
                       have HBC := Lib.hid hbC
                       clear hownC hgrowC hatC hgC hbC hoC)
                    | (refine step_append_lies _ (by rfl) _ _ _ (by rfl) w8.heap.size 9 j0 _ 1 16 Tryz.underlying63 hj hy0 hy1 hy2 rfl (by omega) vC k _ (by (try simp only [List.getElem_toArray, List.getElem_cons_succ, List.getElem_cons_zero, Act.put, List.setIfInBounds_toArray, List.set_cons_zero, List.set_cons_succ]); rfl) (by first | exact HOC.out.alloc _ | exact (HOC.out.alloc _).drew | exact World.ownsRow.alloc (World.ownsRow.drew HOC.out) _) ⟨wk.heap.size, 0, none⟩ 1 1 [.string r] (by (try simp only [List.getElem_toArray, List.getElem_cons_succ, List.getElem_cons_zero, Act.put, List.setIfInBounds_toArray, List.set_cons_zero, List.set_cons_succ]); rfl) (by rfl) (by first | exact World.news_of_block (cs := #[.string r]) (t := 9) (fr := (0, 0)) (heap_alloc_new wk _) | exact World.news_of_block (cs := #[.string r]) (t := 9) (fr := (0, 0)) (heap_alloc_new wk.drew _)) (by intro u hu; simp at hu; subst hu; rfl) (by omega) (by simp only [maxLen]; omega) (by omega) (by have := HBC.out.size; simp; omega) (wk.heap.size + 1) (by simp) ?_
                       intro g1 cap1 w6 hown6 hgrow6 hat6 hlt6
                       have hg6 : wk.grownBy w6 vC.ownBlock := ⟨hgrow6.os, hgrow6.tape, hgrow6.output, Nat.le_trans (by simp) hgrow6.size, fun i hi hn => (hgrow6.block i (by simp; omega) hn).trans (Below.heap_alloc wk _ i hi)⟩
                       have hb6 := HBC.out.grown hg6 HBC.out.size (fun g hg => (World.ownsRow.lt HOC.out g hg).1)
                       have HO6 := Lib.hid hown6
                       have HB6 := Lib.hid hb6
                       have hs6 := hb6.size
                       clear hown6 hgrow6 hat6 hg6 hb6)
                    | (refine step_append_any (w8.alloc (.cells #[.string r] 9)).drew (by rfl) (.const (.slice none 0 0)) _ _ (by rfl) w8.heap.size 9 j0 _ 1 16 Tryz.underlying63 hj hy0 hy1 hy2 rfl (by omega) (.slice none 0 0) 0 [] (by rfl) (World.ownsRow_nil _ _ _ _) w8.heap.size (some ⟨g, 0, none⟩) k c7 ((RR).take (k * 1)) (by (try simp only [List.getElem_toArray, List.getElem_cons_succ, List.getElem_cons_zero, Act.put, List.setIfInBounds_toArray, List.set_cons_zero, List.set_cons_succ]); rfl) (HRHb.out.below (((Below.refl w8.heap.size w8).alloc (Nat.le_refl _) (.cells #[.string r] 9)).drew)) (fun u hu => HONEb.out u (List.mem_of_mem_take hu)) (by simp only [maxLen]; omega) (by omega) (by simp) ?_
                       intro vC wk hownC hgrowC hatC
                       have hbC : Below w8.heap.size w8 wk := (((Below.refl w8.heap.size w8).alloc (Nat.le_refl _) (.cells #[.string r] 9)).drew).grown hgrowC (by simp) (fun g hg => by cases hg)
                       have hcc : Blk wk w8.heap.size 9 #[.string r] := (hgrowC.block w8.heap.size (by simp) (by simp [Value.ownBlock])).trans (Blk.new w8 9 #[.string r])
                       have hoC : wk.ownsRow w8.heap.size 9 1 vC k ((RR).take (k * 1)) := by simpa using hownC
                       have hsC := hbC.size
                       have HOC := Lib.hid hoC
                       have HBC := Lib.hid hbC
                       have HCC := Lib.hid hcc
                       clear hownC hgrowC hatC hbC hoC hcc)
                    | (refine step_append_lies _ (by rfl) _ _ _ (by rfl) w8.heap.size 9 j0 _ 1 16 Tryz.underlying63 hj hy0 hy1 hy2 rfl (by omega) vC k _ (by (try simp only [List.getElem_toArray, List.getElem_cons_succ, List.getElem_cons_zero, Act.put, List.setIfInBounds_toArray, List.set_cons_zero, List.set_cons_succ]); rfl) (by first | exact HOC.out | exact HOC.out.drew) ⟨w8.heap.size, 0, none⟩ 1 1 [.string r] (by (try simp only [List.getElem_toArray, List.getElem_cons_succ, List.getElem_cons_zero, Act.put, List.setIfInBounds_toArray, List.set_cons_zero, List.set_cons_succ]); rfl) (by rfl) (World.news_of_block (cs := #[.string r]) (t := 9) (fr := (0, 0)) HCC.out) (by intro u hu; simp at hu; subst hu; rfl) (by omega) (by simp only [maxLen]; omega) (by omega) (by exact HBC.out.size) wk.heap.size (by rfl) ?_
                       intro g1 cap1 w6 hown6 hgrow6 hat6 hlt6
                       have hg6 : wk.grownBy w6 vC.ownBlock := ⟨hgrow6.os, hgrow6.tape, hgrow6.output, hgrow6.size, hgrow6.block⟩
                       have hb6 := HBC.out.grown hg6 HBC.out.size (fun g hg => (World.ownsRow.lt HOC.out g hg).1)
                       have HO6 := Lib.hid hown6
                       have HB6 := Lib.hid hb6
                       have hs6 := hb6.size
                       clear hown6 hgrow6 hat6 hg6 hb6)
                    | (refine step_append_any w6 (by rfl) _ _ _ (by rfl) w8.heap.size 9 j0 _ 1 16 Tryz.underlying63 hj hy0 hy1 hy2 rfl (by omega) _ (k + 1) _ (by (try simp only [List.getElem_toArray, List.getElem_cons_succ, List.getElem_cons_zero, Act.put, List.setIfInBounds_toArray, List.set_cons_zero, List.set_cons_succ]); rfl) HO6.out w8.heap.size A3 d2 c3 ((RR).drop (k * 1)) (by (try simp only [List.getElem_toArray, List.getElem_cons_succ, List.getElem_cons_zero, Act.put, List.setIfInBounds_toArray, List.set_cons_zero, List.set_cons_succ]); rfl) (HRDb.out.below HB6.out) (fun u hu => HONEb.out u (List.mem_of_mem_drop hu)) (by simp only [maxLen]; omega) (by omega) hs6 ?_
                       intro v9 w9 hown8 hgrow8 hat8
                       have hb8 := HB6.out.grown hgrow8 hs6 (fun g hg => (World.ownsRow.lt HO6.out g hg).1)
                       have HO9 := Lib.hid hown8
                       have HB9 := Lib.hid hb8
                       clear hown8 hgrow8 hat8 hb8))
                  all_goals
                    obtain ⟨A9, c9, hv9⟩ := own_slice HO9.out
                    subst hv9
                    have ho8 := own_base9 (HO8.out.kept (only_of_below HB9.out none) (by cases (Value.slice A8 (k + 1 + d2) c8).ownBlock <;> simp)) (Nat.le_trans hsz hs1)
                    have ho9 := own_base9 HO9.out (Nat.le_trans (Nat.le_trans hsz hs1) hb8s)
                    have hbb := HB1.out.trans ((HB8.out.trans (HB9.out.mono hb8s)).mono (Nat.le_trans hsz hs1))
                    have eO : ∀ (W : World) (v : Value), W.ownsRow w.heap.size 36 6 v (k + 1 + d2) (RO.take (k * 6) ++ [.string s.resp, .int .i64 s.dep, .int .i64 s.day, .slice Aa na ca, .slice Ac nc cc, .slice As ns cs] ++ RO.drop (k * 6)) → W.ownsRow w.heap.size 36 6 v (i + 1) (rowO L us (srtP seed L (i + 1))) := fun W v h => by rw [HROI.out, ← HKD.out]; exact h
                    have eR : ∀ (W : World) (v : Value), W.ownsRow w.heap.size 9 1 v (k + 1 + d2) (RR.take (k * 1) ++ [.string r] ++ RR.drop (k * 1)) → W.ownsRow w.heap.size 9 1 v (i + 1) (rowR seed L (srtP seed L (i + 1))) := fun W v h => by rw [HRRI.out, ← HKD.out]; exact h
                    have HO8F := Lib.hid (eO _ _ ho8)
                    have HO9F := Lib.hid (eR _ _ ho9)
                    have HBF := Lib.hid hbb
                    have hkd := HKD.out
                    rw [hkd] at HO8F HO9F ⊢
                    clear ho8 ho9 hbb eO eR hkh hkl hkd
                    go_wp2_with fail
                    go_roundw
                    case measure => simp [intOf]; omega
                    case rel => exact ⟨i + 1, A8, c8, A9, c9, by omega, by go_num, rfl, rfl, HO8F.out, HO9F.out, (fun q hq => by
                      by_cases e : q < i
                      · exact HZQ.out q e
                      · obtain rfl : q = i := by omega
                        exact HZZ.out), HBF.out⟩
        · go_wp2_with fail
          go_ret2
          exact srt_err (HZ.out.trans (frst_some L i HKL.out HZQ.out (by rw [HZZ.out]; decide)) |>.trans HZZ.out) (by decide) HB1.out
        · go_wp2_with fail
          go_ret2
          exact srt_err (HZ.out.trans (frst_some L i HKL.out HZQ.out (by rw [HZZ.out]; decide)) |>.trans HZZ.out) (by decide) HB1.out
      · obtain rfl : i = n := by omega
        have zi : ¬ (i : Int) < (i : Int) := by omega
        have hf0 : frst L = 0 := frst_none L fun q hq => HZQ.out q (by have := HN.out; omega)
        have HZ0 := Lib.hid (HZ.out.trans hf0)
        clear hf0
        go_wp2_with fail
        go_ret2
        refine ⟨.slice A6 i c6, by rw [HZ0.out]; rfl, ?_, HB.out⟩
        unfold srtL
        rw [if_pos HZ0.out, HN.out]
        have hpl := srtP_len seed L i
        refine stms_rowP (T := S) (by rw [hpl]; exact HOO.out) (fun q hq => ?_) (fun b hb => Nat.lt_of_lt_of_le (HS.out b hb) hsz)
        have hqi := srtP_mem seed L i q hq
        obtain ⟨b, off, -, -, hc⟩ := HSRC.out (by have := HN.out; omega)
        exact ((hc q (by have := HN.out; omega)).2).keep fun b hb => HB.out.block b (HS.out b hb)
end Go.Proofs.YtgbhaaongmlpkaaGreatDoor

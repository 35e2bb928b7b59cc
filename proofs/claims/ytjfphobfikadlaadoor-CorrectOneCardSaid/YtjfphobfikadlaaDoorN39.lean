/- The contract of the reference's One, behind its tests. -/
import Derived.Test.YtjfphobfikadlaaDoorN36
import Derived.Test.YtjfphobfikadlaaDoorN37
import Derived.Test.YtjfphobfikadlaaDoorN38
import Derived.Test.YtjfphobfikadlaaDoorN26
import Derived.Test.YtjfphobfikadlaaDoorN31
import Derived.BigRegion
set_option linter.unusedVariables false
set_option linter.unusedSimpArgs false
namespace Go.Proofs.YtjfphobfikadlaaDoor
open Go.RowKit Num

/-- The worlds of a row that is being made. -/
def RowU (W wo : World) (v : Value) (L : List Int) : Prop := OwnI W wo.heap.size v L ∧ Below wo.heap.size wo W
set_option maxRecDepth 100000 in
set_option maxHeartbeats 8000000 in
theorem r_OneMain (p need lies : Nat) (vx vy : Value) (X Y : List Int) (S T : Nat → Prop) (w : World) (hp : Prm p) (h2 : p ≤ 1073741824) (hv : VPrm (p : Int))
    (hx : IntsAt w S vx X) (hS : ∀ b, S b → b < w.heap.size) (hy : IntsAt w T vy Y) (hT : ∀ b, T b → b < w.heap.size) (lx : X.length ≤ 16) (ly : Y.length = X.length) (fx : InF p X) (fy : InF p Y)
    (hn1 : 1 ≤ need) (hnl : need + 2 * lies ≤ X.length) (hA : ApartN p (fOf X) X.length) (hd : ∀ i j, i < X.length → j < i → X.getD j 0 ≠ X.getD i 0) :
    Calls Tryd.prog 21 #[.int .i64 (p : Int), .int .i64 (need : Int), .int .i64 (lies : Int), vx, vy] w (OnePost p need lies X.length X Y w) := by
  obtain ⟨i0, hi, hz0, hz1, hz2⟩ := info_parts infoI
  obtain ⟨j0, hj, hy0, hy1, hy2⟩ := info_parts infoR
  have hmx : Tryd.prog.follows .mixedOrders = true := by kernel_rfl
  have p2 := hp.1
  have hp1 : 1 ≤ p := by omega
  have hex : Calls Tryd.prog 37 #[.int .i64 (p : Int), vx] w fun e w' => e = .returned (.bool true) ∧ w = w' := by
    refine (r_ElementsG p vx X S w hx (by omega)).mono ?_
    rintro e w' ⟨b, rfl, hb, rfl⟩
    rw [hb.2 ⟨fun i h => fx i h, by simpa using hv⟩]
    exact ⟨rfl, rfl⟩
  have hey : Calls Tryd.prog 37 #[.int .i64 (p : Int), vy] w fun e w' => e = .returned (.bool true) ∧ w = w' := by
    refine (r_ElementsG p vy Y T w hy (by omega)).mono ?_
    rintro e w' ⟨b, rfl, hb, rfl⟩
    rw [hb.2 ⟨fun i h => fy i h, by simpa using hv⟩]
    exact ⟨rfl, rfl⟩
  have htw : Calls Tryd.prog 38 #[vx] w fun e w' => e = .returned (.bool false) ∧ w = w' := by
    refine (r_twice vx X S w hx (by omega)).mono ?_
    rintro e w' ⟨b, rfl, hb, rfl⟩
    rw [hb.2 hd]
    exact ⟨rfl, rfl⟩
  obtain ⟨A, n, ca, rfl, hn, hnc, hcc⟩ := id hx
  obtain ⟨B, m, cb, rfl, hm, hmc, hcd⟩ := id hy
  have hmn : m = n := by omega
  subst hmn
  rw [← hn] at lx hnl hA ⊢
  obtain ⟨ba, oa, rfl, hSa, hca⟩ := hcc (by omega)
  obtain ⟨bb, ob, rfl, hTb, hcb⟩ := hcd (by omega)
  have hbal := hS ba hSa
  have hbbl := hT bb hTb
  have t1 : decide ((need : Int) < 1) = false := decide_eq_false (by omega)
  have t1' : decide (need < 1) = false := decide_eq_false (by omega)
  have t2 : decide ((lies : Int) < 0) = false := decide_eq_false (by omega)
  have t3 : decide (16 < (m : Int)) = false := decide_eq_false (by omega)
  have t3' : decide (16 < m) = false := decide_eq_false (by omega)
  have t4 : decide (0 < (m : Int)) = true := decide_eq_true (by omega)
  have t4' : decide (0 < m) = true := decide_eq_true (by omega)
  have t5 : decide ((m : Int) < (lies : Int)) = false := decide_eq_false (by omega)
  have t5' : decide (m < lies) = false := decide_eq_false (by omega)
  have w1 : IntKind.i64.wrap (2 * (lies : Int)) = 2 * (lies : Int) := IntWalk.i64_in _ ⟨by omega, by omega⟩
  have w2 : IntKind.i64.wrap ((m : Int) - 2 * (lies : Int)) = (m : Int) - 2 * (lies : Int) := IntWalk.i64_in _ ⟨by omega, by omega⟩
  have t6 : decide ((m : Int) - 2 * (lies : Int) < (need : Int)) = false := decide_eq_false (by omega)
  have w3 : IntKind.i64.wrap ((need : Int) + (lies : Int)) = (need : Int) + (lies : Int) := IntWalk.i64_in _ ⟨by omega, by omega⟩
  have w4 : IntKind.i64.wrap ((need : Int) + 2 * (lies : Int)) = (need : Int) + 2 * (lies : Int) := IntWalk.i64_in _ ⟨by omega, by omega⟩
  have m1 : (1 : Int).tmod (p : Int) = 1 := by rw [Int.tmod_eq_emod_of_nonneg (by omega)]; exact Int.emod_eq_of_lt (by omega) (by omega)
  have m2 : (1 : Int) % (p : Int) = 1 := Int.emod_eq_of_lt (by omega) (by omega)
  have hp0 : ¬ p = 0 := by omega
  have hp0' : ¬ (p : Int) = 0 := by omega
  have HEX := Lib.hid hex
  have HEY := Lib.hid hey
  have HTW := Lib.hid htw
  have HX := Lib.hid hx
  have HY := Lib.hid hy
  have HN := Lib.hid hn
  have HM := Lib.hid hm
  have HA := Lib.hid hA
  have HFX := Lib.hid fx
  have HFY := Lib.hid fy
  have HCA := Lib.hid hca
  have HCB := Lib.hid hcb
  clear hex hey htw hx hy hn hm hA fx fy hca hcb hcc hcd hd ly
  go_enter Tryd.func21, Tryd.ntmps21
  go_wp2_with fail
  refine HEX.out.mono ?_
  rintro e w' ⟨rfl, rfl⟩
  go_wp2_with fail
  refine HEY.out.mono ?_
  rintro e w' ⟨rfl, rfl⟩
  go_wp2_with fail
  refine HTW.out.mono ?_
  rintro e w' ⟨rfl, rfl⟩
  go_wp2_with fail
  clear t1 t1' t2 t3 t3' t4 t4' t5 t5' t6 w2
  go_loopw [13, 80] (fun v t wr => ∃ (i : Nat), i ≤ m ∧ t = .int .i64 i ∧ RowsU wr w.heap.size v (rowsM p (need + lies) lies X Y i) ∧ Below w.heap.size w wr) (fun _ t _ => m - (Go.RowKit.intOf t).toNat)
  case atStart => exact ⟨0, by omega, rfl, RowsU.nil _ _, Below.refl _ _⟩
  case round =>
    rename World => wo
    obtain ⟨i, him, rfl, hrv, hbl⟩ := hrel
    have HRV := Lib.hid hrv
    have HBL := Lib.hid hbl
    clear hrv hbl
    by_cases hlt : i < m
    · have cka := (HBL.out.cell (p := ⟨ba, oa + i, none⟩) hbal).trans (HCA.out i hlt)
      have ckb := (HBL.out.cell (p := ⟨bb, ob + i, none⟩) hbbl).trans (HCB.out i hlt)
      have fai := HFX.out i (by have := HN.out; omega)
      have fbi := HFY.out i (by have := HM.out; omega)
      have hms := rowsM_succ p (need + lies) lies X Y i
      have hml := rowsM_len p (need + lies) lies X Y i
      obtain ⟨x, hxx⟩ : ∃ x, X.getD i 0 = x := ⟨_, rfl⟩
      obtain ⟨y, hyy⟩ : ∃ y, Y.getD i 0 = y := ⟨_, rfl⟩
      rw [hxx] at cka fai hms
      rw [hyy] at ckb fbi hms
      have qi : (i : Int) < (m : Int) := by omega
      have qi0 : (0 : Int) ≤ (i : Int) := by omega
      have HMS := Lib.hid hms
      have HML := Lib.hid hml
      clear hms hml hxx hyy
      go_wp2_with fail
      clear cka
      go_loopw [90, 16, 17] (fun t r s wr => ∃ (k : Nat), k ≤ need + lies ∧ t = .int .i64 k ∧ s = .int .i64 (pwr p 1 x k) ∧ RowU wr wo r (rowA p x k)) (fun t _ _ _ => need + lies - (Go.RowKit.intOf t).toNat)
      case atStart => exact ⟨0, by omega, rfl, rfl, OwnI.nil _ _, Below.refl _ _⟩
      case round =>
        obtain ⟨k, hk, rfl, rfl, ho, hb⟩ := hrel
        by_cases hlt2 : k < need + lies
        · have qk : (k : Int) < (need : Int) + (lies : Int) := by omega
          have qk0 : (0 : Int) ≤ (k : Int) := by omega
          have hsuc := rowA_succ p x k
          have hst : pwr p 1 x (k + 1) = pwr p 1 x k * x % p := rfl
          have hpb := pwr_bd (x := x) hp1 (show (0 : Int) ≤ 1 by omega) (show (1 : Int) < p by omega) k
          have hlen := rowA_len p x k
          generalize pwr p 1 x k = s at *
          obtain ⟨s', hs'⟩ : ∃ s', s * x % (p : Int) = s' := ⟨_, rfl⟩
          have hmb := mulI_bd hpb.1 (show s < 1073741824 by omega) fai.1 (show x < 1073741824 by omega)
          have wm : IntKind.i64.wrap (s * x) = s * x := IntWalk.i64_in _ ⟨by omega, by omega⟩
          have tm : (s * x).tmod (p : Int) = s' := by rw [Int.tmod_eq_emod_of_nonneg hmb.1]; exact hs'
          rw [hs'] at hst
          have hsz := hb.size
          unfold OwnI at ho
          rw [hlen] at ho
          have HO := Lib.hid ho
          have HB := Lib.hid hb
          have HSUC := Lib.hid hsuc
          have HST := Lib.hid hst
          have HLEN := Lib.hid hlen
          clear ho hb hsuc hst hlen hs'
          go_wp2_with fail
          go_region_law (refine step_append_lies _ (by rfl) _ _ _ (by rfl) wo.heap.size 3 i0 _ 1 8 Tryd.underlying22 hi hz0 hz1 hz2 rfl (by omega) u16 k _ (by rfl) (by first | exact (HO.out.alloc _).drew | exact HO.out.alloc _) ⟨wr.heap.size, 0, none⟩ 1 1 [.int .i64 s] (by rfl) (by rfl) (cell_one_new _ _ _) (ints_oneCell .i64 [_]) (by omega) (by simp only [maxLen]; omega) (by omega) (by simp; omega) (wr.heap.size + 1) (by simp) ?_
                         intro g1 cap1 w4 hown4 hgrow4 hat4 hlt4
                         have hg4 : wr.grownBy w4 u16.ownBlock := ⟨hgrow4.os, hgrow4.tape, hgrow4.output, Nat.le_trans (by simp) hgrow4.size, fun i hi hn => (hgrow4.block i (by simp; omega) hn).trans (Below.heap_alloc wr _ i hi)⟩
                         have hb4 := HB.out.grown hg4 HB.out.size (fun g hg => (World.ownsRow.lt HO.out g hg).1)
                         have ho4 : OwnI w4 wo.heap.size (.slice (some ⟨g1, 0, none⟩) (k + 1) cap1) (rowA p x (k + 1)) := by
                           rw [HSUC.out]
                           unfold OwnI
                           rw [List.map_append, List.length_append, HLEN.out]
                           exact hown4
                         have HO4 := Lib.hid ho4
                         have HB4 := Lib.hid hb4
                         clear hown4 hgrow4 hat4 hg4 ho4 hb4)
          all_goals
            go_wp2_with fail
            go_roundw
            case measure => simp [Go.RowKit.intOf]; omega
            case rel => exact ⟨k + 1, by omega, by go_num, by rw [HST.out], HO4.out, HB4.out⟩
        · have hk' : k = need + lies := by omega
          subst hk'
          have ho2 : RowU wr wo u16 (rowA p x (need + lies) ++ rowB p x y 0) := ⟨by simpa [rowB] using ho, hb⟩
          have hsz := hb.size
          have HO := Lib.hid ho2
          have HB := Lib.hid hb
          clear ho ho2 hb
          go_wp2_with fail
          obtain ⟨wi, hwi⟩ : ∃ wi, wi = wr := ⟨wr, rfl⟩
          subst hwi
          go_loopw [105, 16, 17] (fun t r s wr => ∃ (k : Nat), k ≤ lies ∧ t = .int .i64 k ∧ s = .int .i64 (pwr p 1 x k) ∧ RowU wr wo r (rowA p x (need + lies) ++ rowB p x y k)) (fun t _ _ _ => lies - (Go.RowKit.intOf t).toNat)
          case atStart => exact ⟨0, by omega, rfl, rfl, HO.out⟩
          case round =>
            obtain ⟨k, hk, rfl, rfl, ho, hb⟩ := hrel
            have hpb := pwr_bd (x := x) hp1 (show (0 : Int) ≤ 1 by omega) (show (1 : Int) < p by omega) k
            have hlen : (rowA p x (need + lies) ++ rowB p x y k).length = need + lies + k := by rw [List.length_append, rowA_len, rowB_len]
            have hpm := pwr_mul x y p2 fbi.1 fbi.2 k
            have hzb := pwr_bd (x := x) hp1 fbi.1 fbi.2 k
            have ck := (hb.cell (p := ⟨bb, ob + i, none⟩) (show bb < wo.heap.size by have := HBL.out.size; omega)).trans ckb
            have hsz2 := hb.size
            have hmy := mulI_bd hpb.1 (show pwr p 1 x k < 1073741824 by omega) fbi.1 (show y < 1073741824 by omega)
            have wy : IntKind.i64.wrap (pwr p 1 x k * y) = pwr p 1 x k * y := IntWalk.i64_in _ ⟨by omega, by omega⟩
            have ty : (pwr p 1 x k * y).tmod (p : Int) = pwr p y x k := by rw [Int.tmod_eq_emod_of_nonneg hmy.1]; exact hpm
            by_cases hlt3 : k < lies
            · have qk : (k : Int) < (lies : Int) := by omega
              have qk0 : (0 : Int) ≤ (k : Int) := by omega
              have hsuc := rowB_succ p x y k
              have hst : pwr p 1 x (k + 1) = pwr p 1 x k * x % p := rfl
              generalize pwr p y x k = z at *
              generalize pwr p 1 x k = s at *
              obtain ⟨ng, hng⟩ : ∃ ng, (0 - z) % (p : Int) = ng := ⟨_, rfl⟩
              have hsub := fun W => r_SubI p 0 z W hp1 h2 (by omega) (by omega) hzb.1 hzb.2
              simp only [hng] at hsub hsuc
              obtain ⟨s', hs'⟩ : ∃ s', s * x % (p : Int) = s' := ⟨_, rfl⟩
              have hmb := mulI_bd hpb.1 (show s < 1073741824 by omega) fai.1 (show x < 1073741824 by omega)
              have wm : IntKind.i64.wrap (s * x) = s * x := IntWalk.i64_in _ ⟨by omega, by omega⟩
              have tm : (s * x).tmod (p : Int) = s' := by rw [Int.tmod_eq_emod_of_nonneg hmb.1]; exact hs'
              rw [hs'] at hst
              unfold OwnI at ho
              rw [hlen] at ho
              have HO := Lib.hid ho
              have HB := Lib.hid hb
              have HSUC := Lib.hid hsuc
              have HST := Lib.hid hst
              have HLEN := Lib.hid hlen
              have HSUB := Lib.hid hsub
              clear ho hb hsuc hst hlen hs' hng hsub hpm ckb
              go_wp2_with fail
              go_region_law (first
                | (go_simp; go_at_call 39; (refine (HSUB.out _).mono ?_)
                   rintro e w' ⟨rfl, rfl⟩)
                | (refine step_append_lies _ (by rfl) _ _ _ (by rfl) wo.heap.size 3 i0 _ 1 8 Tryd.underlying22 hi hz0 hz1 hz2 rfl (by omega) u16 (need + lies + k) _ (by rfl) (by first | exact (HO.out.alloc _).drew | exact HO.out.alloc _) ⟨wr.heap.size, 0, none⟩ 1 1 [.int .i64 ng] (by rfl) (by rfl) (cell_one_new _ _ _) (ints_oneCell .i64 [_]) (by omega) (by simp only [maxLen]; omega) (by omega) (by simp; omega) (wr.heap.size + 1) (by simp) ?_
                   intro g1 cap1 w4 hown4 hgrow4 hat4 hlt4
                   have hg4 : wr.grownBy w4 u16.ownBlock := ⟨hgrow4.os, hgrow4.tape, hgrow4.output, Nat.le_trans (by simp) hgrow4.size, fun i hi hn => (hgrow4.block i (by simp; omega) hn).trans (Below.heap_alloc wr _ i hi)⟩
                   have hb4 := HB.out.grown hg4 HB.out.size (fun g hg => (World.ownsRow.lt HO.out g hg).1)
                   have ho4 : OwnI w4 wo.heap.size (.slice (some ⟨g1, 0, none⟩) (need + lies + k + 1) cap1) (rowA p x (need + lies) ++ rowB p x y (k + 1)) := by
                     rw [HSUC.out]
                     unfold OwnI
                     rw [← List.append_assoc, List.map_append, List.length_append, HLEN.out]
                     exact hown4
                   have HO4 := Lib.hid ho4
                   have HB4 := Lib.hid hb4
                   clear hown4 hgrow4 hat4 hg4 ho4 hb4))
              all_goals
                go_wp2_with fail
                go_roundw
                case measure => simp [Go.RowKit.intOf]; omega
                case rel => first | exact ⟨k + 1, by omega, by go_num, by rw [HST.out], HO4.out, HB4.out⟩ | ((repeat apply Exists.intro); exact ⟨⟨k + 1, by omega, by go_num, by rw [HST.out], HO4.out, HB4.out⟩, rfl⟩)
            · have hk' : k = lies := by omega
              subst hk'
              have hrl : rowL p (need + k) k x y = (rowA p x (need + k) ++ rowB p x y k) ++ [pwr p y x k] := rfl
              generalize pwr p y x k = z at *
              generalize pwr p 1 x k = s at *
              obtain ⟨us, hus1, hus2, hus3⟩ := HRV.out
              rw [HML.out] at hus1 hus2 hus3
              have hsz1 := HBL.out.size
              unfold OwnI at ho
              rw [hlen] at ho
              have HO := Lib.hid ho
              have HB := Lib.hid hb
              have HRLL := Lib.hid hrl
              have HLEN := Lib.hid hlen
              have HU1 := Lib.hid hus1
              have HU2 := Lib.hid hus2
              have HU3 := Lib.hid hus3
              clear ho hb hrl hlen hus1 hus2 hus3 hpm ckb
              have hzl := HLEN.out
              go_wp2_with (at_builtin; refine wpList_append_own _ rfl _ _ 22 rfl wo.heap.size 3 i0 (.int .i64 0) 1 8 Tryd.underlying22 hi hz0 hz1 hz2 rfl (by decide) _ _ _ rfl (HO.out.alloc _) ⟨wr.heap.size, 0, none⟩ 1 1 [.int .i64 z] rfl rfl (fun j u hj => by have := cell_one_new wr (.int .i64 z) 3 j u hj; simpa using this) (ints_oneCell .i64 [_]) (by unfold maxLen; omega) (by omega) (by simp; omega) ?_)
              intro v5 w5 hown5 hgrow5 _
              have hg5 := grown_past hgrow5
              have hb5 := HB.out.grown hg5 HB.out.size (fun g hg => (World.ownsRow.lt HO.out g hg).1)
              obtain ⟨g5, cap5, rfl, hgl5⟩ := World.ownsRow.form hown5 (by omega)
              have ho5 : OwnI w5 wo.heap.size (.slice (some ⟨g5, 0, none⟩) (need + k + k + 1) cap5) (rowL p (need + k) k x y) := by
                rw [HRLL.out]
                unfold OwnI
                rw [List.length_append, HLEN.out, List.map_append, List.map_append, List.append_assoc]
                exact hown5
              have hs5 := hb5.size
              have h14 := HU1.out.kept (only_of_below hb5 none) (by cases u13.ownBlock <;> simp)
              have H14 := Lib.hid h14
              have HO5 := Lib.hid ho5
              have HB5 := Lib.hid hb5
              clear hown5 hgrow5 hg5 hb5 ho5 h14
              go_wp2_with (at_builtin; refine wpList_append_own _ rfl _ _ 48 rfl w.heap.size 22 j0 (.slice none 0 0) 1 24 Tryd.underlying48 hj hy0 hy1 hy2 rfl (by decide) _ _ _ rfl (H14.out.alloc _) ⟨w5.heap.size, 0, none⟩ 1 1 [.slice (some ⟨g5, 0, none⟩) (need + k + k + 1) cap5] rfl rfl (fun j u hj => by have := cell_one_new w5 (.slice (some ⟨g5, 0, none⟩) (need + k + k + 1) cap5) 22 j u hj; simpa using this) (fun u hu => by rw [List.mem_singleton.1 hu]; rfl) (by unfold maxLen; omega) (by omega) (by simp; omega) ?_)
              intro v6 w6 hown6 hgrow6 _
              have hg6 := grown_past hgrow6
              have hu2 : ∀ q, q < (rowsM p (need + k) k X Y i).length → OwnI w5 w.heap.size (us.getD q (.slice none 0 0)) ((rowsM p (need + k) k X Y i).getD q []) := fun q hq => (HU2.out q (by rw [← HML.out]; exact hq)).below HB5.out
              have hrv6 : RowsU w6 w.heap.size v6 (rowsM p (need + k) k X Y i ++ [rowL p (need + k) k x y]) :=
                RowsU.snoc (B' := wo.heap.size) (by rw [HML.out]; exact H14.out) hu2 (by rw [HML.out]; exact HU3.out) (fun q hq g hg => (World.ownsRow.lt (HU2.out q (by rw [← HML.out]; exact hq)) g hg).2) HO5.out hsz1 (by rw [rowL_len]; omega) hg6 (by rw [HML.out]; exact hown6)
              rw [← HMS.out] at hrv6
              have hb6 : Below w.heap.size w w6 := (HBL.out.trans (HB5.out.mono hsz1)).grown hg6 (by omega) (fun g hg => (World.ownsRow.lt HU1.out g hg).1)
              have HRV6 := Lib.hid hrv6
              have HB6 := Lib.hid hb6
              clear hu2 hrv6 hb6 hg6 hgrow6 hown6
              go_wp2_with fail
              go_roundw
              case measure => simp [Go.RowKit.intOf]; omega
              case rel => first | exact ⟨i + 1, by omega, by go_num, HRV6.out, HB6.out⟩ | ((repeat apply Exists.intro); exact ⟨⟨i + 1, by omega, by go_num, HRV6.out, HB6.out⟩, rfl⟩)
    · have him2 : i = m := by omega
      subst him2
      have hml := rowsM_len p (need + lies) lies X Y i
      obtain ⟨rb, cap, gs, cs, rfl, hcap, hri⟩ := HRV.out.rows (by omega) (fun k hk => by rw [rowsM_get _ _ _ _ _ _ _ (by omega), rowL_len]; omega)
      rw [hml] at hri hcap ⊢
      have hsv := r_solve p w.heap.size rb i cap (need + lies + lies) (rowsM p (need + lies) lies X Y i) gs cs wo hp h2 (by omega) (by omega) hcap (by omega) hri (fun k hk => by
        rw [rowsM_get _ _ _ _ _ _ _ hk]
        exact ⟨rowL_len _ _ _ _ _, rowL_bd _ _ _ _ p2 (HFY.out k (by have := HM.out; omega)).1 (HFY.out k (by have := HM.out; omega)).2⟩)
      rw [show ((need + lies + lies : Nat) : Int) = (need : Int) + 2 * (lies : Int) by omega] at hsv
      have HSV := Lib.hid hsv
      clear hsv hri HRV hml hcap
      go_wp2_with fail
      refine HSV.out.mono ?_
      rintro e w5 hpost
      have hsz0 := HBL.out.size
      rcases hpost with ⟨rfl, hno, hb⟩ | ⟨vL, L, rfl, hoL, hlL, hfL, hsol, hb⟩
      · have hb5 := HBL.out.trans hb
        have HNO := Lib.hid hno
        have HB5 := Lib.hid hb5
        clear hno hb5 hb
        go_wp2_with fail
        go_ret2
        exact ⟨.inr ⟨rfl, fun F hF => rows_none HNO.out F hF.2.1 hF.2.2⟩, HB5.out⟩
      · have hb5 := HBL.out.trans hb
        rcases hoL.form with ⟨_, h0⟩ | ⟨gl, cl, rfl, hcl⟩
        · rw [h0] at hlL; simp at hlL; omega
        rw [hlL] at hcl ⊢
        have hii : IntsAt w5 (fun b => b < w5.heap.size) (.slice (some ⟨gl, 0, none⟩) (need + lies + lies) cl) L := by
          have := hoL.ints.mono (T := fun b => b < w5.heap.size) (fun b hb => hb.2)
          rwa [hlL] at this
        obtain ⟨ab, hab0⟩ : ∃ ab, need + lies = ab := ⟨_, rfl⟩
        rw [hab0] at hii hcl hlL ⊢
        have hab : (need : Int) + (lies : Int) = (ab : Int) := by omega
        have wab : IntKind.i64.wrap (ab : Int) = (ab : Int) := IntWalk.i64_in _ ⟨by omega, by omega⟩
        have hsl1 := fun (W : World) => run_slice_hi (P := Tryd.prog) W 22 3 i0 Tryd.underlying22 hi (some ⟨gl, 0, none⟩) (ab + lies) cl ab (by omega) (ab : Int) rfl
        have hsl2 := fun (W : World) => run_slice_lo (P := Tryd.prog) W 22 3 i0 1 Tryd.underlying22 hi hz1 (some ⟨gl, 0, none⟩) (ab + lies) cl ab (by omega) hcl (ab : Int) rfl
        have hdr := hii.drop' ab (by omega)
        have htk := hii.take ab (by omega)
        obtain ⟨A2, hA2⟩ : ∃ A2, subA (some ⟨gl, 0, none⟩) cl ab 1 = A2 := ⟨_, rfl⟩
        obtain ⟨d2, hd2⟩ : ∃ d2, ab + lies - ab = d2 := ⟨_, rfl⟩
        obtain ⟨c2, hc2⟩ : ∃ c2, cl - ab = c2 := ⟨_, rfl⟩
        simp only [hA2, hd2, hc2] at hsl2
        rw [hA2, hd2, hc2] at hdr
        have hdl : d2 = lies := by omega
        have hld : (L.drop ab).length = lies := by rw [List.length_drop]; omega
        have hlt : (L.take ab).length = ab := by rw [List.length_take]; omega
        have hfd : InF p (L.drop ab) := InF.of_mem fun x hx => hfL.mem x (List.mem_of_mem_drop hx)
        have hft : InF p (L.take ab) := InF.of_mem fun x hx => hfL.mem x (List.mem_of_mem_take hx)
        have hrd := hdr.reads (B := w5.heap.size) (fun b hb => hb)
        have hdiv : ∀ (W : World) (vb : Value) (Tb : Nat → Prop), Below w5.heap.size w5 W → IntsAt W Tb vb (L.drop ab ++ [1]) → (∀ b, Tb b → b < W.heap.size) →
            Calls Tryd.prog 41 #[.int .i64 (p : Int), .slice (some ⟨gl, 0, none⟩) ab cl, vb] W (DivPost p (L.take ab) (L.drop ab ++ [1]) lies W) := fun W vb Tb hb h1 h3 =>
          r_Divide p _ vb (L.take ab) (L.drop ab ++ [1]) lies (fun b => b < w5.heap.size) Tb W hp h2 (htk.keep fun b hb' => hb.block b hb') (fun b hb' => by have := hb.size; have : b < w5.heap.size := hb'; omega) h1 h3 (by omega) (by rw [List.length_append, hld]; show lies + 1 ≤ _; omega) (by rw [degN_one, hld]) (by omega) hft (InF.one' p2 hfd)
        subst hdl
        have HRD := Lib.hid hrd
        have HDIV := Lib.hid hdiv
        have HLD := Lib.hid hld
        have HLT := Lib.hid hlt
        have HSOL := Lib.hid hsol
        have HLL := Lib.hid hlL
        have HB5 := Lib.hid hb5
        have HAB := Lib.hid hab0
        clear hrd hdiv hld hlt hsol hlL hb5 hii hdr htk hfd hft hfL hoL hA2 hd2 hc2 hb HSV
        go_wp2_with fail
        go_region_law (first
          | (refine step_append_any w5.drew (by rfl) (.const (.slice none 0 0)) _ _ (by rfl) w5.heap.size 3 i0 _ 1 8 Tryd.underlying22 hi hz0 hz1 hz2 rfl (by omega) (.slice none 0 0) 0 [] (by rfl) (World.ownsRow_nil _ _ _ _) w5.heap.size A2 d2 c2 ((L.drop ab).map (Value.int .i64)) (by (try simp only [List.getElem_toArray, List.getElem_cons_succ, List.getElem_cons_zero, Act.put, List.setIfInBounds_toArray, List.set_cons_zero, List.set_cons_succ]); rfl) HRD.out (ints_oneCell .i64 _) (by simp only [maxLen]; omega) (by omega) (Nat.le_refl _) ?_
             intro vC wk hownC hgrowC hatC
             have hgC : w5.grownBy wk none := ⟨hgrowC.os, hgrowC.tape, hgrowC.output, hgrowC.size, hgrowC.block⟩
             have hbC : Below w5.heap.size w5 wk := (Below.refl _ _).grown hgC (Nat.le_refl _) (fun g hg => by cases hg)
             have hoC : wk.ownsRow w5.heap.size 3 1 vC d2 ((L.drop ab).map (Value.int .i64)) := by simpa using hownC
             have hsC := hbC.size
             have HOC := Lib.hid hoC
             have HBC := Lib.hid hbC
             clear hownC hgrowC hatC hgC hbC hoC)
          | (refine step_append_lies _ (by rfl) _ _ _ (by rfl) w5.heap.size 3 i0 _ 1 8 Tryd.underlying22 hi hz0 hz1 hz2 rfl (by omega) vC d2 _ (by (try simp only [List.getElem_toArray, List.getElem_cons_succ, List.getElem_cons_zero, Act.put, List.setIfInBounds_toArray, List.set_cons_zero, List.set_cons_succ]); rfl) (by first | exact HOC.out.alloc _ | exact (HOC.out.alloc _).drew) ⟨wk.heap.size, 0, none⟩ 1 1 [.int .i64 1] (by (try simp only [List.getElem_toArray, List.getElem_cons_succ, List.getElem_cons_zero, Act.put, List.setIfInBounds_toArray, List.set_cons_zero, List.set_cons_succ]); rfl) (by rfl) (cell_one_new _ _ _) (ints_oneCell .i64 [_]) (by omega) (by simp only [maxLen]; omega) (by omega) (by have := HBC.out.size; simp; omega) (wk.heap.size + 1) (by simp) ?_
             intro g1 cap1 w6 hown6 hgrow6 hat6 hlt6
             have hg6 : wk.grownBy w6 vC.ownBlock := ⟨hgrow6.os, hgrow6.tape, hgrow6.output, Nat.le_trans (by simp) hgrow6.size, fun i hi hn => (hgrow6.block i (by simp; omega) hn).trans (Below.heap_alloc wk _ i hi)⟩
             have hb6 := HBC.out.grown hg6 HBC.out.size (fun g hg => (World.ownsRow.lt HOC.out g hg).1)
             have hi6 : IntsAt w6 (fun b => w5.heap.size ≤ b ∧ b < w6.heap.size) (.slice (some ⟨g1, 0, none⟩) (d2 + 1) cap1) (L.drop ab ++ [1]) := IntsAt.of_own (n := d2 + 1) (by rw [List.map_append]; exact hown6)
             have HI6 := Lib.hid hi6
             have HB6 := Lib.hid hb6
             clear hown6 hgrow6 hat6 hg6 hi6 hb6)
          | (refine step_append_any (w5.alloc (.cells #[.int .i64 1] 3)).drew (by rfl) (.const (.slice none 0 0)) _ _ (by rfl) w5.heap.size 3 i0 _ 1 8 Tryd.underlying22 hi hz0 hz1 hz2 rfl (by omega) (.slice none 0 0) 0 [] (by rfl) (World.ownsRow_nil _ _ _ _) w5.heap.size A2 d2 c2 ((L.drop ab).map (Value.int .i64)) (by (try simp only [List.getElem_toArray, List.getElem_cons_succ, List.getElem_cons_zero, Act.put, List.setIfInBounds_toArray, List.set_cons_zero, List.set_cons_succ]); rfl) (HRD.out.below (((Below.refl w5.heap.size w5).alloc (Nat.le_refl _) (.cells #[.int .i64 1] 3)).drew)) (ints_oneCell .i64 _) (by simp only [maxLen]; omega) (by omega) (by simp) ?_
             intro vC wk hownC hgrowC hatC
             have hbC : Below w5.heap.size w5 wk := (((Below.refl w5.heap.size w5).alloc (Nat.le_refl _) (.cells #[.int .i64 1] 3)).drew).grown hgrowC (by simp) (fun g hg => by cases hg)
             have hcc : wk.cell? ⟨w5.heap.size, 0, none⟩ = some (.int .i64 1) := (World.cell?_of_block (hgrowC.block w5.heap.size (by simp) (by simp [Value.ownBlock]))).trans (show (w5.alloc (.cells #[.int .i64 1] 3)).cell? ⟨w5.heap.size, 0, none⟩ = _ by rw [World.cell?_alloc_new]; rfl)
             have hoC : wk.ownsRow w5.heap.size 3 1 vC d2 ((L.drop ab).map (Value.int .i64)) := by simpa using hownC
             have hsC := hbC.size
             have HOC := Lib.hid hoC
             have HBC := Lib.hid hbC
             have HCC := Lib.hid hcc
             clear hownC hgrowC hatC hbC hoC hcc)
          | (refine step_append_lies _ (by rfl) _ _ _ (by rfl) w5.heap.size 3 i0 _ 1 8 Tryd.underlying22 hi hz0 hz1 hz2 rfl (by omega) vC d2 _ (by (try simp only [List.getElem_toArray, List.getElem_cons_succ, List.getElem_cons_zero, Act.put, List.setIfInBounds_toArray, List.set_cons_zero, List.set_cons_succ]); rfl) (by first | exact HOC.out | exact HOC.out.drew) ⟨w5.heap.size, 0, none⟩ 1 1 [.int .i64 1] (by (try simp only [List.getElem_toArray, List.getElem_cons_succ, List.getElem_cons_zero, Act.put, List.setIfInBounds_toArray, List.set_cons_zero, List.set_cons_succ]); rfl) (by rfl) (fun j u hj => by
               have hj0 : j = 0 := by
                 cases j with
                 | zero => rfl
                 | succ j => simp at hj
               subst hj0
               simp at hj
               subst hj
               exact HCC.out) (ints_oneCell .i64 [_]) (by omega) (by simp only [maxLen]; omega) (by omega) (by exact HBC.out.size) wk.heap.size (by rfl) ?_
             intro g1 cap1 w6 hown6 hgrow6 hat6 hlt6
             have hg6 : wk.grownBy w6 vC.ownBlock := ⟨hgrow6.os, hgrow6.tape, hgrow6.output, hgrow6.size, hgrow6.block⟩
             have hb6 := HBC.out.grown hg6 HBC.out.size (fun g hg => (World.ownsRow.lt HOC.out g hg).1)
             have hi6 : IntsAt w6 (fun b => w5.heap.size ≤ b ∧ b < w6.heap.size) (.slice (some ⟨g1, 0, none⟩) (d2 + 1) cap1) (L.drop ab ++ [1]) := IntsAt.of_own (n := d2 + 1) (by rw [List.map_append]; exact hown6)
             have HI6 := Lib.hid hi6
             have HB6 := Lib.hid hb6
             clear hown6 hgrow6 hat6 hg6 hi6 hb6))
        all_goals
          go_wp2_with fail
          refine (HDIV.out _ _ _ HB6.out HI6.out (fun b hb => hb.2)).mono ?_
          rintro e w7 ⟨Q, R, vq, vr, cQ, cR, lQ, lR, hcg, rfl, hoQ, hoR, hb7⟩
          have hb8 : Below w5.heap.size w5 w7 := HB6.out.trans (hb7.mono HB6.out.size)
          have hq : Q.length ≤ need := by have := HLT.out; have := HAB.out; omega
          have key : ∀ G, Num.Can p G → G.length ≤ need → i ≤ agr p G (fOf X) (fOf Y) i + d2 → Q = G ∧ R = [] := by
            have e := HAB.out
            have hll := HLL.out
            have hso := HSOL.out
            subst e
            exact fun G cG lG hG => rows_quot hp hnl HA.out hll hso cQ cR lR hq hcg G lG cG hG
          have hb9 : Below w.heap.size w w7 := HB5.out.trans (hb8.mono HB5.out.size)
          have hoQ9 : OwnI w7 w.heap.size vq Q := hoQ.mono (by have := HB5.out.size; have := HB6.out.size; omega)
          have hdr7 := r_Degree vr R _ w7 hoR.ints (by omega)
          have hdq7 := r_Degree vq Q _ w7 hoQ.ints (by omega)
          have hag := r_agree p vq _ _ Q X Y _ _ _ w7 hp1 h2 hoQ.ints (HX.out.keep (w' := w7) fun b hb => hb9.block b (hS b hb)) (HY.out.keep (w' := w7) fun b hb => hb9.block b (hT b hb)) (by omega) (by have := HN.out; omega) (by have := HN.out; have := HM.out; omega) (InF.of_mem cQ.1) HFX.out
          rw [← HN.out] at hag
          obtain ⟨dq, hdq⟩ : ∃ dq, degN Q = dq := ⟨_, rfl⟩
          obtain ⟨dr, hdr⟩ : ∃ dr, degN R = dr := ⟨_, rfl⟩
          obtain ⟨c, hc⟩ : ∃ c, agr p Q (fOf X) (fOf Y) i = c := ⟨_, rfl⟩
          have hcl := agr_le p Q (fOf X) (fOf Y) i
          have hdql : dq ≤ need := by have := degN_le Q; omega
          have hR0 : dr = 0 → R = [] := fun h0 => List.eq_nil_of_length_eq_zero (by have := cR.2; omega)
          have hR1 : R = [] → dr = 0 := fun h0 => by rw [← hdr, h0]; rfl
          rw [hdq] at hdq7
          rw [hdr] at hdr7
          rw [hc] at hag hcl
          have HKEY := Lib.hid key
          have HB9 := Lib.hid hb9
          have HOQ9 := Lib.hid hoQ9
          have HCQ := Lib.hid cQ
          have HQ := Lib.hid hq
          have HDR := Lib.hid hdr7
          have HDQ := Lib.hid hdq7
          have HAG := Lib.hid hag
          have HC := Lib.hid hc
          have HR0 := Lib.hid hR0
          have HR1 := Lib.hid hR1
          clear key hb9 hoQ9 hq cQ cR lQ lR hcg hoQ hoR hb7 hb8 HB6 HI6 hdr7 hdq7 hag hc hdq hdr hR0 hR1 HDIV HBC HOC
          go_wp2_with fail
          refine HDR.out.mono ?_
          rintro e w' ⟨rfl, rfl⟩
          by_cases hr0 : dr = 0
          · subst hr0
            have u1 : decide ((0 : Int) ≤ ((0 : Nat) : Int) - 1) = false := decide_eq_false (by omega)
            have hq1 : decide ((need : Int) ≤ (dq : Int) - 1) = false := decide_eq_false (by omega)
            have hq2 : decide ((need : Int) + 1 ≤ (dq : Int)) = false := decide_eq_false (by omega)
            have wn : IntKind.i64.wrap ((i : Int) - (d2 : Int)) = (i : Int) - (d2 : Int) := IntWalk.i64_in _ ⟨by omega, by omega⟩
            go_wp2_with fail
            refine HDQ.out.mono ?_
            rintro e w' ⟨rfl, rfl⟩
            go_wp2_with fail
            refine HAG.out.mono ?_
            rintro e w8 ⟨rfl, q, rfl⟩
            have hb10 : Below w.heap.size w (w7.drewN q) := ⟨HB9.out.os, HB9.out.tape, HB9.out.output, HB9.out.size, HB9.out.block⟩
            have hoQ10 : OwnI (w7.drewN q) w.heap.size vq Q := HOQ9.out
            have HB10 := Lib.hid hb10
            have HOQ10 := Lib.hid hoQ10
            clear hb10 hoQ10
            by_cases hlt : (c : Int) < (i : Int) - (d2 : Int)
            · have t2 : decide ((c : Int) < (i : Int) - (d2 : Int)) = true := decide_eq_true hlt
              have HLT2 := Lib.hid hlt
              clear hlt
              go_wp2_with fail
              go_ret2
              refine ⟨.inr ⟨rfl, fun K hK => ?_⟩, HB10.out⟩
              have e := HKEY.out K hK.1 hK.2.1 hK.2.2
              have h3 := hK.2.2
              rw [← e.1, HC.out] at h3
              have := HLT2.out
              omega
            · have t2 : decide ((c : Int) < (i : Int) - (d2 : Int)) = false := decide_eq_false hlt
              have HLT2 := Lib.hid hlt
              clear hlt
              go_wp2_with fail
              go_ret2
              exact ⟨.inl ⟨Q, vq, rfl, ⟨HCQ.out, HQ.out, by rw [HC.out]; have := HLT2.out; omega⟩, HOQ10.out⟩, HB10.out⟩
          · have u1 : decide ((0 : Int) ≤ (dr : Int) - 1) = true := decide_eq_true (by omega)
            have u2 : decide ((1 : Int) ≤ (dr : Int)) = true := decide_eq_true (by omega)
            have u3 : decide (1 ≤ dr) = true := decide_eq_true (by omega)
            have u4 : decide (0 < dr) = true := decide_eq_true (by omega)
            go_wp2_with fail
            go_ret2
            exact ⟨.inr ⟨rfl, fun K hK => hr0 (HR1.out (HKEY.out K hK.1 hK.2.1 hK.2.2).2)⟩, HB9.out⟩
end Go.Proofs.YtjfphobfikadlaaDoor

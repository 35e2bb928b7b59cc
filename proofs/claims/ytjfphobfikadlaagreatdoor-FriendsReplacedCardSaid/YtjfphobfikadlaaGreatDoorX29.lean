/- Contracts: the bytes of elements of three bytes each. Contracts: the secret that shares give. -/
import Derived.Test.YtjfphobfikadlaaGreatDoorX22
import Derived.Test.YtjfphobfikadlaaGreatDoorX17
import Derived.Test.YtjfphobfikadlaaGreatDoorX08
import Derived.Test.YtjfphobfikadlaaGreatDoorX16
set_option linter.unusedVariables false
set_option linter.unusedSimpArgs false
namespace Go.Proofs.YtjfphobfikadlaaGreatDoor
open Go.RowKit Num

theorem cells_app1 (l : List UInt8) (j : Nat) (h : j < l.length) : Lib.byteCells (l.take (j + 1)) = Lib.byteCells (l.take j) ++ [.int .u8 ((l[j]).toNat : Int)] := by
  rw [List.take_succ_eq_append_getElem h]
  unfold Lib.byteCells
  rw [List.map_append]; rfl
set_option maxRecDepth 100000 in
theorem row_string (w : World) (base g cap : Nat) (l : List UInt8) (m : Nat) (h : w.ownsRow base 5 1 (.slice (some ⟨g, 0, none⟩) m cap) m (Lib.byteCells l)) (hm : l.length = m) :
    (convert 91 9 (.slice (some ⟨g, 0, none⟩) m cap)).run Tryz.prog w = .ok (.string ⟨l.toArray⟩) w := by
  subst hm
  have hcv := run_convert_bytes_arg (P := Tryz.prog) w 91 5 Tryz.underlying91 Tryz.underlying5 g 0 l.length cap (l.map fun c => (c.toNat : Int)) (by simp) (fun i hi => by
    rw [Nat.zero_add, h.cellAt i (by omega)]
    unfold Lib.byteCells
    rw [List.getElem?_map, List.getElem?_eq_getElem hi, List.getD_eq_getElem?_getD, List.getElem?_map, List.getElem?_eq_getElem hi]; rfl) 9 Tryz.underlying9
  have hst : strOfNums (l.map fun c => (c.toNat : Int)) = ⟨l.toArray⟩ := by
    unfold strOfNums
    congr 2
    rw [List.map_map]
    conv => rhs; rw [← List.map_id l]
    congr 1
    funext c
    simp
  rwa [hst] at hcv
set_option maxRecDepth 100000 in
set_option maxHeartbeats 2000000 in
theorem p_byBytes (v : Value) (bl : List UInt8) (S : Nat → Prop) (w : World) (hv : IntsAt w S v (pack3 bl)) (hS : ∀ b, S b → b < w.heap.size) (hb : bl.length = 16) :
    Calls Tryz.prog 130 #[v, .int .i64 16, .int .i64 3] w fun e w' => e = .returned (.tuple #[.string ⟨bl.toArray⟩, .bool true]) ∧ Below w.heap.size w w' := by
  obtain ⟨A, n, c, rfl, hn, hnc, hcc⟩ := hv
  obtain ⟨i0, hi, hz0, hz1, hz2⟩ := info_parts infoB
  have hn6 : n = 6 := by rw [hn, pack3_len, hb]
  subst hn6
  have HCC := Lib.hid hcc
  have HB := Lib.hid hb
  clear hn hcc hb
  go_enter Tryz.func130, Tryz.ntmps130
  go_wp2_with fail
  go_loopw [8, 15] (fun o t wr => ∃ k : Nat, k ≤ 6 ∧ t = .int .i64 (k : Int) ∧ wr.ownsRow w.heap.size 5 1 o (min (3 * k) 16) (Lib.byteCells (bl.take (3 * k))) ∧ Below w.heap.size w wr) (fun _ t _ => 6 - (intOf t).toNat)
  case atStart => exact ⟨0, by omega, rfl, by simpa [Lib.byteCells] using World.ownsRow_nil _ _ _ _, Below.refl _ _⟩
  case round =>
    obtain ⟨k, hk, rfl, hown, hbl⟩ := hrel
    have hzz := hbl.size
    by_cases hlt : k < 6
    · obtain ⟨b, off, rfl, hSb, hcell⟩ := HCC.out (by decide)
      have ck := (hbl.cell (p := ⟨b, off + k, none⟩) (hS b hSb)).trans (hcell k hlt)
      rw [pack3_get bl k (by rw [HB.out]; omega)] at ck
      have hpl := pk3_lt bl k
      rw [HB.out] at hpl
      have hby : ∀ j, (hj : 3 * k + j < bl.length) → j < 3 → pk3 bl k / 256 ^ (min 3 (16 - 3 * k) - 1 - j) % 256 = (bl[3 * k + j]).toNat := fun j hj hj3 => by
        have h := pk3_byte bl k j hj hj3
        rw [HB.out] at h
        rw [← h]; simp
      obtain ⟨x, hx⟩ : ∃ x, pk3 bl k = x := ⟨_, rfl⟩
      rw [hx] at ck hpl hby
      obtain ⟨q, hq⟩ : ∃ q, 3 * k = q := ⟨_, rfl⟩
      have hq2 : min (3 * k) 16 = q := by omega
      rw [hq2] at hown
      rw [hq] at hown hpl hby
      have hq15 : q ≤ 15 := by omega
      have HQ := Lib.hid hq
      have HBY := Lib.hid hby
      have HOWN := Lib.hid hown
      have HBL := Lib.hid hbl
      have hw1 : IntKind.i64.wrap (16 - (q : Int)) = 16 - (q : Int) := IntWalk.i64_in _ ⟨by omega, by omega⟩
      obtain ⟨Ao, no, co, rfl, hno⟩ : ∃ Ao no co, (u8 : Value) = .slice Ao no co ∧ no = q := by
        rcases id hown.2 with ⟨h1, h2⟩ | ⟨g, cap, cur, h1, -⟩
        · exact ⟨none, 0, 0, h1, h2.symm⟩
        · exact ⟨_, q, cap, h1, rfl⟩
      subst hno
      have qk : (k : Int) < 6 := by omega
      have hx0 : decide ((x : Int) < 0) = false := decide_eq_false (by omega)
      rcases (show (min (3 : Int) (16 - (no : Int)) = 3 ∧ min 3 (16 - no) = 3 ∧ no ≤ 12) ∨ (min (3 : Int) (16 - (no : Int)) = 1 ∧ min 3 (16 - no) = 1 ∧ 15 ≤ no) by omega) with ⟨hm, hm', hno⟩ | ⟨hm, hm', hno⟩
      · rw [hm'] at hpl
        have hpl' : x < 16777216 := hpl
        have hsh : (x : Int) / 16777216 = 0 := by omega
        clear hown hbl hby hq hcell hx
        obtain ⟨wo, hwo⟩ : ∃ wo : World, wo = wr := ⟨_, rfl⟩
        subst hwo
        go_wp2_with fail
        go_loopw [8, 12] (fun o t wq => ∃ j : Nat, j ≤ 3 ∧ t = .int .i64 (2 - (j : Int)) ∧ wq.ownsRow w.heap.size 5 1 o (no + j) (Lib.byteCells (bl.take (no + j))) ∧ Below w.heap.size w wq) (fun _ t _ => (intOf t + 1).toNat)
        case atStart => exact ⟨0, by omega, rfl, by rw [Nat.add_zero, ← HQ.out]; exact HQ.out ▸ HOWN.out, HBL.out⟩
        case round =>
          obtain ⟨j, hj, rfl, hownj, hblj⟩ := hrel
          have hzj := hblj.size
          have HOJ := Lib.hid hownj
          have HBJ := Lib.hid hblj
          clear hblj
          rcases (show j = 0 ∨ j = 1 ∨ j = 2 ∨ j = 3 by omega) with rfl | rfl | rfl | rfl
          · have hjl : no + 0 < bl.length := by rw [HB.out]; omega
            have hst := cells_app1 bl (no + 0) hjl
            have hc := HBY.out 0 hjl (by decide)
            rw [hm'] at hc
            have hval : (x : Int) / 65536 = ((bl[no + 0]).toNat : Int) := by rw [← hc]; show _ = ((x / 256 ^ (3 - 1 - 0) % 256 : Nat) : Int); have : x / 256 ^ (3 - 1 - 0) = x / 65536 := rfl; omega
            rw [← hval] at hst
            have HST := Lib.hid hst
            clear hst hc hval hownj
            go_wp2_with (at_builtin; refine wpList_append_own _ rfl _ _ 91 rfl w.heap.size 5 i0 (.int .u8 0) 1 1 Tryz.underlying91 hi hz0 hz1 hz2 rfl (by decide) _ _ _ rfl (HOJ.out.alloc _) ⟨wr.heap.size, 0, none⟩ 1 1 [.int .u8 ((x : Int) / 65536)] rfl rfl (fun j u hj => by have := cell_one_new wr (.int .u8 ((x : Int) / 65536)) 5 j u hj; simpa using this) (ints_oneCell .u8 [_]) (by unfold maxLen; omega) (by omega) (by simp; omega) ?_)
            intro v' w5 hown' hgrow _
            have hg := grown_past hgrow
            have hown2 : w5.ownsRow w.heap.size 5 1 v' (no + 1) (Lib.byteCells (bl.take (no + 1))) := by
              rw [show no + 1 = no + 0 + 1 from rfl, HST.out]; simpa using hown'
            have hul : ∀ g, (u8 : Value).ownBlock = some g → w.heap.size ≤ g := fun g hg => (HOJ.out.lt g hg).1
            have HO5 := Lib.hid hown2
            have HB5 := Lib.hid (HBJ.out.grown hg hzj hul)
            clear hown' hgrow hg hown2 hul
            go_wp2_with fail
            go_roundw
            case measure => simp [intOf]
            case rel => exact ⟨1, by omega, rfl, HO5.out, HB5.out⟩
          · have hjl : no + 1 < bl.length := by rw [HB.out]; omega
            have hst := cells_app1 bl (no + 1) hjl
            have hc := HBY.out 1 hjl (by decide)
            rw [hm'] at hc
            have hval : (x : Int) / 256 % 256 = ((bl[no + 1]).toNat : Int) := by rw [← hc]; show _ = ((x / 256 ^ (3 - 1 - 1) % 256 : Nat) : Int); have : x / 256 ^ (3 - 1 - 1) = x / 256 := rfl; omega
            rw [← hval] at hst
            have HST := Lib.hid hst
            clear hst hc hval hownj
            go_wp2_with (at_builtin; refine wpList_append_own _ rfl _ _ 91 rfl w.heap.size 5 i0 (.int .u8 0) 1 1 Tryz.underlying91 hi hz0 hz1 hz2 rfl (by decide) _ _ _ rfl (HOJ.out.alloc _) ⟨wr.heap.size, 0, none⟩ 1 1 [.int .u8 ((x : Int) / 256 % 256)] rfl rfl (fun j u hj => by have := cell_one_new wr (.int .u8 ((x : Int) / 256 % 256)) 5 j u hj; simpa using this) (ints_oneCell .u8 [_]) (by unfold maxLen; omega) (by omega) (by simp; omega) ?_)
            intro v' w5 hown' hgrow _
            have hg := grown_past hgrow
            have hown2 : w5.ownsRow w.heap.size 5 1 v' (no + 2) (Lib.byteCells (bl.take (no + 2))) := by
              rw [show no + 2 = no + 1 + 1 from rfl, HST.out]; simpa using hown'
            have hul : ∀ g, (u8 : Value).ownBlock = some g → w.heap.size ≤ g := fun g hg => (HOJ.out.lt g hg).1
            have HO5 := Lib.hid hown2
            have HB5 := Lib.hid (HBJ.out.grown hg hzj hul)
            clear hown' hgrow hg hown2 hul
            go_wp2_with fail
            go_roundw
            case measure => simp [intOf]
            case rel => exact ⟨2, by omega, rfl, HO5.out, HB5.out⟩
          · have hjl : no + 2 < bl.length := by rw [HB.out]; omega
            have hst := cells_app1 bl (no + 2) hjl
            have hc := HBY.out 2 hjl (by decide)
            rw [hm'] at hc
            have hval : (x : Int) % 256 = ((bl[no + 2]).toNat : Int) := by rw [← hc]; show _ = ((x / 256 ^ (3 - 1 - 2) % 256 : Nat) : Int); have : x / 256 ^ (3 - 1 - 2) = x / 1 := rfl; omega
            rw [← hval] at hst
            have HST := Lib.hid hst
            clear hst hc hval hownj
            go_wp2_with (at_builtin; refine wpList_append_own _ rfl _ _ 91 rfl w.heap.size 5 i0 (.int .u8 0) 1 1 Tryz.underlying91 hi hz0 hz1 hz2 rfl (by decide) _ _ _ rfl (HOJ.out.alloc _) ⟨wr.heap.size, 0, none⟩ 1 1 [.int .u8 ((x : Int) % 256)] rfl rfl (fun j u hj => by have := cell_one_new wr (.int .u8 ((x : Int) % 256)) 5 j u hj; simpa using this) (ints_oneCell .u8 [_]) (by unfold maxLen; omega) (by omega) (by simp; omega) ?_)
            intro v' w5 hown' hgrow _
            have hg := grown_past hgrow
            have hown2 : w5.ownsRow w.heap.size 5 1 v' (no + 3) (Lib.byteCells (bl.take (no + 3))) := by
              rw [show no + 3 = no + 2 + 1 from rfl, HST.out]; simpa using hown'
            have hul : ∀ g, (u8 : Value).ownBlock = some g → w.heap.size ≤ g := fun g hg => (HOJ.out.lt g hg).1
            have HO5 := Lib.hid hown2
            have HB5 := Lib.hid (HBJ.out.grown hg hzj hul)
            clear hown' hgrow hg hown2 hul
            go_wp2_with fail
            go_roundw
            case measure => simp [intOf]
            case rel => exact ⟨3, by omega, rfl, HO5.out, HB5.out⟩
          · clear hownj
            go_wp2_with fail
            go_roundw
            case measure => simp [intOf]; omega
            case rel =>
              refine ⟨k + 1, by omega, by go_num, ?_, HBJ.out⟩
              have h := HOJ.out
              have hq := HQ.out
              rw [show min (3 * (k + 1)) 16 = no + 3 by omega, show 3 * (k + 1) = no + 3 by omega]
              exact h
      · rw [hm'] at hpl
        have hpl' : x < 256 := hpl
        have hsh : (x : Int) / 256 = 0 := by omega
        clear hown hbl hby hq hcell hx
        obtain ⟨wo, hwo⟩ : ∃ wo : World, wo = wr := ⟨_, rfl⟩
        subst hwo
        go_wp2_with fail
        go_loopw [8, 12] (fun o t wq => ∃ j : Nat, j ≤ 1 ∧ t = .int .i64 (0 - (j : Int)) ∧ wq.ownsRow w.heap.size 5 1 o (no + j) (Lib.byteCells (bl.take (no + j))) ∧ Below w.heap.size w wq) (fun _ t _ => (intOf t + 1).toNat)
        case atStart => exact ⟨0, by omega, rfl, by rw [Nat.add_zero, ← HQ.out]; exact HQ.out ▸ HOWN.out, HBL.out⟩
        case round =>
          obtain ⟨j, hj, rfl, hownj, hblj⟩ := hrel
          have hzj := hblj.size
          have HOJ := Lib.hid hownj
          have HBJ := Lib.hid hblj
          clear hblj
          rcases (show j = 0 ∨ j = 1 by omega) with rfl | rfl
          · have hjl : no + 0 < bl.length := by rw [HB.out]; omega
            have hst := cells_app1 bl (no + 0) hjl
            have hc := HBY.out 0 hjl (by decide)
            rw [hm'] at hc
            have hval : (x : Int) = ((bl[no + 0]).toNat : Int) := by rw [← hc]; show _ = ((x / 256 ^ (1 - 1 - 0) % 256 : Nat) : Int); have : x / 256 ^ (1 - 1 - 0) = x / 1 := rfl; omega
            rw [← hval] at hst
            have HST := Lib.hid hst
            clear hst hc hval hownj
            go_wp2_with (at_builtin; refine wpList_append_own _ rfl _ _ 91 rfl w.heap.size 5 i0 (.int .u8 0) 1 1 Tryz.underlying91 hi hz0 hz1 hz2 rfl (by decide) _ _ _ rfl (HOJ.out.alloc _) ⟨wr.heap.size, 0, none⟩ 1 1 [.int .u8 ((x : Int))] rfl rfl (fun j u hj => by have := cell_one_new wr (.int .u8 ((x : Int))) 5 j u hj; simpa using this) (ints_oneCell .u8 [_]) (by unfold maxLen; omega) (by omega) (by simp; omega) ?_)
            intro v' w5 hown' hgrow _
            have hg := grown_past hgrow
            have hown2 : w5.ownsRow w.heap.size 5 1 v' (no + 1) (Lib.byteCells (bl.take (no + 1))) := by
              rw [show no + 1 = no + 0 + 1 from rfl, HST.out]; simpa using hown'
            have hul : ∀ g, (u8 : Value).ownBlock = some g → w.heap.size ≤ g := fun g hg => (HOJ.out.lt g hg).1
            have HO5 := Lib.hid hown2
            have HB5 := Lib.hid (HBJ.out.grown hg hzj hul)
            clear hown' hgrow hg hown2 hul
            go_wp2_with fail
            go_roundw
            case measure => simp [intOf]
            case rel => exact ⟨1, by omega, rfl, HO5.out, HB5.out⟩
          · clear hownj
            go_wp2_with fail
            go_roundw
            case measure => simp [intOf]; omega
            case rel =>
              refine ⟨k + 1, by omega, by go_num, ?_, HBJ.out⟩
              have h := HOJ.out
              have hq := HQ.out
              rw [show min (3 * (k + 1)) 16 = no + 1 by omega, List.take_of_length_le (by rw [HB.out]; omega)]
              rw [List.take_of_length_le (by rw [HB.out]; omega)] at h
              exact h
    · have hk6 : k = 6 := by omega
      subst hk6
      rw [show min (3 * 6) 16 = 16 from rfl, List.take_of_length_le (by rw [HB.out]; decide)] at hown
      have HBL := Lib.hid hbl
      clear hbl
      rcases id hown.2 with ⟨h1, h2⟩ | ⟨g, cap, cur, rfl, -⟩
      · cases h2
      have hcv := row_string wr w.heap.size g cap bl 16 hown HB.out
      clear hown
      go_wp2_with fail
      go_ret2
      exact ⟨rfl, HBL.out⟩
end Go.Proofs.YtjfphobfikadlaaGreatDoor
namespace Go.Proofs.YtjfphobfikadlaaGreatDoor
open Go.RowKit Num

theorem wsum_cgM {p : Int} {ws ws' ys ys' : Nat → Int} : ∀ k, (∀ i, i < k → Cg p (ws i) (ws' i)) → (∀ i, i < k → Cg p (ys i) (ys' i)) → Cg p (wsum ws ys k) (wsum ws' ys' k) := by
  intro k
  induction k with
  | zero => intro _ _; exact Cg.refl _ _
  | succ k ih =>
    intro h1 h2
    exact (ih (fun i hi => h1 i (by omega)) (fun i hi => h2 i (by omega))).add ((h1 k (by omega)).mul (h2 k (by omega)))
/-- Lagrange with the program's weights. -/
theorem wt_lagrangeM {p : Nat} (hp : Prm p) {n : Nat} (h1 : 1 ≤ n) (xs : Nat → Int) (hA : ApartN p xs n) (co : List Int) (hco : co.length ≤ n) (ys : Nat → Int) (hy : ∀ i, i < n → Cg p (ys i) (ev co (xs i))) (x : Int) :
    Cg p (wsum (fun i => wt p xs n i x) ys n) (ev co x) := by
  have h2 := hp.1
  have hinv : ∀ i, i < n → Cg p (pbut xs i (xs i) n * invP p (wA p xs i (xs i) n)) 1 := fun i hi => by
    have hne := pbut_ne hp xs i (xs i) n fun j hj hne hd => hA i j hi hj (Ne.symm hne) hd
    have hcg := wA_cg p xs i (xs i) n
    have h0 := (wA_bd p xs i (xs i) (by omega) n).1
    have hnd : ¬ (p : Int) ∣ wA p xs i (xs i) n := fun hd => hne (Cg.zero_iff.1 (hcg.symm.trans (Cg.zero_iff.2 hd)))
    exact (hcg.symm.mul (Cg.refl _ _)).trans (invP_cg hp h0 hnd)
  have hl := lagrange hp h1 xs (fun i => invP p (wA p xs i (xs i) n)) hA hinv (f := fun x => ev co x) ⟨co, hco, fun _ => rfl⟩ x
  refine Cg.trans (wsum_cgM n (fun i hi => ?_) hy) hl
  exact Cg.of_emod ((wA_cg p xs i x n).mul (Cg.refl _ _))
theorem wsum_congrM {ws ws' ys : Nat → Int} : ∀ k, (∀ i, i < k → ws i = ws' i) → wsum ws ys k = wsum ws' ys k := by
  intro k
  induction k with
  | zero => intro _; rfl
  | succ k ih =>
    intro h1
    show wsum ws ys k + ws k * ys k = wsum ws' ys k + ws' k * ys k
    rw [ih (fun i hi => h1 i (by omega)), h1 k (by omega)]
theorem wsum_step (p : Int) (ws ys : Nat → Int) (k : Nat) : (wsum ws ys k % p + ws k * ys k % p) % p = wsum ws ys (k + 1) % p := by
  show _ = (wsum ws ys k + ws k * ys k) % p
  rw [← Int.add_emod]
set_option maxRecDepth 100000 in
set_option maxHeartbeats 1000000 in
theorem p_Weigh (p : Nat) (vw vy : Value) (ws ys : List Int) (S T : Nat → Prop) (w : World) (hp1 : 1 ≤ p) (h2 : p ≤ 1073741824) (hvw : IntsAt w S vw ws) (hvy : IntsAt w T vy ys) (hl : ws.length ≤ 1000) (hll : ws.length = ys.length) (hws : InF p ws) (hys : InF p ys) :
    Calls Tryz.prog 128 #[.int .i64 (p : Int), vw, vy] w fun e w' => e = .returned (.int .i64 (wsum (fOf ws) (fOf ys) ws.length % (p : Int))) ∧ w = w' := by
  obtain ⟨A, n, c, rfl, hn, hnc, hcc⟩ := hvw
  obtain ⟨A2, n2, c2, rfl, hn2, hnc2, hcc2⟩ := hvy
  have hnn : n2 = n := by omega
  subst hnn
  have hn1 : n2 ≤ 1000 := by omega
  have HN := Lib.hid hn
  have HN2 := Lib.hid hn2
  have HCC := Lib.hid hcc
  have HCC2 := Lib.hid hcc2
  have HW := Lib.hid hws
  have HY := Lib.hid hys
  clear hn hn2 hcc hcc2 hws hys hl hll
  go_enter Tryz.func128, Tryz.ntmps128
  go_wp2_with fail
  go_loopw [7, 12] (fun v t wr => ∃ k : Nat, k ≤ n2 ∧ t = .int .i64 (k : Int) ∧ v = .int .i64 (wsum (fOf ws) (fOf ys) k % (p : Int)) ∧ w = wr) (fun _ t _ => n2 - (intOf t).toNat)
  case atStart => exact ⟨0, by omega, rfl, by show _ = Value.int .i64 (0 % (p : Int)); rw [Int.zero_emod], rfl⟩
  case round =>
    obtain ⟨k, hk, rfl, rfl, rfl⟩ := hrel
    by_cases hlt : k < n2
    · obtain ⟨b, off, rfl, _, hcell⟩ := HCC.out (by omega)
      obtain ⟨b2, off2, rfl, _, hcell2⟩ := HCC2.out (by omega)
      have c1 := hcell k hlt
      have c2' := hcell2 k hlt
      have bx := HW.out k (by have := HN.out; omega)
      have byy := HY.out k (by have := HN2.out; omega)
      have hstep := wsum_step (p : Int) (fOf ws) (fOf ys) k
      have hv0 := Int.emod_nonneg (wsum (fOf ws) (fOf ys) k) (show (p : Int) ≠ 0 by omega)
      have hv1 := Int.emod_lt_of_pos (wsum (fOf ws) (fOf ys) k) (show (0 : Int) < p by omega)
      rw [show fOf ws k = ws.getD k 0 from rfl, show fOf ys k = ys.getD k 0 from rfl] at hstep
      obtain ⟨x, hx⟩ : ∃ x, ws.getD k 0 = x := ⟨_, rfl⟩
      obtain ⟨y, hy⟩ : ∃ y, ys.getD k 0 = y := ⟨_, rfl⟩
      obtain ⟨v, hv⟩ : ∃ v, wsum (fOf ws) (fOf ys) k % (p : Int) = v := ⟨_, rfl⟩
      rw [hx] at c1 bx hstep
      rw [hy] at c2' byy hstep
      rw [hv] at hv0 hv1 hstep ⊢
      have hm := fun W => f_MulZ p x y W (by omega) (by omega) bx.1 (by omega) byy.1 (by omega)
      have hz0 := Int.emod_nonneg (x * y) (show (p : Int) ≠ 0 by omega)
      have hz1 := Int.emod_lt_of_pos (x * y) (show (0 : Int) < p by omega)
      obtain ⟨z, hz⟩ : ∃ z, x * y % (p : Int) = z := ⟨_, rfl⟩
      rw [hz] at hm hz0 hz1 hstep
      have ha := fun W => f_AddI p v z W (by omega) (by omega) hv0 (by omega) hz0 (by omega)
      rw [hstep] at ha
      have HM := Lib.hid hm
      have HA := Lib.hid ha
      have qk : (k : Int) < (n2 : Int) := by omega
      clear hx hy hv hz hcell hcell2 hstep hm ha bx byy hv0 hv1 hz0 hz1
      go_wp2_with fail
      refine (HM.out _).mono ?_
      rintro e w' ⟨rfl, rfl⟩
      go_wp2_with fail
      refine (HA.out _).mono ?_
      rintro e w' ⟨rfl, rfl⟩
      go_wp2_with fail
      go_roundw
      case measure => simp [intOf]; omega
      case rel => exact ⟨k + 1, by omega, by go_num, rfl, by first | rfl | trivial⟩
    · have hkn : k = n2 := by omega
      subst hkn
      go_wp2_with fail
      go_ret
      exact ⟨by rw [HN.out]; rfl, rfl⟩
/-- What shares give, element by element. -/
def combL (p need : Nat) (L : List Sh) (m : Nat) : List Int := (List.range m).map fun i => wsum (fun j => wt p (fOf (hsOf (L.take need))) need j 0) (fOf (colY (L.take need) i)) need % (p : Int)
theorem combL_len (p need : Nat) (L : List Sh) (m : Nat) : (combL p need L m).length = m := by simp [combL]
theorem combL_succ (p need : Nat) (L : List Sh) (m : Nat) : combL p need L (m + 1) = combL p need L m ++ [wsum (fun j => wt p (fOf (hsOf (L.take need))) need j 0) (fOf (colY (L.take need) m)) need % (p : Int)] := by
  unfold combL; rw [List.range_succ, List.map_append]; rfl
theorem GoodSh.take {p hold m : Nat} {L : List Sh} (h : GoodSh p hold m L) (n : Nat) : GoodSh p hold m (L.take n) := by
  have hl : (L.take n).length ≤ L.length := by rw [List.length_take]; omega
  have hm : (L.take n).length ≤ n := by rw [List.length_take]; omega
  refine ⟨fun k hk => ?_, fun i j hi hj hne => ?_, fun k hk => ?_, fun k hk => ?_⟩
  · rw [shAt_take L n k (by omega)]; exact h.holder k (by omega)
  · rw [shAt_take L n i (by omega), shAt_take L n j (by omega)]; exact h.once i j (by omega) (by omega) hne
  · rw [shAt_take L n k (by omega)]; exact h.len k (by omega)
  · rw [shAt_take L n k (by omega)]; exact h.inF k (by omega)
/-- Shares on polynomials give what these are at 0. -/
theorem comb_back {p need hold m : Nat} {P : Nat → List Int} {L : List Sh} (hp : Prm p) (hh : hold < p) (hg : GoodSh p hold m L) (n1 : 1 ≤ need) (hn : need ≤ L.length)
    (hP : ∀ i, i < m → (P i).length ≤ need) (hv : ∀ i k, i < m → k < L.length → (shAt L k).2.getD i 0 = ev (P i) (shAt L k).1 % (p : Int)) :
    combL p need L m = (List.range m).map fun i => ev (P i) 0 % (p : Int) := by
  unfold combL
  refine List.map_congr_left fun i hi => ?_
  rw [List.mem_range] at hi
  have hg2 := hg.take need
  have hle : (L.take need).length = need := by rw [List.length_take]; omega
  have hA := hg2.apart hh
  rw [hsOf_len, hle] at hA
  refine wt_lagrangeM hp n1 _ hA (P i) (hP i hi) _ (fun k hk => ?_) 0
  show Cg p ((colY (L.take need) i).getD k 0) (ev (P i) (fOf (hsOf (L.take need)) k))
  rw [colY_get _ _ _ (by omega), hsOf_get _ _ (by omega), shAt_take L need k hk, hv i k hi (by omega)]
  exact Cg.emod _ _
end Go.Proofs.YtjfphobfikadlaaGreatDoor

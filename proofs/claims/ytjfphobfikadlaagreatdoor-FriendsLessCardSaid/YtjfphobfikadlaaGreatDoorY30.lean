/- Contracts: the bytes of elements of three bytes each. Contracts: whether shares are good in a plan (they are), and what is wrong with them (nothing). -/
import Derived.Test.YtjfphobfikadlaaGreatDoorY27
import Derived.Test.YtjfphobfikadlaaGreatDoorY26
set_option linter.unusedVariables false
set_option linter.unusedSimpArgs false
namespace Go.Proofs.YtjfphobfikadlaaGreatDoor
open Go.RowKit Num

theorem cells_app1 (l : List UInt8) (j : Nat) (h : j < l.length) : Lib.byteCells (l.take (j + 1)) = Lib.byteCells (l.take j) ++ [.int .u8 ((l[j]).toNat : Int)] := by
  rw [List.take_succ_eq_append_getElem h]
  unfold Lib.byteCells
  rw [List.map_append]; rfl
set_option maxRecDepth 100000 in
theorem row_string (w : World) (base g cap : Nat) (l : List UInt8) (m : Nat) (h : w.ownsRow base 5 1 (.slice (some ⟨g, 0, none⟩) m cap) m (Lib.byteCells l)) (hm : l.length = m) :
    (convert 91 9 (.slice (some ⟨g, 0, none⟩) m cap)).run Tryz.prog w = .ok (.string ⟨l.toArray⟩) w := by
  subst hm
  have hcv := run_convert_bytes_arg (P := Tryz.prog) w 91 5 Tryz.underlying91 Tryz.underlying5 g 0 l.length cap (l.map fun c => (c.toNat : Int)) (by simp) (fun i hi => by
    rw [Nat.zero_add, h.cellAt i (by omega)]
    unfold Lib.byteCells
    rw [List.getElem?_map, List.getElem?_eq_getElem hi, List.getD_eq_getElem?_getD, List.getElem?_map, List.getElem?_eq_getElem hi]; rfl) 9 Tryz.underlying9
  have hst : strOfNums (l.map fun c => (c.toNat : Int)) = ⟨l.toArray⟩ := by
    unfold strOfNums
    congr 2
    rw [List.map_map]
    conv => rhs; rw [← List.map_id l]
    congr 1
    funext c
    simp
  rwa [hst] at hcv
set_option maxRecDepth 100000 in
set_option maxHeartbeats 2000000 in
theorem p_byBytes (v : Value) (bl : List UInt8) (S : Nat → Prop) (w : World) (hv : IntsAt w S v (pack3 bl)) (hS : ∀ b, S b → b < w.heap.size) (hb : bl.length = 16) :
    Calls Tryz.prog 130 #[v, .int .i64 16, .int .i64 3] w fun e w' => e = .returned (.tuple #[.string ⟨bl.toArray⟩, .bool true]) ∧ Below w.heap.size w w' := by
  obtain ⟨A, n, c, rfl, hn, hnc, hcc⟩ := hv
  obtain ⟨i0, hi, hz0, hz1, hz2⟩ := info_parts infoB
  have hn6 : n = 6 := by rw [hn, pack3_len, hb]
  subst hn6
  have HCC := Lib.hid hcc
  have HB := Lib.hid hb
  clear hn hcc hb
  go_enter Tryz.func130, Tryz.ntmps130
  go_wp2_with fail
  go_loopw [8, 15] (fun o t wr => ∃ k : Nat, k ≤ 6 ∧ t = .int .i64 (k : Int) ∧ wr.ownsRow w.heap.size 5 1 o (min (3 * k) 16) (Lib.byteCells (bl.take (3 * k))) ∧ Below w.heap.size w wr) (fun _ t _ => 6 - (intOf t).toNat)
  case atStart => exact ⟨0, by omega, rfl, by simpa [Lib.byteCells] using World.ownsRow_nil _ _ _ _, Below.refl _ _⟩
  case round =>
    obtain ⟨k, hk, rfl, hown, hbl⟩ := hrel
    have hzz := hbl.size
    by_cases hlt : k < 6
    · obtain ⟨b, off, rfl, hSb, hcell⟩ := HCC.out (by decide)
      have ck := (hbl.cell (p := ⟨b, off + k, none⟩) (hS b hSb)).trans (hcell k hlt)
      rw [pack3_get bl k (by rw [HB.out]; omega)] at ck
      have hpl := pk3_lt bl k
      rw [HB.out] at hpl
      have hby : ∀ j, (hj : 3 * k + j < bl.length) → j < 3 → pk3 bl k / 256 ^ (min 3 (16 - 3 * k) - 1 - j) % 256 = (bl[3 * k + j]).toNat := fun j hj hj3 => by
        have h := pk3_byte bl k j hj hj3
        rw [HB.out] at h
        rw [← h]; simp
      obtain ⟨x, hx⟩ : ∃ x, pk3 bl k = x := ⟨_, rfl⟩
      rw [hx] at ck hpl hby
      obtain ⟨q, hq⟩ : ∃ q, 3 * k = q := ⟨_, rfl⟩
      have hq2 : min (3 * k) 16 = q := by omega
      rw [hq2] at hown
      rw [hq] at hown hpl hby
      have hq15 : q ≤ 15 := by omega
      have HQ := Lib.hid hq
      have HBY := Lib.hid hby
      have HOWN := Lib.hid hown
      have HBL := Lib.hid hbl
      have hw1 : IntKind.i64.wrap (16 - (q : Int)) = 16 - (q : Int) := IntWalk.i64_in _ ⟨by omega, by omega⟩
      obtain ⟨Ao, no, co, rfl, hno⟩ : ∃ Ao no co, (u8 : Value) = .slice Ao no co ∧ no = q := by
        rcases id hown.2 with ⟨h1, h2⟩ | ⟨g, cap, cur, h1, -⟩
        · exact ⟨none, 0, 0, h1, h2.symm⟩
        · exact ⟨_, q, cap, h1, rfl⟩
      subst hno
      have qk : (k : Int) < 6 := by omega
      have hx0 : decide ((x : Int) < 0) = false := decide_eq_false (by omega)
      rcases (show (min (3 : Int) (16 - (no : Int)) = 3 ∧ min 3 (16 - no) = 3 ∧ no ≤ 12) ∨ (min (3 : Int) (16 - (no : Int)) = 1 ∧ min 3 (16 - no) = 1 ∧ 15 ≤ no) by omega) with ⟨hm, hm', hno⟩ | ⟨hm, hm', hno⟩
      · rw [hm'] at hpl
        have hpl' : x < 16777216 := hpl
        have hsh : (x : Int) / 16777216 = 0 := by omega
        clear hown hbl hby hq hcell hx
        obtain ⟨wo, hwo⟩ : ∃ wo : World, wo = wr := ⟨_, rfl⟩
        subst hwo
        go_wp2_with fail
        go_loopw [8, 12] (fun o t wq => ∃ j : Nat, j ≤ 3 ∧ t = .int .i64 (2 - (j : Int)) ∧ wq.ownsRow w.heap.size 5 1 o (no + j) (Lib.byteCells (bl.take (no + j))) ∧ Below w.heap.size w wq) (fun _ t _ => (intOf t + 1).toNat)
        case atStart => exact ⟨0, by omega, rfl, by rw [Nat.add_zero, ← HQ.out]; exact HQ.out ▸ HOWN.out, HBL.out⟩
        case round =>
          obtain ⟨j, hj, rfl, hownj, hblj⟩ := hrel
          have hzj := hblj.size
          have HOJ := Lib.hid hownj
          have HBJ := Lib.hid hblj
          clear hblj
          rcases (show j = 0 ∨ j = 1 ∨ j = 2 ∨ j = 3 by omega) with rfl | rfl | rfl | rfl
          · have hjl : no + 0 < bl.length := by rw [HB.out]; omega
            have hst := cells_app1 bl (no + 0) hjl
            have hc := HBY.out 0 hjl (by decide)
            rw [hm'] at hc
            have hval : (x : Int) / 65536 = ((bl[no + 0]).toNat : Int) := by rw [← hc]; show _ = ((x / 256 ^ (3 - 1 - 0) % 256 : Nat) : Int); have : x / 256 ^ (3 - 1 - 0) = x / 65536 := rfl; omega
            rw [← hval] at hst
            have HST := Lib.hid hst
            clear hst hc hval hownj
            go_wp2_with (at_builtin; refine wpList_append_own _ rfl _ _ 91 rfl w.heap.size 5 i0 (.int .u8 0) 1 1 Tryz.underlying91 hi hz0 hz1 hz2 rfl (by decide) _ _ _ rfl (HOJ.out.alloc _) ⟨wr.heap.size, 0, none⟩ 1 1 [.int .u8 ((x : Int) / 65536)] rfl rfl (fun j u hj => by have := cell_one_new wr (.int .u8 ((x : Int) / 65536)) 5 j u hj; simpa using this) (ints_oneCell .u8 [_]) (by unfold maxLen; omega) (by omega) (by simp; omega) ?_)
            intro v' w5 hown' hgrow _
            have hg := grown_past hgrow
            have hown2 : w5.ownsRow w.heap.size 5 1 v' (no + 1) (Lib.byteCells (bl.take (no + 1))) := by
              rw [show no + 1 = no + 0 + 1 from rfl, HST.out]; simpa using hown'
            have hul : ∀ g, (u8 : Value).ownBlock = some g → w.heap.size ≤ g := fun g hg => (HOJ.out.lt g hg).1
            have HO5 := Lib.hid hown2
            have HB5 := Lib.hid (HBJ.out.grown hg hzj hul)
            clear hown' hgrow hg hown2 hul
            go_wp2_with fail
            go_roundw
            case measure => simp [intOf]
            case rel => exact ⟨1, by omega, rfl, HO5.out, HB5.out⟩
          · have hjl : no + 1 < bl.length := by rw [HB.out]; omega
            have hst := cells_app1 bl (no + 1) hjl
            have hc := HBY.out 1 hjl (by decide)
            rw [hm'] at hc
            have hval : (x : Int) / 256 % 256 = ((bl[no + 1]).toNat : Int) := by rw [← hc]; show _ = ((x / 256 ^ (3 - 1 - 1) % 256 : Nat) : Int); have : x / 256 ^ (3 - 1 - 1) = x / 256 := rfl; omega
            rw [← hval] at hst
            have HST := Lib.hid hst
            clear hst hc hval hownj
            go_wp2_with (at_builtin; refine wpList_append_own _ rfl _ _ 91 rfl w.heap.size 5 i0 (.int .u8 0) 1 1 Tryz.underlying91 hi hz0 hz1 hz2 rfl (by decide) _ _ _ rfl (HOJ.out.alloc _) ⟨wr.heap.size, 0, none⟩ 1 1 [.int .u8 ((x : Int) / 256 % 256)] rfl rfl (fun j u hj => by have := cell_one_new wr (.int .u8 ((x : Int) / 256 % 256)) 5 j u hj; simpa using this) (ints_oneCell .u8 [_]) (by unfold maxLen; omega) (by omega) (by simp; omega) ?_)
            intro v' w5 hown' hgrow _
            have hg := grown_past hgrow
            have hown2 : w5.ownsRow w.heap.size 5 1 v' (no + 2) (Lib.byteCells (bl.take (no + 2))) := by
              rw [show no + 2 = no + 1 + 1 from rfl, HST.out]; simpa using hown'
            have hul : ∀ g, (u8 : Value).ownBlock = some g → w.heap.size ≤ g := fun g hg => (HOJ.out.lt g hg).1
            have HO5 := Lib.hid hown2
            have HB5 := Lib.hid (HBJ.out.grown hg hzj hul)
            clear hown' hgrow hg hown2 hul
            go_wp2_with fail
            go_roundw
            case measure => simp [intOf]
            case rel => exact ⟨2, by omega, rfl, HO5.out, HB5.out⟩
          · have hjl : no + 2 < bl.length := by rw [HB.out]; omega
            have hst := cells_app1 bl (no + 2) hjl
            have hc := HBY.out 2 hjl (by decide)
            rw [hm'] at hc
            have hval : (x : Int) % 256 = ((bl[no + 2]).toNat : Int) := by rw [← hc]; show _ = ((x / 256 ^ (3 - 1 - 2) % 256 : Nat) : Int); have : x / 256 ^ (3 - 1 - 2) = x / 1 := rfl; omega
            rw [← hval] at hst
            have HST := Lib.hid hst
            clear hst hc hval hownj
            go_wp2_with (at_builtin; refine wpList_append_own _ rfl _ _ 91 rfl w.heap.size 5 i0 (.int .u8 0) 1 1 Tryz.underlying91 hi hz0 hz1 hz2 rfl (by decide) _ _ _ rfl (HOJ.out.alloc _) ⟨wr.heap.size, 0, none⟩ 1 1 [.int .u8 ((x : Int) % 256)] rfl rfl (fun j u hj => by have := cell_one_new wr (.int .u8 ((x : Int) % 256)) 5 j u hj; simpa using this) (ints_oneCell .u8 [_]) (by unfold maxLen; omega) (by omega) (by simp; omega) ?_)
            intro v' w5 hown' hgrow _
            have hg := grown_past hgrow
            have hown2 : w5.ownsRow w.heap.size 5 1 v' (no + 3) (Lib.byteCells (bl.take (no + 3))) := by
              rw [show no + 3 = no + 2 + 1 from rfl, HST.out]; simpa using hown'
            have hul : ∀ g, (u8 : Value).ownBlock = some g → w.heap.size ≤ g := fun g hg => (HOJ.out.lt g hg).1
            have HO5 := Lib.hid hown2
            have HB5 := Lib.hid (HBJ.out.grown hg hzj hul)
            clear hown' hgrow hg hown2 hul
            go_wp2_with fail
            go_roundw
            case measure => simp [intOf]
            case rel => exact ⟨3, by omega, rfl, HO5.out, HB5.out⟩
          · clear hownj
            go_wp2_with fail
            go_roundw
            case measure => simp [intOf]; omega
            case rel =>
              refine ⟨k + 1, by omega, by go_num, ?_, HBJ.out⟩
              have h := HOJ.out
              have hq := HQ.out
              rw [show min (3 * (k + 1)) 16 = no + 3 by omega, show 3 * (k + 1) = no + 3 by omega]
              exact h
      · rw [hm'] at hpl
        have hpl' : x < 256 := hpl
        have hsh : (x : Int) / 256 = 0 := by omega
        clear hown hbl hby hq hcell hx
        obtain ⟨wo, hwo⟩ : ∃ wo : World, wo = wr := ⟨_, rfl⟩
        subst hwo
        go_wp2_with fail
        go_loopw [8, 12] (fun o t wq => ∃ j : Nat, j ≤ 1 ∧ t = .int .i64 (0 - (j : Int)) ∧ wq.ownsRow w.heap.size 5 1 o (no + j) (Lib.byteCells (bl.take (no + j))) ∧ Below w.heap.size w wq) (fun _ t _ => (intOf t + 1).toNat)
        case atStart => exact ⟨0, by omega, rfl, by rw [Nat.add_zero, ← HQ.out]; exact HQ.out ▸ HOWN.out, HBL.out⟩
        case round =>
          obtain ⟨j, hj, rfl, hownj, hblj⟩ := hrel
          have hzj := hblj.size
          have HOJ := Lib.hid hownj
          have HBJ := Lib.hid hblj
          clear hblj
          rcases (show j = 0 ∨ j = 1 by omega) with rfl | rfl
          · have hjl : no + 0 < bl.length := by rw [HB.out]; omega
            have hst := cells_app1 bl (no + 0) hjl
            have hc := HBY.out 0 hjl (by decide)
            rw [hm'] at hc
            have hval : (x : Int) = ((bl[no + 0]).toNat : Int) := by rw [← hc]; show _ = ((x / 256 ^ (1 - 1 - 0) % 256 : Nat) : Int); have : x / 256 ^ (1 - 1 - 0) = x / 1 := rfl; omega
            rw [← hval] at hst
            have HST := Lib.hid hst
            clear hst hc hval hownj
            go_wp2_with (at_builtin; refine wpList_append_own _ rfl _ _ 91 rfl w.heap.size 5 i0 (.int .u8 0) 1 1 Tryz.underlying91 hi hz0 hz1 hz2 rfl (by decide) _ _ _ rfl (HOJ.out.alloc _) ⟨wr.heap.size, 0, none⟩ 1 1 [.int .u8 ((x : Int))] rfl rfl (fun j u hj => by have := cell_one_new wr (.int .u8 ((x : Int))) 5 j u hj; simpa using this) (ints_oneCell .u8 [_]) (by unfold maxLen; omega) (by omega) (by simp; omega) ?_)
            intro v' w5 hown' hgrow _
            have hg := grown_past hgrow
            have hown2 : w5.ownsRow w.heap.size 5 1 v' (no + 1) (Lib.byteCells (bl.take (no + 1))) := by
              rw [show no + 1 = no + 0 + 1 from rfl, HST.out]; simpa using hown'
            have hul : ∀ g, (u8 : Value).ownBlock = some g → w.heap.size ≤ g := fun g hg => (HOJ.out.lt g hg).1
            have HO5 := Lib.hid hown2
            have HB5 := Lib.hid (HBJ.out.grown hg hzj hul)
            clear hown' hgrow hg hown2 hul
            go_wp2_with fail
            go_roundw
            case measure => simp [intOf]
            case rel => exact ⟨1, by omega, rfl, HO5.out, HB5.out⟩
          · clear hownj
            go_wp2_with fail
            go_roundw
            case measure => simp [intOf]; omega
            case rel =>
              refine ⟨k + 1, by omega, by go_num, ?_, HBJ.out⟩
              have h := HOJ.out
              have hq := HQ.out
              rw [show min (3 * (k + 1)) 16 = no + 1 by omega, List.take_of_length_le (by rw [HB.out]; omega)]
              rw [List.take_of_length_le (by rw [HB.out]; omega)] at h
              exact h
    · have hk6 : k = 6 := by omega
      subst hk6
      rw [show min (3 * 6) 16 = 16 from rfl, List.take_of_length_le (by rw [HB.out]; decide)] at hown
      have HBL := Lib.hid hbl
      clear hbl
      rcases id hown.2 with ⟨h1, h2⟩ | ⟨g, cap, cur, rfl, -⟩
      · cases h2
      have hcv := row_string wr w.heap.size g cap bl 16 hown HB.out
      clear hown
      go_wp2_with fail
      go_ret2
      exact ⟨rfl, HBL.out⟩
end Go.Proofs.YtjfphobfikadlaaGreatDoor
namespace Go.Proofs.YtjfphobfikadlaaGreatDoor
open Go.RowKit Num

set_option maxRecDepth 100000 in
set_option maxHeartbeats 4000000 in
theorem s_Good (p need hold m : Nat) (v : Value) (L : List Sh) (S : Nat → Prop) (w : World) (n3 : hold ≤ 16)
    (hv : ShAt w S v L) (hS : ∀ b, S b → b < w.heap.size) (hl : L.length ≤ 16) (hm : m ≤ 2048) (ho : GoodSh p hold m L) :
    Calls Tryz.prog 159 #[.agg #[.int .i64 (p : Int), .int .i64 (need : Int), .int .i64 (hold : Int)], v] w (BoolBelow true w) := by
  obtain ⟨A, n, c, rfl, hn, hnc, hc⟩ := id hv
  have hn1 : n ≤ 16 := by omega
  have HV := Lib.hid hv
  have HN := Lib.hid hn
  have HO := Lib.hid ho
  have hst : ∀ (W : World) (h : Nat) (u : Value) (xs : List Int), IntsAt W (fun b => b < W.heap.size) u xs → xs.length = m → InF p xs → 1 ≤ h → h ≤ hold → Calls Tryz.prog 194 #[.agg #[.int .i64 (p : Int), .int .i64 (need : Int), .int .i64 (hold : Int)], .agg #[.int .i64 (h : Int), u]] W (BoolBelow true W) := fun W h u xs hu hx hf h1 h2 =>
    s_Stands p need hold h u xs _ W hu (fun b hb => hb) (by omega) hf h1 h2
  have HST := Lib.hid hst
  clear hv hn ho hc hst
  have kp0 : Blk ((w.alloc (.cells #[.int .i64 (p : Int), .int .i64 (need : Int), .int .i64 (hold : Int)] 34))) w.heap.size 34 #[.int .i64 (p : Int), .int .i64 (need : Int), .int .i64 (hold : Int)] := Blk.new w _ _
  have hb0 : Below w.heap.size w (w.alloc (.cells #[.int .i64 (p : Int), .int .i64 (need : Int), .int .i64 (hold : Int)] 34)) := (Below.refl _ _).alloc (Nat.le_refl _) _
  have hs0 : (w.alloc (.cells #[.int .i64 (p : Int), .int .i64 (need : Int), .int .i64 (hold : Int)] 34)).heap.size = w.heap.size + 1 := by simp
  have KP := Lib.hid kp0
  have HB0 := Lib.hid hb0
  clear kp0 hb0
  go_enter Tryz.func159, Tryz.ntmps159
  go_wp2_with fail
  generalize (w.alloc (.cells #[.int .i64 (p : Int), .int .i64 (need : Int), .int .i64 (hold : Int)] 34)) = w2 at *
  have HS0 := Lib.hid hs0
  have hsz2 : w.heap.size < w2.heap.size := by omega
  clear hs0
  go_loopw [10] (fun t wr => ∃ k : Nat, k ≤ n ∧ t = .int .i64 k ∧ ArrV wr (w.heap.size + 1) 17 (seenV L k) ∧ Below (w.heap.size + 1) w2 wr ∧ (w.heap.size + 1) < wr.heap.size) (fun t _ => n - (intOf t).toNat)
  case atStart =>
    have e2 := HS0.out
    rw [← e2]
    refine ⟨0, by omega, rfl, ⟨fun j hj => ?_, fun j hj => World.frozen?_alloc_new _ _ _ _⟩, (Below.refl _ _).alloc (Nat.le_refl _) _, by simp⟩
    rw [World.cell?_alloc_new]
    have e : seenV L 0 j = .bool false := by unfold seenV; exact congrArg Value.bool (decide_eq_false (fun ⟨i, hi, _⟩ => Nat.not_lt_zero i hi))
    rw [e]
    have : ∀ j : Nat, j < 17 → (Array.replicate 17 (Value.bool false))[j]? = some (.bool false) := fun j hj => by rw [Array.getElem?_eq_getElem (by simp; exact hj)]; simp
    exact this j hj
  case round =>
    obtain ⟨k, hk, rfl, harr, hbl, hz⟩ := hrel
    by_cases hlt : k < n
    · have hkl : k < L.length := by have := HN.out; omega
      obtain ⟨A1, n1', c1, hv1, e1, e2, hcs⟩ := HV.out
      injection hv1 with v1 v2 v3
      subst v1 v2 v3
      obtain ⟨b, off, rfl, hSb, hcell⟩ := hcs (by omega)
      obtain ⟨u, m0, m1, hu⟩ := hcell k hlt
      obtain ⟨u0, _, m3, hu0⟩ := hcell 0 (by omega)
      obtain ⟨Au, nu, cu, rfl, f1, f2, f3⟩ := id hu
      obtain ⟨Av, nv, cv, rfl, g1, g2, g3⟩ := id hu0
      have hone := HO.out.len k hkl
      have hone0 := HO.out.len 0 (by omega)
      have hin := HO.out.inF k hkl
      have hnu : nu = m := by omega
      have hnv : nv = m := by omega
      subst hnv
      subst hnu
      have hho := HO.out.holder k hkl
      obtain ⟨H, hH⟩ := Int.eq_ofNat_of_zero_le (show 0 ≤ (shAt L k).1 by omega)
      rw [hH] at m0 hho
      have bb : b < w.heap.size := hS b hSb
      have hww : Below w.heap.size w wr := HB0.out.trans (hbl.mono (by omega))
      have r0 := (hww.cell (p := ⟨b, off + k * 2, none⟩) bb).trans m0
      have r1 := (hww.cell (p := ⟨b, off + k * 2 + 1, none⟩) bb).trans m1
      have r2 := (hww.cell (p := ⟨b, off + 0 * 2 + 1, none⟩) bb).trans m3
      rw [Nat.zero_mul, Nat.add_zero] at r2
      have kp := KP.out.below hbl (by omega)
      have r3 : wr.cell? ⟨w.heap.size, 0, none⟩ = some (.int .i64 (p : Int)) := kp.cell 0
      have r4 : wr.cell? ⟨w.heap.size, 1, none⟩ = some (.int .i64 (need : Int)) := kp.cell 1
      have r5 : wr.cell? ⟨w.heap.size, 2, none⟩ = some (.int .i64 (hold : Int)) := kp.cell 2
      have r6 := harr.cell H (by omega)
      have e6 : seenV L k H = .bool false := by
        unfold seenV; congr 1
        refine decide_eq_false ?_
        rintro ⟨i, hi, hii⟩
        exact HO.out.once i k (by omega) hkl (by omega) (by rw [hii, hH])
      rw [e6] at r6
      have z1 : b < wr.heap.size := by omega
      have z3 : w.heap.size < wr.heap.size := by omega
      have qk : (k : Int) < (n : Int) := by omega
      have q0n : (0 : Int) < (n : Int) := by omega
      have q0m : 0 < n := by omega
      have hiu : ∀ W, Below wr.heap.size wr W → IntsAt W (fun b => b < W.heap.size) (.slice Au nu cu) (shAt L k).2 := fun W hW =>
        (hu.keep fun b hb => (hW.block b (by have := hS b hb; omega)).trans (hww.block b (hS b hb))).mono fun b hb => by have := hS b hb; have := hW.size; omega
      have hsd : ∀ W, Below wr.heap.size wr W → Calls Tryz.prog 194 #[.agg #[.int .i64 (p : Int), .int .i64 (need : Int), .int .i64 (hold : Int)], .agg #[.int .i64 (H : Int), .slice Au nu cu]] W (BoolBelow true W) := fun W hW =>
        HST.out W H _ _ (hiu W hW) hone hin (by omega) (by omega)
      have HSD := Lib.hid hsd
      have HH := Lib.hid hH
      have HBL := Lib.hid hbl
      have HARR := Lib.hid harr
      have hH1 : H < 17 := by omega
      clear hcell m0 m1 m3 kp e6 hH hbl harr hww hone hone0 hcs f1 f2 f3 e1 e2 g1 g2 g3 hu hu0 hin hho hiu hsd
      go_wp2_with fail
      have ha : Below wr.heap.size wr (wr.alloc (.cells #[.int .i64 (H : Int), .slice Au nu cu] 49)) := (Below.refl _ _).alloc (Nat.le_refl _) _
      have t0 : (wr.alloc (.cells #[.int .i64 (H : Int), .slice Au nu cu] 49)).cell? ⟨wr.heap.size, 0, none⟩ = some (.int .i64 (H : Int)) := by rw [World.cell?_alloc_new]; rfl
      have t1 : (wr.alloc (.cells #[.int .i64 (H : Int), .slice Au nu cu] 49)).cell? ⟨wr.heap.size, 1, none⟩ = some (.slice Au nu cu) := by rw [World.cell?_alloc_new]; rfl
      have t2 := (ha.cell (p := ⟨b, off + 1, none⟩) z1).trans r2
      have t3 := (ha.cell (p := ⟨w.heap.size, 0, none⟩) z3).trans r3
      have t4 := (ha.cell (p := ⟨w.heap.size, 1, none⟩) z3).trans r4
      have t5 := (ha.cell (p := ⟨w.heap.size, 2, none⟩) z3).trans r5
      have t6 := (ha.cell (p := ⟨w.heap.size + 1, H, none⟩) hz).trans r6
      have hsa : wr.heap.size < (wr.alloc (.cells #[.int .i64 (H : Int), .slice Au nu cu] 49)).heap.size := by simp
      generalize (wr.alloc (.cells #[.int .i64 (H : Int), .slice Au nu cu] 49)) = W1 at *
      clear r0 r1 r2 r3 r4 r5 r6
      have mk : ∀ W : World, Below W1.heap.size W1 W → W.cell? ⟨wr.heap.size, 0, none⟩ = some (.int .i64 (H : Int)) ∧ W.cell? ⟨wr.heap.size, 1, none⟩ = some (.slice Au nu cu) ∧ W.cell? ⟨b, off + 1, none⟩ = some (.slice Av nu cv) ∧ W.cell? ⟨w.heap.size, 0, none⟩ = some (.int .i64 (p : Int)) ∧ W.cell? ⟨w.heap.size, 1, none⟩ = some (.int .i64 (need : Int)) ∧ W.cell? ⟨w.heap.size, 2, none⟩ = some (.int .i64 (hold : Int)) ∧ W.cell? ⟨w.heap.size + 1, H, none⟩ = some (.bool false) ∧ Hid (Below W1.heap.size W1 W) := fun W hW =>
        ⟨(hW.cell (p := ⟨wr.heap.size, 0, none⟩) hsa).trans t0, (hW.cell (p := ⟨wr.heap.size, 1, none⟩) hsa).trans t1, (hW.cell (p := ⟨b, off + 1, none⟩) (by simp; omega)).trans t2, (hW.cell (p := ⟨w.heap.size, 0, none⟩) (by simp; omega)).trans t3, (hW.cell (p := ⟨w.heap.size, 1, none⟩) (by simp; omega)).trans t4, (hW.cell (p := ⟨w.heap.size, 2, none⟩) (by simp; omega)).trans t5, (hW.cell (p := ⟨w.heap.size + 1, H, none⟩) (by simp; omega)).trans t6, Lib.hid hW⟩
      have MK := Lib.hid mk
      have HA := Lib.hid ha
      have d3 : (H : Int) < 17 := by omega
      have d4 : (0 : Int) ≤ (H : Int) := by omega
      have d5 : decide ((2048 : Int) < (nu : Int)) = false := decide_eq_false (by omega)
      clear mk ha t0 t1 t2 t3 t4 t5 t6
      go_region_held3 (fun W => W.cell? ⟨wr.heap.size, 0, none⟩ = some (.int .i64 (H : Int)) ∧ W.cell? ⟨wr.heap.size, 1, none⟩ = some (.slice Au nu cu) ∧ W.cell? ⟨b, off + 1, none⟩ = some (.slice Av nu cv) ∧ W.cell? ⟨w.heap.size, 0, none⟩ = some (.int .i64 (p : Int)) ∧ W.cell? ⟨w.heap.size, 1, none⟩ = some (.int .i64 (need : Int)) ∧ W.cell? ⟨w.heap.size, 2, none⟩ = some (.int .i64 (hold : Int)) ∧ W.cell? ⟨w.heap.size + 1, H, none⟩ = some (.bool false) ∧ Hid (Below W1.heap.size W1 W))
        (first
          | exact HP.out
          | exact MK.out _ (Below.refl _ _).drew)
        (first
          | (go_at_call 194
             (with_reducible refine (HSD.out _ (HA.out.trans (((Below.refl W1.heap.size W1).drew).mono (Nat.le_of_lt hsa)))).mono ?_)
             rintro e wk ⟨rfl, hbk⟩
             have hbk' : Below W1.heap.size W1 wk := ((Below.refl W1.heap.size W1).drew).trans hbk
             have HB2 := Lib.hid hbk'
             have HP := Lib.hid (MK.out wk hbk')
             clear hbk hbk'))
      have HP2 := HP.out
      go_split_ands
      have hall : Below wr.heap.size wr wk := HA.out.trans (HB2.out.mono (by omega))
      have uf : wk.frozen? ⟨w.heap.size + 1, H, none⟩ = false := (hall.frozen (p := ⟨w.heap.size + 1, H, none⟩) hz).trans (HARR.out.live H hH1)
      have hak : ArrV wk (w.heap.size + 1) 17 (seenV L k) := ⟨fun j hj => (hall.cell (p := ⟨w.heap.size + 1, j, none⟩) hz).trans (HARR.out.cell j hj), fun j hj => (hall.frozen (p := ⟨w.heap.size + 1, j, none⟩) hz).trans (HARR.out.live j hj)⟩
      have hbk2 := HBL.out.trans (hall.mono (by omega))
      have hsk := hall.size
      have HAK := Lib.hid hak
      have HBK := Lib.hid hbk2
      clear hak hbk2 hall
      go_wp2_with fail
      go_roundw
      case measure => simp [intOf]; omega
      case rel =>
        refine ⟨k + 1, by omega, by go_num, ?_, HBK.out.setCell (p := ⟨w.heap.size + 1, H, none⟩) (Nat.le_refl _) _, by simp; omega⟩
        refine (HAK.out.upd (.bool true) hH1).congr fun j hj => ?_
        unfold updV
        by_cases hjH : j = H
        · rw [if_pos hjH]
          unfold seenV
          congr 1
          exact (decide_eq_true ⟨k, by omega, by rw [HH.out, hjH]⟩).symm
        · rw [if_neg hjH]
          unfold seenV
          congr 1
          rw [decide_eq_decide]
          constructor
          · rintro ⟨i, hi, hii⟩; exact ⟨i, by omega, hii⟩
          · rintro ⟨i, hi, hii⟩
            refine ⟨i, ?_, hii⟩
            rcases Nat.lt_or_ge i k with h | h
            · exact h
            · have : i = k := by omega
              subst this
              rw [HH.out] at hii; omega
    · have hkn : k = n := by omega
      subst hkn
      have hbf := HB0.out.trans (hbl.mono (by omega))
      have HBF := Lib.hid hbf
      clear hbl harr hbf
      go_wp2_with fail
      go_ret
      exact ⟨rfl, HBF.out⟩
end Go.Proofs.YtjfphobfikadlaaGreatDoor

/- Contract: the reference says that the same shares are the same. Contracts: the reference's bytes of elements. Contracts: the reference's bytes of bits. -/
import Derived.Test.YtjfphobfikadlaaGreatDoorW11
import Derived.Test.YtjfphobfikadlaaGreatDoorW23
import Derived.BigQuiet
import Derived.Test.YtjfphobfikadlaaGreatDoorW20
set_option linter.unusedVariables false
set_option linter.unusedSimpArgs false
namespace Go.Proofs.YtjfphobfikadlaaGreatDoor
open Go.RowKit Num

set_option maxRecDepth 100000 in
set_option maxHeartbeats 4000000 in
theorem r_SameSh (v u : Value) (L : List Sh) (S T : Nat → Prop) (w : World) (hv : ShAt w S v L) (hu : ShAt w T u L) (hS : ∀ b, S b → b < w.heap.size) (hT : ∀ b, T b → b < w.heap.size) (hl : L.length ≤ 1000) (hll : ∀ k, k < L.length → (shAt L k).2.length ≤ 1000000) :
    Calls Tryz.prog 32 #[v, u] w (BoolBelow true w) := by
  obtain ⟨A, n, c, rfl, hn, hnc, hc⟩ := id hv
  obtain ⟨A2, n2, c2, rfl, hn2, hnc2, hc2⟩ := id hu
  have hnn : n2 = n := by omega
  subst hnn
  have hn1 : n2 ≤ 1000 := by omega
  have HN := Lib.hid hn
  have HC := Lib.hid hc
  have HC2 := Lib.hid hc2
  have HLL := Lib.hid hll
  have HSS := Lib.hid hS
  have HTT := Lib.hid hT
  clear hv hu hn hn2 hc hc2 hl hll hS hT
  go_enter Tryz.func32, Tryz.ntmps32
  go_wp2_with fail
  go_loopw [14] (fun t wr => ∃ k : Nat, k ≤ n2 ∧ t = .int .i64 k ∧ Below w.heap.size w wr) (fun t _ => n2 - (intOf t).toNat)
  case atStart => exact ⟨0, by omega, rfl, Below.refl _ _⟩
  case round =>
    rename World => wo
    obtain ⟨k, hk, rfl, hbl⟩ := hrel
    have hzz := hbl.size
    by_cases hlt : k < n2
    · obtain ⟨b, off, rfl, hSb, hcell⟩ := HC.out (by omega)
      obtain ⟨b2, off2, rfl, hTb, hcell2⟩ := HC2.out (by omega)
      obtain ⟨u1, y0, y1, hyu⟩ := hcell k hlt
      obtain ⟨u2, z0, z1, hzu⟩ := hcell2 k hlt
      have hlk := HLL.out k (by rw [← HN.out]; exact hlt)
      have hsm : ∀ W, Below w.heap.size w W → Calls Tryz.prog 52 #[u1, u2] W fun e w' => e = .returned (.bool true) ∧ W = w' := fun W hW => by
        have := r_Same u1 u2 (shAt L k).2 (shAt L k).2 S T W (hyu.keep fun b hb => hW.block b (HSS.out b hb)) (hzu.keep fun b hb => hW.block b (HTT.out b hb)) hlk hlk
        rwa [decide_eq_true rfl] at this
      have bS := HSS.out b hSb
      have bT := HTT.out b2 hTb
      obtain ⟨Ay, ny, cy, rfl, -, -, -⟩ := id hyu
      obtain ⟨Az, nz, cz, rfl, -, -, -⟩ := id hzu
      obtain ⟨G, hG⟩ : ∃ G, (shAt L k).1 = G := ⟨_, rfl⟩
      rw [hG] at y0 z0
      have r0 := (hbl.cell (p := ⟨b, off + k * 2, none⟩) bS).trans y0
      have r1 := (hbl.cell (p := ⟨b, off + k * 2 + 1, none⟩) bS).trans y1
      have q0 := (hbl.cell (p := ⟨b2, off2 + k * 2, none⟩) bT).trans z0
      have q1 := (hbl.cell (p := ⟨b2, off2 + k * 2 + 1, none⟩) bT).trans z1
      have t0 : (G != G) = false := by simp
      have qk : (k : Int) < (n2 : Int) := by omega
      have qk0 : (0 : Int) ≤ (k : Int) := by omega
      have HSM := Lib.hid hsm
      have HBL := Lib.hid hbl
      have zb : b2 < wo.heap.size := by omega
      clear hcell hcell2 y0 y1 z0 z1 hyu hzu hlk hsm hG hbl
      go_wp2_with fail
      have ha : Below wo.heap.size wo (wo.alloc (.cells #[.int .i64 G, .slice Ay ny cy] 49)) := (Below.refl _ _).alloc (Nat.le_refl _) _
      have t2 : (wo.alloc (.cells #[.int .i64 G, .slice Ay ny cy] 49)).cell? ⟨wo.heap.size, 0, none⟩ = some (.int .i64 G) := by rw [World.cell?_alloc_new]; rfl
      have t1 : (wo.alloc (.cells #[.int .i64 G, .slice Ay ny cy] 49)).cell? ⟨wo.heap.size, 1, none⟩ = some (.slice Ay ny cy) := by rw [World.cell?_alloc_new]; rfl
      have t3 := (ha.cell (p := ⟨b2, off2 + k * 2, none⟩) zb).trans q0
      have t4 := (ha.cell (p := ⟨b2, off2 + k * 2 + 1, none⟩) zb).trans q1
      have hb2 := HBL.out.trans (ha.mono hzz)
      generalize (wo.alloc (.cells #[.int .i64 G, .slice Ay ny cy] 49)) = W1 at *
      have hz1 : wo.heap.size < W1.heap.size := World.block_lt_of_cell? _ _ t2
      have mk : ∀ W : World, Below W1.heap.size W1 W → W.cell? ⟨wo.heap.size, 0, none⟩ = some (.int .i64 G) ∧ W.cell? ⟨wo.heap.size, 1, none⟩ = some (.slice Ay ny cy) ∧ W.cell? ⟨b2, off2 + k * 2, none⟩ = some (.int .i64 G) ∧ W.cell? ⟨b2, off2 + k * 2 + 1, none⟩ = some (.slice Az nz cz) ∧ Hid (Below W1.heap.size W1 W) := fun W hW =>
        ⟨(hW.cell (p := ⟨wo.heap.size, 0, none⟩) hz1).trans t2, (hW.cell (p := ⟨wo.heap.size, 1, none⟩) hz1).trans t1, (hW.cell (p := ⟨b2, off2 + k * 2, none⟩) (by simp; omega)).trans t3, (hW.cell (p := ⟨b2, off2 + k * 2 + 1, none⟩) (by simp; omega)).trans t4, Lib.hid hW⟩
      have MK := Lib.hid mk
      have HB2 := Lib.hid hb2
      clear mk hb2 ha r0 r1 q0 q1 t1 t2 t3 t4
      go_region_held3 (fun W => W.cell? ⟨wo.heap.size, 0, none⟩ = some (.int .i64 G) ∧ W.cell? ⟨wo.heap.size, 1, none⟩ = some (.slice Ay ny cy) ∧ W.cell? ⟨b2, off2 + k * 2, none⟩ = some (.int .i64 G) ∧ W.cell? ⟨b2, off2 + k * 2 + 1, none⟩ = some (.slice Az nz cz) ∧ Hid (Below W1.heap.size W1 W))
        (first
          | exact HP.out
          | exact MK.out _ (Below.refl _ _).drew)
        (first
          | (go_at_call 52
             (with_reducible refine (HSM.out _ (HB2.out.trans (((Below.refl W1.heap.size W1).drew).mono HB2.out.size))).mono ?_)
             rintro e wk ⟨rfl, rfl⟩
             have HP := Lib.hid (MK.out _ (Below.refl W1.heap.size W1).drew)))
      have HP2 := HP.out
      go_split_ands
      go_wp2_with fail
      go_roundw
      case measure => simp [intOf]; omega
      case rel => exact ⟨k + 1, by omega, by go_num, ⟨HB2.out.os, HB2.out.tape, HB2.out.output, HB2.out.size, HB2.out.block⟩⟩
    · have hkk : k = n2 := by omega
      subst hkk
      have HBL := Lib.hid hbl
      clear hbl
      go_wp2_with fail
      go_ret
      exact ⟨rfl, HBL.out⟩
end Go.Proofs.YtjfphobfikadlaaGreatDoor
namespace Go.Proofs.YtjfphobfikadlaaGreatDoor
open Go.RowKit Num

theorem own_keeps {B : Nat} {e : TypeId} {sz n : Nat} {v : Value} {xs : List Value} {W W' : World} (h : W.ownsRow B e sz v n xs) (hb : Below W.heap.size W W') : W'.ownsRow B e sz v n xs :=
  World.ownsRow.kept h (only_of_below hb none) (by cases v.ownBlock <;> simp)
set_option maxRecDepth 100000 in
set_option maxHeartbeats 8000000 in
theorem r_Unpack3 (p : Nat) (v : Value) (bl : List UInt8) (S : Nat → Prop) (w : World) (hp : Prm p) (h1 : 16777216 ≤ p) (h2 : p ≤ 1073741824) (hv : IntsAt w S v (pack3 bl)) (hS : ∀ b, S b → b < w.heap.size) (hb : bl.length = 16) :
    Calls Tryz.prog 31 #[.int .i64 (p : Int), v, .int .i64 16] w fun e w' => e = .returned (.tuple #[.string ⟨bl.toArray⟩, .int .i64 0]) ∧ Below w.heap.size w w' := by
  have hval := fun W => r_Valid p W hp h2
  have hct := fun W => r_Count p W h2
  have hwd := fun W => r_Width p W h2
  have hcn : cntP p = 6 := by unfold cntP; rw [wid3 h1]; rfl
  rw [wid3 h1] at hwd
  rw [hcn] at hct
  have hpk := fun W => r_pack3 p ⟨bl.toArray⟩ W h1 h2 (by show bl.toArray.size ≤ 16; simp; omega)
  rw [show (⟨bl.toArray⟩ : ByteArray).data.toList = bl by simp] at hpk
  have hsm : ∀ W v2 T, Below w.heap.size w W → IntsAt W T v2 (pack3 bl) → Calls Tryz.prog 52 #[v2, v] W fun e w' => e = .returned (.bool true) ∧ W = w' := fun W v2 T hW h => by
    have := r_Same v2 v (pack3 bl) (pack3 bl) T S W h (hv.keep fun b hb => hW.block b (hS b hb)) (by rw [pack3_len]; omega) (by rw [pack3_len]; omega)
    rwa [decide_eq_true rfl] at this
  obtain ⟨A, n, c, rfl, hn, hnc, hcc⟩ := hv
  obtain ⟨i0, hi, hz0, hz1, hz2⟩ := info_parts infoB
  have hn6 : n = 6 := by rw [hn, pack3_len, hb]
  subst hn6
  have HCC := Lib.hid hcc
  have HB := Lib.hid hb
  have HVL := Lib.hid hval
  have HCT := Lib.hid hct
  have HWD := Lib.hid hwd
  have HPK := Lib.hid hpk
  have HSM := Lib.hid hsm
  clear hn hcc hb hval hct hwd hpk hsm hcn
  go_enter Tryz.func31, Tryz.ntmps31
  go_wp2_with fail
  refine (HVL.out _).mono ?_
  rintro e w' ⟨rfl, rfl⟩
  go_wp2_with fail
  refine (HCT.out _).mono ?_
  rintro e w1 ⟨rfl, hb1⟩
  have HB1 := Lib.hid hb1
  clear hb1
  go_wp2_with fail
  refine (HWD.out _).mono ?_
  rintro e w' ⟨rfl, rfl⟩
  go_wp2_with fail
  go_loopw [9, 31] (fun o t wr => ∃ k : Nat, k ≤ 6 ∧ t = .int .i64 (k : Int) ∧ wr.ownsRow w.heap.size 5 1 o (min (3 * k) 16) (Lib.byteCells (bl.take (3 * k))) ∧ Below w.heap.size w wr) (fun _ t _ => 6 - (intOf t).toNat)
  case atStart => exact ⟨0, by omega, rfl, by simpa [Lib.byteCells] using World.ownsRow_nil _ _ _ _, HB1.out⟩
  case round =>
    obtain ⟨k, hk, rfl, hown, hbl⟩ := hrel
    have hzz := hbl.size
    by_cases hlt : k < 6
    · obtain ⟨b, off, rfl, hSb, hcell⟩ := HCC.out (by decide)
      have ck := (hbl.cell (p := ⟨b, off + k, none⟩) (hS b hSb)).trans (hcell k hlt)
      rw [pack3_get bl k (by rw [HB.out]; omega)] at ck
      have hpl := pk3_lt bl k
      rw [HB.out] at hpl
      have hby : ∀ j, (hj : 3 * k + j < bl.length) → j < 3 → pk3 bl k / 256 ^ (min 3 (16 - 3 * k) - 1 - j) % 256 = (bl[3 * k + j]).toNat := fun j hj hj3 => by
        have h := pk3_byte bl k j hj hj3
        rw [HB.out] at h
        rw [← h]; simp
      obtain ⟨x, hx⟩ : ∃ x, pk3 bl k = x := ⟨_, rfl⟩
      rw [hx] at ck hpl hby
      obtain ⟨q, hq⟩ : ∃ q, 3 * k = q := ⟨_, rfl⟩
      have hq2 : min (3 * k) 16 = q := by omega
      rw [hq2] at hown
      rw [hq] at hown hpl hby
      have hq15 : q ≤ 15 := by omega
      have HQ := Lib.hid hq
      have HBY := Lib.hid hby
      have HOWN := Lib.hid hown
      have HBL := Lib.hid hbl
      have hw1 : IntKind.i64.wrap (16 - (q : Int)) = 16 - (q : Int) := IntWalk.i64_in _ ⟨by omega, by omega⟩
      obtain ⟨Ao, no, co, rfl, hno⟩ : ∃ Ao no co, (u9 : Value) = .slice Ao no co ∧ no = q := by
        rcases id hown.2 with ⟨h1, h2⟩ | ⟨g, cap, cur, h1, -⟩
        · exact ⟨none, 0, 0, h1, h2.symm⟩
        · exact ⟨_, q, cap, h1, rfl⟩
      subst hno
      have qk : (k : Int) < 6 := by omega
      have hx0 : decide ((x : Int) < 0) = false := decide_eq_false (by omega)
      rcases (show (min (3 : Int) (16 - (no : Int)) = 3 ∧ min 3 (16 - no) = 3 ∧ no ≤ 12) ∨ (min (3 : Int) (16 - (no : Int)) = 1 ∧ min 3 (16 - no) = 1 ∧ 15 ≤ no) by omega) with ⟨hm, hm', hno⟩ | ⟨hm, hm', hno⟩
      · rw [hm'] at hpl
        have hpl' : x < 16777216 := hpl
        have hsh : (x : Int) / 16777216 = 0 := by omega
        clear hown hbl hby hq hcell hx
        obtain ⟨wo, hwo⟩ : ∃ wo : World, wo = wr := ⟨_, rfl⟩
        subst hwo
        go_wp2_with fail
        go_loopw [9, 12] (fun o t wq => ∃ j : Nat, j ≤ 3 ∧ t = .int .i64 (2 - (j : Int)) ∧ wq.ownsRow w.heap.size 5 1 o (no + j) (Lib.byteCells (bl.take (no + j))) ∧ Below w.heap.size w wq) (fun _ t _ => (intOf t + 1).toNat)
        case atStart => exact ⟨0, by omega, rfl, by rw [Nat.add_zero, ← HQ.out]; exact HQ.out ▸ HOWN.out, HBL.out⟩
        case round =>
          obtain ⟨j, hj, rfl, hownj, hblj⟩ := hrel
          have hzj := hblj.size
          have HOJ := Lib.hid hownj
          have HBJ := Lib.hid hblj
          clear hblj
          rcases (show j = 0 ∨ j = 1 ∨ j = 2 ∨ j = 3 by omega) with rfl | rfl | rfl | rfl
          · have hjl : no + 0 < bl.length := by rw [HB.out]; omega
            have hst := cells_app1 bl (no + 0) hjl
            have hc := HBY.out 0 hjl (by decide)
            rw [hm'] at hc
            have hval : (x : Int) / 65536 = ((bl[no + 0]).toNat : Int) := by rw [← hc]; show _ = ((x / 256 ^ (3 - 1 - 0) % 256 : Nat) : Int); have : x / 256 ^ (3 - 1 - 0) = x / 65536 := rfl; omega
            rw [← hval] at hst
            have HST := Lib.hid hst
            clear hst hc hval hownj
            go_wp2_with (at_builtin; refine wpList_append_own _ rfl _ _ 91 rfl w.heap.size 5 i0 (.int .u8 0) 1 1 Tryz.underlying91 hi hz0 hz1 hz2 rfl (by decide) _ _ _ rfl (HOJ.out.alloc _) ⟨wr.heap.size, 0, none⟩ 1 1 [.int .u8 ((x : Int) / 65536)] rfl rfl (fun j u hj => by have := cell_one_new wr (.int .u8 ((x : Int) / 65536)) 5 j u hj; simpa using this) (ints_oneCell .u8 [_]) (by unfold maxLen; omega) (by omega) (by simp; omega) ?_)
            intro v' w5 hown' hgrow _
            have hg := grown_past hgrow
            have hown2 : w5.ownsRow w.heap.size 5 1 v' (no + 1) (Lib.byteCells (bl.take (no + 1))) := by
              rw [show no + 1 = no + 0 + 1 from rfl, HST.out]; simpa using hown'
            have hul : ∀ g, (u9 : Value).ownBlock = some g → w.heap.size ≤ g := fun g hg => (HOJ.out.lt g hg).1
            have HO5 := Lib.hid hown2
            have HB5 := Lib.hid (HBJ.out.grown hg hzj hul)
            clear hown' hgrow hg hown2 hul
            go_wp2_with fail
            go_roundw
            case measure => simp [intOf]
            case rel => exact ⟨1, by omega, rfl, HO5.out, HB5.out⟩
          · have hjl : no + 1 < bl.length := by rw [HB.out]; omega
            have hst := cells_app1 bl (no + 1) hjl
            have hc := HBY.out 1 hjl (by decide)
            rw [hm'] at hc
            have hval : (x : Int) / 256 % 256 = ((bl[no + 1]).toNat : Int) := by rw [← hc]; show _ = ((x / 256 ^ (3 - 1 - 1) % 256 : Nat) : Int); have : x / 256 ^ (3 - 1 - 1) = x / 256 := rfl; omega
            rw [← hval] at hst
            have HST := Lib.hid hst
            clear hst hc hval hownj
            go_wp2_with (at_builtin; refine wpList_append_own _ rfl _ _ 91 rfl w.heap.size 5 i0 (.int .u8 0) 1 1 Tryz.underlying91 hi hz0 hz1 hz2 rfl (by decide) _ _ _ rfl (HOJ.out.alloc _) ⟨wr.heap.size, 0, none⟩ 1 1 [.int .u8 ((x : Int) / 256 % 256)] rfl rfl (fun j u hj => by have := cell_one_new wr (.int .u8 ((x : Int) / 256 % 256)) 5 j u hj; simpa using this) (ints_oneCell .u8 [_]) (by unfold maxLen; omega) (by omega) (by simp; omega) ?_)
            intro v' w5 hown' hgrow _
            have hg := grown_past hgrow
            have hown2 : w5.ownsRow w.heap.size 5 1 v' (no + 2) (Lib.byteCells (bl.take (no + 2))) := by
              rw [show no + 2 = no + 1 + 1 from rfl, HST.out]; simpa using hown'
            have hul : ∀ g, (u9 : Value).ownBlock = some g → w.heap.size ≤ g := fun g hg => (HOJ.out.lt g hg).1
            have HO5 := Lib.hid hown2
            have HB5 := Lib.hid (HBJ.out.grown hg hzj hul)
            clear hown' hgrow hg hown2 hul
            go_wp2_with fail
            go_roundw
            case measure => simp [intOf]
            case rel => exact ⟨2, by omega, rfl, HO5.out, HB5.out⟩
          · have hjl : no + 2 < bl.length := by rw [HB.out]; omega
            have hst := cells_app1 bl (no + 2) hjl
            have hc := HBY.out 2 hjl (by decide)
            rw [hm'] at hc
            have hval : (x : Int) % 256 = ((bl[no + 2]).toNat : Int) := by rw [← hc]; show _ = ((x / 256 ^ (3 - 1 - 2) % 256 : Nat) : Int); have : x / 256 ^ (3 - 1 - 2) = x / 1 := rfl; omega
            rw [← hval] at hst
            have HST := Lib.hid hst
            clear hst hc hval hownj
            go_wp2_with (at_builtin; refine wpList_append_own _ rfl _ _ 91 rfl w.heap.size 5 i0 (.int .u8 0) 1 1 Tryz.underlying91 hi hz0 hz1 hz2 rfl (by decide) _ _ _ rfl (HOJ.out.alloc _) ⟨wr.heap.size, 0, none⟩ 1 1 [.int .u8 ((x : Int) % 256)] rfl rfl (fun j u hj => by have := cell_one_new wr (.int .u8 ((x : Int) % 256)) 5 j u hj; simpa using this) (ints_oneCell .u8 [_]) (by unfold maxLen; omega) (by omega) (by simp; omega) ?_)
            intro v' w5 hown' hgrow _
            have hg := grown_past hgrow
            have hown2 : w5.ownsRow w.heap.size 5 1 v' (no + 3) (Lib.byteCells (bl.take (no + 3))) := by
              rw [show no + 3 = no + 2 + 1 from rfl, HST.out]; simpa using hown'
            have hul : ∀ g, (u9 : Value).ownBlock = some g → w.heap.size ≤ g := fun g hg => (HOJ.out.lt g hg).1
            have HO5 := Lib.hid hown2
            have HB5 := Lib.hid (HBJ.out.grown hg hzj hul)
            clear hown' hgrow hg hown2 hul
            go_wp2_with fail
            go_roundw
            case measure => simp [intOf]
            case rel => exact ⟨3, by omega, rfl, HO5.out, HB5.out⟩
          · clear hownj
            go_wp2_with fail
            go_roundw
            case measure => simp [intOf]; omega
            case rel =>
              refine ⟨k + 1, by omega, by go_num, ?_, HBJ.out⟩
              have h := HOJ.out
              have hq := HQ.out
              rw [show min (3 * (k + 1)) 16 = no + 3 by omega, show 3 * (k + 1) = no + 3 by omega]
              exact h
      · rw [hm'] at hpl
        have hpl' : x < 256 := hpl
        have hsh : (x : Int) / 256 = 0 := by omega
        clear hown hbl hby hq hcell hx
        obtain ⟨wo, hwo⟩ : ∃ wo : World, wo = wr := ⟨_, rfl⟩
        subst hwo
        go_wp2_with fail
        go_loopw [9, 12] (fun o t wq => ∃ j : Nat, j ≤ 1 ∧ t = .int .i64 (0 - (j : Int)) ∧ wq.ownsRow w.heap.size 5 1 o (no + j) (Lib.byteCells (bl.take (no + j))) ∧ Below w.heap.size w wq) (fun _ t _ => (intOf t + 1).toNat)
        case atStart => exact ⟨0, by omega, rfl, by rw [Nat.add_zero, ← HQ.out]; exact HQ.out ▸ HOWN.out, HBL.out⟩
        case round =>
          obtain ⟨j, hj, rfl, hownj, hblj⟩ := hrel
          have hzj := hblj.size
          have HOJ := Lib.hid hownj
          have HBJ := Lib.hid hblj
          clear hblj
          rcases (show j = 0 ∨ j = 1 by omega) with rfl | rfl
          · have hjl : no + 0 < bl.length := by rw [HB.out]; omega
            have hst := cells_app1 bl (no + 0) hjl
            have hc := HBY.out 0 hjl (by decide)
            rw [hm'] at hc
            have hval : (x : Int) = ((bl[no + 0]).toNat : Int) := by rw [← hc]; show _ = ((x / 256 ^ (1 - 1 - 0) % 256 : Nat) : Int); have : x / 256 ^ (1 - 1 - 0) = x / 1 := rfl; omega
            rw [← hval] at hst
            have HST := Lib.hid hst
            clear hst hc hval hownj
            go_wp2_with (at_builtin; refine wpList_append_own _ rfl _ _ 91 rfl w.heap.size 5 i0 (.int .u8 0) 1 1 Tryz.underlying91 hi hz0 hz1 hz2 rfl (by decide) _ _ _ rfl (HOJ.out.alloc _) ⟨wr.heap.size, 0, none⟩ 1 1 [.int .u8 ((x : Int))] rfl rfl (fun j u hj => by have := cell_one_new wr (.int .u8 ((x : Int))) 5 j u hj; simpa using this) (ints_oneCell .u8 [_]) (by unfold maxLen; omega) (by omega) (by simp; omega) ?_)
            intro v' w5 hown' hgrow _
            have hg := grown_past hgrow
            have hown2 : w5.ownsRow w.heap.size 5 1 v' (no + 1) (Lib.byteCells (bl.take (no + 1))) := by
              rw [show no + 1 = no + 0 + 1 from rfl, HST.out]; simpa using hown'
            have hul : ∀ g, (u9 : Value).ownBlock = some g → w.heap.size ≤ g := fun g hg => (HOJ.out.lt g hg).1
            have HO5 := Lib.hid hown2
            have HB5 := Lib.hid (HBJ.out.grown hg hzj hul)
            clear hown' hgrow hg hown2 hul
            go_wp2_with fail
            go_roundw
            case measure => simp [intOf]
            case rel => exact ⟨1, by omega, rfl, HO5.out, HB5.out⟩
          · clear hownj
            go_wp2_with fail
            go_roundw
            case measure => simp [intOf]; omega
            case rel =>
              refine ⟨k + 1, by omega, by go_num, ?_, HBJ.out⟩
              have h := HOJ.out
              have hq := HQ.out
              rw [show min (3 * (k + 1)) 16 = no + 1 by omega, List.take_of_length_le (by rw [HB.out]; omega)]
              rw [List.take_of_length_le (by rw [HB.out]; omega)] at h
              exact h
    · have hk6 : k = 6 := by omega
      subst hk6
      rw [show min (3 * 6) 16 = 16 from rfl, List.take_of_length_le (by rw [HB.out]; decide)] at hown
      have HBL := Lib.hid hbl
      clear hbl
      rcases id hown.2 with ⟨h1, h2⟩ | ⟨g, cap, cur, rfl, -⟩
      · cases h2
      have hcv := row_string wr w.heap.size g cap bl 16 hown HB.out
      have HOWN := Lib.hid hown
      have hzz2 := HBL.out.size
      obtain ⟨wo, hwo⟩ : ∃ wo : World, wo = wr := ⟨_, rfl⟩
      subst hwo
      clear hown
      go_wp2_with fail
      refine (HPK.out _).mono ?_
      rintro e w2 ⟨v2, rfl, hv2, hb2⟩
      have hb3 := HBL.out.trans (hb2.mono hzz2)
      have hsm := HSM.out w2 v2 _ hb3 hv2
      have hcv2 := row_string w2 w.heap.size g cap bl 16 (own_keeps HOWN.out hb2) HB.out
      have HSM2 := Lib.hid hsm
      have HB3 := Lib.hid hb3
      clear hb2 hb3 hsm hv2 hcv
      go_wp2_with fail
      refine HSM2.out.mono ?_
      rintro e w' ⟨rfl, rfl⟩
      go_wp2_with fail
      go_ret2
      exact ⟨rfl, HB3.out⟩
end Go.Proofs.YtjfphobfikadlaaGreatDoor
namespace Go.Proofs.YtjfphobfikadlaaGreatDoor
open Go.RowKit Num

/-- The bytes of the first k bits. -/
def numL (bl : List UInt8) (k : Nat) : List Int := (List.range ((k + 7) / 8)).map fun j => (((bl.getD j 0).toNat / 2 ^ (8 * (j + 1) - k) : Nat) : Int)
theorem numL_len (bl : List UInt8) (k : Nat) : (numL bl k).length = (k + 7) / 8 := by simp [numL]
theorem numL_get (bl : List UInt8) (k j : Nat) (h : j < (k + 7) / 8) : (numL bl k)[j]? = some ((((bl.getD j 0).toNat / 2 ^ (8 * (j + 1) - k) : Nat) : Int)) := by
  unfold numL; rw [List.getElem?_map, List.getElem?_range h]; rfl
theorem numL_next0 (bl : List UInt8) (k : Nat) (h : k % 8 = 0) (z : Int) (hz : (((bl.getD (k / 8) 0).toNat / 2 ^ 7 % 2 : Nat) : Int) = z) : (numL bl k ++ [0]).set (k / 8) z = numL bl (k + 1) := by
  have hc := (bl.getD (k / 8) 0).toNat_lt
  apply List.ext_getElem?
  intro j
  rw [List.getElem?_set]
  have hl : (numL bl k ++ [0]).length = k / 8 + 1 := by rw [List.length_append, numL_len]; simp; omega
  rcases Nat.lt_trichotomy j (k / 8) with hj | hj | hj
  · rw [if_neg (by omega), List.getElem?_append_left (by rw [numL_len]; omega), numL_get _ _ _ (by omega), numL_get _ _ _ (by omega), show 8 * (j + 1) - k = 0 by omega, show 8 * (j + 1) - (k + 1) = 0 by omega]
  · subst hj
    rw [if_pos rfl, if_pos (by omega), numL_get _ _ _ (by omega), show 8 * (k / 8 + 1) - (k + 1) = 7 by omega, ← hz]
    congr 2
    omega
  · rw [if_neg (by omega), List.getElem?_eq_none (by omega), List.getElem?_eq_none (by rw [numL_len]; omega)]
theorem numL_next1 (bl : List UInt8) (k : Nat) (h : k % 8 ≠ 0) (z : Int) (hz : (((bl.getD (k / 8) 0).toNat / 2 ^ (8 - k % 8) : Nat) : Int) * 2 + (((bl.getD (k / 8) 0).toNat / 2 ^ (7 - k % 8) % 2 : Nat) : Int) = z) : (numL bl k).set (k / 8) z = numL bl (k + 1) := by
  apply List.ext_getElem?
  intro j
  rw [List.getElem?_set]
  rcases Nat.lt_trichotomy j (k / 8) with hj | hj | hj
  · rw [if_neg (by omega), numL_get _ _ _ (by omega), numL_get _ _ _ (by omega), show 8 * (j + 1) - k = 0 by omega, show 8 * (j + 1) - (k + 1) = 0 by omega]
  · subst hj
    rw [if_pos rfl, if_pos (by rw [numL_len]; omega), numL_get _ _ _ (by omega), ← hz, show 8 * (k / 8 + 1) - (k + 1) = 7 - k % 8 by omega, show 8 - k % 8 = (7 - k % 8) + 1 by omega, Nat.pow_succ, ← Nat.div_div_eq_div_mul]
    congr 1
    generalize (bl.getD (k / 8) 0).toNat / 2 ^ (7 - k % 8) = t
    omega
  · rw [if_neg (by omega), List.getElem?_eq_none (by rw [numL_len]; omega), List.getElem?_eq_none (by rw [numL_len]; omega)]
theorem numL_end (bl : List UInt8) (hb : bl.length = 16) : (numL bl 128).map (Value.int .u8) = Lib.byteCells bl := by
  apply List.ext_getElem?
  intro j
  by_cases hj : j < 16
  · rw [List.getElem?_map, numL_get _ _ _ (by omega), show 8 * (j + 1) - 128 = 0 by omega]
    unfold Lib.byteCells
    rw [List.getElem?_map, List.getElem?_eq_getElem (by omega), List.getD_eq_getElem?_getD, List.getElem?_eq_getElem (by omega)]
    simp
  · rw [List.getElem?_eq_none (by rw [List.length_map, numL_len]; omega), List.getElem?_eq_none (by unfold Lib.byteCells; rw [List.length_map]; omega)]
theorem or_bitB : ∀ (y : Fin 128) (x : Fin 2), bits .or .u8 (((y.val : Nat) : Int) * 2) ((x.val : Nat) : Int) = ((y.val : Nat) : Int) * 2 + ((x.val : Nat) : Int) := by decide
theorem or_bit (y x : Nat) (hy : y < 128) (hx : x < 2) : bits .or .u8 ((y : Int) * 2) (x : Int) = (y : Int) * 2 + (x : Int) := or_bitB ⟨y, hy⟩ ⟨x, hx⟩
theorem and_bit1 (x : Nat) (hx : x < 2) : bits .and .i64 (x : Int) 1 = (x : Int) := by
  rcases (show x = 0 ∨ x = 1 by omega) with rfl | rfl <;> rfl
set_option maxRecDepth 100000 in
set_option maxHeartbeats 8000000 in
theorem r_Unpack0 (p : Nat) (v : Value) (bl : List UInt8) (S : Nat → Prop) (w : World) (hp : Prm p) (h2 : p < 256) (hv : IntsAt w S v (bitsL bl)) (hS : ∀ b, S b → b < w.heap.size) (hb : bl.length = 16) :
    Calls Tryz.prog 31 #[.int .i64 (p : Int), v, .int .i64 16] w fun e w' => e = .returned (.tuple #[.string ⟨bl.toArray⟩, .int .i64 0]) ∧ Below w.heap.size w w' := by
  have hval := fun W => r_Valid p W hp (by omega)
  have hct := fun W => r_Count p W (by omega)
  have hwd := fun W => r_Width p W (by omega)
  have hbl0 : (bitsL bl).length = 128 := by rw [bitsL_len, hb]
  rw [wid0 h2] at hwd
  rw [cnt0 h2] at hct
  have hpk := fun W => r_pack0 p ⟨bl.toArray⟩ W h2 (by show bl.toArray.size = 16; simp; omega)
  rw [show (⟨bl.toArray⟩ : ByteArray).data.toList = bl by simp] at hpk
  have hsm : ∀ W v2 T, Below w.heap.size w W → IntsAt W T v2 (bitsL bl) → Calls Tryz.prog 52 #[v2, v] W fun e w' => e = .returned (.bool true) ∧ W = w' := fun W v2 T hW h => by
    have := r_Same v2 v (bitsL bl) (bitsL bl) T S W h (hv.keep fun b hb => hW.block b (hS b hb)) (by omega) (by omega)
    rwa [decide_eq_true rfl] at this
  obtain ⟨A, n, c, rfl, hn, hnc, hcc⟩ := hv
  obtain ⟨i0, hi, hz0, hz1, hz2⟩ := info_parts infoB
  have hn6 : n = 128 := by rw [hn, hbl0]
  subst hn6
  have HCC := Lib.hid hcc
  have HB := Lib.hid hb
  have HVL := Lib.hid hval
  have HCT := Lib.hid hct
  have HWD := Lib.hid hwd
  have HPK := Lib.hid hpk
  have HSM := Lib.hid hsm
  clear hn hcc hb hval hct hwd hpk hsm hbl0
  go_enter Tryz.func31, Tryz.ntmps31
  go_wp2_with fail
  refine (HVL.out _).mono ?_
  rintro e w' ⟨rfl, rfl⟩
  go_wp2_with fail
  refine (HCT.out _).mono ?_
  rintro e w1 ⟨rfl, hb1⟩
  have HB1 := Lib.hid hb1
  clear hb1
  go_wp2_with fail
  refine (HWD.out _).mono ?_
  rintro e w' ⟨rfl, rfl⟩
  go_wp2_with fail
  go_loopw [9, 31] (fun o t wr => ∃ k : Nat, k ≤ 128 ∧ t = .int .i64 (k : Int) ∧ wr.ownsRow w.heap.size 5 1 o ((k + 7) / 8) ((numL bl k).map (Value.int .u8)) ∧ Below w.heap.size w wr) (fun _ t _ => 128 - (intOf t).toNat)
  case atStart => exact ⟨0, by omega, rfl, by simpa [numL] using World.ownsRow_nil _ _ _ _, HB1.out⟩
  case round =>
    obtain ⟨k, hk, rfl, hown, hbl⟩ := hrel
    have hzz := hbl.size
    by_cases hlt : k < 128
    · obtain ⟨b, off, rfl, hSb, hcell⟩ := HCC.out (by decide)
      have ck := (hbl.cell (p := ⟨b, off + k, none⟩) (hS b hSb)).trans (hcell k hlt)
      have hbg := bit_get bl (k / 8) (k % 8) (by rw [HB.out]; omega) (by omega)
      rw [show 8 * (k / 8) + k % 8 = k by omega] at hbg
      have hgd : bl[k / 8]'(by rw [HB.out]; omega) = bl.getD (k / 8) 0 := by rw [List.getD_eq_getElem?_getD, List.getElem?_eq_getElem (by rw [HB.out]; omega)]; rfl
      rw [hgd] at hbg
      rw [hbg] at ck
      have hx2 : (bl.getD (k / 8) 0).toNat / 2 ^ (7 - k % 8) % 2 < 2 := Nat.mod_lt _ (by decide)
      have h0 := numL_next0 bl k
      have h1 := numL_next1 bl k
      have hc8 := (bl.getD (k / 8) 0).toNat_lt
      have qk : (k : Int) < 128 := by omega
      by_cases h8 : k % 8 = 0
      · rw [h8] at ck hx2
        have hst := h0 h8 _ rfl
        obtain ⟨x, hx⟩ : ∃ x, (bl.getD (k / 8) 0).toNat / 2 ^ 7 % 2 = x := ⟨_, rfl⟩
        rw [show 7 - 0 = 7 from rfl, hx] at ck hx2
        rw [hx] at hst
        have t0 : ((k : Int) % 8 == 0) = true := by simp; omega
        have hand := and_bit1 x hx2
        have hor := or_bit 0 x (by omega) hx2
        simp only [Int.natCast_zero, Int.zero_mul, Int.zero_add] at hor
        obtain ⟨q, hq⟩ : ∃ q, k / 8 = q := ⟨_, rfl⟩
        have hq2 : (k + 7) / 8 = q := by omega
        have hq3 : (k + 1 + 7) / 8 = q + 1 := by omega
        have hq9 : q ≤ 15 := by omega
        rw [hq2] at hown
        rw [hq] at hst
        have HST := Lib.hid hst
        have HQ3 := Lib.hid hq3
        have HBL := Lib.hid hbl
        have HOWN := Lib.hid hown
        have HLQ := Lib.hid (show (numL bl k).length = q by rw [numL_len, hq2])
        obtain ⟨wo, hwo⟩ : ∃ wo : World, wo = wr := ⟨_, rfl⟩
        subst hwo
        clear hst hq3 hq2 hq hx h0 h1 hbg hgd hcell hbl hc8 h8
        go_wp2_with (at_builtin; refine wpList_append_own _ rfl _ _ 91 rfl w.heap.size 5 i0 (.int .u8 0) 1 1 Tryz.underlying91 hi hz0 hz1 hz2 rfl (by decide) _ _ _ rfl (hown.alloc _) ⟨wo.heap.size, 0, none⟩ 1 1 [.int .u8 0] rfl rfl (fun j u hj => by have := cell_one_new wo (.int .u8 0) 5 j u hj; simpa using this) (ints_oneCell .u8 [_]) (by unfold maxLen; omega) (by omega) (by simp; omega) ?_)
        intro v' w5 hown' hgrow _
        have hg := grown_past hgrow
        have hul : ∀ g, (u9 : Value).ownBlock = some g → w.heap.size ≤ g := fun g hg => (HOWN.out.lt g hg).1
        have hb5 := HBL.out.grown hg hzz hul
        obtain ⟨g, cap, rfl, hBg⟩ : ∃ g cap, v' = .slice (some ⟨g, 0, none⟩) (q + 1) cap ∧ w.heap.size ≤ g := by
          rcases hown'.2 with ⟨_, h9⟩ | ⟨g9, c9, cu9, h9, hh, _⟩
          · omega
          · exact ⟨_, _, h9, hh⟩
        have cx : w5.cell? ⟨g, q, none⟩ = some (.int .u8 0) := by
          rw [hown'.cellAt q (by omega), List.getElem?_append_right (by rw [List.length_map, HLQ.out]; exact Nat.le_refl _), List.length_map, HLQ.out, Nat.sub_self]; rfl
        have fx := hown'.frozenAt q
        have hst5 := (World.ownsRow.stored hown' q (.int .u8 (x : Int))).1
        have e5 : ((numL bl k).map (Value.int .u8) ++ [Value.int .u8 0]).set q (Value.int .u8 (x : Int)) = (numL bl (k + 1)).map (Value.int .u8) := by
          rw [← HST.out, List.map_set, List.map_append]; rfl
        rw [e5] at hst5
        have HO5 := Lib.hid hst5
        have HB5 := Lib.hid (hb5.setCell (p := ⟨g, q, none⟩) hBg (.int .u8 (x : Int)))
        clear hown' hgrow hg hul hb5 hst5 e5 hown
        go_wp2_with fail
        go_roundw
        case measure => simp [intOf]; omega
        case rel => exact ⟨k + 1, by omega, by go_num, by rw [HQ3.out]; exact HO5.out, HB5.out⟩
      · have hst := h1 h8 _ rfl
        have hyb : (bl.getD (k / 8) 0).toNat / 2 ^ (8 - k % 8) < 128 := by
          rcases (show 8 - k % 8 = 1 ∨ 2 ≤ 8 - k % 8 by omega) with e | e
          · rw [e]; omega
          · have : (bl.getD (k / 8) 0).toNat / 2 ^ (8 - k % 8) ≤ (bl.getD (k / 8) 0).toNat / 2 ^ 2 := Nat.div_le_div_left (Nat.pow_le_pow_right (by decide) e) (by decide)
            omega
        have hgq := numL_get bl k (k / 8) (by omega)
        rw [show 8 * (k / 8 + 1) - k = 8 - k % 8 by omega] at hgq
        obtain ⟨x, hx⟩ : ∃ x, (bl.getD (k / 8) 0).toNat / 2 ^ (7 - k % 8) % 2 = x := ⟨_, rfl⟩
        obtain ⟨y, hy⟩ : ∃ y, (bl.getD (k / 8) 0).toNat / 2 ^ (8 - k % 8) = y := ⟨_, rfl⟩
        rw [hx] at ck hx2
        rw [hx, hy] at hst
        rw [hy] at hyb hgq
        have t0 : ((k : Int) % 8 == 0) = false := by simp; omega
        have hand := and_bit1 x hx2
        have hor := or_bit y x hyb hx2
        obtain ⟨q, hq⟩ : ∃ q, k / 8 = q := ⟨_, rfl⟩
        have hq2 : (k + 7) / 8 = q + 1 := by omega
        have hq3 : (k + 1 + 7) / 8 = q + 1 := by omega
        have hq9 : q ≤ 15 := by omega
        rw [hq2] at hown
        rw [hq] at hst hgq
        have HST := Lib.hid hst
        have HQ3 := Lib.hid hq3
        have HBL := Lib.hid hbl
        obtain ⟨g, cap, rfl, hBg⟩ : ∃ g cap, u9 = .slice (some ⟨g, 0, none⟩) (q + 1) cap ∧ w.heap.size ≤ g := by
          rcases hown.2 with ⟨_, h9⟩ | ⟨g9, c9, cu9, h9, hh, _⟩
          · omega
          · exact ⟨_, _, h9, hh⟩
        have cx : wr.cell? ⟨g, q, none⟩ = some (.int .u8 (y : Int)) := by
          rw [hown.cellAt q (by omega), List.getElem?_map, hgq]; rfl
        have fx := hown.frozenAt q
        have hst5 := (World.ownsRow.stored hown q (.int .u8 ((y : Int) * 2 + (x : Int)))).1
        have e5 : ((numL bl k).map (Value.int .u8)).set q (Value.int .u8 ((y : Int) * 2 + (x : Int))) = (numL bl (k + 1)).map (Value.int .u8) := by
          rw [← HST.out, List.map_set]
        rw [e5] at hst5
        have HO5 := Lib.hid hst5
        have HB5 := Lib.hid (hbl.setCell (p := ⟨g, q, none⟩) hBg (.int .u8 ((y : Int) * 2 + (x : Int))))
        clear hst hq3 hq2 hq hx hy h0 h1 hbg hgd hcell hbl hc8 h8 hgq hst5 e5 hown
        go_wp2_with fail
        go_roundw
        case measure => simp [intOf]; omega
        case rel => exact ⟨k + 1, by omega, by go_num, by rw [HQ3.out]; exact HO5.out, HB5.out⟩
    · have hk6 : k = 128 := by omega
      subst hk6
      rw [numL_end bl HB.out] at hown
      have hown : wr.ownsRow w.heap.size 5 1 u9 16 (Lib.byteCells bl) := hown
      have HBL := Lib.hid hbl
      clear hbl
      rcases id hown.2 with ⟨h1, h2⟩ | ⟨g, cap, cur, rfl, -⟩
      · cases h2
      have hcv := row_string wr w.heap.size g cap bl 16 hown HB.out
      have HOWN := Lib.hid hown
      have hzz2 := HBL.out.size
      obtain ⟨wo, hwo⟩ : ∃ wo : World, wo = wr := ⟨_, rfl⟩
      subst hwo
      clear hown
      go_wp2_with fail
      refine (HPK.out _).mono ?_
      rintro e w2 ⟨v2, rfl, hv2, hb2⟩
      have hb3 := HBL.out.trans (hb2.mono hzz2)
      have hsm := HSM.out w2 v2 _ hb3 hv2
      have hcv2 := row_string w2 w.heap.size g cap bl 16 (own_keeps HOWN.out hb2) HB.out
      have HSM2 := Lib.hid hsm
      have HB3 := Lib.hid hb3
      clear hb2 hb3 hsm hv2 hcv
      go_wp2_with fail
      refine HSM2.out.mono ?_
      rintro e w' ⟨rfl, rfl⟩
      go_wp2_with fail
      go_ret2
      exact ⟨rfl, HB3.out⟩
end Go.Proofs.YtjfphobfikadlaaGreatDoor

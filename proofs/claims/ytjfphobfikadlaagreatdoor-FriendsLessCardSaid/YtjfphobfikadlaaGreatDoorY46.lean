/- Contract: the reference says that the same shares are the same. Contracts: the reference's bytes of elements. -/
import Derived.Test.YtjfphobfikadlaaGreatDoorY30
import Derived.Test.YtjfphobfikadlaaGreatDoorY20
import Derived.BigQuiet
import Derived.Test.YtjfphobfikadlaaGreatDoorY29
set_option linter.unusedVariables false
set_option linter.unusedSimpArgs false
namespace Go.Proofs.YtjfphobfikadlaaGreatDoor
open Go.RowKit Num

set_option maxRecDepth 100000 in
set_option maxHeartbeats 4000000 in
theorem r_SameSh (v u : Value) (L : List Sh) (S T : Nat → Prop) (w : World) (hv : ShAt w S v L) (hu : ShAt w T u L) (hS : ∀ b, S b → b < w.heap.size) (hT : ∀ b, T b → b < w.heap.size) (hl : L.length ≤ 1000) (hll : ∀ k, k < L.length → (shAt L k).2.length ≤ 1000000) :
    Calls Tryz.prog 32 #[v, u] w (BoolBelow true w) := by
  obtain ⟨A, n, c, rfl, hn, hnc, hc⟩ := id hv
  obtain ⟨A2, n2, c2, rfl, hn2, hnc2, hc2⟩ := id hu
  have hnn : n2 = n := by omega
  subst hnn
  have hn1 : n2 ≤ 1000 := by omega
  have HN := Lib.hid hn
  have HC := Lib.hid hc
  have HC2 := Lib.hid hc2
  have HLL := Lib.hid hll
  have HSS := Lib.hid hS
  have HTT := Lib.hid hT
  clear hv hu hn hn2 hc hc2 hl hll hS hT
  go_enter Tryz.func32, Tryz.ntmps32
  go_wp2_with fail
  go_loopw [14] (fun t wr => ∃ k : Nat, k ≤ n2 ∧ t = .int .i64 k ∧ Below w.heap.size w wr) (fun t _ => n2 - (intOf t).toNat)
  case atStart => exact ⟨0, by omega, rfl, Below.refl _ _⟩
  case round =>
    rename World => wo
    obtain ⟨k, hk, rfl, hbl⟩ := hrel
    have hzz := hbl.size
    by_cases hlt : k < n2
    · obtain ⟨b, off, rfl, hSb, hcell⟩ := HC.out (by omega)
      obtain ⟨b2, off2, rfl, hTb, hcell2⟩ := HC2.out (by omega)
      obtain ⟨u1, y0, y1, hyu⟩ := hcell k hlt
      obtain ⟨u2, z0, z1, hzu⟩ := hcell2 k hlt
      have hlk := HLL.out k (by rw [← HN.out]; exact hlt)
      have hsm : ∀ W, Below w.heap.size w W → Calls Tryz.prog 52 #[u1, u2] W fun e w' => e = .returned (.bool true) ∧ W = w' := fun W hW => by
        have := r_Same u1 u2 (shAt L k).2 (shAt L k).2 S T W (hyu.keep fun b hb => hW.block b (HSS.out b hb)) (hzu.keep fun b hb => hW.block b (HTT.out b hb)) hlk hlk
        rwa [decide_eq_true rfl] at this
      have bS := HSS.out b hSb
      have bT := HTT.out b2 hTb
      obtain ⟨Ay, ny, cy, rfl, -, -, -⟩ := id hyu
      obtain ⟨Az, nz, cz, rfl, -, -, -⟩ := id hzu
      obtain ⟨G, hG⟩ : ∃ G, (shAt L k).1 = G := ⟨_, rfl⟩
      rw [hG] at y0 z0
      have r0 := (hbl.cell (p := ⟨b, off + k * 2, none⟩) bS).trans y0
      have r1 := (hbl.cell (p := ⟨b, off + k * 2 + 1, none⟩) bS).trans y1
      have q0 := (hbl.cell (p := ⟨b2, off2 + k * 2, none⟩) bT).trans z0
      have q1 := (hbl.cell (p := ⟨b2, off2 + k * 2 + 1, none⟩) bT).trans z1
      have t0 : (G != G) = false := by simp
      have qk : (k : Int) < (n2 : Int) := by omega
      have qk0 : (0 : Int) ≤ (k : Int) := by omega
      have HSM := Lib.hid hsm
      have HBL := Lib.hid hbl
      have zb : b2 < wo.heap.size := by omega
      clear hcell hcell2 y0 y1 z0 z1 hyu hzu hlk hsm hG hbl
      go_wp2_with fail
      have ha : Below wo.heap.size wo (wo.alloc (.cells #[.int .i64 G, .slice Ay ny cy] 49)) := (Below.refl _ _).alloc (Nat.le_refl _) _
      have t2 : (wo.alloc (.cells #[.int .i64 G, .slice Ay ny cy] 49)).cell? ⟨wo.heap.size, 0, none⟩ = some (.int .i64 G) := by rw [World.cell?_alloc_new]; rfl
      have t1 : (wo.alloc (.cells #[.int .i64 G, .slice Ay ny cy] 49)).cell? ⟨wo.heap.size, 1, none⟩ = some (.slice Ay ny cy) := by rw [World.cell?_alloc_new]; rfl
      have t3 := (ha.cell (p := ⟨b2, off2 + k * 2, none⟩) zb).trans q0
      have t4 := (ha.cell (p := ⟨b2, off2 + k * 2 + 1, none⟩) zb).trans q1
      have hb2 := HBL.out.trans (ha.mono hzz)
      generalize (wo.alloc (.cells #[.int .i64 G, .slice Ay ny cy] 49)) = W1 at *
      have hz1 : wo.heap.size < W1.heap.size := World.block_lt_of_cell? _ _ t2
      have mk : ∀ W : World, Below W1.heap.size W1 W → W.cell? ⟨wo.heap.size, 0, none⟩ = some (.int .i64 G) ∧ W.cell? ⟨wo.heap.size, 1, none⟩ = some (.slice Ay ny cy) ∧ W.cell? ⟨b2, off2 + k * 2, none⟩ = some (.int .i64 G) ∧ W.cell? ⟨b2, off2 + k * 2 + 1, none⟩ = some (.slice Az nz cz) ∧ Hid (Below W1.heap.size W1 W) := fun W hW =>
        ⟨(hW.cell (p := ⟨wo.heap.size, 0, none⟩) hz1).trans t2, (hW.cell (p := ⟨wo.heap.size, 1, none⟩) hz1).trans t1, (hW.cell (p := ⟨b2, off2 + k * 2, none⟩) (by simp; omega)).trans t3, (hW.cell (p := ⟨b2, off2 + k * 2 + 1, none⟩) (by simp; omega)).trans t4, Lib.hid hW⟩
      have MK := Lib.hid mk
      have HB2 := Lib.hid hb2
      clear mk hb2 ha r0 r1 q0 q1 t1 t2 t3 t4
      go_region_held3 (fun W => W.cell? ⟨wo.heap.size, 0, none⟩ = some (.int .i64 G) ∧ W.cell? ⟨wo.heap.size, 1, none⟩ = some (.slice Ay ny cy) ∧ W.cell? ⟨b2, off2 + k * 2, none⟩ = some (.int .i64 G) ∧ W.cell? ⟨b2, off2 + k * 2 + 1, none⟩ = some (.slice Az nz cz) ∧ Hid (Below W1.heap.size W1 W))
        (first
          | exact HP.out
          | exact MK.out _ (Below.refl _ _).drew)
        (first
          | (go_at_call 52
             (with_reducible refine (HSM.out _ (HB2.out.trans (((Below.refl W1.heap.size W1).drew).mono HB2.out.size))).mono ?_)
             rintro e wk ⟨rfl, rfl⟩
             have HP := Lib.hid (MK.out _ (Below.refl W1.heap.size W1).drew)))
      have HP2 := HP.out
      go_split_ands
      go_wp2_with fail
      go_roundw
      case measure => simp [intOf]; omega
      case rel => exact ⟨k + 1, by omega, by go_num, ⟨HB2.out.os, HB2.out.tape, HB2.out.output, HB2.out.size, HB2.out.block⟩⟩
    · have hkk : k = n2 := by omega
      subst hkk
      have HBL := Lib.hid hbl
      clear hbl
      go_wp2_with fail
      go_ret
      exact ⟨rfl, HBL.out⟩
end Go.Proofs.YtjfphobfikadlaaGreatDoor
namespace Go.Proofs.YtjfphobfikadlaaGreatDoor
open Go.RowKit Num

theorem own_keeps {B : Nat} {e : TypeId} {sz n : Nat} {v : Value} {xs : List Value} {W W' : World} (h : W.ownsRow B e sz v n xs) (hb : Below W.heap.size W W') : W'.ownsRow B e sz v n xs :=
  World.ownsRow.kept h (only_of_below hb none) (by cases v.ownBlock <;> simp)
set_option maxRecDepth 100000 in
set_option maxHeartbeats 8000000 in
theorem r_Unpack3 (p : Nat) (v : Value) (bl : List UInt8) (S : Nat → Prop) (w : World) (hp : Prm p) (h1 : 16777216 ≤ p) (h2 : p ≤ 1073741824) (hv : IntsAt w S v (pack3 bl)) (hS : ∀ b, S b → b < w.heap.size) (hb : bl.length = 16) :
    Calls Tryz.prog 31 #[.int .i64 (p : Int), v, .int .i64 16] w fun e w' => e = .returned (.tuple #[.string ⟨bl.toArray⟩, .int .i64 0]) ∧ Below w.heap.size w w' := by
  have hval := fun W => r_Valid p W hp h2
  have hct := fun W => r_Count p W h2
  have hwd := fun W => r_Width p W h2
  have hcn : cntP p = 6 := by unfold cntP; rw [wid3 h1]; rfl
  rw [wid3 h1] at hwd
  rw [hcn] at hct
  have hpk := fun W => r_pack3 p ⟨bl.toArray⟩ W h1 h2 (by show bl.toArray.size ≤ 16; simp; omega)
  rw [show (⟨bl.toArray⟩ : ByteArray).data.toList = bl by simp] at hpk
  have hsm : ∀ W v2 T, Below w.heap.size w W → IntsAt W T v2 (pack3 bl) → Calls Tryz.prog 52 #[v2, v] W fun e w' => e = .returned (.bool true) ∧ W = w' := fun W v2 T hW h => by
    have := r_Same v2 v (pack3 bl) (pack3 bl) T S W h (hv.keep fun b hb => hW.block b (hS b hb)) (by rw [pack3_len]; omega) (by rw [pack3_len]; omega)
    rwa [decide_eq_true rfl] at this
  obtain ⟨A, n, c, rfl, hn, hnc, hcc⟩ := hv
  obtain ⟨i0, hi, hz0, hz1, hz2⟩ := info_parts infoB
  have hn6 : n = 6 := by rw [hn, pack3_len, hb]
  subst hn6
  have HCC := Lib.hid hcc
  have HB := Lib.hid hb
  have HVL := Lib.hid hval
  have HCT := Lib.hid hct
  have HWD := Lib.hid hwd
  have HPK := Lib.hid hpk
  have HSM := Lib.hid hsm
  clear hn hcc hb hval hct hwd hpk hsm hcn
  go_enter Tryz.func31, Tryz.ntmps31
  go_wp2_with fail
  refine (HVL.out _).mono ?_
  rintro e w' ⟨rfl, rfl⟩
  go_wp2_with fail
  refine (HCT.out _).mono ?_
  rintro e w1 ⟨rfl, hb1⟩
  have HB1 := Lib.hid hb1
  clear hb1
  go_wp2_with fail
  refine (HWD.out _).mono ?_
  rintro e w' ⟨rfl, rfl⟩
  go_wp2_with fail
  go_loopw [9, 31] (fun o t wr => ∃ k : Nat, k ≤ 6 ∧ t = .int .i64 (k : Int) ∧ wr.ownsRow w.heap.size 5 1 o (min (3 * k) 16) (Lib.byteCells (bl.take (3 * k))) ∧ Below w.heap.size w wr) (fun _ t _ => 6 - (intOf t).toNat)
  case atStart => exact ⟨0, by omega, rfl, by simpa [Lib.byteCells] using World.ownsRow_nil _ _ _ _, HB1.out⟩
  case round =>
    obtain ⟨k, hk, rfl, hown, hbl⟩ := hrel
    have hzz := hbl.size
    by_cases hlt : k < 6
    · obtain ⟨b, off, rfl, hSb, hcell⟩ := HCC.out (by decide)
      have ck := (hbl.cell (p := ⟨b, off + k, none⟩) (hS b hSb)).trans (hcell k hlt)
      rw [pack3_get bl k (by rw [HB.out]; omega)] at ck
      have hpl := pk3_lt bl k
      rw [HB.out] at hpl
      have hby : ∀ j, (hj : 3 * k + j < bl.length) → j < 3 → pk3 bl k / 256 ^ (min 3 (16 - 3 * k) - 1 - j) % 256 = (bl[3 * k + j]).toNat := fun j hj hj3 => by
        have h := pk3_byte bl k j hj hj3
        rw [HB.out] at h
        rw [← h]; simp
      obtain ⟨x, hx⟩ : ∃ x, pk3 bl k = x := ⟨_, rfl⟩
      rw [hx] at ck hpl hby
      obtain ⟨q, hq⟩ : ∃ q, 3 * k = q := ⟨_, rfl⟩
      have hq2 : min (3 * k) 16 = q := by omega
      rw [hq2] at hown
      rw [hq] at hown hpl hby
      have hq15 : q ≤ 15 := by omega
      have HQ := Lib.hid hq
      have HBY := Lib.hid hby
      have HOWN := Lib.hid hown
      have HBL := Lib.hid hbl
      have hw1 : IntKind.i64.wrap (16 - (q : Int)) = 16 - (q : Int) := IntWalk.i64_in _ ⟨by omega, by omega⟩
      obtain ⟨Ao, no, co, rfl, hno⟩ : ∃ Ao no co, (u9 : Value) = .slice Ao no co ∧ no = q := by
        rcases id hown.2 with ⟨h1, h2⟩ | ⟨g, cap, cur, h1, -⟩
        · exact ⟨none, 0, 0, h1, h2.symm⟩
        · exact ⟨_, q, cap, h1, rfl⟩
      subst hno
      have qk : (k : Int) < 6 := by omega
      have hx0 : decide ((x : Int) < 0) = false := decide_eq_false (by omega)
      rcases (show (min (3 : Int) (16 - (no : Int)) = 3 ∧ min 3 (16 - no) = 3 ∧ no ≤ 12) ∨ (min (3 : Int) (16 - (no : Int)) = 1 ∧ min 3 (16 - no) = 1 ∧ 15 ≤ no) by omega) with ⟨hm, hm', hno⟩ | ⟨hm, hm', hno⟩
      · rw [hm'] at hpl
        have hpl' : x < 16777216 := hpl
        have hsh : (x : Int) / 16777216 = 0 := by omega
        clear hown hbl hby hq hcell hx
        obtain ⟨wo, hwo⟩ : ∃ wo : World, wo = wr := ⟨_, rfl⟩
        subst hwo
        go_wp2_with fail
        go_loopw [9, 12] (fun o t wq => ∃ j : Nat, j ≤ 3 ∧ t = .int .i64 (2 - (j : Int)) ∧ wq.ownsRow w.heap.size 5 1 o (no + j) (Lib.byteCells (bl.take (no + j))) ∧ Below w.heap.size w wq) (fun _ t _ => (intOf t + 1).toNat)
        case atStart => exact ⟨0, by omega, rfl, by rw [Nat.add_zero, ← HQ.out]; exact HQ.out ▸ HOWN.out, HBL.out⟩
        case round =>
          obtain ⟨j, hj, rfl, hownj, hblj⟩ := hrel
          have hzj := hblj.size
          have HOJ := Lib.hid hownj
          have HBJ := Lib.hid hblj
          clear hblj
          rcases (show j = 0 ∨ j = 1 ∨ j = 2 ∨ j = 3 by omega) with rfl | rfl | rfl | rfl
          · have hjl : no + 0 < bl.length := by rw [HB.out]; omega
            have hst := cells_app1 bl (no + 0) hjl
            have hc := HBY.out 0 hjl (by decide)
            rw [hm'] at hc
            have hval : (x : Int) / 65536 = ((bl[no + 0]).toNat : Int) := by rw [← hc]; show _ = ((x / 256 ^ (3 - 1 - 0) % 256 : Nat) : Int); have : x / 256 ^ (3 - 1 - 0) = x / 65536 := rfl; omega
            rw [← hval] at hst
            have HST := Lib.hid hst
            clear hst hc hval hownj
            go_wp2_with (at_builtin; refine wpList_append_own _ rfl _ _ 91 rfl w.heap.size 5 i0 (.int .u8 0) 1 1 Tryz.underlying91 hi hz0 hz1 hz2 rfl (by decide) _ _ _ rfl (HOJ.out.alloc _) ⟨wr.heap.size, 0, none⟩ 1 1 [.int .u8 ((x : Int) / 65536)] rfl rfl (fun j u hj => by have := cell_one_new wr (.int .u8 ((x : Int) / 65536)) 5 j u hj; simpa using this) (ints_oneCell .u8 [_]) (by unfold maxLen; omega) (by omega) (by simp; omega) ?_)
            intro v' w5 hown' hgrow _
            have hg := grown_past hgrow
            have hown2 : w5.ownsRow w.heap.size 5 1 v' (no + 1) (Lib.byteCells (bl.take (no + 1))) := by
              rw [show no + 1 = no + 0 + 1 from rfl, HST.out]; simpa using hown'
            have hul : ∀ g, (u9 : Value).ownBlock = some g → w.heap.size ≤ g := fun g hg => (HOJ.out.lt g hg).1
            have HO5 := Lib.hid hown2
            have HB5 := Lib.hid (HBJ.out.grown hg hzj hul)
            clear hown' hgrow hg hown2 hul
            go_wp2_with fail
            go_roundw
            case measure => simp [intOf]
            case rel => exact ⟨1, by omega, rfl, HO5.out, HB5.out⟩
          · have hjl : no + 1 < bl.length := by rw [HB.out]; omega
            have hst := cells_app1 bl (no + 1) hjl
            have hc := HBY.out 1 hjl (by decide)
            rw [hm'] at hc
            have hval : (x : Int) / 256 % 256 = ((bl[no + 1]).toNat : Int) := by rw [← hc]; show _ = ((x / 256 ^ (3 - 1 - 1) % 256 : Nat) : Int); have : x / 256 ^ (3 - 1 - 1) = x / 256 := rfl; omega
            rw [← hval] at hst
            have HST := Lib.hid hst
            clear hst hc hval hownj
            go_wp2_with (at_builtin; refine wpList_append_own _ rfl _ _ 91 rfl w.heap.size 5 i0 (.int .u8 0) 1 1 Tryz.underlying91 hi hz0 hz1 hz2 rfl (by decide) _ _ _ rfl (HOJ.out.alloc _) ⟨wr.heap.size, 0, none⟩ 1 1 [.int .u8 ((x : Int) / 256 % 256)] rfl rfl (fun j u hj => by have := cell_one_new wr (.int .u8 ((x : Int) / 256 % 256)) 5 j u hj; simpa using this) (ints_oneCell .u8 [_]) (by unfold maxLen; omega) (by omega) (by simp; omega) ?_)
            intro v' w5 hown' hgrow _
            have hg := grown_past hgrow
            have hown2 : w5.ownsRow w.heap.size 5 1 v' (no + 2) (Lib.byteCells (bl.take (no + 2))) := by
              rw [show no + 2 = no + 1 + 1 from rfl, HST.out]; simpa using hown'
            have hul : ∀ g, (u9 : Value).ownBlock = some g → w.heap.size ≤ g := fun g hg => (HOJ.out.lt g hg).1
            have HO5 := Lib.hid hown2
            have HB5 := Lib.hid (HBJ.out.grown hg hzj hul)
            clear hown' hgrow hg hown2 hul
            go_wp2_with fail
            go_roundw
            case measure => simp [intOf]
            case rel => exact ⟨2, by omega, rfl, HO5.out, HB5.out⟩
          · have hjl : no + 2 < bl.length := by rw [HB.out]; omega
            have hst := cells_app1 bl (no + 2) hjl
            have hc := HBY.out 2 hjl (by decide)
            rw [hm'] at hc
            have hval : (x : Int) % 256 = ((bl[no + 2]).toNat : Int) := by rw [← hc]; show _ = ((x / 256 ^ (3 - 1 - 2) % 256 : Nat) : Int); have : x / 256 ^ (3 - 1 - 2) = x / 1 := rfl; omega
            rw [← hval] at hst
            have HST := Lib.hid hst
            clear hst hc hval hownj
            go_wp2_with (at_builtin; refine wpList_append_own _ rfl _ _ 91 rfl w.heap.size 5 i0 (.int .u8 0) 1 1 Tryz.underlying91 hi hz0 hz1 hz2 rfl (by decide) _ _ _ rfl (HOJ.out.alloc _) ⟨wr.heap.size, 0, none⟩ 1 1 [.int .u8 ((x : Int) % 256)] rfl rfl (fun j u hj => by have := cell_one_new wr (.int .u8 ((x : Int) % 256)) 5 j u hj; simpa using this) (ints_oneCell .u8 [_]) (by unfold maxLen; omega) (by omega) (by simp; omega) ?_)
            intro v' w5 hown' hgrow _
            have hg := grown_past hgrow
            have hown2 : w5.ownsRow w.heap.size 5 1 v' (no + 3) (Lib.byteCells (bl.take (no + 3))) := by
              rw [show no + 3 = no + 2 + 1 from rfl, HST.out]; simpa using hown'
            have hul : ∀ g, (u9 : Value).ownBlock = some g → w.heap.size ≤ g := fun g hg => (HOJ.out.lt g hg).1
            have HO5 := Lib.hid hown2
            have HB5 := Lib.hid (HBJ.out.grown hg hzj hul)
            clear hown' hgrow hg hown2 hul
            go_wp2_with fail
            go_roundw
            case measure => simp [intOf]
            case rel => exact ⟨3, by omega, rfl, HO5.out, HB5.out⟩
          · clear hownj
            go_wp2_with fail
            go_roundw
            case measure => simp [intOf]; omega
            case rel =>
              refine ⟨k + 1, by omega, by go_num, ?_, HBJ.out⟩
              have h := HOJ.out
              have hq := HQ.out
              rw [show min (3 * (k + 1)) 16 = no + 3 by omega, show 3 * (k + 1) = no + 3 by omega]
              exact h
      · rw [hm'] at hpl
        have hpl' : x < 256 := hpl
        have hsh : (x : Int) / 256 = 0 := by omega
        clear hown hbl hby hq hcell hx
        obtain ⟨wo, hwo⟩ : ∃ wo : World, wo = wr := ⟨_, rfl⟩
        subst hwo
        go_wp2_with fail
        go_loopw [9, 12] (fun o t wq => ∃ j : Nat, j ≤ 1 ∧ t = .int .i64 (0 - (j : Int)) ∧ wq.ownsRow w.heap.size 5 1 o (no + j) (Lib.byteCells (bl.take (no + j))) ∧ Below w.heap.size w wq) (fun _ t _ => (intOf t + 1).toNat)
        case atStart => exact ⟨0, by omega, rfl, by rw [Nat.add_zero, ← HQ.out]; exact HQ.out ▸ HOWN.out, HBL.out⟩
        case round =>
          obtain ⟨j, hj, rfl, hownj, hblj⟩ := hrel
          have hzj := hblj.size
          have HOJ := Lib.hid hownj
          have HBJ := Lib.hid hblj
          clear hblj
          rcases (show j = 0 ∨ j = 1 by omega) with rfl | rfl
          · have hjl : no + 0 < bl.length := by rw [HB.out]; omega
            have hst := cells_app1 bl (no + 0) hjl
            have hc := HBY.out 0 hjl (by decide)
            rw [hm'] at hc
            have hval : (x : Int) = ((bl[no + 0]).toNat : Int) := by rw [← hc]; show _ = ((x / 256 ^ (1 - 1 - 0) % 256 : Nat) : Int); have : x / 256 ^ (1 - 1 - 0) = x / 1 := rfl; omega
            rw [← hval] at hst
            have HST := Lib.hid hst
            clear hst hc hval hownj
            go_wp2_with (at_builtin; refine wpList_append_own _ rfl _ _ 91 rfl w.heap.size 5 i0 (.int .u8 0) 1 1 Tryz.underlying91 hi hz0 hz1 hz2 rfl (by decide) _ _ _ rfl (HOJ.out.alloc _) ⟨wr.heap.size, 0, none⟩ 1 1 [.int .u8 ((x : Int))] rfl rfl (fun j u hj => by have := cell_one_new wr (.int .u8 ((x : Int))) 5 j u hj; simpa using this) (ints_oneCell .u8 [_]) (by unfold maxLen; omega) (by omega) (by simp; omega) ?_)
            intro v' w5 hown' hgrow _
            have hg := grown_past hgrow
            have hown2 : w5.ownsRow w.heap.size 5 1 v' (no + 1) (Lib.byteCells (bl.take (no + 1))) := by
              rw [show no + 1 = no + 0 + 1 from rfl, HST.out]; simpa using hown'
            have hul : ∀ g, (u9 : Value).ownBlock = some g → w.heap.size ≤ g := fun g hg => (HOJ.out.lt g hg).1
            have HO5 := Lib.hid hown2
            have HB5 := Lib.hid (HBJ.out.grown hg hzj hul)
            clear hown' hgrow hg hown2 hul
            go_wp2_with fail
            go_roundw
            case measure => simp [intOf]
            case rel => exact ⟨1, by omega, rfl, HO5.out, HB5.out⟩
          · clear hownj
            go_wp2_with fail
            go_roundw
            case measure => simp [intOf]; omega
            case rel =>
              refine ⟨k + 1, by omega, by go_num, ?_, HBJ.out⟩
              have h := HOJ.out
              have hq := HQ.out
              rw [show min (3 * (k + 1)) 16 = no + 1 by omega, List.take_of_length_le (by rw [HB.out]; omega)]
              rw [List.take_of_length_le (by rw [HB.out]; omega)] at h
              exact h
    · have hk6 : k = 6 := by omega
      subst hk6
      rw [show min (3 * 6) 16 = 16 from rfl, List.take_of_length_le (by rw [HB.out]; decide)] at hown
      have HBL := Lib.hid hbl
      clear hbl
      rcases id hown.2 with ⟨h1, h2⟩ | ⟨g, cap, cur, rfl, -⟩
      · cases h2
      have hcv := row_string wr w.heap.size g cap bl 16 hown HB.out
      have HOWN := Lib.hid hown
      have hzz2 := HBL.out.size
      obtain ⟨wo, hwo⟩ : ∃ wo : World, wo = wr := ⟨_, rfl⟩
      subst hwo
      clear hown
      go_wp2_with fail
      refine (HPK.out _).mono ?_
      rintro e w2 ⟨v2, rfl, hv2, hb2⟩
      have hb3 := HBL.out.trans (hb2.mono hzz2)
      have hsm := HSM.out w2 v2 _ hb3 hv2
      have hcv2 := row_string w2 w.heap.size g cap bl 16 (own_keeps HOWN.out hb2) HB.out
      have HSM2 := Lib.hid hsm
      have HB3 := Lib.hid hb3
      clear hb2 hb3 hsm hv2 hcv
      go_wp2_with fail
      refine HSM2.out.mono ?_
      rintro e w' ⟨rfl, rfl⟩
      go_wp2_with fail
      go_ret2
      exact ⟨rfl, HB3.out⟩
end Go.Proofs.YtjfphobfikadlaaGreatDoor

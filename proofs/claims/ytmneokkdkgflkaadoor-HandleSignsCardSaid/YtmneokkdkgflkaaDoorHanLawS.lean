/- The law on signatures. -/
import Derived.Test.YtmneokkdkgflkaaDoorHanVfG
import Derived.Test.YtmneokkdkgflkaaDoorHanAwk
set_option linter.unusedVariables false
set_option linter.unusedSimpArgs false
namespace Go.Proofs.YtmneokkdkgflkaaDoor
open Go.RowKit Num

/-- Numbers in a row of cells. -/
def IsRow (W : World) (B n : Nat) (g : Nat → Int) : Prop := ∀ i, i < n → W.cell? ⟨B, i, none⟩ = some (.int .i64 (g i))
theorem IsRow.keep {W W' : World} {B n : Nat} {g : Nat → Int} (h : IsRow W B n g) (hb : W'.heap[B]? = W.heap[B]?) : IsRow W' B n g := fun i hi => (World.cell?_of_block (a := ⟨B, i, none⟩) hb).trans (h i hi)
def g3 (a b c : Int) : Nat → Int
  | 0 => a
  | 1 => b
  | _ => c
def g10 (a b c d e f g h i j : Int) : Nat → Int
  | 0 => a
  | 1 => b
  | 2 => c
  | 3 => d
  | 4 => e
  | 5 => f
  | 6 => g
  | 7 => h
  | 8 => i
  | _ => j

theorem sprm_safe {q : Nat} (h : SPrm q) : SafeI (q : Int) := by
  obtain ⟨h1, h2, h3, h4⟩ := h
  exact ⟨by omega, ⟨by omega, by omega, by rwa [Int.toNat_natCast]⟩, by rwa [Int.toNat_natCast]⟩
theorem sigS_lt' (p key nonce : Nat) (text : ByteArray) (h : 0 < p) : sigS p key nonce text < p := Nat.mod_lt _ h
theorem ArgL.alloc {w : World} {v : Value} (h : ArgL w v) (o : Obj) : ArgL (w.alloc o) v := by
  obtain ⟨A, n, c, L, rfl, h1, h2⟩ := h
  refine ⟨A, n, c, L, rfl, h1, fun hn => ?_⟩
  obtain ⟨b0, off, hA, hlt, hc⟩ := h2 hn
  exact ⟨b0, off, hA, by simp; omega, fun i hi => (World.cell?_alloc_lt w _ ⟨b0, off + i, none⟩ hlt).trans (hc i hi)⟩
set_option maxRecDepth 100000 in
set_option maxHeartbeats 4000000 in
theorem l_Signs (v : Value) (p key nonce : Int) (text : ByteArray) (rR rS : Int) (w : World) (hw : BasesOk w) (A : Option Addr) (n c : Nat) (hv : v = .slice A n c) (hn : n ≤ 9223372036854775807) (hz : text.size ≤ 9223372036854775807) (hp : IntR p) (ha : n ≤ 500 → ArgL w v) :
    Calls Tryd.prog 6 #[v, .int .i64 p, .int .i64 key, .int .i64 nonce, .string text, .agg #[.int .i64 rR, .int .i64 rS]] w (BoolBelow true w) := by
  subst hv
  have other : (decide ((n : Int) ≤ 500) = false ∨ decide ((n : Int) ≤ 500) = true ∧ decide ((300 : Int) < (text.size : Int)) = true) → Calls Tryd.prog 6 #[.slice A n c, .int .i64 p, .int .i64 key, .int .i64 nonce, .string text, .agg #[.int .i64 rR, .int .i64 rS]] w (BoolBelow true w) := by
    have HW := Lib.hid hw
    have HW1 := Lib.hid (hw.alloc (.cells #[.int .i64 rR, .int .i64 rS] 53))
    clear hw ha
    rintro (t1 | ⟨t1, t2⟩)
    all_goals
      go_enter Tryd.func6, Tryd.ntmps6
      go_wp2_with fail
      refine (k_Light A n c _ hn).mono ?_
      rintro e w' ⟨rfl, rfl⟩
      go_wp2_with fail
      refine (l_awake _ (by first | exact HW.out | exact HW1.out)).mono ?_
      rintro e w1 ⟨rfl, hb1⟩
      go_wp2_with fail
      go_ret
      exact ⟨rfl, by first | exact hb1 | exact ((Below.refl _ _).alloc (Nat.le_refl _) _).trans (hb1.mono (by simp))⟩
  by_cases h5 : n ≤ 500
  · have t1 : decide ((n : Int) ≤ 500) = true := decide_eq_true (by omega)
    have ha := ha h5
    by_cases h3 : text.size ≤ 300
    · have t2 : decide ((300 : Int) < (text.size : Int)) = false := decide_eq_false (by omega)
      have HW := Lib.hid hw
      have HA := Lib.hid ha
      have HP := Lib.hid hp
      clear hw ha hp other
      go_enter Tryd.func6, Tryd.ntmps6
      go_wp2_with fail
      refine (k_Light A n c _ hn).mono ?_
      rintro e w' ⟨rfl, rfl⟩
      go_wp2_with fail
      obtain ⟨rb, hrb⟩ : ∃ rb, w.heap.size = rb := ⟨_, rfl⟩
      have hbw0 : Below rb w (w.alloc (.cells #[.int .i64 rR, .int .i64 rS] 53)) := by rw [← hrb]; exact (Below.refl _ _).alloc (Nat.le_refl _) _
      have hblk : Blk (w.alloc (.cells #[.int .i64 rR, .int .i64 rS] 53)) rb 53 #[.int .i64 rR, .int .i64 rS] := by rw [← hrb]; exact Blk.new w _ _
      have hra := HA.out.alloc (.cells #[.int .i64 rR, .int .i64 rS] 53)
      rw [hrb]
      have HRB := Lib.hid hrb
      clear hrb
      generalize (w.alloc (.cells #[.int .i64 rR, .int .i64 rS] 53)) = w0 at *
      have hrlt := hblk.lt
      have HBW0 := Lib.hid hbw0
      have HBLK := Lib.hid hblk
      have HRA := Lib.hid hra
      clear hbw0 hblk hra HA
      refine (k_Roll _ _ HRA.out).mono ?_
      rintro e w1 ⟨rfl, hd1, hb1⟩
      have hlt1 := hd1.lt
      obtain ⟨d, hd⟩ : ∃ d, w0.heap.size = d := ⟨_, rfl⟩
      rw [hd] at hd1 hb1 hlt1 hrlt ⊢
      have HD := Lib.hid hd
      have HD1 := Lib.hid hd1
      have HB1 := Lib.hid hb1
      clear hd1 hb1 HRA hd
      go_wp2_with fail
      refine (k_Safe d _ HD1.out).mono ?_
      rintro e w2 ⟨q, hq, rfl, hd2, hg2⟩
      have hsp := safe_sprm hq
      have q3 := hsp.2.2.1
      have q4 := hsp.2.2.2
      have hb2 : Below d w0 w2 := HB1.out.grown hg2 (Nat.le_of_lt hlt1) (fun k hk => by injection hk; omega)
      have HSP := Lib.hid hsp
      have HD2 := Lib.hid hd2
      have HB2 := Lib.hid hb2
      clear hd2 hg2 hb2 hsp hq HD1 HB1
      go_wp2_with fail
      obtain ⟨B, hB⟩ : ∃ B, w2.heap.size = B := ⟨_, rfl⟩
      have hlt2 := HD2.out.lt
      have hrow : IsRow (w2.alloc (.cells #[.int .i64 p, .int .i64 (q : Int)] 3)) w2.heap.size 2 (g3 p q 0) := by
        intro i hi
        rw [World.cell?_alloc_new]
        rcases (show i = 0 ∨ i = 1 by omega) with rfl | rfl <;> rfl
      have hgr : ∀ i, i < 2 → IntR (g3 p q 0 i) := by
        have h1 := HP.out
        intro i hi
        rcases (show i = 0 ∨ i = 1 by omega) with rfl | rfl
        · exact h1
        · show IntR (q : Int); unfold IntR; omega
      have hb4 : Below d w0 (w2.alloc (.cells #[.int .i64 p, .int .i64 (q : Int)] 3)) := HB2.out.alloc (by omega) _
      have hd4 := HD2.out.alloc (.cells #[.int .i64 p, .int .i64 (q : Int)] 3)
      have hs4 : B < (w2.alloc (.cells #[.int .i64 p, .int .i64 (q : Int)] 3)).heap.size := by simp [hB]
      rw [hB] at hrow hlt2
      rw [hB]
      generalize g3 p q 0 = g at *
      generalize (w2.alloc (.cells #[.int .i64 p, .int .i64 (q : Int)] 3)) = w4 at *
      have HROW := Lib.hid hrow
      have HGR := Lib.hid hgr
      have HB4 := Lib.hid hb4
      have HD4 := Lib.hid hd4
      clear hrow hgr hb4 hd4 HB2 HD2
      go_loopw [49] (fun i wr => ∃ k : Nat, k ≤ 2 ∧ i = .int .i64 k ∧ Dc wr d ∧ Below d w0 wr ∧ IsRow wr B 2 g ∧ B < wr.heap.size) (fun i _ => 2 - (intOf i).toNat)
      case atStart => exact ⟨0, by omega, rfl, HD4.out, HB4.out, HROW.out, hs4⟩
      case round =>
        clear HROW HD4 HB4
        obtain ⟨k, hk, rfl, hd, hb, hrow, hsz⟩ := hrel
        have HDC := Lib.hid hd
        have HB := Lib.hid hb
        have HROW := Lib.hid hrow
        have HWk := Lib.hid ((HW.out.below (show Below w.heap.size w w0 by rw [HRB.out]; exact HBW0.out)).below (show Below w0.heap.size w0 wr by rw [HD.out]; exact hb))
        by_cases hl : k < 2
        · have ck := hrow k hl
          have hir := HGR.out k hl
          obtain ⟨y, hy⟩ : ∃ y, g k = y := ⟨_, rfl⟩
          rw [hy] at ck hir
          have k0 : (0 : Int) ≤ (k : Int) := by omega
          have k1 : (k : Int) < 2 := by omega
          have HIR := Lib.hid hir
          clear hd hb hrow hir hy
          go_wp2_with fail
          refine (k_Next d q _ HDC.out (by omega) (by omega)).mono ?_
          rintro e' w5 ⟨r5, hr5, rfl, hd5, hg5⟩
          have hb5 : Below d w0 w5 := HB.out.grown hg5 (Nat.le_of_lt HDC.out.lt) (fun k hk => by injection hk; omega)
          have hs5 : B < w5.heap.size := by have := hg5.size; omega
          have hrow5 : IsRow w5 B 2 g := HROW.out.keep (hg5.block B hsz (by intro e; injection e; omega))
          have HB5 := Lib.hid hb5
          have HD5 := Lib.hid hd5
          have HROW5 := Lib.hid hrow5
          clear hb5 hd5 hrow5 hg5 HROW HDC HB HWk ck
          go_wp2_with fail
          refine (k_Mod key ((q : Int) - 1) _ (by omega) (by omega)).mono ?_
          rintro e' w' ⟨rfl, rfl⟩
          have m0 := Int.emod_nonneg key (show ((q : Int) - 1) ≠ 0 by omega)
          have m1 := Int.emod_lt_of_pos key (show (0 : Int) < (q : Int) - 1 by omega)
          obtain ⟨km, hkm⟩ : ∃ km, key % ((q : Int) - 1) = km := ⟨_, rfl⟩
          rw [hkm] at m0 m1 ⊢
          clear hkm
          go_wp2_with fail
          obtain ⟨C, hC⟩ : ∃ C, w5.heap.size = C := ⟨_, rfl⟩
          have hrow6 : IsRow (w5.alloc (.cells #[.int .i64 key, .int .i64 (1 + (r5 : Int)), .int .i64 (1 + km)] 3)) w5.heap.size 3 (g3 key (1 + (r5 : Int)) (1 + km)) := by
            intro i hi
            rw [World.cell?_alloc_new]
            rcases (show i = 0 ∨ i = 1 ∨ i = 2 by omega) with rfl | rfl | rfl <;> rfl
          have hb6 : Below d w0 (w5.alloc (.cells #[.int .i64 key, .int .i64 (1 + (r5 : Int)), .int .i64 (1 + km)] 3)) := HB5.out.alloc (by omega) _
          have hd6 := HD5.out.alloc (.cells #[.int .i64 key, .int .i64 (1 + (r5 : Int)), .int .i64 (1 + km)] 3)
          have hrow7 : IsRow (w5.alloc (.cells #[.int .i64 key, .int .i64 (1 + (r5 : Int)), .int .i64 (1 + km)] 3)) B 2 g := HROW5.out.keep (heap_alloc_old w5 _ hs5)
          have hs6 : C < (w5.alloc (.cells #[.int .i64 key, .int .i64 (1 + (r5 : Int)), .int .i64 (1 + km)] 3)).heap.size := by simp [hC]
          rw [hC] at hrow6 hs5
          rw [hC]
          generalize g3 key (1 + (r5 : Int)) (1 + km) = g' at *
          generalize (w5.alloc (.cells #[.int .i64 key, .int .i64 (1 + (r5 : Int)), .int .i64 (1 + km)] 3)) = w6 at *
          have H6 := Lib.hid hrow6
          have H7 := Lib.hid hrow7
          have HB6 := Lib.hid hb6
          have HD6 := Lib.hid hd6
          clear hrow6 hrow7 hb6 hd6 HB5 HD5 HROW5
          obtain ⟨wo, hwo⟩ : ∃ wo, wo = wr := ⟨wr, rfl⟩
          subst hwo
          go_loopw [65] (fun i wr => ∃ j : Nat, j ≤ 3 ∧ i = .int .i64 j ∧ Dc wr d ∧ Below d w0 wr ∧ IsRow wr B 2 g ∧ IsRow wr C 3 g' ∧ C < wr.heap.size) (fun i _ => 3 - (intOf i).toNat)
          case atStart => exact ⟨0, by omega, rfl, HD6.out, HB6.out, H7.out, H6.out, hs6⟩
          case round =>
            clear H6 H7 HB6 HD6
            obtain ⟨j, hj, rfl, hd, hb, hrow, hrow', hsz'⟩ := hrel
            have HDC := Lib.hid hd
            have HB := Lib.hid hb
            have HROW := Lib.hid hrow
            have HROW' := Lib.hid hrow'
            have HWk := Lib.hid ((HW.out.below (show Below w.heap.size w w0 by rw [HRB.out]; exact HBW0.out)).below (show Below w0.heap.size w0 wr by rw [HD.out]; exact hb))
            by_cases hl3 : j < 3
            · have cj := hrow' j hl3
              obtain ⟨z, hz'⟩ : ∃ z, g' j = z := ⟨_, rfl⟩
              rw [hz'] at cj
              have j0 : (0 : Int) ≤ (j : Int) := by omega
              have j1 : (j : Int) < 3 := by omega
              have hrm := fun W => r_SignG y z nonce text W (by omega)
              have hhm := h_SignG y z nonce text _ HWk.out HIR.out (by omega)
              unfold SgnPost at hrm hhm
              generalize sgR y z nonce = aR at *
              generalize sgS y z nonce text = aS at *
              generalize sgE y z nonce = aE at *
              have HRM := Lib.hid hrm
              have HHM := Lib.hid hhm
              clear hd hb hrow hrow' hz' hrm hhm
              go_wp2_with fail
              refine HHM.out.mono ?_
              rintro e' w8 ⟨rfl, hb8⟩
              clear cj HHM
              have hs8 := hb8.size
              have HB8 := Lib.hid hb8
              clear hb8
              go_wp2_with fail
              have ca : Blk (w8.alloc (.cells #[.int .i64 aR, .int .i64 aS] 53)) w8.heap.size 53 #[.int .i64 aR, .int .i64 aS] := Blk.new w8 _ _
              refine (HRM.out _).mono ?_
              rintro e' w9 ⟨rfl, hb9⟩
              have hs9 := hb9.size
              have ca9 := ca.below hb9 ca.lt
              have HB9 := Lib.hid hb9
              clear hb9 HRM ca
              have a0 : w9.cell? ⟨w8.heap.size, 0, none⟩ = some (.int .i64 aR) := ca9.cell 0
              have a1 : w9.cell? ⟨w8.heap.size, 1, none⟩ = some (.int .i64 aS) := ca9.cell 1
              have alt := ca9.lt
              go_wp2_with fail
              have hbA : Below wr.heap.size wr (w9.alloc (.cells #[.int .i64 aR, .int .i64 aS] 53)) := (((HB8.out.alloc HB8.out.size _).trans (HB9.out.mono (by simp; omega)))).alloc (by simp at hs9; omega) _
              have hsA := hbA.size
              refine ⟨⟨j + 1, by omega, by go_num, HDC.out.below hbA HDC.out.lt, HB.out.trans (hbA.mono (Nat.le_of_lt HDC.out.lt)), HROW.out.keep (hbA.block B (by omega)), HROW'.out.keep (hbA.block C hsz'), by omega⟩, ?_⟩
              simp [intOf]; omega
            · have hj3 : j = 3 := by omega
              subst hj3
              clear hd hb hrow hrow'
              go_wp2_with fail
              go_roundw
              case measure => simp [intOf]; omega
              case rel => exact ⟨k + 1, by omega, by go_num, HDC.out, HB.out, HROW.out, by omega⟩
        · have hk2 : k = 2 := by omega
          subst hk2
          have hlts := HDC.out.lt
          clear hd hb hrow HROW HGR hl
          go_wp2_with fail
          refine (k_Mod key ((q : Int) - 1) _ (by omega) (by omega)).mono ?_
          rintro e' w' ⟨rfl, rfl⟩
          have m0 := Int.emod_nonneg key (show ((q : Int) - 1) ≠ 0 by omega)
          have m1 := Int.emod_lt_of_pos key (show (0 : Int) < (q : Int) - 1 by omega)
          obtain ⟨km, hkm⟩ := Int.eq_ofNat_of_zero_le m0
          rw [hkm] at m1 ⊢
          clear hkm m0
          go_wp2_with fail
          refine (k_Mod nonce ((q : Int) - 1) _ (by omega) (by omega)).mono ?_
          rintro e' w' ⟨rfl, rfl⟩
          have n0 := Int.emod_nonneg nonce (show ((q : Int) - 1) ≠ 0 by omega)
          have n1 := Int.emod_lt_of_pos nonce (show (0 : Int) < (q : Int) - 1 by omega)
          obtain ⟨nm, hnm⟩ := Int.eq_ofNat_of_zero_le n0
          rw [hnm] at n1 ⊢
          clear hnm n0
          go_wp2_with fail
          have hk1 : (1 + (km : Int)) = ((1 + km : Nat) : Int) := by omega
          have hn1 : (1 + (nm : Int)) = ((1 + nm : Nat) : Int) := by omega
          rw [hk1, hn1]
          clear hk1 hn1
          obtain ⟨K, hK⟩ : ∃ K, 1 + km = K := ⟨_, rfl⟩
          obtain ⟨M, hM⟩ : ∃ M, 1 + nm = M := ⟨_, rfl⟩
          have k1 : 1 ≤ K := by omega
          have k2 : K < q := by omega
          have n1' : 1 ≤ M := by omega
          have n2 : M < q := by omega
          rw [hK, hM]
          clear hK hM m1 n1
          have hpb := fun W => r_PublicN q K W (by omega) q4 k2
          have hpb' := fun W => h_Public q (K : Int) W (by omega) q4
          rw [show ((K : Int) % (q : Int)).toNat = K by rw [Int.emod_eq_of_lt (by omega) (by omega)]; rfl] at hpb'
          have hlR := pw_lt (m := 2 * q + 1) (by omega) 4 K
          generalize pw (2 * q + 1) 4 K = Y at *
          have hsg := h_Sign q K M text _ HWk.out HSP.out k1 k2 n1' n2 (by omega)
          have hsr := fun W => r_Sign q K M text W (sprm_safe HSP.out) k1 k2 n1' n2 (by omega)
          have lS := sigS_lt' q K M text (by omega)
          have lR := pw_lt (m := 2 * q + 1) (by omega) 4 M
          unfold SignPost at hsg hsr
          generalize pw (2 * q + 1) 4 M = R at *
          generalize sigS q K M text = Z at *
          have HPB := Lib.hid hpb
          have HPB' := Lib.hid hpb'
          have HSG := Lib.hid hsg
          have HSR := Lib.hid hsr
          clear hpb hpb' hsg hsr
          refine (HPB.out _).mono ?_
          rintro e' w' ⟨rfl, rfl⟩
          go_wp2_with fail
          refine (HSG.out).mono ?_
          rintro e' w8 ⟨rfl, hb8⟩
          have hs8 := hb8.size
          have HB8 := Lib.hid hb8
          clear hb8 HSG HPB
          go_wp2_with fail
          have ca : Blk (w8.alloc (.cells #[.int .i64 (R : Int), .int .i64 (Z : Int)] 53)) w8.heap.size 53 #[.int .i64 (R : Int), .int .i64 (Z : Int)] := Blk.new w8 _ _
          refine (HSR.out _).mono ?_
          rintro e' w9 ⟨rfl, hb9⟩
          have hs9 := hb9.size
          have ca9 := ca.below hb9 ca.lt
          have HB9 := Lib.hid hb9
          clear hb9 HSR ca
          have a0 : w9.cell? ⟨w8.heap.size, 0, none⟩ = some (.int .i64 (R : Int)) := ca9.cell 0
          have a1 : w9.cell? ⟨w8.heap.size, 1, none⟩ = some (.int .i64 (Z : Int)) := ca9.cell 1
          have alt := ca9.lt
          go_wp2_with fail
          refine (HPB'.out _).mono ?_
          rintro e' w10 ⟨rfl, hb10⟩
          have hs10 := hb10.size
          have cb := Blk.new w9 53 #[.int .i64 (R : Int), .int .i64 (Z : Int)]
          have cb10 := cb.below hb10 cb.lt
          have hbA : Below wr.heap.size wr (w9.alloc (.cells #[.int .i64 (R : Int), .int .i64 (Z : Int)] 53)) := (((HB8.out.alloc HB8.out.size _).trans (HB9.out.mono (by simp; omega)))).alloc (by simp at hs9; omega) _
          have hbB : Below wr.heap.size wr w10 := hbA.trans (hb10.mono (by simp; simp at hs9; omega))
          have hbC : Below d w0 w10 := HB.out.trans (hbB.mono (Nat.le_of_lt HDC.out.lt))
          have cr10 := HBLK.out.below hbC hrlt
          have b0 : w10.cell? ⟨w9.heap.size, 0, none⟩ = some (.int .i64 (R : Int)) := cb10.cell 0
          have b1 : w10.cell? ⟨w9.heap.size, 1, none⟩ = some (.int .i64 (Z : Int)) := cb10.cell 1
          have r0 : w10.cell? ⟨rb, 0, none⟩ = some (.int .i64 rR) := cr10.cell 0
          have r1 : w10.cell? ⟨rb, 1, none⟩ = some (.int .i64 rS) := cr10.cell 1
          have hblt := cb10.lt
          have hdlt : d < w10.heap.size := by have := hbB.size; omega
          have hrblt : rb < w10.heap.size := by omega
          have HBC := Lib.hid hbC
          have HWC := Lib.hid (HWk.out.below hbB)
          have HCR := Lib.hid cr10
          clear hb10 cb cb10 hbA hbB hbC cr10 ca9 HB9 HB8 HPB' a0 a1 hs10 hs9 hs8 alt HB HWk HDC
          have htm : ∀ W, Calls Tryd.prog 30 #[.int .i64 (q : Int), .int .i64 (R : Int), .int .i64 4] W (IPost ((R * 4 % (2 * q + 1) : Nat) : Int) W) := fun W => r_TimesG q R 4 W q4 (by omega) (by omega)
          have hlT := Nat.mod_lt (R * 4) (show 0 < 2 * q + 1 by omega)
          generalize R * 4 % (2 * q + 1) = T at *
          have HTM := Lib.hid htm
          clear htm
          have q0 : (q : Int) ≠ 0 := by omega
          have q0' : ¬ q = 0 := by omega
          have wz : IntKind.i64.wrap ((Z : Int) + 1) = (Z : Int) + 1 := IntWalk.i64_in _ ⟨by omega, by omega⟩
          have z0 := Int.emod_nonneg ((Z : Int) + 1) q0
          have z1 := Int.emod_lt_of_pos ((Z : Int) + 1) (show (0 : Int) < q by omega)
          go_wp2_with fail
          go_region_held3 (fun w' => w'.cell? ⟨w9.heap.size, 0, none⟩ = some (.int .i64 (R : Int)) ∧ w'.cell? ⟨w9.heap.size, 1, none⟩ = some (.int .i64 (Z : Int)) ∧ w'.cell? ⟨rb, 0, none⟩ = some (.int .i64 rR) ∧ w'.cell? ⟨rb, 1, none⟩ = some (.int .i64 rS))
            (first
              | exact ⟨b0, b1, r0, r1⟩
              | exact ⟨(World.cell?_alloc_lt w10.drew _ ⟨w9.heap.size, 0, none⟩ hblt).trans b0, (World.cell?_alloc_lt w10.drew _ ⟨w9.heap.size, 1, none⟩ hblt).trans b1, (World.cell?_alloc_lt w10.drew _ ⟨rb, 0, none⟩ hrblt).trans r0, (World.cell?_alloc_lt w10.drew _ ⟨rb, 1, none⟩ hrblt).trans r1⟩
              | (go_split_ands; refine ⟨?_, ?_, ?_, ?_⟩ <;> assumption))
            (first
              | (go_at_call 30; ((with_reducible refine (HTM.out _).mono ?_); rintro e wk ⟨rfl, rfl⟩)))
          obtain ⟨D, hD⟩ : ∃ D, w10.heap.size = D := ⟨_, rfl⟩
          have ht0 : ((Z : Int) + 1).tmod (q : Int) = ((Z : Int) + 1) % (q : Int) := Int.tmod_eq_emod_of_nonneg (by omega)
          rw [ht0]
          have hrowD : IsRow (w10.alloc (.cells #[.int .i64 (R : Int), .int .i64 (Z : Int), .int .i64 rR, .int .i64 rS, .int .i64 (R : Int), .int .i64 ((Z : Int) + 1), .int .i64 (Z : Int), .int .i64 (R : Int), .int .i64 (T : Int), .int .i64 (((Z : Int) + 1) % (q : Int))] 53)).drew w10.heap.size 10 (g10 R Z rR rS R ((Z : Int) + 1) Z R T (((Z : Int) + 1) % (q : Int))) := by
            intro i hi
            show (w10.alloc _).cell? _ = _
            rw [World.cell?_alloc_new]
            rcases (show i = 0 ∨ i = 1 ∨ i = 2 ∨ i = 3 ∨ i = 4 ∨ i = 5 ∨ i = 6 ∨ i = 7 ∨ i = 8 ∨ i = 9 by omega) with rfl | rfl | rfl | rfl | rfl | rfl | rfl | rfl | rfl | rfl <;> rfl
          have hbD : Below d w0 (w10.alloc (.cells #[.int .i64 (R : Int), .int .i64 (Z : Int), .int .i64 rR, .int .i64 rS, .int .i64 (R : Int), .int .i64 ((Z : Int) + 1), .int .i64 (Z : Int), .int .i64 (R : Int), .int .i64 (T : Int), .int .i64 (((Z : Int) + 1) % (q : Int))] 53)).drew := (HBC.out.alloc (by omega) _).drew
          have hrD : Blk (w10.alloc (.cells #[.int .i64 (R : Int), .int .i64 (Z : Int), .int .i64 rR, .int .i64 rS, .int .i64 (R : Int), .int .i64 ((Z : Int) + 1), .int .i64 (Z : Int), .int .i64 (R : Int), .int .i64 (T : Int), .int .i64 (((Z : Int) + 1) % (q : Int))] 53)).drew rb 53 #[.int .i64 rR, .int .i64 rS] := (HCR.out.alloc _).drew
          have hsD : D < (w10.alloc (.cells #[.int .i64 (R : Int), .int .i64 (Z : Int), .int .i64 rR, .int .i64 rS, .int .i64 (R : Int), .int .i64 ((Z : Int) + 1), .int .i64 (Z : Int), .int .i64 (R : Int), .int .i64 (T : Int), .int .i64 (((Z : Int) + 1) % (q : Int))] 53)).drew.heap.size := by show D < (w10.alloc _).heap.size; simp [hD]
          rename_i hHeld
          clear hHeld
          rw [hD] at hrowD hdlt hrblt
          rw [hD]
          generalize g10 R Z rR rS R ((Z : Int) + 1) Z R T (((Z : Int) + 1) % (q : Int)) = gg at *
          generalize (w10.alloc (.cells #[.int .i64 (R : Int), .int .i64 (Z : Int), .int .i64 rR, .int .i64 rS, .int .i64 (R : Int), .int .i64 ((Z : Int) + 1), .int .i64 (Z : Int), .int .i64 (R : Int), .int .i64 (T : Int), .int .i64 (((Z : Int) + 1) % (q : Int))] 53)).drew = w11 at *
          have HROWD := Lib.hid hrowD
          have HBD := Lib.hid hbD
          have HRD := Lib.hid hrD
          clear hrowD hbD hrD b0 b1 r0 r1 HBC HWC HCR HTM
          have hsf := sprm_safe HSP.out
          have HSF := Lib.hid hsf
          clear hsf
          obtain ⟨wo, hwo⟩ : ∃ wo, wo = wr := ⟨wr, rfl⟩
          subst hwo
          go_wp2_with fail
          go_loopw [164] (fun i wr => ∃ j : Nat, j ≤ 5 ∧ i = .int .i64 j ∧ Below d w0 wr ∧ IsRow wr D 10 gg ∧ Blk wr rb 53 #[.int .i64 rR, .int .i64 rS] ∧ D < wr.heap.size) (fun i _ => 5 - (intOf i).toNat)
          case atStart => exact ⟨0, by omega, rfl, HBD.out, HROWD.out, HRD.out, hsD⟩
          case round =>
            clear HROWD HBD HRD
            obtain ⟨j, hj, rfl, hb, hrow, hrk, hszD⟩ := hrel
            have HB := Lib.hid hb
            have HROW := Lib.hid hrow
            have HRK := Lib.hid hrk
            have HWk := Lib.hid ((HW.out.below (show Below w.heap.size w w0 by rw [HRB.out]; exact HBW0.out)).below (show Below w0.heap.size w0 wr by rw [HD.out]; exact hb))
            by_cases hl : j < 5
            · have c0 := hrow (j * 2) (by omega)
              have c1 := hrow (j * 2 + 1) (by omega)
              have c2 : wr.cell? ⟨rb, 0, none⟩ = some (.int .i64 rR) := hrk.cell 0
              obtain ⟨sR, hsR⟩ : ∃ y, gg (j * 2) = y := ⟨_, rfl⟩
              obtain ⟨sS, hsS⟩ : ∃ y, gg (j * 2 + 1) = y := ⟨_, rfl⟩
              rw [hsR] at c0
              rw [hsS] at c1
              have j0 : (0 : Int) ≤ (j : Int) := by omega
              have j1 : (j : Int) < 5 := by omega
              clear hsR hsS hb hrow hrk
              have v1 := fun W hW => h_VerifyG q Y sR sS text W hW HSP.out (by omega)
              have v2 := fun W hW => h_VerifyG q Y sR sS (text ++ ⟨#[120]⟩) W hW HSP.out (by rw [ByteArray.size_append]; show text.size + 1 < _; omega)
              have v3 := fun W hW => h_VerifyG q rR sR sS text W hW HSP.out (by omega)
              have x1 := fun W => r_VerifyG q Y sR sS text W HSF.out (by omega)
              have x2 := fun W => r_VerifyG q Y sR sS (text ++ ⟨#[120]⟩) W HSF.out (by rw [ByteArray.size_append]; show text.size + 1 < _; omega)
              have x3 := fun W => r_VerifyG q rR sR sS text W HSF.out (by omega)
              generalize vfyG q Y sR sS text = B1 at *
              generalize vfyG q Y sR sS (text ++ ⟨#[120]⟩) = B2 at *
              generalize vfyG q rR sR sS text = B3 at *
              have V1 := Lib.hid v1
              have V2 := Lib.hid v2
              have V3 := Lib.hid v3
              have X1 := Lib.hid x1
              have X2 := Lib.hid x2
              have X3 := Lib.hid x3
              clear v1 v2 v3 x1 x2 x3
              go_wp2_with fail
              have ka := Blk.new wr 53 #[.int .i64 sR, .int .i64 sS]
              have kr := HRK.out.alloc (.cells #[.int .i64 sR, .int .i64 sS] 53)
              have kb : Below wr.heap.size wr (wr.alloc (.cells #[.int .i64 sR, .int .i64 sS] 53)) := (Below.refl _ _).alloc (Nat.le_refl _) _
              have mk : ∀ W : World, Below wr.heap.size wr W → Blk W wr.heap.size 53 #[.int .i64 sR, .int .i64 sS] →
                  W.cell? ⟨wr.heap.size, 0, none⟩ = some (.int .i64 sR) ∧ W.cell? ⟨wr.heap.size, 1, none⟩ = some (.int .i64 sS) ∧ W.cell? ⟨rb, 0, none⟩ = some (.int .i64 rR) ∧ Hid (Below wr.heap.size wr W ∧ Blk W wr.heap.size 53 #[.int .i64 sR, .int .i64 sS] ∧ BasesOk W) :=
                fun W h1 h2 => ⟨h2.cell 0, h2.cell 1, (HRK.out.below h1 (by omega)).cell 0, Lib.hid ⟨h1, h2, HWk.out.below h1⟩⟩
              have HMK := Lib.hid mk
              have HST := Lib.hid (mk _ kb.drew ka.drew)
              clear ka kr kb mk c0 c1 c2
              have tx : ¬ 9223372036854775807 < text.size + 1 := by omega
              generalize (wr.alloc (.cells #[.int .i64 sR, .int .i64 sS] 53)) = wq at *
              have step : ∀ (W W' : World) (h : Hid (Below wr.heap.size wr W ∧ Blk W wr.heap.size 53 #[.int .i64 sR, .int .i64 sS] ∧ BasesOk W)), Below W.heap.size W W' → W'.cell? ⟨wr.heap.size, 0, none⟩ = some (.int .i64 sR) ∧ W'.cell? ⟨wr.heap.size, 1, none⟩ = some (.int .i64 sS) ∧ W'.cell? ⟨rb, 0, none⟩ = some (.int .i64 rR) ∧ Hid (Below wr.heap.size wr W' ∧ Blk W' wr.heap.size 53 #[.int .i64 sR, .int .i64 sS] ∧ BasesOk W') :=
                fun W W' h hb => HMK.out W' (h.out.1.trans (hb.mono h.out.1.size)) (h.out.2.1.below hb h.out.2.1.lt)
              have HSTEP := Lib.hid step
              clear step
              go_region_held3 (fun w' => w'.cell? ⟨wr.heap.size, 0, none⟩ = some (.int .i64 sR) ∧ w'.cell? ⟨wr.heap.size, 1, none⟩ = some (.int .i64 sS) ∧ w'.cell? ⟨rb, 0, none⟩ = some (.int .i64 rR) ∧ Hid (Below wr.heap.size wr w' ∧ Blk w' wr.heap.size 53 #[.int .i64 sR, .int .i64 sS] ∧ BasesOk w'))
                (first
                  | exact HST.out
                  | exact HSX.out)
                (first
                  | (go_at_call 39
                     go_split_ands
                     (first
                       | (with_reducible refine (V1.out _ (by first | exact (‹Hid (Below wr.heap.size wr _ ∧ _ ∧ _)›).out.2.2 | exact HST.out.2.2.2.out.2.2)).mono ?_)
                       | (with_reducible refine (V2.out _ (by first | exact (‹Hid (Below wr.heap.size wr _ ∧ _ ∧ _)›).out.2.2 | exact HST.out.2.2.2.out.2.2)).mono ?_)
                       | (with_reducible refine (V3.out _ (by first | exact (‹Hid (Below wr.heap.size wr _ ∧ _ ∧ _)›).out.2.2 | exact HST.out.2.2.2.out.2.2)).mono ?_))
                     rintro e wk ⟨rfl, hbk⟩
                     have HSX := Lib.hid (HSTEP.out _ wk (by first | exact ‹Hid (Below wr.heap.size wr _ ∧ _ ∧ _)› | exact HST.out.2.2.2) hbk))
                  | (go_at_call 40
                     go_split_ands
                     (first
                       | (with_reducible refine (X1.out _).mono ?_)
                       | (with_reducible refine (X2.out _).mono ?_)
                       | (with_reducible refine (X3.out _).mono ?_))
                     rintro e wk ⟨rfl, hbk⟩
                     have HSX := Lib.hid (HSTEP.out _ wk (by first | exact ‹Hid (Below wr.heap.size wr _ ∧ _ ∧ _)› | exact HST.out.2.2.2) hbk)))
              all_goals
                go_split_ands
                have hz := (‹Hid (Below wr.heap.size wr _ ∧ Blk _ _ _ _ ∧ BasesOk _)›).out
                have hzs := hz.1.size
                have HZ := Lib.hid hz
                clear hz
                go_wp2_with fail
                go_roundw
                case measure => simp [intOf]; omega
                case rel => exact ⟨j + 1, by omega, by go_num, HB.out.trans (HZ.out.1.mono (by omega)), HROW.out.keep (HZ.out.1.block D hszD), HRK.out.below HZ.out.1 (by omega), by omega⟩
            · have hj5 : j = 5 := by omega
              subst hj5
              clear hb hrow hrk
              go_wp2_with fail
              refine (l_awake _ HWk.out).mono ?_
              rintro e w12 ⟨rfl, hb12⟩
              go_wp2_with fail
              go_ret
              exact ⟨rfl, by rw [HRB.out]; exact HBW0.out.trans ((HB.out.trans (hb12.mono (by have := HB.out.size; omega))).mono (by omega))⟩
    · exact other (Or.inr ⟨t1, decide_eq_true (by omega)⟩)
  · exact other (Or.inl (decide_eq_false (by omega)))
end Go.Proofs.YtmneokkdkgflkaaDoor

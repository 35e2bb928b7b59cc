/- The law on the group. -/
import Derived.Test.YtmneokkdkgflkaaDoorRefEl
import Derived.Test.YtmneokkdkgflkaaDoorHanKey
set_option linter.unusedVariables false
set_option linter.unusedSimpArgs false
namespace Go.Proofs.YtmneokkdkgflkaaDoor
open Go.RowKit Num

/-- Numbers in a row of cells. -/
def IsRow (W : World) (B n : Nat) (g : Nat → Int) : Prop := ∀ i, i < n → W.cell? ⟨B, i, none⟩ = some (.int .i64 (g i))
theorem IsRow.keep {W W' : World} {B n : Nat} {g : Nat → Int} (h : IsRow W B n g) (hb : W'.heap[B]? = W.heap[B]?) : IsRow W' B n g := fun i hi => (World.cell?_of_block (a := ⟨B, i, none⟩) hb).trans (h i hi)
def g6 (a b c d e f : Int) : Nat → Int
  | 0 => a
  | 1 => b
  | 2 => c
  | 3 => d
  | 4 => e
  | _ => f
def g4 (a b c d : Int) : Nat → Int
  | 0 => a
  | 1 => b
  | 2 => c
  | _ => d

set_option maxRecDepth 100000 in
set_option maxHeartbeats 4000000 in
theorem l_Group (v : Value) (p x e : Int) (text : ByteArray) (w : World) (hw : BasesOk w) (A : Option Addr) (n c : Nat) (hv : v = .slice A n c) (hn : n ≤ 9223372036854775807) (hz : text.size ≤ 9223372036854775807) (hp : IntR p) (ha : n ≤ 500 → ArgL w v) :
    Calls Tryd.prog 4 #[v, .int .i64 p, .int .i64 x, .int .i64 e, .string text] w (BoolBelow true w) := by
  subst hv
  have other : (decide ((n : Int) ≤ 500) = false ∨ decide ((n : Int) ≤ 500) = true ∧ decide ((300 : Int) < (text.size : Int)) = true) → Calls Tryd.prog 4 #[.slice A n c, .int .i64 p, .int .i64 x, .int .i64 e, .string text] w (BoolBelow true w) := by
    have HW := Lib.hid hw
    clear hw ha
    rintro (t1 | ⟨t1, t2⟩)
    all_goals
      go_enter Tryd.func4, Tryd.ntmps4
      go_wp2_with fail
      refine (k_Light A n c _ hn).mono ?_
      rintro e w' ⟨rfl, rfl⟩
      go_wp2_with fail
      refine (l_awake _ HW.out).mono ?_
      rintro e w1 ⟨rfl, hb1⟩
      go_wp2_with fail
      go_ret
      exact ⟨rfl, hb1⟩
  by_cases h5 : n ≤ 500
  · have t1 : decide ((n : Int) ≤ 500) = true := decide_eq_true (by omega)
    have ha := ha h5
    by_cases h3 : text.size ≤ 300
    · have t2 : decide ((300 : Int) < (text.size : Int)) = false := decide_eq_false (by omega)
      have HW := Lib.hid hw
      have HA := Lib.hid ha
      have HP := Lib.hid hp
      clear hw ha hp other
      go_enter Tryd.func4, Tryd.ntmps4
      go_wp2_with fail
      refine (k_Light A n c _ hn).mono ?_
      rintro e w' ⟨rfl, rfl⟩
      go_wp2_with fail
      refine (k_Roll _ _ HA.out).mono ?_
      rintro e w1 ⟨rfl, hd1, hb1⟩
      have hlt1 := hd1.lt
      obtain ⟨d, hd⟩ : ∃ d, w.heap.size = d := ⟨_, rfl⟩
      rw [hd] at hd1 hb1 hlt1 ⊢
      have HD := Lib.hid hd
      have HD1 := Lib.hid hd1
      have HB1 := Lib.hid hb1
      clear hd1 hb1 HA hd
      go_wp2_with fail
      refine (k_Safe d _ HD1.out).mono ?_
      rintro e w2 ⟨q, hq, rfl, hd2, hg2⟩
      have hsp := safe_sprm hq
      have q3 := hsp.2.2.1
      have q4 := hsp.2.2.2
      have hb2 : Below d w w2 := HB1.out.grown hg2 (Nat.le_of_lt hlt1) (fun k hk => by injection hk; omega)
      have HSP := Lib.hid hsp
      have HD2 := Lib.hid hd2
      have HB2 := Lib.hid hb2
      clear hd2 hg2 hb2 hsp hq HD1 HB1
      go_wp2_with fail
      refine (k_Mod p 2000 _ (by omega) (by omega)).mono ?_
      rintro e' w' ⟨rfl, rfl⟩
      have m0 := Int.emod_nonneg p (show (2000 : Int) ≠ 0 by omega)
      have m1 := Int.emod_lt_of_pos p (show (0 : Int) < 2000 by omega)
      obtain ⟨pm, hpm⟩ : ∃ pm, p % 2000 = pm := ⟨_, rfl⟩
      rw [hpm] at m0 m1 ⊢
      clear hpm
      go_wp2_with fail
      refine (k_Prime d _ HD2.out).mono ?_
      rintro e' w3 ⟨r, hr, rfl, hd3, hg3⟩
      have hb3 : Below d w w3 := HB2.out.grown hg3 (Nat.le_of_lt HD2.out.lt) (fun k hk => by injection hk; omega)
      have hlt3 := hd3.lt
      have HD3 := Lib.hid hd3
      have HB3 := Lib.hid hb3
      have HR := Lib.hid hr
      clear hd3 hg3 hb3 hr HD2 HB2
      go_wp2_with fail
      obtain ⟨B, hB⟩ : ∃ B, w3.heap.size = B := ⟨_, rfl⟩
      have hrow : IsRow (w3.alloc (.cells #[.int .i64 p, .int .i64 (q : Int), .int .i64 pm, .int .i64 r] 3)) w3.heap.size 4 (g4 p q pm r) := by
        intro i hi
        rw [World.cell?_alloc_new]
        rcases (show i = 0 ∨ i = 1 ∨ i = 2 ∨ i = 3 by omega) with rfl | rfl | rfl | rfl <;> rfl
      have hgr : ∀ i, i < 4 → IntR (g4 p q pm r i) := by
        have h1 := HP.out
        have h2 := HR.out
        intro i hi
        rcases (show i = 0 ∨ i = 1 ∨ i = 2 ∨ i = 3 by omega) with rfl | rfl | rfl | rfl
        · exact h1
        · show IntR (q : Int); unfold IntR; omega
        · show IntR pm; unfold IntR; omega
        · exact h2
      have hb4 : Below d w (w3.alloc (.cells #[.int .i64 p, .int .i64 (q : Int), .int .i64 pm, .int .i64 r] 3)) := HB3.out.alloc (by omega) _
      have hd4 := HD3.out.alloc (.cells #[.int .i64 p, .int .i64 (q : Int), .int .i64 pm, .int .i64 r] 3)
      have hs4 : B < (w3.alloc (.cells #[.int .i64 p, .int .i64 (q : Int), .int .i64 pm, .int .i64 r] 3)).heap.size := by simp [hB]
      rw [hB] at hrow hlt3
      rw [hB]
      generalize g4 p q pm r = g at *
      generalize (w3.alloc (.cells #[.int .i64 p, .int .i64 (q : Int), .int .i64 pm, .int .i64 r] 3)) = w4 at *
      have HROW := Lib.hid hrow
      have HGR := Lib.hid hgr
      have HB4 := Lib.hid hb4
      have HD4 := Lib.hid hd4
      clear hrow hgr hb4 hd4 HB3 HD3
      go_loopw [46] (fun i wr => ∃ k : Nat, k ≤ 4 ∧ i = .int .i64 k ∧ Dc wr d ∧ Below d w wr ∧ IsRow wr B 4 g ∧ B < wr.heap.size) (fun i _ => 4 - (intOf i).toNat)
      case atStart => exact ⟨0, by omega, rfl, HD4.out, HB4.out, HROW.out, hs4⟩
      case round =>
        clear HROW HD4 HB4
        obtain ⟨k, hk, rfl, hd, hb, hrow, hsz⟩ := hrel
        have HDC := Lib.hid hd
        have HB := Lib.hid hb
        have HROW := Lib.hid hrow
        have HWk := Lib.hid (HW.out.below (show Below w.heap.size w wr by rw [HD.out]; exact hb))
        by_cases hl : k < 4
        · have ck := hrow k hl
          have hir := HGR.out k hl
          obtain ⟨y, hy⟩ : ∃ y, g k = y := ⟨_, rfl⟩
          rw [hy] at ck hir
          have k0 : (0 : Int) ≤ (k : Int) := by omega
          have k1 : (k : Int) < 4 := by omega
          have HIR := Lib.hid hir
          clear hd hb hrow hir hy
          go_wp2_with fail
          have hrm := fun W => r_ModulusG y W
          have hhm := h_ModulusG y _ HWk.out HIR.out
          unfold ModPost at hrm hhm
          generalize modI y = M at *
          generalize isSafe y = bS at *
          refine hhm.mono ?_
          rintro e' w' ⟨rfl, rfl⟩
          go_wp2_with fail
          refine (hrm _).mono ?_
          rintro e' w' ⟨rfl, rfl⟩
          clear hrm hhm
          have x0 := Int.emod_nonneg x (show (2 * (q : Int) + 2) ≠ 0 by omega)
          have x1 := Int.emod_lt_of_pos x (show (0 : Int) < 2 * (q : Int) + 2 by omega)
          have hxm := fun W => k_Mod x (2 * (q : Int) + 2) W (by omega) (by omega)
          obtain ⟨xm, hx⟩ : ∃ xm, x % (2 * (q : Int) + 2) = xm := ⟨_, rfl⟩
          rw [hx] at x0 x1 hxm
          have HXM := Lib.hid hxm
          clear hxm hx
          go_wp2_with fail
          refine (HXM.out _).mono ?_
          rintro e' w' ⟨rfl, rfl⟩
          go_wp2_with fail
          refine (k_Next d 60 _ HDC.out (by omega) (by omega)).mono ?_
          rintro e' w5 ⟨r5, hr5, rfl, hd5, hg5⟩
          have hb5 : Below d w w5 := HB.out.grown hg5 (Nat.le_of_lt HDC.out.lt) (fun k hk => by injection hk; omega)
          have hs5 : B < w5.heap.size := by have := hg5.size; omega
          have hrow5 : IsRow w5 B 4 g := HROW.out.keep (hg5.block B hsz (by intro e; injection e; omega))
          have HB5 := Lib.hid hb5
          have HD5 := Lib.hid hd5
          have HROW5 := Lib.hid hrow5
          clear hb5 hd5 hrow5 hg5 HROW HDC HB HWk ck
          go_wp2_with fail
          obtain ⟨C, hC⟩ : ∃ C, w5.heap.size = C := ⟨_, rfl⟩
          have hrow6 : IsRow (w5.alloc (.cells #[.int .i64 x, .int .i64 xm, .int .i64 (r5 : Int)] 3)) w5.heap.size 3 (g4 x xm r5 0) := by
            intro i hi
            rw [World.cell?_alloc_new]
            rcases (show i = 0 ∨ i = 1 ∨ i = 2 by omega) with rfl | rfl | rfl <;> rfl
          have hb6 : Below d w (w5.alloc (.cells #[.int .i64 x, .int .i64 xm, .int .i64 (r5 : Int)] 3)) := HB5.out.alloc (by omega) _
          have hd6 := HD5.out.alloc (.cells #[.int .i64 x, .int .i64 xm, .int .i64 (r5 : Int)] 3)
          have hrow7 : IsRow (w5.alloc (.cells #[.int .i64 x, .int .i64 xm, .int .i64 (r5 : Int)] 3)) B 4 g := HROW5.out.keep (heap_alloc_old w5 _ hs5)
          have hs6 : C < (w5.alloc (.cells #[.int .i64 x, .int .i64 xm, .int .i64 (r5 : Int)] 3)).heap.size := by simp [hC]
          rw [hC] at hrow6 hs5
          rw [hC]
          generalize g4 x xm r5 0 = g' at *
          generalize (w5.alloc (.cells #[.int .i64 x, .int .i64 xm, .int .i64 (r5 : Int)] 3)) = w6 at *
          have H6 := Lib.hid hrow6
          have H7 := Lib.hid hrow7
          have HB6 := Lib.hid hb6
          have HD6 := Lib.hid hd6
          clear hrow6 hrow7 hb6 hd6 HB5 HD5 HROW5
          obtain ⟨wo, hwo⟩ : ∃ wo, wo = wr := ⟨wr, rfl⟩
          subst hwo
          go_loopw [78] (fun i wr => ∃ j : Nat, j ≤ 3 ∧ i = .int .i64 j ∧ Dc wr d ∧ Below d w wr ∧ IsRow wr B 4 g ∧ IsRow wr C 3 g' ∧ C < wr.heap.size) (fun i _ => 3 - (intOf i).toNat)
          case atStart => exact ⟨0, by omega, rfl, HD6.out, HB6.out, H7.out, H6.out, hs6⟩
          case round =>
            clear H6 H7 HB6 HD6
            obtain ⟨j, hj, rfl, hd, hb, hrow, hrow', hsz'⟩ := hrel
            have HDC := Lib.hid hd
            have HB := Lib.hid hb
            have HROW := Lib.hid hrow
            have HROW' := Lib.hid hrow'
            have HWk := Lib.hid (HW.out.below (show Below w.heap.size w wr by rw [HD.out]; exact hb))
            by_cases hl3 : j < 3
            · have cj := hrow' j hl3
              obtain ⟨z, hz'⟩ : ∃ z, g' j = z := ⟨_, rfl⟩
              rw [hz'] at cj
              have j0 : (0 : Int) ≤ (j : Int) := by omega
              have j1 : (j : Int) < 3 := by omega
              have hrm := fun W => r_MemberG y z W
              have hhm := h_MemberG y z _ HWk.out HIR.out
              generalize memI y z = bM at *
              clear hd hb hrow hrow' hz'
              go_wp2_with fail
              refine hhm.mono ?_
              rintro e' w8 ⟨rfl, hb8⟩
              have HB8 := Lib.hid hb8
              clear hb8 cj hhm
              go_wp2_with fail
              refine (hrm _).mono ?_
              rintro e' w' ⟨rfl, rfl⟩
              clear hrm
              have hs8 := HB8.out.size
              go_wp2_with fail
              go_roundw
              case measure => simp [intOf]; omega
              case rel => exact ⟨j + 1, by omega, by go_num, HDC.out.below HB8.out HDC.out.lt, HB.out.trans (HB8.out.mono (Nat.le_of_lt HDC.out.lt)), HROW.out.keep (HB8.out.block B (by omega)), HROW'.out.keep (HB8.out.block C hsz'), by omega⟩
            · have hj3 : j = 3 := by omega
              subst hj3
              clear hd hb hrow hrow'
              go_wp2_with fail
              go_roundw
              case measure => simp [intOf]; omega
              case rel => exact ⟨k + 1, by omega, by go_num, HDC.out, HB.out, HROW.out, by omega⟩
        · have hk4 : k = 4 := by omega
          subst hk4
          clear hd hb hrow HROW HGR
          go_wp2_with fail
          refine (l_element d q _ HDC.out (by omega) q4).mono ?_
          rintro e' w5 ⟨a, ha1, rfl, hd5, hg5⟩
          go_wp2_with fail
          refine (l_element d q _ hd5 (by omega) q4).mono ?_
          rintro e' w6 ⟨b, hb1, rfl, hd6, hg6⟩
          go_wp2_with fail
          refine (k_Next d 100 _ hd6 (by omega) (by omega)).mono ?_
          rintro e' w7 ⟨r7, hr7, rfl, hd7, hg7⟩
          go_wp2_with fail
          refine (k_Next d 100 _ hd7 (by omega) (by omega)).mono ?_
          rintro e' w8 ⟨r8, hr8, rfl, hd8, hg8⟩
          have hb8 : Below d w w8 := HB.out.grown (gb_trans (gb_trans (gb_trans hg5 hg6) hg7) hg8) (Nat.le_of_lt HDC.out.lt) (fun k hk => by injection hk; omega)
          have hd8l := hd8.lt
          have HB8 := Lib.hid hb8
          clear hd5 hg5 hd6 hg6 hd7 hg7 hd8 hg8 hb8 HDC HB HWk
          go_wp2_with fail
          obtain ⟨C, hC⟩ : ∃ C, w8.heap.size = C := ⟨_, rfl⟩
          have hrow6 : IsRow (w8.alloc (.cells #[.int .i64 e, .int .i64 (r7 : Int), .int .i64 (-(r8 : Int)), .int .i64 (q : Int), .int .i64 0, .int .i64 (-9223372036854775808)] 3)) w8.heap.size 6 (g6 e r7 (-(r8 : Int)) q 0 (-9223372036854775808)) := by
            intro i hi
            rw [World.cell?_alloc_new]
            rcases (show i = 0 ∨ i = 1 ∨ i = 2 ∨ i = 3 ∨ i = 4 ∨ i = 5 by omega) with rfl | rfl | rfl | rfl | rfl | rfl <;> rfl
          have hb6 : Below d w (w8.alloc (.cells #[.int .i64 e, .int .i64 (r7 : Int), .int .i64 (-(r8 : Int)), .int .i64 (q : Int), .int .i64 0, .int .i64 (-9223372036854775808)] 3)) := HB8.out.alloc (by omega) _
          have hs6 : C < (w8.alloc (.cells #[.int .i64 e, .int .i64 (r7 : Int), .int .i64 (-(r8 : Int)), .int .i64 (q : Int), .int .i64 0, .int .i64 (-9223372036854775808)] 3)).heap.size := by simp [hC]
          rw [hC] at hrow6
          rw [hC]
          generalize g6 e r7 (-(r8 : Int)) q 0 (-9223372036854775808) = g' at *
          generalize (w8.alloc (.cells #[.int .i64 e, .int .i64 (r7 : Int), .int .i64 (-(r8 : Int)), .int .i64 (q : Int), .int .i64 0, .int .i64 (-9223372036854775808)] 3)) = w9 at *
          have H6 := Lib.hid hrow6
          have HB9 := Lib.hid hb6
          clear hrow6 hb6 HB8
          obtain ⟨wo, hwo⟩ : ∃ wo, wo = wr := ⟨wr, rfl⟩
          subst hwo
          go_loopw [106] (fun i wr => ∃ j : Nat, j ≤ 6 ∧ i = .int .i64 j ∧ Below d w wr ∧ IsRow wr C 6 g' ∧ C < wr.heap.size) (fun i _ => 6 - (intOf i).toNat)
          case atStart => exact ⟨0, by omega, rfl, HB9.out, H6.out, hs6⟩
          case round =>
            clear H6 HB9
            obtain ⟨j, hj, rfl, hb, hrow', hsz'⟩ := hrel
            have HB := Lib.hid hb
            have HROW' := Lib.hid hrow'
            by_cases hl3 : j < 6
            · have cj := hrow' j hl3
              obtain ⟨z, hz'⟩ : ∃ z, g' j = z := ⟨_, rfl⟩
              rw [hz'] at cj
              have j0 : (0 : Int) ≤ (j : Int) := by omega
              have j1 : (j : Int) < 6 := by omega
              have hrm := fun W => r_PowerG q a z W (by omega) q4 (by omega)
              have hhm := fun W => h_Power q a z W (by omega) q4 (by omega)
              unfold IPost at hrm
              generalize ((pw (2 * q + 1) a (z % (q : Int)).toNat : Nat) : Int) = Z at *
              have HRM := Lib.hid hrm
              clear hb hrow' hz' hrm
              go_wp2_with fail
              refine (hhm _).mono ?_
              rintro e' w10 ⟨rfl, hb8⟩
              have HB8 := Lib.hid hb8
              clear hb8 cj hhm
              go_wp2_with fail
              refine (HRM.out _).mono ?_
              rintro e' w' ⟨rfl, rfl⟩
              have hs8 := HB8.out.size
              have hdw : d ≤ wr.heap.size := by omega
              go_wp2_with fail
              go_roundw
              case measure => simp [intOf]; omega
              case rel => exact ⟨j + 1, by omega, by go_num, HB.out.trans (HB8.out.mono hdw), HROW'.out.keep (HB8.out.block C hsz'), by omega⟩
            · have hj3 : j = 6 := by omega
              subst hj3
              clear hb hrow'
              have ht := fun W => h_Times q a b W q4 (by omega) (by omega)
              have ht' := fun W => r_TimesG q a b W q4 (by omega) (by omega)
              have hi1 := fun W => h_Invert q a W (by omega) q4 (by omega)
              have hi2 := fun W => r_InvertG q a W (by omega) q4 (by omega)
              have hq1 := fun W => h_Square q text W (by omega) q4 (by omega)
              have hq2 := fun W => r_Square q text W (by omega) q4 (by omega)
              unfold IPost at ht' hi2
              generalize ((a * b % (2 * q + 1) : Nat) : Int) = T at *
              generalize ((pw (2 * q + 1) a (q - 1) : Nat) : Int) = I at *
              generalize (((2 + (numB (shaOf text) 7).toNat % (2 * q - 2)) * (2 + (numB (shaOf text) 7).toNat % (2 * q - 2)) % (2 * q + 1) : Nat) : Int) = Q at *
              have HT' := Lib.hid ht'
              have HI1 := Lib.hid hi1
              have HI2 := Lib.hid hi2
              have HQ1 := Lib.hid hq1
              have HQ2 := Lib.hid hq2
              have hdw : d ≤ wr.heap.size := HD.out ▸ HB.out.size
              clear ht' hi1 hi2 hq1 hq2
              go_wp2_with fail
              refine (ht _).mono ?_
              rintro e' w' ⟨rfl, rfl⟩
              clear ht
              go_wp2_with fail
              refine (HT'.out _).mono ?_
              rintro e' w' ⟨rfl, rfl⟩
              go_wp2_with fail
              refine (HI1.out _).mono ?_
              rintro e' x1 ⟨rfl, hx1⟩
              have HX1 := Lib.hid (HB.out.trans (hx1.mono hdw))
              have s1 := hx1.size
              clear hx1
              go_wp2_with fail
              refine (HI2.out _).mono ?_
              rintro e' w' ⟨rfl, rfl⟩
              go_wp2_with fail
              refine (HQ1.out _).mono ?_
              rintro e' x2 ⟨rfl, hx2⟩
              have HX2 := Lib.hid (HX1.out.trans (hx2.mono (by omega)))
              have s2 := hx2.size
              clear hx2
              go_wp2_with fail
              refine (HQ2.out _).mono ?_
              rintro e' x3 ⟨rfl, hx3⟩
              have HX3 := Lib.hid (HX2.out.trans (hx3.mono (by omega)))
              have s3 := hx3.size
              clear hx3
              go_wp2_with fail
              refine (l_awake _ (HW.out.below (show Below w.heap.size w x3 by rw [HD.out]; exact HX3.out))).mono ?_
              rintro e' x4 ⟨rfl, hx4⟩
              have HX4 := Lib.hid (HX3.out.trans (hx4.mono (by omega)))
              clear hx4
              go_wp2_with fail
              go_ret
              exact ⟨rfl, by rw [HD.out]; exact HX4.out⟩
    · exact other (.inr ⟨t1, decide_eq_true (by omega)⟩)
  · exact other (.inl (decide_eq_false (by omega)))
end Go.Proofs.YtmneokkdkgflkaaDoor

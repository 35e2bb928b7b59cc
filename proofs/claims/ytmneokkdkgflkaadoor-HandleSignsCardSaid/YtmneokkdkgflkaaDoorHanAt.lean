/- Contracts: what parts give together. -/
import Derived.Test.YtmneokkdkgflkaaDoorPolV
import Derived.Test.YtmneokkdkgflkaaDoorHanSgn
set_option linter.unusedVariables false
set_option linter.unusedSimpArgs false
namespace Go.Proofs.YtmneokkdkgflkaaDoor
open Go.RowKit Num

def hsOf (L : List Sh) : List Int := L.map (·.1)
def vOf (L : List Sh) (k : Nat) : Nat := ((shAt L k).2.getD 0 0).toNat
/-- The product of parts to the powers of their weights. -/
def hAt (p : Nat) (L : List Sh) (x : Int) : Nat → Nat
  | 0 => 1
  | k + 1 => hAt p L x k * pw (2 * p + 1) (vOf L k) (wt p (fOf (hsOf L)) L.length k x).toNat % (2 * p + 1)
theorem hAt_lt (p : Nat) (L : List Sh) (x : Int) (hp : 1 ≤ p) : ∀ k, hAt p L x k < 2 * p + 1 := by
  intro k
  cases k with
  | zero => show 1 < _; omega
  | succ k => exact Nat.mod_lt _ (by omega)
theorem wt_bd (p : Nat) (xs : Nat → Int) (n i : Nat) (x : Int) (hp : 1 ≤ p) : 0 ≤ wt p xs n i x ∧ wt p xs n i x < p :=
  ⟨Int.emod_nonneg _ (by omega), Int.emod_lt_of_pos _ (by omega)⟩
theorem hsOf_get (L : List Sh) (k : Nat) (h : k < L.length) : fOf (hsOf L) k = (shAt L k).1 := by
  unfold fOf hsOf shAt
  rw [List.getD_eq_getElem?_getD, List.getElem?_map, List.getD_eq_getElem?_getD, List.getElem?_eq_getElem h]; rfl
/-- Shares that may be parts: holders of the plan, each once, one value each, below the modulus. -/
structure PartsOk (p hold : Nat) (L : List Sh) : Prop where
  holder : ∀ k, k < L.length → 1 ≤ (shAt L k).1 ∧ (shAt L k).1 ≤ hold
  once : ∀ i j, i < L.length → j < L.length → i ≠ j → (shAt L i).1 ≠ (shAt L j).1
  one : ∀ k, k < L.length → (shAt L k).2.length = 1
  grp : ∀ k, k < L.length → inG p (2 * p + 1) ((shAt L k).2.getD 0 0) = true
theorem inG_bd {p m : Nat} {x : Int} (h : inG p m x = true) : 0 < x ∧ x < m := by
  simp only [inG, decide_eq_true_eq] at h; exact ⟨h.1, h.2.1⟩
theorem PartsOk.apart {p hold : Nat} {L : List Sh} (h : PartsOk p hold L) (hp : hold < p) : ApartN p (fOf (hsOf L)) (hsOf L).length := by
  intro i j hi hj hne hd
  have hl : (hsOf L).length = L.length := by simp [hsOf]
  rw [hl] at hi hj
  rw [hsOf_get L i hi, hsOf_get L j hj] at hd
  have h1 := h.holder i hi
  have h2 := h.holder j hj
  have h3 := h.once i j hi hj hne
  obtain ⟨c, hc⟩ := hd
  rcases Int.lt_trichotomy c 0 with hc0 | hc0 | hc0
  · have : (p : Int) * c ≤ (p : Int) * (-1) := Int.mul_le_mul_of_nonneg_left (by omega) (by omega)
    omega
  · subst hc0; omega
  · have : (p : Int) * 1 ≤ (p : Int) * c := Int.mul_le_mul_of_nonneg_left (by omega) (by omega)
    omega
theorem h_tmE (p a b z : Nat) (w : World) (h2 : p ≤ 1073741823) (ha : a < 2147483648) (hb : b < 2147483648) (hz : z = a * b % (2 * p + 1)) :
    Calls Tryd.prog 54 #[.int .i64 (2 * (p : Int) + 1), .int .i64 (a : Int), .int .i64 (b : Int)] w (IntBelow (z : Int) w) := by
  subst hz; exact h_tmI p a b w h2 ha hb
set_option maxRecDepth 100000 in
set_option maxHeartbeats 4000000 in
theorem h_at (p hold : Nat) (v : Value) (L : List Sh) (S : Nat → Prop) (x : Int) (w : World) (hp : Prm p) (h2 : p ≤ 1073741823) (hv : ShAt w S v L) (hS : ∀ b, S b → b < w.heap.size) (h0 : 0 < L.length) (hl : L.length ≤ 16)
    (hx0 : 0 ≤ x) (hx1 : x < 2147483648) (ho : PartsOk p hold L) (hh : hold < p) :
    Calls Tryd.prog 72 #[.agg #[.int .i64 (p : Int), .int .i64 (2 * (p : Int) + 1)], v, .int .i64 x] w (IntBelow (hAt p L x L.length : Int) w) := by
  have hp2 := hp.1
  have hap := ho.apart hh
  have hll : (hsOf L).length = L.length := by simp [hsOf]
  have hxs : ∀ k, k < (hsOf L).length → 0 ≤ fOf (hsOf L) k ∧ fOf (hsOf L) k < 2147483648 := fun k hk => by
    rw [hll] at hk
    rw [hsOf_get L k hk]
    have := ho.holder k hk; omega
  obtain ⟨A, n, c, rfl, hn, hnc, hc⟩ := id hv
  have hn1 : n ≤ 16 := by omega
  have HV := Lib.hid hv
  have HN := Lib.hid hn
  have HAP := Lib.hid hap
  have HXS := Lib.hid hxs
  have HO := Lib.hid ho
  have HLL := Lib.hid hll
  clear hv hn hap hxs ho hll
  go_enter Tryd.func72, Tryd.ntmps72
  go_wp2_with fail
  have hbk0 : Blk (w.alloc (.cells #[.int .i64 (p : Int), .int .i64 (2 * (p : Int) + 1)] 78)) w.heap.size 78 #[.int .i64 (p : Int), .int .i64 (2 * (p : Int) + 1)] := Blk.new _ _ _
  have hb0 : Below w.heap.size w (w.alloc (.cells #[.int .i64 (p : Int), .int .i64 (2 * (p : Int) + 1)] 78)) := (Below.refl _ _).alloc (Nat.le_refl _) _
  have hlt0 : w.heap.size < (w.alloc (.cells #[.int .i64 (p : Int), .int .i64 (2 * (p : Int) + 1)] 78)).heap.size := by simp
  generalize (w.alloc (.cells #[.int .i64 (p : Int), .int .i64 (2 * (p : Int) + 1)] 78)) = w0 at *
  have c0 : w0.cell? ⟨w.heap.size, 0, none⟩ = some (.int .i64 (p : Int)) := hbk0.cell 0
  have hsv : ShAt w0.drew S (.slice A n c) L := HV.out.keep fun b hb => (hb0.drew).block b (hS b hb)
  have HSV := Lib.hid hsv
  have HBK0 := Lib.hid hbk0
  clear hsv hbk0
  have c1 : w0.cell? ⟨w.heap.size, 1, none⟩ = some (.int .i64 (2 * (p : Int) + 1)) := HBK0.out.cell 1
  go_region_held3 (fun w' => w'.cell? ⟨w.heap.size, 0, none⟩ = some (.int .i64 (p : Int)) ∧ w'.cell? ⟨w.heap.size, 1, none⟩ = some (.int .i64 (2 * (p : Int) + 1)) ∧ Below w.heap.size w w' ∧ w.heap.size < w'.heap.size)
    (first
      | exact ⟨c0, c1, hb0.drew, hlt0⟩
      | (go_split_ands
         refine ⟨?_, ?_, ?_, ?_⟩
         · (rw [hbk.cell (by simp; omega)]; assumption)
         · (rw [hbk.cell (by simp; omega)]; assumption)
         · exact Below.trans ‹Below w.heap.size w _› (hbk.mono (by omega))
         · (have := hbk.size; omega)))
    (first
      | (go_at_call 92; ((with_reducible refine (s_Holders _ L S _ HSV.out (fun b hb => by have := hS b hb; have := hb0.size; simp; omega) (by omega)).mono ?_); rintro e wk ⟨vh, rfl, hvh, hbk⟩))
      | (go_at_call 91; ((with_reducible refine (p_Weights p vh (hsOf L) _ x _ hp (by omega) hvh (fun b hb => hb.2) (by rw [HLL.out]; exact h0) (by rw [HLL.out]; omega) hx0 hx1 HXS.out HAP.out).mono ?_); rintro e wk ⟨vw, rfl, hvw, hbk⟩)))
  go_split_ands
  have d0 : wk.cell? ⟨w.heap.size, 0, none⟩ = some (.int .i64 (p : Int)) := by assumption
  have d1 : wk.cell? ⟨w.heap.size, 1, none⟩ = some (.int .i64 (2 * (p : Int) + 1)) := by assumption
  have hbz : Below w.heap.size w wk := by assumption
  have hzz : w.heap.size < wk.heap.size := by assumption
  have hsz : ShAt wk S (.slice A n c) L := HV.out.keep fun b hb => hbz.block b (hS b hb)
  have HBZ := Lib.hid hbz
  have HSZ := Lib.hid hsz
  have HVW := Lib.hid hvw
  clear hbz hsz hvw c0 c1 hvh
  go_wp2_with fail
  generalize wk = wz at *
  clear hbk
  go_loopw [9, 23] (fun o t wr => ∃ k : Nat, k ≤ n ∧ t = .int .i64 k ∧ o = .int .i64 (hAt p L x k : Int) ∧ Below wz.heap.size wz wr) (fun _ t _ => n - (intOf t).toNat)
  case atStart => exact ⟨0, by omega, rfl, rfl, Below.refl _ _⟩
  case round =>
    obtain ⟨k, hk, rfl, rfl, hbl⟩ := hrel
    have hsr := hbl.size
    by_cases hlt : k < n
    · have hkl : k < L.length := by have := HN.out; omega
      obtain ⟨A1, n1, c1, hv1, e1, e2, hcs⟩ := HSZ.out
      injection hv1 with v1 v2 v3
      subst v1 v2 v3
      obtain ⟨b, off, rfl, hSb, hcell⟩ := hcs (by omega)
      obtain ⟨u, m0, m1, hu⟩ := hcell k hlt
      obtain ⟨Au, nu, cu, rfl, f1, f2, f3⟩ := hu
      have hone := HO.out.one k hkl
      obtain ⟨bu, offu, rfl, hSu, hcu⟩ := f3 (by omega)
      have m2 := hcu 0 (by omega)
      have hgy := HO.out.grp k hkl
      have hby := inG_bd hgy
      have hvo : ((vOf L k : Nat) : Int) = (shAt L k).2.getD 0 0 := by unfold vOf; omega
      rw [← hvo] at m2 hby
      rw [Nat.add_zero] at m2
      obtain ⟨Aw, nw, cw, rfl, g1, g2, g3⟩ := HVW.out
      have hwl : nw = n := by rw [g1, HN.out]; simp [wts, hsOf]
      subst hwl
      obtain ⟨bw, offw, rfl, hSw, hcw⟩ := g3 (by omega)
      have m3 := hcw k hlt
      have hwg := wts_get p (hsOf L) x k (by rw [HLL.out]; exact hkl)
      rw [hwg, HLL.out] at m3
      have hwb := wt_bd p (fOf (hsOf L)) L.length k x (by omega)
      have est : hAt p L x (k + 1) = hAt p L x k * pw (2 * p + 1) (vOf L k) (wt p (fOf (hsOf L)) L.length k x).toNat % (2 * p + 1) := rfl
      have hob := hAt_lt p L x (by omega) k
      have EST := Lib.hid est
      obtain ⟨W, hW⟩ : ∃ W, wt p (fOf (hsOf L)) L.length k x = W := ⟨_, rfl⟩
      have EST2 := EST.out
      rw [hW] at m3 hwb EST2
      obtain ⟨y, hy⟩ : ∃ y, vOf L k = y := ⟨_, rfl⟩
      rw [hy] at m2 hby EST2
      obtain ⟨o, hoo⟩ : ∃ o, hAt p L x k = o := ⟨_, rfl⟩
      rw [hoo] at hob EST2 ⊢
      have EST3 := Lib.hid EST2
      have bb : b < w.heap.size := hS b hSb
      have bbu : bu < w.heap.size := hS bu hSu
      have bbw : bw < wz.heap.size := hSw.2
      have hpq := pw_lt (m := 2 * p + 1) (by omega) y W.toNat
      have r0 : wr.cell? ⟨b, off + k * 2, none⟩ = some (.int .i64 (shAt L k).1) := (hbl.cell (p := ⟨b, off + k * 2, none⟩) (show b < _ by omega)).trans m0
      have r1 : wr.cell? ⟨b, off + k * 2 + 1, none⟩ = some (.slice (some ⟨bu, offu, none⟩) nu cu) := (hbl.cell (p := ⟨b, off + k * 2 + 1, none⟩) (show b < _ by omega)).trans m1
      have r2 : wr.cell? ⟨bu, offu, none⟩ = some (.int .i64 (y : Int)) := (hbl.cell (p := ⟨bu, offu, none⟩) (show bu < _ by omega)).trans m2
      have r3 : wr.cell? ⟨bw, offw + k, none⟩ = some (.int .i64 W) := (hbl.cell (p := ⟨bw, offw + k, none⟩) (show bw < _ by omega)).trans m3
      have r4 : wr.cell? ⟨w.heap.size, 0, none⟩ = some (.int .i64 (p : Int)) := (hbl.cell (p := ⟨w.heap.size, 0, none⟩) (show w.heap.size < _ by omega)).trans d0
      have r5 : wr.cell? ⟨w.heap.size, 1, none⟩ = some (.int .i64 (2 * (p : Int) + 1)) := (hbl.cell (p := ⟨w.heap.size, 1, none⟩) (show w.heap.size < _ by omega)).trans d1
      have z1 : b < wr.heap.size := by omega
      have z2 : bu < wr.heap.size := by omega
      have z3 : bw < wr.heap.size := by omega
      have z4 : w.heap.size < wr.heap.size := by omega
      have qk : (k : Int) < (nw : Int) := by omega
      have hnu : nu = 1 := by omega
      subst hnu
      have HBL := Lib.hid hbl
      clear hcell hcu hcw m0 m1 m2 m3 g1 g2 f1 f2 hwg est EST EST2 hvo hgy hone hbl hoo hy hW hcs hc e1 e2 g3 f3
      go_wp2_with fail
      have ha : Below wr.heap.size wr (wr.alloc (.cells #[.int .i64 (shAt L k).1, .slice (some ⟨bu, offu, none⟩) 1 cu] 63)) := (Below.refl _ _).alloc (Nat.le_refl _) _
      have t0 : (wr.alloc (.cells #[.int .i64 (shAt L k).1, .slice (some ⟨bu, offu, none⟩) 1 cu] 63)).cell? ⟨wr.heap.size, 1, none⟩ = some (.slice (some ⟨bu, offu, none⟩) 1 cu) := by rw [World.cell?_alloc_new]; rfl
      have t2 := (ha.cell (p := ⟨bu, offu, none⟩) z2).trans r2
      have t3 := (ha.cell (p := ⟨bw, offw + k, none⟩) z3).trans r3
      have t4 := (ha.cell (p := ⟨w.heap.size, 0, none⟩) z4).trans r4
      have t5 := (ha.cell (p := ⟨w.heap.size, 1, none⟩) z4).trans r5
      have hsa : wr.heap.size < (wr.alloc (.cells #[.int .i64 (shAt L k).1, .slice (some ⟨bu, offu, none⟩) 1 cu] 63)).heap.size := by simp
      have hba := HBL.out.trans (ha.mono hsr)
      generalize (wr.alloc (.cells #[.int .i64 (shAt L k).1, .slice (some ⟨bu, offu, none⟩) 1 cu] 63)) = W1 at *
      clear r0 r1 r2 r3 r4 r5 ha d0 d1
      go_region_held3 (fun w' => w'.cell? ⟨wr.heap.size, 1, none⟩ = some (.slice (some ⟨bu, offu, none⟩) 1 cu) ∧ w'.cell? ⟨bu, offu, none⟩ = some (.int .i64 (y : Int)) ∧ w'.cell? ⟨bw, offw + k, none⟩ = some (.int .i64 W) ∧ w'.cell? ⟨w.heap.size, 0, none⟩ = some (.int .i64 (p : Int)) ∧ w'.cell? ⟨w.heap.size, 1, none⟩ = some (.int .i64 (2 * (p : Int) + 1)) ∧ Below wz.heap.size wz w' ∧ wr.heap.size < w'.heap.size)
        (first
          | exact ⟨t0, t2, t3, t4, t5, hba.drew, hsa⟩
          | (go_split_ands
             refine ⟨?_, ?_, ?_, ?_, ?_, ?_, ?_⟩
             · (rw [hbk.cell (by simp; omega)]; assumption)
             · (rw [hbk.cell (by simp; omega)]; assumption)
             · (rw [hbk.cell (by simp; omega)]; assumption)
             · (rw [hbk.cell (by simp; omega)]; assumption)
             · (rw [hbk.cell (by simp; omega)]; assumption)
             · exact Below.trans ‹Below wz.heap.size wz _› (hbk.mono (by omega))
             · (have := hbk.size; omega)))
        (first
          | (go_at_call 51; ((with_reducible refine (h_gpI p y W _ (by omega) h2 (by omega) (by omega) (by omega)).mono ?_); rintro e wk ⟨rfl, hbk⟩))
          | (go_at_call 54; ((with_reducible refine (h_tmE p o (pw (2 * p + 1) y W.toNat) (hAt p L x (k + 1)) _ h2 (by omega) (by omega) EST3.out).mono ?_); rintro e wk ⟨rfl, hbk⟩)))
      all_goals
        go_split_ands
        have hbf : Below wz.heap.size wz wk := by assumption
        clear t0 t2 t3 t4 t5
        go_wp2_with fail
        go_roundw
        case measure => simp [intOf]; omega
        case rel => exact ⟨k + 1, by omega, by go_num, rfl, hbf⟩
    · have hkn : k = n := by omega
      subst hkn
      go_wp2_with fail
      go_ret
      exact ⟨by rw [← HN.out]; rfl, HBZ.out.trans (hbl.mono (by omega))⟩
end Go.Proofs.YtmneokkdkgflkaaDoor

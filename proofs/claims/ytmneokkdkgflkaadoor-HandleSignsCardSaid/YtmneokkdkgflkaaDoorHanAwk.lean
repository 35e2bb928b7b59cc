/- The sanity check of the chapter. -/
import Derived.Test.YtmneokkdkgflkaaDoorHanOf2
set_option linter.unusedVariables false
set_option linter.unusedSimpArgs false
namespace Go.Proofs.YtmneokkdkgflkaaDoor
open Go.RowKit Num

theorem s11 : SPrm 11 := safe_sprm (.inl rfl)
/-- The shares of 5 with 2. -/
def L11 : List Sh := [(1, [7]), (2, [9]), (3, [0])]
theorem deal11 : dealL 11 1 [5] [2] 3 = L11 := by decide
theorem key11 : KeyOk 11 3 L11 := by
  refine ⟨fun k hk => ?_, fun i j hi hj hne => ?_, fun k hk => ?_, fun k hk => ?_⟩
  · have : k = 0 ∨ k = 1 ∨ k = 2 := by simp [L11] at hk; omega
    rcases this with rfl | rfl | rfl <;> decide
  · have : i = 0 ∨ i = 1 ∨ i = 2 := by simp [L11] at hi; omega
    have h2 : j = 0 ∨ j = 1 ∨ j = 2 := by simp [L11] at hj; omega
    rcases this with rfl | rfl | rfl <;> rcases h2 with rfl | rfl | rfl <;> first | exact absurd rfl hne | decide
  · have : k = 0 ∨ k = 1 ∨ k = 2 := by simp [L11] at hk; omega
    rcases this with rfl | rfl | rfl <;> rfl
  · have : k = 0 ∨ k = 1 ∨ k = 2 := by simp [L11] at hk; omega
    rcases this with rfl | rfl | rfl <;> decide
theorem inF_one {p : Nat} {x : Int} (h : 0 ≤ x) (h' : x < p) : InF p [x] := by
  intro k hk
  have hk0 : k = 0 := by simp at hk; omega
  subst hk0
  exact ⟨h, h'⟩
theorem ints_one (w : World) (x : Int) : IntsAt (w.alloc (.cells #[.int .i64 x] 3)) (fun b => b = w.heap.size) (.slice (some ⟨w.heap.size, 0, none⟩) 1 1) [x] := by
  refine ⟨_, 1, 1, rfl, rfl, Nat.le_refl _, fun _ => ⟨_, 0, rfl, rfl, fun k hk => ?_⟩⟩
  have hk0 : k = 0 := by omega
  subst hk0
  rw [World.cell?_alloc_new]; rfl
theorem w0_11 : wt 11 (fOf (hsOf (((ptL 11 0 L11).take 2)))) 2 0 0 = 2 := by decide
theorem w1_11 : wt 11 (fOf (hsOf (((ptL 11 0 L11).take 2)))) 2 1 0 = 10 := by decide
theorem hs_any (x : Nat) : hsOf ((ptL 11 x L11).take 2) = [1, 2] := rfl
/-- What the parts of the example give together: the fifth power. -/
theorem at11 (x : Nat) (hx : inG 11 23 (x : Int) = true) : hAt 11 ((ptL 11 x L11).take 2) 0 2 = pw 23 x 5 := by
  have e0 : wt 11 (fOf (hsOf ((ptL 11 x L11).take 2))) 2 0 0 = 2 := by rw [hs_any]; decide
  have e1 : wt 11 (fOf (hsOf ((ptL 11 x L11).take 2))) 2 1 0 = 10 := by rw [hs_any]; decide
  have hl : ((ptL 11 x L11).take 2).length = 2 := rfl
  have v0 : vOf ((ptL 11 x L11).take 2) 0 = pw 23 x 7 := by unfold vOf; exact Int.toNat_natCast _
  have v1 : vOf ((ptL 11 x L11).take 2) 1 = pw 23 x 9 := by unfold vOf; exact Int.toNat_natCast _
  have h : hAt 11 ((ptL 11 x L11).take 2) 0 2 = (1 * pw 23 (vOf ((ptL 11 x L11).take 2) 0) (wt 11 (fOf (hsOf ((ptL 11 x L11).take 2))) ((ptL 11 x L11).take 2).length 0 0).toNat % 23) * pw 23 (vOf ((ptL 11 x L11).take 2) 1) (wt 11 (fOf (hsOf ((ptL 11 x L11).take 2))) ((ptL 11 x L11).take 2).length 1 0).toNat % 23 := rfl
  rw [h, hl, e0, e1, v0, v1, Nat.one_mul]
  show pw 23 (pw 23 x 7) 2 % 23 * pw 23 (pw 23 x 9) 10 % 23 = pw 23 x 5
  rw [Nat.mod_eq_of_lt (pw_lt (by decide) _ _), pw_pw, pw_pw, pw_add]
  simp only [inG, decide_eq_true_eq, Int.toNat_natCast] at hx
  have := pw_mod_exp (m := 23) (g := x) (p := 11) (by decide) hx.2.2 (7 * 2 + 9 * 10)
  rw [← this]

set_option maxRecDepth 100000 in
set_option maxHeartbeats 2000000 in
theorem l_awake (w : World) (hw : BasesOk w) : Calls Tryd.prog 10 #[] w (BoolBelow true w) := by
  have HW := Lib.hid hw
  have hmod := h_Modulus 11 w hw s11
  clear hw
  go_enter Tryd.func10, Tryd.ntmps10
  go_wp2_with fail
  refine hmod.mono ?_
  rintro e w' ⟨rfl, rfl⟩
  clear hmod
  go_wp2_with fail
  have i5 : IntsAt ((w.alloc (.cells #[.int .i64 5] 3)).alloc (.cells #[.int .i64 2] 3)) (Old ((w.alloc (.cells #[.int .i64 5] 3)).alloc (.cells #[.int .i64 2] 3))) (.slice (some ⟨w.heap.size, 0, none⟩) 1 1) [5] :=
    ((ints_one w 5).keep fun b hb => Below.heap_alloc _ _ _ (by subst hb; simp)).mono fun b hb => by subst hb; unfold Old; simp; omega
  have i2 : IntsAt ((w.alloc (.cells #[.int .i64 5] 3)).alloc (.cells #[.int .i64 2] 3)) (Old ((w.alloc (.cells #[.int .i64 5] 3)).alloc (.cells #[.int .i64 2] 3))) (.slice (some ⟨w.heap.size + 1, 0, none⟩) 1 1) [2] := by
    have := (ints_one (w.alloc (.cells #[.int .i64 5] 3)) 2).mono (T := Old ((w.alloc (.cells #[.int .i64 5] 3)).alloc (.cells #[.int .i64 2] 3))) fun b hb => by subst hb; unfold Old; simp
    rwa [show (w.alloc (.cells #[.int .i64 5] 3)).heap.size = w.heap.size + 1 by simp] at this
  have hdl := r_Deal 11 1 3 [5] [2] (.slice (some ⟨w.heap.size, 0, none⟩) 1 1) (.slice (some ⟨w.heap.size + 1, 0, none⟩) 1 1) ((w.alloc (.cells #[.int .i64 5] 3)).alloc (.cells #[.int .i64 2] 3)) s11.1 (by decide) (by decide) (by decide) (by decide) i5 i2 (inF_one (by decide) (by decide)) (inF_one (by decide) (by decide)) (by decide) rfl
  have HDL := Lib.hid hdl
  clear hdl i5 i2
  refine (HDL.out).mono ?_
  rintro e w1 ⟨v, rfl, hv, hb1⟩
  have hbw : Below w.heap.size w w1 := (((Below.refl _ _).alloc (Nat.le_refl _) _).alloc (by simp) _).trans (hb1.mono (by simp; omega))
  rw [deal11] at hv
  have hsh := hv.at_
  have hbo := HW.out.below hbw
  have hof := h_Of 11 2 3 ⟨#[114, 111, 98, 101, 114, 116]⟩ v L11 _ w1 hbo s11 (by decide) (by decide) (by decide) (by decide) (by decide) hsh (fun b hb => hb.2) (by decide) (by decide) key11
  have hat := at11 (sqN 11 ⟨#[114, 111, 98, 101, 114, 116]⟩) (sqN_grp s11 _)
  rw [hat] at hof
  have hsq := h_SquareN 11 ⟨#[114, 111, 98, 101, 114, 116]⟩
  have hlt := sqN_lt 11 ⟨#[114, 111, 98, 101, 114, 116]⟩
  obtain ⟨x, hx⟩ : ∃ x, sqN 11 ⟨#[114, 111, 98, 101, 114, 116]⟩ = x := ⟨_, rfl⟩
  rw [hx] at hof hsq hlt
  have s1 := hbw.size
  have HOF := Lib.hid hof
  have HSQ := Lib.hid hsq
  have HBW := Lib.hid hbw
  clear hof hsq hbw hsh hbo hv hat hx hb1 HDL
  obtain ⟨z, hz⟩ : ∃ z, pw 23 x 5 = z := ⟨_, rfl⟩
  have hpow : ∀ W, Calls Tryd.prog 19 #[.int .i64 11, .int .i64 (x : Int), .int .i64 5] W (IntBelow (z : Int) W) := fun W => by
    rw [← hz]; exact h_Power 11 x 5 W (by decide) (by decide) (by omega)
  have HOF2 := HOF.out
  rw [hz] at HOF2
  have HOF3 := Lib.hid HOF2
  have HPW := Lib.hid hpow
  clear HOF HOF2 hpow hz
  go_wp2_with fail
  refine HOF3.out.mono ?_
  rintro e w2 ⟨rfl, hb2⟩
  have s2 := hb2.size
  go_wp2_with fail
  refine (h_Times 11 4 4 _ (by decide) (by decide) (by decide)).mono ?_
  rintro e w' ⟨rfl, rfl⟩
  go_wp2_with fail
  refine (HSQ.out _ (by decide) (by decide) (by decide)).mono ?_
  rintro e w3 ⟨rfl, hb3⟩
  have s3 := hb3.size
  go_wp2_with fail
  refine (HPW.out _).mono ?_
  rintro e w4 ⟨rfl, hb4⟩
  go_wp2_with fail
  go_ret
  refine ⟨ret_bool ?_, ((HBW.out.trans (hb2.mono s1)).trans (hb3.mono (by omega))).trans (hb4.mono (by omega))⟩
  simp
end Go.Proofs.YtmneokkdkgflkaaDoor

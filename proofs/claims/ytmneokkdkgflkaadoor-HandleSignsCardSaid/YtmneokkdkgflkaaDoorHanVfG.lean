/- Contracts: checks of signatures at any numbers, the program's and the reference's. -/
import Derived.Test.YtmneokkdkgflkaaDoorHanSgG
set_option linter.unusedVariables false
set_option linter.unusedSimpArgs false
namespace Go.Proofs.YtmneokkdkgflkaaDoor
open Go.RowKit Num Classical

def vfyG (q : Nat) (pub R S : Int) (text : ByteArray) : Bool := inG q (2 * q + 1) pub && (inG q (2 * q + 1) R && (decide (0 ≤ S) && (decide (S < (q : Int)) && vfy q pub.toNat text R.toNat S.toNat)))
theorem inG_cast {p m : Nat} {x : Int} (h : inG p m x = true) : ((x.toNat : Nat) : Int) = x ∧ x.toNat < m := by
  simp only [inG, decide_eq_true_eq] at h; omega
theorem isSafe_q {q : Nat} (h : SafeI (q : Int)) (x : Int) : memI (q : Int) x = inG q (2 * q + 1) x := by
  unfold memI
  rw [(mod_yes h).2, Bool.true_and, Int.toNat_natCast]
theorem vfy_split (q : Nat) (pub R S : Int) (text : ByteArray) :
    (inG q (2 * q + 1) pub = false ∧ vfyG q pub R S text = false) ∨ inG q (2 * q + 1) pub = true ∧ ((inG q (2 * q + 1) R = false ∧ vfyG q pub R S text = false) ∨ inG q (2 * q + 1) R = true ∧ ((decide (S < 0) = true ∧ vfyG q pub R S text = false) ∨ decide (S < 0) = false ∧ ((decide ((q : Int) ≤ S) = true ∧ vfyG q pub R S text = false) ∨ decide ((q : Int) ≤ S) = false ∧ vfyG q pub R S text = vfy q pub.toNat text R.toNat S.toNat))) := by
  cases h1 : inG q (2 * q + 1) pub
  · exact Or.inl ⟨rfl, by unfold vfyG; rw [h1]; rfl⟩
  refine Or.inr ⟨rfl, ?_⟩
  cases h2 : inG q (2 * q + 1) R
  · exact Or.inl ⟨rfl, by unfold vfyG; rw [h1, h2]; rfl⟩
  refine Or.inr ⟨rfl, ?_⟩
  by_cases h3 : S < 0
  · exact Or.inl ⟨decide_eq_true h3, by unfold vfyG; rw [h1, h2, decide_eq_false (show ¬ 0 ≤ S by omega)]; rfl⟩
  refine Or.inr ⟨decide_eq_false h3, ?_⟩
  by_cases h4 : (q : Int) ≤ S
  · exact Or.inl ⟨decide_eq_true h4, by unfold vfyG; rw [h1, h2, decide_eq_true (show 0 ≤ S by omega), decide_eq_false (show ¬ S < (q : Int) by omega)]; rfl⟩
  exact Or.inr ⟨decide_eq_false h4, by unfold vfyG; rw [h1, h2, decide_eq_true (show 0 ≤ S by omega), decide_eq_true (show S < (q : Int) by omega)]; rfl⟩
theorem h_hasF (p m : Nat) (n : Int) (b : Bool) (w : World) (hp : p ≤ 2147483648) (h1 : 2 ≤ m) (h2 : m ≤ 2147483648) (hg : inG p m n = b) :
    Calls Tryd.prog 59 #[.agg #[.int .i64 (p : Int), .int .i64 (m : Int)], .int .i64 n] w (BoolBelow b w) :=
  (h_has p m n w hp h1 h2).mono fun _ _ ⟨he, hw⟩ => ⟨by rw [he, hg], hw⟩

set_option maxRecDepth 100000 in
set_option maxHeartbeats 2000000 in
theorem h_VerifyG (q : Nat) (pub R S : Int) (text : ByteArray) (w : World) (hw : BasesOk w) (h : SPrm q) (ht : text.size < 2147483648) :
    Calls Tryd.prog 39 #[.int .i64 (q : Int), .int .i64 pub, .string text, .agg #[.int .i64 R, .int .i64 S]] w (BoolBelow (vfyG q pub R S text) w) := by
  have h3 := h.2.2.1
  have h4 := h.2.2.2
  have hw1 := hw.alloc (.cells #[.int .i64 R, .int .i64 S] 53)
  have start : inG q (2 * q + 1) pub = false ∨ inG q (2 * q + 1) pub = true ∧ (inG q (2 * q + 1) R = false ∨ inG q (2 * q + 1) R = true ∧ (decide (S < 0) = true ∨ decide (S < 0) = false ∧ decide ((q : Int) ≤ S) = true)) →
      Calls Tryd.prog 39 #[.int .i64 (q : Int), .int .i64 pub, .string text, .agg #[.int .i64 R, .int .i64 S]] w (BoolBelow false w) := by
    have HW := Lib.hid hw1
    have H := Lib.hid h
    clear hw hw1 h
    intro hcase
    have HC := Lib.hid hcase
    clear hcase
    go_enter Tryd.func39, Tryd.ntmps39
    go_wp2_with fail
    refine (h_of q _ HW.out H.out).mono ?_
    rintro e w1 ⟨rfl, hb1⟩
    have s1 := hb1.size
    have r0 : w1.cell? ⟨w.heap.size, 0, none⟩ = some (.int .i64 R) := by
      rw [hb1.cell (by simp), World.cell?_alloc_new]; rfl
    have r1 : w1.cell? ⟨w.heap.size, 1, none⟩ = some (.int .i64 S) := by
      rw [hb1.cell (by simp), World.cell?_alloc_new]; rfl
    have hlt1 : w.heap.size < w1.heap.size := by simp at s1; omega
    have hbw : Below w.heap.size w w1 := ((Below.refl _ _).alloc (Nat.le_refl _) _).trans (hb1.mono (by simp))
    clear hb1 s1
    have HBW := Lib.hid hbw
    clear hbw
    rcases HC.out with c1 | ⟨c1, hc⟩
    · have C1 := Lib.hid c1
      clear c1 HC
      go_wp2_with fail
      refine (h_hasF q (2 * q + 1) pub false _ (by omega) (by omega) (by omega) C1.out).mono ?_
      rintro e w2 ⟨rfl, hb2⟩
      go_wp2_with fail
      go_ret
      exact ⟨rfl, (HBW.out.alloc (by omega) _).trans (hb2.mono (by simp; omega))⟩
    have C1 := Lib.hid c1
    have HC2 := Lib.hid hc
    clear c1 hc HC
    go_wp2_with fail
    refine (h_hasF q (2 * q + 1) pub true _ (by omega) (by omega) (by omega) C1.out).mono ?_
    rintro e w2 ⟨rfl, hb2⟩
    have s2 := hb2.size
    have hlt2 : w1.heap.size < w2.heap.size := by simp at s2; omega
    have r0' : w2.cell? ⟨w.heap.size, 0, none⟩ = some (.int .i64 R) := by rw [hb2.cell (by simp; omega), World.cell?_alloc_lt _ _ _ (by exact hlt1)]; exact r0
    have r1' : w2.cell? ⟨w.heap.size, 1, none⟩ = some (.int .i64 S) := by rw [hb2.cell (by simp; omega), World.cell?_alloc_lt _ _ _ (by exact hlt1)]; exact r1
    have g0' : w2.cell? ⟨w1.heap.size, 0, none⟩ = some (.int .i64 (q : Int)) := by rw [hb2.cell (by simp), World.cell?_alloc_new]; rfl
    have g1' : w2.cell? ⟨w1.heap.size, 1, none⟩ = some (.int .i64 (2 * (q : Int) + 1)) := by rw [hb2.cell (by simp), World.cell?_alloc_new]; rfl
    have hbw2 : Below w.heap.size w w2 := (HBW.out.alloc (by omega) _).trans (hb2.mono (by simp; omega))
    clear hb2 s2 r0 r1 HBW C1
    have HBW := Lib.hid hbw2
    clear hbw2
    rcases HC2.out with c1 | ⟨c1, hc⟩
    · have C1 := Lib.hid c1
      clear c1 HC2
      go_wp2_with fail
      refine (h_hasF q (2 * q + 1) R false _ (by omega) (by omega) (by omega) C1.out).mono ?_
      rintro e w3 ⟨rfl, hb3⟩
      go_wp2_with fail
      go_ret
      exact ⟨rfl, HBW.out.trans (hb3.mono (by omega))⟩
    have C1 := Lib.hid c1
    have HC3 := Lib.hid hc
    clear c1 hc HC2
    go_wp2_with fail
    refine (h_hasF q (2 * q + 1) R true _ (by omega) (by omega) (by omega) C1.out).mono ?_
    rintro e w3 ⟨rfl, hb3⟩
    have r0 : w3.cell? ⟨w.heap.size, 0, none⟩ = some (.int .i64 R) := by rw [hb3.cell (by simp; omega)]; exact r0'
    have r1 : w3.cell? ⟨w.heap.size, 1, none⟩ = some (.int .i64 S) := by rw [hb3.cell (by simp; omega)]; exact r1'
    have hbw3 : Below w.heap.size w w3 := HBW.out.trans (hb3.mono (by omega))
    clear hb3 r0' r1' g0' g1' HBW C1
    have HBW := Lib.hid hbw3
    clear hbw3
    rcases HC3.out with c1 | ⟨c1, c2⟩
    all_goals
      clear HC3
      go_wp2_with fail
      go_ret
      exact ⟨rfl, HBW.out⟩
  rcases vfy_split q pub R S text with ⟨a, e⟩ | ⟨a1, ⟨a, e⟩ | ⟨a2, ⟨a, e⟩ | ⟨a3, ⟨a, e⟩ | ⟨a4, e⟩⟩⟩⟩
  · rw [e]; exact start (Or.inl a)
  · rw [e]; exact start (Or.inr ⟨a1, Or.inl a⟩)
  · rw [e]; exact start (Or.inr ⟨a1, Or.inr ⟨a2, Or.inl a⟩⟩)
  · rw [e]; exact start (Or.inr ⟨a1, Or.inr ⟨a2, Or.inr ⟨a3, a⟩⟩⟩)
  · rw [e]
    have i1 := (inG_cast a1).1
    have i2 := (inG_cast a2).1
    have b3 := of_decide_eq_false a3
    have b4 := of_decide_eq_false a4
    have := h_Verify q pub.toNat R.toNat S.toNat text w hw h (by rw [i1]; exact a1) (by rw [i2]; exact a2) (by omega) ht
    rw [i1, i2, show ((S.toNat : Nat) : Int) = S by omega] at this
    exact this

theorem r_MemT (q : Nat) (x : Int) (b : Bool) (w : World) (h : SafeI (q : Int)) (hb : inG q (2 * q + 1) x = b) : Calls Tryd.prog 26 #[.int .i64 (q : Int), .int .i64 x] w (RB b w) := by
  have := r_MemberG (q : Int) x w
  rwa [isSafe_q h, hb] at this
theorem r_PowI (p x : Nat) (e : Int) (w : World) (h0 : 1 ≤ p) (h2 : p ≤ 1073741823) (hx : x < 2147483648) (he0 : 0 ≤ e) (he : e < p) :
    Calls Tryd.prog 28 #[.int .i64 (p : Int), .int .i64 (x : Int), .int .i64 e] w (IPost (pw (2 * p + 1) x e.toNat : Int) w) := by
  have := r_PowerG p x e w h0 h2 hx
  rwa [Int.emod_eq_of_lt he0 he] at this
set_option maxRecDepth 100000 in
set_option maxHeartbeats 2000000 in
theorem r_VerifyG (q : Nat) (pub R S : Int) (text : ByteArray) (w : World) (h : SafeI (q : Int)) (ht : text.size < 2147483648) :
    Calls Tryd.prog 40 #[.int .i64 (q : Int), .int .i64 pub, .string text, .agg #[.int .i64 R, .int .i64 S]] w (BoolBelow (vfyG q pub R S text) w) := by
  have h3 := h.sprm.1.2.2.1
  have h4 := h.sprm.1.2.2.2
  rw [Int.toNat_natCast] at h3 h4
  rcases vfy_split q pub R S text with ⟨a, e⟩ | ⟨a1, ⟨a, e⟩ | ⟨a2, ⟨a, e⟩ | ⟨a3, ⟨a, e⟩ | ⟨a4, e⟩⟩⟩⟩
  · rw [e]
    have hm := fun W => r_MemT q pub false W h a
    have HM := Lib.hid hm
    clear hm h e a
    go_enter Tryd.func40, Tryd.ntmps40
    go_wp2_with fail
    refine (HM.out _).mono ?_
    rintro e w1 ⟨rfl, rfl⟩
    go_wp2_with fail
    go_ret
    exact ⟨rfl, (Below.refl _ _).alloc (Nat.le_refl _) _⟩
  · rw [e]
    have hm := fun W => r_MemT q pub true W h a1
    have hn := fun W => r_MemT q R false W h a
    have HM := Lib.hid hm
    have HN := Lib.hid hn
    clear hm hn h e a a1
    go_enter Tryd.func40, Tryd.ntmps40
    go_wp2_with fail
    refine (HM.out _).mono ?_
    rintro e w1 ⟨rfl, rfl⟩
    go_wp2_with fail
    refine (HN.out _).mono ?_
    rintro e w1 ⟨rfl, rfl⟩
    go_wp2_with fail
    go_ret
    exact ⟨rfl, (Below.refl _ _).alloc (Nat.le_refl _) _⟩
  · rw [e]
    have hm := fun W => r_MemT q pub true W h a1
    have hn := fun W => r_MemT q R true W h a2
    have HM := Lib.hid hm
    have HN := Lib.hid hn
    clear hm hn h e a1 a2
    go_enter Tryd.func40, Tryd.ntmps40
    go_wp2_with fail
    refine (HM.out _).mono ?_
    rintro e w1 ⟨rfl, rfl⟩
    go_wp2_with fail
    refine (HN.out _).mono ?_
    rintro e w1 ⟨rfl, rfl⟩
    go_wp2_with fail
    go_ret
    exact ⟨rfl, (Below.refl _ _).alloc (Nat.le_refl _) _⟩
  · rw [e]
    have hm := fun W => r_MemT q pub true W h a1
    have hn := fun W => r_MemT q R true W h a2
    have HM := Lib.hid hm
    have HN := Lib.hid hn
    clear hm hn h e a1 a2
    go_enter Tryd.func40, Tryd.ntmps40
    go_wp2_with fail
    refine (HM.out _).mono ?_
    rintro e w1 ⟨rfl, rfl⟩
    go_wp2_with fail
    refine (HN.out _).mono ?_
    rintro e w1 ⟨rfl, rfl⟩
    go_wp2_with fail
    go_ret
    exact ⟨rfl, (Below.refl _ _).alloc (Nat.le_refl _) _⟩
  · rw [e]
    have hm := fun W => r_MemT q pub true W h a1
    have hn := fun W => r_MemT q R true W h a2
    obtain ⟨i1, j1⟩ := inG_cast a1
    obtain ⟨i2, j2⟩ := inG_cast a2
    obtain ⟨P, rfl⟩ : ∃ P : Nat, pub = (P : Int) := ⟨_, i1.symm⟩
    obtain ⟨Q, rfl⟩ : ∃ Q : Nat, R = (Q : Int) := ⟨_, i2.symm⟩
    obtain ⟨Z, rfl⟩ : ∃ Z : Nat, S = (Z : Int) := Int.eq_ofNat_of_zero_le (by have := of_decide_eq_false a3; omega)
    have b4 : Z < q := by have := of_decide_eq_false a4; omega
    simp only [Int.toNat_natCast] at j1 j2 ⊢
    have cb := chal_bd q (Q : Int) (P : Int) text (by omega)
    have q4 := pw_lt (m := 2 * q + 1) (by omega) P (chal q Q P text).toNat
    have hpu := fun W => r_PublicN q Z W (by omega) (by omega) b4
    have hch := fun W => r_challenge q (Q : Int) (P : Int) text W (by omega) (by omega) (by omega) (by omega) (by omega) (by omega) ht
    have hpw := fun W => r_PowI q P (chal q Q P text) W (by omega) (by omega) (by omega) (by omega) (by omega)
    have htm := fun W => r_TimesG q Q (pw (2 * q + 1) P (chal q Q P text).toNat) W (by omega) (by omega) (by omega)
    have hv : vfy q P text Q Z = decide (pw (2 * q + 1) 4 Z = Q * pw (2 * q + 1) P (chal q Q P text).toNat % (2 * q + 1)) := rfl
    rw [hv]
    generalize chal q Q P text = c at *
    have HM := Lib.hid hm
    have HN := Lib.hid hn
    have HPU := Lib.hid hpu
    have HCH := Lib.hid hch
    have HPW := Lib.hid hpw
    have HTM := Lib.hid htm
    clear hm hn h e a1 a2 hpu hch hpw htm hv i1 i2
    go_enter Tryd.func40, Tryd.ntmps40
    go_wp2_with fail
    refine (HM.out _).mono ?_
    rintro e w1 ⟨rfl, rfl⟩
    go_wp2_with fail
    refine (HN.out _).mono ?_
    rintro e w1 ⟨rfl, rfl⟩
    go_wp2_with fail
    have r0 : (w.alloc (.cells #[.int .i64 (Q : Int), .int .i64 (Z : Int)] 53)).cell? ⟨w.heap.size, 0, none⟩ = some (.int .i64 (Q : Int)) := by rw [World.cell?_alloc_new]; rfl
    have r1 : (w.alloc (.cells #[.int .i64 (Q : Int), .int .i64 (Z : Int)] 53)).cell? ⟨w.heap.size, 1, none⟩ = some (.int .i64 (Z : Int)) := by rw [World.cell?_alloc_new]; rfl
    have hbw : Below w.heap.size w (w.alloc (.cells #[.int .i64 (Q : Int), .int .i64 (Z : Int)] 53)) := (Below.refl _ _).alloc (Nat.le_refl _) _
    have hlt : w.heap.size < (w.alloc (.cells #[.int .i64 (Q : Int), .int .i64 (Z : Int)] 53)).heap.size := by simp
    generalize (w.alloc (.cells #[.int .i64 (Q : Int), .int .i64 (Z : Int)] 53)) = w0 at *
    have r0d : w0.drew.cell? ⟨w.heap.size, 0, none⟩ = some (.int .i64 (Q : Int)) := r0
    have r1d : w0.drew.cell? ⟨w.heap.size, 1, none⟩ = some (.int .i64 (Z : Int)) := r1
    have hbwd : Below w.heap.size w w0.drew := hbw.drew
    have hltd : w.heap.size < w0.drew.heap.size := hlt
    go_region_held3 (fun w' => w'.cell? ⟨w.heap.size, 0, none⟩ = some (.int .i64 (Q : Int)) ∧ w'.cell? ⟨w.heap.size, 1, none⟩ = some (.int .i64 (Z : Int)) ∧ Below w.heap.size w w' ∧ w.heap.size < w'.heap.size)
      (first
        | exact ⟨r0d, r1d, hbwd, hltd⟩
        | (go_split_ands
           refine ⟨?_, ?_, ?_, ?_⟩
           · (rw [hbk.cell (by simp; omega)]; assumption)
           · (rw [hbk.cell (by simp; omega)]; assumption)
           · exact Below.trans ‹Below w.heap.size w _› (hbk.mono (by omega))
           · (have := hbk.size; omega)))
      (first
        | (go_at_call 37; ((with_reducible refine (HPU.out _).mono ?_); rintro e wk ⟨rfl, rfl⟩))
        | (go_at_call 28; ((with_reducible refine (HPW.out _).mono ?_); rintro e wk ⟨rfl, rfl⟩))
        | (go_at_call 67; ((with_reducible refine (HCH.out _).mono ?_); rintro e wk ⟨rfl, hbk⟩))
        | (go_at_call 30; ((with_reducible refine (HTM.out _).mono ?_); rintro e wk ⟨rfl, rfl⟩)))
    all_goals
      go_wp2_with fail
      go_split_ands
      go_ret
      refine ⟨ret_bool ?_, by assumption⟩
      show (((pw (2 * q + 1) 4 Z : Nat) : Int) == (Q : Int) * ((pw (2 * q + 1) P c.toNat : Nat) : Int) % (2 * (q : Int) + 1)) = decide (pw (2 * q + 1) 4 Z = Q * pw (2 * q + 1) P c.toNat % (2 * q + 1))
      rw [Bool.eq_iff_iff, beq_iff_eq, decide_eq_true_eq]
      generalize pw (2 * q + 1) P c.toNat = z
      rw [← Int.natCast_mul, show (2 * (q : Int) + 1) = ((2 * q + 1 : Nat) : Int) by omega, ← Int.natCast_emod]
      generalize Q * z % (2 * q + 1) = y
      omega
end Go.Proofs.YtmneokkdkgflkaaDoor

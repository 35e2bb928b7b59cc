/- The small primes with the periods of the four bases. No program stands in it. The search through the products of small primes, run by the kernel. The prime factors from 501 to 32767, and those above, run by the kernel. Up to 2 to the power of 30 what passes the test of Miller and Rabin with 2, 3, 5 and 7 is prime. No program stands in it. Contracts: what is no permitted prime is not taken for one (field.Valid, handle.prime, handle.Modulus). Contracts: moduli and members at any number, the program's and the reference's. -/
import Derived.Test.YtjfphobfikadlaaGreatDoorY40
import Derived.Test.YtjfphobfikadlaaGreatDoorY02
set_option linter.unusedVariables false
set_option linter.unusedSimpArgs false
namespace Go.Proofs.YtjfphobfikadlaaGreatDoor.Num

def tab : List (Nat × Nat) := [(499, 498), (491, 490), (487, 486), (479, 239), (467, 466), (463, 462), (461, 460), (457, 456), (449, 448), (443, 442), (439, 438), (433, 432), (431, 430), (421, 420), (419, 418), (409, 408), (401, 400), (397, 396), (389, 388), (383, 382), (379, 378), (373, 372), (367, 366), (359, 358), (353, 352), (349, 348), (347, 346), (337, 336), (331, 330), (317, 316), (313, 312), (311, 155), (307, 306), (293, 292), (283, 282), (281, 280), (277, 276), (271, 270), (269, 268), (263, 262), (257, 256), (251, 250), (241, 240), (239, 238), (233, 232), (229, 228), (227, 226), (223, 222), (211, 210), (199, 198), (197, 196), (193, 192), (191, 190), (181, 180), (179, 178), (173, 172), (167, 166), (163, 162), (157, 156), (151, 150), (149, 148), (139, 138), (137, 136), (131, 130), (127, 126), (113, 112), (109, 108), (107, 106), (103, 102), (101, 100), (97, 96), (89, 88), (83, 82), (79, 78), (73, 72), (71, 70), (67, 66), (61, 60), (59, 58), (53, 52), (47, 46), (43, 42), (41, 40), (37, 36), (31, 30), (29, 28), (23, 22), (19, 18), (17, 16), (13, 12), (11, 10)]
def fOf_ (p : Nat) : Nat := if p < 16 then 2 else if p < 36 then 4 else if p < 121 then 9 else 30
set_option maxRecDepth 1000000
theorem tab_ok : (tab.all fun x => decide (2 ≤ x.1) && noDiv x.1 (fOf_ x.1) 2 && decide (x.1 < (fOf_ x.1 + 2) * (fOf_ x.1 + 2)) && okL x.1 x.2 && decide (0 < x.2) && decide (x.2 < 32768)) = true := by decide +kernel
theorem tab_all : ((List.range 501).all fun q => (tab.any fun x => x.1 == q) || decide (q < 11) || (List.range 32).any fun d => decide (2 ≤ d) && decide (d < q) && q % d == 0) = true := by decide +kernel
theorem tabOk : TabOk tab := ⟨fun x hx => by
  have h := List.all_eq_true.1 tab_ok x hx
  simp only [Bool.and_eq_true, decide_eq_true_eq] at h
  obtain ⟨⟨⟨⟨⟨h1, h2⟩, h3⟩, h4⟩, h5⟩, h6⟩ := h
  exact ⟨prm_of h1 h2 h3, h4, h5, h6⟩⟩
theorem tab_mem {q : Nat} (hq : Prm q) (h1 : 11 ≤ q) (h2 : q ≤ 500) : ∃ L, (q, L) ∈ tab := by
  have h := List.all_eq_true.1 tab_all q (List.mem_range.2 (by omega))
  simp only [Bool.or_eq_true, decide_eq_true_eq, List.any_eq_true, Bool.and_eq_true, beq_iff_eq] at h
  rcases h with (⟨x, hx, rfl⟩ | h) | ⟨d, _, ⟨h3, h4⟩, h5⟩
  · exact ⟨x.2, hx⟩
  · omega
  · rcases hq.2 d (Nat.dvd_of_mod_eq_zero h5) with e | e <;> omega
end Go.Proofs.YtjfphobfikadlaaGreatDoor.Num
namespace Go.Proofs.YtjfphobfikadlaaGreatDoor.Num
set_option maxRecDepth 1000000
theorem tops0 : tops 30 (tab.drop 0) = true := by decide +kernel
theorem tops1 : tops 30 (tab.drop 30) = true := by decide +kernel
theorem tops2 : tops 31 (tab.drop 60) = true := by decide +kernel
end Go.Proofs.YtjfphobfikadlaaGreatDoor.Num
namespace Go.Proofs.YtjfphobfikadlaaGreatDoor.Num
set_option maxRecDepth 1000000
theorem lvs0 : lvs 501 100 = true := by decide +kernel
theorem lvs1 : lvs 701 150 = true := by decide +kernel
theorem lvs2 : lvs 1001 1000 = true := by decide +kernel
theorem lvs3 : lvs 3001 14884 = true := by decide +kernel
theorem chks0 : frc (Mrec 32768) (chks 11 8000) = true := by decide +kernel
theorem chks1 : frc (Mrec 32768) (chks 16011 8379) = true := by decide +kernel
end Go.Proofs.YtjfphobfikadlaaGreatDoor.Num
namespace Go.Proofs.YtjfphobfikadlaaGreatDoor.Num

theorem tab_desc : tab.Pairwise (fun a b => b.1 < a.1) := by decide +kernel
theorem tab_len : tab.length = 91 := by decide +kernel
theorem no_small {n r : Nat} (hp : Psp n) (hr : Prm r) (hd : r ∣ n) (hmax : ∀ s, Prm s → s ∣ n → s ≤ r) (h : r ≤ 500) : False := by
  have h11 := hp.ge11 hr hd
  obtain ⟨L, hL⟩ := tab_mem hr h11 h
  obtain ⟨i, hi, he⟩ := List.getElem_of_mem hL
  have hdrop : tab.drop i = (r, L) :: tab.drop (i + 1) := by rw [List.drop_eq_getElem_cons hi, he]
  have hi91 := hi
  rw [tab_len] at hi91
  have hrun : dfs 300 1 r L ((r, L) :: tab.drop (i + 1)) = true := by
    rcases Nat.lt_or_ge i 30 with h1 | h1
    · exact tops_spec 30 (tab.drop 0) tops0 i (r, L) _ h1 (by rw [List.drop_zero]; exact hdrop)
    · rcases Nat.lt_or_ge i 60 with h2 | h2
      · exact tops_spec 30 (tab.drop 30) tops1 (i - 30) (r, L) _ (by omega) (by rw [List.drop_drop, show 30 + (i - 30) = i by omega]; exact hdrop)
      · exact tops_spec 31 (tab.drop 60) tops2 (i - 60) (r, L) _ (by omega) (by rw [List.drop_drop, show 60 + (i - 60) = i by omega]; exact hdrop)
  obtain ⟨_, hok, hL0, hL1⟩ := tabOk.all (r, L) hL
  have hsub : ∀ x ∈ (r, L) :: tab.drop (i + 1), x ∈ tab := fun x hx => by rw [← hdrop] at hx; exact List.mem_of_mem_drop hx
  refine dfs_spec hp 300 1 r L _ hrun (fun _ => .inr hr) (fun h => by omega) hd (okL_spec hok (by omega) hL0 hL1 (hp.all1 hr hd)) hL0 (fun s h1 h2 => ?_) ⟨fun x hx => tabOk.all x (hsub x hx)⟩
  have hsn : s ∣ n := Nat.dvd_trans h2 (Nat.div_dvd_of_dvd hd)
  have hsr := hmax s h1 hsn
  obtain ⟨Ls, hLs⟩ := tab_mem h1 (hp.ge11 h1 hsn) (by omega)
  refine ⟨Ls, ?_⟩
  rw [← hdrop]
  rw [← List.take_append_drop i tab, List.mem_append] at hLs
  rcases hLs with h3 | h3
  · exfalso
    have hpw := tab_desc
    rw [← List.take_append_drop i tab, List.pairwise_append] at hpw
    have := hpw.2.2 _ h3 (r, L) (by rw [hdrop]; simp)
    change r < s at this
    omega
  · exact h3
theorem no_mid {n r : Nat} (hp : Psp n) (hr : Prm r) (hd : r ∣ n) (hodd : n % 2 = 1) (h : 500 < r) (h2 : r < 32768) : False := by
  have ho : r % 2 = 1 := by
    rcases Nat.mod_two_eq_zero_or_one r with e | e
    · exfalso
      have := Nat.dvd_trans (Nat.dvd_of_mod_eq_zero e) hd
      have := Nat.mod_eq_zero_of_dvd this
      omega
    · exact e
  refine lv_spec ?_ hp hr hd (by omega) h2
  rcases Nat.lt_or_ge r 701 with h3 | h3
  · have := lvs_spec 100 lvs0 ((r - 501) / 2) (by omega)
    rwa [show 501 + 2 * ((r - 501) / 2) = r by omega] at this
  · rcases Nat.lt_or_ge r 1001 with h4 | h4
    · have := lvs_spec 150 lvs1 ((r - 701) / 2) (by omega)
      rwa [show 701 + 2 * ((r - 701) / 2) = r by omega] at this
    · rcases Nat.lt_or_ge r 3001 with h5 | h5
      · have := lvs_spec 1000 lvs2 ((r - 1001) / 2) (by omega)
        rwa [show 1001 + 2 * ((r - 1001) / 2) = r by omega] at this
      · have := lvs_spec 14884 lvs3 ((r - 3001) / 2) (by omega)
        rwa [show 3001 + 2 * ((r - 3001) / 2) = r by omega] at this
theorem chk_all (k : Nat) (h1 : 11 ≤ k) (h2 : k < 32768) (h3 : k % 2 = 1) (h4 : Nat.gcd k 105 = 1) : chkA (Mrec 32768) k = true := by
  rcases Nat.lt_or_ge k 16011 with h5 | h5
  · have c := chks0
    rw [frc_eq] at c
    have := chks_spec 8000 c ((k - 11) / 2) (by omega) (by rw [show 11 + 2 * ((k - 11) / 2) = k by omega]; exact h4)
    rwa [show 11 + 2 * ((k - 11) / 2) = k by omega] at this
  · have c := chks1
    rw [frc_eq] at c
    have := chks_spec 8379 c ((k - 16011) / 2) (by omega) (by rw [show 16011 + 2 * ((k - 16011) / 2) = k by omega]; exact h4)
    rwa [show 16011 + 2 * ((k - 16011) / 2) = k by omega] at this
/-- **What passes is prime.** -/
theorem mr_all {n : Nat} (h2 : 2 < n) (hle : n ≤ 1073741824) (hodd : n % 2 = 1) (h3 : n % 3 ≠ 0) (h5 : n % 5 ≠ 0) (h7 : n % 7 ≠ 0) (m2 : mrB n 2 = true) (m3 : mrB n 3 = true) (m5 : mrB n 5 = true) (m7 : mrB n 7 = true) : Prm n := by
  apply Classical.byContradiction
  intro hnp
  have hp : Psp n := by
    refine ⟨h2, hle, hnp, ?_, ?_, bad2_of h2 hodd m2 m3 m5 m7⟩
    · rintro b (rfl | rfl | rfl | rfl) hd <;> have := Nat.mod_eq_zero_of_dvd hd <;> omega
    · rintro b (rfl | rfl | rfl | rfl)
      · exact fer_mrB h2 hodd m2
      · exact fer_mrB h2 hodd m3
      · exact fer_mrB h2 hodd m5
      · exact fer_mrB h2 hodd m7
  obtain ⟨r, hr, hd, hmax⟩ := max_prm (n := n) (by omega)
  rcases Nat.lt_or_ge 32768 r with h | h
  · exact no_great chk_all hp hr hd h
  · rcases Nat.lt_or_ge 500 r with h1 | h1
    · refine no_mid hp hr hd hodd h1 ?_
      rcases Nat.eq_or_lt_of_le h with e | e
      · exfalso
        subst e
        rcases hr.2 2 ⟨16384, rfl⟩ with e | e <;> omega
      · exact e
    · exact no_small hp hr hd hmax h1
end Go.Proofs.YtjfphobfikadlaaGreatDoor.Num
namespace Go.Proofs.YtjfphobfikadlaaGreatDoor
open Go.RowKit Num

theorem prm_powd {s b : Nat} (hs : Prm s) : ∀ o, s ∣ b ^ o → s ∣ b := by
  intro o
  induction o with
  | zero => intro h; rw [Nat.pow_zero] at h; have := Nat.le_of_dvd (by decide) h; have := hs.1; omega
  | succ o ih =>
    intro h
    rw [Nat.pow_succ] at h
    rcases prm_dvd hs h with h | h
    · exact ih h
    · exact h
theorem np_pw {p b : Nat} (hp : 2 ≤ p) (hb : Prm b) (h : p % b ≠ 0) (o : Nat) : pw p b o ≠ 0 := fun he => by
  obtain ⟨s, hs, hsp⟩ := ex_prm p hp
  have h1 : s ∣ b := prm_powd hs o (Nat.dvd_trans hsp (Nat.dvd_of_mod_eq_zero he))
  rcases hb.2 s h1 with e | e
  · have := hs.1; omega
  · subst e; exact h (Nat.mod_eq_zero_of_dvd hsp)
/-- Twice a prime and 1: the test with 2 is enough. -/
theorem pock {p m : Nat} (hp : Prm p) (h3 : 3 ≤ p) (hm : m = 2 * p + 1) (hd : m % 3 ≠ 0) (h : mrB m 2 = true) : Prm m := by
  have hf := fer_mrB (by omega) (by omega) h
  apply Classical.byContradiction
  intro hnp
  obtain ⟨s, hs, k, hk⟩ := ex_prm m (by omega)
  have key : ∀ s k, Prm s → m = s * k → s ≤ p → False := fun s k hs hk hsp => by
    have hs2 := hs.1
    have hdv : s ∣ m := ⟨k, hk⟩
    have h1 := pw_dvd hdv (by omega) hf
    have hodd : s % 2 = 1 := by
      rcases Nat.mod_two_eq_zero_or_one s with e | e
      · have := Nat.mod_eq_zero_of_dvd (Nat.dvd_trans (Nat.dvd_of_mod_eq_zero e) hdv); omega
      · exact e
    have h2 : pw s 2 (s - 1) = 1 := fermat1 hs fun hd => by have := Nat.le_of_dvd (by decide) hd; omega
    have h4 := pw_gcd (by omega) (m - 1) (s - 1) h1 h2
    have hg0 : 0 < Nat.gcd (m - 1) (s - 1) := Nat.gcd_pos_of_pos_right _ (by omega)
    have hgs := Nat.le_of_dvd (by omega) (Nat.gcd_dvd_right (m - 1) (s - 1))
    have hg2 : Nat.gcd (m - 1) (s - 1) ∣ 2 * p := by
      have := Nat.gcd_dvd_left (m - 1) (s - 1)
      rwa [show m - 1 = 2 * p by omega] at this ⊢
    have hcop : Nat.gcd (Nat.gcd (m - 1) (s - 1)) p = 1 := prm_gcd hp hg0 (by omega)
    have hg3 : Nat.gcd (m - 1) (s - 1) ∣ 2 := Nat.Coprime.dvd_of_dvd_mul_right hcop hg2
    obtain ⟨c, hc⟩ := hg3
    have h5' : pw s 2 (Nat.gcd (m - 1) (s - 1) * c) = 1 := by rw [← pw_pw, h4, pw_one, Nat.mod_eq_of_lt (by omega)]
    have h5 : pw s 2 2 = 1 := by rw [← hc] at h5'; exact h5'
    have h6 : 4 % s = 1 := h5
    have h7 : s ∣ 3 := by
      have := Nat.sub_mod_eq_zero_of_mod_eq (show 4 % s = 1 % s by rw [h6, Nat.mod_eq_of_lt (by omega)])
      exact Nat.dvd_of_mod_eq_zero this
    have h8 : s = 3 := by
      rcases prm_3.2 s h7 with e | e <;> omega
    subst h8
    exact hd (Nat.mod_eq_zero_of_dvd hdv)
  have hs2 := hs.1
  by_cases hsp : s ≤ p
  · exact key s k hs hk hsp
  · have hk1 : k ≠ 0 := by rintro rfl; omega
    have hk2 : k ≠ 1 := by rintro rfl; rw [Nat.mul_one] at hk; exact hnp (by rw [hk]; exact hs)
    have : (p + 1) * 2 ≤ s * k := Nat.mul_le_mul (by omega) (by omega)
    omega
/-- A permitted prime. -/
def VPrm (p : Int) : Prop := 2 ≤ p ∧ p ≤ 1073741824 ∧ Prm p.toNat

set_option maxHeartbeats 1000000 in
theorem f_ValidN (p : Nat) (w : World) (hw : BasesOk w) (h1 : 2 < p) (h2 : p ≤ 1073741824) (ho : p % 2 = 1) (hp : ¬ Prm p) :
    Calls Tryz.prog 118 #[.int .i64 (p : Int)] w fun r w' => r = .returned (.bool false) ∧ w = w' := by
  obtain ⟨b0, b1, b2, b3⟩ := hw
  have i0 : ∀ w, (Instr.index 175 (.agg #[.int .i64 2, .int .i64 3, .int .i64 5, .int .i64 7]) (.int .i64 0)).run Tryz.prog w = .ok (.int .i64 2) w := fun _ => by kernel_rfl
  have i1 : ∀ w, (Instr.index 175 (.agg #[.int .i64 2, .int .i64 3, .int .i64 5, .int .i64 7]) (.int .i64 1)).run Tryz.prog w = .ok (.int .i64 3) w := fun _ => by kernel_rfl
  have i2 : ∀ w, (Instr.index 175 (.agg #[.int .i64 2, .int .i64 3, .int .i64 5, .int .i64 7]) (.int .i64 2)).run Tryz.prog w = .ok (.int .i64 5) w := fun _ => by kernel_rfl
  have i3 : ∀ w, (Instr.index 175 (.agg #[.int .i64 2, .int .i64 3, .int .i64 5, .int .i64 7]) (.int .i64 3)).run Tryz.prog w = .ok (.int .i64 7) w := fun _ => by kernel_rfl
  have c2 : ((p : Int) == 2) = false := by rw [beq_eq_false_iff_ne]; intro h; exact hp (by rw [show p = 2 by omega]; exact prm_2)
  by_cases e2 : p % 2 = 0
  · have d2 : ((p : Int) % 2 == 0) = true := by rw [beq_iff_eq]; omega
    exfalso; omega
  have d2 : ((p : Int) % 2 == 0) = false := by rw [beq_eq_false_iff_ne]; omega
  have z2 := np_pw (by omega) prm_2 e2
  rcases (show mrB p 2 = false ∨ mrB p 2 = true by cases mrB p 2 <;> simp) with m2 | m2
  · skip
    go_enter Tryz.func118, Tryz.ntmps118
    go_wp2
    refine wp_loop_rounds 5 ?_
    rw [rounds_succ]
    go_wp2_with fail
    refine (f_passes p 2 _ (by omega) (by omega) ho z2).mono ?_
    rintro e w' ⟨rfl, rfl⟩
    rw [m2]
    go_wp2
    go_ret
    exact ⟨rfl, rfl⟩
  have c3 : ((p : Int) == 3) = false := by rw [beq_eq_false_iff_ne]; intro h; exact hp (by rw [show p = 3 by omega]; exact prm_3)
  by_cases e3 : p % 3 = 0
  · have d3 : ((p : Int) % 3 == 0) = true := by rw [beq_iff_eq]; omega
    go_enter Tryz.func118, Tryz.ntmps118
    go_wp2
    refine wp_loop_rounds 5 ?_
    rw [rounds_succ]
    go_wp2_with fail
    refine (f_passes p 2 _ (by omega) (by omega) ho z2).mono ?_
    rintro e w' ⟨rfl, rfl⟩
    rw [m2]
    go_wp2
    rw [rounds_succ]
    go_wp2
    go_ret
    exact ⟨rfl, rfl⟩
  have d3 : ((p : Int) % 3 == 0) = false := by rw [beq_eq_false_iff_ne]; omega
  have z3 := np_pw (by omega) prm_3 e3
  rcases (show mrB p 3 = false ∨ mrB p 3 = true by cases mrB p 3 <;> simp) with m3 | m3
  · skip
    go_enter Tryz.func118, Tryz.ntmps118
    go_wp2
    refine wp_loop_rounds 5 ?_
    rw [rounds_succ]
    go_wp2_with fail
    refine (f_passes p 2 _ (by omega) (by omega) ho z2).mono ?_
    rintro e w' ⟨rfl, rfl⟩
    rw [m2]
    go_wp2
    rw [rounds_succ]
    go_wp2_with fail
    refine (f_passes p 3 _ (by omega) (by omega) ho z3).mono ?_
    rintro e w' ⟨rfl, rfl⟩
    rw [m3]
    go_wp2
    go_ret
    exact ⟨rfl, rfl⟩
  have c5 : ((p : Int) == 5) = false := by rw [beq_eq_false_iff_ne]; intro h; exact hp (by rw [show p = 5 by omega]; exact prm_5)
  by_cases e5 : p % 5 = 0
  · have d5 : ((p : Int) % 5 == 0) = true := by rw [beq_iff_eq]; omega
    go_enter Tryz.func118, Tryz.ntmps118
    go_wp2
    refine wp_loop_rounds 5 ?_
    rw [rounds_succ]
    go_wp2_with fail
    refine (f_passes p 2 _ (by omega) (by omega) ho z2).mono ?_
    rintro e w' ⟨rfl, rfl⟩
    rw [m2]
    go_wp2
    rw [rounds_succ]
    go_wp2_with fail
    refine (f_passes p 3 _ (by omega) (by omega) ho z3).mono ?_
    rintro e w' ⟨rfl, rfl⟩
    rw [m3]
    go_wp2
    rw [rounds_succ]
    go_wp2
    go_ret
    exact ⟨rfl, rfl⟩
  have d5 : ((p : Int) % 5 == 0) = false := by rw [beq_eq_false_iff_ne]; omega
  have z5 := np_pw (by omega) prm_5 e5
  rcases (show mrB p 5 = false ∨ mrB p 5 = true by cases mrB p 5 <;> simp) with m5 | m5
  · skip
    go_enter Tryz.func118, Tryz.ntmps118
    go_wp2
    refine wp_loop_rounds 5 ?_
    rw [rounds_succ]
    go_wp2_with fail
    refine (f_passes p 2 _ (by omega) (by omega) ho z2).mono ?_
    rintro e w' ⟨rfl, rfl⟩
    rw [m2]
    go_wp2
    rw [rounds_succ]
    go_wp2_with fail
    refine (f_passes p 3 _ (by omega) (by omega) ho z3).mono ?_
    rintro e w' ⟨rfl, rfl⟩
    rw [m3]
    go_wp2
    rw [rounds_succ]
    go_wp2_with fail
    refine (f_passes p 5 _ (by omega) (by omega) ho z5).mono ?_
    rintro e w' ⟨rfl, rfl⟩
    rw [m5]
    go_wp2
    go_ret
    exact ⟨rfl, rfl⟩
  have c7 : ((p : Int) == 7) = false := by rw [beq_eq_false_iff_ne]; intro h; exact hp (by rw [show p = 7 by omega]; exact prm_7)
  by_cases e7 : p % 7 = 0
  · have d7 : ((p : Int) % 7 == 0) = true := by rw [beq_iff_eq]; omega
    go_enter Tryz.func118, Tryz.ntmps118
    go_wp2
    refine wp_loop_rounds 5 ?_
    rw [rounds_succ]
    go_wp2_with fail
    refine (f_passes p 2 _ (by omega) (by omega) ho z2).mono ?_
    rintro e w' ⟨rfl, rfl⟩
    rw [m2]
    go_wp2
    rw [rounds_succ]
    go_wp2_with fail
    refine (f_passes p 3 _ (by omega) (by omega) ho z3).mono ?_
    rintro e w' ⟨rfl, rfl⟩
    rw [m3]
    go_wp2
    rw [rounds_succ]
    go_wp2_with fail
    refine (f_passes p 5 _ (by omega) (by omega) ho z5).mono ?_
    rintro e w' ⟨rfl, rfl⟩
    rw [m5]
    go_wp2
    rw [rounds_succ]
    go_wp2
    go_ret
    exact ⟨rfl, rfl⟩
  have d7 : ((p : Int) % 7 == 0) = false := by rw [beq_eq_false_iff_ne]; omega
  have z7 := np_pw (by omega) prm_7 e7
  rcases (show mrB p 7 = false ∨ mrB p 7 = true by cases mrB p 7 <;> simp) with m7 | m7
  · skip
    go_enter Tryz.func118, Tryz.ntmps118
    go_wp2
    refine wp_loop_rounds 5 ?_
    rw [rounds_succ]
    go_wp2_with fail
    refine (f_passes p 2 _ (by omega) (by omega) ho z2).mono ?_
    rintro e w' ⟨rfl, rfl⟩
    rw [m2]
    go_wp2
    rw [rounds_succ]
    go_wp2_with fail
    refine (f_passes p 3 _ (by omega) (by omega) ho z3).mono ?_
    rintro e w' ⟨rfl, rfl⟩
    rw [m3]
    go_wp2
    rw [rounds_succ]
    go_wp2_with fail
    refine (f_passes p 5 _ (by omega) (by omega) ho z5).mono ?_
    rintro e w' ⟨rfl, rfl⟩
    rw [m5]
    go_wp2
    rw [rounds_succ]
    go_wp2_with fail
    refine (f_passes p 7 _ (by omega) (by omega) ho z7).mono ?_
    rintro e w' ⟨rfl, rfl⟩
    rw [m7]
    go_wp2
    go_ret
    exact ⟨rfl, rfl⟩
  exact absurd (mr_all h1 h2 ho e3 e5 e7 m2 m3 m5 m7) hp
open Classical in
theorem f_ValidG (p : Int) (w : World) (hw : BasesOk w) (h0 : -9223372036854775808 ≤ p) (h9 : p < 9223372036854775808) :
    Calls Tryz.prog 118 #[.int .i64 p] w fun r w' => r = .returned (.bool (decide (VPrm p))) ∧ w = w' := by
  by_cases hv : VPrm p
  · rw [decide_eq_true hv]
    obtain ⟨h1, h2, h3⟩ := hv
    have := f_Valid p.toNat w hw h3 (by omega)
    rwa [show ((p.toNat : Nat) : Int) = p by omega] at this
  · rw [decide_eq_false hv]
    by_cases h1 : p < 2
    · have HW := Lib.hid hw
      clear hw hv
      have t1 : decide (p < 2) = true := decide_eq_true h1
      go_enter Tryz.func118, Tryz.ntmps118
      go_wp2
      go_ret
      exact ⟨rfl, rfl⟩
    · by_cases h2 : 1073741824 < p
      · have HW := Lib.hid hw
        clear hw hv
        have t1 : decide (p < 2) = false := decide_eq_false h1
        have t2 : decide (1073741824 < p) = true := decide_eq_true h2
        go_enter Tryz.func118, Tryz.ntmps118
        go_wp2
        go_ret
        exact ⟨rfl, rfl⟩
      · obtain ⟨n, rfl⟩ := Int.eq_ofNat_of_zero_le (show 0 ≤ p by omega)
        have hnp : ¬ Prm n := fun h => hv ⟨by omega, by omega, h⟩
        have hn2 : n ≠ 2 := by rintro rfl; exact hnp prm_2
        by_cases h3 : n % 2 = 1
        · exact f_ValidN n w hw (by omega) (by omega) h3 hnp
        · have HW := Lib.hid hw
          clear hw hv
          have t1 : decide ((n : Int) < 2) = false := decide_eq_false h1
          have t2 : decide (1073741824 < (n : Int)) = false := decide_eq_false h2
          have t3 : decide (2 < (n : Int)) = true := decide_eq_true (by omega)
          have t4 : ((n : Int) % 2 == 0) = true := by rw [beq_iff_eq]; omega
          go_enter Tryz.func118, Tryz.ntmps118
          go_wp2
          go_ret
          exact ⟨rfl, rfl⟩

end Go.Proofs.YtjfphobfikadlaaGreatDoor
namespace Go.Proofs.YtjfphobfikadlaaGreatDoor
open Go.RowKit Num Classical

/-- A permitted safe prime. -/
def SafeI (p : Int) : Prop := 3 ≤ p ∧ VPrm p ∧ Prm (2 * p.toNat + 1)
theorem SafeI.sprm {p : Int} (h : SafeI p) : SPrm p.toNat ∧ ((p.toNat : Nat) : Int) = p := by
  obtain ⟨h1, ⟨h2, h3, h4⟩, h5⟩ := h
  refine ⟨⟨h4, h5, by omega, ?_⟩, by omega⟩
  have := prm_odd h4 (by omega)
  omega
noncomputable def modI (p : Int) : Int := if SafeI p then 2 * p + 1 else 0
noncomputable def isSafe (p : Int) : Bool := decide (SafeI p)
def IntR (p : Int) : Prop := -9223372036854775808 ≤ p ∧ p < 9223372036854775808
def ModPost (p : Int) (w : World) (e : Ending) (w' : World) : Prop := e = .returned (.tuple #[.int .i64 (modI p), .bool (isSafe p)]) ∧ w = w'
theorem mod_yes {p : Int} (h : SafeI p) : modI p = 2 * p + 1 ∧ isSafe p = true := by
  unfold modI isSafe
  rw [if_pos h, decide_eq_true h]; exact ⟨rfl, rfl⟩
theorem mod_no {p : Int} (h : ¬ SafeI p) : modI p = 0 ∧ isSafe p = false := by
  unfold modI isSafe
  rw [if_neg h, decide_eq_false h]; exact ⟨rfl, rfl⟩
/-- Member, at any numbers. -/
noncomputable def memI (p x : Int) : Bool := isSafe p && inG p.toNat (2 * p.toNat + 1) x
def BPost (b : Bool) (w : World) (e : Ending) (w' : World) : Prop := e = .returned (.bool b) ∧ Below w.heap.size w w'
/-! ### The reference's -/
theorem prm_lt {n d : Nat} (h2 : 2 ≤ n) (h : ∀ c, 2 ≤ c → c < d → n % c ≠ 0) (hd : n < d * d) : Prm n := by
  apply Classical.byContradiction
  intro hnp
  obtain ⟨s, hs, k, hk⟩ := ex_prm n h2
  have hs2 := hs.1
  have hk1 : k ≠ 0 := by rintro rfl; omega
  have hk2 : k ≠ 1 := by rintro rfl; rw [Nat.mul_one] at hk; exact hnp (by rw [hk]; exact hs)
  have h1 : d ≤ s := by
    rcases Nat.lt_or_ge s d with h' | h'
    · exact absurd (by rw [hk]; exact Nat.mul_mod_right _ _) (h s hs2 h')
    · exact h'
  have h3 : d ≤ k := by
    rcases Nat.lt_or_ge k d with h' | h'
    · exact absurd (by rw [hk]; exact Nat.mul_mod_left _ _) (h k (by omega) h')
    · exact h'
  have := Nat.mul_le_mul h1 h3
  omega
theorem not_prm {n d : Nat} (h2 : 2 ≤ d) (hd : d < n) (h : n % d = 0) : ¬ Prm n := fun hp => by
  rcases hp.2 d (Nat.dvd_of_mod_eq_zero h) with e | e <;> omega
def RB (b : Bool) (w : World) (e : Ending) (w' : World) : Prop := e = .returned (.bool b) ∧ w = w'
set_option maxHeartbeats 400000 in
theorem r_ValidG (p : Int) (w : World) : Calls Tryz.prog 74 #[.int .i64 p] w (RB (decide (VPrm p)) w) := by
  by_cases h1 : p < 2
  · rw [decide_eq_false (fun h : VPrm p => by have := h.1; omega)]
    have t1 : decide (p < 2) = true := decide_eq_true h1
    go_enter Tryz.func74, Tryz.ntmps74
    go_wp2
    go_ret
    exact ⟨rfl, rfl⟩
  · have t1 : decide (p < 2) = false := decide_eq_false h1
    by_cases h2 : 1073741824 < p
    · rw [decide_eq_false (fun h : VPrm p => by have := h.2.1; omega)]
      have t2 : decide (1073741824 < p) = true := decide_eq_true h2
      go_enter Tryz.func74, Tryz.ntmps74
      go_wp2
      go_ret
      exact ⟨rfl, rfl⟩
    · have t2 : decide (1073741824 < p) = false := decide_eq_false h2
      obtain ⟨n, rfl⟩ := Int.eq_ofNat_of_zero_le (show 0 ≤ p by omega)
      obtain ⟨β, hβ⟩ : ∃ β, decide (VPrm (n : Int)) = β := ⟨_, rfl⟩
      rw [hβ]
      have hv : β = decide (Prm n) := by
        rw [← hβ, decide_eq_decide]
        unfold VPrm
        rw [Int.toNat_natCast]
        exact ⟨fun h => h.2.2, fun h => ⟨by omega, by omega, h⟩⟩
      have HV := Lib.hid hv
      clear hv hβ
      go_enter Tryz.func74, Tryz.ntmps74
      go_wp2_with fail
      go_loop [3] (fun i => ∃ d : Nat, 2 ≤ d ∧ d ≤ 32769 ∧ i = .int .i64 d ∧ ∀ c, 2 ≤ c → c < d → n % c ≠ 0) (fun i => 32769 - (intOf i).toNat)
      case atStart => exact ⟨2, by omega, by omega, rfl, fun c h1 h2 => by omega⟩
      case round =>
        obtain ⟨d, hd2, hd3, rfl, hall⟩ := hrel
        have sq : d * d ≤ 32769 * 32769 := Nat.mul_le_mul hd3 hd3
        have e1 : ((d : Int) * (d : Int)) = ((d * d : Nat) : Int) := (Int.natCast_mul d d).symm
        have b0 : (0 : Int) ≤ (d : Int) * (d : Int) := by omega
        have b1 : (d : Int) * (d : Int) ≤ 1073807361 := by omega
        have HA := Lib.hid hall
        clear hall
        by_cases hl : d * d ≤ n
        · have hdd : d ≤ 32768 := by
            rcases Nat.lt_or_ge 32768 d with h | h
            · have := Nat.mul_le_mul h h; omega
            · exact h
          have hdp : d < n := by
            have : d * 2 ≤ d * d := Nat.mul_le_mul_left d hd2
            omega
          have t3 : decide ((d : Int) * (d : Int) ≤ (n : Int)) = true := decide_eq_true (by omega)
          by_cases hm : n % d = 0
          · have t4 : ((n : Int) % (d : Int) == 0) = true := by
              rw [← Int.natCast_emod, beq_iff_eq]; omega
            have hres : β = false := by rw [HV.out]; exact decide_eq_false (not_prm hd2 hdp hm)
            have HR := Lib.hid hres
            clear e1 hm sq hl hres
            go_wp2_with fail
            go_ret
            rw [HR.out]
            exact ⟨rfl, rfl⟩
          · have t4 : ((n : Int) % (d : Int) == 0) = false := by
              rw [← Int.natCast_emod]
              simp only [beq_eq_false_iff_ne]; omega
            have HM := Lib.hid hm
            clear e1 hm sq hl
            go_wp2_with fail
            go_round
            case rel => exact ⟨d + 1, by omega, by omega, by go_num, fun c h1 h2 => by
              rcases Nat.eq_or_lt_of_le (Nat.le_of_lt_succ h2) with e | e
              · subst e; exact HM.out
              · exact HA.out c h1 e⟩
            case measure => simp [intOf]; omega
        · have t3 : decide ((d : Int) * (d : Int) ≤ (n : Int)) = false := decide_eq_false (by omega)
          have hres : β = true := by rw [HV.out]; exact decide_eq_true (prm_lt (by omega) HA.out (by omega))
          have HR := Lib.hid hres
          clear e1 sq hl hres
          go_wp2_with fail
          go_ret
          rw [HR.out]
          exact ⟨rfl, rfl⟩
end Go.Proofs.YtjfphobfikadlaaGreatDoor

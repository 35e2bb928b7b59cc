/- Up to 2 to the power of 30 what passes the test of Miller and Rabin with 2, 3, 5 and 7 is prime. No program stands in it. -/
import Derived.Test.YtmneokkdkgflkaaDoorMrRun1
import Derived.Test.YtmneokkdkgflkaaDoorMrRun2
set_option linter.unusedVariables false
set_option linter.unusedSimpArgs false
namespace Go.Proofs.YtmneokkdkgflkaaDoor.Num

theorem tab_desc : tab.Pairwise (fun a b => b.1 < a.1) := by decide +kernel
theorem tab_len : tab.length = 91 := by decide +kernel
theorem no_small {n r : Nat} (hp : Psp n) (hr : Prm r) (hd : r ∣ n) (hmax : ∀ s, Prm s → s ∣ n → s ≤ r) (h : r ≤ 500) : False := by
  have h11 := hp.ge11 hr hd
  obtain ⟨L, hL⟩ := tab_mem hr h11 h
  obtain ⟨i, hi, he⟩ := List.getElem_of_mem hL
  have hdrop : tab.drop i = (r, L) :: tab.drop (i + 1) := by rw [List.drop_eq_getElem_cons hi, he]
  have hi91 := hi
  rw [tab_len] at hi91
  have hrun : dfs 300 1 r L ((r, L) :: tab.drop (i + 1)) = true := by
    rcases Nat.lt_or_ge i 30 with h1 | h1
    · exact tops_spec 30 (tab.drop 0) tops0 i (r, L) _ h1 (by rw [List.drop_zero]; exact hdrop)
    · rcases Nat.lt_or_ge i 60 with h2 | h2
      · exact tops_spec 30 (tab.drop 30) tops1 (i - 30) (r, L) _ (by omega) (by rw [List.drop_drop, show 30 + (i - 30) = i by omega]; exact hdrop)
      · exact tops_spec 31 (tab.drop 60) tops2 (i - 60) (r, L) _ (by omega) (by rw [List.drop_drop, show 60 + (i - 60) = i by omega]; exact hdrop)
  obtain ⟨_, hok, hL0, hL1⟩ := tabOk.all (r, L) hL
  have hsub : ∀ x ∈ (r, L) :: tab.drop (i + 1), x ∈ tab := fun x hx => by rw [← hdrop] at hx; exact List.mem_of_mem_drop hx
  refine dfs_spec hp 300 1 r L _ hrun (fun _ => .inr hr) (fun h => by omega) hd (okL_spec hok (by omega) hL0 hL1 (hp.all1 hr hd)) hL0 (fun s h1 h2 => ?_) ⟨fun x hx => tabOk.all x (hsub x hx)⟩
  have hsn : s ∣ n := Nat.dvd_trans h2 (Nat.div_dvd_of_dvd hd)
  have hsr := hmax s h1 hsn
  obtain ⟨Ls, hLs⟩ := tab_mem h1 (hp.ge11 h1 hsn) (by omega)
  refine ⟨Ls, ?_⟩
  rw [← hdrop]
  rw [← List.take_append_drop i tab, List.mem_append] at hLs
  rcases hLs with h3 | h3
  · exfalso
    have hpw := tab_desc
    rw [← List.take_append_drop i tab, List.pairwise_append] at hpw
    have := hpw.2.2 _ h3 (r, L) (by rw [hdrop]; simp)
    change r < s at this
    omega
  · exact h3
theorem no_mid {n r : Nat} (hp : Psp n) (hr : Prm r) (hd : r ∣ n) (hodd : n % 2 = 1) (h : 500 < r) (h2 : r < 32768) : False := by
  have ho : r % 2 = 1 := by
    rcases Nat.mod_two_eq_zero_or_one r with e | e
    · exfalso
      have := Nat.dvd_trans (Nat.dvd_of_mod_eq_zero e) hd
      have := Nat.mod_eq_zero_of_dvd this
      omega
    · exact e
  refine lv_spec ?_ hp hr hd (by omega) h2
  rcases Nat.lt_or_ge r 701 with h3 | h3
  · have := lvs_spec 100 lvs0 ((r - 501) / 2) (by omega)
    rwa [show 501 + 2 * ((r - 501) / 2) = r by omega] at this
  · rcases Nat.lt_or_ge r 1001 with h4 | h4
    · have := lvs_spec 150 lvs1 ((r - 701) / 2) (by omega)
      rwa [show 701 + 2 * ((r - 701) / 2) = r by omega] at this
    · rcases Nat.lt_or_ge r 3001 with h5 | h5
      · have := lvs_spec 1000 lvs2 ((r - 1001) / 2) (by omega)
        rwa [show 1001 + 2 * ((r - 1001) / 2) = r by omega] at this
      · have := lvs_spec 14884 lvs3 ((r - 3001) / 2) (by omega)
        rwa [show 3001 + 2 * ((r - 3001) / 2) = r by omega] at this
theorem chk_all (k : Nat) (h1 : 11 ≤ k) (h2 : k < 32768) (h3 : k % 2 = 1) (h4 : Nat.gcd k 105 = 1) : chkA (Mrec 32768) k = true := by
  rcases Nat.lt_or_ge k 16011 with h5 | h5
  · have c := chks0
    rw [frc_eq] at c
    have := chks_spec 8000 c ((k - 11) / 2) (by omega) (by rw [show 11 + 2 * ((k - 11) / 2) = k by omega]; exact h4)
    rwa [show 11 + 2 * ((k - 11) / 2) = k by omega] at this
  · have c := chks1
    rw [frc_eq] at c
    have := chks_spec 8379 c ((k - 16011) / 2) (by omega) (by rw [show 16011 + 2 * ((k - 16011) / 2) = k by omega]; exact h4)
    rwa [show 16011 + 2 * ((k - 16011) / 2) = k by omega] at this
/-- **What passes is prime.** -/
theorem mr_all {n : Nat} (h2 : 2 < n) (hle : n ≤ 1073741824) (hodd : n % 2 = 1) (h3 : n % 3 ≠ 0) (h5 : n % 5 ≠ 0) (h7 : n % 7 ≠ 0) (m2 : mrB n 2 = true) (m3 : mrB n 3 = true) (m5 : mrB n 5 = true) (m7 : mrB n 7 = true) : Prm n := by
  apply Classical.byContradiction
  intro hnp
  have hp : Psp n := by
    refine ⟨h2, hle, hnp, ?_, ?_, bad2_of h2 hodd m2 m3 m5 m7⟩
    · rintro b (rfl | rfl | rfl | rfl) hd <;> have := Nat.mod_eq_zero_of_dvd hd <;> omega
    · rintro b (rfl | rfl | rfl | rfl)
      · exact fer_mrB h2 hodd m2
      · exact fer_mrB h2 hodd m3
      · exact fer_mrB h2 hodd m5
      · exact fer_mrB h2 hodd m7
  obtain ⟨r, hr, hd, hmax⟩ := max_prm (n := n) (by omega)
  rcases Nat.lt_or_ge 32768 r with h | h
  · exact no_great chk_all hp hr hd h
  · rcases Nat.lt_or_ge 500 r with h1 | h1
    · refine no_mid hp hr hd hodd h1 ?_
      rcases Nat.eq_or_lt_of_le h with e | e
      · exfalso
        subst e
        rcases hr.2 2 ⟨16384, rfl⟩ with e | e <;> omega
      · exact e
    · exact no_small hp hr hd hmax h1
end Go.Proofs.YtmneokkdkgflkaaDoor.Num

/- The marks of right and wrong shares differ. -/
import Derived.Test.YtjfphobfikadlaaGreatDoorW30
import Derived.Test.YtjfphobfikadlaaGreatDoorW23
import Derived.Test.YtjfphobfikadlaaGreatDoorW31
import Derived.Test.YtjfphobfikadlaaGreatDoorW32
import Derived.Test.YtjfphobfikadlaaGreatDoorW33
import Derived.Test.YtjfphobfikadlaaGreatDoorW34
import Derived.Test.YtjfphobfikadlaaGreatDoorW35
import Derived.Test.YtjfphobfikadlaaGreatDoorW36
import Derived.Test.YtjfphobfikadlaaGreatDoorW37
import Derived.Test.YtjfphobfikadlaaGreatDoorW38
import Derived.Test.YtjfphobfikadlaaGreatDoorW39
import Derived.Test.YtjfphobfikadlaaGreatDoorW40
import Derived.Test.YtjfphobfikadlaaGreatDoorW41
import Derived.Test.YtjfphobfikadlaaGreatDoorW42
set_option linter.unusedVariables false
set_option linter.unusedSimpArgs false
set_option maxRecDepth 100000
namespace Go.Proofs.YtjfphobfikadlaaGreatDoor
open Go.RowKit Num

namespace Lane
theorem vlN_zero (p s0 h d : Nat) : ∀ (sec : List Nat) (c : Nat), vlN p s0 h 0 d sec c = vlN p 0 h 0 d sec c
  | [], _ => rfl
  | s :: t, c => by simp only [vlN, sN, vlN_zero p s0 h d t (c + 0)]
theorem mbB_zero (p s0 h d : Nat) (sec : List Nat) : mbB p s0 h 0 d sec = mbB p 0 h 0 d sec := by
  unfold mbB mbL
  rw [vlN_zero]
/-- What the tables say of one prime, one salt. -/
def TabOk (p : Nat) (sec : List Nat) : Prop := ∀ k h s, k ≤ 2 → 1 ≤ h → h ≤ 5 → s < p → s < 1000 → shaOf (mbB p s h k 0 sec) ≠ shaOf (mbB p s h k 1 sec)
theorem tab_of {p n B0 B1 h k cnt a : Nat} {sec : List Nat} (hp0 : 0 < p) (hp : p < 1073741824) (hh : h ≤ 5) (hn : sec.length = n) (hn2 : n ≤ 200) (hg : grp p h k n B0 B1 sec a cnt = true) (s : Nat) (h1 : a ≤ s) (h2 : s < a + cnt) : shaOf (mbB p s h k 0 sec) ≠ shaOf (mbB p s h k 1 sec) := by
  have := grp_ok p h k n B0 B1 sec a cnt hp0 hp (by omega) hn (by omega) (fun d s0 => mbL_len _ _ _ _ _ _ (by omega)) hg (s - a) (by omega)
  rwa [show a + (s - a) = s by omega] at this
theorem tab_zero {p n B0 B1 h : Nat} {sec : List Nat} (hp0 : 0 < p) (hp : p < 1073741824) (hh : h ≤ 5) (hn : sec.length = n) (hn2 : n ≤ 200) (hg : grp p h 0 n B0 B1 sec 0 1 = true) (s : Nat) : shaOf (mbB p s h 0 0 sec) ≠ shaOf (mbB p s h 0 1 sec) := by
  rw [mbB_zero p s, mbB_zero p s]
  exact tab_of hp0 hp hh hn hn2 hg 0 (by omega) (by omega)
theorem tabOk500000003_97 : TabOk 500000003 sec3_97 := by
  intro k h s hk h1 h2 hs hs2
  have hkk : k = 0 ∨ k = 1 ∨ k = 2 := by omega
  have hhh : h = 1 ∨ h = 2 ∨ h = 3 ∨ h = 4 ∨ h = 5 := by omega
  rcases hkk with rfl | rfl | rfl <;> rcases hhh with rfl | rfl | rfl | rfl | rfl
  · exact tab_zero (p := 500000003) (n := 6) (h := 1) (sec := sec3_97) (by decide) (by decide) (by decide) rfl (by decide) tabP_97_0_1 s
  · exact tab_zero (p := 500000003) (n := 6) (h := 2) (sec := sec3_97) (by decide) (by decide) (by decide) rfl (by decide) tabP_97_0_2 s
  · exact tab_zero (p := 500000003) (n := 6) (h := 3) (sec := sec3_97) (by decide) (by decide) (by decide) rfl (by decide) tabP_97_0_3 s
  · exact tab_zero (p := 500000003) (n := 6) (h := 4) (sec := sec3_97) (by decide) (by decide) (by decide) rfl (by decide) tabP_97_0_4 s
  · exact tab_zero (p := 500000003) (n := 6) (h := 5) (sec := sec3_97) (by decide) (by decide) (by decide) rfl (by decide) tabP_97_0_5 s
  · exact tab_of (p := 500000003) (n := 6) (h := 1) (sec := sec3_97) (k := 1) (a := 0) (cnt := 1000) (by decide) (by decide) (by decide) rfl (by decide) tabP_97_1_1 s (by omega) (by omega)
  · exact tab_of (p := 500000003) (n := 6) (h := 2) (sec := sec3_97) (k := 1) (a := 0) (cnt := 1000) (by decide) (by decide) (by decide) rfl (by decide) tabP_97_1_2 s (by omega) (by omega)
  · exact tab_of (p := 500000003) (n := 6) (h := 3) (sec := sec3_97) (k := 1) (a := 0) (cnt := 1000) (by decide) (by decide) (by decide) rfl (by decide) tabP_97_1_3 s (by omega) (by omega)
  · exact tab_of (p := 500000003) (n := 6) (h := 4) (sec := sec3_97) (k := 1) (a := 0) (cnt := 1000) (by decide) (by decide) (by decide) rfl (by decide) tabP_97_1_4 s (by omega) (by omega)
  · exact tab_of (p := 500000003) (n := 6) (h := 5) (sec := sec3_97) (k := 1) (a := 0) (cnt := 1000) (by decide) (by decide) (by decide) rfl (by decide) tabP_97_1_5 s (by omega) (by omega)
  · exact tab_of (p := 500000003) (n := 6) (h := 1) (sec := sec3_97) (k := 2) (a := 0) (cnt := 1000) (by decide) (by decide) (by decide) rfl (by decide) tabP_97_2_1 s (by omega) (by omega)
  · exact tab_of (p := 500000003) (n := 6) (h := 2) (sec := sec3_97) (k := 2) (a := 0) (cnt := 1000) (by decide) (by decide) (by decide) rfl (by decide) tabP_97_2_2 s (by omega) (by omega)
  · exact tab_of (p := 500000003) (n := 6) (h := 3) (sec := sec3_97) (k := 2) (a := 0) (cnt := 1000) (by decide) (by decide) (by decide) rfl (by decide) tabP_97_2_3 s (by omega) (by omega)
  · exact tab_of (p := 500000003) (n := 6) (h := 4) (sec := sec3_97) (k := 2) (a := 0) (cnt := 1000) (by decide) (by decide) (by decide) rfl (by decide) tabP_97_2_4 s (by omega) (by omega)
  · exact tab_of (p := 500000003) (n := 6) (h := 5) (sec := sec3_97) (k := 2) (a := 0) (cnt := 1000) (by decide) (by decide) (by decide) rfl (by decide) tabP_97_2_5 s (by omega) (by omega)
theorem tabOk500000003_98 : TabOk 500000003 sec3_98 := by
  intro k h s hk h1 h2 hs hs2
  have hkk : k = 0 ∨ k = 1 ∨ k = 2 := by omega
  have hhh : h = 1 ∨ h = 2 ∨ h = 3 ∨ h = 4 ∨ h = 5 := by omega
  rcases hkk with rfl | rfl | rfl <;> rcases hhh with rfl | rfl | rfl | rfl | rfl
  · exact tab_zero (p := 500000003) (n := 6) (h := 1) (sec := sec3_98) (by decide) (by decide) (by decide) rfl (by decide) tabP_98_0_1 s
  · exact tab_zero (p := 500000003) (n := 6) (h := 2) (sec := sec3_98) (by decide) (by decide) (by decide) rfl (by decide) tabP_98_0_2 s
  · exact tab_zero (p := 500000003) (n := 6) (h := 3) (sec := sec3_98) (by decide) (by decide) (by decide) rfl (by decide) tabP_98_0_3 s
  · exact tab_zero (p := 500000003) (n := 6) (h := 4) (sec := sec3_98) (by decide) (by decide) (by decide) rfl (by decide) tabP_98_0_4 s
  · exact tab_zero (p := 500000003) (n := 6) (h := 5) (sec := sec3_98) (by decide) (by decide) (by decide) rfl (by decide) tabP_98_0_5 s
  · exact tab_of (p := 500000003) (n := 6) (h := 1) (sec := sec3_98) (k := 1) (a := 0) (cnt := 1000) (by decide) (by decide) (by decide) rfl (by decide) tabP_98_1_1 s (by omega) (by omega)
  · exact tab_of (p := 500000003) (n := 6) (h := 2) (sec := sec3_98) (k := 1) (a := 0) (cnt := 1000) (by decide) (by decide) (by decide) rfl (by decide) tabP_98_1_2 s (by omega) (by omega)
  · exact tab_of (p := 500000003) (n := 6) (h := 3) (sec := sec3_98) (k := 1) (a := 0) (cnt := 1000) (by decide) (by decide) (by decide) rfl (by decide) tabP_98_1_3 s (by omega) (by omega)
  · exact tab_of (p := 500000003) (n := 6) (h := 4) (sec := sec3_98) (k := 1) (a := 0) (cnt := 1000) (by decide) (by decide) (by decide) rfl (by decide) tabP_98_1_4 s (by omega) (by omega)
  · exact tab_of (p := 500000003) (n := 6) (h := 5) (sec := sec3_98) (k := 1) (a := 0) (cnt := 1000) (by decide) (by decide) (by decide) rfl (by decide) tabP_98_1_5 s (by omega) (by omega)
  · exact tab_of (p := 500000003) (n := 6) (h := 1) (sec := sec3_98) (k := 2) (a := 0) (cnt := 1000) (by decide) (by decide) (by decide) rfl (by decide) tabP_98_2_1 s (by omega) (by omega)
  · exact tab_of (p := 500000003) (n := 6) (h := 2) (sec := sec3_98) (k := 2) (a := 0) (cnt := 1000) (by decide) (by decide) (by decide) rfl (by decide) tabP_98_2_2 s (by omega) (by omega)
  · exact tab_of (p := 500000003) (n := 6) (h := 3) (sec := sec3_98) (k := 2) (a := 0) (cnt := 1000) (by decide) (by decide) (by decide) rfl (by decide) tabP_98_2_3 s (by omega) (by omega)
  · exact tab_of (p := 500000003) (n := 6) (h := 4) (sec := sec3_98) (k := 2) (a := 0) (cnt := 1000) (by decide) (by decide) (by decide) rfl (by decide) tabP_98_2_4 s (by omega) (by omega)
  · exact tab_of (p := 500000003) (n := 6) (h := 5) (sec := sec3_98) (k := 2) (a := 0) (cnt := 1000) (by decide) (by decide) (by decide) rfl (by decide) tabP_98_2_5 s (by omega) (by omega)
theorem tabOk500000003_99 : TabOk 500000003 sec3_99 := by
  intro k h s hk h1 h2 hs hs2
  have hkk : k = 0 ∨ k = 1 ∨ k = 2 := by omega
  have hhh : h = 1 ∨ h = 2 ∨ h = 3 ∨ h = 4 ∨ h = 5 := by omega
  rcases hkk with rfl | rfl | rfl <;> rcases hhh with rfl | rfl | rfl | rfl | rfl
  · exact tab_zero (p := 500000003) (n := 6) (h := 1) (sec := sec3_99) (by decide) (by decide) (by decide) rfl (by decide) tabP_99_0_1 s
  · exact tab_zero (p := 500000003) (n := 6) (h := 2) (sec := sec3_99) (by decide) (by decide) (by decide) rfl (by decide) tabP_99_0_2 s
  · exact tab_zero (p := 500000003) (n := 6) (h := 3) (sec := sec3_99) (by decide) (by decide) (by decide) rfl (by decide) tabP_99_0_3 s
  · exact tab_zero (p := 500000003) (n := 6) (h := 4) (sec := sec3_99) (by decide) (by decide) (by decide) rfl (by decide) tabP_99_0_4 s
  · exact tab_zero (p := 500000003) (n := 6) (h := 5) (sec := sec3_99) (by decide) (by decide) (by decide) rfl (by decide) tabP_99_0_5 s
  · exact tab_of (p := 500000003) (n := 6) (h := 1) (sec := sec3_99) (k := 1) (a := 0) (cnt := 1000) (by decide) (by decide) (by decide) rfl (by decide) tabP_99_1_1 s (by omega) (by omega)
  · exact tab_of (p := 500000003) (n := 6) (h := 2) (sec := sec3_99) (k := 1) (a := 0) (cnt := 1000) (by decide) (by decide) (by decide) rfl (by decide) tabP_99_1_2 s (by omega) (by omega)
  · exact tab_of (p := 500000003) (n := 6) (h := 3) (sec := sec3_99) (k := 1) (a := 0) (cnt := 1000) (by decide) (by decide) (by decide) rfl (by decide) tabP_99_1_3 s (by omega) (by omega)
  · exact tab_of (p := 500000003) (n := 6) (h := 4) (sec := sec3_99) (k := 1) (a := 0) (cnt := 1000) (by decide) (by decide) (by decide) rfl (by decide) tabP_99_1_4 s (by omega) (by omega)
  · exact tab_of (p := 500000003) (n := 6) (h := 5) (sec := sec3_99) (k := 1) (a := 0) (cnt := 1000) (by decide) (by decide) (by decide) rfl (by decide) tabP_99_1_5 s (by omega) (by omega)
  · exact tab_of (p := 500000003) (n := 6) (h := 1) (sec := sec3_99) (k := 2) (a := 0) (cnt := 1000) (by decide) (by decide) (by decide) rfl (by decide) tabP_99_2_1 s (by omega) (by omega)
  · exact tab_of (p := 500000003) (n := 6) (h := 2) (sec := sec3_99) (k := 2) (a := 0) (cnt := 1000) (by decide) (by decide) (by decide) rfl (by decide) tabP_99_2_2 s (by omega) (by omega)
  · exact tab_of (p := 500000003) (n := 6) (h := 3) (sec := sec3_99) (k := 2) (a := 0) (cnt := 1000) (by decide) (by decide) (by decide) rfl (by decide) tabP_99_2_3 s (by omega) (by omega)
  · exact tab_of (p := 500000003) (n := 6) (h := 4) (sec := sec3_99) (k := 2) (a := 0) (cnt := 1000) (by decide) (by decide) (by decide) rfl (by decide) tabP_99_2_4 s (by omega) (by omega)
  · exact tab_of (p := 500000003) (n := 6) (h := 5) (sec := sec3_99) (k := 2) (a := 0) (cnt := 1000) (by decide) (by decide) (by decide) rfl (by decide) tabP_99_2_5 s (by omega) (by omega)
theorem tabOk11_97 : TabOk 11 sec0_97 := by
  intro k h s hk h1 h2 hs hs2
  have hkk : k = 0 ∨ k = 1 ∨ k = 2 := by omega
  have hhh : h = 1 ∨ h = 2 ∨ h = 3 ∨ h = 4 ∨ h = 5 := by omega
  rcases hkk with rfl | rfl | rfl <;> rcases hhh with rfl | rfl | rfl | rfl | rfl
  · exact tab_zero (p := 11) (n := 128) (h := 1) (sec := sec0_97) (by decide) (by decide) (by decide) rfl (by decide) tabS11_97_0_1 s
  · exact tab_zero (p := 11) (n := 128) (h := 2) (sec := sec0_97) (by decide) (by decide) (by decide) rfl (by decide) tabS11_97_0_2 s
  · exact tab_zero (p := 11) (n := 128) (h := 3) (sec := sec0_97) (by decide) (by decide) (by decide) rfl (by decide) tabS11_97_0_3 s
  · exact tab_zero (p := 11) (n := 128) (h := 4) (sec := sec0_97) (by decide) (by decide) (by decide) rfl (by decide) tabS11_97_0_4 s
  · exact tab_zero (p := 11) (n := 128) (h := 5) (sec := sec0_97) (by decide) (by decide) (by decide) rfl (by decide) tabS11_97_0_5 s
  · exact tab_of (p := 11) (n := 128) (h := 1) (sec := sec0_97) (k := 1) (a := 0) (cnt := 11) (by decide) (by decide) (by decide) rfl (by decide) tabS11_97_1_1 s (by omega) (by omega)
  · exact tab_of (p := 11) (n := 128) (h := 2) (sec := sec0_97) (k := 1) (a := 0) (cnt := 11) (by decide) (by decide) (by decide) rfl (by decide) tabS11_97_1_2 s (by omega) (by omega)
  · exact tab_of (p := 11) (n := 128) (h := 3) (sec := sec0_97) (k := 1) (a := 0) (cnt := 11) (by decide) (by decide) (by decide) rfl (by decide) tabS11_97_1_3 s (by omega) (by omega)
  · exact tab_of (p := 11) (n := 128) (h := 4) (sec := sec0_97) (k := 1) (a := 0) (cnt := 11) (by decide) (by decide) (by decide) rfl (by decide) tabS11_97_1_4 s (by omega) (by omega)
  · exact tab_of (p := 11) (n := 128) (h := 5) (sec := sec0_97) (k := 1) (a := 0) (cnt := 11) (by decide) (by decide) (by decide) rfl (by decide) tabS11_97_1_5 s (by omega) (by omega)
  · exact tab_of (p := 11) (n := 128) (h := 1) (sec := sec0_97) (k := 2) (a := 0) (cnt := 11) (by decide) (by decide) (by decide) rfl (by decide) tabS11_97_2_1 s (by omega) (by omega)
  · exact tab_of (p := 11) (n := 128) (h := 2) (sec := sec0_97) (k := 2) (a := 0) (cnt := 11) (by decide) (by decide) (by decide) rfl (by decide) tabS11_97_2_2 s (by omega) (by omega)
  · exact tab_of (p := 11) (n := 128) (h := 3) (sec := sec0_97) (k := 2) (a := 0) (cnt := 11) (by decide) (by decide) (by decide) rfl (by decide) tabS11_97_2_3 s (by omega) (by omega)
  · exact tab_of (p := 11) (n := 128) (h := 4) (sec := sec0_97) (k := 2) (a := 0) (cnt := 11) (by decide) (by decide) (by decide) rfl (by decide) tabS11_97_2_4 s (by omega) (by omega)
  · exact tab_of (p := 11) (n := 128) (h := 5) (sec := sec0_97) (k := 2) (a := 0) (cnt := 11) (by decide) (by decide) (by decide) rfl (by decide) tabS11_97_2_5 s (by omega) (by omega)
theorem tabOk11_98 : TabOk 11 sec0_98 := by
  intro k h s hk h1 h2 hs hs2
  have hkk : k = 0 ∨ k = 1 ∨ k = 2 := by omega
  have hhh : h = 1 ∨ h = 2 ∨ h = 3 ∨ h = 4 ∨ h = 5 := by omega
  rcases hkk with rfl | rfl | rfl <;> rcases hhh with rfl | rfl | rfl | rfl | rfl
  · exact tab_zero (p := 11) (n := 128) (h := 1) (sec := sec0_98) (by decide) (by decide) (by decide) rfl (by decide) tabS11_98_0_1 s
  · exact tab_zero (p := 11) (n := 128) (h := 2) (sec := sec0_98) (by decide) (by decide) (by decide) rfl (by decide) tabS11_98_0_2 s
  · exact tab_zero (p := 11) (n := 128) (h := 3) (sec := sec0_98) (by decide) (by decide) (by decide) rfl (by decide) tabS11_98_0_3 s
  · exact tab_zero (p := 11) (n := 128) (h := 4) (sec := sec0_98) (by decide) (by decide) (by decide) rfl (by decide) tabS11_98_0_4 s
  · exact tab_zero (p := 11) (n := 128) (h := 5) (sec := sec0_98) (by decide) (by decide) (by decide) rfl (by decide) tabS11_98_0_5 s
  · exact tab_of (p := 11) (n := 128) (h := 1) (sec := sec0_98) (k := 1) (a := 0) (cnt := 11) (by decide) (by decide) (by decide) rfl (by decide) tabS11_98_1_1 s (by omega) (by omega)
  · exact tab_of (p := 11) (n := 128) (h := 2) (sec := sec0_98) (k := 1) (a := 0) (cnt := 11) (by decide) (by decide) (by decide) rfl (by decide) tabS11_98_1_2 s (by omega) (by omega)
  · exact tab_of (p := 11) (n := 128) (h := 3) (sec := sec0_98) (k := 1) (a := 0) (cnt := 11) (by decide) (by decide) (by decide) rfl (by decide) tabS11_98_1_3 s (by omega) (by omega)
  · exact tab_of (p := 11) (n := 128) (h := 4) (sec := sec0_98) (k := 1) (a := 0) (cnt := 11) (by decide) (by decide) (by decide) rfl (by decide) tabS11_98_1_4 s (by omega) (by omega)
  · exact tab_of (p := 11) (n := 128) (h := 5) (sec := sec0_98) (k := 1) (a := 0) (cnt := 11) (by decide) (by decide) (by decide) rfl (by decide) tabS11_98_1_5 s (by omega) (by omega)
  · exact tab_of (p := 11) (n := 128) (h := 1) (sec := sec0_98) (k := 2) (a := 0) (cnt := 11) (by decide) (by decide) (by decide) rfl (by decide) tabS11_98_2_1 s (by omega) (by omega)
  · exact tab_of (p := 11) (n := 128) (h := 2) (sec := sec0_98) (k := 2) (a := 0) (cnt := 11) (by decide) (by decide) (by decide) rfl (by decide) tabS11_98_2_2 s (by omega) (by omega)
  · exact tab_of (p := 11) (n := 128) (h := 3) (sec := sec0_98) (k := 2) (a := 0) (cnt := 11) (by decide) (by decide) (by decide) rfl (by decide) tabS11_98_2_3 s (by omega) (by omega)
  · exact tab_of (p := 11) (n := 128) (h := 4) (sec := sec0_98) (k := 2) (a := 0) (cnt := 11) (by decide) (by decide) (by decide) rfl (by decide) tabS11_98_2_4 s (by omega) (by omega)
  · exact tab_of (p := 11) (n := 128) (h := 5) (sec := sec0_98) (k := 2) (a := 0) (cnt := 11) (by decide) (by decide) (by decide) rfl (by decide) tabS11_98_2_5 s (by omega) (by omega)
theorem tabOk11_99 : TabOk 11 sec0_99 := by
  intro k h s hk h1 h2 hs hs2
  have hkk : k = 0 ∨ k = 1 ∨ k = 2 := by omega
  have hhh : h = 1 ∨ h = 2 ∨ h = 3 ∨ h = 4 ∨ h = 5 := by omega
  rcases hkk with rfl | rfl | rfl <;> rcases hhh with rfl | rfl | rfl | rfl | rfl
  · exact tab_zero (p := 11) (n := 128) (h := 1) (sec := sec0_99) (by decide) (by decide) (by decide) rfl (by decide) tabS11_99_0_1 s
  · exact tab_zero (p := 11) (n := 128) (h := 2) (sec := sec0_99) (by decide) (by decide) (by decide) rfl (by decide) tabS11_99_0_2 s
  · exact tab_zero (p := 11) (n := 128) (h := 3) (sec := sec0_99) (by decide) (by decide) (by decide) rfl (by decide) tabS11_99_0_3 s
  · exact tab_zero (p := 11) (n := 128) (h := 4) (sec := sec0_99) (by decide) (by decide) (by decide) rfl (by decide) tabS11_99_0_4 s
  · exact tab_zero (p := 11) (n := 128) (h := 5) (sec := sec0_99) (by decide) (by decide) (by decide) rfl (by decide) tabS11_99_0_5 s
  · exact tab_of (p := 11) (n := 128) (h := 1) (sec := sec0_99) (k := 1) (a := 0) (cnt := 11) (by decide) (by decide) (by decide) rfl (by decide) tabS11_99_1_1 s (by omega) (by omega)
  · exact tab_of (p := 11) (n := 128) (h := 2) (sec := sec0_99) (k := 1) (a := 0) (cnt := 11) (by decide) (by decide) (by decide) rfl (by decide) tabS11_99_1_2 s (by omega) (by omega)
  · exact tab_of (p := 11) (n := 128) (h := 3) (sec := sec0_99) (k := 1) (a := 0) (cnt := 11) (by decide) (by decide) (by decide) rfl (by decide) tabS11_99_1_3 s (by omega) (by omega)
  · exact tab_of (p := 11) (n := 128) (h := 4) (sec := sec0_99) (k := 1) (a := 0) (cnt := 11) (by decide) (by decide) (by decide) rfl (by decide) tabS11_99_1_4 s (by omega) (by omega)
  · exact tab_of (p := 11) (n := 128) (h := 5) (sec := sec0_99) (k := 1) (a := 0) (cnt := 11) (by decide) (by decide) (by decide) rfl (by decide) tabS11_99_1_5 s (by omega) (by omega)
  · exact tab_of (p := 11) (n := 128) (h := 1) (sec := sec0_99) (k := 2) (a := 0) (cnt := 11) (by decide) (by decide) (by decide) rfl (by decide) tabS11_99_2_1 s (by omega) (by omega)
  · exact tab_of (p := 11) (n := 128) (h := 2) (sec := sec0_99) (k := 2) (a := 0) (cnt := 11) (by decide) (by decide) (by decide) rfl (by decide) tabS11_99_2_2 s (by omega) (by omega)
  · exact tab_of (p := 11) (n := 128) (h := 3) (sec := sec0_99) (k := 2) (a := 0) (cnt := 11) (by decide) (by decide) (by decide) rfl (by decide) tabS11_99_2_3 s (by omega) (by omega)
  · exact tab_of (p := 11) (n := 128) (h := 4) (sec := sec0_99) (k := 2) (a := 0) (cnt := 11) (by decide) (by decide) (by decide) rfl (by decide) tabS11_99_2_4 s (by omega) (by omega)
  · exact tab_of (p := 11) (n := 128) (h := 5) (sec := sec0_99) (k := 2) (a := 0) (cnt := 11) (by decide) (by decide) (by decide) rfl (by decide) tabS11_99_2_5 s (by omega) (by omega)
theorem tabOk23_97 : TabOk 23 sec0_97 := by
  intro k h s hk h1 h2 hs hs2
  have hkk : k = 0 ∨ k = 1 ∨ k = 2 := by omega
  have hhh : h = 1 ∨ h = 2 ∨ h = 3 ∨ h = 4 ∨ h = 5 := by omega
  rcases hkk with rfl | rfl | rfl <;> rcases hhh with rfl | rfl | rfl | rfl | rfl
  · exact tab_zero (p := 23) (n := 128) (h := 1) (sec := sec0_97) (by decide) (by decide) (by decide) rfl (by decide) tabS23_97_0_1 s
  · exact tab_zero (p := 23) (n := 128) (h := 2) (sec := sec0_97) (by decide) (by decide) (by decide) rfl (by decide) tabS23_97_0_2 s
  · exact tab_zero (p := 23) (n := 128) (h := 3) (sec := sec0_97) (by decide) (by decide) (by decide) rfl (by decide) tabS23_97_0_3 s
  · exact tab_zero (p := 23) (n := 128) (h := 4) (sec := sec0_97) (by decide) (by decide) (by decide) rfl (by decide) tabS23_97_0_4 s
  · exact tab_zero (p := 23) (n := 128) (h := 5) (sec := sec0_97) (by decide) (by decide) (by decide) rfl (by decide) tabS23_97_0_5 s
  · exact tab_of (p := 23) (n := 128) (h := 1) (sec := sec0_97) (k := 1) (a := 0) (cnt := 23) (by decide) (by decide) (by decide) rfl (by decide) tabS23_97_1_1 s (by omega) (by omega)
  · exact tab_of (p := 23) (n := 128) (h := 2) (sec := sec0_97) (k := 1) (a := 0) (cnt := 23) (by decide) (by decide) (by decide) rfl (by decide) tabS23_97_1_2 s (by omega) (by omega)
  · exact tab_of (p := 23) (n := 128) (h := 3) (sec := sec0_97) (k := 1) (a := 0) (cnt := 23) (by decide) (by decide) (by decide) rfl (by decide) tabS23_97_1_3 s (by omega) (by omega)
  · exact tab_of (p := 23) (n := 128) (h := 4) (sec := sec0_97) (k := 1) (a := 0) (cnt := 23) (by decide) (by decide) (by decide) rfl (by decide) tabS23_97_1_4 s (by omega) (by omega)
  · exact tab_of (p := 23) (n := 128) (h := 5) (sec := sec0_97) (k := 1) (a := 0) (cnt := 23) (by decide) (by decide) (by decide) rfl (by decide) tabS23_97_1_5 s (by omega) (by omega)
  · exact tab_of (p := 23) (n := 128) (h := 1) (sec := sec0_97) (k := 2) (a := 0) (cnt := 23) (by decide) (by decide) (by decide) rfl (by decide) tabS23_97_2_1 s (by omega) (by omega)
  · exact tab_of (p := 23) (n := 128) (h := 2) (sec := sec0_97) (k := 2) (a := 0) (cnt := 23) (by decide) (by decide) (by decide) rfl (by decide) tabS23_97_2_2 s (by omega) (by omega)
  · exact tab_of (p := 23) (n := 128) (h := 3) (sec := sec0_97) (k := 2) (a := 0) (cnt := 23) (by decide) (by decide) (by decide) rfl (by decide) tabS23_97_2_3 s (by omega) (by omega)
  · exact tab_of (p := 23) (n := 128) (h := 4) (sec := sec0_97) (k := 2) (a := 0) (cnt := 23) (by decide) (by decide) (by decide) rfl (by decide) tabS23_97_2_4 s (by omega) (by omega)
  · exact tab_of (p := 23) (n := 128) (h := 5) (sec := sec0_97) (k := 2) (a := 0) (cnt := 23) (by decide) (by decide) (by decide) rfl (by decide) tabS23_97_2_5 s (by omega) (by omega)
theorem tabOk23_98 : TabOk 23 sec0_98 := by
  intro k h s hk h1 h2 hs hs2
  have hkk : k = 0 ∨ k = 1 ∨ k = 2 := by omega
  have hhh : h = 1 ∨ h = 2 ∨ h = 3 ∨ h = 4 ∨ h = 5 := by omega
  rcases hkk with rfl | rfl | rfl <;> rcases hhh with rfl | rfl | rfl | rfl | rfl
  · exact tab_zero (p := 23) (n := 128) (h := 1) (sec := sec0_98) (by decide) (by decide) (by decide) rfl (by decide) tabS23_98_0_1 s
  · exact tab_zero (p := 23) (n := 128) (h := 2) (sec := sec0_98) (by decide) (by decide) (by decide) rfl (by decide) tabS23_98_0_2 s
  · exact tab_zero (p := 23) (n := 128) (h := 3) (sec := sec0_98) (by decide) (by decide) (by decide) rfl (by decide) tabS23_98_0_3 s
  · exact tab_zero (p := 23) (n := 128) (h := 4) (sec := sec0_98) (by decide) (by decide) (by decide) rfl (by decide) tabS23_98_0_4 s
  · exact tab_zero (p := 23) (n := 128) (h := 5) (sec := sec0_98) (by decide) (by decide) (by decide) rfl (by decide) tabS23_98_0_5 s
  · exact tab_of (p := 23) (n := 128) (h := 1) (sec := sec0_98) (k := 1) (a := 0) (cnt := 23) (by decide) (by decide) (by decide) rfl (by decide) tabS23_98_1_1 s (by omega) (by omega)
  · exact tab_of (p := 23) (n := 128) (h := 2) (sec := sec0_98) (k := 1) (a := 0) (cnt := 23) (by decide) (by decide) (by decide) rfl (by decide) tabS23_98_1_2 s (by omega) (by omega)
  · exact tab_of (p := 23) (n := 128) (h := 3) (sec := sec0_98) (k := 1) (a := 0) (cnt := 23) (by decide) (by decide) (by decide) rfl (by decide) tabS23_98_1_3 s (by omega) (by omega)
  · exact tab_of (p := 23) (n := 128) (h := 4) (sec := sec0_98) (k := 1) (a := 0) (cnt := 23) (by decide) (by decide) (by decide) rfl (by decide) tabS23_98_1_4 s (by omega) (by omega)
  · exact tab_of (p := 23) (n := 128) (h := 5) (sec := sec0_98) (k := 1) (a := 0) (cnt := 23) (by decide) (by decide) (by decide) rfl (by decide) tabS23_98_1_5 s (by omega) (by omega)
  · exact tab_of (p := 23) (n := 128) (h := 1) (sec := sec0_98) (k := 2) (a := 0) (cnt := 23) (by decide) (by decide) (by decide) rfl (by decide) tabS23_98_2_1 s (by omega) (by omega)
  · exact tab_of (p := 23) (n := 128) (h := 2) (sec := sec0_98) (k := 2) (a := 0) (cnt := 23) (by decide) (by decide) (by decide) rfl (by decide) tabS23_98_2_2 s (by omega) (by omega)
  · exact tab_of (p := 23) (n := 128) (h := 3) (sec := sec0_98) (k := 2) (a := 0) (cnt := 23) (by decide) (by decide) (by decide) rfl (by decide) tabS23_98_2_3 s (by omega) (by omega)
  · exact tab_of (p := 23) (n := 128) (h := 4) (sec := sec0_98) (k := 2) (a := 0) (cnt := 23) (by decide) (by decide) (by decide) rfl (by decide) tabS23_98_2_4 s (by omega) (by omega)
  · exact tab_of (p := 23) (n := 128) (h := 5) (sec := sec0_98) (k := 2) (a := 0) (cnt := 23) (by decide) (by decide) (by decide) rfl (by decide) tabS23_98_2_5 s (by omega) (by omega)
theorem tabOk23_99 : TabOk 23 sec0_99 := by
  intro k h s hk h1 h2 hs hs2
  have hkk : k = 0 ∨ k = 1 ∨ k = 2 := by omega
  have hhh : h = 1 ∨ h = 2 ∨ h = 3 ∨ h = 4 ∨ h = 5 := by omega
  rcases hkk with rfl | rfl | rfl <;> rcases hhh with rfl | rfl | rfl | rfl | rfl
  · exact tab_zero (p := 23) (n := 128) (h := 1) (sec := sec0_99) (by decide) (by decide) (by decide) rfl (by decide) tabS23_99_0_1 s
  · exact tab_zero (p := 23) (n := 128) (h := 2) (sec := sec0_99) (by decide) (by decide) (by decide) rfl (by decide) tabS23_99_0_2 s
  · exact tab_zero (p := 23) (n := 128) (h := 3) (sec := sec0_99) (by decide) (by decide) (by decide) rfl (by decide) tabS23_99_0_3 s
  · exact tab_zero (p := 23) (n := 128) (h := 4) (sec := sec0_99) (by decide) (by decide) (by decide) rfl (by decide) tabS23_99_0_4 s
  · exact tab_zero (p := 23) (n := 128) (h := 5) (sec := sec0_99) (by decide) (by decide) (by decide) rfl (by decide) tabS23_99_0_5 s
  · exact tab_of (p := 23) (n := 128) (h := 1) (sec := sec0_99) (k := 1) (a := 0) (cnt := 23) (by decide) (by decide) (by decide) rfl (by decide) tabS23_99_1_1 s (by omega) (by omega)
  · exact tab_of (p := 23) (n := 128) (h := 2) (sec := sec0_99) (k := 1) (a := 0) (cnt := 23) (by decide) (by decide) (by decide) rfl (by decide) tabS23_99_1_2 s (by omega) (by omega)
  · exact tab_of (p := 23) (n := 128) (h := 3) (sec := sec0_99) (k := 1) (a := 0) (cnt := 23) (by decide) (by decide) (by decide) rfl (by decide) tabS23_99_1_3 s (by omega) (by omega)
  · exact tab_of (p := 23) (n := 128) (h := 4) (sec := sec0_99) (k := 1) (a := 0) (cnt := 23) (by decide) (by decide) (by decide) rfl (by decide) tabS23_99_1_4 s (by omega) (by omega)
  · exact tab_of (p := 23) (n := 128) (h := 5) (sec := sec0_99) (k := 1) (a := 0) (cnt := 23) (by decide) (by decide) (by decide) rfl (by decide) tabS23_99_1_5 s (by omega) (by omega)
  · exact tab_of (p := 23) (n := 128) (h := 1) (sec := sec0_99) (k := 2) (a := 0) (cnt := 23) (by decide) (by decide) (by decide) rfl (by decide) tabS23_99_2_1 s (by omega) (by omega)
  · exact tab_of (p := 23) (n := 128) (h := 2) (sec := sec0_99) (k := 2) (a := 0) (cnt := 23) (by decide) (by decide) (by decide) rfl (by decide) tabS23_99_2_2 s (by omega) (by omega)
  · exact tab_of (p := 23) (n := 128) (h := 3) (sec := sec0_99) (k := 2) (a := 0) (cnt := 23) (by decide) (by decide) (by decide) rfl (by decide) tabS23_99_2_3 s (by omega) (by omega)
  · exact tab_of (p := 23) (n := 128) (h := 4) (sec := sec0_99) (k := 2) (a := 0) (cnt := 23) (by decide) (by decide) (by decide) rfl (by decide) tabS23_99_2_4 s (by omega) (by omega)
  · exact tab_of (p := 23) (n := 128) (h := 5) (sec := sec0_99) (k := 2) (a := 0) (cnt := 23) (by decide) (by decide) (by decide) rfl (by decide) tabS23_99_2_5 s (by omega) (by omega)
theorem tabOk29_97 : TabOk 29 sec0_97 := by
  intro k h s hk h1 h2 hs hs2
  have hkk : k = 0 ∨ k = 1 ∨ k = 2 := by omega
  have hhh : h = 1 ∨ h = 2 ∨ h = 3 ∨ h = 4 ∨ h = 5 := by omega
  rcases hkk with rfl | rfl | rfl <;> rcases hhh with rfl | rfl | rfl | rfl | rfl
  · exact tab_zero (p := 29) (n := 128) (h := 1) (sec := sec0_97) (by decide) (by decide) (by decide) rfl (by decide) tabS29_97_0_1 s
  · exact tab_zero (p := 29) (n := 128) (h := 2) (sec := sec0_97) (by decide) (by decide) (by decide) rfl (by decide) tabS29_97_0_2 s
  · exact tab_zero (p := 29) (n := 128) (h := 3) (sec := sec0_97) (by decide) (by decide) (by decide) rfl (by decide) tabS29_97_0_3 s
  · exact tab_zero (p := 29) (n := 128) (h := 4) (sec := sec0_97) (by decide) (by decide) (by decide) rfl (by decide) tabS29_97_0_4 s
  · exact tab_zero (p := 29) (n := 128) (h := 5) (sec := sec0_97) (by decide) (by decide) (by decide) rfl (by decide) tabS29_97_0_5 s
  · exact tab_of (p := 29) (n := 128) (h := 1) (sec := sec0_97) (k := 1) (a := 0) (cnt := 29) (by decide) (by decide) (by decide) rfl (by decide) tabS29_97_1_1 s (by omega) (by omega)
  · exact tab_of (p := 29) (n := 128) (h := 2) (sec := sec0_97) (k := 1) (a := 0) (cnt := 29) (by decide) (by decide) (by decide) rfl (by decide) tabS29_97_1_2 s (by omega) (by omega)
  · exact tab_of (p := 29) (n := 128) (h := 3) (sec := sec0_97) (k := 1) (a := 0) (cnt := 29) (by decide) (by decide) (by decide) rfl (by decide) tabS29_97_1_3 s (by omega) (by omega)
  · exact tab_of (p := 29) (n := 128) (h := 4) (sec := sec0_97) (k := 1) (a := 0) (cnt := 29) (by decide) (by decide) (by decide) rfl (by decide) tabS29_97_1_4 s (by omega) (by omega)
  · exact tab_of (p := 29) (n := 128) (h := 5) (sec := sec0_97) (k := 1) (a := 0) (cnt := 29) (by decide) (by decide) (by decide) rfl (by decide) tabS29_97_1_5 s (by omega) (by omega)
  · exact tab_of (p := 29) (n := 128) (h := 1) (sec := sec0_97) (k := 2) (a := 0) (cnt := 29) (by decide) (by decide) (by decide) rfl (by decide) tabS29_97_2_1 s (by omega) (by omega)
  · exact tab_of (p := 29) (n := 128) (h := 2) (sec := sec0_97) (k := 2) (a := 0) (cnt := 29) (by decide) (by decide) (by decide) rfl (by decide) tabS29_97_2_2 s (by omega) (by omega)
  · exact tab_of (p := 29) (n := 128) (h := 3) (sec := sec0_97) (k := 2) (a := 0) (cnt := 29) (by decide) (by decide) (by decide) rfl (by decide) tabS29_97_2_3 s (by omega) (by omega)
  · exact tab_of (p := 29) (n := 128) (h := 4) (sec := sec0_97) (k := 2) (a := 0) (cnt := 29) (by decide) (by decide) (by decide) rfl (by decide) tabS29_97_2_4 s (by omega) (by omega)
  · exact tab_of (p := 29) (n := 128) (h := 5) (sec := sec0_97) (k := 2) (a := 0) (cnt := 29) (by decide) (by decide) (by decide) rfl (by decide) tabS29_97_2_5 s (by omega) (by omega)
theorem tabOk29_98 : TabOk 29 sec0_98 := by
  intro k h s hk h1 h2 hs hs2
  have hkk : k = 0 ∨ k = 1 ∨ k = 2 := by omega
  have hhh : h = 1 ∨ h = 2 ∨ h = 3 ∨ h = 4 ∨ h = 5 := by omega
  rcases hkk with rfl | rfl | rfl <;> rcases hhh with rfl | rfl | rfl | rfl | rfl
  · exact tab_zero (p := 29) (n := 128) (h := 1) (sec := sec0_98) (by decide) (by decide) (by decide) rfl (by decide) tabS29_98_0_1 s
  · exact tab_zero (p := 29) (n := 128) (h := 2) (sec := sec0_98) (by decide) (by decide) (by decide) rfl (by decide) tabS29_98_0_2 s
  · exact tab_zero (p := 29) (n := 128) (h := 3) (sec := sec0_98) (by decide) (by decide) (by decide) rfl (by decide) tabS29_98_0_3 s
  · exact tab_zero (p := 29) (n := 128) (h := 4) (sec := sec0_98) (by decide) (by decide) (by decide) rfl (by decide) tabS29_98_0_4 s
  · exact tab_zero (p := 29) (n := 128) (h := 5) (sec := sec0_98) (by decide) (by decide) (by decide) rfl (by decide) tabS29_98_0_5 s
  · exact tab_of (p := 29) (n := 128) (h := 1) (sec := sec0_98) (k := 1) (a := 0) (cnt := 29) (by decide) (by decide) (by decide) rfl (by decide) tabS29_98_1_1 s (by omega) (by omega)
  · exact tab_of (p := 29) (n := 128) (h := 2) (sec := sec0_98) (k := 1) (a := 0) (cnt := 29) (by decide) (by decide) (by decide) rfl (by decide) tabS29_98_1_2 s (by omega) (by omega)
  · exact tab_of (p := 29) (n := 128) (h := 3) (sec := sec0_98) (k := 1) (a := 0) (cnt := 29) (by decide) (by decide) (by decide) rfl (by decide) tabS29_98_1_3 s (by omega) (by omega)
  · exact tab_of (p := 29) (n := 128) (h := 4) (sec := sec0_98) (k := 1) (a := 0) (cnt := 29) (by decide) (by decide) (by decide) rfl (by decide) tabS29_98_1_4 s (by omega) (by omega)
  · exact tab_of (p := 29) (n := 128) (h := 5) (sec := sec0_98) (k := 1) (a := 0) (cnt := 29) (by decide) (by decide) (by decide) rfl (by decide) tabS29_98_1_5 s (by omega) (by omega)
  · exact tab_of (p := 29) (n := 128) (h := 1) (sec := sec0_98) (k := 2) (a := 0) (cnt := 29) (by decide) (by decide) (by decide) rfl (by decide) tabS29_98_2_1 s (by omega) (by omega)
  · exact tab_of (p := 29) (n := 128) (h := 2) (sec := sec0_98) (k := 2) (a := 0) (cnt := 29) (by decide) (by decide) (by decide) rfl (by decide) tabS29_98_2_2 s (by omega) (by omega)
  · exact tab_of (p := 29) (n := 128) (h := 3) (sec := sec0_98) (k := 2) (a := 0) (cnt := 29) (by decide) (by decide) (by decide) rfl (by decide) tabS29_98_2_3 s (by omega) (by omega)
  · exact tab_of (p := 29) (n := 128) (h := 4) (sec := sec0_98) (k := 2) (a := 0) (cnt := 29) (by decide) (by decide) (by decide) rfl (by decide) tabS29_98_2_4 s (by omega) (by omega)
  · exact tab_of (p := 29) (n := 128) (h := 5) (sec := sec0_98) (k := 2) (a := 0) (cnt := 29) (by decide) (by decide) (by decide) rfl (by decide) tabS29_98_2_5 s (by omega) (by omega)
theorem tabOk29_99 : TabOk 29 sec0_99 := by
  intro k h s hk h1 h2 hs hs2
  have hkk : k = 0 ∨ k = 1 ∨ k = 2 := by omega
  have hhh : h = 1 ∨ h = 2 ∨ h = 3 ∨ h = 4 ∨ h = 5 := by omega
  rcases hkk with rfl | rfl | rfl <;> rcases hhh with rfl | rfl | rfl | rfl | rfl
  · exact tab_zero (p := 29) (n := 128) (h := 1) (sec := sec0_99) (by decide) (by decide) (by decide) rfl (by decide) tabS29_99_0_1 s
  · exact tab_zero (p := 29) (n := 128) (h := 2) (sec := sec0_99) (by decide) (by decide) (by decide) rfl (by decide) tabS29_99_0_2 s
  · exact tab_zero (p := 29) (n := 128) (h := 3) (sec := sec0_99) (by decide) (by decide) (by decide) rfl (by decide) tabS29_99_0_3 s
  · exact tab_zero (p := 29) (n := 128) (h := 4) (sec := sec0_99) (by decide) (by decide) (by decide) rfl (by decide) tabS29_99_0_4 s
  · exact tab_zero (p := 29) (n := 128) (h := 5) (sec := sec0_99) (by decide) (by decide) (by decide) rfl (by decide) tabS29_99_0_5 s
  · exact tab_of (p := 29) (n := 128) (h := 1) (sec := sec0_99) (k := 1) (a := 0) (cnt := 29) (by decide) (by decide) (by decide) rfl (by decide) tabS29_99_1_1 s (by omega) (by omega)
  · exact tab_of (p := 29) (n := 128) (h := 2) (sec := sec0_99) (k := 1) (a := 0) (cnt := 29) (by decide) (by decide) (by decide) rfl (by decide) tabS29_99_1_2 s (by omega) (by omega)
  · exact tab_of (p := 29) (n := 128) (h := 3) (sec := sec0_99) (k := 1) (a := 0) (cnt := 29) (by decide) (by decide) (by decide) rfl (by decide) tabS29_99_1_3 s (by omega) (by omega)
  · exact tab_of (p := 29) (n := 128) (h := 4) (sec := sec0_99) (k := 1) (a := 0) (cnt := 29) (by decide) (by decide) (by decide) rfl (by decide) tabS29_99_1_4 s (by omega) (by omega)
  · exact tab_of (p := 29) (n := 128) (h := 5) (sec := sec0_99) (k := 1) (a := 0) (cnt := 29) (by decide) (by decide) (by decide) rfl (by decide) tabS29_99_1_5 s (by omega) (by omega)
  · exact tab_of (p := 29) (n := 128) (h := 1) (sec := sec0_99) (k := 2) (a := 0) (cnt := 29) (by decide) (by decide) (by decide) rfl (by decide) tabS29_99_2_1 s (by omega) (by omega)
  · exact tab_of (p := 29) (n := 128) (h := 2) (sec := sec0_99) (k := 2) (a := 0) (cnt := 29) (by decide) (by decide) (by decide) rfl (by decide) tabS29_99_2_2 s (by omega) (by omega)
  · exact tab_of (p := 29) (n := 128) (h := 3) (sec := sec0_99) (k := 2) (a := 0) (cnt := 29) (by decide) (by decide) (by decide) rfl (by decide) tabS29_99_2_3 s (by omega) (by omega)
  · exact tab_of (p := 29) (n := 128) (h := 4) (sec := sec0_99) (k := 2) (a := 0) (cnt := 29) (by decide) (by decide) (by decide) rfl (by decide) tabS29_99_2_4 s (by omega) (by omega)
  · exact tab_of (p := 29) (n := 128) (h := 5) (sec := sec0_99) (k := 2) (a := 0) (cnt := 29) (by decide) (by decide) (by decide) rfl (by decide) tabS29_99_2_5 s (by omega) (by omega)
theorem tabOk53_97 : TabOk 53 sec0_97 := by
  intro k h s hk h1 h2 hs hs2
  have hkk : k = 0 ∨ k = 1 ∨ k = 2 := by omega
  have hhh : h = 1 ∨ h = 2 ∨ h = 3 ∨ h = 4 ∨ h = 5 := by omega
  rcases hkk with rfl | rfl | rfl <;> rcases hhh with rfl | rfl | rfl | rfl | rfl
  · exact tab_zero (p := 53) (n := 128) (h := 1) (sec := sec0_97) (by decide) (by decide) (by decide) rfl (by decide) tabS53_97_0_1 s
  · exact tab_zero (p := 53) (n := 128) (h := 2) (sec := sec0_97) (by decide) (by decide) (by decide) rfl (by decide) tabS53_97_0_2 s
  · exact tab_zero (p := 53) (n := 128) (h := 3) (sec := sec0_97) (by decide) (by decide) (by decide) rfl (by decide) tabS53_97_0_3 s
  · exact tab_zero (p := 53) (n := 128) (h := 4) (sec := sec0_97) (by decide) (by decide) (by decide) rfl (by decide) tabS53_97_0_4 s
  · exact tab_zero (p := 53) (n := 128) (h := 5) (sec := sec0_97) (by decide) (by decide) (by decide) rfl (by decide) tabS53_97_0_5 s
  · exact tab_of (p := 53) (n := 128) (h := 1) (sec := sec0_97) (k := 1) (a := 0) (cnt := 53) (by decide) (by decide) (by decide) rfl (by decide) tabS53_97_1_1 s (by omega) (by omega)
  · exact tab_of (p := 53) (n := 128) (h := 2) (sec := sec0_97) (k := 1) (a := 0) (cnt := 53) (by decide) (by decide) (by decide) rfl (by decide) tabS53_97_1_2 s (by omega) (by omega)
  · exact tab_of (p := 53) (n := 128) (h := 3) (sec := sec0_97) (k := 1) (a := 0) (cnt := 53) (by decide) (by decide) (by decide) rfl (by decide) tabS53_97_1_3 s (by omega) (by omega)
  · exact tab_of (p := 53) (n := 128) (h := 4) (sec := sec0_97) (k := 1) (a := 0) (cnt := 53) (by decide) (by decide) (by decide) rfl (by decide) tabS53_97_1_4 s (by omega) (by omega)
  · exact tab_of (p := 53) (n := 128) (h := 5) (sec := sec0_97) (k := 1) (a := 0) (cnt := 53) (by decide) (by decide) (by decide) rfl (by decide) tabS53_97_1_5 s (by omega) (by omega)
  · exact tab_of (p := 53) (n := 128) (h := 1) (sec := sec0_97) (k := 2) (a := 0) (cnt := 53) (by decide) (by decide) (by decide) rfl (by decide) tabS53_97_2_1 s (by omega) (by omega)
  · exact tab_of (p := 53) (n := 128) (h := 2) (sec := sec0_97) (k := 2) (a := 0) (cnt := 53) (by decide) (by decide) (by decide) rfl (by decide) tabS53_97_2_2 s (by omega) (by omega)
  · exact tab_of (p := 53) (n := 128) (h := 3) (sec := sec0_97) (k := 2) (a := 0) (cnt := 53) (by decide) (by decide) (by decide) rfl (by decide) tabS53_97_2_3 s (by omega) (by omega)
  · exact tab_of (p := 53) (n := 128) (h := 4) (sec := sec0_97) (k := 2) (a := 0) (cnt := 53) (by decide) (by decide) (by decide) rfl (by decide) tabS53_97_2_4 s (by omega) (by omega)
  · exact tab_of (p := 53) (n := 128) (h := 5) (sec := sec0_97) (k := 2) (a := 0) (cnt := 53) (by decide) (by decide) (by decide) rfl (by decide) tabS53_97_2_5 s (by omega) (by omega)
theorem tabOk53_98 : TabOk 53 sec0_98 := by
  intro k h s hk h1 h2 hs hs2
  have hkk : k = 0 ∨ k = 1 ∨ k = 2 := by omega
  have hhh : h = 1 ∨ h = 2 ∨ h = 3 ∨ h = 4 ∨ h = 5 := by omega
  rcases hkk with rfl | rfl | rfl <;> rcases hhh with rfl | rfl | rfl | rfl | rfl
  · exact tab_zero (p := 53) (n := 128) (h := 1) (sec := sec0_98) (by decide) (by decide) (by decide) rfl (by decide) tabS53_98_0_1 s
  · exact tab_zero (p := 53) (n := 128) (h := 2) (sec := sec0_98) (by decide) (by decide) (by decide) rfl (by decide) tabS53_98_0_2 s
  · exact tab_zero (p := 53) (n := 128) (h := 3) (sec := sec0_98) (by decide) (by decide) (by decide) rfl (by decide) tabS53_98_0_3 s
  · exact tab_zero (p := 53) (n := 128) (h := 4) (sec := sec0_98) (by decide) (by decide) (by decide) rfl (by decide) tabS53_98_0_4 s
  · exact tab_zero (p := 53) (n := 128) (h := 5) (sec := sec0_98) (by decide) (by decide) (by decide) rfl (by decide) tabS53_98_0_5 s
  · exact tab_of (p := 53) (n := 128) (h := 1) (sec := sec0_98) (k := 1) (a := 0) (cnt := 53) (by decide) (by decide) (by decide) rfl (by decide) tabS53_98_1_1 s (by omega) (by omega)
  · exact tab_of (p := 53) (n := 128) (h := 2) (sec := sec0_98) (k := 1) (a := 0) (cnt := 53) (by decide) (by decide) (by decide) rfl (by decide) tabS53_98_1_2 s (by omega) (by omega)
  · exact tab_of (p := 53) (n := 128) (h := 3) (sec := sec0_98) (k := 1) (a := 0) (cnt := 53) (by decide) (by decide) (by decide) rfl (by decide) tabS53_98_1_3 s (by omega) (by omega)
  · exact tab_of (p := 53) (n := 128) (h := 4) (sec := sec0_98) (k := 1) (a := 0) (cnt := 53) (by decide) (by decide) (by decide) rfl (by decide) tabS53_98_1_4 s (by omega) (by omega)
  · exact tab_of (p := 53) (n := 128) (h := 5) (sec := sec0_98) (k := 1) (a := 0) (cnt := 53) (by decide) (by decide) (by decide) rfl (by decide) tabS53_98_1_5 s (by omega) (by omega)
  · exact tab_of (p := 53) (n := 128) (h := 1) (sec := sec0_98) (k := 2) (a := 0) (cnt := 53) (by decide) (by decide) (by decide) rfl (by decide) tabS53_98_2_1 s (by omega) (by omega)
  · exact tab_of (p := 53) (n := 128) (h := 2) (sec := sec0_98) (k := 2) (a := 0) (cnt := 53) (by decide) (by decide) (by decide) rfl (by decide) tabS53_98_2_2 s (by omega) (by omega)
  · exact tab_of (p := 53) (n := 128) (h := 3) (sec := sec0_98) (k := 2) (a := 0) (cnt := 53) (by decide) (by decide) (by decide) rfl (by decide) tabS53_98_2_3 s (by omega) (by omega)
  · exact tab_of (p := 53) (n := 128) (h := 4) (sec := sec0_98) (k := 2) (a := 0) (cnt := 53) (by decide) (by decide) (by decide) rfl (by decide) tabS53_98_2_4 s (by omega) (by omega)
  · exact tab_of (p := 53) (n := 128) (h := 5) (sec := sec0_98) (k := 2) (a := 0) (cnt := 53) (by decide) (by decide) (by decide) rfl (by decide) tabS53_98_2_5 s (by omega) (by omega)
theorem tabOk53_99 : TabOk 53 sec0_99 := by
  intro k h s hk h1 h2 hs hs2
  have hkk : k = 0 ∨ k = 1 ∨ k = 2 := by omega
  have hhh : h = 1 ∨ h = 2 ∨ h = 3 ∨ h = 4 ∨ h = 5 := by omega
  rcases hkk with rfl | rfl | rfl <;> rcases hhh with rfl | rfl | rfl | rfl | rfl
  · exact tab_zero (p := 53) (n := 128) (h := 1) (sec := sec0_99) (by decide) (by decide) (by decide) rfl (by decide) tabS53_99_0_1 s
  · exact tab_zero (p := 53) (n := 128) (h := 2) (sec := sec0_99) (by decide) (by decide) (by decide) rfl (by decide) tabS53_99_0_2 s
  · exact tab_zero (p := 53) (n := 128) (h := 3) (sec := sec0_99) (by decide) (by decide) (by decide) rfl (by decide) tabS53_99_0_3 s
  · exact tab_zero (p := 53) (n := 128) (h := 4) (sec := sec0_99) (by decide) (by decide) (by decide) rfl (by decide) tabS53_99_0_4 s
  · exact tab_zero (p := 53) (n := 128) (h := 5) (sec := sec0_99) (by decide) (by decide) (by decide) rfl (by decide) tabS53_99_0_5 s
  · exact tab_of (p := 53) (n := 128) (h := 1) (sec := sec0_99) (k := 1) (a := 0) (cnt := 53) (by decide) (by decide) (by decide) rfl (by decide) tabS53_99_1_1 s (by omega) (by omega)
  · exact tab_of (p := 53) (n := 128) (h := 2) (sec := sec0_99) (k := 1) (a := 0) (cnt := 53) (by decide) (by decide) (by decide) rfl (by decide) tabS53_99_1_2 s (by omega) (by omega)
  · exact tab_of (p := 53) (n := 128) (h := 3) (sec := sec0_99) (k := 1) (a := 0) (cnt := 53) (by decide) (by decide) (by decide) rfl (by decide) tabS53_99_1_3 s (by omega) (by omega)
  · exact tab_of (p := 53) (n := 128) (h := 4) (sec := sec0_99) (k := 1) (a := 0) (cnt := 53) (by decide) (by decide) (by decide) rfl (by decide) tabS53_99_1_4 s (by omega) (by omega)
  · exact tab_of (p := 53) (n := 128) (h := 5) (sec := sec0_99) (k := 1) (a := 0) (cnt := 53) (by decide) (by decide) (by decide) rfl (by decide) tabS53_99_1_5 s (by omega) (by omega)
  · exact tab_of (p := 53) (n := 128) (h := 1) (sec := sec0_99) (k := 2) (a := 0) (cnt := 53) (by decide) (by decide) (by decide) rfl (by decide) tabS53_99_2_1 s (by omega) (by omega)
  · exact tab_of (p := 53) (n := 128) (h := 2) (sec := sec0_99) (k := 2) (a := 0) (cnt := 53) (by decide) (by decide) (by decide) rfl (by decide) tabS53_99_2_2 s (by omega) (by omega)
  · exact tab_of (p := 53) (n := 128) (h := 3) (sec := sec0_99) (k := 2) (a := 0) (cnt := 53) (by decide) (by decide) (by decide) rfl (by decide) tabS53_99_2_3 s (by omega) (by omega)
  · exact tab_of (p := 53) (n := 128) (h := 4) (sec := sec0_99) (k := 2) (a := 0) (cnt := 53) (by decide) (by decide) (by decide) rfl (by decide) tabS53_99_2_4 s (by omega) (by omega)
  · exact tab_of (p := 53) (n := 128) (h := 5) (sec := sec0_99) (k := 2) (a := 0) (cnt := 53) (by decide) (by decide) (by decide) rfl (by decide) tabS53_99_2_5 s (by omega) (by omega)
theorem tabOk83_97 : TabOk 83 sec0_97 := by
  intro k h s hk h1 h2 hs hs2
  have hkk : k = 0 ∨ k = 1 ∨ k = 2 := by omega
  have hhh : h = 1 ∨ h = 2 ∨ h = 3 ∨ h = 4 ∨ h = 5 := by omega
  rcases hkk with rfl | rfl | rfl <;> rcases hhh with rfl | rfl | rfl | rfl | rfl
  · exact tab_zero (p := 83) (n := 128) (h := 1) (sec := sec0_97) (by decide) (by decide) (by decide) rfl (by decide) tabS83_97_0_1 s
  · exact tab_zero (p := 83) (n := 128) (h := 2) (sec := sec0_97) (by decide) (by decide) (by decide) rfl (by decide) tabS83_97_0_2 s
  · exact tab_zero (p := 83) (n := 128) (h := 3) (sec := sec0_97) (by decide) (by decide) (by decide) rfl (by decide) tabS83_97_0_3 s
  · exact tab_zero (p := 83) (n := 128) (h := 4) (sec := sec0_97) (by decide) (by decide) (by decide) rfl (by decide) tabS83_97_0_4 s
  · exact tab_zero (p := 83) (n := 128) (h := 5) (sec := sec0_97) (by decide) (by decide) (by decide) rfl (by decide) tabS83_97_0_5 s
  · exact tab_of (p := 83) (n := 128) (h := 1) (sec := sec0_97) (k := 1) (a := 0) (cnt := 83) (by decide) (by decide) (by decide) rfl (by decide) tabS83_97_1_1 s (by omega) (by omega)
  · exact tab_of (p := 83) (n := 128) (h := 2) (sec := sec0_97) (k := 1) (a := 0) (cnt := 83) (by decide) (by decide) (by decide) rfl (by decide) tabS83_97_1_2 s (by omega) (by omega)
  · exact tab_of (p := 83) (n := 128) (h := 3) (sec := sec0_97) (k := 1) (a := 0) (cnt := 83) (by decide) (by decide) (by decide) rfl (by decide) tabS83_97_1_3 s (by omega) (by omega)
  · exact tab_of (p := 83) (n := 128) (h := 4) (sec := sec0_97) (k := 1) (a := 0) (cnt := 83) (by decide) (by decide) (by decide) rfl (by decide) tabS83_97_1_4 s (by omega) (by omega)
  · exact tab_of (p := 83) (n := 128) (h := 5) (sec := sec0_97) (k := 1) (a := 0) (cnt := 83) (by decide) (by decide) (by decide) rfl (by decide) tabS83_97_1_5 s (by omega) (by omega)
  · exact tab_of (p := 83) (n := 128) (h := 1) (sec := sec0_97) (k := 2) (a := 0) (cnt := 83) (by decide) (by decide) (by decide) rfl (by decide) tabS83_97_2_1 s (by omega) (by omega)
  · rcases (show s < 25 ∨ s = 25 ∨ 26 ≤ s by omega) with hc | hc | hc
    · exact tab_of (p := 83) (n := 128) (h := 2) (sec := sec0_97) (k := 2) (a := 0) (cnt := 25) (by decide) (by decide) (by decide) rfl (by decide) tabS83_97_2_2_a s (by omega) (by omega)
    · exact tab_of (p := 83) (n := 128) (h := 2) (sec := sec0_97) (k := 2) (a := 25) (cnt := 1) (by decide) (by decide) (by decide) rfl (by decide) tabS83_97_2_2_b s (by omega) (by omega)
    · exact tab_of (p := 83) (n := 128) (h := 2) (sec := sec0_97) (k := 2) (a := 26) (cnt := 57) (by decide) (by decide) (by decide) rfl (by decide) tabS83_97_2_2_c s (by omega) (by omega)
  · exact tab_of (p := 83) (n := 128) (h := 3) (sec := sec0_97) (k := 2) (a := 0) (cnt := 83) (by decide) (by decide) (by decide) rfl (by decide) tabS83_97_2_3 s (by omega) (by omega)
  · exact tab_of (p := 83) (n := 128) (h := 4) (sec := sec0_97) (k := 2) (a := 0) (cnt := 83) (by decide) (by decide) (by decide) rfl (by decide) tabS83_97_2_4 s (by omega) (by omega)
  · exact tab_of (p := 83) (n := 128) (h := 5) (sec := sec0_97) (k := 2) (a := 0) (cnt := 83) (by decide) (by decide) (by decide) rfl (by decide) tabS83_97_2_5 s (by omega) (by omega)
theorem tabOk83_98 : TabOk 83 sec0_98 := by
  intro k h s hk h1 h2 hs hs2
  have hkk : k = 0 ∨ k = 1 ∨ k = 2 := by omega
  have hhh : h = 1 ∨ h = 2 ∨ h = 3 ∨ h = 4 ∨ h = 5 := by omega
  rcases hkk with rfl | rfl | rfl <;> rcases hhh with rfl | rfl | rfl | rfl | rfl
  · exact tab_zero (p := 83) (n := 128) (h := 1) (sec := sec0_98) (by decide) (by decide) (by decide) rfl (by decide) tabS83_98_0_1 s
  · exact tab_zero (p := 83) (n := 128) (h := 2) (sec := sec0_98) (by decide) (by decide) (by decide) rfl (by decide) tabS83_98_0_2 s
  · exact tab_zero (p := 83) (n := 128) (h := 3) (sec := sec0_98) (by decide) (by decide) (by decide) rfl (by decide) tabS83_98_0_3 s
  · exact tab_zero (p := 83) (n := 128) (h := 4) (sec := sec0_98) (by decide) (by decide) (by decide) rfl (by decide) tabS83_98_0_4 s
  · exact tab_zero (p := 83) (n := 128) (h := 5) (sec := sec0_98) (by decide) (by decide) (by decide) rfl (by decide) tabS83_98_0_5 s
  · exact tab_of (p := 83) (n := 128) (h := 1) (sec := sec0_98) (k := 1) (a := 0) (cnt := 83) (by decide) (by decide) (by decide) rfl (by decide) tabS83_98_1_1 s (by omega) (by omega)
  · exact tab_of (p := 83) (n := 128) (h := 2) (sec := sec0_98) (k := 1) (a := 0) (cnt := 83) (by decide) (by decide) (by decide) rfl (by decide) tabS83_98_1_2 s (by omega) (by omega)
  · exact tab_of (p := 83) (n := 128) (h := 3) (sec := sec0_98) (k := 1) (a := 0) (cnt := 83) (by decide) (by decide) (by decide) rfl (by decide) tabS83_98_1_3 s (by omega) (by omega)
  · exact tab_of (p := 83) (n := 128) (h := 4) (sec := sec0_98) (k := 1) (a := 0) (cnt := 83) (by decide) (by decide) (by decide) rfl (by decide) tabS83_98_1_4 s (by omega) (by omega)
  · exact tab_of (p := 83) (n := 128) (h := 5) (sec := sec0_98) (k := 1) (a := 0) (cnt := 83) (by decide) (by decide) (by decide) rfl (by decide) tabS83_98_1_5 s (by omega) (by omega)
  · exact tab_of (p := 83) (n := 128) (h := 1) (sec := sec0_98) (k := 2) (a := 0) (cnt := 83) (by decide) (by decide) (by decide) rfl (by decide) tabS83_98_2_1 s (by omega) (by omega)
  · exact tab_of (p := 83) (n := 128) (h := 2) (sec := sec0_98) (k := 2) (a := 0) (cnt := 83) (by decide) (by decide) (by decide) rfl (by decide) tabS83_98_2_2 s (by omega) (by omega)
  · exact tab_of (p := 83) (n := 128) (h := 3) (sec := sec0_98) (k := 2) (a := 0) (cnt := 83) (by decide) (by decide) (by decide) rfl (by decide) tabS83_98_2_3 s (by omega) (by omega)
  · exact tab_of (p := 83) (n := 128) (h := 4) (sec := sec0_98) (k := 2) (a := 0) (cnt := 83) (by decide) (by decide) (by decide) rfl (by decide) tabS83_98_2_4 s (by omega) (by omega)
  · exact tab_of (p := 83) (n := 128) (h := 5) (sec := sec0_98) (k := 2) (a := 0) (cnt := 83) (by decide) (by decide) (by decide) rfl (by decide) tabS83_98_2_5 s (by omega) (by omega)
theorem tabOk83_99 : TabOk 83 sec0_99 := by
  intro k h s hk h1 h2 hs hs2
  have hkk : k = 0 ∨ k = 1 ∨ k = 2 := by omega
  have hhh : h = 1 ∨ h = 2 ∨ h = 3 ∨ h = 4 ∨ h = 5 := by omega
  rcases hkk with rfl | rfl | rfl <;> rcases hhh with rfl | rfl | rfl | rfl | rfl
  · exact tab_zero (p := 83) (n := 128) (h := 1) (sec := sec0_99) (by decide) (by decide) (by decide) rfl (by decide) tabS83_99_0_1 s
  · exact tab_zero (p := 83) (n := 128) (h := 2) (sec := sec0_99) (by decide) (by decide) (by decide) rfl (by decide) tabS83_99_0_2 s
  · exact tab_zero (p := 83) (n := 128) (h := 3) (sec := sec0_99) (by decide) (by decide) (by decide) rfl (by decide) tabS83_99_0_3 s
  · exact tab_zero (p := 83) (n := 128) (h := 4) (sec := sec0_99) (by decide) (by decide) (by decide) rfl (by decide) tabS83_99_0_4 s
  · exact tab_zero (p := 83) (n := 128) (h := 5) (sec := sec0_99) (by decide) (by decide) (by decide) rfl (by decide) tabS83_99_0_5 s
  · exact tab_of (p := 83) (n := 128) (h := 1) (sec := sec0_99) (k := 1) (a := 0) (cnt := 83) (by decide) (by decide) (by decide) rfl (by decide) tabS83_99_1_1 s (by omega) (by omega)
  · exact tab_of (p := 83) (n := 128) (h := 2) (sec := sec0_99) (k := 1) (a := 0) (cnt := 83) (by decide) (by decide) (by decide) rfl (by decide) tabS83_99_1_2 s (by omega) (by omega)
  · exact tab_of (p := 83) (n := 128) (h := 3) (sec := sec0_99) (k := 1) (a := 0) (cnt := 83) (by decide) (by decide) (by decide) rfl (by decide) tabS83_99_1_3 s (by omega) (by omega)
  · exact tab_of (p := 83) (n := 128) (h := 4) (sec := sec0_99) (k := 1) (a := 0) (cnt := 83) (by decide) (by decide) (by decide) rfl (by decide) tabS83_99_1_4 s (by omega) (by omega)
  · exact tab_of (p := 83) (n := 128) (h := 5) (sec := sec0_99) (k := 1) (a := 0) (cnt := 83) (by decide) (by decide) (by decide) rfl (by decide) tabS83_99_1_5 s (by omega) (by omega)
  · exact tab_of (p := 83) (n := 128) (h := 1) (sec := sec0_99) (k := 2) (a := 0) (cnt := 83) (by decide) (by decide) (by decide) rfl (by decide) tabS83_99_2_1 s (by omega) (by omega)
  · exact tab_of (p := 83) (n := 128) (h := 2) (sec := sec0_99) (k := 2) (a := 0) (cnt := 83) (by decide) (by decide) (by decide) rfl (by decide) tabS83_99_2_2 s (by omega) (by omega)
  · exact tab_of (p := 83) (n := 128) (h := 3) (sec := sec0_99) (k := 2) (a := 0) (cnt := 83) (by decide) (by decide) (by decide) rfl (by decide) tabS83_99_2_3 s (by omega) (by omega)
  · exact tab_of (p := 83) (n := 128) (h := 4) (sec := sec0_99) (k := 2) (a := 0) (cnt := 83) (by decide) (by decide) (by decide) rfl (by decide) tabS83_99_2_4 s (by omega) (by omega)
  · exact tab_of (p := 83) (n := 128) (h := 5) (sec := sec0_99) (k := 2) (a := 0) (cnt := 83) (by decide) (by decide) (by decide) rfl (by decide) tabS83_99_2_5 s (by omega) (by omega)
end Lane
/-- The shares of a circle of the plays. -/
def LG (p need : Nat) (key : ByteArray) (s0 hold : Nat) : List Sh := dealL p (need - 1) (packP p key.data.toList) (fillL p s0 (cntP p * (need - 1))) hold
/-- A wrong share: each value is one more. -/
def wrg (p : Nat) (s : Sh) : Sh := (s.1, s.2.map fun v => (v + 1) % (p : Int))
theorem LG_at (p need : Nat) (key : ByteArray) (s0 hold j : Nat) (hj : j < hold) : shAt (LG p need key s0 hold) j = (((j + 1 : Nat) : Int), (List.range (packP p key.data.toList).length).map (dealV p (need - 1) (j + 1) (packP p key.data.toList) (fillL p s0 (cntP p * (need - 1))))) := by
  unfold LG dealL shAt; rw [List.getD_eq_getElem?_getD, List.getElem?_map, List.getElem?_range hj]; rfl
theorem LG_marks (p need : Nat) (key : ByteArray) (sec : List Nat) (h1 : 1 ≤ p) (h2 : p ≤ 1073741824) (hl : sec.length ≤ 200) (hc : sec.length = cntP p) (hk : packP p key.data.toList = Lane.toI sec) (s0 hold j : Nat) (hj : j < hold) (hh : hold ≤ 100) :
    markS (shAt (LG p need key s0 hold) j).1 (shAt (LG p need key s0 hold) j).2 = shaOf (Lane.mbB p s0 (j + 1) (need - 1) 0 sec) ∧ markS (wrg p (shAt (LG p need key s0 hold) j)).1 (wrg p (shAt (LG p need key s0 hold) j)).2 = shaOf (Lane.mbB p s0 (j + 1) (need - 1) 1 sec) := by
  rw [LG_at p need key s0 hold j hj, hk, Lane.toI_len]
  have hv := Lane.vals_eq p s0 (j + 1) (need - 1) (cntP p * (need - 1)) sec h1 (by rw [hc]; exact Nat.le_refl _)
  constructor
  · show markS ((j + 1 : Nat) : Int) ((List.range sec.length).map (dealV p (need - 1) (j + 1) (Lane.toI sec) (fillL p s0 (cntP p * (need - 1))))) = _
    rw [hv, Lane.mark_eq p s0 (j + 1) (need - 1) 0 sec h1 h2 (by omega) hl]
  · show markS ((j + 1 : Nat) : Int) (((List.range sec.length).map (dealV p (need - 1) (j + 1) (Lane.toI sec) (fillL p s0 (cntP p * (need - 1))))).map fun v => (v + 1) % (p : Int)) = _
    rw [hv]
    have e : (Lane.toI (Lane.vlN p s0 (j + 1) (need - 1) 0 sec 0)).map (fun v => (v + 1) % (p : Int)) = Lane.toI (Lane.vlN p s0 (j + 1) (need - 1) 1 sec 0) := by
      rw [Lane.wrong_eq p s0 (j + 1) (need - 1) h1]
      unfold Lane.toI
      rw [List.map_map, List.map_map]
      refine List.map_congr_left fun v _ => ?_
      rfl
    rw [e, Lane.mark_eq p s0 (j + 1) (need - 1) 1 sec h1 h2 (by omega) hl]
theorem recv_ne (p need : Nat) (key : ByteArray) (hpp : PlayP p) (hk : IsSalt key) (hn : need ≤ 3) (s0 : Nat) (hs : s0 < p) (hs2 : s0 < 1000) (hold j : Nat) (hj : j < hold) (hh : hold ≤ 5) :
    markS (wrg p (shAt (LG p need key s0 hold) j)).1 (wrg p (shAt (LG p need key s0 hold) j)).2 ≠ markS (shAt (LG p need key s0 hold) j).1 (shAt (LG p need key s0 hold) j).2 := by
  have fin : ∀ (sec : List Nat), sec.length ≤ 200 → sec.length = cntP p → packP p key.data.toList = Lane.toI sec → 1 ≤ p → p ≤ 1073741824 → Lane.TabOk p sec → markS (wrg p (shAt (LG p need key s0 hold) j)).1 (wrg p (shAt (LG p need key s0 hold) j)).2 ≠ markS (shAt (LG p need key s0 hold) j).1 (shAt (LG p need key s0 hold) j).2 := fun sec hl hc he h1 h2 ht => by
    obtain ⟨e1, e2⟩ := LG_marks p need key sec h1 h2 hl hc he s0 hold j hj (by omega)
    rw [e1, e2]
    exact fun e => ht (need - 1) (j + 1) s0 (by omega) (by omega) (by omega) hs hs2 e.symm
  rcases hpp with rfl | rfl | rfl | rfl | rfl | rfl <;> rcases hk with rfl | rfl | rfl
  · exact fin Lane.sec0_97 (by decide) (by rw [cnt0 (by decide)]; rfl) (by unfold packP; rw [if_pos (by decide)]; exact Lane.pk0_97) (by decide) (by decide) Lane.tabOk11_97
  · exact fin Lane.sec0_98 (by decide) (by rw [cnt0 (by decide)]; rfl) (by unfold packP; rw [if_pos (by decide)]; exact Lane.pk0_98) (by decide) (by decide) Lane.tabOk11_98
  · exact fin Lane.sec0_99 (by decide) (by rw [cnt0 (by decide)]; rfl) (by unfold packP; rw [if_pos (by decide)]; exact Lane.pk0_99) (by decide) (by decide) Lane.tabOk11_99
  · exact fin Lane.sec0_97 (by decide) (by rw [cnt0 (by decide)]; rfl) (by unfold packP; rw [if_pos (by decide)]; exact Lane.pk0_97) (by decide) (by decide) Lane.tabOk23_97
  · exact fin Lane.sec0_98 (by decide) (by rw [cnt0 (by decide)]; rfl) (by unfold packP; rw [if_pos (by decide)]; exact Lane.pk0_98) (by decide) (by decide) Lane.tabOk23_98
  · exact fin Lane.sec0_99 (by decide) (by rw [cnt0 (by decide)]; rfl) (by unfold packP; rw [if_pos (by decide)]; exact Lane.pk0_99) (by decide) (by decide) Lane.tabOk23_99
  · exact fin Lane.sec3_97 (by decide) (by rw [cnt3 (by decide)]; rfl) (by unfold packP; rw [if_neg (by decide)]; exact Lane.pk3_97) (by decide) (by decide) Lane.tabOk500000003_97
  · exact fin Lane.sec3_98 (by decide) (by rw [cnt3 (by decide)]; rfl) (by unfold packP; rw [if_neg (by decide)]; exact Lane.pk3_98) (by decide) (by decide) Lane.tabOk500000003_98
  · exact fin Lane.sec3_99 (by decide) (by rw [cnt3 (by decide)]; rfl) (by unfold packP; rw [if_neg (by decide)]; exact Lane.pk3_99) (by decide) (by decide) Lane.tabOk500000003_99
  · exact fin Lane.sec0_97 (by decide) (by rw [cnt0 (by decide)]; rfl) (by unfold packP; rw [if_pos (by decide)]; exact Lane.pk0_97) (by decide) (by decide) Lane.tabOk29_97
  · exact fin Lane.sec0_98 (by decide) (by rw [cnt0 (by decide)]; rfl) (by unfold packP; rw [if_pos (by decide)]; exact Lane.pk0_98) (by decide) (by decide) Lane.tabOk29_98
  · exact fin Lane.sec0_99 (by decide) (by rw [cnt0 (by decide)]; rfl) (by unfold packP; rw [if_pos (by decide)]; exact Lane.pk0_99) (by decide) (by decide) Lane.tabOk29_99
  · exact fin Lane.sec0_97 (by decide) (by rw [cnt0 (by decide)]; rfl) (by unfold packP; rw [if_pos (by decide)]; exact Lane.pk0_97) (by decide) (by decide) Lane.tabOk53_97
  · exact fin Lane.sec0_98 (by decide) (by rw [cnt0 (by decide)]; rfl) (by unfold packP; rw [if_pos (by decide)]; exact Lane.pk0_98) (by decide) (by decide) Lane.tabOk53_98
  · exact fin Lane.sec0_99 (by decide) (by rw [cnt0 (by decide)]; rfl) (by unfold packP; rw [if_pos (by decide)]; exact Lane.pk0_99) (by decide) (by decide) Lane.tabOk53_99
  · exact fin Lane.sec0_97 (by decide) (by rw [cnt0 (by decide)]; rfl) (by unfold packP; rw [if_pos (by decide)]; exact Lane.pk0_97) (by decide) (by decide) Lane.tabOk83_97
  · exact fin Lane.sec0_98 (by decide) (by rw [cnt0 (by decide)]; rfl) (by unfold packP; rw [if_pos (by decide)]; exact Lane.pk0_98) (by decide) (by decide) Lane.tabOk83_98
  · exact fin Lane.sec0_99 (by decide) (by rw [cnt0 (by decide)]; rfl) (by unfold packP; rw [if_pos (by decide)]; exact Lane.pk0_99) (by decide) (by decide) Lane.tabOk83_99
end Go.Proofs.YtjfphobfikadlaaGreatDoor

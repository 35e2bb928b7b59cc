/- The contract of the reference's One, at any numbers. Contracts: One of the program and of the reference at any numbers, with one and the same answer. -/
import Derived.Test.YtjfphobfikadlaaDoorN39
import Derived.Test.YtjfphobfikadlaaDoorN31
import Derived.Test.YtjfphobfikadlaaDoorN26
set_option linter.unusedVariables false
set_option linter.unusedSimpArgs false
namespace Go.Proofs.YtjfphobfikadlaaDoor
open Go.RowKit Num

set_option maxRecDepth 100000 in
set_option maxHeartbeats 4000000 in
/-- The invalid ones, those that are too few, and the others. -/
theorem r_One (p need lies : Int) (val : Bool) (hval : val = true ↔ VPrm p) (vx vy : Value) (X Y : List Int) (S T : Nat → Prop) (w : World) (Q : Ending → World → Prop) (hx : IntsAt w S vx X) (hy : IntsAt w T vy Y) (lx : X.length ≤ 1000000) (ly : Y.length ≤ 1000000)
    (hnr : -9223372036854775808 ≤ need ∧ need ≤ 9223372036854775807) (hlr : -9223372036854775808 ≤ lies ∧ lies ≤ 9223372036854775807)
    (h1 : ¬ OneIn p need lies X Y val → Q (.returned (.tuple #[.slice none 0 0, .int .i64 1])) w)
    (h2 : OneIn p need lies X Y val → ¬ OneEnough need lies X → Q (.returned (.tuple #[.slice none 0 0, .int .i64 5])) w)
    (h3 : OneIn p need lies X Y val → OneEnough need lies X → Calls Tryd.prog 21 #[.int .i64 p, .int .i64 need, .int .i64 lies, vx, vy] w (OneQ Q)) :
    Calls Tryd.prog 21 #[.int .i64 p, .int .i64 need, .int .i64 lies, vx, vy] w (OneQ Q) := by
  by_cases hin : OneIn p need lies X Y val
  case pos =>
    by_cases hen : OneEnough need lies X
    · exact h3 hin hen
    have h2 := h2 hin hen
    obtain ⟨i1, i2, i3, i4, i5, i6, i7, i8⟩ := hin
    have hex : Calls Tryd.prog 37 #[.int .i64 p, vx] w fun e w' => e = .returned (.bool true) ∧ w = w' := by
      refine (r_ElementsG p vx X S w hx lx).mono ?_
      rintro e w' ⟨b, rfl, hb, rfl⟩
      rw [hb.2 ⟨i5, by simpa using hval.1 i7⟩]
      exact ⟨rfl, rfl⟩
    have hey : Calls Tryd.prog 37 #[.int .i64 p, vy] w fun e w' => e = .returned (.bool true) ∧ w = w' := by
      refine (r_ElementsG p vy Y T w hy ly).mono ?_
      rintro e w' ⟨b, rfl, hb, rfl⟩
      rw [hb.2 ⟨i6, by simpa using hval.1 i7⟩]
      exact ⟨rfl, rfl⟩
    have htw : Calls Tryd.prog 38 #[vx] w fun e w' => e = .returned (.bool false) ∧ w = w' := by
      refine (r_twice vx X S w hx lx).mono ?_
      rintro e w' ⟨b, rfl, hb, rfl⟩
      rw [hb.2 i8]
      exact ⟨rfl, rfl⟩
    obtain ⟨A, n, ca, rfl, hn, hnc, hcc⟩ := id hx
    obtain ⟨B, m, cb, rfl, hm, hmc, hcd⟩ := id hy
    unfold OneEnough at hen
    rw [← hn] at i3 i4 hen
    rw [← hm] at i3
    subst i3
    have t1 : decide (need < 1) = false := decide_eq_false (by omega)
    have t2 : decide (lies < 0) = false := decide_eq_false (by omega)
    have t3 : decide ((16 : Int) < (n : Int)) = false := decide_eq_false (by omega)
    have t3' : decide (16 < n) = false := decide_eq_false (by omega)
    have HEX := Lib.hid hex
    have HEY := Lib.hid hey
    have HTW := Lib.hid htw
    have H2 := Lib.hid h2
    have HEN := Lib.hid hen
    clear hx hy hn hm hcc hcd hex hey htw h1 h2 h3 i5 i6 i8 hen
    have key : ∀ (K : Prop), (((n : Int) < lies) → K) → (¬ ((n : Int) < lies) → (n : Int) - 2 * lies < need → K) → K := fun K k1 k2 => by
      by_cases h : (n : Int) < lies
      · exact k1 h
      · exact k2 h (by have := HEN.out; omega)
    clear HEN
    by_cases hn0 : 0 < n
    · have t4 : decide ((0 : Int) < (n : Int)) = true := decide_eq_true (by omega)
      have t4' : decide (0 < n) = true := decide_eq_true (by omega)
      refine key _ (fun hl => ?_) (fun hl hnd => ?_)
      · have t5 : decide ((n : Int) < lies) = true := decide_eq_true hl
        clear hl key
        go_enter Tryd.func21, Tryd.ntmps21
        go_wp2_with fail
        refine HEX.out.mono ?_
        rintro e w' ⟨rfl, rfl⟩
        go_wp2_with fail
        refine HEY.out.mono ?_
        rintro e w' ⟨rfl, rfl⟩
        go_wp2_with fail
        refine HTW.out.mono ?_
        rintro e w' ⟨rfl, rfl⟩
        go_wp2_with fail
        go_ret2
        show Q _ _
        exact H2.out
      · have t5 : decide ((n : Int) < lies) = false := decide_eq_false hl
        have t6 : decide ((n : Int) - 2 * lies < need) = true := decide_eq_true hnd
        have w1 : IntKind.i64.wrap (2 * lies) = 2 * lies := IntWalk.i64_in _ ⟨by omega, by omega⟩
        have w2 : IntKind.i64.wrap ((n : Int) - 2 * lies) = (n : Int) - 2 * lies := IntWalk.i64_in _ ⟨by omega, by omega⟩
        clear hl hnd key
        go_enter Tryd.func21, Tryd.ntmps21
        go_wp2_with fail
        refine HEX.out.mono ?_
        rintro e w' ⟨rfl, rfl⟩
        go_wp2_with fail
        refine HEY.out.mono ?_
        rintro e w' ⟨rfl, rfl⟩
        go_wp2_with fail
        refine HTW.out.mono ?_
        rintro e w' ⟨rfl, rfl⟩
        go_wp2_with fail
        go_ret2
        show Q _ _
        exact H2.out
    · have hn1 : n = 0 := by omega
      subst hn1
      have w1 : IntKind.i64.wrap (2 * lies) = 2 * lies ∨ (0 : Int) < lies := by
        by_cases h : (0 : Int) < lies
        · exact .inr h
        · exact .inl (IntWalk.i64_in _ ⟨by omega, by omega⟩)
      by_cases hl : (0 : Int) < lies
      · have t5 : decide ((0 : Int) < lies) = true := decide_eq_true hl
        have t5' : decide (((0 : Nat) : Int) < lies) = true := decide_eq_true hl
        clear hl key w1
        go_enter Tryd.func21, Tryd.ntmps21
        go_wp2_with fail
        refine HEX.out.mono ?_
        rintro e w' ⟨rfl, rfl⟩
        go_wp2_with fail
        refine HEY.out.mono ?_
        rintro e w' ⟨rfl, rfl⟩
        go_wp2_with fail
        go_ret2
        show Q _ _
        exact H2.out
      · obtain rfl : lies = 0 := by omega
        have t6 : decide ((0 : Int) < need) = true := decide_eq_true (by omega)
        clear hl key w1
        go_enter Tryd.func21, Tryd.ntmps21
        go_wp2_with fail
        refine HEX.out.mono ?_
        rintro e w' ⟨rfl, rfl⟩
        go_wp2_with fail
        refine HEY.out.mono ?_
        rintro e w' ⟨rfl, rfl⟩
        go_wp2_with fail
        go_ret2
        show Q _ _
        exact H2.out
  case neg =>
    have h1 := h1 hin
    clear h2 h3
    have hex := r_ElementsG p vx X S w hx lx
    have hey := r_ElementsG p vy Y T w hy ly
    have htw := r_twice vx X S w hx lx
    obtain ⟨A, n, ca, rfl, hn, hnc, hcc⟩ := id hx
    obtain ⟨B, m, cb, rfl, hm, hmc, hcd⟩ := id hy
    unfold OneIn at hin
    rw [← hn] at hex htw hin
    rw [← hm] at hey hin
    have HEX := Lib.hid hex
    have HEY := Lib.hid hey
    have HTW := Lib.hid htw
    have H1 := Lib.hid h1
    have HIN := Lib.hid hin
    clear hx hy hn hm hcc hcd hex hey htw h1 hin
    have go1 : ∀ b : Bool, b = true ∨ b = false := fun b => by cases b <;> simp
    go_enter Tryd.func21, Tryd.ntmps21
    go_wp2_with fail
    refine HEX.out.mono ?_
    rintro e w' ⟨b1, rfl, hb1, rfl⟩
    have G1 := Lib.hid hb1
    clear hb1
    cases b1 with
    | false =>
      go_wp2_with fail
      go_ret2
      show Q _ _
      exact H1.out
    | true =>
      go_wp2_with fail
      refine HEY.out.mono ?_
      rintro e w' ⟨b2, rfl, hb2, rfl⟩
      have G2 := Lib.hid hb2
      clear hb2
      cases b2 with
      | false =>
        go_wp2_with fail
        go_ret2
        show Q _ _
        exact H1.out
      | true =>
        by_cases k1 : need < 1
        · have t1 : decide (need < 1) = true := decide_eq_true k1
          clear k1
          go_wp2_with fail
          go_ret2
          show Q _ _
          exact H1.out
        have t1 : decide (need < 1) = false := decide_eq_false k1
        by_cases k2 : lies < 0
        · have t2 : decide (lies < 0) = true := decide_eq_true k2
          clear k1 k2
          go_wp2_with fail
          go_ret2
          show Q _ _
          exact H1.out
        have t2 : decide (lies < 0) = false := decide_eq_false k2
        by_cases k3 : n = m
        case neg =>
          have t3 : ((n : Int) != (m : Int)) = true := by simp; omega
          clear k1 k2 k3
          go_wp2_with fail
          go_ret2
          show Q _ _
          exact H1.out
        subst k3
        by_cases k4 : (16 : Int) < (n : Int)
        · have t4 : decide ((16 : Int) < (n : Int)) = true := decide_eq_true k4
          have t4' : decide (16 < n) = true := decide_eq_true (by omega)
          clear k1 k2 k4
          go_wp2_with fail
          go_ret2
          show Q _ _
          exact H1.out
        have t4 : decide ((16 : Int) < (n : Int)) = false := decide_eq_false k4
        have t4' : decide (16 < n) = false := decide_eq_false (by omega)
        have hv := (G1.out.1 (by simp)).2
        have hval2 : val = true := hval.2 (by simpa using hv)
        have hno : ¬ ∀ i j, i < n → j < i → X.getD j 0 ≠ X.getD i 0 := fun h => HIN.out ⟨by omega, by omega, rfl, by omega, (G1.out.1 (by simp)).1, (G2.out.1 (by simp)).1, hval2, h⟩
        by_cases hn0 : 0 < n
        · have t5 : decide ((0 : Int) < (n : Int)) = true := decide_eq_true (by omega)
          have t5' : decide (0 < n) = true := decide_eq_true hn0
          clear k1 k2 k4
          go_wp2_with fail
          refine HTW.out.mono ?_
          rintro e w' ⟨b3, rfl, hb3, rfl⟩
          have hb : b3 = true := by
            cases b3 with
            | true => rfl
            | false => exact absurd (hb3.1 rfl) hno
          subst hb
          clear hb3
          go_wp2_with fail
          go_ret2
          show Q _ _
          exact H1.out
        · exact absurd (fun i j (hi : i < n) _ => by omega) hno
end Go.Proofs.YtjfphobfikadlaaDoor
namespace Go.Proofs.YtjfphobfikadlaaDoor
open Go.RowKit Num

/-- What One answers. -/
def OneR (p need lies : Int) (val : Bool) (X Y F : List Int) (err : Int) : Prop :=
  (OneIn p need lies X Y val ∧ OneEnough need lies X ∧ ((err = 0 ∧ oneP p.toNat need.toNat lies.toNat X.length X Y F) ∨ (err = 9 ∧ F = [] ∧ ∀ G, ¬ oneP p.toNat need.toNat lies.toNat X.length X Y G)))
  ∨ (¬ OneIn p need lies X Y val ∧ err = 1 ∧ F = []) ∨ (OneIn p need lies X Y val ∧ ¬ OneEnough need lies X ∧ err = 5 ∧ F = [])
theorem oneIn_nat {p need lies : Int} {val : Bool} {X Y : List Int} (hval : val = true ↔ VPrm p) (h : OneIn p need lies X Y val) (he : OneEnough need lies X) :
    ∃ P n l : Nat, p = (P : Int) ∧ need = (n : Int) ∧ lies = (l : Int) ∧ Prm P ∧ P ≤ 1073741824 ∧ VPrm (P : Int) ∧ InF P X ∧ InF P Y ∧ 1 ≤ n ∧ n + 2 * l ≤ X.length ∧ Y.length = X.length ∧ ApartN P (fOf X) X.length := by
  obtain ⟨i1, i2, i3, i4, i5, i6, i7, i8⟩ := h
  obtain ⟨e1, e2, e3⟩ := he
  have hv := hval.1 i7
  have hv' := hv
  obtain ⟨v1, v2, v3⟩ := hv
  have hP : p = ((p.toNat : Nat) : Int) := by omega
  have hdist : ∀ i j, i < X.length → j < X.length → i ≠ j → X.getD i 0 ≠ X.getD j 0 := fun i j hi hj hne => by
    rcases Nat.lt_or_ge j i with h | h
    · exact fun e => i8 i j hi h e.symm
    · exact i8 j i hj (by omega)
  refine ⟨p.toNat, need.toNat, lies.toNat, hP, by omega, by omega, v3, by omega, by rw [← hP]; exact hv', ?_, ?_, by omega, by omega, by omega, ?_⟩
  · intro k hk; have := i5 k hk; omega
  · intro k hk; have := i6 k hk; omega
  · intro i j hi hj hne hd
    have a := i5 i hi
    have b := i5 j hj
    have c := hdist i j hi hj hne
    have : X.getD i 0 - X.getD j 0 = 0 := Int.eq_zero_of_dvd_of_natAbs_lt_natAbs hd (by omega)
    omega
theorem OneR.uniq {p need lies : Int} {val : Bool} {X Y F G : List Int} {e f : Int} (hval : val = true ↔ VPrm p) (h : OneR p need lies val X Y F e) (k : OneR p need lies val X Y G f) : F = G ∧ e = f := by
  rcases h with ⟨h1, h2, h⟩ | ⟨h1, rfl, rfl⟩ | ⟨h1, h2, rfl, rfl⟩
  · rcases k with ⟨k1, k2, k⟩ | ⟨k1, _⟩ | ⟨k1, k2, _⟩
    · rcases h with ⟨rfl, h⟩ | ⟨rfl, rfl, h⟩
      · rcases k with ⟨rfl, k⟩ | ⟨rfl, rfl, k⟩
        · refine ⟨?_, rfl⟩
          obtain ⟨P, n, l, rfl, rfl, rfl, hp, _, _, _, _, n1, nl, _, ha⟩ := oneIn_nat hval h1 h2
          simp only [Int.toNat_natCast] at h k
          exact only_one hp nl ha h.1 k.1 h.2.1 k.2.1 h.2.2 k.2.2
        · exact absurd h (k _)
      · rcases k with ⟨rfl, k⟩ | ⟨rfl, rfl, k⟩
        · exact absurd k (h _)
        · exact ⟨rfl, rfl⟩
    · exact absurd h1 k1
    · exact absurd h2 k2
  · rcases k with ⟨k1, _⟩ | ⟨k1, rfl, rfl⟩ | ⟨k1, k2, _⟩
    · exact absurd k1 h1
    · exact ⟨rfl, rfl⟩
    · exact absurd k1 h1
  · rcases k with ⟨_, k2, _⟩ | ⟨k1, rfl, rfl⟩ | ⟨k1, k2, rfl, rfl⟩
    · exact absurd k2 h2
    · exact absurd h1 k1
    · exact ⟨rfl, rfl⟩
def OneAPost (p need lies : Int) (val : Bool) (X Y : List Int) (w : World) (e : Ending) (w' : World) : Prop :=
  ∃ v F err, e = .returned (.tuple #[v, .int .i64 err]) ∧ OneR p need lies val X Y F err ∧ F.length ≤ 16 ∧ OwnI w' w.heap.size v F ∧ Below w.heap.size w w'
theorem OneAPost.of {p need lies : Nat} {val : Bool} {X Y : List Int} {w w' : World} {e : Ending} (hi : OneIn p need lies X Y val) (he : OneEnough need lies X) (h : OnePost p need lies X.length X Y w e w') : OneAPost p need lies val X Y w e w' := by
  obtain ⟨h, hb⟩ := h
  rcases h with ⟨F, v, rfl, ho, hI⟩ | ⟨rfl, hn⟩
  · refine ⟨v, F, 0, rfl, .inl ⟨hi, he, .inl ⟨rfl, by simpa using ho⟩⟩, ?_, hI, hb⟩
    have := ho.2.1
    have := he.1
    have := hi.2.2.2.1
    omega
  · exact ⟨_, [], 9, rfl, .inl ⟨hi, he, .inr ⟨rfl, rfl, by simpa using hn⟩⟩, by simp, OwnI.nil _ _, hb⟩
theorem c_OneA (p need lies : Int) (val : Bool) (hval : val = true ↔ VPrm p) (vx vy : Value) (X Y : List Int) (S T : Nat → Prop) (w : World) (hx : IntsAt w S vx X) (hS : ∀ b, S b → b < w.heap.size) (hy : IntsAt w T vy Y) (hT : ∀ b, T b → b < w.heap.size) (lx : X.length ≤ 1000) (ly : Y.length ≤ 1000)
    (hnr : -9223372036854775808 ≤ need ∧ need ≤ 9223372036854775807) (hlr : -9223372036854775808 ≤ lies ∧ lies ≤ 9223372036854775807)
    (hv : Calls Tryd.prog 54 #[.int .i64 p] w fun e w' => e = .returned (.bool val) ∧ w = w') :
    Calls Tryd.prog 20 #[.int .i64 p, .int .i64 need, .int .i64 lies, vx, vy] w (OneAPost p need lies val X Y w) := by
  refine (c_One p need lies val vx vy X Y S T w (OneAPost p need lies val X Y w) hx hy (by omega) (by omega) hnr hlr hv (fun h => ?_) (fun h h' => ?_) (fun h h' => ?_)).mono fun e w' h => h
  · exact ⟨_, [], 1, rfl, .inr (.inl ⟨h, rfl, rfl⟩), by simp, OwnI.nil _ _, Below.refl _ _⟩
  · exact ⟨_, [], 5, rfl, .inr (.inr ⟨h, h', rfl, rfl⟩), by simp, OwnI.nil _ _, Below.refl _ _⟩
  · obtain ⟨P, n, l, rfl, rfl, rfl, hp, h2, _, fx, fy, n1, nl, hly, ha⟩ := oneIn_nat hval h h'
    refine (c_one P n l vx vy X Y S T w hp h2 hx hS hy hT (by have := h.2.2.2.1; omega) hly fx fy n1 nl ha (fun i j hi hj hne => ?_)).mono fun e w' hq => ?_
    · have h8 := h.2.2.2.2.2.2.2
      rcases Nat.lt_or_ge j i with hh | hh
      · exact fun e => h8 i j hi hh e.symm
      · exact h8 j i hj (by omega)
    · have hA := OneAPost.of h h' hq
      obtain ⟨v, F, err, he, hr⟩ := id hA
      exact ⟨v, _, he, hA⟩
theorem r_OneA (p need lies : Int) (val : Bool) (hval : val = true ↔ VPrm p) (vx vy : Value) (X Y : List Int) (S T : Nat → Prop) (w : World) (hx : IntsAt w S vx X) (hS : ∀ b, S b → b < w.heap.size) (hy : IntsAt w T vy Y) (hT : ∀ b, T b → b < w.heap.size) (lx : X.length ≤ 1000) (ly : Y.length ≤ 1000)
    (hnr : -9223372036854775808 ≤ need ∧ need ≤ 9223372036854775807) (hlr : -9223372036854775808 ≤ lies ∧ lies ≤ 9223372036854775807) :
    Calls Tryd.prog 21 #[.int .i64 p, .int .i64 need, .int .i64 lies, vx, vy] w (OneAPost p need lies val X Y w) := by
  refine (r_One p need lies val hval vx vy X Y S T w (OneAPost p need lies val X Y w) hx hy (by omega) (by omega) hnr hlr (fun h => ?_) (fun h h' => ?_) (fun h h' => ?_)).mono fun e w' h => h
  · exact ⟨_, [], 1, rfl, .inr (.inl ⟨h, rfl, rfl⟩), by simp, OwnI.nil _ _, Below.refl _ _⟩
  · exact ⟨_, [], 5, rfl, .inr (.inr ⟨h, h', rfl, rfl⟩), by simp, OwnI.nil _ _, Below.refl _ _⟩
  · obtain ⟨P, n, l, rfl, rfl, rfl, hp, h2, hvp, fx, fy, n1, nl, hly, ha⟩ := oneIn_nat hval h h'
    have l16 := h.2.2.2.1
    exact (r_OneMain P n l vx vy X Y S T w hp h2 hvp hx hS hy hT l16 hly fx fy n1 nl ha (fun i j hi hj => h.2.2.2.2.2.2.2 i j hi hj)).mono fun e w' hq => OneAPost.of h h' hq
end Go.Proofs.YtjfphobfikadlaaDoor

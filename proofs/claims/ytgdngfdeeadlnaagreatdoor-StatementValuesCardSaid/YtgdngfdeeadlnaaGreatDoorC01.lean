/- Plain numbers of the calendar: leap years, lengths of months, the number of a date, and th And more. -/
import Derived.KernelRfl
import Derived.Test.YtgdngfdeeadlnaaGreatDoorRows
import Derived.WalkKit
import Derived.WalkSpells
import Derived.WalkLawsBesides
import Derived.Deep.QuietTactic
import Derived.BigQuiet
import Derived.Lib.Hide
import Derived.LoopN
set_option linter.unusedVariables false
set_option linter.unusedSimpArgs false
namespace Go.Proofs.YtgdngfdeeadlnaaGreatDoor.Cal
def lp (y : Int) : Prop := 1 ≤ y ∧ y ≤ 9999 ∧ y % 4 = 0 ∧ (y % 100 ≠ 0 ∨ y % 400 = 0)
instance (y : Int) : Decidable (lp y) := by unfold lp; infer_instance
def lpB (y : Int) : Bool := decide (lp y)
def yrB (y : Int) : Bool := decide (1 ≤ y ∧ y ≤ 9999)
def feb (y : Int) : Int := if lpB y = true then 29 else 28
def lenI (y m : Int) : Int := if m = 4 ∨ m = 6 ∨ m = 9 ∨ m = 11 then 30 else if m = 2 then feb y else 31
def dby (y : Int) : Int := 365 * (y - 1) + (y - 1) / 4 - (y - 1) / 100 + (y - 1) / 400
def cum (y m : Int) : Int :=
 if m ≤ 1 then 0 else if m=2 then 31 else if m=3 then 31+feb y else if m=4 then 62+feb y else if m=5 then 92+feb y
 else if m=6 then 123+feb y else if m=7 then 153+feb y else if m=8 then 184+feb y else if m=9 then 215+feb y
 else if m=10 then 245+feb y else if m=11 then 276+feb y else if m=12 then 306+feb y else 337+feb y
def vld (y m d : Int) : Prop := 1 ≤ y ∧ y ≤ 9999 ∧ 1 ≤ m ∧ m ≤ 12 ∧ 1 ≤ d ∧ d ≤ lenI y m
instance (y m d : Int) : Decidable (vld y m d) := by unfold vld; infer_instance
def num (y m d : Int) : Int := dby y + cum y m + d - 1
theorem lpB_t {y : Int} (h : lp y) : lpB y = true := decide_eq_true h
theorem lpB_f {y : Int} (h : ¬ lp y) : lpB y = false := decide_eq_false h
theorem yrB_t {y : Int} (h : 1 ≤ y ∧ y ≤ 9999) : yrB y = true := decide_eq_true h
theorem yrB_f {y : Int} (h : ¬ (1 ≤ y ∧ y ≤ 9999)) : yrB y = false := decide_eq_false h
theorem feb_lp {y : Int} (h : lp y) : feb y = 29 := by simp [feb,lpB,h]
theorem feb_no {y : Int} (h : ¬ lp y) : feb y = 28 := by simp [feb,lpB,h]
theorem feb_bd (y : Int) : feb y = 28 ∨ feb y = 29 := by unfold feb; split <;> simp
theorem len_bd (y m : Int) : 28 ≤ lenI y m ∧ lenI y m ≤ 31 := by
 have:=feb_bd y
 unfold lenI; split <;> (try split) <;> omega
theorem cum_1 (y : Int) : cum y 1 = 0 := rfl
theorem cum_13 (y : Int) : cum y 13 = 337 + feb y := by simp [cum]
theorem cases12 {m : Int} (h1 : 1 ≤ m) (h2 : m ≤ 12) : m = 1 ∨ m = 2 ∨ m = 3 ∨ m = 4 ∨ m = 5 ∨ m = 6 ∨ m = 7 ∨ m = 8 ∨ m = 9 ∨ m = 10 ∨ m = 11 ∨ m = 12 := by omega
theorem cum_succ (y m : Int) (h1 : 1 ≤ m) (h2 : m ≤ 12) : cum y (m + 1) = cum y m + lenI y m := by
 rcases cases12 h1 h2 with rfl | rfl | rfl | rfl | rfl | rfl | rfl | rfl | rfl | rfl | rfl | rfl <;> simp [cum,lenI] <;> omega
theorem cum_mono (y : Int) : ∀ (k : Nat) (m : Int),1 ≤ m → m + k ≤ 13 → cum y m ≤ cum y (m + k) := by
 intro k
 induction k with
 | zero => intro m _ _; simp
 | succ k ih =>
  intro m h1 h2
  have a:=ih m h1 (by omega)
  have b:=cum_succ y (m+k) (by omega) (by omega)
  have c:=len_bd y (m+k)
  have e:m+((k+1:Nat):Int)=m+k+1:=by omega
  rw [e]; omega
theorem cum_le (y : Int) {a b : Int} (h1 : 1 ≤ a) (h : a ≤ b) (h2 : b ≤ 13) : cum y a ≤ cum y b := by
 have:=cum_mono y (b - a).toNat a h1 (by omega)
 rwa [show a+((b - a).toNat:Int)=b from by omega] at this
theorem cum_bd (y m : Int) (h1 : 1 ≤ m) (h2 : m ≤ 13) : 0 ≤ cum y m ∧ cum y m ≤ 366 := by
 have a:=cum_le y (Int.le_refl 1) h1 h2
 have b:=cum_le y h1 h2 (Int.le_refl 13)
 have c:=feb_bd y
 rw [cum_1] at a; rw [cum_13] at b; omega
theorem dby_succ (y : Int) (h1 : 1 ≤ y) (h2 : y ≤ 9999) : dby (y + 1) = dby y + 337 + feb y := by
 by_cases h:lp y
 ·rw [feb_lp h]; unfold lp at h; unfold dby; omega
 ·rw [feb_no h]; unfold lp at h; unfold dby; omega
theorem dby_mono {a b : Int} (h0 : 1 ≤ a) (h : a ≤ b) : dby a ≤ dby b := by unfold dby; omega
theorem dby_bd {y : Int} (h0 : 1 ≤ y) (h : y ≤ 10000) : 0 ≤ dby y ∧ dby y ≤ 3652059 := by unfold dby; omega
theorem num_bd {y m d : Int} (h : vld y m d) : dby y ≤ num y m d ∧ num y m d < dby (y + 1) ∧ 0 ≤ num y m d ∧ num y m d ≤ 3652058 := by
 obtain ⟨h1,h2,h3,h4,h5,h6⟩:=h
 have a:=cum_succ y m h3 h4
 have b:=cum_le y (a:=m+1) (b:=13) (by omega) (by omega) (by omega)
 have c:=cum_bd y m h3 (by omega)
 have d1:=dby_succ y h1 h2
 have e:=dby_bd (y:=y) h1 (by omega)
 have f:=dby_bd (y:=y+1) (by omega) (by omega)
 rw [cum_13] at b
 unfold num; omega
theorem num_inj {y m d y' m' d' : Int} (h : vld y m d) (h' : vld y' m' d') (e : num y m d = num y' m' d') : y = y' ∧ m = m' ∧ d = d' := by
 have a:=num_bd h
 have b:=num_bd h'
 have ey:y=y':=by
  rcases Int.lt_trichotomy y y' with hlt | heq | hgt
  ·have:=dby_mono (a:=y+1) (b:=y') (by have:=h.1; omega) (by omega); omega
  ·exact heq
  ·have:=dby_mono (a:=y' + 1) (b:=y) (by have:=h'.1; omega) (by omega); omega
 subst ey
 obtain ⟨h1,h2,h3,h4,h5,h6⟩:=h
 obtain ⟨_,_,h3',h4',h5',h6'⟩:=h'
 have c:=cum_succ y m h3 h4
 have c':=cum_succ y m' h3' h4'
 have em:m=m':=by
  unfold num at e
  rcases Int.lt_trichotomy m m' with hlt | heq | hgt
  ·have:=cum_le y (a:=m+1) (b:=m') (by omega) (by omega) (by omega); omega
  ·exact heq
  ·have:=cum_le y (a:=m' + 1) (b:=m) (by omega) (by omega) (by omega); omega
 subst em
 refine ⟨rfl,rfl,?_⟩
 unfold num at e; omega
theorem year_ex (n : Int) (h0 : 0 ≤ n) : ∀ k : Nat,n < dby (k + 1) → ∃ y : Int,1 ≤ y ∧ y ≤ k ∧ dby y ≤ n ∧ n < dby (y + 1) := by
 intro k
 induction k with
 | zero => intro h; simp [dby] at h; omega
 | succ k ih =>
  intro h
  by_cases hc:n < dby ((k:Int)+1)
  ·obtain ⟨y,a,b,c,d⟩:=ih hc
   exact ⟨y,a,by omega,c,d⟩
  ·exact ⟨(k:Int)+1,by omega,by omega,by omega,by rw [Int.natCast_succ] at h; exact h⟩
theorem month_ex (y r : Int) (h0 : 0 ≤ r) : ∀ k : Nat,k ≤ 12 → r < cum y (k + 1) → ∃ m : Int,1 ≤ m ∧ m ≤ k ∧ cum y m ≤ r ∧ r < cum y (m + 1) := by
 intro k
 induction k with
 | zero => intro _ h; simp [cum] at h; omega
 | succ k ih =>
  intro hk h
  by_cases hc:r < cum y ((k:Int)+1)
  ·obtain ⟨m,a,b,c,d⟩:=ih (by omega) hc
   exact ⟨m,a,by omega,c,d⟩
  ·exact ⟨(k:Int)+1,by omega,by omega,by omega,by rw [Int.natCast_succ] at h; exact h⟩
theorem date_ex (n : Int) (h0 : 0 ≤ n) (h1 : n ≤ 3652058) : ∃ y m d : Int,vld y m d ∧ num y m d = n := by
 obtain ⟨y,a,b,c,d⟩:=year_ex n h0 9999 (by have:=(show dby ((9999:Nat)+1:Int)=3652059 by decide); omega)
 have e:=dby_succ y a (by omega)
 obtain ⟨m,a',b',c',d'⟩:=month_ex y (n - dby y) (by omega) 12 (by omega) (by
  have:cum y ((12:Nat)+1:Int)=337+feb y:=cum_13 y
  omega)
 have f:=cum_succ y m a' (by omega)
 refine ⟨y,m,n - dby y - cum y m+1,⟨a,by omega,a',by omega,by omega,by omega⟩,?_⟩
 unfold num; omega
def dayN (y m d : Int) : Int := if vld y m d then num y m d else 0
def dayE (y m d : Int) : Int := if vld y m d then 0 else 10
noncomputable def dateOf (n : Int) : Int × Int × Int := Classical.epsilon fun p : Int × Int × Int => vld p.1 p.2.1 p.2.2 ∧ num p.1 p.2.1 p.2.2 = n
def okN (n : Int) : Prop := 0 ≤ n ∧ n ≤ 3652058
instance (n : Int) : Decidable (okN n) := by unfold okN; infer_instance
noncomputable def dtY (n : Int) : Int := if okN n then (dateOf n).1 else 0
noncomputable def dtM (n : Int) : Int := if okN n then (dateOf n).2.1 else 0
noncomputable def dtD (n : Int) : Int := if okN n then (dateOf n).2.2 else 0
def dtE (n : Int) : Int := if okN n then 0 else 2
theorem dt_ok {n : Int} (h : okN n) : vld (dtY n) (dtM n) (dtD n) ∧ num (dtY n) (dtM n) (dtD n) = n := by
 obtain ⟨y,m,d,hv,hn⟩:=date_ex n h.1 h.2
 have:=Classical.epsilon_spec (p:=fun p:Int × Int × Int => vld p.1 p.2.1 p.2.2 ∧ num p.1 p.2.1 p.2.2=n) ⟨(y,m,d),hv,hn⟩
 simp only [dtY,dtM,dtD,if_pos h]
 exact this
theorem dtE_ok {n : Int} (h : okN n) : dtE n = 0 := if_pos h
theorem dtE_no {n : Int} (h : ¬ okN n) : dtE n = 2 := if_neg h
theorem dtY_no {n : Int} (h : ¬ okN n) : dtY n = 0 := if_neg h
theorem dtM_no {n : Int} (h : ¬ okN n) : dtM n = 0 := if_neg h
theorem dtD_no {n : Int} (h : ¬ okN n) : dtD n = 0 := if_neg h
def mn (a b : Int) : Int := if b < a then b else a
def mx (a b : Int) : Int := if a < b then b else a
noncomputable def addE (n l : Int) : Int := if ¬ okN n ∨ l < -9999 ∨ 9999 < l then 2 else if dtY n + l < 1 ∨ 9999 < dtY n + l then 10 else 0
noncomputable def addN (n l : Int) : Int := if addE n l = 0 then num (dtY n + l) (dtM n) (mn (dtD n) (lenI (dtY n + l) (dtM n))) else 0
theorem add_vld {n l : Int} (h : okN n) (h1 : 1 ≤ dtY n + l) (h2 : dtY n + l ≤ 9999) : vld (dtY n + l) (dtM n) (mn (dtD n) (lenI (dtY n + l) (dtM n))) := by
 obtain ⟨a,b,c,d,e,f⟩:=(dt_ok h).1
 have g:=len_bd (dtY n+l) (dtM n)
 refine ⟨h1,h2,c,d,?_,?_⟩ <;> (unfold mn; split <;> omega)
theorem addE_10 {n l : Int} (h0 : okN n) (h1 : -9999 ≤ l) (h2 : l ≤ 9999) (h : dtY n + l < 1 ∨ 9999 < dtY n + l) : addE n l = 10 ∧ addN n l = 0 := by
 have:addE n l=10:=by unfold addE; rw [if_neg (fun h => by rcases h with h | h | h <;> first | exact h h0 | omega),if_pos h]
 exact ⟨this,if_neg (by rw [this]; decide)⟩
theorem addE_0 {n l : Int} (h0 : okN n) (h1 : 1 ≤ dtY n + l) (h2 : dtY n + l ≤ 9999) : addE n l = 0 ∧ addN n l = num (dtY n + l) (dtM n) (mn (dtD n) (lenI (dtY n + l) (dtM n))) := by
 have hy:=(dt_ok h0).1
 have a:=hy.1
 have b:=hy.2.1
 have:addE n l=0:=by unfold addE; rw [if_neg (fun h => by rcases h with h | h | h <;> first | exact h h0 | omega),if_neg (by omega)]
 exact ⟨this,if_pos this⟩
theorem alg_ok (n : Int) (h0 : 0 ≤ n) (h1 : n ≤ 3652058) (a r1 k1 r2 k2 r3 k3 r4 : Int)
  (ha:a=n / 146097) (hr1:r1=n % 146097) (hk1:k1=min (r1 / 36524) 3) (hr2:r2=r1 - k1*36524)
  (hk2:k2=min (r2 / 1461) 24) (hr3:r3=r2 - k2*1461) (hk3:k3=min (r3 / 365) 3) (hr4:r4=r3 - k3*365) :
  0 ≤ a ∧ a ≤ 24 ∧ 0 ≤ r1 ∧ r1 < 146097 ∧ 0 ≤ k1 ∧ k1 ≤ 3 ∧ 0 ≤ r2 ∧ r2 ≤ 36524 ∧ 0 ≤ k2 ∧ k2 ≤ 24 ∧ 0 ≤ r3 ∧ r3 ≤ 1460 ∧ 0 ≤ k3 ∧ k3 ≤ 3 ∧ 0 ≤ r4 ∧ r4 ≤ 365 ∧
  n=146097*a+r1 ∧ (k1 < 3 → r2 < 36524) ∧ (k2 < 24 → r3 < 1461) ∧ (k2=24 → r3 ≤ 1460) ∧ (k2=24 → k1 < 3 → r3 < 1460) ∧ (k3 < 3 → r4 < 365):=by
 omega
theorem alg_date (n a k1 k2 k3 r4 : Int) (hn : n = 146097 * a + 36524 * k1 + 1461 * k2 + 365 * k3 + r4) (h0 : 0 ≤ a) (ha : a ≤ 24)
  (b1:0 ≤ k1) (c1:k1 ≤ 3) (b2:0 ≤ k2) (c2:k2 ≤ 24) (b3:0 ≤ k3) (c3:k3 ≤ 3) :
  dby (1+a*400+k1*100+k2*4+k3*1)+r4=n:=by
 unfold dby; omega
theorem alg_len (a k1 k2 k3 r4 : Int) (h0 : 0 ≤ a) (ha : a ≤ 24) (b1 : 0 ≤ k1) (c1 : k1 ≤ 3) (b2 : 0 ≤ k2) (c2 : k2 ≤ 24) (b3 : 0 ≤ k3) (c3 : k3 ≤ 3)
  (h365:r4 ≤ 365) (e3:k3 < 3 → r4 < 365) (e2:k2=24 → k1 < 3 → 365*k3+r4 < 1460)
  (hy:1+a*400+k1*100+k2*4+k3*1 ≤ 9999) :
  r4 < 337+feb (1+a*400+k1*100+k2*4+k3*1):=by
 by_cases h:lp (1+a*400+k1*100+k2*4+k3*1)
 ·rw [feb_lp h]; omega
 ·rw [feb_no h]; unfold lp at h; omega
theorem year_eq {y m d n y0 r : Int} (hv : vld y m d) (hn : num y m d = n) (h1 : 1 ≤ y0) (h2 : y0 ≤ 9999) (e : dby y0 + r = n) (hr : 0 ≤ r) (hr' : r < 337 + feb y0) :
  y0=y ∧ r=cum y m+d - 1:=by
 have b:=num_bd hv
 have c:=dby_succ y0 h1 h2
 have ey:y0=y:=by
  rcases Int.lt_trichotomy y0 y with hlt | heq | hgt
  ·have:=dby_mono (a:=y0+1) (b:=y) (by omega) (by omega); omega
  ·exact heq
  ·have:=dby_mono (a:=y+1) (b:=y0) (by have:=hv.1; omega) (by omega); omega
 subst ey
 unfold num at hn
 exact ⟨rfl,by omega⟩
theorem alg_year {y m d n : Int} (hv : vld y m d) (hn : num y m d = n) (a k1 k2 k3 r4 : Int) (h1 : n ≤ 3652058)
  (hs:n=146097*a+36524*k1+1461*k2+365*k3+r4) (h0:0 ≤ a) (ha:a ≤ 24) (b1:0 ≤ k1) (c1:k1 ≤ 3) (b2:0 ≤ k2) (c2:k2 ≤ 24) (b3:0 ≤ k3) (c3:k3 ≤ 3)
  (h4:0 ≤ r4) (h365:r4 ≤ 365) (e3:k3 < 3 → r4 < 365) (e2:k2=24 → k1 < 3 → 365*k3+r4 < 1460) :
  1+a*400+k1*100+k2*4+k3=y ∧ r4=cum y m+d - 1:=by
 have e:=alg_date n a k1 k2 k3 r4 hs h0 ha b1 c1 b2 c2 b3 c3
 rw [Int.mul_one] at e
 have hy:1+a*400+k1*100+k2*4+k3 ≤ 9999:=by
  refine Int.not_lt.1 fun hc => ?_
  have:=dby_mono (a:=10000) (b:=1+a*400+k1*100+k2*4+k3) (by omega) (by omega)
  have h10:dby 10000=3652059:=by decide
  omega
 have hl:=alg_len a k1 k2 k3 r4 h0 ha b1 c1 b2 c2 b3 c3 h365 e3 e2 (by rw [Int.mul_one]; exact hy)
 rw [Int.mul_one] at hl
 exact year_eq hv hn (by omega) hy e h4 hl
end Go.Proofs.YtgdngfdeeadlnaaGreatDoor.Cal
namespace Go.Proofs.YtgdngfdeeadlnaaGreatDoor.Cal
open Go.RowKit Cal
theorem ret_int {k : IntKind} {a b : Int} (h : a = b) : Ending.returned (.int k a) = .returned (.int k b) := by rw [h]
theorem int_eq {k : IntKind} {a b : Int} (h : a = b) : Value.int k a = .int k b := by rw [h]
theorem ret_tup2 {k l : IntKind} {a b c : Int} (h : a = b) : Ending.returned (.tuple #[.int k a,.int l c]) = .returned (.tuple #[.int k b,.int l c]) := by rw [h]
theorem ret_bool {a b : Bool} (h : a = b) : Ending.returned (.bool a) = .returned (.bool b) := by rw [h]
set_option maxHeartbeats 400000 in
theorem cal_years (y : Int) (w : World) :
    Calls Tryz.prog 146 #[.int .i64 y] w fun e w' => e=.returned (.bool (yrB y)) ∧ w=w':=by
  by_cases h1:1 ≤ y <;> by_cases h2:y ≤ 9999 <;>
  (go_enter Tryz.func146,Tryz.ntmps146
   go_wp2
   go_ret
   exact ⟨ret_bool (by first | exact (yrB_t (y:=y) (by omega)).symm | exact (yrB_f (y:=y) (by omega)).symm),rfl⟩)
set_option maxHeartbeats 400000 in
theorem cal_Leap (y : Int) (w : World) :
    Calls Tryz.prog 145 #[.int .i64 y] w fun e w' => e=.returned (.bool (lpB y)) ∧ w=w':=by
  by_cases h:1 ≤ y ∧ y ≤ 9999
  · obtain ⟨h1,h2⟩:=h
    by_cases h3:y % 4=0 <;> by_cases h4:y % 100=0 <;> by_cases h5:y % 400=0 <;>
    (go_enter Tryz.func145,Tryz.ntmps145
     go_wp2
     go_ret
     exact ⟨ret_bool (by first | exact (lpB_t (y:=y) (by unfold lp; omega)).symm | exact (lpB_f (y:=y) (by unfold lp; omega)).symm | (rw [Bool.eq_iff_iff]; simp [lpB,lp,h1,h2,h3,h4,h5]; done) | (rw [Bool.eq_iff_iff]; simp only [lpB,lp,beq_iff_eq,decide_eq_true_eq]; omega)),rfl⟩)
  · by_cases h1:1 ≤ y
    · have h2:¬ y ≤ 9999:=by omega
      go_enter Tryz.func145,Tryz.ntmps145
      go_wp2
      go_ret
      exact ⟨ret_bool (by first | exact (lpB_t (y:=y) (by unfold lp; omega)).symm | exact (lpB_f (y:=y) (by unfold lp; omega)).symm | (rw [Bool.eq_iff_iff]; simp [lpB,lp,h1,h2,h3,h4,h5]; done) | (rw [Bool.eq_iff_iff]; simp only [lpB,lp,beq_iff_eq,decide_eq_true_eq]; omega)),rfl⟩
    · go_enter Tryz.func145,Tryz.ntmps145
      go_wp2
      go_ret
      exact ⟨ret_bool (by first | exact (lpB_t (y:=y) (by unfold lp; omega)).symm | exact (lpB_f (y:=y) (by unfold lp; omega)).symm | (rw [Bool.eq_iff_iff]; simp [lpB,lp,h1,h2,h3,h4,h5]; done) | (rw [Bool.eq_iff_iff]; simp only [lpB,lp,beq_iff_eq,decide_eq_true_eq]; omega)),rfl⟩
set_option maxHeartbeats 400000 in
theorem ref_Leap (y : Int) (w : World) :
    Calls Tryz.prog 150 #[.int .i64 y] w fun e w' => e=.returned (.bool (lpB y)) ∧ w=w':=by
  by_cases h:1 ≤ y ∧ y ≤ 9999
  · obtain ⟨h1,h2⟩:=h
    by_cases h3:y % 4=0 <;> by_cases h4:y % 100=0 <;> by_cases h5:y % 400=0 <;>
    (go_enter Tryz.func150,Tryz.ntmps150
     go_wp2
     go_ret
     exact ⟨ret_bool (by first | exact (lpB_t (y:=y) (by unfold lp; omega)).symm | exact (lpB_f (y:=y) (by unfold lp; omega)).symm | (rw [Bool.eq_iff_iff]; simp [lpB,lp,h1,h2,h3,h4,h5]; done) | (rw [Bool.eq_iff_iff]; simp only [lpB,lp,beq_iff_eq,decide_eq_true_eq]; omega)),rfl⟩)
  · by_cases h1:1 ≤ y
    · have h2:¬ y ≤ 9999:=by omega
      go_enter Tryz.func150,Tryz.ntmps150
      go_wp2
      go_ret
      exact ⟨ret_bool (by first | exact (lpB_t (y:=y) (by unfold lp; omega)).symm | exact (lpB_f (y:=y) (by unfold lp; omega)).symm | (rw [Bool.eq_iff_iff]; simp [lpB,lp,h1,h2,h3,h4,h5]; done) | (rw [Bool.eq_iff_iff]; simp only [lpB,lp,beq_iff_eq,decide_eq_true_eq]; omega)),rfl⟩
    · go_enter Tryz.func150,Tryz.ntmps150
      go_wp2
      go_ret
      exact ⟨ret_bool (by first | exact (lpB_t (y:=y) (by unfold lp; omega)).symm | exact (lpB_f (y:=y) (by unfold lp; omega)).symm | (rw [Bool.eq_iff_iff]; simp [lpB,lp,h1,h2,h3,h4,h5]; done) | (rw [Bool.eq_iff_iff]; simp only [lpB,lp,beq_iff_eq,decide_eq_true_eq]; omega)),rfl⟩
set_option maxHeartbeats 400000 in
theorem cal_before (y : Int) (w : World) (h1 : 1 ≤ y) (h2 : y ≤ 9999) :
  Calls Tryz.prog 147 #[.int .i64 y] w fun e w' => e=.returned (.int .i64 (dby y)) ∧ w=w':=by
 go_enter Tryz.func147,Tryz.ntmps147
 go_wp2
 go_ret
 exact ⟨ret_int (by unfold dby; omega),rfl⟩
set_option maxHeartbeats 400000 in
theorem ref_length (y m : Int) (w : World) (h1 : 1 ≤ m) (h2 : m ≤ 12) :
    Calls Tryz.prog 116 #[.int .i64 y,.int .i64 m] w fun e w' => e=.returned (.int .i64 (lenI y m)) ∧ w=w':=by
  by_cases h:m=2
  · subst h
    cases hl:lpB y
    all_goals
      have HL:=Lib.hid hl
      clear hl
      go_enter Tryz.func116,Tryz.ntmps116
      go_wp2_with (go_at_call 150; refine (ref_Leap _ _).mono ?_; rintro e w' ⟨rfl,rfl⟩; rw [HL.out])
      go_ret
      exact ⟨ret_int (by simp [lenI,feb,HL.out]),rfl⟩
  · have hm:m=4 ∨ m=6 ∨ m=9 ∨ m=11 ∨ (m ≠ 2 ∧ m ≠ 4 ∧ m ≠ 6 ∧ m ≠ 9 ∧ m ≠ 11):=by omega
    rcases hm with rfl | rfl | rfl | rfl | ⟨a,b,c,d,f⟩ <;>
    (go_enter Tryz.func116,Tryz.ntmps116
     go_wp2
     go_ret
     exact ⟨ret_int (by simp [lenI, *]),rfl⟩)
abbrev monthsC (y : Int) : Array Value := #[.int .i64 31,.int .i64 (feb y),.int .i64 31,.int .i64 30,.int .i64 31,.int .i64 30,.int .i64 31,.int .i64 31,.int .i64 30,.int .i64 31,.int .i64 30,.int .i64 31]
set_option maxHeartbeats 400000 in
theorem cal_months (y : Int) (w : World) :
  Calls Tryz.prog 144 #[.bool (lpB y)] w fun e w' => e=.returned (.agg (monthsC y)) ∧ Below w.heap.size w w':=by
 cases hl:lpB y
 all_goals
  have HL:=Lib.hid hl
  clear hl
  go_enter Tryz.func144,Tryz.ntmps144
  go_wp2
  exact bodyPost_ret (v:=.agg (monthsC y)) (by simp [results,Tryz.results144,go_sem,monthsC,feb,HL.out]) rfl ⟨rfl,((Below.refl _ _).alloc (Nat.le_refl _) _).alloc (by simp) _⟩
set_option maxHeartbeats 1000000 in
theorem ref_Day_t (y m d : Int) (w : World) (hv : vld y m d) :
  Calls Tryz.prog 82 #[.int .i64 y,.int .i64 m,.int .i64 d] w fun e w' => e=.returned (.tuple #[.int .i64 (num y m d),.int .i64 0]) ∧ w=w':=by
 obtain ⟨h1,h2,h3,h4,h5,h6⟩:=hv
 have hl:=len_bd y m
 have hd:=dby_bd h1 (by omega)
 go_enter Tryz.func82,Tryz.ntmps82
 go_wp2_with (go_at_call 116; refine (ref_length _ _ _ (by omega) (by omega)).mono ?_; rintro e w' ⟨rfl,rfl⟩)
 go_loop [9,10] (fun n i => ∃ k:Int,1 ≤ k ∧ k ≤ m ∧ i=.int .i64 k ∧ n=.int .i64 (dby y+cum y k)) (fun _ i => (m - intOf i).toNat)
 case atStart => exact ⟨1,by omega,by omega,rfl,int_eq (by rw [cum_1]; unfold dby; omega)⟩
 case round =>
  obtain ⟨k,hk1,hk2,rfl,rfl⟩:=hrel
  have hc:=cum_bd y k hk1 (by omega)
  have hl':=len_bd y k
  by_cases hlt:k < m
  ·have hs:=Lib.hid (cum_succ y k hk1 (by omega))
   go_wp2_with (go_at_call 116; refine (ref_length _ _ _ (by omega) (by omega)).mono ?_; rintro e w' ⟨rfl,rfl⟩)
   go_round
   case rel => exact ⟨k+1,by omega,by omega,rfl,int_eq (by rw [hs.out]; omega)⟩
   case measure => simp [intOf]; omega
  ·go_wp2
   go_ret2
   exact ⟨ret_tup2 (by rw [show k=m from by omega]; unfold num; omega),rfl⟩
set_option maxHeartbeats 1000000 in
theorem ref_Day_f (y m d : Int) (w : World) (hv : ¬ vld y m d) :
  Calls Tryz.prog 82 #[.int .i64 y,.int .i64 m,.int .i64 d] w fun e w' => e=.returned (.tuple #[.int .i64 0,.int .i64 10]) ∧ w=w':=by
 unfold vld at hv
 by_cases h1:1 ≤ y
 ·by_cases h2:y ≤ 9999
  ·by_cases h3:1 ≤ m
   ·by_cases h4:m ≤ 12
    ·by_cases h5:1 ≤ d
     ·have h6:lenI y m < d:=by omega
      clear hv
      go_enter Tryz.func82,Tryz.ntmps82
      go_wp2_with (go_at_call 116; refine (ref_length _ _ _ (by omega) (by omega)).mono ?_; rintro e w' ⟨rfl,rfl⟩)
      go_ret2
      exact ⟨rfl,rfl⟩
     ·clear hv
      go_enter Tryz.func82,Tryz.ntmps82
      go_wp2
      go_ret2
      exact ⟨rfl,rfl⟩
    ·clear hv
     go_enter Tryz.func82,Tryz.ntmps82
     go_wp2
     go_ret2
     exact ⟨rfl,rfl⟩
   ·clear hv
    go_enter Tryz.func82,Tryz.ntmps82
    go_wp2
    go_ret2
    exact ⟨rfl,rfl⟩
  ·clear hv
   go_enter Tryz.func82,Tryz.ntmps82
   go_wp2
   go_ret2
   exact ⟨rfl,rfl⟩
 ·clear hv
  go_enter Tryz.func82,Tryz.ntmps82
  go_wp2
  go_ret2
  exact ⟨rfl,rfl⟩
theorem ref_Day (y m d : Int) (w : World) :
  Calls Tryz.prog 82 #[.int .i64 y,.int .i64 m,.int .i64 d] w fun e w' => e=.returned (.tuple #[.int .i64 (dayN y m d),.int .i64 (dayE y m d)]) ∧ w=w':=by
 by_cases hv:vld y m d
 ·rw [dayN,dayE,if_pos hv,if_pos hv]; exact ref_Day_t y m d w hv
 ·rw [dayN,dayE,if_neg hv,if_neg hv]; exact ref_Day_f y m d w hv
theorem bcell {W w1 : World} (hb : Below W.heap.size W w1) : (∀ b o,b < W.heap.size → w1.cell? ⟨b,o,none⟩ = W.cell? ⟨b,o,none⟩) ∧ (∀ b o,b < W.heap.size → w1.frozen? ⟨b,o,none⟩ = W.frozen? ⟨b,o,none⟩) :=
 ⟨fun b o h => hb.cell (p:=⟨b,o,none⟩) h,fun b o h => hb.frozen (p:=⟨b,o,none⟩) h⟩
theorem months_cell (y : Int) (W : World) (T : TypeId) (k : Nat) (hk : k < 12) : (W.alloc (.cells (monthsC y) T)).cell? ⟨W.heap.size,k,none⟩ = some (.int .i64 (lenI y ((k : Int) + 1))) := by
 have:k=0 ∨ k=1 ∨ k=2 ∨ k=3 ∨ k=4 ∨ k=5 ∨ k=6 ∨ k=7 ∨ k=8 ∨ k=9 ∨ k=10 ∨ k=11:=by omega
 rcases this with rfl | rfl | rfl | rfl | rfl | rfl | rfl | rfl | rfl | rfl | rfl | rfl <;> simp [lenI]
end Go.Proofs.YtgdngfdeeadlnaaGreatDoor.Cal
namespace Go.Proofs.YtgdngfdeeadlnaaGreatDoor.Cal
open Go.RowKit Cal
theorem al12 : Tryz.prog.arrayLen 195 = 12 := by kernel_rfl
theorem el12 : Tryz.prog.elem 195 = 3 := by kernel_rfl
theorem un12 : Tryz.prog.underlying 195 = some (.array 12 3) := by kernel_rfl
theorem sz_int (W : World) : (sizeOf 3).run Tryz.prog W = .ok 1 W := by kernel_rfl
theorem slice12 (W : World) (b : Nat) (h : Int) (h0 : 0 ≤ h) (h1 : h ≤ 12) :
  (Instr.sliceAt 195 (.pointer (some ⟨b,0,none⟩)) none (some (.int .i64 h)) none).run Tryz.prog W=.ok (.slice (some ⟨b,0,none⟩) h.toNat 12) W:=by
 rw [run_sliceAt_array_h (P:=Tryz.prog) W 195 ⟨b,0,none⟩ (by rw [al12,el12]; exact un12) .i64 h h0 (by rw [al12]; exact h1),al12,el12,sz_int]
 simp [slicedAt,Addr.add]
set_option maxHeartbeats 1000000 in
theorem cal_Day_t (y m d : Int) (w : World) (hv : vld y m d) :
  Calls Tryz.prog 113 #[.int .i64 y,.int .i64 m,.int .i64 d] w fun e w' => e=.returned (.tuple #[.int .i64 (num y m d),.int .i64 0]) ∧ Below w.heap.size w w':=by
 obtain ⟨h1,h2,h3,h4,h5,h6⟩:=hv
 have hl:=len_bd y m
 have hd:=dby_bd h1 (by omega)
 have hyr:=Lib.hid (yrB_t ⟨h1,h2⟩)
 have hcell:∀ W:World,(W.alloc (.cells (monthsC y) 195)).cell? ⟨W.heap.size,m.toNat - 1,none⟩=some (.int .i64 (lenI y m)):=fun W => by
  rw [months_cell y W 195 (m.toNat - 1) (by omega),show ((m.toNat - 1:Nat):Int)+1=m from by omega]
 have hsl:=fun (W:World) (b:Nat) => slice12 W b (m - 1) (by omega) (by omega)
 go_enter Tryz.func113,Tryz.ntmps113
 go_wp2_with (first | (go_at_call 145; refine (cal_Leap _ _).mono ?_; rintro e w' ⟨rfl,rfl⟩) | (go_at_call 146; refine (cal_years _ _).mono ?_; rintro e w' ⟨rfl,rfl⟩; rw [hyr.out]) | (go_at_call 144; refine (cal_months _ _).mono ?_; rintro e w1 ⟨rfl,hb⟩; obtain ⟨hc,hf⟩:=bcell hb) | (go_at_call 147; refine (cal_before _ _ (by omega) (by omega)).mono ?_; rintro e w' ⟨rfl,rfl⟩))
 go_loop [9,47] (fun n i => ∃ k:Nat,(k:Int) ≤ m - 1 ∧ i=.int .i64 k ∧ n=.int .i64 (dby y+cum y ((k:Int)+1)+d - 1)) (fun _ i => (m - intOf i).toNat)
 case atStart => exact ⟨0,by omega,rfl,int_eq (by rw [show (((0:Nat):Int)+1)=1 from rfl,cum_1]; omega)⟩
 case round =>
  obtain ⟨k,hk2,rfl,rfl⟩:=hrel
  have hc':=cum_bd y ((k:Int)+1) (by omega) (by omega)
  have hl':=len_bd y ((k:Int)+1)
  by_cases hlt:(k:Int) < m - 1
  ·have hs:=Lib.hid (cum_succ y ((k:Int)+1) (by omega) (by omega))
   have hck:∀ W:World,(W.alloc (.cells (monthsC y) 195)).cell? ⟨W.heap.size,k,none⟩=some (.int .i64 (lenI y ((k:Int)+1))):=fun W => months_cell y W 195 k (by omega)
   go_wp2
   go_round
   case rel => exact ⟨k+1,by omega,by go_num,int_eq (by rw [show (((k+1:Nat):Int)+1)=(k:Int)+1+1 from by omega,hs.out]; omega)⟩
   case measure => simp [intOf]; omega
  ·go_wp2
   go_ret2
   exact ⟨ret_tup2 (by rw [show (k:Int)+1=m from by omega]; unfold num; omega),hb.alloc hb.size _⟩
set_option maxHeartbeats 1000000 in
theorem cal_Day_f (y m d : Int) (w : World) (hv : ¬ vld y m d) :
  Calls Tryz.prog 113 #[.int .i64 y,.int .i64 m,.int .i64 d] w fun e w' => e=.returned (.tuple #[.int .i64 0,.int .i64 10]) ∧ Below w.heap.size w w':=by
 unfold vld at hv
 by_cases h12:1 ≤ y ∧ y ≤ 9999
 ·have hyr:=Lib.hid (yrB_t h12)
  by_cases h3:1 ≤ m
  ·by_cases h4:m ≤ 12
   ·by_cases h5:1 ≤ d
    ·have h6:lenI y m < d:=by omega
     clear hv
     have hcell:∀ W:World,(W.alloc (.cells (monthsC y) 195)).cell? ⟨W.heap.size,m.toNat - 1,none⟩=some (.int .i64 (lenI y m)):=fun W => by
      rw [months_cell y W 195 (m.toNat - 1) (by omega),show ((m.toNat - 1:Nat):Int)+1=m from by omega]
     clear h12
     go_enter Tryz.func113,Tryz.ntmps113
     go_wp2_with (first | (go_at_call 145; refine (cal_Leap _ _).mono ?_; rintro e w' ⟨rfl,rfl⟩) | (go_at_call 146; refine (cal_years _ _).mono ?_; rintro e w' ⟨rfl,rfl⟩; rw [hyr.out]) | (go_at_call 144; refine (cal_months _ _).mono ?_; rintro e w1 ⟨rfl,hb⟩; obtain ⟨hc,hf⟩:=bcell hb))
     go_ret2
     exact ⟨rfl,hb.alloc hb.size _⟩
    ·clear hv h12
     go_enter Tryz.func113,Tryz.ntmps113
     go_wp2_with (first | (go_at_call 145; refine (cal_Leap _ _).mono ?_; rintro e w' ⟨rfl,rfl⟩) | (go_at_call 146; refine (cal_years _ _).mono ?_; rintro e w' ⟨rfl,rfl⟩; rw [hyr.out]) | (go_at_call 144; refine (cal_months _ _).mono ?_; rintro e w1 ⟨rfl,hb⟩; obtain ⟨hc,hf⟩:=bcell hb))
     go_ret2
     exact ⟨rfl,hb.alloc hb.size _⟩
   ·clear hv h12
    go_enter Tryz.func113,Tryz.ntmps113
    go_wp2_with (first | (go_at_call 145; refine (cal_Leap _ _).mono ?_; rintro e w' ⟨rfl,rfl⟩) | (go_at_call 146; refine (cal_years _ _).mono ?_; rintro e w' ⟨rfl,rfl⟩; rw [hyr.out]) | (go_at_call 144; refine (cal_months _ _).mono ?_; rintro e w1 ⟨rfl,hb⟩; obtain ⟨hc,hf⟩:=bcell hb))
    go_ret2
    exact ⟨rfl,hb.alloc hb.size _⟩
  ·clear hv h12
   go_enter Tryz.func113,Tryz.ntmps113
   go_wp2_with (first | (go_at_call 145; refine (cal_Leap _ _).mono ?_; rintro e w' ⟨rfl,rfl⟩) | (go_at_call 146; refine (cal_years _ _).mono ?_; rintro e w' ⟨rfl,rfl⟩; rw [hyr.out]) | (go_at_call 144; refine (cal_months _ _).mono ?_; rintro e w1 ⟨rfl,hb⟩; obtain ⟨hc,hf⟩:=bcell hb))
   go_ret2
   exact ⟨rfl,hb.alloc hb.size _⟩
 ·have hyr:=Lib.hid (yrB_f h12)
  clear hv h12
  go_enter Tryz.func113,Tryz.ntmps113
  go_wp2_with (first | (go_at_call 145; refine (cal_Leap _ _).mono ?_; rintro e w' ⟨rfl,rfl⟩) | (go_at_call 146; refine (cal_years _ _).mono ?_; rintro e w' ⟨rfl,rfl⟩; rw [hyr.out]) | (go_at_call 144; refine (cal_months _ _).mono ?_; rintro e w1 ⟨rfl,hb⟩; obtain ⟨hc,hf⟩:=bcell hb))
  go_ret2
  exact ⟨rfl,hb.alloc hb.size _⟩
theorem cal_Day (y m d : Int) (w : World) :
  Calls Tryz.prog 113 #[.int .i64 y,.int .i64 m,.int .i64 d] w fun e w' => e=.returned (.tuple #[.int .i64 (dayN y m d),.int .i64 (dayE y m d)]) ∧ Below w.heap.size w w':=by
 by_cases hv:vld y m d
 ·rw [dayN,dayE,if_pos hv,if_pos hv]; exact cal_Day_t y m d w hv
 ·rw [dayN,dayE,if_neg hv,if_neg hv]; exact cal_Day_f y m d w hv
end Go.Proofs.YtgdngfdeeadlnaaGreatDoor.Cal
namespace Go.Proofs.YtgdngfdeeadlnaaGreatDoor.Cal
open Go.RowKit Cal
theorem below_dn {B : Nat} {a w : World} (h : Below B a w) (n : Nat) : Below B a (w.drewN n) := ⟨h.os,h.tape,h.output,h.size,h.block⟩
theorem results_tmp4 {fn : Func} {t u v x : Tmp} (h : fn.results = #[.tmp t,.tmp u,.tmp v,.tmp x]) (tmps : Array Value) (P : Program) (w : World) :
  (results fn tmps).run P w=.ok (.tuple #[tmps.getD t undef,tmps.getD u undef,tmps.getD v undef,tmps.getD x undef]) w:=by simp [results,h]
set_option maxHeartbeats 1000000 in
theorem cal_Date_f (n : Int) (w : World) (hv : ¬ (0 ≤ n ∧ n ≤ 3652058)) :
  Calls Tryz.prog 148 #[.int .i64 n] w fun e w' => e=.returned (.tuple #[.int .i64 0,.int .i64 0,.int .i64 0,.int .i64 2]) ∧ w=w':=by
 by_cases h0:0 ≤ n
 ·have h1:¬ n ≤ 3652058:=by omega
  go_enter Tryz.func148,Tryz.ntmps148
  go_wp2
  refine bodyPost_ret (results_tmp4 rfl _ _ _) rfl ?_
  exact ⟨rfl,rfl⟩
 ·go_enter Tryz.func148,Tryz.ntmps148
  go_wp2
  refine bodyPost_ret (results_tmp4 rfl _ _ _) rfl ?_
  exact ⟨rfl,rfl⟩
theorem index12 (y : Int) (k : Nat) (hk : k < 12) (W : World) : (Instr.index 195 (.agg (monthsC y)) (.int .i64 (k : Int))).run Tryz.prog W = .ok (.int .i64 (lenI y ((k : Int) + 1))) W := by
 have:k=0 ∨ k=1 ∨ k=2 ∨ k=3 ∨ k=4 ∨ k=5 ∨ k=6 ∨ k=7 ∨ k=8 ∨ k=9 ∨ k=10 ∨ k=11:=by omega
 rcases this with rfl | rfl | rfl | rfl | rfl | rfl | rfl | rfl | rfl | rfl | rfl | rfl <;> (clear hk; show Sem.run Tryz.prog _ W=Result.ok _ W; kernel_rfl)
set_option maxHeartbeats 1000000 in
theorem cal_Date_t (n y m d : Int) (w : World) (hv : vld y m d) (hn : num y m d = n) :
  Calls Tryz.prog 148 #[.int .i64 n] w fun e w' => e=.returned (.tuple #[.int .i64 y,.int .i64 m,.int .i64 d,.int .i64 0]) ∧ Below w.heap.size w w':=by
 have hb:=num_bd hv
 have h0:0 ≤ n:=by omega
 have h1:n ≤ 3652058:=by omega
 have HN:=Lib.hid hn
 clear hn hb
 obtain ⟨r1,hr1⟩:∃ x,n % 146097=x:=⟨_,rfl⟩
 obtain ⟨k1,hk1⟩:∃ x,(if 3 < r1 / 36524 then (3:Int) else r1 / 36524)=x:=⟨_,rfl⟩
 obtain ⟨r2,hr2⟩:∃ x,r1 - k1*36524=x:=⟨_,rfl⟩
 obtain ⟨k2,hk2⟩:∃ x,r2 / 1461=x:=⟨_,rfl⟩
 obtain ⟨r3,hr3⟩:∃ x,r2 - k2*1461=x:=⟨_,rfl⟩
 obtain ⟨k3,hk3⟩:∃ x,(if 3 < r3 / 365 then (3:Int) else r3 / 365)=x:=⟨_,rfl⟩
 obtain ⟨r4,hr4⟩:∃ x,r3 - k3*365=x:=⟨_,rfl⟩
 obtain ⟨a,ha⟩:∃ x,n / 146097=x:=⟨_,rfl⟩
 have bd:=alg_ok n h0 h1 a r1 k1 r2 k2 r3 k3 r4 ha.symm hr1.symm (by rw [← hk1]; split <;> omega) hr2.symm (by rw [← hk1] at hr2; split at hr2 <;> omega) hr3.symm (by rw [← hk3]; split <;> omega) hr4.symm
 obtain ⟨ba0,ba1,br1,br1',bk1,bk1',br2,br2',bk2,bk2',br3,br3',bk3,bk3',br4,br4',e1,e2,e3,e4,e5,e6⟩:=bd
 have E1:=Lib.hid e1; have E5:=Lib.hid e5; have E6:=Lib.hid e6
 have E2:=Lib.hid hr2; have E3:=Lib.hid hr3; have E4:=Lib.hid hr4
 have hyr:1+a*400+k1*100+k2*4+k3=y ∧ r4=cum y m+d - 1:=by
  exact alg_year hv HN.out a k1 k2 k3 r4 h1 (by omega) ba0 ba1 bk1 bk1' bk2 bk2' bk3 bk3' br4 br4' e6 (by omega)
 obtain ⟨hy,hr⟩:=hyr
 have HR:=Lib.hid hr
 clear e1 e2 e3 e4 e5 e6 hr
 have hy1:=hv.1
 have hy2:=hv.2.1
 have hm1:=hv.2.2.1
 have hm2:=hv.2.2.2.1
 have hd1:=hv.2.2.2.2.1
 have hd2:=hv.2.2.2.2.2
 clear hv
 have hld:=len_bd y m
 have i0:∀ w,(Instr.index 225 (.agg #[.int .i64 36524,.int .i64 100,.int .i64 3,.int .i64 1461,.int .i64 4,.int .i64 24,.int .i64 365,.int .i64 1,.int .i64 3]) (.int .i64 0)).run Tryz.prog w=.ok (.agg #[.int .i64 36524,.int .i64 100,.int .i64 3]) w:=fun _ => by kernel_rfl
 have i1:∀ w,(Instr.index 225 (.agg #[.int .i64 36524,.int .i64 100,.int .i64 3,.int .i64 1461,.int .i64 4,.int .i64 24,.int .i64 365,.int .i64 1,.int .i64 3]) (.int .i64 1)).run Tryz.prog w=.ok (.agg #[.int .i64 1461,.int .i64 4,.int .i64 24]) w:=fun _ => by kernel_rfl
 have i2:∀ w,(Instr.index 225 (.agg #[.int .i64 36524,.int .i64 100,.int .i64 3,.int .i64 1461,.int .i64 4,.int .i64 24,.int .i64 365,.int .i64 1,.int .i64 3]) (.int .i64 2)).run Tryz.prog w=.ok (.agg #[.int .i64 365,.int .i64 1,.int .i64 3]) w:=fun _ => by kernel_rfl
 go_enter Tryz.func148,Tryz.ntmps148
 go_wp2
 refine wp_loop_rounds 4 ?_
 rw [rounds_succ]
 go_wp2
 go_region
 go_wp2
 go_quiet (fail)
 go_wp2
 rw [rounds_succ]
 go_wp2
 go_region
 go_wp2
 go_quiet (fail)
 go_wp2
 rw [rounds_succ]
 go_wp2
 go_region
 go_wp2
 go_quiet (fail)
 go_wp2
 rw [rounds_succ]
 go_wp2_with (first | (go_at_call 145; refine (cal_Leap _ _).mono ?_; rintro e w' ⟨rfl,rfl⟩) | (go_at_call 144; refine (cal_months _ _).mono ?_; rintro e w1 ⟨rfl,hb⟩; obtain ⟨hc,hf⟩:=bcell hb))
 have hrv:=HR.out
 have hcm:=cum_bd y m hm1 (by omega)
 clear hr1 hk1 hr2 hk2 hr3 hk3 hr4 ha hy i0 i1 i2 E1 E5 E6 E2 E3 E4 hc hf hrv
 go_loop [0,10,55] (fun x mo i => ∃ k:Nat,(k:Int) ≤ m - 1 ∧ i=.int .i64 k ∧ mo=.int .i64 ((k:Int)+1) ∧ x=.int .i64 (r4 - cum y ((k:Int)+1))) (fun _ _ i => (m - intOf i).toNat)
 case atStart => exact ⟨0,by omega,rfl,rfl,int_eq (by rw [show (((0:Nat):Int)+1)=1 from rfl,cum_1]; omega)⟩
 case round =>
  obtain ⟨k,hk2,rfl,rfl,rfl⟩:=hrel
  have hix:=fun W => index12 y k (by omega) W
  have hc':=cum_bd y ((k:Int)+1) (by omega) (by omega)
  have hl':=len_bd y ((k:Int)+1)
  by_cases hlt:(k:Int) < m - 1
  ·have hs:=Lib.hid (cum_succ y ((k:Int)+1) (by omega) (by omega))
   have hge:lenI y ((k:Int)+1) ≤ r4 - cum y ((k:Int)+1):=by
    have:=hs.out; have:=cum_le y (a:=(k:Int)+1+1) (b:=m) (by omega) (by omega) (by omega); have:=HR.out; omega
   go_wp2
   go_round
   case rel => exact ⟨k+1,by omega,by go_num,by go_num,int_eq (by rw [show (((k+1:Nat):Int)+1)=(k:Int)+1+1 from by omega,hs.out]; omega)⟩
   case measure => simp [intOf]; omega
  ·have hkm:(k:Int)+1=m:=by omega
   have hlt2:r4 - cum y ((k:Int)+1) < lenI y ((k:Int)+1):=by rw [hkm]; have:=HR.out; omega
   have hlo:0 ≤ r4 - cum y ((k:Int)+1):=by rw [hkm]; have:=HR.out; omega
   have HK:=Lib.hid hkm
   clear hkm
   go_wp2
   refine bodyPost_ret (results_tmp4 rfl _ _ _) rfl ?_
   refine ⟨?_,?_⟩
   ·show Ending.returned (.tuple #[.int .i64 y,.int .i64 ((k:Int)+1),.int .i64 (r4 - cum y ((k:Int)+1)+1),.int .i64 0])=_
    have:=HR.out; rw [HK.out,show r4 - cum y m+1=d from by omega]
   ·exact (below_dn ((below_dn ((below_dn ((Below.refl _ _).alloc (Nat.le_refl _) _) _).alloc (by simp) _) _).alloc (by simp; omega) _) _).trans (hb.mono (by simp; omega))
theorem cal_Date (n : Int) (w : World) :
  Calls Tryz.prog 148 #[.int .i64 n] w fun e w' => e=.returned (.tuple #[.int .i64 (dtY n),.int .i64 (dtM n),.int .i64 (dtD n),.int .i64 (dtE n)]) ∧ Below w.heap.size w w':=by
 by_cases h:okN n
 ·obtain ⟨a,b⟩:=dt_ok h
  rw [dtE_ok h]
  exact cal_Date_t n _ _ _ w a b
 ·rw [dtY_no h,dtM_no h,dtD_no h,dtE_no h]
  exact (cal_Date_f n w h).mono fun _ _ ⟨he,hw⟩ => ⟨he,hw ▸ Below.refl _ _⟩
end Go.Proofs.YtgdngfdeeadlnaaGreatDoor.Cal
namespace Go.Proofs.YtgdngfdeeadlnaaGreatDoor.Cal
open Go.RowKit Cal
end Go.Proofs.YtgdngfdeeadlnaaGreatDoor.Cal
namespace Go.Proofs.YtgdngfdeeadlnaaGreatDoor.Cal
open Go.RowKit Cal
end Go.Proofs.YtgdngfdeeadlnaaGreatDoor.Cal
namespace Go.Proofs.YtgdngfdeeadlnaaGreatDoor.Cal
theorem dby_far {y l : Int} (h1 : 1 ≤ y) (h : 0 ≤ l) : 365 * l ≤ dby (y + l) - dby y ∧ dby (y + l) - dby y ≤ 366 * l := by
 unfold dby
 constructor <;> omega
theorem len_two {y y' m : Int} (h : m ≠ 2) : lenI y m = lenI y' m := by simp [lenI,h]
theorem add_out {n l : Int} (h0 : okN n) (hl : 0 ≤ l) (hl2 : l ≤ 9999) (hy : 9999 < dtY n + l) : addE n l ≠ 0 ∧ 3652058 - 366 * l < n := by
 obtain ⟨hv,hn⟩:=dt_ok h0
 have b:=num_bd hv
 rw [hn] at b
 rw [(addE_10 h0 (by omega) hl2 (Or.inr hy)).1]
 refine ⟨by decide,?_⟩
 have f:=dby_far (y:=dtY n) (l:=10000 - dtY n) hv.1 (by have:=hv.2.1; omega)
 rw [show dtY n+(10000 - dtY n)=10000 from by omega,show dby 10000=3652059 from by decide] at f
 omega
end Go.Proofs.YtgdngfdeeadlnaaGreatDoor.Cal

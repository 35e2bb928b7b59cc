/- Plain facts: fixed-width decimal digits, and texts of days as lists of bytes. No program s And more. -/
import Derived.Test.YtgdngfdeeadlnaaGreatDoorC01
import Derived.Lib.ItoaNum
import Derived.Lib.Repeat
import Derived.Test.YtgdngfdeeadlnaaGreatDoorShelf
import Derived.Test.YtgdngfdeeadlnaaGreatDoorShelfF
import GoSem.Op.String
import Derived.Lib.AtoiAllCases
import Derived.Lib.Split
import Derived.LoopN
set_option linter.unusedVariables false
set_option linter.unusedSimpArgs false
namespace Go.Proofs.YtgdngfdeeadlnaaGreatDoor.Cal
open Go
def dg (n : Int) (k : Nat) : UInt8 := UInt8.ofNat (48 + n.toNat / 10 ^ k % 10)
def dig2 (n : Int) : List UInt8 := [dg n 1,dg n 0]
def dig4 (n : Int) : List UInt8 := [dg n 3,dg n 2,dg n 1,dg n 0]
theorem dec1 {u : Nat} (h : u < 10) : Lib.decDigits u = [UInt8.ofNat (48 + u)] := by rw [Lib.decDigits,dif_pos h]
theorem decS {u : Nat} (h : ¬ u < 10) : Lib.decDigits u = Lib.decDigits (u / 10) ++ [UInt8.ofNat (48 + u % 10)] := by rw [Lib.decDigits,dif_neg h]
theorem itoa_pos {n : Int} (h : 0 ≤ n) : Lib.itoa n = Lib.decDigits n.toNat := if_neg (by omega)
theorem itoa_len {n : Int} (h0 : 0 ≤ n) (h : n < 10000) : (n < 10 → (Lib.itoa n).length = 1) ∧ (10 ≤ n → n < 100 → (Lib.itoa n).length = 2) ∧ (100 ≤ n → n < 1000 → (Lib.itoa n).length = 3) ∧ (1000 ≤ n → (Lib.itoa n).length = 4) := by
 rw [itoa_pos h0]
 refine ⟨fun a => ?_,fun a b => ?_,fun a b => ?_,fun a => ?_⟩
 ·rw [dec1 (by omega)]; rfl
 ·rw [decS (by omega),dec1 (by omega)]; rfl
 ·rw [decS (by omega),decS (by omega),dec1 (by omega)]; rfl
 ·rw [decS (by omega),decS (by omega),decS (by omega),dec1 (by omega)]; rfl
theorem e48 : (48 : UInt8) = UInt8.ofNat 48 := rfl
theorem key {a b : Nat} (h : a = b) : UInt8.ofNat a = UInt8.ofNat b := by rw [h]
theorem pad2 {n : Int} (h0 : 0 ≤ n) (h : n < 100) : Lib.repeatL [48] (2 - (Lib.itoa n).length) ++ Lib.itoa n = dig2 n := by
 obtain ⟨a,b,_,_⟩:=itoa_len h0 (by omega)
 by_cases c:n < 10
 ·rw [a c,itoa_pos h0,dec1 (by omega)]
  simp only [Nat.reduceSub,Lib.repeatL,dig2,dg,List.cons_append,List.nil_append,List.append_nil,List.cons.injEq,and_true,e48]
  exact ⟨key (by omega),key (by omega)⟩
 ·rw [b (by omega) h,itoa_pos h0,decS (by omega),dec1 (by omega)]
  simp only [Nat.reduceSub,Lib.repeatL,dig2,dg,List.cons_append,List.nil_append,List.append_nil,List.cons.injEq,and_true,e48]
  exact ⟨key (by omega),key (by omega)⟩
theorem pad4 {n : Int} (h0 : 0 ≤ n) (h : n < 10000) : Lib.repeatL [48] (4 - (Lib.itoa n).length) ++ Lib.itoa n = dig4 n := by
 obtain ⟨a,b,c,d⟩:=itoa_len h0 h
 by_cases c1:n < 10
 ·rw [a c1,itoa_pos h0,dec1 (by omega)]
  simp only [Nat.reduceSub,Lib.repeatL,dig4,dg,List.cons_append,List.nil_append,List.append_nil,List.cons.injEq,and_true,e48]
  refine ⟨?_,?_,?_,?_⟩ <;> first | exact trivial | exact key (by omega)
 ·by_cases c2:n < 100
  ·rw [b (by omega) c2,itoa_pos h0,decS (by omega),dec1 (by omega)]
   simp only [Nat.reduceSub,Lib.repeatL,dig4,dg,List.cons_append,List.nil_append,List.append_nil,List.cons.injEq,and_true,e48]
   refine ⟨?_,?_,?_,?_⟩ <;> first | exact trivial | exact key (by omega)
  ·by_cases c3:n < 1000
   ·rw [c (by omega) c3,itoa_pos h0,decS (by omega),decS (by omega),dec1 (by omega)]
    simp only [Nat.reduceSub,Lib.repeatL,dig4,dg,List.cons_append,List.nil_append,List.append_nil,List.cons.injEq,and_true,e48]
    refine ⟨?_,?_,?_,?_⟩ <;> first | exact trivial | exact key (by omega)
   ·rw [d (by omega),itoa_pos h0,decS (by omega),decS (by omega),decS (by omega),dec1 (by omega)]
    simp only [Nat.reduceSub,Lib.repeatL,dig4,dg,List.cons_append,List.nil_append,List.append_nil,List.cons.injEq,and_true,e48]
    refine ⟨?_,?_,?_,?_⟩ <;> first | exact trivial | exact key (by omega)
def textL (y m d : Int) : List UInt8 := dig4 y ++ [45] ++ dig2 m ++ [45] ++ dig2 d
noncomputable def textN (n : Int) : List UInt8 := if okN n then textL (dtY n) (dtM n) (dtD n) else []
theorem dg_nat (n : Int) (k : Nat) : (dg n k).toNat = 48 + n.toNat / 10 ^ k % 10 := by
 unfold dg
 rw [UInt8.toNat_ofNat']; omega
end Go.Proofs.YtgdngfdeeadlnaaGreatDoor.Cal
namespace Go.Proofs.YtgdngfdeeadlnaaGreatDoor.Cal
open Go.RowKit Cal
theorem below_gr (B : Nat) (w : World) (hB : B ≤ w.heap.size) (k : Nat) (os : Array Obj) : Below B w (Go.Sort.grow (w.drewN k) os) := by
 refine ⟨rfl,rfl,rfl,?_,fun i hi => ?_⟩
 ·show w.heap.size ≤ (w.heap ++ os).size
  simp
 ·show (w.heap ++ os)[i]?=_
  rw [Array.getElem?_append_left (by omega)]
theorem bapp (a b : List UInt8) : (⟨a.toArray⟩ : ByteArray) ++ ⟨b.toArray⟩ = ⟨(a ++ b).toArray⟩ := by
 apply ByteArray.ext
 simp [ByteArray.data_append]
def TabOk (w : World) : Prop := Lib.TabIs Tryz.prog w "internal/strconv.uint64pow10" .u64 Lib.pow10Tab
set_option maxHeartbeats 1000000 in
theorem cal_digits (n wd : Int) (w : World) (htab : TabOk w) (h0 : 0 ≤ n) (h1 : n < 10000) (hw : wd ≤ 4) (hw0 : 0 ≤ wd) (hl : ((Lib.itoa n).length : Int) ≤ wd) :
  Calls Tryz.prog 149 #[.int .i64 n,.int .i64 wd] w fun e w' => e=.returned (.string ⟨(Lib.repeatL [48] (wd.toNat - (Lib.itoa n).length) ++ Lib.itoa n).toArray⟩) ∧ Below w.heap.size w w':=by
 obtain ⟨L,hL⟩:∃ L,Lib.itoa n=L:=⟨_,rfl⟩
 rw [hL] at hl ⊢
 have HL:=Lib.hid hL
 clear hL
 have hI:=Lib.hid htab
 clear htab
 go_enter Tryz.func149,Tryz.ntmps149
 go_wp2_with fail
 refine (Tryz.strconv_Itoa n (by omega) (by omega) _ hI.out).mono ?_
 rintro e w1 ⟨rfl,k,os,rfl⟩
 rw [HL.out]
 go_wp2_with fail
 rw [show max (wd - (L.length:Int)) 0=((wd.toNat - L.length:Nat):Int) from by omega]
 have hb0:=below_gr w.heap.size w (Nat.le_refl _) k os
 generalize Go.Sort.grow (w.drewN k) os=w1 at hb0 ⊢
 refine (Tryz.strings_Repeat ⟨#[48]⟩ (wd.toNat - L.length) _ (by omega) (by show 1*_ ≤ _; omega)).mono ?_
 rintro e w2 ⟨rfl,hb⟩
 have hrl:=Lib.repeatL_length [48] (wd.toNat - L.length)
 go_wp2_with fail
 go_ret
 exact ⟨by exact congrArg (fun x:ByteArray => Ending.returned (.string x)) (bapp _ _),hb0.trans (hb.mono hb0.size)⟩
theorem cal_dig4 (n : Int) (w : World) (htab : TabOk w) (h0 : 0 ≤ n) (h1 : n < 10000) :
  Calls Tryz.prog 149 #[.int .i64 n,.int .i64 4] w fun e w' => e=.returned (.string ⟨(dig4 n).toArray⟩) ∧ Below w.heap.size w w':=by
 have hl:=itoa_len h0 h1
 have h:=cal_digits n 4 w htab h0 h1 (by omega) (by omega) (by omega)
 rw [show (4:Int).toNat=4 from rfl,pad4 h0 h1] at h
 exact h
theorem cal_dig2 (n : Int) (w : World) (htab : TabOk w) (h0 : 0 ≤ n) (h1 : n < 100) :
  Calls Tryz.prog 149 #[.int .i64 n,.int .i64 2] w fun e w' => e=.returned (.string ⟨(dig2 n).toArray⟩) ∧ Below w.heap.size w w':=by
 have hl:=itoa_len h0 (by omega)
 have h:=cal_digits n 2 w htab h0 (by omega) (by omega) (by omega) (by omega)
 rw [show (2:Int).toNat=2 from rfl,pad2 h0 h1] at h
 exact h
theorem tab_below {w w' : World} (h : TabOk w) (hg : 4 < w.heap.size) (hb : Below w.heap.size w w') : TabOk w' :=
 var?_below hb (by kernel_rfl) hg h
theorem tab_lt {w : World} (h : TabOk w) : 4 < w.heap.size := by
 have e : Tryz.prog.globalNamed "internal/strconv.uint64pow10" = some 4 := by kernel_rfl
 unfold TabOk Lib.TabIs World.var? at h
 rw [e] at h
 simp only [Option.bind_some] at h
 refine Nat.not_le.1 fun hc => ?_
 rw [Array.getElem?_eq_none hc] at h
 cases h
set_option maxHeartbeats 1000000 in
theorem cal_Text_t (n : Int) (w : World) (htab : TabOk w) (h : okN n) :
  Calls Tryz.prog 114 #[.int .i64 n] w fun e w' => e=.returned (.tuple #[.string ⟨(textN n).toArray⟩,.int .i64 0]) ∧ Below w.heap.size w w':=by
 have hE:=dtE_ok h
 have hT:textN n=textL (dtY n) (dtM n) (dtD n):=if_pos h
 obtain ⟨a,b,c,d,e1,e2⟩:=(dt_ok h).1
 have hl:=len_bd (dtY n) (dtM n)
 have hI:=Lib.hid htab
 have HT:=Lib.hid hT
 have hg:=tab_lt htab
 clear htab hT
 go_enter Tryz.func114,Tryz.ntmps114
 go_wp2_with fail
 refine (cal_Date _ _).mono ?_
 rintro e w1 ⟨rfl,hb1⟩
 have t1:=Lib.hid (tab_below hI.out hg hb1)
 have g1:4 < w1.heap.size:=Nat.lt_of_lt_of_le hg hb1.size
 go_wp2_with fail
 refine (cal_dig4 _ _ t1.out (by omega) (by omega)).mono ?_
 rintro e w2 ⟨rfl,hb2⟩
 have t2:=Lib.hid (tab_below t1.out g1 hb2)
 have g2:4 < w2.heap.size:=Nat.lt_of_lt_of_le g1 hb2.size
 go_wp2_with fail
 refine (cal_dig2 _ _ t2.out (by omega) (by omega)).mono ?_
 rintro e w3 ⟨rfl,hb3⟩
 have t3:=Lib.hid (tab_below t2.out g2 hb3)
 go_wp2_with fail
 refine (cal_dig2 _ _ t3.out (by omega) (by omega)).mono ?_
 rintro e w4 ⟨rfl,hb4⟩
 go_wp2_with fail
 go_ret2
 refine ⟨?_,((hb1.trans (hb2.mono hb1.size)).trans (hb3.mono (Nat.le_trans hb1.size hb2.size))).trans (hb4.mono (Nat.le_trans (Nat.le_trans hb1.size hb2.size) hb3.size))⟩
 show Ending.returned (.tuple #[.string ((⟨(dig4 (dtY n)).toArray⟩:ByteArray) ++ ⟨([45] : List UInt8).toArray⟩ ++ ⟨(dig2 (dtM n)).toArray⟩ ++ ⟨([45] : List UInt8).toArray⟩ ++ ⟨(dig2 (dtD n)).toArray⟩),.int .i64 0])=_
 rw [bapp,bapp,bapp,bapp,HT.out]
 rfl
set_option maxHeartbeats 1000000 in
theorem cal_Text_f (n : Int) (w : World) (h : ¬ okN n) :
  Calls Tryz.prog 114 #[.int .i64 n] w fun e w' => e=.returned (.tuple #[.string ⟨#[]⟩,.int .i64 2]) ∧ Below w.heap.size w w':=by
 have hE:=dtE_no h
 go_enter Tryz.func114,Tryz.ntmps114
 go_wp2_with fail
 refine (cal_Date _ _).mono ?_
 rintro e w1 ⟨rfl,hb1⟩
 go_wp2_with fail
 go_ret2
 exact ⟨rfl,hb1⟩
theorem cal_Text (n : Int) (w : World) (htab : TabOk w) :
  Calls Tryz.prog 114 #[.int .i64 n] w fun e w' => e=.returned (.tuple #[.string ⟨(textN n).toArray⟩,.int .i64 (dtE n)]) ∧ Below w.heap.size w w':=by
 by_cases h:okN n
 ·rw [dtE_ok h]; exact cal_Text_t n w htab h
 ·rw [dtE_no h,show textN n = [] from if_neg h]; exact cal_Text_f n w h
end Go.Proofs.YtgdngfdeeadlnaaGreatDoor.Cal
namespace Go.Proofs.YtgdngfdeeadlnaaGreatDoor.Cal
open Go
theorem less_cons (a b : UInt8) (x y : List UInt8) : Op.bytesLess (a :: x) (b :: y) = (decide (a < b) || (a == b && Op.bytesLess x y)) := rfl
theorem dg_lt (a b : Int) (k l : Nat) : (dg a k < dg b l) ↔ a.toNat / 10 ^ k % 10 < b.toNat / 10 ^ l % 10 := by
 rw [UInt8.lt_iff_toNat_lt,dg_nat,dg_nat]; omega
theorem dg_eq (a b : Int) (k l : Nat) : (dg a k = dg b l) ↔ a.toNat / 10 ^ k % 10 = b.toNat / 10 ^ l % 10 := by
 rw [← UInt8.toNat_inj,dg_nat,dg_nat]; omega
theorem less_same (c : UInt8) (x y : List UInt8) : Op.bytesLess (c :: x) (c :: y) = Op.bytesLess x y := by
 rw [less_cons]; simp
theorem less_dig2 {a b : Int} (ha : 0 ≤ a ∧ a < 100) (hb : 0 ≤ b ∧ b < 100) (x y : List UInt8) :
  Op.bytesLess (dig2 a ++ x) (dig2 b ++ y)=(decide (a < b) || (decide (a=b) && Op.bytesLess x y)):=by
 show Op.bytesLess (dg a 1 :: dg a 0 :: x) (dg b 1 :: dg b 0 :: y)=_
 rw [less_cons,less_cons,Bool.eq_iff_iff]
 simp only [Bool.or_eq_true,Bool.and_eq_true,decide_eq_true_eq,beq_iff_eq,dg_lt,dg_eq]
 generalize Op.bytesLess x y=t
 cases t <;> simp <;> omega
theorem digits4 (a : Int) (h0 : 0 ≤ a) (h : a < 10000) : a.toNat / 10 ^ 3 % 10 < 10 ∧ a.toNat / 10 ^ 2 % 10 < 10 ∧ a.toNat / 10 ^ 1 % 10 < 10 ∧ a.toNat / 10 ^ 0 % 10 < 10 ∧
  a=1000*(a.toNat / 10 ^ 3 % 10:Nat)+100*(a.toNat / 10 ^ 2 % 10:Nat)+10*(a.toNat / 10 ^ 1 % 10:Nat)+(a.toNat / 10 ^ 0 % 10:Nat):=by
 omega
theorem less_dig4 {a b : Int} (ha : 0 ≤ a ∧ a < 10000) (hb : 0 ≤ b ∧ b < 10000) (x y : List UInt8) :
  Op.bytesLess (dig4 a ++ x) (dig4 b ++ y)=(decide (a < b) || (decide (a=b) && Op.bytesLess x y)):=by
 show Op.bytesLess (dg a 3 :: dg a 2 :: dg a 1 :: dg a 0 :: x) (dg b 3 :: dg b 2 :: dg b 1 :: dg b 0 :: y)=_
 rw [less_cons,less_cons,less_cons,less_cons,Bool.eq_iff_iff]
 simp only [Bool.or_eq_true,Bool.and_eq_true,decide_eq_true_eq,beq_iff_eq,dg_lt,dg_eq]
 obtain ⟨p3,p2,p1,p0,ep⟩:=digits4 a ha.1 ha.2
 obtain ⟨q3,q2,q1,q0,eq⟩:=digits4 b hb.1 hb.2
 generalize a.toNat / 10 ^ 3 % 10=a3 at *
 generalize a.toNat / 10 ^ 2 % 10=a2 at *
 generalize a.toNat / 10 ^ 1 % 10=a1 at *
 generalize a.toNat / 10 ^ 0 % 10=a0 at *
 generalize b.toNat / 10 ^ 3 % 10=b3 at *
 generalize b.toNat / 10 ^ 2 % 10=b2 at *
 generalize b.toNat / 10 ^ 1 % 10=b1 at *
 generalize b.toNat / 10 ^ 0 % 10=b0 at *
 generalize Op.bytesLess x y=t
 subst ep eq
 cases t <;> simp <;> omega
theorem num_lt {y m d y' m' d' : Int} (h : vld y m d) (h' : vld y' m' d') (e : y < y' ∨ (y = y' ∧ (m < m' ∨ (m = m' ∧ d < d')))) : num y m d < num y' m' d' := by
 have a:=num_bd h
 have b:=num_bd h'
 rcases e with e | ⟨rfl,e | ⟨rfl,e⟩⟩
 ·have:=dby_mono (a:=y+1) (b:=y') (by have:=h.1; omega) (by omega); omega
 ·obtain ⟨h1,h2,h3,h4,h5,h6⟩:=h
  obtain ⟨_,_,h3',h4',h5',h6'⟩:=h'
  have c:=cum_succ y m h3 h4
  have:=cum_le y (a:=m+1) (b:=m') (by omega) (by omega) (by omega)
  unfold num; omega
 ·unfold num; omega
theorem text_less {a b : Int} (ha : okN a) (hb : okN b) : Op.bytesLess (textN a) (textN b) = decide (a < b) := by
 rw [textN,textN,if_pos ha,if_pos hb]
 obtain ⟨va,na⟩:=dt_ok ha
 obtain ⟨vb,nb⟩:=dt_ok hb
 generalize dtY a=y at *; generalize dtM a=m at *; generalize dtD a=d at *
 generalize dtY b=y' at *; generalize dtM b=m' at *; generalize dtD b=d' at *
 have la:=len_bd y m
 have lb:=len_bd y' m'
 have h1:=va.1; have h2:=va.2.1; have h3:=va.2.2.1; have h4:=va.2.2.2.1; have h5:=va.2.2.2.2.1; have h6:=va.2.2.2.2.2
 have g1:=vb.1; have g2:=vb.2.1; have g3:=vb.2.2.1; have g4:=vb.2.2.2.1; have g5:=vb.2.2.2.2.1; have g6:=vb.2.2.2.2.2
 have e1:Op.bytesLess (textL y m d) (textL y' m' d')=(decide (y < y') || (decide (y=y') && (decide (m < m') || (decide (m=m') && (decide (d < d') || (decide (d=d') && false)))))):=by
  have s1:textL y m d=dig4 y ++ (45 :: (dig2 m ++ (45 :: (dig2 d ++ [])))):=by simp [textL]
  have s2:textL y' m' d'=dig4 y' ++ (45 :: (dig2 m' ++ (45 :: (dig2 d' ++ [])))):=by simp [textL]
  rw [s1,s2,less_dig4 (by omega) (by omega),less_same,less_dig2 (by omega) (by omega),less_same,less_dig2 (by omega) (by omega)]
  rfl
 rw [e1,Bool.eq_iff_iff]
 simp only [Bool.or_eq_true,Bool.and_eq_true,decide_eq_true_eq,Bool.and_false,Bool.or_false]
 constructor
 ·intro h
  have:=num_lt va vb h
  omega
 ·intro h
  rcases Int.lt_trichotomy y y' with c | c | c
  ·exact Or.inl c
  ·rcases Int.lt_trichotomy m m' with c' | c' | c'
   ·exact Or.inr ⟨c,Or.inl c'⟩
   ·rcases Int.lt_trichotomy d d' with c'' | c'' | c''
    ·exact Or.inr ⟨c,Or.inr ⟨c',c''⟩⟩
    ·subst c c' c''; omega
    ·have:=num_lt vb va (Or.inr ⟨c.symm,Or.inr ⟨c'.symm,c''⟩⟩); omega
   ·have:=num_lt vb va (Or.inr ⟨c.symm,Or.inl c'⟩); omega
  ·have:=num_lt vb va (Or.inl c); omega
theorem dt_of {y m d : Int} (h : vld y m d) : okN (num y m d) ∧ dtY (num y m d) = y ∧ dtM (num y m d) = m ∧ dtD (num y m d) = d := by
 have b:=num_bd h
 have o:okN (num y m d):=⟨b.2.2.1,b.2.2.2⟩
 obtain ⟨v,n⟩:=dt_ok o
 exact ⟨o,num_inj v h n⟩
theorem back {x l : Int} (h : okN x) (hl : 0 ≤ l) (hl2 : l ≤ 9999) (h0 : addE x l = 0) :
  addE (addN x l) (-l)=0 ∧ (addN (addN x l) (-l)=x ∨ addN (addN x l) (-l)=x - 1 ∧ dtM x=2 ∧ dtD x=29):=by
 have hy:dtY x+l ≤ 9999:=by
  refine Int.not_lt.1 fun hc => ?_
  exact (add_out h hl hl2 hc).1 h0
 obtain ⟨hv,hn⟩:=dt_ok h
 have hy1:=hv.1
 obtain ⟨_,en⟩:=addE_0 h (l:=l) (by omega) hy
 have hv2:=add_vld (l:=l) h (by omega) hy
 obtain ⟨o,ey,em,ed⟩:=dt_of hv2
 rw [en]
 have e3:=addE_0 o (l:=-l) (by rw [ey]; omega) (by rw [ey]; have:=hv.2.1; omega)
 rw [ey,em,ed,show dtY x+l + -l=dtY x from by omega] at e3
 refine ⟨e3.1,?_⟩
 rw [e3.2]
 have hd:=hv.2.2.2.2.2
 have hm:=hv.2.2.1
 generalize dtY x=Y at *
 generalize dtM x=M at *
 generalize dtD x=D at *
 by_cases c:D ≤ lenI (Y+l) M
 ·left
  rw [show mn D (lenI (Y+l) M)=D from if_neg (by omega),show mn D (lenI Y M)=D from if_neg (by omega),hn]
 ·right
  by_cases m2:M=2
  ·subst m2
   have k1:lenI Y 2=feb Y:=rfl
   have k2:lenI (Y+l) 2=feb (Y+l):=rfl
   have f1:=feb_bd Y
   have f2:=feb_bd (Y+l)
   rw [k1] at hd ⊢; rw [k2] at c ⊢
   have d29:D=29:=by omega
   have f28:feb (Y+l)=28:=by omega
   rw [f28,d29,show mn 29 28=28 from rfl,show mn 28 (feb Y)=28 from if_neg (by omega)]
   refine ⟨?_,rfl,rfl⟩
   rw [← hn,d29]; unfold num; omega
  ·exact absurd (len_two (y:=Y+l) (y':=Y) m2 ▸ hd) c
theorem text_len {x : Int} (h : okN x) : (textN x).length = 10 := by
 rw [textN,if_pos h]; rfl
end Go.Proofs.YtgdngfdeeadlnaaGreatDoor.Cal
namespace Go.Proofs.YtgdngfdeeadlnaaGreatDoor.Cal
open Go
theorem less_irr (x : List UInt8) : Op.bytesLess x x = false := by
 induction x with
 | nil => rfl
 | cons a x ih => rw [less_cons,ih]; simp
theorem text_inj {a b : Int} (ha : okN a) (hb : okN b) (h : textN a = textN b) : a = b := by
 have h1:=text_less ha hb
 have h2:=text_less hb ha
 rw [h,less_irr] at h1
 rw [h,less_irr] at h2
 have:=of_decide_eq_false h1.symm
 have:=of_decide_eq_false h2.symm
 omega
def IsText (s : List UInt8) : Prop := ∃ n : Int,okN n ∧ textN n = s
open Classical in
noncomputable def prN (s : List UInt8) : Int := if h : IsText s then Classical.choose h else 0
open Classical in
noncomputable def prE (s : List UInt8) : Int := if IsText s then 0 else 10
theorem pr_t {s : List UInt8} {n : Int} (h : okN n) (ht : textN n = s) : prN s = n ∧ prE s = 0 := by
 have hs:IsText s:=⟨n,h,ht⟩
 refine ⟨?_,if_pos hs⟩
 unfold prN
 rw [dif_pos hs]
 have:=Classical.choose_spec hs
 exact text_inj this.1 h (this.2.trans ht.symm)
theorem pr_f {s : List UInt8} (h : ¬ IsText s) : prN s = 0 ∧ prE s = 10 := ⟨dif_neg h,if_neg h⟩
theorem dg_range (n : Int) (k : Nat) : 48 ≤ (dg n k).toNat ∧ (dg n k).toNat ≤ 57 := by rw [dg_nat]; omega
theorem dg_ne (n : Int) (k : Nat) : dg n k ≠ 45 := fun h => by have := dg_range n k; rw [h] at this; revert this; decide
theorem parse_dg (n : Int) (k acc : Nat) (r : List UInt8) (ha : acc < 1000000000) : Lib.parseUint10 acc (dg n k :: r) = Lib.parseUint10 (acc * 10 + n.toNat / 10 ^ k % 10) r := by
 have h:=dg_range n k
 have e:(dg n k).toNat - 48=n.toNat / 10 ^ k % 10:=by rw [dg_nat]; omega
 rw [Lib.parseUint10,if_pos h,if_neg (by omega),e,if_neg (by omega)]
theorem atoi_dg (n : Int) (k : Nat) (r : List UInt8) : Lib.atoiAll (dg n k :: r) = Lib.signless (Lib.parseUint10 0 (dg n k :: r)) := by
 have h:=dg_range n k
 rw [Lib.atoiAll_plain _ _ (by omega) (by omega)]
 rfl
theorem atoi_dig4 {n : Int} (h0 : 0 ≤ n) (h : n < 10000) : Lib.atoiAll (dig4 n) = .ok n := by
 unfold dig4
 rw [atoi_dg,parse_dg _ _ _ _ (by omega),parse_dg _ _ _ _ (by omega),parse_dg _ _ _ _ (by omega),parse_dg _ _ _ _ (by omega)]
 have e:=digits4 n h0 h
 have e2:(((0*10+n.toNat / 10 ^ 3 % 10)*10+n.toNat / 10 ^ 2 % 10)*10+n.toNat / 10 ^ 1 % 10)*10+n.toNat / 10 ^ 0 % 10=n.toNat:=by omega
 rw [e2]
 simp only [Lib.parseUint10,Lib.signless]
 rw [if_neg (by omega)]
 congr 1; omega
theorem atoi_dig2 {n : Int} (h0 : 0 ≤ n) (h : n < 100) : Lib.atoiAll (dig2 n) = .ok n := by
 unfold dig2
 rw [atoi_dg,parse_dg _ _ _ _ (by omega),parse_dg _ _ _ _ (by omega)]
 have e2:(0*10+n.toNat / 10 ^ 1 % 10)*10+n.toNat / 10 ^ 0 % 10=n.toNat:=by omega
 rw [e2]
 simp only [Lib.parseUint10,Lib.signless]
 rw [if_neg (by omega)]
 congr 1; omega
theorem index_hit (a r : List UInt8) (h : ∀ x ∈ a,x ≠ 45) : Lib.index (a ++ 45 :: r) [45] = a.length := by
 induction a with
 | nil => rfl
 | cons b a ih =>
  have hb:b ≠ 45:=h b (by simp)
  have ih:=ih (fun x hx => h x (by simp [hx]))
  have e:([45] : List UInt8).isPrefixOf (b :: (a ++ 45 :: r))=false:=by
   simp [List.isPrefixOf]; exact fun e => hb e.symm
  rw [List.cons_append,Lib.index,e,if_neg (by simp),ih,if_neg (by simp)]
  simp
theorem index_miss (a : List UInt8) (h : ∀ x ∈ a,x ≠ 45) : Lib.index a [45] = -1 := by
 induction a with
 | nil => rfl
 | cons b a ih =>
  have hb:b ≠ 45:=h b (by simp)
  have ih:=ih (fun x hx => h x (by simp [hx]))
  have e:([45] : List UInt8).isPrefixOf (b :: a)=false:=by
   simp [List.isPrefixOf]; exact fun e => hb e.symm
  rw [Lib.index,e,if_neg (by simp),ih,if_pos (by simp)]
def dash : ByteArray := ⟨#[45]⟩
def ba (l : List UInt8) : ByteArray := ⟨l.toArray⟩
theorem ba_size (l : List UInt8) : (ba l).size = l.length := by simp [ba,ByteArray.size]
theorem ba_ext (l : List UInt8) (i j : Nat) : (ba l).extract i j = ba ((l.drop i).take (j - i)) := by
 apply ByteArray.ext
 apply Array.toList_inj.1
 rw [Lib.extract_data]
 rfl
theorem tail_of (a r : List UInt8) : ((a ++ 45 :: r).drop (a.length + dash.size)).take ((a ++ 45 :: r).length - (a.length + dash.size)) = r := by
 have e:(a ++ 45 :: r).drop (a.length+dash.size)=r:=by
  rw [show a.length+dash.size=a.length+1 from rfl,List.drop_append,List.drop_of_length_le (by omega)]
  simp
 rw [e,List.take_of_length_le]
 rw [show dash.size=1 from rfl]; simp; omega
theorem split3 (a b c : List UInt8) (ha : ∀ x ∈ a,x ≠ 45) (hb : ∀ x ∈ b,x ≠ 45) (hc : ∀ x ∈ c,x ≠ 45) :
  Lib.countB (ba (a ++ 45 :: (b ++ 45 :: c))) dash=2 ∧ Lib.splitB dash 0 2 (ba (a ++ 45 :: (b ++ 45 :: c))) = [ba a,ba b,ba c]:=by
 have i1:Lib.indexB (ba (a ++ 45 :: (b ++ 45 :: c))) dash=a.length:=index_hit a _ ha
 have i2:Lib.indexB (ba (b ++ 45 :: c)) dash=b.length:=index_hit b _ hb
 have i3:Lib.indexB (ba c) dash = -1:=index_miss c hc
 have d1:(ba (a ++ 45 :: (b ++ 45 :: c))).extract (a.length+dash.size) (ba (a ++ 45 :: (b ++ 45 :: c))).size=ba (b ++ 45 :: c):=by
  rw [ba_ext,ba_size]
  congr 1
  exact tail_of a _
 have d2:(ba (b ++ 45 :: c)).extract (b.length+dash.size) (ba (b ++ 45 :: c)).size=ba c:=by
  rw [ba_ext,ba_size]
  congr 1
  exact tail_of b _
 have t1:(ba (a ++ 45 :: (b ++ 45 :: c))).extract 0 (a.length+0)=ba a:=by rw [ba_ext]; simp
 have t2:(ba (b ++ 45 :: c)).extract 0 (b.length+0)=ba b:=by rw [ba_ext]; simp
 constructor
 ·rw [Lib.countB_hit _ _ _ (by decide) i1,d1,Lib.countB_hit _ _ _ (by decide) i2,d2,Lib.countB_miss _ _ i3]
 ·rw [Lib.splitB_hit _ _ _ _ _ i1,d1,t1,Lib.splitB_hit _ _ _ _ _ i2,d2,t2]
  rfl
theorem text_split {n : Int} (h : okN n) : Lib.countB (ba (textN n)) dash = 2 ∧ Lib.splitB dash 0 2 (ba (textN n)) = [ba (dig4 (dtY n)),ba (dig2 (dtM n)),ba (dig2 (dtD n))] := by
 have e:textN n=dig4 (dtY n) ++ 45 :: (dig2 (dtM n) ++ 45 :: dig2 (dtD n)):=by
  rw [textN,if_pos h]; simp [textL]
 rw [e]
 apply split3
 ·intro x hx; simp [dig4] at hx; rcases hx with rfl | rfl | rfl | rfl <;> exact dg_ne _ _
 ·intro x hx; simp [dig2] at hx; rcases hx with rfl | rfl <;> exact dg_ne _ _
 ·intro x hx; simp [dig2] at hx; rcases hx with rfl | rfl <;> exact dg_ne _ _
end Go.Proofs.YtgdngfdeeadlnaaGreatDoor.Cal
namespace Go.Proofs.YtgdngfdeeadlnaaGreatDoor.Cal
open Go.RowKit Cal
structure LibOk (w : World) : Prop where
  tab : TabOk w
  err1 : ∃ tp p, w.cell? ⟨1, 0, none⟩ = some (.iface tp p)
  err2 : ∃ tp p, w.cell? ⟨2, 0, none⟩ = some (.iface tp p)
  most : ∃ m, w.cell? ⟨5, 0, none⟩ = some (.int .i64 m)
  size : (7 + 1) ≤ w.heap.size
theorem LibOk.later {w w' : World} (h : LibOk w) (hb : Below w.heap.size w w') : LibOk w' := by
 have hs:=h.size
 refine ⟨tab_below h.tab (tab_lt h.tab) hb,?_,?_,?_,Nat.le_trans hs hb.size⟩
 ·obtain ⟨tp,p,e⟩:=h.err1; exact ⟨tp,p,(hb.cell (p:=⟨1,0,none⟩) (by show 1 < w.heap.size; omega)).trans e⟩
 ·obtain ⟨tp,p,e⟩:=h.err2; exact ⟨tp,p,(hb.cell (p:=⟨2,0,none⟩) (by show 2 < w.heap.size; omega)).trans e⟩
 ·obtain ⟨m,e⟩:=h.most; exact ⟨m,(hb.cell (p:=⟨5,0,none⟩) (by show 5 < w.heap.size; omega)).trans e⟩
theorem atoi_any (s : ByteArray) (w : World) (hs : s.size ≤ 1000000) (h : LibOk w) :
  Calls Tryz.prog 77 #[.string s] w fun e w' => ∃ v ie,e=.returned (.tuple #[.int .i64 v,ie]) ∧ (∀ u,Lib.atoiAll s.data.toList=.ok u → v=u) ∧ Below w.heap.size w w':=by
 obtain ⟨t1,p1,c1⟩:=h.err1
 obtain ⟨t2,p2,c2⟩:=h.err2
 rcases hc:Lib.atoiAll s.data.toList with v | _ | _
 ·refine (Tryz.strconv_Atoi_ok s (by omega) v hc w).mono ?_
  rintro e w' ⟨he,hw⟩
  refine ⟨v,_,he,fun u hu => by injection hu,?_⟩
  rcases hw with rfl | ⟨t,rfl⟩
  ·exact Below.refl _ _
  ·exact Lib.bytesWorld_below _ _ _
 ·refine (Any.strconv_Atoi_syntax Tryz.laysC172 s (by omega) hc _ w c1 (Or.inr ⟨_,_,rfl⟩)).mono ?_
  rintro e w' ⟨N,he,_,_,hb⟩
  exact ⟨_,_,he,(fun u hu => nomatch hu),hb⟩
 ·refine (Any.strconv_Atoi_range Tryz.laysC172 s (by omega) hc _ w c2 (Or.inr ⟨_,_,rfl⟩)).mono ?_
  rintro e w' ⟨N,he,_,_,hb⟩
  exact ⟨_,_,he,(fun u hu => nomatch hu),hb⟩
set_option maxRecDepth 100000 in
set_option maxHeartbeats 1000000 in
theorem cal_Parse_no (l : List UInt8) (w : World) (h : LibOk w) (hl : l.length ≤ 1000) (hc : Lib.countB ⟨l.toArray⟩ ⟨#[45]⟩ ≠ 2) :
  Calls Tryz.prog 79 #[.string ⟨l.toArray⟩] w fun e w' => e=.returned (.tuple #[.int .i64 0,.int .i64 10]) ∧ Below w.heap.size w w':=by
 obtain ⟨m,hm⟩:=h.most
 have hle:=Lib.countB_le ⟨#[45]⟩ (by decide) _ ⟨l.toArray⟩ (Nat.le_refl _)
 have hls:(⟨l.toArray⟩:ByteArray).size=l.length:=by simp [ByteArray.size]
 rw [hls] at hle
 obtain ⟨c,hcc⟩:∃ c,Lib.countB ⟨l.toArray⟩ ⟨#[45]⟩=c:=⟨_,rfl⟩
 rw [hcc] at hle hc
 have hs:=Tryz.strings_Split ⟨l.toArray⟩ ⟨#[45]⟩ m w (by rw [hls]; omega) hm (by decide)
 rw [hcc] at hs
 have HS:=Lib.hid hs
 have hne:((c:Int)+1 == 3)=false:=by rw [beq_eq_false_iff_ne]; omega
 clear hs hcc hm
 go_enter Tryz.func79,Tryz.ntmps79
 go_wp2_with fail
 refine HS.out.mono ?_
 rintro e w1 ⟨rfl,rfl⟩
 go_wp2_with fail
 go_ret2
 exact ⟨rfl,(Below.refl _ _).alloc (Nat.le_refl _) _⟩
structure PInv (w : World) (p0 p1 p2 : List UInt8) (a b c : Int) (W : World) : Prop where
  lib : LibOk W
  bel : Below w.heap.size w W
  size : w.heap.size + 2 ≤ W.heap.size
  s0 : W.cell? ⟨w.heap.size, 0, none⟩ = some (.string ⟨p0.toArray⟩)
  s1 : W.cell? ⟨w.heap.size, 1, none⟩ = some (.string ⟨p1.toArray⟩)
  s2 : W.cell? ⟨w.heap.size, 2, none⟩ = some (.string ⟨p2.toArray⟩)
  n0 : W.cell? ⟨w.heap.size + 1, 0, none⟩ = some (.int .i64 a)
  n1 : W.cell? ⟨w.heap.size + 1, 1, none⟩ = some (.int .i64 b)
  n2 : W.cell? ⟨w.heap.size + 1, 2, none⟩ = some (.int .i64 c)
  f0 : W.frozen? ⟨w.heap.size + 1, 0, none⟩ = false
  f1 : W.frozen? ⟨w.heap.size + 1, 1, none⟩ = false
  f2 : W.frozen? ⟨w.heap.size + 1, 2, none⟩ = false
theorem pinv_start {w : World} (h : LibOk w) (p0 p1 p2 : List UInt8) (T T' : TypeId) :
  PInv w p0 p1 p2 0 0 0 ((w.alloc (.cells #[.string ⟨p0.toArray⟩,.string ⟨p1.toArray⟩,.string ⟨p2.toArray⟩] T)).alloc (.cells #[.int .i64 0,.int .i64 0,.int .i64 0] T')):=by
 have hb:Below w.heap.size w ((w.alloc (.cells #[.string ⟨p0.toArray⟩,.string ⟨p1.toArray⟩,.string ⟨p2.toArray⟩] T)).alloc (.cells #[.int .i64 0,.int .i64 0,.int .i64 0] T')):=((Below.refl _ _).alloc (Nat.le_refl _) _).alloc (by simp) _
 refine ⟨h.later hb,hb,by simp,?_,?_,?_,?_,?_,?_,?_,?_,?_⟩ <;> simp [go_sem]
theorem PInv.call {w W W1 : World} {p0 p1 p2 : List UInt8} {a b c : Int} (h : PInv w p0 p1 p2 a b c W) (hb : Below W.heap.size W W1) : PInv w p0 p1 p2 a b c W1 := by
 have hs:=h.size
 obtain ⟨hc,hf⟩:=bcell hb
 refine ⟨h.lib.later hb,h.bel.trans (hb.mono h.bel.size),Nat.le_trans hs hb.size,?_,?_,?_,?_,?_,?_,?_,?_,?_⟩
 ·rw [hc _ _ (by omega)]; exact h.s0
 ·rw [hc _ _ (by omega)]; exact h.s1
 ·rw [hc _ _ (by omega)]; exact h.s2
 ·rw [hc _ _ (by omega)]; exact h.n0
 ·rw [hc _ _ (by omega)]; exact h.n1
 ·rw [hc _ _ (by omega)]; exact h.n2
 ·rw [hf _ _ (by omega)]; exact h.f0
 ·rw [hf _ _ (by omega)]; exact h.f1
 ·rw [hf _ _ (by omega)]; exact h.f2
theorem lib_set {W : World} (h : LibOk W) (b o : Nat) (v : Value) (hb : (7 + 1) ≤ b) : LibOk (W.setCell ⟨b,o,none⟩ v) := by
 have hs:=h.size
 have hbl:Below (7+1) W (W.setCell ⟨b,o,none⟩ v):=(Below.refl _ _).setCell hb v
 refine ⟨var?_below (g:=4) hbl (by kernel_rfl) (by omega) h.tab,?_,?_,?_,Nat.le_trans hs hbl.size⟩
 ·obtain ⟨tp,p,e⟩:=h.err1; exact ⟨tp,p,(hbl.cell (p:=⟨1,0,none⟩) (by show 1 < (7+1); omega)).trans e⟩
 ·obtain ⟨tp,p,e⟩:=h.err2; exact ⟨tp,p,(hbl.cell (p:=⟨2,0,none⟩) (by show 2 < (7+1); omega)).trans e⟩
 ·obtain ⟨m,e⟩:=h.most; exact ⟨m,(hbl.cell (p:=⟨5,0,none⟩) (by show 5 < (7+1); omega)).trans e⟩
theorem PInv.store0 {w W : World} {p0 p1 p2 : List UInt8} {a b c : Int} (h : PInv w p0 p1 p2 a b c W) (hw : (7 + 1) ≤ w.heap.size) (v : Int) : PInv w p0 p1 p2 v b c (W.setCell ⟨w.heap.size + 1,0,none⟩ (.int .i64 v)) := by
 obtain ⟨l,bl,s,a0,a1,a2,a3,a4,a5,a6,a7,a8⟩:=h
 refine ⟨lib_set l _ _ _ (by omega),bl.setCell (by show _ ≤ w.heap.size+1; omega) _,by simpa [World.setCell] using s,?_,?_,?_,?_,?_,?_,?_,?_,?_⟩ <;> simp [go_sem, *]
theorem PInv.store1 {w W : World} {p0 p1 p2 : List UInt8} {a b c : Int} (h : PInv w p0 p1 p2 a b c W) (hw : (7 + 1) ≤ w.heap.size) (v : Int) : PInv w p0 p1 p2 a v c (W.setCell ⟨w.heap.size + 1,1,none⟩ (.int .i64 v)) := by
 obtain ⟨l,bl,s,a0,a1,a2,a3,a4,a5,a6,a7,a8⟩:=h
 refine ⟨lib_set l _ _ _ (by omega),bl.setCell (by show _ ≤ w.heap.size+1; omega) _,by simpa [World.setCell] using s,?_,?_,?_,?_,?_,?_,?_,?_,?_⟩ <;> simp [go_sem, *]
theorem PInv.store2 {w W : World} {p0 p1 p2 : List UInt8} {a b c : Int} (h : PInv w p0 p1 p2 a b c W) (hw : (7 + 1) ≤ w.heap.size) (v : Int) : PInv w p0 p1 p2 a b v (W.setCell ⟨w.heap.size + 1,2,none⟩ (.int .i64 v)) := by
 obtain ⟨l,bl,s,a0,a1,a2,a3,a4,a5,a6,a7,a8⟩:=h
 refine ⟨lib_set l _ _ _ (by omega),bl.setCell (by show _ ≤ w.heap.size+1; omega) _,by simpa [World.setCell] using s,?_,?_,?_,?_,?_,?_,?_,?_,?_⟩ <;> simp [go_sem, *]
set_option maxRecDepth 100000 in
set_option maxHeartbeats 1000000 in
theorem cal_Parse_3 (l p0 p1 p2 : List UInt8) (R E : Int) (w : World) (h : LibOk w) (hl : l.length ≤ 1000) (hc : Lib.countB ⟨l.toArray⟩ ⟨#[45]⟩ = 2)
  (hp:Lib.splitB ⟨#[45]⟩ 0 2 ⟨l.toArray⟩ = [⟨p0.toArray⟩,⟨p1.toArray⟩,⟨p2.toArray⟩]) (l0:p0.length ≤ 1000) (l1:p1.length ≤ 1000) (l2:p2.length ≤ 1000)
  (hfin:∀ v0 v1 v2:Int,(∀ u,Lib.atoiAll p0=.ok u → v0=u) → (∀ u,Lib.atoiAll p1=.ok u → v1=u) → (∀ u,Lib.atoiAll p2=.ok u → v2=u) →
   (dayE v0 v1 v2=0 ∧ textN (dayN v0 v1 v2)=l ∧ R=dayN v0 v1 v2 ∧ E=0) ∨ (dayE v0 v1 v2=0 ∧ textN (dayN v0 v1 v2) ≠ l ∧ R=0 ∧ E=10) ∨ (dayE v0 v1 v2 ≠ 0 ∧ R=0 ∧ E=10)) :
  Calls Tryz.prog 79 #[.string ⟨l.toArray⟩] w fun e w' => e=.returned (.tuple #[.int .i64 R,.int .i64 E]) ∧ Below w.heap.size w w':=by
 obtain ⟨m,hm⟩:=h.most
 have hls:(⟨l.toArray⟩:ByteArray).size=l.length:=by simp [ByteArray.size]
 have hs:=Tryz.strings_Split ⟨l.toArray⟩ ⟨#[45]⟩ m w (by rw [hls]; omega) hm (by decide)
 rw [hc,hp] at hs
 have HS:=Lib.hid hs
 have HF:=Lib.hid hfin
 clear hs hm hfin hc hp
 have hI:=Lib.hid h
 have hw8:=h.size
 clear h
 go_enter Tryz.func79,Tryz.ntmps79
 go_wp2_with fail
 refine HS.out.mono ?_
 rintro e w1 ⟨rfl,rfl⟩
 go_wp2_with fail
 have i0:=pinv_start hI.out p0 p1 p2 9 159
 generalize (w.alloc (.cells #[.string ⟨p0.toArray⟩,.string ⟨p1.toArray⟩,.string ⟨p2.toArray⟩] 9)).alloc (.cells #[.int .i64 0,.int .i64 0,.int .i64 0] 159)=W0 at i0 ⊢
 have I0:=Lib.hid i0
 obtain ⟨_,_,_,a0,a1,a2,a3,a4,a5,a6,a7,a8⟩:=i0
 refine wp_loop_rounds 4 ?_
 rw [rounds_succ]
 go_wp2_with fail
 refine (atoi_any _ _ (by show ByteArray.size ⟨p0.toArray⟩ ≤ _; simp only [ByteArray.size,List.size_toArray]; omega) I0.out.lib).mono ?_
 rintro e w0 ⟨v0,ie0,rfl,hv0,hb0⟩
 have V0:=Lib.hid hv0
 have i1:=I0.out.call hb0
 have I1:=Lib.hid i1
 clear hv0 a0 a1 a2 a3 a4 a5 a6 a7 a8
 obtain ⟨_,_,_,a0,a1,a2,a3,a4,a5,a6,a7,a8⟩:=i1
 go_wp2_with fail
 have i2:=I1.out.store0 hw8 v0
 generalize w0.setCell ⟨w.heap.size+1,0,none⟩ (.int .i64 v0)=W1 at i2 ⊢
 have I2:=Lib.hid i2
 clear a0 a1 a2 a3 a4 a5 a6 a7 a8
 obtain ⟨_,_,_,a0,a1,a2,a3,a4,a5,a6,a7,a8⟩:=i2
 rw [rounds_succ]
 go_wp2_with fail
 refine (atoi_any _ _ (by show ByteArray.size ⟨p1.toArray⟩ ≤ _; simp only [ByteArray.size,List.size_toArray]; omega) I2.out.lib).mono ?_
 rintro e w1 ⟨v1,ie1,rfl,hv1,hb1⟩
 have V1:=Lib.hid hv1
 have i3:=I2.out.call hb1
 have I3:=Lib.hid i3
 clear hv1 a0 a1 a2 a3 a4 a5 a6 a7 a8
 obtain ⟨_,_,_,a0,a1,a2,a3,a4,a5,a6,a7,a8⟩:=i3
 go_wp2_with fail
 have i4:=I3.out.store1 hw8 v1
 generalize w1.setCell ⟨w.heap.size+1,1,none⟩ (.int .i64 v1)=W2 at i4 ⊢
 have I4:=Lib.hid i4
 clear a0 a1 a2 a3 a4 a5 a6 a7 a8
 obtain ⟨_,_,_,a0,a1,a2,a3,a4,a5,a6,a7,a8⟩:=i4
 rw [rounds_succ]
 go_wp2_with fail
 refine (atoi_any _ _ (by show ByteArray.size ⟨p2.toArray⟩ ≤ _; simp only [ByteArray.size,List.size_toArray]; omega) I4.out.lib).mono ?_
 rintro e w2 ⟨v2,ie2,rfl,hv2,hb2⟩
 have V2:=Lib.hid hv2
 have i5:=I4.out.call hb2
 have I5:=Lib.hid i5
 clear hv2 a0 a1 a2 a3 a4 a5 a6 a7 a8
 obtain ⟨_,_,_,a0,a1,a2,a3,a4,a5,a6,a7,a8⟩:=i5
 go_wp2_with fail
 have i6:=I5.out.store2 hw8 v2
 generalize w2.setCell ⟨w.heap.size+1,2,none⟩ (.int .i64 v2)=W3 at i6 ⊢
 have I6:=Lib.hid i6
 clear a0 a1 a2 a3 a4 a5 a6 a7 a8
 obtain ⟨_,_,_,a0,a1,a2,a3,a4,a5,a6,a7,a8⟩:=i6
 rw [rounds_succ]
 go_wp2_with fail
 refine (cal_Day _ _ _ _).mono ?_
 rintro e w4 ⟨rfl,hb4⟩
 have i7:=I6.out.call hb4
 have I7:=Lib.hid i7
 clear a0 a1 a2 a3 a4 a5 a6 a7 a8 i7
 go_wp2_with fail
 refine (cal_Text _ _ I7.out.lib.tab).mono ?_
 rintro e w5 ⟨rfl,hb5⟩
 have I8:=Lib.hid (I7.out.call hb5)
 rcases HF.out v0 v1 v2 V0.out V1.out V2.out with ⟨c1,c2,rfl,rfl⟩ | ⟨c1,c2,rfl,rfl⟩ | ⟨c1,rfl,rfl⟩
 ·go_wp2_with fail
  go_ret2
  exact ⟨rfl,I8.out.bel⟩
 ·have c2':(textN (dayN v0 v1 v2) == l)=false:=beq_eq_false_iff_ne.2 c2
  clear c2
  go_wp2_with fail
  go_ret2
  exact ⟨rfl,I8.out.bel⟩
 ·have c1':(dayE v0 v1 v2 == 0)=false:=beq_eq_false_iff_ne.2 c1
  have c1'':(dayE v0 v1 v2 != 0)=true:=bne_iff_ne.2 c1
  have c3:¬ dayE v0 v1 v2=0:=c1
  clear c1
  go_wp2_with fail
  go_ret2
  exact ⟨rfl,I8.out.bel⟩
theorem split_le (sep : ByteArray) : ∀ (k : Nat) (s q : ByteArray),q ∈ Lib.splitB sep 0 k s → q.size ≤ s.size := by
 intro k
 induction k with
 | zero => intro s q h; simp [Lib.splitB] at h; subst h; exact Nat.le_refl _
 | succ k ih =>
  intro s q h
  unfold Lib.splitB at h
  split at h
  ·simp at h; subst h; exact Nat.le_refl _
  ·rcases List.mem_cons.1 h with rfl | h
   ·rw [ByteArray.size_extract]; omega
   ·have:=ih _ _ h
    rw [ByteArray.size_extract] at this; omega
theorem ba_sz (l : List UInt8) : (⟨l.toArray⟩ : ByteArray).size = l.length := by simp [ByteArray.size]
theorem ba_eta (s : ByteArray) : s = ⟨s.data.toList.toArray⟩ := by
 apply ByteArray.ext
 simp
theorem cal_Parse (l : List UInt8) (w : World) (h : LibOk w) (hl : l.length ≤ 1000) :
  Calls Tryz.prog 79 #[.string ⟨l.toArray⟩] w fun e w' => e=.returned (.tuple #[.int .i64 (prN l),.int .i64 (prE l)]) ∧ Below w.heap.size w w':=by
 by_cases ht:IsText l
 ·obtain ⟨n,ho,hn⟩:=ht
  obtain ⟨e1,e2⟩:=pr_t ho hn
  subst hn
  obtain ⟨c1,c2⟩:=text_split ho
  obtain ⟨hv,hnum⟩:=dt_ok ho
  have ll:=len_bd (dtY n) (dtM n)
  obtain ⟨b1,b2,b3,b4,b5,b6⟩:=id hv
  rw [e1,e2]
  refine cal_Parse_3 (textN n) (dig4 (dtY n)) (dig2 (dtM n)) (dig2 (dtD n)) n 0 w h hl c1 c2 (by show 4 ≤ 1000; omega) (by show 2 ≤ 1000; omega) (by show 2 ≤ 1000; omega) ?_
  intro v0 v1 v2 h0 h1 h2
  have h0:=h0 _ (atoi_dig4 (by omega) (by omega))
  have h1:=h1 _ (atoi_dig2 (by omega) (by omega))
  have h2:=h2 _ (atoi_dig2 (by omega) (by omega))
  subst h0 h1 h2
  left
  have d1:dayN (dtY n) (dtM n) (dtD n)=n:=by rw [dayN,if_pos hv,hnum]
  have d2:dayE (dtY n) (dtM n) (dtD n)=0:=if_pos hv
  rw [d1]
  exact ⟨d2,rfl,rfl,rfl⟩
 ·obtain ⟨e1,e2⟩:=pr_f ht
  rw [e1,e2]
  by_cases hc:Lib.countB ⟨l.toArray⟩ ⟨#[45]⟩=2
  ·have hlen:=Lib.splitB_all ⟨#[45]⟩ (by decide) 0 2 ⟨l.toArray⟩ hc
   obtain ⟨q0,q1,q2,hq⟩:∃ q0 q1 q2,Lib.splitB ⟨#[45]⟩ 0 2 ⟨l.toArray⟩ = [q0,q1,q2]:=by
    match hh:Lib.splitB ⟨#[45]⟩ 0 2 ⟨l.toArray⟩,hlen with
    | [a,b,c],_ => exact ⟨a,b,c,rfl⟩
   rw [ba_eta q0,ba_eta q1,ba_eta q2] at hq
   have hls:(⟨l.toArray⟩:ByteArray).size=l.length:=by simp [ByteArray.size]
   have hsz:∀ q ∈ Lib.splitB ⟨#[45]⟩ 0 2 ⟨l.toArray⟩,q.size ≤ l.length:=by
    intro q hq'
    have:=split_le _ _ _ _ hq'
    omega
   rw [hq] at hsz
   refine cal_Parse_3 l _ _ _ 0 10 w h hl hc hq ?_ ?_ ?_ ?_
   ·have:=hsz ⟨q0.data.toList.toArray⟩ (by simp); rw [ba_sz] at this; omega
   ·have:=hsz ⟨q1.data.toList.toArray⟩ (by simp); rw [ba_sz] at this; omega
   ·have:=hsz ⟨q2.data.toList.toArray⟩ (by simp); rw [ba_sz] at this; omega
   ·intro v0 v1 v2 _ _ _
    by_cases hv:vld v0 v1 v2
    ·right; left
     have o:=(dt_of hv).1
     have d1:dayN v0 v1 v2=num v0 v1 v2:=if_pos hv
     rw [d1]
     exact ⟨if_pos hv,fun hh => ht ⟨_,o,hh⟩,rfl,rfl⟩
    ·right; right
     exact ⟨by rw [dayE,if_neg hv]; decide,rfl,rfl⟩
  ·exact cal_Parse_no l w h hl hc
end Go.Proofs.YtgdngfdeeadlnaaGreatDoor.Cal

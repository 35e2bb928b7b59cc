/- Contracts: the reference's test of a term (printed by gen_fmrt.py). And more. -/
import Derived.Test.YtfinaekeoeeogaaGreatDoorX14
import Derived.Test.YtfinaekeoeeogaaGreatDoorX05
import Derived.Test.YtfinaekeoeeogaaGreatDoorX22
import Derived.Test.YtfinaekeoeeogaaGreatDoorX07
set_option linter.unusedVariables false
set_option linter.unusedSimpArgs false
namespace Go.Proofs.YtfinaekeoeeogaaGreatDoor
open Go.RowKit Num
def plainB (y : Int) (f x : ByteArray) : Bool := decide (y = 0 ∧ f.size = 0 ∧ x.size = 0)
theorem ne_empty {s : ByteArray} (h : s.size ≠ 0) : (s.toList == []) = false ∧ ¬ s.toList = [] ∧ (!s.toList.isEmpty) = true := by
 rw [ByteArray.toList_eq]
 cases hl:s.data.toList with
 | nil => exact absurd (by rw [← blOf_len]; show s.data.toList.length=0; rw [hl]; rfl) h
 | cons a r => exact ⟨rfl,by simp,rfl⟩
theorem eq_empty {s : ByteArray} (h : s.size = 0) : s = ⟨#[]⟩ := blOf_inj (List.eq_nil_of_length_eq_zero (by rw [blOf_len]; exact h))
theorem contains_quote (x : ByteArray) (w : World) : Calls Tryz.prog 115 #[.string x,.string ⟨#[34]⟩] w fun e w' => e = .returned (.bool ((blOf x).contains 34)) ∧ w' = w := by
 refine (Tryz.strings_Contains_one x 34 w).mono ?_
 rintro e w' ⟨rfl,rfl⟩
 exact ⟨congrArg (fun b => Ending.returned (.bool b)) (indexByte_has _ _),rfl⟩
set_option maxRecDepth 100000 in
set_option maxHeartbeats 4000000 in
theorem r_term (k n y : Int) (f x : ByteArray) (A : Option Addr) (m c : Nat) (args : List Int) (w : World) (hm : m = args.length) (hf : f.size ≤ 4294967296) (hx : x.size ≤ 4294967296) (hl : LibOk w) (hsp : SpcOk w) :
  Calls Tryz.prog 99 #[.agg #[.int .i64 k,.int .i64 n,.int .i64 y,.string f,.string x,.slice A m c]] w (BoolBel (rtermB ⟨k,n,y,f,x,args⟩) w):=by
 have hb1:Below w.heap.size w (w.alloc (.cells #[.int .i64 k,.int .i64 n,.int .i64 y,.string f,.string x,.slice A m c] 51)):=(Below.refl _ _).alloc (Nat.le_refl _) _
 have hs1:SpcOk (w.alloc (.cells #[.int .i64 k,.int .i64 n,.int .i64 y,.string f,.string x,.slice A m c] 51)):=spc_below hsp (by have:=hl.size; show 0 < _; omega) hb1
 have HB1:=Lib.hid hb1
 have HS1:=Lib.hid hs1
 have e:rtermB ⟨k,n,y,f,x,args⟩=(if k=1 ∨ k=2 then decide (2 ≤ m) && decide (n=0) && plainB y f x
  else if k=3 ∨ k=4 then decide (m=0) && betwB n 64 && plainB y f x
  else if k=5 then decide (m=0) && betwB n 64 && decide (0 ≤ y ∧ y ≤ 100) && decide (f.size=0 ∧ x.size=0)
  else if k=6 ∨ k=8 then decide (m=0) && decide (n=0) && plainB y f x
  else if k=7 then decide (m=0) && betwB n 64 && decide (y=0) && nameB (blOf f) && betwB x.size 256 && !(blOf x).contains 34
  else false):=by rw [hm]; rfl
 have E:=Lib.hid e
 clear e hs1 hb1 hsp hm
 go_enter Tryz.func99,Tryz.ntmps99
 go_upto_region 1 with (fail)
 go_cut [3] from 5 to 13 (fun a wx => a=.bool (betwB n 64) ∧ wx=(w.alloc (.cells #[.int .i64 k,.int .i64 n,.int .i64 y,.string f,.string x,.slice A m c] 51)))
 case first =>
  clear E HS1 HB1
  have hbw:betwB n 64=decide (1 ≤ n ∧ n ≤ 64):=rfl
  have HBW:=Lib.hid hbw
  clear hbw
  by_cases c1:1 ≤ n
  ·by_cases c2:n ≤ 64
   ·go_wp2_with fail
    go_meet
    exact ⟨by rw [HBW.out]; simp; omega,rfl⟩
   ·go_wp2_with fail
    go_meet
    exact ⟨by rw [HBW.out]; simp; omega,rfl⟩
  ·go_wp2_with fail
   go_meet
   exact ⟨by rw [HBW.out]; simp; omega,rfl⟩
 case rest =>
 obtain ⟨rfl,rfl⟩:=hcut
 obtain ⟨cb,hcb⟩:∃ b,betwB n 64=b:=⟨_,rfl⟩
 rw [hcb]
 have HCB:=Lib.hid hcb
 clear hcb
 go_upto_region 2 with (fail)
 go_cut [4] from 13 to 26 (fun b wx => b=.bool (plainB y f x) ∧ wx=(w.alloc (.cells #[.int .i64 k,.int .i64 n,.int .i64 y,.string f,.string x,.slice A m c] 51)))
 case first =>
  clear E HS1 HB1
  by_cases hy:y=0
  ·subst hy
   by_cases hfz:f.size=0
   ·obtain rfl:=eq_empty hfz
    by_cases hxz:x.size=0
    ·obtain rfl:=eq_empty hxz
     go_wp2_with fail
     go_meet
     exact ⟨by simp [plainB]; rfl,rfl⟩
    ·obtain ⟨z1,z2,z3⟩:=ne_empty hxz
     go_wp2_with fail
     go_meet
     exact ⟨by simp [plainB,hxz],rfl⟩
   ·obtain ⟨z1,z2,z3⟩:=ne_empty hfz
    go_wp2_with fail
    go_meet
    exact ⟨by simp [plainB,hfz],rfl⟩
  ·have hyb:(y == 0)=false:=by simp [hy]
   go_wp2_with fail
   go_meet
   exact ⟨by simp [plainB,hy],rfl⟩
 case rest =>
  obtain ⟨rfl,rfl⟩:=hcut
  obtain ⟨pb,hpb⟩:∃ b,plainB y f x=b:=⟨_,rfl⟩
  rw [hpb]
  have HPB:=Lib.hid hpb
  clear hpb
  by_cases k1:k=1
  ·obtain rfl:=k1
   by_cases hm2:2 ≤ m
   ·have hm3:(2:Int) ≤ (m:Int):=by omega
    by_cases hn0:n=0
    ·subst hn0
     cases pb
     ·skip
      go_wp2_with fail
      go_ret
      exact ⟨by rw [E.out]; simp [HCB.out,HPB.out,hm2] <;> (intros; omega),HB1.out⟩
     ·skip
      go_wp2_with fail
      go_ret
      exact ⟨by rw [E.out]; simp [HCB.out,HPB.out,hm2] <;> (intros; omega),HB1.out⟩
    ·have hn1:(n == 0)=false:=by simp [hn0]
     go_wp2_with fail
     go_ret
     exact ⟨by rw [E.out]; simp [HCB.out,HPB.out,hm2,hn0] <;> (intros; omega),HB1.out⟩
   ·have hm3:¬ (2:Int) ≤ (m:Int):=by omega
    go_wp2_with fail
    go_ret
    exact ⟨by rw [E.out]; simp [HCB.out,HPB.out,hm2] <;> (intros; omega),HB1.out⟩
  have kb1:(k == 1)=false:=by simp [k1]
  by_cases k2:k=2
  ·obtain rfl:=k2
   by_cases hm2:2 ≤ m
   ·have hm3:(2:Int) ≤ (m:Int):=by omega
    by_cases hn0:n=0
    ·subst hn0
     cases pb
     ·skip
      go_wp2_with fail
      go_ret
      exact ⟨by rw [E.out]; simp [HCB.out,HPB.out,hm2] <;> (intros; omega),HB1.out⟩
     ·skip
      go_wp2_with fail
      go_ret
      exact ⟨by rw [E.out]; simp [HCB.out,HPB.out,hm2] <;> (intros; omega),HB1.out⟩
    ·have hn1:(n == 0)=false:=by simp [hn0]
     go_wp2_with fail
     go_ret
     exact ⟨by rw [E.out]; simp [HCB.out,HPB.out,hm2,hn0] <;> (intros; omega),HB1.out⟩
   ·have hm3:¬ (2:Int) ≤ (m:Int):=by omega
    go_wp2_with fail
    go_ret
    exact ⟨by rw [E.out]; simp [HCB.out,HPB.out,hm2] <;> (intros; omega),HB1.out⟩
  have kb2:(k == 2)=false:=by simp [k2]
  by_cases k3:k=3
  ·obtain rfl:=k3
   by_cases hm0:m=0
   ·subst hm0
    cases cb
    ·skip
     go_wp2_with fail
     go_ret
     exact ⟨by rw [E.out]; simp [HCB.out,HPB.out] <;> (intros; omega),HB1.out⟩
    ·skip
     cases pb
     ·skip
      go_wp2_with fail
      go_ret
      exact ⟨by rw [E.out]; simp [HCB.out,HPB.out] <;> (intros; omega),HB1.out⟩
     ·skip
      go_wp2_with fail
      go_ret
      exact ⟨by rw [E.out]; simp [HCB.out,HPB.out] <;> (intros; omega),HB1.out⟩
   ·have hm1:((m:Int) == 0)=false:=by simp; omega
    have hm2:¬ (m:Int)=0:=by omega
    go_wp2_with fail
    go_ret
    exact ⟨by rw [E.out]; simp [HCB.out,HPB.out,hm0] <;> (intros; omega),HB1.out⟩
  have kb3:(k == 3)=false:=by simp [k3]
  by_cases k4:k=4
  ·obtain rfl:=k4
   by_cases hm0:m=0
   ·subst hm0
    cases cb
    ·skip
     go_wp2_with fail
     go_ret
     exact ⟨by rw [E.out]; simp [HCB.out,HPB.out] <;> (intros; omega),HB1.out⟩
    ·skip
     cases pb
     ·skip
      go_wp2_with fail
      go_ret
      exact ⟨by rw [E.out]; simp [HCB.out,HPB.out] <;> (intros; omega),HB1.out⟩
     ·skip
      go_wp2_with fail
      go_ret
      exact ⟨by rw [E.out]; simp [HCB.out,HPB.out] <;> (intros; omega),HB1.out⟩
   ·have hm1:((m:Int) == 0)=false:=by simp; omega
    have hm2:¬ (m:Int)=0:=by omega
    go_wp2_with fail
    go_ret
    exact ⟨by rw [E.out]; simp [HCB.out,HPB.out,hm0] <;> (intros; omega),HB1.out⟩
  have kb4:(k == 4)=false:=by simp [k4]
  by_cases k5:k=5
  ·obtain rfl:=k5
   by_cases hm0:m=0
   ·subst hm0
    cases cb
    ·skip
     go_wp2_with fail
     go_ret
     exact ⟨by rw [E.out]; simp [HCB.out,HPB.out] <;> (intros; omega),HB1.out⟩
    ·skip
     by_cases hy0:0 ≤ y
     ·skip
      by_cases hy1:y ≤ 100
      ·skip
       by_cases hfz:f.size=0
       ·obtain rfl:=eq_empty hfz
        by_cases hxz:x.size=0
        ·obtain rfl:=eq_empty hxz
         go_wp2_with fail
         go_ret
         exact ⟨by rw [E.out]; simp [HCB.out,HPB.out,hy0,hy1,hfz,hxz] <;> (intros; omega),HB1.out⟩
        ·obtain ⟨z1,z2,z3⟩:=ne_empty hxz
         go_wp2_with fail
         go_ret
         exact ⟨by rw [E.out]; simp [HCB.out,HPB.out,hy0,hy1,hfz,hxz] <;> (intros; omega),HB1.out⟩
       ·obtain ⟨z1,z2,z3⟩:=ne_empty hfz
        go_wp2_with fail
        go_ret
        exact ⟨by rw [E.out]; simp [HCB.out,HPB.out,hy0,hy1,hfz] <;> (intros; omega),HB1.out⟩
      ·skip
       go_wp2_with fail
       go_ret
       exact ⟨by rw [E.out]; simp [HCB.out,HPB.out,hy0,hy1] <;> (intros; omega),HB1.out⟩
     ·skip
      go_wp2_with fail
      go_ret
      exact ⟨by rw [E.out]; simp [HCB.out,HPB.out,hy0] <;> (intros; omega),HB1.out⟩
   ·have hm1:((m:Int) == 0)=false:=by simp; omega
    have hm2:¬ (m:Int)=0:=by omega
    go_wp2_with fail
    go_ret
    exact ⟨by rw [E.out]; simp [HCB.out,HPB.out,hm0] <;> (intros; omega),HB1.out⟩
  have kb5:(k == 5)=false:=by simp [k5]
  by_cases k6:k=6
  ·obtain rfl:=k6
   by_cases hm0:m=0
   ·subst hm0
    by_cases hn0:n=0
    ·subst hn0
     cases pb
     ·skip
      go_wp2_with fail
      go_ret
      exact ⟨by rw [E.out]; simp [HCB.out,HPB.out] <;> (intros; omega),HB1.out⟩
     ·skip
      go_wp2_with fail
      go_ret
      exact ⟨by rw [E.out]; simp [HCB.out,HPB.out] <;> (intros; omega),HB1.out⟩
    ·have hn1:(n == 0)=false:=by simp [hn0]
     go_wp2_with fail
     go_ret
     exact ⟨by rw [E.out]; simp [HCB.out,HPB.out,hn0] <;> (intros; omega),HB1.out⟩
   ·have hm1:((m:Int) == 0)=false:=by simp; omega
    have hm2:¬ (m:Int)=0:=by omega
    go_wp2_with fail
    go_ret
    exact ⟨by rw [E.out]; simp [HCB.out,HPB.out,hm0] <;> (intros; omega),HB1.out⟩
  have kb6:(k == 6)=false:=by simp [k6]
  by_cases k8:k=8
  ·obtain rfl:=k8
   by_cases hm0:m=0
   ·subst hm0
    by_cases hn0:n=0
    ·subst hn0
     cases pb
     ·skip
      go_wp2_with fail
      go_ret
      exact ⟨by rw [E.out]; simp [HCB.out,HPB.out] <;> (intros; omega),HB1.out⟩
     ·skip
      go_wp2_with fail
      go_ret
      exact ⟨by rw [E.out]; simp [HCB.out,HPB.out] <;> (intros; omega),HB1.out⟩
    ·have hn1:(n == 0)=false:=by simp [hn0]
     go_wp2_with fail
     go_ret
     exact ⟨by rw [E.out]; simp [HCB.out,HPB.out,hn0] <;> (intros; omega),HB1.out⟩
   ·have hm1:((m:Int) == 0)=false:=by simp; omega
    have hm2:¬ (m:Int)=0:=by omega
    go_wp2_with fail
    go_ret
    exact ⟨by rw [E.out]; simp [HCB.out,HPB.out,hm0] <;> (intros; omega),HB1.out⟩
  have kb8:(k == 8)=false:=by simp [k8]
  by_cases k7:k=7
  ·obtain rfl:=k7
   by_cases hm0:m=0
   ·subst hm0
    cases cb
    ·skip
     go_wp2_with fail
     go_ret
     exact ⟨by rw [E.out]; simp [HCB.out,HPB.out] <;> (intros; omega),HB1.out⟩
    ·by_cases hy7:y=0
     ·subst hy7
      obtain ⟨nb,hnb⟩:∃ b,nameB (blOf f)=b:=⟨_,rfl⟩
      obtain ⟨qb,hqb⟩:∃ b,(blOf x).contains 34=b:=⟨_,rfl⟩
      have HN:=Lib.hid hnb
      have HC:=Lib.hid hqb
      clear hnb hqb
      cases nb
      ·skip
       go_wp2_with (first | (go_at_call 79; refine (r_Name f _ hf HS1.out).mono ?_; rintro e wn ⟨rfl,hbn0⟩; rw [HN.out]; obtain ⟨hcc,hff⟩:=bcellx hbn0) | (go_at_call 115; refine (contains_quote x _).mono ?_; rintro e wq ⟨rfl,rfl⟩; rw [HC.out]))
       go_ret
       exact ⟨by rw [E.out,HCB.out,HN.out,HC.out]; simp [betwB,HPB.out] <;> (intros; omega),HB1.out.trans (hbn0.mono (by simp))⟩
      ·by_cases hx1:1 ≤ x.size
       ·have hx2:(1:Int) ≤ (x.size:Int):=by omega
        by_cases hx3:x.size ≤ 256
        ·have hx4:(x.size:Int) ≤ 256:=by omega
         cases qb
         ·skip
          go_wp2_with (first | (go_at_call 79; refine (r_Name f _ hf HS1.out).mono ?_; rintro e wn ⟨rfl,hbn0⟩; rw [HN.out]; obtain ⟨hcc,hff⟩:=bcellx hbn0) | (go_at_call 115; refine (contains_quote x _).mono ?_; rintro e wq ⟨rfl,rfl⟩; rw [HC.out]))
          go_ret
          exact ⟨by rw [E.out,HCB.out,HN.out,HC.out]; simp [betwB,HPB.out,hx1,hx2,hx3,hx4] <;> (intros; omega),HB1.out.trans (hbn0.mono (by simp))⟩
         ·skip
          go_wp2_with (first | (go_at_call 79; refine (r_Name f _ hf HS1.out).mono ?_; rintro e wn ⟨rfl,hbn0⟩; rw [HN.out]; obtain ⟨hcc,hff⟩:=bcellx hbn0) | (go_at_call 115; refine (contains_quote x _).mono ?_; rintro e wq ⟨rfl,rfl⟩; rw [HC.out]))
          go_ret
          exact ⟨by rw [E.out,HCB.out,HN.out,HC.out]; simp [betwB,HPB.out,hx1,hx2,hx3,hx4] <;> (intros; omega),HB1.out.trans (hbn0.mono (by simp))⟩
        ·have hx4:¬ (x.size:Int) ≤ 256:=by omega
         go_wp2_with (first | (go_at_call 79; refine (r_Name f _ hf HS1.out).mono ?_; rintro e wn ⟨rfl,hbn0⟩; rw [HN.out]; obtain ⟨hcc,hff⟩:=bcellx hbn0) | (go_at_call 115; refine (contains_quote x _).mono ?_; rintro e wq ⟨rfl,rfl⟩; rw [HC.out]))
         go_ret
         exact ⟨by rw [E.out,HCB.out,HN.out,HC.out]; simp [betwB,HPB.out,hx1,hx2,hx3,hx4] <;> (intros; omega),HB1.out.trans (hbn0.mono (by simp))⟩
       ·have hx2:¬ (1:Int) ≤ (x.size:Int):=by omega
        go_wp2_with (first | (go_at_call 79; refine (r_Name f _ hf HS1.out).mono ?_; rintro e wn ⟨rfl,hbn0⟩; rw [HN.out]; obtain ⟨hcc,hff⟩:=bcellx hbn0) | (go_at_call 115; refine (contains_quote x _).mono ?_; rintro e wq ⟨rfl,rfl⟩; rw [HC.out]))
        go_ret
        exact ⟨by rw [E.out,HCB.out,HN.out,HC.out]; simp [betwB,HPB.out,hx1,hx2] <;> (intros; omega),HB1.out.trans (hbn0.mono (by simp))⟩
     ·have hy8:(y == 0)=false:=by simp [hy7]
      go_wp2_with fail
      go_ret
      exact ⟨by rw [E.out]; simp [HCB.out,HPB.out,hy7] <;> (intros; omega),HB1.out⟩
   ·have hm1:((m:Int) == 0)=false:=by simp; omega
    have hm2:¬ (m:Int)=0:=by omega
    go_wp2_with fail
    go_ret
    exact ⟨by rw [E.out]; simp [HCB.out,HPB.out,hm0] <;> (intros; omega),HB1.out⟩
  have kb7:(k == 7)=false:=by simp [k7]
  go_wp2_with fail
  go_ret
  exact ⟨by rw [E.out]; simp [k1,k2,k3,k4,k5,k6,k7,k8],HB1.out⟩
def walkR (o : Option (List Tree × Nat)) : Int := match o with
 | none => -1
 | some (_,n) => (n:Int)
theorem walkR_cons (g : Nat → Option (Tree × Nat)) (a : Int) (r : List Int) (nx : Nat) :
  walkR (growA g (a :: r) nx)=if a=(nx:Int) then (match g nx with | none => -1 | some (_,af) => walkR (growA g r af)) else -1:=by
 conv => lhs; unfold growA
 by_cases h:a=(nx:Int)
 ·rw [if_pos h,if_pos h]
  cases g nx with
  | none => rfl
  | some p =>
   obtain ⟨x,af⟩:=p
   simp only
   cases growA g r af with
   | none => rfl
   | some q => obtain ⟨xs,n⟩:=q; rfl
 ·rw [if_neg h,if_neg h]; rfl
theorem walkI_growF {l : List Trm} {d k : Nat} {t : Trm} (h : l[k]? = some t) : walkI (growF l (d + 1) k) = if rtermB t then walkR (growA (growF l d) t.args (k + 1)) else -1 := by
 unfold growF
 rw [h,rterm_eq]
 simp only
 split
 ·cases growA (growF l d) t.args (k+1) with
  | none => rfl
  | some q => obtain ⟨xs,n⟩:=q; rfl
 ·rfl
theorem growF_after {l : List Trm} : ∀ {d k : Nat} {T : Tree} {n : Nat},growF l d k = some (T,n) → n ≤ l.length := by
 intro d k T n h
 have:=(flat_grow d h).2
 omega
theorem LibOk_of {w w' : World} {N : Nat} (h : LibOk w) (hb : Below N w w') (hN : N = w.heap.size) : LibOk w' := by subst hN; exact h.later hb
theorem SpcOk_of {w w' : World} {N : Nat} (h : SpcOk w) (hb : Below N w w') (hN : N = w.heap.size) (h0 : 0 < w.heap.size) : SpcOk w' := by subst hN; exact spc_below h h0 hb
set_option maxRecDepth 100000 in
set_option maxHeartbeats 4000000 in
theorem r_walk_out (A : Option Addr) (n c at_ : Nat) (dp : Int) (w : World) (hat : n ≤ at_) (hn : at_ ≤ 1000000) :
  Calls Tryz.prog 82 #[.agg #[.slice A n c],.int .i64 (at_:Int),.int .i64 dp] w (IntBel (-1) w):=by
 have q0:(n:Int) ≤ (at_:Int):=by omega
 have hb1:Below w.heap.size w (w.alloc (.cells #[.slice A n c] 26)):=(Below.refl _ _).alloc (Nat.le_refl _) _
 have HB1:=Lib.hid hb1
 clear hb1
 go_enter Tryz.func82,Tryz.ntmps82
 go_wp2_with fail
 go_ret
 exact ⟨rfl,HB1.out⟩
set_option maxRecDepth 100000 in
set_option maxHeartbeats 4000000 in
theorem r_walk_deep (A : Option Addr) (n c at_ : Nat) (w : World) (hat : at_ < n) (hn : n ≤ 1000000) :
  Calls Tryz.prog 82 #[.agg #[.slice A n c],.int .i64 (at_:Int),.int .i64 7] w (IntBel (-1) w):=by
 have q0:¬ (n:Int) ≤ (at_:Int):=by omega
 have hb1:Below w.heap.size w (w.alloc (.cells #[.slice A n c] 26)):=(Below.refl _ _).alloc (Nat.le_refl _) _
 have HB1:=Lib.hid hb1
 clear hb1
 go_enter Tryz.func82,Tryz.ntmps82
 go_wp2_with fail
 go_ret
 exact ⟨rfl,HB1.out⟩
set_option maxRecDepth 100000 in
set_option maxHeartbeats 4000000 in
theorem r_walk_term (A : Option Addr) (n c b off at_ B : Nat) (dp : Nat) (t : Trm) (w : World) (hA : A = some ⟨b,off,none⟩) (hb : b < w.heap.size) (hat : at_ < n) (hn : n ≤ 1000000) (hdp : dp ≤ 6) (hT : TermAt w (· < B) b (off + at_ * 6) t)
  (hf:t.field.size ≤ 4294967296) (hx:t.text.size ≤ 4294967296) (hl:LibOk w) (hsp:SpcOk w) (hbare:rtermB t=false) :
  Calls Tryz.prog 82 #[.agg #[.slice A n c],.int .i64 (at_:Int),.int .i64 (dp:Int)] w (IntBel (-1) w):=by
 subst hA
 have q0:¬ (n:Int) ≤ (at_:Int):=by omega
 have q1:¬ (6:Int) < (dp:Int):=by omega
 have q2:(0:Int) ≤ (at_:Int):=by omega
 have q3:(at_:Int) < (n:Int):=by omega
 have hb1:Below w.heap.size w (w.alloc (.cells #[.slice (some ⟨b,off,none⟩) n c] 26)):=(Below.refl _ _).alloc (Nat.le_refl _) _
 have hl1:=hl.later hb1
 have hs1:=spc_below hsp (by have:=hl.size; show 0 < _; omega) hb1
 obtain ⟨tk,tn,ty,tf,tt,ta⟩:=t
 obtain ⟨c0,c1,c2,c3,c4,u5,c5,Aa,na,ca,rfl,hna,hca,hcell⟩:=hT
 have HB1:=Lib.hid hb1
 have HL1:=Lib.hid hl1
 have HS1:=Lib.hid hs1
 have HNA:=Lib.hid hna
 have HB:=Lib.hid hbare
 clear hb1 hl1 hs1 hl hsp hna hcell hbare
 go_enter Tryz.func82,Tryz.ntmps82
 go_wp2_with (go_at_call 99; refine (r_term tk tn ty tf tt _ _ _ ta _ HNA.out hf hx HL1.out HS1.out).mono ?_; rintro e w2 ⟨rfl,hb2⟩; rw [HB.out])
 go_ret
 exact ⟨rfl,HB1.out.trans (hb2.mono (by simp))⟩
set_option maxRecDepth 100000 in
set_option maxHeartbeats 4000000 in
theorem r_walk_main (L : List Trm) (d dp : Nat) (hdp : d + 1 + dp = 7)
  (ih:∀ (v:Value) (at_ B:Nat) (w:World),TermsAt w (· < B) v L → B ≤ w.heap.size → at_ ≤ 1000000 → LibOk w → SpcOk w →
   Calls Tryz.prog 82 #[.agg #[v],.int .i64 (at_:Int),.int .i64 ((dp:Int)+1)] w (IntBel (walkI (growF L d at_)) w))
  (A:Option Addr) (n c b off at_ B:Nat) (t:Trm) (w:World) (hv:TermsAt w (· < B) (.slice A n c) L) (hB:B ≤ w.heap.size) (hA:A=some ⟨b,off,none⟩) (hb:b < w.heap.size) (hat:at_ < n) (hn:n ≤ 1000000) (hnL:n=L.length) (hT:TermAt w (· < B) b (off+at_*6) t)
  (hf:t.field.size ≤ 4294967296) (hx:t.text.size ≤ 4294967296) (hlen:t.args.length ≤ 1000000) (hl:LibOk w) (hsp:SpcOk w) (hbare:rtermB t=true) :
  Calls Tryz.prog 82 #[.agg #[.slice A n c],.int .i64 (at_:Int),.int .i64 (dp:Int)] w (IntBel (walkR (growA (growF L d) t.args (at_+1))) w):=by
 subst hA
 have q0:¬ (n:Int) ≤ (at_:Int):=by omega
 have q1:¬ (6:Int) < (dp:Int):=by omega
 have q2:(0:Int) ≤ (at_:Int):=by omega
 have q3:(at_:Int) < (n:Int):=by omega
 have hb1:Below w.heap.size w (w.alloc (.cells #[.slice (some ⟨b,off,none⟩) n c] 26)):=(Below.refl _ _).alloc (Nat.le_refl _) _
 have hl1:=hl.later hb1
 have hs1:=spc_below hsp (by have:=hl.size; show 0 < _; omega) hb1
 have hc0:(w.alloc (.cells #[.slice (some ⟨b,off,none⟩) n c] 26)).cell? ⟨w.heap.size,0,none⟩=some (.slice (some ⟨b,off,none⟩) n c):=(Blk.new w 26 #[.slice (some ⟨b,off,none⟩) n c]).cell 0
 obtain ⟨tk,tn,ty,tf,tt,ta⟩:=t
 obtain ⟨c0,c1,c2,c3,c4,u5,c5,Aa,na,ca,rfl,hna,hca,hcell⟩:=hT
 have hna1:na ≤ 1000000:=by simp only at hna hlen; omega
 have hdp6:dp ≤ 6:=by omega
 have HB1:=Lib.hid hb1
 have HL1:=Lib.hid hl1
 have HS1:=Lib.hid hs1
 have HC0:=Lib.hid hc0
 have HNA:=Lib.hid hna
 have HNL:=Lib.hid hnL
 have HB:=Lib.hid hbare
 have HIH:=Lib.hid ih
 have HV:=Lib.hid hv
 have HCELL:=Lib.hid hcell
 clear hb1 hl1 hs1 hl hsp hna hcell hbare ih hv hc0 hnL hlen hdp
 go_enter Tryz.func82,Tryz.ntmps82
 go_wp2_with (go_at_call 99; refine (r_term tk tn ty tf tt _ _ _ ta _ HNA.out hf hx HL1.out HS1.out).mono ?_; rintro e w2 ⟨rfl,hb2⟩; rw [HB.out]; obtain ⟨hcc,hff⟩:=bcellx hb2)
 have hb3:Below (w.heap.size+1) (w.alloc (.cells #[.slice (some ⟨b,off,none⟩) n c] 26)) w2:=by simpa using hb2
 have HB3:=Lib.hid hb3
 clear hb2 hcc hff hb3
 go_loopw [7,9,37] (fun v7 _ v37 wr => ∃ (k nx:Nat),k ≤ na ∧ nx ≤ 1000000 ∧ v37=.int .i64 (k:Int) ∧ v7=.int .i64 (nx:Int) ∧ walkR (growA (growF L d) ta (at_+1))=walkR (growA (growF L d) (ta.drop k) nx) ∧ Below (w.heap.size+1) (w.alloc (.cells #[.slice (some ⟨b,off,none⟩) n c] 26)) wr) (fun _ _ v37 _ => na - (intOf v37).toNat)
 case atStart => exact ⟨0,at_+1,by omega,by omega,rfl,by go_num,rfl,HB3.out⟩
 case round =>
  obtain ⟨k,nx,hk,hnx,rfl,rfl,hR,hbr⟩:=hrel
  have hbw:Below w.heap.size w wr:=HB1.out.trans (hbr.mono (by omega))
  have hcr:wr.cell? ⟨w.heap.size,0,none⟩=some (.slice (some ⟨b,off,none⟩) n c):=(hbr.cell (p:=⟨w.heap.size,0,none⟩) (by show w.heap.size < _; omega)).trans HC0.out
  have HBR:=Lib.hid hbr
  have HBW:=Lib.hid hbw
  have HR:=Lib.hid hR
  clear hbr hbw hR HB3
  by_cases hlt:k < na
  ·obtain ⟨b2,off2,rfl,hb2,hc2⟩:=HCELL.out (by omega)
   have hb2w:b2 < w.heap.size:=by omega
   have hcw:=(HBW.out.cell (p:=⟨b2,off2+k,none⟩) hb2w).trans (hc2 k hlt)
   have hkl:k < ta.length:=by have:=HNA.out; omega
   obtain ⟨a,ha⟩:∃ a,ta.getD k 0=a:=⟨_,rfl⟩
   rw [ha] at hcw
   have hdrop:ta.drop k=a :: ta.drop (k+1):=by
    rw [List.drop_eq_getElem_cons hkl,← ha,List.getD_eq_getElem?_getD,List.getElem?_eq_getElem hkl]; rfl
   have hR2:=HR.out
   rw [hdrop,walkR_cons] at hR2
   have HR2:=Lib.hid hR2
   clear hR2 hdrop ha hc2 HR
   by_cases hanx:a=(nx:Int)
   ·subst hanx
    have hT2:TermsAt wr (· < B) (.slice (some ⟨b,off,none⟩) n c) L:=HV.out.keep fun g hg => HBW.out.block g (by omega)
    have HT2:=Lib.hid hT2
    have HLr:=Lib.hid (LibOk_of HL1.out HBR.out (by simp))
    have HSr:=Lib.hid (SpcOk_of HS1.out HBR.out (by simp) (by have:=HL1.out.size; show 0 < _; omega))
    have hszr:B ≤ wr.heap.size:=by have:=HBW.out.size; omega
    clear hT2
    rcases hg:growF L d nx with _ | ⟨x,af⟩
    ·have hW:walkI (growF L d nx) = -1:=by rw [hg]; rfl
     have hR3:=HR2.out
     rw [if_pos rfl,hg] at hR3
     have HW:=Lib.hid hW
     have HR3:=Lib.hid hR3
     clear hg hW hR3
     go_wp2_with (go_at_call 82; refine (HIH.out (.slice (some ⟨b,off,none⟩) n c) nx B _ HT2.out hszr hnx HLr.out HSr.out).mono ?_; rintro e w3 ⟨rfl,hb3⟩; rw [HW.out])
     go_ret
     exact ⟨by rw [HR3.out]; rfl,HBW.out.trans (hb3.mono (by have:=HBW.out.size; omega))⟩
    ·have hW:walkI (growF L d nx)=(af:Int):=by rw [hg]; rfl
     have haf:af ≤ 1000000:=by have:=growF_after hg; have:=HNL.out; omega
     have hR3:=HR2.out
     rw [if_pos rfl,hg] at hR3
     have HW:=Lib.hid hW
     have HR3:=Lib.hid hR3
     have hneg:¬ (af:Int) < 0:=by omega
     clear hg hW hR3
     go_wp2_with (go_at_call 82; refine (HIH.out (.slice (some ⟨b,off,none⟩) n c) nx B _ HT2.out hszr hnx HLr.out HSr.out).mono ?_; rintro e w3 ⟨rfl,hb3⟩; rw [HW.out])
     go_roundw
     case rel => exact ⟨k+1,af,by omega,haf,by go_num,rfl,HR3.out,HBR.out.trans (hb3.mono (by have:=HBR.out.size; simp at this; omega))⟩
     case measure => simp [intOf]; omega
   ·have hR3:=HR2.out
    rw [if_neg hanx] at hR3
    have HR3:=Lib.hid hR3
    have hab:(a == (nx:Int))=false:=by simp [hanx]
    clear hR3
    go_wp2_with fail
    go_ret
    exact ⟨by rw [HR3.out]; rfl,HBW.out⟩
  ·have hkn:k=na:=by omega
   have hj0:¬ (k:Int) < (na:Int):=by omega
   have hR2:=HR.out
   rw [List.drop_eq_nil_of_le (by have:=HNA.out; omega)] at hR2
   have HR2:=Lib.hid hR2
   clear hR2 hkn HR
   go_wp2_with fail
   go_ret
   exact ⟨by rw [HR2.out]; rfl,HBW.out⟩
theorem r_walk (L : List Trm) (hL : L.length ≤ 1000000) (hok : ∀ t ∈ L,TrmOk t) : ∀ (d dp : Nat),d + dp = 7 → ∀ (v : Value) (at_ B : Nat) (w : World),TermsAt w (· < B) v L → B ≤ w.heap.size → at_ ≤ 1000000 → LibOk w → SpcOk w →
  Calls Tryz.prog 82 #[.agg #[v],.int .i64 (at_:Int),.int .i64 (dp:Int)] w (IntBel (walkI (growF L d at_)) w):=by
 intro d
 induction d with
 | zero =>
  intro dp hd v at_ B w hv hB hat hl hsp
  obtain rfl:dp=7:=by omega
  obtain ⟨A,n,c,rfl,hn,hnc,h4⟩:=hv
  rcases Nat.lt_or_ge at_ n with h | h
  ·exact r_walk_deep A n c at_ w h (by omega)
  ·exact r_walk_out A n c at_ 7 w h hat
 | succ d ih =>
  intro dp hd v at_ B w hv hB hat hl hsp
  have hv0:=hv
  obtain ⟨A,n,c,rfl,hn,hnc,h4⟩:=hv
  rcases Nat.lt_or_ge at_ n with h | h
  ·obtain ⟨b,off,hA,hbB,hc⟩:=h4 (by omega)
   have hT:=hc at_ h
   have hg:=trmAt_get (L:=L) (k:=at_) (by omega)
   have hm:trmAt L at_ ∈ L:=List.mem_of_getElem? hg
   obtain ⟨o1,o2,o3⟩:=hok _ hm
   rw [walkI_growF hg]
   generalize trmAt L at_=t at *
   cases hb:rtermB t with
   | false => exact r_walk_term A n c b off at_ B dp t w hA (by omega) h (by omega) (by omega) hT o1 o2 hl hsp hb
   | true => exact r_walk_main L d dp (by omega) (fun v at_ B w h1 h2 h3 h4 h5 => by have:=ih (dp+1) (by omega) v at_ B w h1 h2 h3 h4 h5; rwa [show ((dp+1:Nat):Int)=(dp:Int)+1 by omega] at this) A n c b off at_ B t w hv0 hB hA (by omega) h (by omega) hn hT o1 o2 o3 hl hsp hb
  ·have e:walkI (growF L (d+1) at_) = -1:=by
    unfold growF
    rw [List.getElem?_eq_none (by omega)]; rfl
   rw [e]
   exact r_walk_out A n c at_ dp w h hat
set_option maxRecDepth 100000 in
set_option maxHeartbeats 4000000 in
theorem r_Condition (v : Value) (L : List Trm) (B : Nat) (w : World) (hv : TermsAt w (· < B) v L) (hB : B ≤ w.heap.size) (hL : L.length ≤ 1000000) (hok : ∀ t ∈ L,TrmOk t) (hl : LibOk w) (hsp : SpcOk w) :
    Calls Tryz.prog 61 #[.agg #[v]] w (BoolBel (rootF L).isSome w):=by
  obtain ⟨A,n,c,rfl,hn,hnc,h4⟩:=id hv
  have e:(rootF L).isSome=(decide (1 ≤ n) && decide (n ≤ 24) && decide (walkI (growF L 6 0)=(n:Int))):=by rw [hn,walk_whole]
  have n1:n ≤ 1000000:=by omega
  have hb1:Below w.heap.size w (w.alloc (.cells #[.slice A n c] 26)):=(Below.refl _ _).alloc (Nat.le_refl _) _
  obtain ⟨w1,hw1⟩:∃ w1,w.alloc (.cells #[.slice A n c] 26)=w1:=⟨_,rfl⟩
  have hs1:w1.heap.size=w.heap.size+1:=by rw [← hw1]; simp
  have hc1:w1.cell? ⟨w.heap.size,0,none⟩=some (.slice A n c):=by rw [← hw1]; exact (Blk.new w 26 #[.slice A n c]).cell 0
  rw [hw1] at hb1
  have mk:∀ W,Below w1.heap.size w1 W → W.cell? ⟨w.heap.size,0,none⟩=some (.slice A n c) ∧ Hid (Below w1.heap.size w1 W):=fun W hW =>
    ⟨(hW.cell (p:=⟨w.heap.size,0,none⟩) (by show w.heap.size < _; omega)).trans hc1,Lib.hid hW⟩
  obtain ⟨z,hz⟩:∃ z,walkI (growF L 6 0)=z:=⟨_,rfl⟩
  have hwk:∀ W,Below w1.heap.size w1 W → Calls Tryz.prog 82 #[.agg #[.slice A n c],.int .i64 0,.int .i64 1] W (IntBel z W):=fun W hW => by
    have h0:Below w.heap.size w W:=hb1.trans (hW.mono (by omega))
    rw [← hz]
    exact r_walk L hL hok 6 1 rfl (.slice A n c) 0 B W (hv.keep fun g hg => h0.block g (by omega)) (by have:=h0.size; omega) (by omega) (hl.later h0) (spc_below hsp (by have:=hl.size; show 0 < _; omega) h0)
  rw [hz] at e
  have E:=Lib.hid e
  have HB1:=Lib.hid hb1
  have HC1:=Lib.hid hc1
  have HW1:=Lib.hid hw1
  have HS1:=Lib.hid hs1
  have MK:=Lib.hid mk
  have HWK:=Lib.hid hwk
  clear e hv hB hL hok hl hsp hn h4 hb1 hc1 hw1 hs1 mk hwk hz
  by_cases h1:1 ≤ n
  · by_cases h24:n ≤ 24
    · have q1:(1:Int) ≤ (n:Int):=by omega
      have q2:(n:Int) ≤ 24:=by omega
      go_enter Tryz.func61,Tryz.ntmps61
      go_wp2_with fail
      rw [HW1.out]
      go_region_held3 (fun W => W.cell? ⟨w.heap.size,0,none⟩=some (.slice A n c) ∧ Hid (Below w1.heap.size w1 W))
        (first
          | exact HP.out
          | exact MK.out _ (Below.refl _ _).drew)
        (first
          | (go_at_call 82
             (with_reducible refine (HWK.out _ (Below.refl _ _).drew).mono ?_)
             rintro e wk ⟨rfl,hbk⟩
             have HP:=Lib.hid (MK.out wk ((Below.refl w1.heap.size w1).drew.trans (hbk.mono (Nat.le_refl _))))))
      all_goals
        go_split_ands
        go_wp2_with fail
        go_ret
        refine ⟨by rw [E.out]; simp [h1,h24]; exact Bool.eq_iff_iff.2 (by simp),HB1.out.trans (Below.mono (Hid.out ‹Hid (Below w1.heap.size w1 _)›) (by rw [HS1.out]; omega))⟩
    · have q1:(1:Int) ≤ (n:Int):=by omega
      have p1:decide ((1:Int) ≤ (n:Int))=true:=by simp; omega
      have p2:decide ((n:Int) ≤ 24)=false:=by simp; omega
      have p3:decide (1 ≤ n)=true:=by simp; omega
      have p4:decide (n ≤ 24)=false:=by simp; omega
      go_enter Tryz.func61,Tryz.ntmps61
      go_wp2_with fail
      go_quiet (fail)
      go_wp2_with fail
      go_ret
      exact ⟨by rw [E.out]; simp [h24],by rw [HW1.out]; exact HB1.out.trans (only_drewB _ _ _)⟩
  · have p1:decide ((1:Int) ≤ (n:Int))=false:=by simp; omega
    have p3:decide (1 ≤ n)=false:=by simp; omega
    go_enter Tryz.func61,Tryz.ntmps61
    go_wp2_with fail
    go_quiet (fail)
    go_wp2_with fail
    go_ret
    exact ⟨by rw [E.out]; simp [h1],by rw [HW1.out]; exact HB1.out.trans (only_drewB _ _ _)⟩
end Go.Proofs.YtfinaekeoeeogaaGreatDoor

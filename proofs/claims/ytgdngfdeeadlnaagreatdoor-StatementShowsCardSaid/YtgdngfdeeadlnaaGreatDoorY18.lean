/- Contract: the law's test whether a raw statement is small. And more. -/
import Derived.Test.YtgdngfdeeadlnaaGreatDoorY09
import Derived.Test.YtgdngfdeeadlnaaGreatDoorY10
import Derived.Test.YtgdngfdeeadlnaaGreatDoorY17
import Derived.Test.YtgdngfdeeadlnaaGreatDoorY14
set_option linter.unusedVariables false
set_option linter.unusedSimpArgs false
namespace Go.Proofs.YtgdngfdeeadlnaaGreatDoor
open Go.RowKit Num
theorem ansN_succ {A : List Ans} {k : Nat} (hk : k < A.length) : ansN (A.take (k + 1)) = ansN (A.take k) + ((ansAt A k).field.size + (ansAt A k).text.size) := by
 have e:ansAt A k=A[k]:=by unfold ansAt; rw [List.getD_eq_getElem?_getD,List.getElem?_eq_getElem hk]; rfl
 unfold ansN
 rw [List.take_succ_eq_append_getElem hk,List.map_append,List.sum_append,e]
 simp
theorem shwN_succ {A : List Shw} {k : Nat} (hk : k < A.length) : shwN (A.take (k + 1)) = shwN (A.take k) + ((shwAt A k).field.size + (shwAt A k).role.size) := by
 have e:shwAt A k=A[k]:=by unfold shwAt; rw [List.getD_eq_getElem?_getD,List.getElem?_eq_getElem hk]; rfl
 unfold shwN
 rw [List.take_succ_eq_append_getElem hk,List.map_append,List.sum_append,e]
 simp
theorem trmN_succ {A : List Trm} {k : Nat} (hk : k < A.length) : trmN (A.take (k + 1)) = trmN (A.take k) + ((trmAt A k).text.size + (trmAt A k).field.size) := by
 have e:trmAt A k=A[k]:=by unfold trmAt; rw [List.getD_eq_getElem?_getD,List.getElem?_eq_getElem hk]; rfl
 unfold trmN
 rw [List.take_succ_eq_append_getElem hk,List.map_append,List.sum_append,e]
 simp
theorem sum_most {T : Type} (f : T → Nat) (B : Nat) : ∀ {A : List T},(∀ a ∈ A,f a ≤ B) → ∀ k,((A.take k).map f).sum ≤ k * B
 | _,_,0 => by simp
 | [],_,k+1 => by simp
 | a :: A,h,k+1 => by
  rw [List.take_succ_cons,List.map_cons,List.sum_cons,Nat.succ_mul]
  have:=sum_most f B (fun a ha => h a (List.mem_cons_of_mem _ ha)) k
  have:=h a List.mem_cons_self
  omega
set_option maxRecDepth 100000 in
set_option maxHeartbeats 4000000 in
theorem s_small (s : Stm) (Aa : Option Addr) (na ca : Nat) (Ac : Option Addr) (nc cc : Nat) (As : Option Addr) (ns cs : Nat) (w : World) (h : StmAt w (· < w.heap.size) (.slice Aa na ca) (.slice Ac nc cc) (.slice As ns cs) s) (hw : StmWide s) (hz : StmSz s) :
  Calls Tryz.prog 7 #[.agg #[.string s.resp,.int .i64 s.dep,.int .i64 s.day,.slice Aa na ca,.slice Ac nc cc,.slice As ns cs]] w (BoolBel (smallS s) w):=by
 obtain ⟨_,_,_,eA,hna,-,hA⟩:=id h.aa
 injection eA with q1 q2 q3
 subst q1 q2 q3
 obtain ⟨_,_,_,eA,hnc,-,hC⟩:=id h.cc
 injection eA with q1 q2 q3
 subst q1 q2 q3
 obtain ⟨_,_,_,eA,hns,-,hS⟩:=id h.ss
 injection eA with q1 q2 q3
 subst q1 q2 q3
 have hM:maxLen=9223372036854775807:=rfl
 have hR:reachBytes=140737488351232:=rfl
 have na63:na ≤ 9223372036854775807:=by have:=hw.an; omega
 have ns63:ns ≤ 9223372036854775807:=by have:=hw.sn; omega
 have nc63:nc ≤ 9223372036854775807:=by have:=hw.cn; omega
 have hbk:=Blk.new w 29 #[.string s.resp,.int .i64 s.dep,.int .i64 s.day,.slice Aa na ca,.slice Ac nc cc,.slice As ns cs]
 have hb0:=below_al' w (.cells #[.string s.resp,.int .i64 s.dep,.int .i64 s.day,.slice Aa na ca,.slice Ac nc cc,.slice As ns cs] 29)
 have sA:∀ k,k ≤ na → k ≤ 40 → ansN (s.ans.take k) ≤ 40*281474976702464:=fun k _ hk => by
  have h1:=sum_most (fun a:Ans => a.field.size+a.text.size) 281474976702464 (fun a ha => by have:=hz.ans a ha; omega) (A:=s.ans) k
  have h2:k*281474976702464 ≤ 40*281474976702464:=Nat.mul_le_mul_right _ hk
  exact Nat.le_trans h1 h2
 have sS:∀ k,k ≤ ns → k ≤ 30 → shwN (s.shw.take k) ≤ 40*281474976702464:=fun k _ hk => by
  have h1:=sum_most (fun a:Shw => a.field.size+a.role.size) 281474976702464 (fun a ha => by have:=hz.shw a ha; omega) (A:=s.shw) k
  have h2:k*281474976702464 ≤ 40*281474976702464:=Nat.mul_le_mul_right _ (by omega)
  exact Nat.le_trans h1 h2
 have sC:∀ k,k ≤ nc → k ≤ 40 → trmN (s.cond.take k) ≤ 40*281474976702464:=fun k _ hk => by
  have h1:=sum_most (fun t:Trm => t.text.size+t.field.size) 281474976702464 (fun a ha => by have:=hz.cond a ha; omega) (A:=s.cond) k
  have h2:k*281474976702464 ≤ 40*281474976702464:=Nat.mul_le_mul_right _ hk
  exact Nat.le_trans h1 h2
 have hr0:=hz.resp
 have HZ:=Lib.hid hz
 have HWD:=Lib.hid hw
 have HA:=Lib.hid hA
 have HC:=Lib.hid hC
 have HS:=Lib.hid hS
 have HNA:=Lib.hid hna
 have HNC:=Lib.hid hnc
 have HNS:=Lib.hid hns
 have SA:=Lib.hid sA
 have SS:=Lib.hid sS
 have SC:=Lib.hid sC
 have K0:=Lib.hid (And.intro hb0 hbk)
 have HR0:=Lib.hid (And.intro hM (And.intro hR hr0))
 clear hz hw hA hC hS hna hnc hns sA sS sC hb0 hbk h hM hR hr0
 go_enter Tryz.func7,Tryz.ntmps7
 go_wp2_with fail
 go_loopw [3,16] (fun v3 v16 wr => ∃ (k:Nat) (m:Int),k ≤ na ∧ v16=.int .i64 (k:Int) ∧ v3=.int .i64 m ∧ (na ≤ 40 → m=((s.resp.size+ansN (s.ans.take k):Nat):Int)) ∧ Below w.heap.size w wr ∧ Blk wr w.heap.size 29 #[.string s.resp,.int .i64 s.dep,.int .i64 s.day,.slice Aa na ca,.slice Ac nc cc,.slice As ns cs]) (fun _ v16 _ => na - (intOf v16).toNat)
 case atStart => exact ⟨0,_,by omega,rfl,rfl,fun _ => by simp [ansN],K0.out.1,K0.out.2⟩
 case round =>
  obtain ⟨k,m,hk,rfl,rfl,hm,hbr,hbk⟩:=hrel
  rename World => wr
  have HMM:=Lib.hid hm
  have HBR:=Lib.hid hbr
  clear hm
  by_cases hlt:k < na
  ·obtain ⟨b,off,rfl,hSb,hcc⟩:=HA.out (by omega)
   obtain ⟨x0,x1,x2⟩:=hcc k hlt
   have hmem:=ansAt_mem (L:=s.ans) (k:=k) (by have:=HNA.out; omega)
   have hsz:=HZ.out.ans _ hmem
   have hsu:=ansN_succ (A:=s.ans) (k:=k) (by have:=HNA.out; omega)
   obtain ⟨g,hg⟩:∃ g,ansAt s.ans k=g:=⟨_,rfl⟩
   rw [hg] at x0 x1 x2 hsz hsu
   obtain ⟨gf,gt,gn⟩:=g
   have e0:=(HBR.out.cell (p:=⟨b,off+k*3,none⟩) hSb).trans x0
   have e1:=(HBR.out.cell (p:=⟨b,off+k*3+1,none⟩) hSb).trans x1
   have e2:=(HBR.out.cell (p:=⟨b,off+k*3+2,none⟩) hSb).trans x2
   have zi:(k:Int) < (na:Int):=by omega
   have z0:(0:Int) ≤ (k:Int):=by omega
   have HBV:=Lib.hid (hbr.alloc hbr.size (.cells #[.string gf,.string gt,.int .i64 gn] 50))
   have HBK:=Lib.hid (hbk.alloc (.cells #[.string gf,.string gt,.int .i64 gn] 50))
   have HSZ:=Lib.hid hsz
   have HSU:=Lib.hid hsu
   clear x0 x1 x2 hcc hbr hbk hmem hsz hsu hg
   go_wp2_with fail
   go_roundw
   case measure => simp [intOf]; omega
   case rel =>
    refine ⟨k+1,_,by omega,by go_num,rfl,fun h40 => ?_,HBV.out,HBK.out⟩
    rw [HSU.out,HMM.out h40]
    simp only
    have a1:=SA.out k (by omega) (by omega)
    have a2:=HSZ.out
    have a3:=HR0.out
    simp only at a2
    rw [IntWalk.wrap64_in ((gf.size:Int)+(gt.size:Int)) ⟨by omega,by omega⟩,IntWalk.wrap64_in _ ⟨by omega,by omega⟩]
    omega
  ·have zi:¬ (k:Int) < (na:Int):=by omega
   obtain rfl:k=na:=by omega
   have c5:=(hbk.cell 5).trans (show _=some (Value.slice As ns cs) from rfl)
   have hm2:k ≤ 40 → m=((s.resp.size+ansN s.ans:Nat):Int):=fun h40 => by
    rw [HMM.out h40,List.take_of_length_le (by have:=HNA.out; omega)]
   have HM2:=Lib.hid hm2
   have HBK:=Lib.hid hbk
   clear hm2 hbr hbk
   go_wp2_with fail
   go_loopw [3,33] (fun v3 v33 wq => ∃ (j:Nat) (q:Int),j ≤ ns ∧ v33=.int .i64 (j:Int) ∧ v3=.int .i64 q ∧ (k ≤ 40 → ns ≤ 30 → q=((s.resp.size+ansN s.ans+shwN (s.shw.take j):Nat):Int)) ∧ Below w.heap.size w wq ∧ Blk wq w.heap.size 29 #[.string s.resp,.int .i64 s.dep,.int .i64 s.day,.slice Aa k ca,.slice Ac nc cc,.slice As ns cs]) (fun _ v33 _ => ns - (intOf v33).toNat)
   case atStart => exact ⟨0,_,by omega,rfl,rfl,fun h _ => by rw [HM2.out h]; simp [shwN],HBR.out,HBK.out⟩
   case round =>
    obtain ⟨j,q,hj,rfl,rfl,hq,hbr,hbk⟩:=hrel
    rename World => wq
    have HMM:=Lib.hid hq
    have HBQ:=Lib.hid hbr
    clear hq c5
    have a40:k ≤ 40 → ansN s.ans ≤ 40*281474976702464:=fun h40 => by
     have:=SA.out k (by omega) h40
     rwa [List.take_of_length_le (by have:=HNA.out; omega)] at this
    have A40:=Lib.hid a40
    clear a40
    by_cases hlt2:j < ns
    ·obtain ⟨b,off,rfl,hSb,hcc⟩:=HS.out (by omega)
     obtain ⟨x0,x1⟩:=hcc j hlt2
     have hmem:=shwAt_mem (L:=s.shw) (k:=j) (by have:=HNS.out; omega)
     have hsz:=HZ.out.shw _ hmem
     have hsu:=shwN_succ (A:=s.shw) (k:=j) (by have:=HNS.out; omega)
     obtain ⟨g,hg⟩:∃ g,shwAt s.shw j=g:=⟨_,rfl⟩
     rw [hg] at x0 x1 hsz hsu
     obtain ⟨gf,gr⟩:=g
     have e0:=(HBQ.out.cell (p:=⟨b,off+j*2,none⟩) hSb).trans x0
     have e1:=(HBQ.out.cell (p:=⟨b,off+j*2+1,none⟩) hSb).trans x1
     have zi2:(j:Int) < (ns:Int):=by omega
     have z0:(0:Int) ≤ (j:Int):=by omega
     have HBV:=Lib.hid (hbr.alloc hbr.size (.cells #[.string gf,.string gr] 73))
     have HBK:=Lib.hid (hbk.alloc (.cells #[.string gf,.string gr] 73))
     have HSZ:=Lib.hid hsz
     have HSU:=Lib.hid hsu
     clear x0 x1 hcc hbr hbk hmem hsz hsu hg
     go_wp2_with fail
     go_roundw
     case measure => simp [intOf]; omega
     case rel =>
      refine ⟨j+1,_,by omega,by go_num,rfl,fun h40 h30 => ?_,HBV.out,HBK.out⟩
      rw [HSU.out,HMM.out h40 h30]
      simp only
      have a1:=SS.out j (by omega) (by omega)
      have a2:=HSZ.out
      have a3:=HR0.out
      have a4:=A40.out h40
      simp only at a2
      rw [IntWalk.wrap64_in ((gf.size:Int)+(gr.size:Int)) ⟨by omega,by omega⟩,IntWalk.wrap64_in _ ⟨by omega,by omega⟩]
      omega
    ·have zi2:¬ (j:Int) < (ns:Int):=by omega
     obtain rfl:j=ns:=by omega
     have c4:=(hbk.cell 4).trans (show _=some (Value.slice Ac nc cc) from rfl)
     have hm3:k ≤ 40 → j ≤ 30 → q=((s.resp.size+ansN s.ans+shwN s.shw:Nat):Int):=fun h40 h30 => by
      rw [HMM.out h40 h30,List.take_of_length_le (by have:=HNS.out; omega)]
     have HM3:=Lib.hid hm3
     have HBK2:=Lib.hid hbk
     clear hm3 hbr hbk
     go_wp2_with fail
     go_loopw [3,51] (fun v3 v51 wp => ∃ (i:Nat) (p:Int),i ≤ nc ∧ v51=.int .i64 (i:Int) ∧ v3=.int .i64 p ∧ (k ≤ 40 → j ≤ 30 → nc ≤ 40 → p=((s.resp.size+ansN s.ans+shwN s.shw+trmN (s.cond.take i):Nat):Int)) ∧ (∀ q,q < i → (trmAt s.cond q).args.length ≤ 30) ∧ Below w.heap.size w wp ∧ Blk wp w.heap.size 29 #[.string s.resp,.int .i64 s.dep,.int .i64 s.day,.slice Aa k ca,.slice Ac nc cc,.slice As j cs]) (fun _ v51 _ => nc - (intOf v51).toNat)
     case atStart => exact ⟨0,_,by omega,rfl,rfl,fun h h' _ => by rw [HM3.out h h']; simp [trmN],fun q hq => absurd hq (Nat.not_lt_zero _),HBQ.out,HBK2.out⟩
     case round =>
      obtain ⟨i,p,hi,rfl,rfl,hp,hag,hbr,hbk⟩:=hrel
      rename World => wp
      have HMM:=Lib.hid hp
      have HAG:=Lib.hid hag
      have HBP:=Lib.hid hbr
      clear hp hag c4
      have a30:j ≤ 30 → shwN s.shw ≤ 40*281474976702464:=fun h30 => by
       have:=SS.out j (by omega) h30
       rwa [List.take_of_length_le (by have:=HNS.out; omega)] at this
      have A30:=Lib.hid a30
      clear a30
      by_cases hlt3:i < nc
      ·obtain ⟨b,off,rfl,hSb,hcc⟩:=HC.out (by omega)
       obtain ⟨x0,x1,x2,x3,x4,u,x5,hu⟩:=hcc i hlt3
       obtain ⟨Au,nu,cu,rfl,hnu,-⟩:=hu
       have hmem:trmAt s.cond i ∈ s.cond:=trmAt_mem (by have:=HNC.out; omega)
       have hsz:=HZ.out.cond _ hmem
       have hsu:=trmN_succ (A:=s.cond) (k:=i) (by have:=HNC.out; omega)
       obtain ⟨g,hg⟩:∃ g,trmAt s.cond i=g:=⟨_,rfl⟩
       rw [hg] at x0 x1 x2 x3 x4 hsz hsu hnu hmem
       obtain ⟨kd,nm,yr,fl,tx,ar⟩:=g
       have e0:=(HBP.out.cell (p:=⟨b,off+i*6,none⟩) hSb).trans x0
       have e1:=(HBP.out.cell (p:=⟨b,off+i*6+1,none⟩) hSb).trans x1
       have e2:=(HBP.out.cell (p:=⟨b,off+i*6+2,none⟩) hSb).trans x2
       have e3:=(HBP.out.cell (p:=⟨b,off+i*6+3,none⟩) hSb).trans x3
       have e4:=(HBP.out.cell (p:=⟨b,off+i*6+4,none⟩) hSb).trans x4
       have e5:=(HBP.out.cell (p:=⟨b,off+i*6+5,none⟩) hSb).trans x5
       have zi3:(i:Int) < (nc:Int):=by omega
       have z0:(0:Int) ≤ (i:Int):=by omega
       have HBV:=Lib.hid (hbr.alloc hbr.size (.cells #[.int .i64 kd,.int .i64 nm,.int .i64 yr,.string fl,.string tx,.slice Au nu cu] 75))
       have HBK:=Lib.hid (hbk.alloc (.cells #[.int .i64 kd,.int .i64 nm,.int .i64 yr,.string fl,.string tx,.slice Au nu cu] 75))
       have HSZ:=Lib.hid hsz
       have HSU:=Lib.hid hsu
       have HMEM:=Lib.hid hmem
       have HNU:=Lib.hid hnu
       have HG:=Lib.hid hg
       clear x0 x1 x2 x3 x4 x5 hcc hbr hbk hmem hsz hsu hg hnu
       by_cases h30:30 < nu
       ·have z30:(30:Int) < (nu:Int):=by omega
        have hno:smallS s=false:=by
         cases e:smallS s with
         | false => rfl
         | true =>
          unfold smallS at e
          simp only [Bool.and_eq_true,decide_eq_true_eq,List.all_eq_true] at e
          have h1:=e.1.1.1.1 _ HMEM.out
          have h2:=HNU.out
          simp only at h1 h2
          omega
        have HNO:=Lib.hid hno
        clear hno
        go_wp2_with fail
        go_ret
        exact ⟨by rw [HNO.out]; rfl,HBV.out⟩
       ·have z30:¬ (30:Int) < (nu:Int):=by omega
        go_wp2_with fail
        go_roundw
        case measure => simp [intOf]; omega
        case rel =>
         refine ⟨i+1,_,by omega,by go_num,rfl,fun h40 h30 h4 => ?_,fun q hq => ?_,HBV.out,HBK.out⟩
         ·rw [HSU.out,HMM.out h40 h30 h4]
          simp only
          have a1:=SC.out i (by omega) (by omega)
          have a2:=HSZ.out
          have a3:=HR0.out
          have a4:=A40.out h40
          have a5:=A30.out h30
          simp only at a2
          rw [IntWalk.wrap64_in ((tx.size:Int)+(fl.size:Int)) ⟨by omega,by omega⟩,IntWalk.wrap64_in _ ⟨by omega,by omega⟩]
          omega
         ·rcases Nat.lt_or_ge q i with h | h
          ·exact HAG.out q h
          ·rw [show q=i by omega,HG.out]
           have:=HNU.out
           simp only at this ⊢
           omega
      ·have zi3:¬ (i:Int) < (nc:Int):=by omega
       obtain rfl:i=nc:=by omega
       have c3:=(hbk.cell 3).trans (show _=some (Value.slice Aa k ca) from rfl)
       have c4:=(hbk.cell 4).trans (show _=some (Value.slice Ac i cc) from rfl)
       have c5:=(hbk.cell 5).trans (show _=some (Value.slice As j cs) from rfl)
       have hsm:smallS s=(decide (smlN s < 3000) && decide (k ≤ 40) && decide (j ≤ 30) && decide (i ≤ 40)):=by
        have hall:(s.cond.all fun t => decide (t.args.length ≤ 30))=true:=by
         rw [List.all_eq_true]
         intro t ht
         obtain ⟨q,hq,e⟩:=List.getElem_of_mem ht
         have h1:=HAG.out q (by have:=HNC.out; omega)
         have h2:trmAt s.cond q=t:=by unfold trmAt; rw [List.getD_eq_getElem?_getD,List.getElem?_eq_getElem hq]; exact e
         rw [h2] at h1
         exact decide_eq_true h1
        unfold smallS
        rw [hall,Bool.true_and,← HNA.out,← HNS.out,← HNC.out]
       have hpv:k ≤ 40 → j ≤ 30 → i ≤ 40 → p=(smlN s:Int):=fun h1 h2 h3 => by
        rw [HMM.out h1 h2 h3,List.take_of_length_le (by have:=HNC.out; omega)]
        rfl
       have HSM:=Lib.hid hsm
       have HPV:=Lib.hid hpv
       clear hsm hpv hbr hbk
       by_cases p3:p < 3000
       ·by_cases h1:k ≤ 40
        ·by_cases h2:j ≤ 30
         ·by_cases h3:i ≤ 40
          ·have hfin:smallS s=true:=by
            have:=HPV.out h1 h2 h3
            rw [HSM.out]
            simp [h1,h2,h3]
            omega
           have HFI:=Lib.hid hfin
           have y1:(k:Int) ≤ 40:=by omega
           have y2:(j:Int) ≤ 30:=by omega
           have y3:(i:Int) ≤ 40:=by omega
           clear hfin
           go_wp2_with fail
           go_ret
           exact ⟨by rw [HFI.out]; rfl,HBP.out⟩
          ·have y1:(k:Int) ≤ 40:=by omega
           have y2:(j:Int) ≤ 30:=by omega
           have y3:¬ (i:Int) ≤ 40:=by omega
           have HFI:=Lib.hid (show smallS s=false by rw [HSM.out]; simp [h3])
           go_wp2_with fail
           go_ret
           exact ⟨by rw [HFI.out]; rfl,HBP.out⟩
         ·have y1:(k:Int) ≤ 40:=by omega
          have y2:¬ (j:Int) ≤ 30:=by omega
          have HFI:=Lib.hid (show smallS s=false by rw [HSM.out]; simp [h2])
          go_wp2_with fail
          go_ret
          exact ⟨by rw [HFI.out]; rfl,HBP.out⟩
        ·have y1:¬ (k:Int) ≤ 40:=by omega
         have HFI:=Lib.hid (show smallS s=false by rw [HSM.out]; simp [h1])
         go_wp2_with fail
         go_ret
         exact ⟨by rw [HFI.out]; rfl,HBP.out⟩
       ·have hfin:smallS s=false:=by
         rw [HSM.out]
         by_cases h1:k ≤ 40
         ·by_cases h2:j ≤ 30
          ·by_cases h3:i ≤ 40
           ·have:=HPV.out h1 h2 h3
            simp [show ¬ smlN s < 3000 from by omega]
           ·simp [h3]
          ·simp [h2]
         ·simp [h1]
        have HFI:=Lib.hid hfin
        clear hfin
        go_wp2_with fail
        go_ret
        exact ⟨by rw [HFI.out]; rfl,HBP.out⟩
theorem trm_ne {k1 n1 y1 k2 n2 y2 : Int} {f1 x1 f2 x2 : ByteArray} {a1 a2 : List Int} (h : (k1 == k2) = false ∨ (n1 == n2) = false ∨ (y1 == y2) = false ∨ (f1.toList == f2.toList) = false ∨ (x1.toList == x2.toList) = false) : (⟨k1,n1,y1,f1,x1,a1⟩ : Trm) ≠ ⟨k2,n2,y2,f2,x2,a2⟩ := by
 intro e
 injection e with e0 e1 e2 e3 e4 e5
 subst e0 e1 e2 e3 e4
 simp at h
set_option maxRecDepth 100000 in
set_option maxHeartbeats 2000000 in
theorem t_Same (k1 n1 y1 k2 n2 y2 : Int) (f1 x1 f2 x2 : ByteArray) (a1 a2 : List Int) (A B : Option Addr) (p c q d : Nat) (w : World) (ha : IntsAt w (· < w.heap.size) (.slice A p c) a1) (hb : IntsAt w (· < w.heap.size) (.slice B q d) a2) (hla : a1.length ≤ 1000000) (hlb : a2.length ≤ 1000000) :
  Calls Tryz.prog 67 #[.agg #[.int .i64 k1,.int .i64 n1,.int .i64 y1,.string f1,.string x1,.slice A p c],.agg #[.int .i64 k2,.int .i64 n2,.int .i64 y2,.string f2,.string x2,.slice B q d]] w (SameB ((⟨k1,n1,y1,f1,x1,a1⟩:Trm)=⟨k2,n2,y2,f2,x2,a2⟩) w):=by
 have hb0:Below w.heap.size w ((w.alloc (.cells #[.int .i64 k1,.int .i64 n1,.int .i64 y1,.string f1,.string x1,.slice A p c] 75)).alloc (.cells #[.int .i64 k2,.int .i64 n2,.int .i64 y2,.string f2,.string x2,.slice B q d] 75)):=((Below.refl _ w).alloc (Nat.le_refl _) _).alloc (by simp) _
 have hsz:=hb0.size
 have heq:=q_EqI (.slice A p c) (.slice B q d) a1 a2 _ ((ha.keep fun g hg => hb0.block g hg).mono fun g hg => Nat.lt_of_lt_of_le hg hsz) ((hb.keep fun g hg => hb0.block g hg).mono fun g hg => Nat.lt_of_lt_of_le hg hsz) hla hlb
 have HEQ:=Lib.hid heq
 have HB:=Lib.hid hb0
 clear heq hb0 ha hb hsz
 have hno:=fun (h:(k1 == k2)=false ∨ (n1 == n2)=false ∨ (y1 == y2)=false ∨ (f1.toList == f2.toList)=false ∨ (x1.toList == x2.toList)=false) => (show SameB ((⟨k1,n1,y1,f1,x1,a1⟩:Trm)=⟨k2,n2,y2,f2,x2,a2⟩) w (.returned (.bool false)) _ from ⟨false,rfl,⟨fun h => (by cases h),fun e => absurd e (trm_ne h)⟩,HB.out⟩)
 have HNO:=Lib.hid hno
 clear hno
 go_enter Tryz.func67,Tryz.ntmps67
 cases h0:(k1 == k2)
 ·go_wp2_with fail
  go_ret
  exact HNO.out (.inl h0)
 ·cases h1:(n1 == n2)
  ·go_wp2_with fail
   go_ret
   exact HNO.out (.inr (.inl h1))
  ·cases h2:(y1 == y2)
   ·go_wp2_with fail
    go_ret
    exact HNO.out (.inr (.inr (.inl h2)))
   ·cases h3:(f1.toList == f2.toList)
    ·go_wp2_with fail
     go_ret
     exact HNO.out (.inr (.inr (.inr (.inl h3))))
    ·cases h4:(x1.toList == x2.toList)
     ·go_wp2_with fail
      go_ret
      exact HNO.out (.inr (.inr (.inr (.inr h4))))
     ·go_wp2_with fail
      refine HEQ.out.mono ?_
      rintro e w1 ⟨b,rfl,hbb,hB1⟩
      have HBB:=Lib.hid hbb
      have HB1:=Lib.hid (HB.out.trans (hB1.mono HB.out.size))
      clear hbb hB1
      go_wp2_with fail
      go_ret
      refine ⟨b,rfl,⟨fun h => ?_,fun e => HBB.out.2 (by injection e)⟩,HB1.out⟩
      rw [eq_of_beq h0,eq_of_beq h1,eq_of_beq h2,bytes_of h3,bytes_of h4,HBB.out.1 h]
set_option maxRecDepth 100000 in
set_option maxHeartbeats 4000000 in
theorem q_EqT (va vb : Value) (La Lb : List Trm) (w : World) (ha : TermsAt w (· < w.heap.size) va La) (hb : TermsAt w (· < w.heap.size) vb Lb) (hla : La.length ≤ 1000000) (hlb : Lb.length ≤ 1000000)
  (hka:∀ t ∈ La,t.args.length ≤ 1000000) (hkb:∀ t ∈ Lb,t.args.length ≤ 1000000) :
  Calls Tryz.prog 70 #[va,vb,.func (.func 67) #[] #[]] w (SameB (La=Lb) w):=by
 obtain ⟨A,n,c,rfl,hn,hnc,hA⟩:=ha
 obtain ⟨B,m,k,rfl,hm,hmk,hB⟩:=hb
 have n1:n ≤ 1000000:=by omega
 have m1:m ≤ 1000000:=by omega
 have HA:=Lib.hid hA
 have HB:=Lib.hid hB
 have HN:=Lib.hid hn
 have HM:=Lib.hid hm
 have HKA:=Lib.hid hka
 have HKB:=Lib.hid hkb
 clear hA hB hn hm hla hlb hka hkb
 by_cases hnm:n=m
 ·subst hnm
  go_enter Tryz.func70,Tryz.ntmps70
  go_wp2_with fail
  go_loopw [7,8,9,17] (fun v7 v8 v9 v17 wr => ∃ i:Nat,i ≤ n ∧ v17=.int .i64 (i:Int) ∧ (∀ q,q < i → trmAt La q=trmAt Lb q) ∧ Below w.heap.size w wr) (fun _ _ _ v17 _ => n - (intOf v17).toNat)
  case atStart => exact ⟨0,by omega,rfl,fun q hq => absurd hq (Nat.not_lt_zero _),Below.refl _ _⟩
  case round =>
   obtain ⟨i,hi,rfl,heq,hbr⟩:=hrel
   rename World => wr
   have HE:=Lib.hid heq
   have HBR:=Lib.hid hbr
   have hsz:=hbr.size
   clear heq hbr
   by_cases hlt:i < n
   ·obtain ⟨b1,o1,rfl,hS1,hc1⟩:=HA.out (by omega)
    obtain ⟨b2,o2,rfl,hS2,hc2⟩:=HB.out (by omega)
    have hta:=(hc1 i hlt).keep (S:=(· < w.heap.size)) (HBR.out.block b1 hS1) (fun g hg => HBR.out.block g hg)
    have htb:=(hc2 i hlt).keep (S:=(· < w.heap.size)) (HBR.out.block b2 hS2) (fun g hg => HBR.out.block g hg)
    have hla:(trmAt La i).args.length ≤ 1000000:=HKA.out _ (trmAt_mem (by have:=HN.out; omega))
    have hlb:(trmAt Lb i).args.length ≤ 1000000:=HKB.out _ (trmAt_mem (by have:=HM.out; omega))
    obtain ⟨ta,hta'⟩:∃ ta,trmAt La i=ta:=⟨_,rfl⟩
    obtain ⟨tb,htb'⟩:∃ tb,trmAt Lb i=tb:=⟨_,rfl⟩
    rw [hta'] at hta hla
    rw [htb'] at htb hlb
    obtain ⟨k1,n1',y1,f1,x1,a1⟩:=ta
    obtain ⟨k2,n2',y2,f2,x2,a2⟩:=tb
    obtain ⟨c0,c1,c2,c3,c4,u,c5,hu⟩:=hta
    obtain ⟨d0,d1,d2,d3,d4,u',d5,hu'⟩:=htb
    dsimp only at c0 c1 c2 c3 c4 d0 d1 d2 d3 d4 hu hu' hla hlb
    obtain ⟨A1,q1,e1,hv1,-⟩:=id hu
    obtain ⟨A2,q2,e2,hv2,-⟩:=id hu'
    subst hv1 hv2
    have zi:(i:Int) < (n:Int):=by omega
    have z0:(0:Int) ≤ (i:Int):=by omega
    have hbl':b2 < wr.heap.size:=by omega
    have D0:∀ o:Obj,(wr.alloc o).cell? ⟨b2,o2+i*6,none⟩=some (.int .i64 k2):=fun o => (World.cell?_alloc_lt wr o ⟨b2,o2+i*6,none⟩ hbl').trans d0
    have D1:∀ o:Obj,(wr.alloc o).cell? ⟨b2,o2+i*6+1,none⟩=some (.int .i64 n2'):=fun o => (World.cell?_alloc_lt wr o ⟨b2,o2+i*6+1,none⟩ hbl').trans d1
    have D2:∀ o:Obj,(wr.alloc o).cell? ⟨b2,o2+i*6+2,none⟩=some (.int .i64 y2):=fun o => (World.cell?_alloc_lt wr o ⟨b2,o2+i*6+2,none⟩ hbl').trans d2
    have D3:∀ o:Obj,(wr.alloc o).cell? ⟨b2,o2+i*6+3,none⟩=some (.string f2):=fun o => (World.cell?_alloc_lt wr o ⟨b2,o2+i*6+3,none⟩ hbl').trans d3
    have D4:∀ o:Obj,(wr.alloc o).cell? ⟨b2,o2+i*6+4,none⟩=some (.string x2):=fun o => (World.cell?_alloc_lt wr o ⟨b2,o2+i*6+4,none⟩ hbl').trans d4
    have D5:∀ o:Obj,(wr.alloc o).cell? ⟨b2,o2+i*6+5,none⟩=some (.slice A2 q2 e2):=fun o => (World.cell?_alloc_lt wr o ⟨b2,o2+i*6+5,none⟩ hbl').trans d5
    have HTA:=Lib.hid hta'
    have HTB:=Lib.hid htb'
    have hbx:Below wr.heap.size wr ((wr.alloc (.cells #[.int .i64 k1,.int .i64 n1',.int .i64 y1,.string f1,.string x1,.slice A1 q1 e1] 75)).alloc (.cells #[.int .i64 k2,.int .i64 n2',.int .i64 y2,.string f2,.string x2,.slice A2 q2 e2] 75)):=((Below.refl _ _).alloc (Nat.le_refl _) _).alloc (by simp) _
    have hsx:=hbx.size
    have hcl:=t_Same k1 n1' y1 k2 n2' y2 f1 x1 f2 x2 a1 a2 A1 A2 q1 e1 q2 e2 _ ((hu.keep fun g hg => hbx.block g (by omega)).mono fun g hg => by omega) ((hu'.keep fun g hg => hbx.block g (by omega)).mono fun g hg => by omega) hla hlb
    have HCL:=Lib.hid hcl
    have HX:=Lib.hid (HBR.out.trans (hbx.mono hsz))
    clear hta' htb' hc1 hc2 d0 d1 d2 d3 d4 d5 hbx hcl hu hu' hsx
    go_wp2_with fail
    refine HCL.out.mono ?_
    rintro e w5 ⟨b,rfl,hbb,hB5⟩
    have HB5:=Lib.hid (HX.out.trans (hB5.mono HX.out.size))
    have HBB:=Lib.hid hbb
    clear hbb hB5 HCL HX D0 D1 D2 D3 D4 D5 c0 c1 c2 c3 c4 c5
    cases b with
    | false =>
     go_wp2_with fail
     go_ret
     refine ⟨false,rfl,⟨fun h => (by cases h),fun e => ?_⟩,HB5.out⟩
     subst e
     have h2:=HTA.out.symm.trans HTB.out
     exact absurd (HBB.out.2 h2) (by simp)
    | true =>
     go_wp2_with fail
     go_roundw
     case measure => simp [intOf]; omega
     case rel => exact ⟨i+1,by omega,by go_num,(fun q hq => by
      by_cases e:q=i
      ·subst e
       rw [HTA.out,HTB.out]; exact HBB.out.1 (by simp)
      ·exact HE.out q (by omega)),HB5.out⟩
   ·have zi:¬ (i:Int) < (n:Int):=by omega
    have he:La=Lb:=trms_eq (by have:=HN.out; have:=HM.out; omega) (fun q hq => HE.out q (by have:=HN.out; omega))
    have HEQ:=Lib.hid he
    clear he
    go_wp2_with fail
    go_ret
    exact ⟨true,rfl,⟨fun _ => HEQ.out,fun _ => rfl⟩,HBR.out⟩
 ·have hne:((n:Int) == (m:Int))=false:=by simp; omega
  have hne2:((n:Int) != (m:Int))=true:=by simp; omega
  have he:La ≠ Lb:=fun e => hnm (by rw [HN.out,HM.out,e])
  have HEQ:=Lib.hid he
  clear he
  go_enter Tryz.func70,Tryz.ntmps70
  go_wp2_with fail
  go_ret
  exact ⟨false,rfl,⟨fun h => (by cases h),fun e => absurd e HEQ.out⟩,Below.refl _ _⟩
theorem stm_ne {s t : Stm} (h : (s.resp.toList == t.resp.toList) = false ∨ (s.dep == t.dep) = false ∨ (s.day == t.day) = false) : s ≠ t := by
 intro e
 subst e
 simp at h
set_option maxRecDepth 100000 in
set_option maxHeartbeats 4000000 in
theorem s_Same (s t : Stm) (va vc vs ua uc us : Value) (w : World) (ha : StmAt w (· < w.heap.size) va vc vs s) (hb : StmAt w (· < w.heap.size) ua uc us t) (hs : StmOk s) (ht : StmOk t) (has : ∀ x ∈ s.cond,x.args.length ≤ 1000000) (hat : ∀ x ∈ t.cond,x.args.length ≤ 1000000) :
  Calls Tryz.prog 32 #[.agg #[.string s.resp,.int .i64 s.dep,.int .i64 s.day,va,vc,vs],.agg #[.string t.resp,.int .i64 t.dep,.int .i64 t.day,ua,uc,us]] w (SameB (s=t) w):=by
 obtain ⟨Aa,na,ca,hva,-⟩:=id ha.aa
 obtain ⟨Ac,nc,cc,hvc,-⟩:=id ha.cc
 obtain ⟨As,ns,cs,hvs,-⟩:=id ha.ss
 obtain ⟨Ba,ma,da,hua,-⟩:=id hb.aa
 obtain ⟨Bc,mc,dc,huc,-⟩:=id hb.cc
 obtain ⟨Bs,ms,ds,hus,-⟩:=id hb.ss
 subst hva hvc hvs hua huc hus
 have hb0:Below w.heap.size w ((w.alloc (.cells #[.string s.resp,.int .i64 s.dep,.int .i64 s.day,.slice Aa na ca,.slice Ac nc cc,.slice As ns cs] 29)).alloc (.cells #[.string t.resp,.int .i64 t.dep,.int .i64 t.day,.slice Ba ma da,.slice Bc mc dc,.slice Bs ms ds] 29)):=((Below.refl _ w).alloc (Nat.le_refl _) _).alloc (by simp) _
 have hx1:Blk ((w.alloc (.cells #[.string s.resp,.int .i64 s.dep,.int .i64 s.day,.slice Aa na ca,.slice Ac nc cc,.slice As ns cs] 29)).alloc (.cells #[.string t.resp,.int .i64 t.dep,.int .i64 t.day,.slice Ba ma da,.slice Bc mc dc,.slice Bs ms ds] 29)) w.heap.size 29 #[.string s.resp,.int .i64 s.dep,.int .i64 s.day,.slice Aa na ca,.slice Ac nc cc,.slice As ns cs]:=(Blk.new w _ _).alloc _
 have hx2:Blk ((w.alloc (.cells #[.string s.resp,.int .i64 s.dep,.int .i64 s.day,.slice Aa na ca,.slice Ac nc cc,.slice As ns cs] 29)).alloc (.cells #[.string t.resp,.int .i64 t.dep,.int .i64 t.day,.slice Ba ma da,.slice Bc mc dc,.slice Bs ms ds] 29)) (w.heap.size+1) 29 #[.string t.resp,.int .i64 t.dep,.int .i64 t.day,.slice Ba ma da,.slice Bc mc dc,.slice Bs ms ds]:=by
  have:=Blk.new (w.alloc (.cells #[.string s.resp,.int .i64 s.dep,.int .i64 s.day,.slice Aa na ca,.slice Ac nc cc,.slice As ns cs] 29)) 29 #[.string t.resp,.int .i64 t.dep,.int .i64 t.day,.slice Ba ma da,.slice Bc mc dc,.slice Bs ms ds]
  rwa [World.size_alloc] at this
 have hk:=fun (W:World) (hB:Below w.heap.size w W) => And.intro ((ha.keep fun g hg => hB.block g hg).mono (T:=(· < W.heap.size)) fun g hg => Nat.lt_of_lt_of_le hg hB.size) ((hb.keep fun g hg => hB.block g hg).mono (T:=(· < W.heap.size)) fun g hg => Nat.lt_of_lt_of_le hg hB.size)
 have h1:=fun (W:World) (hB:Below w.heap.size w W) => q_EqA _ _ _ _ W (hk W hB).1.aa (hk W hB).2.aa hs.an ht.an
 have h2:=fun (W:World) (hB:Below w.heap.size w W) => q_EqT _ _ _ _ W (hk W hB).1.cc (hk W hB).2.cc hs.cn ht.cn has hat
 have h3:=fun (W:World) (hB:Below w.heap.size w W) => q_EqS _ _ _ _ W (hk W hB).1.ss (hk W hB).2.ss hs.sn ht.sn
 have HB:=Lib.hid hb0
 have H1:=Lib.hid (h1 _ hb0)
 have H2:=Lib.hid h2
 have H3:=Lib.hid h3
 have HX1:=Lib.hid hx1
 have HX2:=Lib.hid hx2
 have hno:=fun (h:(s.resp.toList == t.resp.toList)=false ∨ (s.dep == t.dep)=false ∨ (s.day == t.day)=false) => (show SameB (s=t) w (.returned (.bool false)) _ from ⟨false,rfl,⟨fun h => (by cases h),fun e => absurd e (stm_ne h)⟩,hb0⟩)
 have HNO:=Lib.hid hno
 clear hno hb0 hx1 hx2 hk h1 h2 h3 ha hb hs ht has hat
 go_enter Tryz.func32,Tryz.ntmps32
 cases h0:(s.resp.toList == t.resp.toList)
 ·go_wp2_with fail
  go_ret
  exact HNO.out (.inl h0)
 ·cases h1:(s.dep == t.dep)
  ·go_wp2_with fail
   go_ret
   exact HNO.out (.inr (.inl h1))
  ·cases h2:(s.day == t.day)
   ·go_wp2_with fail
    go_ret
    exact HNO.out (.inr (.inr h2))
   ·have HE:=Lib.hid (And.intro h0 (And.intro h1 h2))
    go_wp2_with fail
    refine H1.out.mono ?_
    rintro e w1 ⟨b1,rfl,hb1,hB1⟩
    have HW1:=Lib.hid (HB.out.trans (hB1.mono HB.out.size))
    have HB1:=Lib.hid hb1
    have hx1:=HX1.out.below' hB1 HX1.out.lt
    have hx2:=HX2.out.below' hB1 HX2.out.lt
    have X4:=(hx1.cell 4).trans (show _=some (Value.slice Ac nc cc) from rfl)
    have Y4:=(hx2.cell 4).trans (show _=some (Value.slice Bc mc dc) from rfl)
    have K1:=Lib.hid hx1
    have K2:=Lib.hid hx2
    clear hb1 hB1 hx1 hx2 H1 HX1 HX2
    cases b1 with
    | false =>
     go_wp2_with fail
     go_ret
     exact ⟨false,rfl,⟨fun h => (by cases h),fun e => absurd (HB1.out.2 (by rw [e])) (by simp)⟩,HW1.out⟩
    | true =>
     have ea:=Lib.hid (HB1.out.1 (by simp))
     clear HB1
     go_wp2_with fail
     refine (H2.out _ HW1.out).mono ?_
     rintro e w2 ⟨b2,rfl,hb2,hB2⟩
     have HW2:=Lib.hid (HW1.out.trans (hB2.mono HW1.out.size))
     have HB2:=Lib.hid hb2
     have hx1:=K1.out.below' hB2 K1.out.lt
     have hx2:=K2.out.below' hB2 K2.out.lt
     have X5:=(hx1.cell 5).trans (show _=some (Value.slice As ns cs) from rfl)
     have Y5:=(hx2.cell 5).trans (show _=some (Value.slice Bs ms ds) from rfl)
     clear hb2 hB2 hx1 hx2 K1 K2 H2 X4 Y4
     cases b2 with
     | false =>
      go_wp2_with fail
      go_ret
      exact ⟨false,rfl,⟨fun h => (by cases h),fun e => absurd (HB2.out.2 (by rw [e])) (by simp)⟩,HW2.out⟩
     | true =>
      have ec:=Lib.hid (HB2.out.1 (by simp))
      clear HB2
      go_wp2_with fail
      refine (H3.out _ HW2.out).mono ?_
      rintro e w3 ⟨b3,rfl,hb3,hB3⟩
      have HW3:=Lib.hid (HW2.out.trans (hB3.mono HW2.out.size))
      have HB3:=Lib.hid hb3
      clear hb3 hB3 H3 X5 Y5
      go_wp2_with fail
      go_ret
      exact ⟨b3,rfl,⟨fun h => stm_eq (bytes_of HE.out.1).symm (eq_of_beq HE.out.2.1) (eq_of_beq HE.out.2.2) ea.out ec.out (HB3.out.1 h),fun e => HB3.out.2 (by rw [e])⟩,HW3.out⟩
end Go.Proofs.YtgdngfdeeadlnaaGreatDoor

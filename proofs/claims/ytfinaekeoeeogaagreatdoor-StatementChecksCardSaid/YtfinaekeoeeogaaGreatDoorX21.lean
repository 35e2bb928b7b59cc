/- Contracts: choices and shows of a statement, by the reference. And more. -/
import Derived.Test.YtfinaekeoeeogaaGreatDoorX17
import Derived.Test.YtfinaekeoeeogaaGreatDoorX19
import Derived.Deep.CutRange
import Derived.Deep.CutBlock
import Derived.Test.YtfinaekeoeeogaaGreatDoorX16
set_option linter.unusedVariables false
set_option linter.unusedSimpArgs false
namespace Go.Proofs.YtfinaekeoeeogaaGreatDoor
open Go.RowKit Num
set_option maxRecDepth 100000 in
set_option maxHeartbeats 4000000 in
theorem r_choices (v : Value) (T : List Trm) (title : ByteArray) (vf : Value) (L : List Fld) (w : World) (hv : TermsAt w (· < w.heap.size) v T) (hT : T.length ≤ 1000000) (hF : FldsAt w (· < w.heap.size) vf L) (hl : L.length ≤ 1000000) :
  Calls Tryz.prog 29 #[.agg #[.string title,vf],.agg #[v]] w (BoolBel (!T.any (badT L)) w):=by
 obtain ⟨A,n,c,rfl,hn,hnc,hc⟩:=id hv
 obtain ⟨Af,nf,cf,rfl,-⟩:=id hF
 have hn1:n ≤ 1000000:=by omega
 have hb2:Below w.heap.size w ((w.alloc (.cells #[.string title,.slice Af nf cf] 37)).alloc (.cells #[.slice A n c] 26)):=((Below.refl _ _).alloc (Nat.le_refl _) _).alloc (by simp) _
 have hbf:Blk ((w.alloc (.cells #[.string title,.slice Af nf cf] 37)).alloc (.cells #[.slice A n c] 26)) w.heap.size 37 #[.string title,.slice Af nf cf]:=(Blk.new w _ _).alloc _
 have up:∀ W,Below w.heap.size w W → FldsAt W (· < W.heap.size) (.slice Af nf cf) L:=fun W hW => (hF.keep fun b hB => hW.block b hB).mono fun b hB => Nat.lt_of_lt_of_le hB hW.size
 have UP:=Lib.hid up
 have HC:=Lib.hid hc
 have HN:=Lib.hid hn
 have K0:=Lib.hid (And.intro hb2 hbf)
 clear up hc hn hb2 hbf hv hF
 go_enter Tryz.func29,Tryz.ntmps29
 go_wp2_with fail
 go_loopw [12] (fun v12 wr => ∃ k:Nat,k ≤ n ∧ v12=.int .i64 (k:Int) ∧ (∀ j,j < k → badT L (trmAt T j)=false) ∧ Below w.heap.size w wr ∧ Blk wr w.heap.size 37 #[.string title,.slice Af nf cf]) (fun v12 _ => n - (intOf v12).toNat)
 case atStart => exact ⟨0,by omega,rfl,fun j hj => absurd hj (Nat.not_lt_zero _),K0.out.1,K0.out.2⟩
 case round =>
  obtain ⟨k,hk,rfl,hne,hbr,hbk⟩:=hrel
  rename World => wr
  have HE:=Lib.hid hne
  have HBR:=Lib.hid hbr
  clear hne K0
  by_cases hlt:k < n
  ·obtain ⟨b,off,rfl,hS,hcc⟩:=HC.out (by omega)
   obtain ⟨x0,x1,x2,x3,x4,u,x5,hu⟩:=hcc k hlt
   obtain ⟨Au,nu,cu,rfl,-⟩:=hu
   have hm:trmAt T k ∈ T:=trmAt_mem (by have:=HN.out; omega)
   obtain ⟨t,ht⟩:∃ t,trmAt T k=t:=⟨_,rfl⟩
   rw [ht] at x0 x1 x2 x3 x4 hm
   obtain ⟨kd,nm,yr,fl,tx,ar⟩:=t
   have e0:=(HBR.out.cell (p:=⟨b,off+k*6,none⟩) hS).trans x0
   have e1:=(HBR.out.cell (p:=⟨b,off+k*6+1,none⟩) hS).trans x1
   have e2:=(HBR.out.cell (p:=⟨b,off+k*6+2,none⟩) hS).trans x2
   have e3:=(HBR.out.cell (p:=⟨b,off+k*6+3,none⟩) hS).trans x3
   have e4:=(HBR.out.cell (p:=⟨b,off+k*6+4,none⟩) hS).trans x4
   have e5:=(HBR.out.cell (p:=⟨b,off+k*6+5,none⟩) hS).trans x5
   have HT:=Lib.hid ht
   have HM:=Lib.hid hm
   have zi:(k:Int) < (n:Int):=by omega
   have z0:(0:Int) ≤ (k:Int):=by omega
   have hbv:=hbr.alloc hbr.size (.cells #[.int .i64 kd,.int .i64 nm,.int .i64 yr,.string fl,.string tx,.slice Au nu cu] 51)
   have hbk2:=hbk.alloc (.cells #[.int .i64 kd,.int .i64 nm,.int .i64 yr,.string fl,.string tx,.slice Au nu cu] 51)
   have hp6:=Blk.new wr 51 #[.int .i64 kd,.int .i64 nm,.int .i64 yr,.string fl,.string tx,.slice Au nu cu]
   clear x0 x1 x2 x3 x4 x5 hcc ht hm hbr hbk
   go_upto_region 4 with fail
   generalize wr.alloc (.cells #[.int .i64 kd,.int .i64 nm,.int .i64 yr,.string fl,.string tx,.slice Au nu cu] 51)=wv at hbv hbk2 hp6 ⊢
   obtain ⟨p6,hq6⟩:∃ p,wr.heap.size=p:=⟨_,rfl⟩
   rw [hq6] at hp6
   try rw [hq6]
   clear hq6 e0 e1 e2 e3 e4 e5
   have d0:=(hp6.cell 0).trans (show _=some (Value.int .i64 kd) from rfl)
   have d3:=(hp6.cell 3).trans (show _=some (Value.string fl) from rfl)
   by_cases h7:kd=7
   ·subst h7
    have c0:=(hbk2.cell 0).trans (show _=some (Value.string title) from rfl)
    have c1:=(hbk2.cell 1).trans (show _=some (Value.slice Af nf cf) from rfl)
    have hfn:=r_Find title fl (.slice Af nf cf) L (· < wv.heap.size) wv (UP.out _ hbv) (fun b h => h) hl
    have HFN:=Lib.hid hfn
    have KV:=Lib.hid (And.intro hbv hbk2)
    clear hfn hbv hbk2 hp6
    cases hf:fstF L fl with
    | none =>
     have hany:T.any (badT L)=true:=List.any_eq_true.2 ⟨_,HM.out,by unfold badT; simp only [hf]; rfl⟩
     have HY:=Lib.hid hany
     unfold FndE at HFN
     rw [hf] at HFN
     clear hf hany
     go_wp2_with fail
     refine HFN.out.mono ?_
     rintro e w1 ⟨rfl,hb1⟩
     have HB1:=Lib.hid (KV.out.1.trans (hb1.mono KV.out.1.size))
     clear hb1
     go_wp2_with fail
     go_ret
     exact ⟨by rw [HY.out]; rfl,HB1.out⟩
    | some j =>
     obtain ⟨hj,hjn⟩:=fstF_lt hf
     unfold FndE at HFN
     rw [hf] at HFN
     have hfe:badT L ⟨7,nm,yr,fl,tx,ar⟩=(!decide ((fldAt L j).kind=4) && !decide ((fldAt L j).kind=1)):=by simp [badT,hf]
     obtain ⟨_,_,_,hAf',hnf',-,hcf⟩:=UP.out _ KV.out.1
     injection hAf' with q1 q2 q3
     subst q1 q2 q3
     obtain ⟨fb,fo,rfl,hSf,hcl⟩:=hcf (by omega)
     have hcell:=(hcl j (by omega)).2.1
     obtain ⟨kf,hkf⟩:∃ x,(fldAt L j).kind=x:=⟨_,rfl⟩
     rw [hkf] at hcell hfe
     have zj:(j:Int) < (nf:Int):=by omega
     have zj0:(0:Int) ≤ (j:Int):=by omega
     have HCE:=Lib.hid (And.intro hSf hcell)
     have HFE:=Lib.hid hfe
     clear hf hjn hcl hkf hcell hSf hcf hnf' hfe hj
     go_wp2_with fail
     refine HFN.out.mono ?_
     rintro e w1 ⟨rfl,hb1⟩
     have hb1':=KV.out.1.trans (hb1.mono KV.out.1.size)
     have HB1:=Lib.hid hb1'
     have hbk3:=KV.out.2.below' hb1 KV.out.2.lt
     have HBK:=Lib.hid hbk3
     have f1:=(hbk3.cell 1).trans (show _=some (Value.slice (some ⟨fb,fo,none⟩) nf cf) from rfl)
     have k1:=(hb1.cell (p:=⟨fb,fo+j*6+1,none⟩) HCE.out.1).trans HCE.out.2
     clear hb1 hb1' hbk3 c0 c1 d0 d3
     by_cases g4:kf=4
     ·subst g4
      have HL:Hid (badT L ⟨7,nm,yr,fl,tx,ar⟩=false):=Lib.hid (by rw [HFE.out]; rfl)
      go_wp2_with fail
      go_roundw
      case measure => simp [intOf]; omega
      case rel => exact ⟨k+1,by omega,by go_num,all_next (P:=fun j => badT L (trmAt T j)=false) HE.out (by rw [HT.out]; exact HL.out),HB1.out,HBK.out⟩
     ·have hk4:(kf != (4:Int))=true:=by simpa using g4
      by_cases g1:kf=1
      ·subst g1
       have HL:Hid (badT L ⟨7,nm,yr,fl,tx,ar⟩=false):=Lib.hid (by rw [HFE.out]; rfl)
       go_wp2_with fail
       go_roundw
       case measure => simp [intOf]; omega
       case rel => exact ⟨k+1,by omega,by go_num,all_next (P:=fun j => badT L (trmAt T j)=false) HE.out (by rw [HT.out]; exact HL.out),HB1.out,HBK.out⟩
      ·have hk1:(kf != (1:Int))=true:=by simpa using g1
       have HL:Hid (badT L ⟨7,nm,yr,fl,tx,ar⟩=true):=Lib.hid (by rw [HFE.out]; simp [g4,g1])
       have hany:T.any (badT L)=true:=List.any_eq_true.2 ⟨_,HM.out,HL.out⟩
       have HY:=Lib.hid hany
       clear hany
       go_wp2_with fail
       go_ret
       exact ⟨by rw [HY.out]; rfl,HB1.out⟩
   ·have h7':(kd != 7)=true:=by simpa using h7
    have HL:Hid (badT L ⟨kd,nm,yr,fl,tx,ar⟩=false):=Lib.hid (by simp [badT,h7])
    have KV:=Lib.hid (And.intro hbv hbk2)
    clear hbv hbk2 hp6
    go_wp2_with fail
    go_roundw
    case measure => simp [intOf]; omega
    case rel => exact ⟨k+1,by omega,by go_num,all_next (P:=fun j => badT L (trmAt T j)=false) HE.out (by rw [HT.out]; exact HL.out),KV.out.1,KV.out.2⟩
  ·have zi:¬ (k:Int) < (n:Int):=by omega
   have hany:T.any (badT L)=false:=by
    rw [List.any_eq_false]
    intro t ht
    obtain ⟨j,hj,e⟩:=List.getElem_of_mem ht
    have h1:=HE.out j (by have:=HN.out; omega)
    have h2:trmAt T j=t:=by unfold trmAt; rw [List.getD_eq_getElem?_getD,List.getElem?_eq_getElem hj]; exact e
    rw [h2] at h1
    rw [h1]; decide
   have HY:=Lib.hid hany
   clear hany
   go_wp2_with fail
   go_ret
   exact ⟨by rw [HY.out]; rfl,HBR.out⟩
theorem empty_size (s : ByteArray) : (s.toList == []) = decide (s.size < 1) := by
 obtain ⟨⟨l⟩⟩:=s
 rw [ByteArray.toList_eq]
 show (l == [])=decide (l.length < 1)
 cases l <;> simp
theorem sees_any {Q : List Shw} {s : Shw} : seesS Q s.role s.field = true ↔ ∃ q,q < Q.length ∧ shwAt Q q = s := by
 rw [sees_iff]
 constructor
 ·intro h
  obtain ⟨j,hj,e⟩:=List.getElem_of_mem h
  exact ⟨j,hj,by unfold shwAt; rw [List.getD_eq_getElem?_getD,List.getElem?_eq_getElem hj]; exact e⟩
 ·rintro ⟨q,hq,e⟩
  have h2:shwAt Q q ∈ Q:=by unfold shwAt; rw [List.getD_eq_getElem?_getD,List.getElem?_eq_getElem hq]; exact List.getElem_mem hq
  rw [e] at h2
  exact h2
theorem shwAt_take {T : List Shw} {i q : Nat} (h : q < i) : shwAt (T.take i) q = shwAt T q := by
 unfold shwAt
 rw [List.getD_eq_getElem?_getD,List.getD_eq_getElem?_getD,List.getElem?_take,if_pos h]
set_option maxRecDepth 100000 in
set_option maxHeartbeats 8000000 in
theorem r_shows (v : Value) (T : List Shw) (title : ByteArray) (vf : Value) (L : List Fld) (w : World) (hv : ShwsAt w (· < w.heap.size) v T) (hT : T.length ≤ 1000000) (hsz : ∀ k,k < T.length → (shwAt T k).role.size ≤ 1000000) (hF : FldsAt w (· < w.heap.size) vf L) (hl : L.length ≤ 1000000) :
  Calls Tryz.prog 30 #[.agg #[.string title,vf],v] w (BoolBel (shwF L T) w):=by
 obtain ⟨A,n,c,rfl,hn,hnc,hA⟩:=id hv
 obtain ⟨Af,nf,cf,rfl,-⟩:=id hF
 have hn1:n ≤ 1000000:=by omega
 have hb0:=below_al' w (.cells #[.string title,.slice Af nf cf] 37)
 have hbf:=Blk.new w 37 #[.string title,.slice Af nf cf]
 have up:∀ W,Below w.heap.size w W → FldsAt W (· < W.heap.size) (.slice Af nf cf) L:=fun W hW => (hF.keep fun b hB => hW.block b hB).mono fun b hB => Nat.lt_of_lt_of_le hB hW.size
 obtain ⟨w0,hw0⟩:∃ w0,w.alloc (.cells #[.string title,.slice Af nf cf] 37)=w0:=⟨_,rfl⟩
 have hbw0:Blk w0 w.heap.size 37 #[.string title,.slice Af nf cf]:=by rw [← hw0]; exact hbf
 rw [hw0] at hb0
 have UP:=Lib.hid up
 have HA:=Lib.hid hA
 have HN:=Lib.hid hn
 have HSZ:=Lib.hid hsz
 have HB0:=Lib.hid hb0
 have HBF:=Lib.hid hbw0
 clear up hA hn hsz hb0 hbf hbw0 hv hF
 go_enter Tryz.func30,Tryz.ntmps30
 go_wp2_with fail
 try rw [hw0]
 go_loopw [13] (fun v13 wr => ∃ i:Nat,i ≤ n ∧ v13=.int .i64 (i:Int) ∧ (∀ j,j < i → okS L (T.take j) (shwAt T j)=true) ∧ Below w.heap.size w wr ∧ Blk wr w.heap.size 37 #[.string title,.slice Af nf cf]) (fun v13 _ => n - (intOf v13).toNat)
 case atStart => exact ⟨0,by omega,rfl,fun j hj => absurd hj (Nat.not_lt_zero _),HB0.out,HBF.out⟩
 case round =>
  obtain ⟨i,hi,rfl,hne,hbr,hbk⟩:=hrel
  rename World => wr
  have HE:=Lib.hid hne
  have HBR:=Lib.hid hbr
  clear hne hw0 HB0 HBF
  by_cases hlt:i < n
  ·obtain ⟨b,off,rfl,hS,hcc⟩:=HA.out (by omega)
   obtain ⟨x0,x1⟩:=hcc i hlt
   have hrs:=HSZ.out i (by have:=HN.out; omega)
   obtain ⟨g,hg⟩:∃ g,shwAt T i=g:=⟨_,rfl⟩
   rw [hg] at x0 x1 hrs
   obtain ⟨gf,gr⟩:=g
   have e0:=(HBR.out.cell (p:=⟨b,off+i*2,none⟩) hS).trans x0
   have e1:=(HBR.out.cell (p:=⟨b,off+i*2+1,none⟩) hS).trans x1
   have zi:(i:Int) < (n:Int):=by omega
   have z0:(0:Int) ≤ (i:Int):=by omega
   have hbv:=hbr.alloc hbr.size (.cells #[.string gf,.string gr] 49)
   have hbk2:=hbk.alloc (.cells #[.string gf,.string gr] 49)
   have hp6:=Blk.new wr 49 #[.string gf,.string gr]
   have HCC:=Lib.hid (And.intro hS hcc)
   clear x0 x1 hcc hbr hbk hS
   go_upto_region 4 with fail
   generalize wr.alloc (.cells #[.string gf,.string gr] 49)=wv at hbv hbk2 hp6 ⊢
   obtain ⟨p6,hq6⟩:∃ p,wr.heap.size=p:=⟨_,rfl⟩
   rw [hq6] at hp6
   try rw [hq6]
   clear hq6 e0 e1
   have c0:=(hbk2.cell 0).trans (show _=some (Value.string title) from rfl)
   have c1:=(hbk2.cell 1).trans (show _=some (Value.slice Af nf cf) from rfl)
   have d0:=(hp6.cell 0).trans (show _=some (Value.string gf) from rfl)
   have hfn:=r_Find title gf (.slice Af nf cf) L (· < wv.heap.size) wv (UP.out _ hbv) (fun b h => h) hl
   have HFN:=Lib.hid hfn
   have KV:=Lib.hid (And.intro hbv (And.intro hbk2 hp6))
   clear hfn hbv hbk2 hp6
   go_wp2_with fail
   refine HFN.out.mono ?_
   rintro e w1 ⟨rfl,hb1⟩
   have hold:=KV.out.1.trans (hb1.mono KV.out.1.size)
   have hbk3:=KV.out.2.1.below' hb1 KV.out.2.1.lt
   have hp7:=KV.out.2.2.below' hb1 KV.out.2.2.lt
   have d0':=(hp7.cell 0).trans (show _=some (Value.string gf) from rfl)
   have d1':=(hp7.cell 1).trans (show _=some (Value.string gr) from rfl)
   have HOLD:=Lib.hid (show Below w.heap.size w w1 from hold)
   have HBK3:=Lib.hid hbk3
   have HP7:=Lib.hid hp7
   clear hold hbk3 hp7 hb1 KV c0 c1 d0 HFN
   obtain ⟨ok,hok⟩:∃ b,(fstF L gf).isSome=b:=⟨_,rfl⟩
   obtain ⟨kx,hkx⟩:∃ k,(((fstF L gf).getD 0:Nat):Int)=k:=⟨_,rfl⟩
   have hspec:okS L (T.take i) (shwAt T i)=(!(gr.toList == []) && decide (gr.size ≤ 32) && !seesS (T.take i) gr gf && (ok || eqBy gf respB || eqBy gf deptB || eqBy gf dayB)):=by rw [hg]; unfold okS; rw [hok]
   rw [hok,hkx]
   unfold eqBy at hspec
   rw [empty_size,show respB.toList = [114,101,115,112,111,110,100,101,110,116] from by rw [ByteArray.toList_eq]; rfl,show deptB.toList = [100,101,112,97,114,116,109,101,110,116] from by rw [ByteArray.toList_eq]; rfl,show dayB.toList = [100,97,121] from by rw [ByteArray.toList_eq]; rfl] at hspec
   have zc:i ≤ c:=by omega
   have HSP:=Lib.hid hspec
   clear hok hkx hg hspec
   go_upto_region 5 with fail
   go_cut [8] from 25 to 40 (fun v8 wx => v8=.bool (ok || (gf.toList == [114,101,115,112,111,110,100,101,110,116]) || (gf.toList == [100,101,112,97,114,116,109,101,110,116]) || (gf.toList == [100,97,121])) ∧ wx=w1)
   case first =>
    clear HSP
    cases ok
    ·cases e1:(gf.toList == [114,101,115,112,111,110,100,101,110,116])
     ·cases e2:(gf.toList == [100,101,112,97,114,116,109,101,110,116])
      ·cases e3:(gf.toList == [100,97,121])
       all_goals
        go_wp2_with fail
        go_meet
        exact ⟨by simp [e1,e2,e3],rfl⟩
      ·go_wp2_with fail
       go_meet
       exact ⟨by simp [e1,e2],rfl⟩
     ·go_wp2_with fail
      go_meet
      exact ⟨by simp [e1],rfl⟩
    ·go_wp2_with fail
     go_meet
     exact ⟨by simp,rfl⟩
   case rest =>
    obtain ⟨rfl,hwx⟩:=hcut
    rw [hwx]
    obtain ⟨okv,hokv⟩:∃ b,(ok || (gf.toList == [114,101,115,112,111,110,100,101,110,116]) || (gf.toList == [100,101,112,97,114,116,109,101,110,116]) || (gf.toList == [100,97,121]))=b:=⟨_,rfl⟩
    rw [hokv] at HSP ⊢
    clear hokv hwx
    have bad:okS L (T.take i) (shwAt T i)=false → Hid (shwF L T=false):=fun h => Lib.hid (shwF_no (by have:=HN.out; omega) h)
    have HBAD:=Lib.hid bad
    clear bad
    cases okv
    ·have HNO:=HBAD.out (by rw [HSP.out]; simp)
     go_wp2_with fail
     go_ret
     exact ⟨by rw [HNO.out]; rfl,HOLD.out⟩
    ·by_cases r0:gr.size < 1
     ·have zr0:(gr.size:Int) < 1:=by omega
      have HNO:=HBAD.out (by rw [HSP.out]; simp [r0])
      clear r0
      go_wp2_with fail
      go_ret
      exact ⟨by rw [HNO.out]; rfl,HOLD.out⟩
     ·have zr0:¬ (gr.size:Int) < 1:=by omega
      by_cases r1:32 < gr.size
      ·have zr1:(32:Int) < (gr.size:Int):=by omega
       have HNO:=HBAD.out (by rw [HSP.out]; simp [show ¬ gr.size ≤ 32 from by omega])
       clear r0 r1
       go_wp2_with fail
       go_ret
       exact ⟨by rw [HNO.out]; rfl,HOLD.out⟩
      ·have zr1:¬ (32:Int) < (gr.size:Int):=by omega
       have hs2:okS L (T.take i) (shwAt T i) = !seesS (T.take i) gr gf:=by rw [HSP.out]; simp [r0,show gr.size ≤ 32 from by omega]
       have HS2:=Lib.hid hs2
       clear hs2 r0 r1
       go_wp2_with fail
       go_loopw [59] (fun v59 wq => ∃ q:Nat,q ≤ i ∧ v59=.int .i64 (q:Int) ∧ (∀ j,j < q → shwAt T j ≠ ⟨gf,gr⟩) ∧ Below w1.heap.size w1 wq) (fun v59 _ => i - (intOf v59).toNat)
       case atStart => exact ⟨0,by omega,rfl,fun j hj => absurd hj (Nat.not_lt_zero _),Below.refl _ _⟩
       case round =>
        obtain ⟨q,hq,rfl,hnq,hbq⟩:=hrel
        rename World => wq
        have HNQ:=Lib.hid hnq
        have hbq2:=HOLD.out.trans (hbq.mono HOLD.out.size)
        have HBQ:=Lib.hid hbq2
        have HBK4:=Lib.hid (HBK3.out.below' hbq HBK3.out.lt)
        clear hnq d0' d1'
        by_cases hlq:q < i
        ·obtain ⟨y0,y1⟩:=HCC.out.2 q (by omega)
         obtain ⟨s,hs⟩:∃ s,shwAt T q=s:=⟨_,rfl⟩
         rw [hs] at y0 y1
         obtain ⟨sf,sr⟩:=s
         have e0:=(hbq2.cell (p:=⟨b,off+q*2,none⟩) HCC.out.1).trans y0
         have e1:=(hbq2.cell (p:=⟨b,off+q*2+1,none⟩) HCC.out.1).trans y1
         have zq:(q:Int) < (i:Int):=by omega
         have zq0:(0:Int) ≤ (q:Int):=by omega
         have hp8:=(HP7.out.below' hbq HP7.out.lt).alloc (.cells #[.string sf,.string sr] 49)
         have hp10:=Blk.new wq 49 #[.string sf,.string sr]
         have HBA:=Lib.hid (hbq.alloc hbq.size (.cells #[.string sf,.string sr] 49))
         have HSS:=Lib.hid hs
         clear y0 y1 hs hbq hbq2
         go_upto_region 11 with fail
         generalize wq.alloc (.cells #[.string sf,.string sr] 49)=wz at hp8 hp10 HBA ⊢
         obtain ⟨p10,hq10⟩:∃ p,wq.heap.size=p:=⟨_,rfl⟩
         rw [hq10] at hp10
         try rw [hq10]
         clear hq10 e0 e1
         have d0:=(hp8.cell 0).trans (show _=some (Value.string gf) from rfl)
         have d1:=(hp8.cell 1).trans (show _=some (Value.string gr) from rfl)
         have g0:=(hp10.cell 0).trans (show _=some (Value.string sf) from rfl)
         have g1:=(hp10.cell 1).trans (show _=some (Value.string sr) from rfl)
         clear hp8 hp10
         have ne:((sf.toList == gf.toList) && (sr.toList == gr.toList))=false → shwAt T q ≠ ⟨gf,gr⟩:=fun h e => by
          rw [HSS.out] at e
          injection e with a1 a2
          subst a1 a2
          simp at h
         have yes:(sf.toList == gf.toList)=true → (sr.toList == gr.toList)=true → okS L (T.take i) (shwAt T i)=false:=fun h1 h2 => by
          have hsees:seesS (T.take i) gr gf=true:=(sees_any (s:=⟨gf,gr⟩)).2 ⟨q,by rw [List.length_take]; have:=HN.out; omega,by rw [shwAt_take hlq,HSS.out,bytes_of h1,bytes_of h2]⟩
          rw [HS2.out,hsees]; rfl
         have NE:=Lib.hid ne
         have YES:=Lib.hid yes
         clear ne yes
         cases j0:(sf.toList == gf.toList) <;> cases j1:(sr.toList == gr.toList)
         ·rw [j0,j1] at NE
          go_wp2_with fail
          go_roundw
          case measure => simp [intOf]; omega
          case rel => exact ⟨q+1,by omega,by go_num,all_next (P:=fun j => shwAt T j ≠ ⟨gf,gr⟩) HNQ.out (NE.out rfl),HBA.out⟩
         ·rw [j0,j1] at NE
          go_wp2_with fail
          go_roundw
          case measure => simp [intOf]; omega
          case rel => exact ⟨q+1,by omega,by go_num,all_next (P:=fun j => shwAt T j ≠ ⟨gf,gr⟩) HNQ.out (NE.out rfl),HBA.out⟩
         ·rw [j0,j1] at NE
          go_wp2_with fail
          go_roundw
          case measure => simp [intOf]; omega
          case rel => exact ⟨q+1,by omega,by go_num,all_next (P:=fun j => shwAt T j ≠ ⟨gf,gr⟩) HNQ.out (NE.out rfl),HBA.out⟩
         ·have HNO:=HBAD.out (YES.out j0 j1)
          go_wp2_with fail
          go_ret
          exact ⟨by rw [HNO.out]; rfl,HOLD.out.trans (HBA.out.mono HOLD.out.size)⟩
        ·have zq:¬ (q:Int) < (i:Int):=by omega
         have hok:okS L (T.take i) (shwAt T i)=true:=by
          rw [HS2.out]
          cases h:seesS (T.take i) gr gf with
          | false => rfl
          | true =>
           obtain ⟨j,hj,e⟩:=(sees_any (s:=⟨gf,gr⟩)).1 h
           rw [List.length_take] at hj
           rw [shwAt_take (by omega)] at e
           exact absurd e (HNQ.out j (by omega))
         have HOK:=Lib.hid hok
         clear hok hbq hbq2
         go_wp2_with fail
         go_roundw
         case measure => simp [intOf]; omega
         case rel => exact ⟨i+1,by omega,by go_num,all_next (P:=fun j => okS L (T.take j) (shwAt T j)=true) HE.out HOK.out,HBQ.out,HBK4.out⟩
  ·have zi:¬ (i:Int) < (n:Int):=by omega
   have hall:shwF L T=true:=shwF_yes (fun j hj => HE.out j (by have:=HN.out; omega))
   have HALL:=Lib.hid hall
   clear hall
   go_wp2_with fail
   go_ret
   exact ⟨by rw [HALL.out]; rfl,HBR.out⟩
set_option maxRecDepth 100000 in
set_option maxHeartbeats 1000000 in
theorem r_option (f : Fld) (vo : Value) (s : ByteArray) (w : World) (ho : TxsAt w (· < w.heap.size) vo f.opts) (hl : f.opts.length ≤ 1000000) :
  Calls Tryz.prog 81 #[.agg #[.string f.name,.int .i64 f.kind,.bool f.need,.int .i64 f.least,.int .i64 f.most,vo],.string s] w (BoolBel (hasT f.opts s) w):=by
 obtain ⟨A,n,c,rfl,hn,hnc,hc⟩:=ho
 obtain ⟨nm,kd,nd,le,mo,op⟩:=f
 have hn1:n ≤ 1000000:=by omega
 have hb0:=below_al' w (.cells #[.string nm,.int .i64 kd,.bool nd,.int .i64 le,.int .i64 mo,.slice A n c] 63)
 have HC:=Lib.hid hc
 have HN:=Lib.hid hn
 have HB:=Lib.hid hb0
 clear hc hn hl hb0
 go_enter Tryz.func81,Tryz.ntmps81
 go_wp2_with fail
 go_loopw [10] (fun v10 wr => ∃ k:Nat,k ≤ n ∧ v10=.int .i64 (k:Int) ∧ (∀ j,j < k → op.getD j ⟨#[]⟩ ≠ s) ∧ Below w.heap.size w wr) (fun v10 _ => n - (intOf v10).toNat)
 case atStart => exact ⟨0,by omega,rfl,fun j hj => absurd hj (Nat.not_lt_zero _),HB.out⟩
 case round =>
  obtain ⟨k,hk,rfl,hne,hbr⟩:=hrel
  rename World => wr
  have HNE:=Lib.hid hne
  have HBR:=Lib.hid hbr
  clear hne hbr
  by_cases hlt:k < n
  ·obtain ⟨b,off,rfl,hS,hcc⟩:=HC.out (by omega)
   have x0:=hcc k hlt
   have hm:op.getD k ⟨#[]⟩ ∈ op:=txt_mem (by have:=HN.out; omega)
   obtain ⟨x,hx⟩:∃ x,op.getD k ⟨#[]⟩=x:=⟨_,rfl⟩
   rw [hx] at x0 hm
   have e0:=(HBR.out.cell (p:=⟨b,off+k,none⟩) hS).trans x0
   have HX:=Lib.hid hx
   have HM:=Lib.hid hm
   have zi:(k:Int) < (n:Int):=by omega
   have z0:(0:Int) ≤ (k:Int):=by omega
   clear hx hcc hm x0
   cases e1:(x.toList == s.toList)
   ·have hs:x ≠ s:=fun h => by rw [h] at e1; simp at e1
    have HS:=Lib.hid hs
    clear hs
    go_wp2_with fail
    go_roundw
    case measure => simp [intOf]; omega
    case rel => exact ⟨k+1,by omega,by go_num,fun j hj => by
     rcases Nat.lt_or_ge j k with h | h
     ·exact HNE.out j h
     ·rw [show j=k by omega,HX.out]; exact HS.out,HBR.out⟩
   ·have hs:hasT op s=true:=(hasT_iff _ _).2 ((bytes_of e1).symm ▸ HM.out)
    have HS:=Lib.hid hs
    clear hs
    go_wp2_with fail
    go_ret
    exact ⟨by rw [HS.out]; rfl,HBR.out⟩
  ·have zi:¬ (k:Int) < (n:Int):=by omega
   have he:hasT op s=false:=by
    cases h:hasT op s with
    | false => rfl
    | true => exact absurd ((hasT_iff _ _).1 h) (txt_none (fun q hq => HNE.out q (by have:=HN.out; omega)))
   have HE:=Lib.hid he
   clear he
   go_wp2_with fail
   go_ret
   exact ⟨by rw [HE.out]; rfl,HBR.out⟩
set_option maxRecDepth 100000 in
set_option maxHeartbeats 2000000 in
theorem r_fits (f : Fld) (a : Ans) (vo : Value) (w : World) (ho : TxsAt w (· < w.heap.size) vo f.opts) (hl : f.opts.length ≤ 1000000) (ha : a.text.size ≤ 1000000) :
  Calls Tryz.prog 60 #[.agg #[.string f.name,.int .i64 f.kind,.bool f.need,.int .i64 f.least,.int .i64 f.most,vo],.agg #[.string a.field,.string a.text,.int .i64 a.num]] w (BoolBel (fitsF f a) w):=by
 obtain ⟨Ao,no,co,rfl,-⟩:=id ho
 have hb:Below w.heap.size w ((w.alloc (.cells #[.string f.name,.int .i64 f.kind,.bool f.need,.int .i64 f.least,.int .i64 f.most,.slice Ao no co] 63)).alloc (.cells #[.string a.field,.string a.text,.int .i64 a.num] 47)):=((Below.refl _ w).alloc (Nat.le_refl _) _).alloc (by simp) _
 have hct:=r_option f (.slice Ao no co) a.text _ ((ho.keep fun b hB => hb.block b hB).mono fun b hB => Nat.lt_of_lt_of_le hB hb.size) hl
 obtain ⟨nm,kd,nd,le,mo,op⟩:=f
 obtain ⟨fl,tx,nu⟩:=a
 have HB:=Lib.hid hb
 have HCT:=Lib.hid hct
 clear hb hct ho
 have HA:=Lib.hid ha
 by_cases k1:kd=1
 ·subst k1
  by_cases n0:nu=0
  ·subst n0
   by_cases a1:le ≤ (tx.size:Int) <;> by_cases a2:(tx.size:Int) ≤ mo
   all_goals
    have e:fitsF ⟨nm,1,nd,le,mo,op⟩ ⟨fl,tx,0⟩=(decide (le ≤ (tx.size:Int)) && decide ((tx.size:Int) ≤ mo)):=by simp [fitsF,inF]
    rw [e]
    clear e
    go_enter Tryz.func60,Tryz.ntmps60
    go_wp2_with fail
    go_ret
    exact ⟨by simp [a1,a2],HB.out⟩
  ·have e:fitsF ⟨nm,1,nd,le,mo,op⟩ ⟨fl,tx,nu⟩=false:=by simp [fitsF,n0]
   have hne:(nu == (0:Int))=false:=by simpa using n0
   rw [e]
   go_enter Tryz.func60,Tryz.ntmps60
   go_wp2_with fail
   go_ret
   exact ⟨rfl,HB.out⟩
 ·have hk1:(kd == (1:Int))=false:=by simpa using k1
  by_cases k4:kd=4
  ·subst k4
   by_cases n0:nu=0
   ·subst n0
    have e:fitsF ⟨nm,4,nd,le,mo,op⟩ ⟨fl,tx,0⟩=hasT op tx:=by simp [fitsF]
    rw [e]
    go_enter Tryz.func60,Tryz.ntmps60
    go_wp2_with fail
    refine (HCT.out).mono ?_
    rintro e w' ⟨rfl,hb'⟩
    have HB2:=Lib.hid (HB.out.trans (hb'.mono HB.out.size))
    clear hb'
    go_wp2_with fail
    go_ret
    exact ⟨rfl,HB2.out⟩
   ·have e:fitsF ⟨nm,4,nd,le,mo,op⟩ ⟨fl,tx,nu⟩=false:=by simp [fitsF,n0]
    have hne:(nu == (0:Int))=false:=by simpa using n0
    rw [e]
    go_enter Tryz.func60,Tryz.ntmps60
    go_wp2_with fail
    go_ret
    exact ⟨rfl,HB.out⟩
  ·have hk4:(kd == (4:Int))=false:=by simpa using k4
   cases t0:(tx.toList == [])
   ·have hne:tx.size ≠ 0:=fun h => by
     have h2:tx=⟨#[]⟩:=by
      obtain ⟨d⟩:=tx
      exact congrArg ByteArray.mk (Array.eq_empty_of_size_eq_zero h)
     rw [h2] at t0; simp at t0
    have e:fitsF ⟨nm,kd,nd,le,mo,op⟩ ⟨fl,tx,nu⟩=false:=by simp [fitsF,k1,k4,hne]
    rw [e]
    clear hne
    go_enter Tryz.func60,Tryz.ntmps60
    go_wp2_with fail
    go_ret
    exact ⟨rfl,HB.out⟩
   ·have heq:tx=⟨#[]⟩:=by
     have h:(tx.toList == (⟨#[]⟩:ByteArray).toList)=true:=by rw [show (⟨#[]⟩:ByteArray).toList = [] from by simp]; exact t0
     exact (bytes_of h).symm
    have e:fitsF ⟨nm,kd,nd,le,mo,op⟩ ⟨fl,tx,nu⟩=(decide (le ≤ nu) && decide (nu ≤ mo)):=by simp [fitsF,inF,k1,k4,show tx.size=0 from by rw [heq]; rfl]
    clear heq
    rw [e]
    clear e
    by_cases a1:le ≤ nu <;> by_cases a2:nu ≤ mo
    all_goals
     go_enter Tryz.func60,Tryz.ntmps60
     go_wp2_with fail
     go_ret
     exact ⟨by simp [a1,a2],HB.out⟩
end Go.Proofs.YtfinaekeoeeogaaGreatDoor

/- Contracts: are shows right ones for a form? -/
import Derived.Test.YtgdngfdeeadlnaaGreatDoorZ05
import Derived.Test.YtgdngfdeeadlnaaGreatDoorZ29
import Derived.Test.YtgdngfdeeadlnaaGreatDoorZ33
import Derived.Test.YtgdngfdeeadlnaaGreatDoorZ04
import Derived.BigRegion
import Derived.Deep.CutRange
import Derived.Deep.CutBlock
set_option linter.unusedVariables false
set_option linter.unusedSimpArgs false
namespace Go.Proofs.YtgdngfdeeadlnaaGreatDoor
open Go.RowKit Num
def eqBy (a b : ByteArray) : Bool := a.toList == b.toList
def okS (L : List Fld) (Q : List Shw) (s : Shw) : Bool := !(s.role.toList == []) && decide (s.role.size ≤ 32) && !seesS Q s.role s.field && ((fstF L s.field).isSome || eqBy s.field respB || eqBy s.field deptB || eqBy s.field dayB)
def shwF (L : List Fld) (A : List Shw) : Bool := (List.range A.length).all fun i => okS L (A.take i) (shwAt A i)
theorem shwF_yes {L : List Fld} {A : List Shw} (h : ∀ i,i < A.length → okS L (A.take i) (shwAt A i) = true) : shwF L A = true := by
 unfold shwF
 rw [List.all_eq_true]
 exact fun i hi => h i (List.mem_range.1 hi)
theorem shwF_no {L : List Fld} {A : List Shw} {i : Nat} (hi : i < A.length) (h : okS L (A.take i) (shwAt A i) = false) : shwF L A = false := by
 cases e:shwF L A with
 | false => rfl
 | true =>
  unfold shwF at e
  rw [List.all_eq_true] at e
  rw [e i (List.mem_range.2 hi)] at h
  cases h
theorem all_next {P : Nat → Prop} {i : Nat} (h : ∀ j,j < i → P j) (h1 : P i) : ∀ j,j < i + 1 → P j := fun j hj => by
 rcases Nat.lt_or_ge j i with h2 | h2
 ·exact h j h2
 ·rw [show j=i by omega]; exact h1
theorem ShwsAt.take {w : World} {S : Nat → Prop} {A : Option Addr} {n c : Nat} {L : List Shw} (h : ShwsAt w S (.slice A n c) L) (i : Nat) (hi : i ≤ n) : ShwsAt w S (.slice A i c) (L.take i) := by
 obtain ⟨A',n',c',he,hn,hnc,hc⟩:=h
 injection he with e1 e2 e3
 subst e1 e2 e3
 refine ⟨A,i,c,rfl,by rw [List.length_take]; omega,by omega,fun h0 => ?_⟩
 obtain ⟨b,off,hA,hS,hk⟩:=hc (by omega)
 refine ⟨b,off,hA,hS,fun k hk2 => ?_⟩
 have e:shwAt (L.take i) k=shwAt L k:=by
  unfold shwAt
  rw [List.getD_eq_getElem?_getD,List.getD_eq_getElem?_getD,List.getElem?_take,if_pos hk2]
 rw [e]
 exact hk k (by omega)
set_option maxRecDepth 100000 in
set_option maxHeartbeats 16000000 in
theorem s_shows (v : Value) (T : List Shw) (title : ByteArray) (vf : Value) (L : List Fld) (w : World) (hv : ShwsAt w (· < w.heap.size) v T) (hT : T.length ≤ 1000000) (hsz : ∀ k,k < T.length → (shwAt T k).role.size ≤ 1000000) (hF : FldsAt w (· < w.heap.size) vf L) (hl : L.length ≤ 1000000) :
  Calls Tryz.prog 55 #[.agg #[.string title,vf],v] w (BoolBel (shwF L T) w):=by
 obtain ⟨A,n,c,rfl,hn,hnc,hA⟩:=id hv
 obtain ⟨Af,nf,cf,rfl,-⟩:=id hF
 have hn1:n ≤ 1000000:=by omega
 have hb0:=below_al' w (.cells #[.string title,.slice Af nf cf] 37)
 have hbf:=Blk.new w 37 #[.string title,.slice Af nf cf]
 have up:∀ W,Below w.heap.size w W → ShwsAt W (· < W.heap.size) (.slice A n c) T ∧ FldsAt W (· < W.heap.size) (.slice Af nf cf) L:=fun W hW => ⟨(hv.keep fun b hB => hW.block b hB).mono fun b hB => Nat.lt_of_lt_of_le hB hW.size,(hF.keep fun b hB => hW.block b hB).mono fun b hB => Nat.lt_of_lt_of_le hB hW.size⟩
 obtain ⟨w0,hw0⟩:∃ w0,w.alloc (.cells #[.string title,.slice Af nf cf] 37)=w0:=⟨_,rfl⟩
 have hs0:w0.heap.size=w.heap.size+1:=by rw [← hw0]; simp
 have hbw0:Blk w0 w.heap.size 37 #[.string title,.slice Af nf cf]:=by rw [← hw0]; exact hbf
 rw [hw0] at hb0
 have UP:=Lib.hid up
 have HA:=Lib.hid hA
 have HN:=Lib.hid hn
 have HSZ:=Lib.hid hsz
 have HB0:=Lib.hid hb0
 have HBF:=Lib.hid hbw0
 clear up hA hn hsz hb0 hbf hbw0 hv hF
 go_enter Tryz.func55,Tryz.ntmps55
 go_wp2_with fail
 try rw [hw0]
 go_loopw [11] (fun v11 wr => ∃ i:Nat,i ≤ n ∧ v11=.int .i64 (i:Int) ∧ (∀ j,j < i → okS L (T.take j) (shwAt T j)=true) ∧ Below w.heap.size w wr ∧ Blk wr w.heap.size 37 #[.string title,.slice Af nf cf]) (fun v11 _ => n - (intOf v11).toNat)
 case atStart => exact ⟨0,by omega,rfl,fun j hj => absurd hj (Nat.not_lt_zero _),HB0.out,HBF.out⟩
 case round =>
  obtain ⟨i,hi,rfl,hne,hbr,hbk⟩:=hrel
  rename World => wr
  have HE:=Lib.hid hne
  have HBR:=Lib.hid hbr
  clear hne
  by_cases hlt:i < n
  ·obtain ⟨b,off,rfl,hS,hcc⟩:=HA.out (by omega)
   obtain ⟨x0,x1⟩:=hcc i hlt
   have hrs:=HSZ.out i (by have:=HN.out; omega)
   obtain ⟨g,hg⟩:∃ g,shwAt T i=g:=⟨_,rfl⟩
   rw [hg] at x0 x1 hrs
   obtain ⟨gf,gr⟩:=g
   have e0:=(HBR.out.cell (p:=⟨b,off+i*2,none⟩) hS).trans x0
   have e1:=(HBR.out.cell (p:=⟨b,off+i*2+1,none⟩) hS).trans x1
   have zi:(i:Int) < (n:Int):=by omega
   have z0:(0:Int) ≤ (i:Int):=by omega
   have hbv:=hbr.alloc hbr.size (.cells #[.string gf,.string gr] 73)
   have hbk2:=hbk.alloc (.cells #[.string gf,.string gr] 73)
   have hp6:=Blk.new wr 73 #[.string gf,.string gr]
   clear x0 x1 hcc hbr hbk
   go_upto_region 4 with fail
   generalize wr.alloc (.cells #[.string gf,.string gr] 73)=wv at hbv hbk2 hp6 ⊢
   obtain ⟨p6,hq6⟩:∃ p,wr.heap.size=p:=⟨_,rfl⟩
   rw [hq6] at hp6
   try rw [hq6]
   clear hq6 e0 e1
   have c0:=(hbk2.cell 0).trans (show _=some (Value.string title) from rfl)
   have c1:=(hbk2.cell 1).trans (show _=some (Value.slice Af nf cf) from rfl)
   have d0:=(hp6.cell 0).trans (show _=some (Value.string gf) from rfl)
   have hfn:=f_Find title gf (.slice Af nf cf) L (· < wv.heap.size) wv (UP.out _ hbv).2 (fun b h => h) hl
   have HFN:=Lib.hid hfn
   have KV:=Lib.hid (And.intro hbv (And.intro hbk2 hp6))
   clear hfn hbv hbk2 hp6
   go_wp2_with fail
   refine HFN.out.mono ?_
   rintro e w1 ⟨rfl,hb1⟩
   have hold:=KV.out.1.trans (hb1.mono KV.out.1.size)
   have hbk3:=KV.out.2.1.below' hb1 KV.out.2.1.lt
   have hp7:=KV.out.2.2.below' hb1 KV.out.2.2.lt
   have lim:∀ W,Below w1.heap.size w1 W → W.cell? ⟨p6,0,none⟩=some (.string gf) ∧ W.cell? ⟨p6,1,none⟩=some (.string gr):=fun W hW => ⟨((hp7.below' hW hp7.lt).cell 0).trans rfl,((hp7.below' hW hp7.lt).cell 1).trans rfl⟩
   have cts:∀ W,Below w1.heap.size w1 W → Calls Tryz.prog 37 #[.slice (some ⟨b,off,none⟩) i c,.agg #[.string gf,.string gr]] W (CtsS ⟨gf,gr⟩ (T.take i) W):=fun W hW => q_ContainsS _ ⟨gf,gr⟩ (T.take i) W ((UP.out _ (hold.trans (hW.mono hold.size))).1.take i hi) (by rw [List.length_take]; omega)
   have LIM:=Lib.hid lim
   have CTS:=Lib.hid cts
   have HOLD:=Lib.hid (show Below w.heap.size w w1 from hold)
   have K_0:Hid (Below w1.heap.size w1 w1.drew):=Lib.hid (Below.refl _ _).drew
   have HBK3:=Lib.hid hbk3
   clear lim cts hold hbk3 hp7 hb1 KV c0 c1 d0 HFN
   obtain ⟨ok,hok⟩:∃ b,(fstF L gf).isSome=b:=⟨_,rfl⟩
   obtain ⟨kx,hkx⟩:∃ k,(((fstF L gf).getD 0:Nat):Int)=k:=⟨_,rfl⟩
   have hspec:okS L (T.take i) (shwAt T i)=(!(gr.toList == []) && decide (gr.size ≤ 32) && !seesS (T.take i) gr gf && (ok || eqBy gf respB || eqBy gf deptB || eqBy gf dayB)):=by rw [hg]; unfold okS; rw [hok]
   rw [hok,hkx]
   unfold eqBy at hspec
   rw [show respB.toList = [114,101,115,112,111,110,100,101,110,116] from by rw [ByteArray.toList_eq]; rfl,show deptB.toList = [100,101,112,97,114,116,109,101,110,116] from by rw [ByteArray.toList_eq]; rfl,show dayB.toList = [100,97,121] from by rw [ByteArray.toList_eq]; rfl] at hspec
   have zc:i ≤ c:=by omega
   clear hok hkx hg
   go_upto_region 5 with fail
   cases r0:(gr.toList == [])
   ·by_cases r1:gr.size ≤ 32
    ·have hr1:decide (gr.size ≤ 32)=true:=by simpa using r1
     have zr:¬ (32:Int) < (gr.size:Int):=by omega
     cases dup:seesS (T.take i) gr gf
     ·have HDUP:=Lib.hid dup
      cases ok
      ·cases e1:(gf.toList == [114,101,115,112,111,110,100,101,110,116])
       ·have n1:(gf.toList != [114,101,115,112,111,110,100,101,110,116])=true:=by simpa [bne] using e1
        cases e2:(gf.toList == [100,101,112,97,114,116,109,101,110,116])
        ·have n2:(gf.toList != [100,101,112,97,114,116,109,101,110,116])=true:=by simpa [bne] using e2
         cases e3:(gf.toList == [100,97,121])
         ·have n3:(gf.toList != [100,97,121])=true:=by simpa [bne] using e3
          have HOK:Hid (okS L (T.take i) (shwAt T i)=false):=Lib.hid (by rw [hspec,r0,hr1,dup,e1,e2,e3]; rfl)
          clear hspec
          refine wp_region_held_drew (S:=fun W => W.cell? ⟨p6,0,none⟩=some (.string gf) ∧ W.cell? ⟨p6,1,none⟩=some (.string gr)) (by kernel_rfl) (LIM.out _ K_0.out) (fun hHeld => ?_)
          refine t1 0 rfl ?_
          try simp only [pt]
          refine t1 1 rfl ?_
          try simp only [pt]
          refine t1 2 rfl ?_
          try simp only [pt]
          refine t1 3 rfl ?_
          try simp only [pt]
          refine t1 4 rfl ?_
          try simp only [pt]
          refine t1 5 rfl ?_
          try simp only [pt]
          refine t1 6 rfl ?_
          try simp only [pt]
          refine t1 7 rfl ?_
          try simp only [pt]
          refine t1 8 rfl ?_
          try simp only [pt]
          refine t1 9 rfl ?_
          try simp only [pt]
          refine t1 10 rfl ?_
          try simp only [pt]
          refine t1 11 rfl ?_
          try simp only [pt]
          refine t1 12 rfl ?_
          try simp only [pt]
          refine t1 13 rfl ?_
          try simp only [pt]
          refine wpAnyH_ready (rs:=[14]) (by kernel_rfl) (by simp) ?_
          refine AllReadyH.cons rfl (fun K hK => ?_) AllReadyH.nil
          go_simp
          refine (CTS.out _ K_0.out).mono ?_
          rintro e w2 ⟨bc,rfl,hbc,hb2⟩
          obtain rfl:=(sees_bool hbc).trans HDUP.out
          have K_1:=Lib.hid (K_0.out.trans (hb2.mono K_0.out.size))
          clear hb2 hbc
          refine hK.out _ _ (LIM.out _ K_1.out) (fun hHeld => ?_)
          clear hK K
          try simp only [pt]
          refine t1 15 rfl ?_
          try simp only [pt]
          refine t1 16 rfl ?_
          try simp only [pt]
          refine t1 17 rfl ?_
          try simp only [pt]
          refine t1 18 rfl ?_
          try simp only [pt]
          refine t1 19 rfl ?_
          try simp only [pt]
          refine t1 20 rfl ?_
          try simp only [pt]
          refine t1 21 rfl ?_
          try simp only [pt]
          refine t1 22 rfl ?_
          try simp only [pt]
          refine t1 23 rfl ?_
          try simp only [pt]
          refine t1 24 rfl ?_
          try simp only [pt]
          refine t1 25 rfl ?_
          try simp only [pt]
          refine t1 26 rfl ?_
          try simp only [pt]
          refine t1 27 rfl ?_
          try simp only [pt]
          refine t1 28 rfl ?_
          try simp only [pt]
          refine t1 29 rfl ?_
          try simp only [pt]
          refine t1 30 rfl ?_
          try simp only [pt]
          refine t1 31 rfl ?_
          try simp only [pt]
          refine t1 32 rfl ?_
          try simp only [pt]
          refine t1 33 rfl ?_
          try simp only [pt]
          refine t1 34 rfl ?_
          try simp only [pt]
          refine wpAnyH_done (by kernel_rfl) ?_ _
          have hno:shwF L T=false:=shwF_no (by have:=HN.out; omega) HOK.out
          have HNO:=Lib.hid hno
          clear hno
          go_wp2_with fail
          go_ret
          exact ⟨by rw [HNO.out]; rfl,HOLD.out.trans (K_1.out.mono HOLD.out.size)⟩
         ·have n3:(gf.toList != [100,97,121])=false:=by simpa [bne] using e3
          have HOK:Hid (okS L (T.take i) (shwAt T i)=true):=Lib.hid (by rw [hspec,r0,hr1,dup,e1,e2,e3]; rfl)
          clear hspec
          refine wp_region_held_drew (S:=fun W => W.cell? ⟨p6,0,none⟩=some (.string gf) ∧ W.cell? ⟨p6,1,none⟩=some (.string gr)) (by kernel_rfl) (LIM.out _ K_0.out) (fun hHeld => ?_)
          refine t1 0 rfl ?_
          try simp only [pt]
          refine t1 1 rfl ?_
          try simp only [pt]
          refine t1 2 rfl ?_
          try simp only [pt]
          refine t1 3 rfl ?_
          try simp only [pt]
          refine t1 4 rfl ?_
          try simp only [pt]
          refine t1 5 rfl ?_
          try simp only [pt]
          refine t1 6 rfl ?_
          try simp only [pt]
          refine t1 7 rfl ?_
          try simp only [pt]
          refine t1 8 rfl ?_
          try simp only [pt]
          refine t1 9 rfl ?_
          try simp only [pt]
          refine t1 10 rfl ?_
          try simp only [pt]
          refine t1 11 rfl ?_
          try simp only [pt]
          refine t1 12 rfl ?_
          try simp only [pt]
          refine t1 13 rfl ?_
          try simp only [pt]
          refine wpAnyH_ready (rs:=[14]) (by kernel_rfl) (by simp) ?_
          refine AllReadyH.cons rfl (fun K hK => ?_) AllReadyH.nil
          go_simp
          refine (CTS.out _ K_0.out).mono ?_
          rintro e w2 ⟨bc,rfl,hbc,hb2⟩
          obtain rfl:=(sees_bool hbc).trans HDUP.out
          have K_1:=Lib.hid (K_0.out.trans (hb2.mono K_0.out.size))
          clear hb2 hbc
          refine hK.out _ _ (LIM.out _ K_1.out) (fun hHeld => ?_)
          clear hK K
          try simp only [pt]
          refine t1 15 rfl ?_
          try simp only [pt]
          refine t1 16 rfl ?_
          try simp only [pt]
          refine t1 17 rfl ?_
          try simp only [pt]
          refine t1 18 rfl ?_
          try simp only [pt]
          refine t1 19 rfl ?_
          try simp only [pt]
          refine t1 20 rfl ?_
          try simp only [pt]
          refine t1 21 rfl ?_
          try simp only [pt]
          refine t1 22 rfl ?_
          try simp only [pt]
          refine t1 23 rfl ?_
          try simp only [pt]
          refine t1 24 rfl ?_
          try simp only [pt]
          refine t1 25 rfl ?_
          try simp only [pt]
          refine t1 26 rfl ?_
          try simp only [pt]
          refine t1 27 rfl ?_
          try simp only [pt]
          refine t1 28 rfl ?_
          try simp only [pt]
          refine t1 29 rfl ?_
          try simp only [pt]
          refine t1 30 rfl ?_
          try simp only [pt]
          refine t1 31 rfl ?_
          try simp only [pt]
          refine t1 32 rfl ?_
          try simp only [pt]
          refine t1 33 rfl ?_
          try simp only [pt]
          refine t1 34 rfl ?_
          try simp only [pt]
          refine wpAnyH_done (by kernel_rfl) ?_ _
          go_wp2_with fail
          go_roundw
          case measure => simp [intOf]; omega
          case rel => exact ⟨i+1,by omega,by go_num,all_next (P:=fun j => okS L (T.take j) (shwAt T j)=true) HE.out HOK.out,HOLD.out.trans (K_1.out.mono HOLD.out.size),HBK3.out.below' K_1.out HBK3.out.lt⟩
        ·have n2:(gf.toList != [100,101,112,97,114,116,109,101,110,116])=false:=by simpa [bne] using e2
         have HOK:Hid (okS L (T.take i) (shwAt T i)=true):=Lib.hid (by rw [hspec,r0,hr1,dup,e1,e2]; rfl)
         clear hspec
         refine wp_region_held_drew (S:=fun W => W.cell? ⟨p6,0,none⟩=some (.string gf) ∧ W.cell? ⟨p6,1,none⟩=some (.string gr)) (by kernel_rfl) (LIM.out _ K_0.out) (fun hHeld => ?_)
         refine t1 0 rfl ?_
         try simp only [pt]
         refine t1 1 rfl ?_
         try simp only [pt]
         refine t1 2 rfl ?_
         try simp only [pt]
         refine t1 3 rfl ?_
         try simp only [pt]
         refine t1 4 rfl ?_
         try simp only [pt]
         refine t1 5 rfl ?_
         try simp only [pt]
         refine t1 6 rfl ?_
         try simp only [pt]
         refine t1 7 rfl ?_
         try simp only [pt]
         refine t1 8 rfl ?_
         try simp only [pt]
         refine t1 9 rfl ?_
         try simp only [pt]
         refine t1 10 rfl ?_
         try simp only [pt]
         refine t1 11 rfl ?_
         try simp only [pt]
         refine t1 12 rfl ?_
         try simp only [pt]
         refine t1 13 rfl ?_
         try simp only [pt]
         refine wpAnyH_ready (rs:=[14]) (by kernel_rfl) (by simp) ?_
         refine AllReadyH.cons rfl (fun K hK => ?_) AllReadyH.nil
         go_simp
         refine (CTS.out _ K_0.out).mono ?_
         rintro e w2 ⟨bc,rfl,hbc,hb2⟩
         obtain rfl:=(sees_bool hbc).trans HDUP.out
         have K_1:=Lib.hid (K_0.out.trans (hb2.mono K_0.out.size))
         clear hb2 hbc
         refine hK.out _ _ (LIM.out _ K_1.out) (fun hHeld => ?_)
         clear hK K
         try simp only [pt]
         refine t1 15 rfl ?_
         try simp only [pt]
         refine t1 16 rfl ?_
         try simp only [pt]
         refine t1 17 rfl ?_
         try simp only [pt]
         refine t1 18 rfl ?_
         try simp only [pt]
         refine t1 19 rfl ?_
         try simp only [pt]
         refine t1 20 rfl ?_
         try simp only [pt]
         refine t1 21 rfl ?_
         try simp only [pt]
         refine t1 22 rfl ?_
         try simp only [pt]
         refine t1 23 rfl ?_
         try simp only [pt]
         refine t1 24 rfl ?_
         try simp only [pt]
         refine t1 25 rfl ?_
         try simp only [pt]
         refine t1 26 rfl ?_
         try simp only [pt]
         refine t1 27 rfl ?_
         try simp only [pt]
         refine t1 28 rfl ?_
         try simp only [pt]
         refine t1 29 rfl ?_
         try simp only [pt]
         refine t0 30 rfl ?_
         try simp only [pt]
         refine t0 31 rfl ?_
         try simp only [pt]
         refine t0 32 rfl ?_
         try simp only [pt]
         refine t1 33 rfl ?_
         try simp only [pt]
         refine t1 34 rfl ?_
         try simp only [pt]
         refine wpAnyH_done (by kernel_rfl) ?_ _
         go_wp2_with fail
         go_roundw
         case measure => simp [intOf]; omega
         case rel => exact ⟨i+1,by omega,by go_num,all_next (P:=fun j => okS L (T.take j) (shwAt T j)=true) HE.out HOK.out,HOLD.out.trans (K_1.out.mono HOLD.out.size),HBK3.out.below' K_1.out HBK3.out.lt⟩
       ·have n1:(gf.toList != [114,101,115,112,111,110,100,101,110,116])=false:=by simpa [bne] using e1
        have HOK:Hid (okS L (T.take i) (shwAt T i)=true):=Lib.hid (by rw [hspec,r0,hr1,dup,e1]; rfl)
        clear hspec
        refine wp_region_held_drew (S:=fun W => W.cell? ⟨p6,0,none⟩=some (.string gf) ∧ W.cell? ⟨p6,1,none⟩=some (.string gr)) (by kernel_rfl) (LIM.out _ K_0.out) (fun hHeld => ?_)
        refine t1 0 rfl ?_
        try simp only [pt]
        refine t1 1 rfl ?_
        try simp only [pt]
        refine t1 2 rfl ?_
        try simp only [pt]
        refine t1 3 rfl ?_
        try simp only [pt]
        refine t1 4 rfl ?_
        try simp only [pt]
        refine t1 5 rfl ?_
        try simp only [pt]
        refine t1 6 rfl ?_
        try simp only [pt]
        refine t1 7 rfl ?_
        try simp only [pt]
        refine t1 8 rfl ?_
        try simp only [pt]
        refine t1 9 rfl ?_
        try simp only [pt]
        refine t1 10 rfl ?_
        try simp only [pt]
        refine t1 11 rfl ?_
        try simp only [pt]
        refine t1 12 rfl ?_
        try simp only [pt]
        refine t1 13 rfl ?_
        try simp only [pt]
        refine wpAnyH_ready (rs:=[14]) (by kernel_rfl) (by simp) ?_
        refine AllReadyH.cons rfl (fun K hK => ?_) AllReadyH.nil
        go_simp
        refine (CTS.out _ K_0.out).mono ?_
        rintro e w2 ⟨bc,rfl,hbc,hb2⟩
        obtain rfl:=(sees_bool hbc).trans HDUP.out
        have K_1:=Lib.hid (K_0.out.trans (hb2.mono K_0.out.size))
        clear hb2 hbc
        refine hK.out _ _ (LIM.out _ K_1.out) (fun hHeld => ?_)
        clear hK K
        try simp only [pt]
        refine t1 15 rfl ?_
        try simp only [pt]
        refine t1 16 rfl ?_
        try simp only [pt]
        refine t1 17 rfl ?_
        try simp only [pt]
        refine t1 18 rfl ?_
        try simp only [pt]
        refine t1 19 rfl ?_
        try simp only [pt]
        refine t1 20 rfl ?_
        try simp only [pt]
        refine t1 21 rfl ?_
        try simp only [pt]
        refine t1 22 rfl ?_
        try simp only [pt]
        refine t1 23 rfl ?_
        try simp only [pt]
        refine t1 24 rfl ?_
        try simp only [pt]
        refine t0 25 rfl ?_
        try simp only [pt]
        refine t0 26 rfl ?_
        try simp only [pt]
        refine t0 27 rfl ?_
        try simp only [pt]
        refine t1 28 rfl ?_
        try simp only [pt]
        refine t1 29 rfl ?_
        try simp only [pt]
        refine t0 30 rfl ?_
        try simp only [pt]
        refine t0 31 rfl ?_
        try simp only [pt]
        refine t0 32 rfl ?_
        try simp only [pt]
        refine t1 33 rfl ?_
        try simp only [pt]
        refine t1 34 rfl ?_
        try simp only [pt]
        refine wpAnyH_done (by kernel_rfl) ?_ _
        go_wp2_with fail
        go_roundw
        case measure => simp [intOf]; omega
        case rel => exact ⟨i+1,by omega,by go_num,all_next (P:=fun j => okS L (T.take j) (shwAt T j)=true) HE.out HOK.out,HOLD.out.trans (K_1.out.mono HOLD.out.size),HBK3.out.below' K_1.out HBK3.out.lt⟩
      ·have HOK:Hid (okS L (T.take i) (shwAt T i)=true):=Lib.hid (by rw [hspec,r0,hr1,dup]; rfl)
       clear hspec
       refine wp_region_held_drew (S:=fun W => W.cell? ⟨p6,0,none⟩=some (.string gf) ∧ W.cell? ⟨p6,1,none⟩=some (.string gr)) (by kernel_rfl) (LIM.out _ K_0.out) (fun hHeld => ?_)
       refine t1 0 rfl ?_
       try simp only [pt]
       refine t1 1 rfl ?_
       try simp only [pt]
       refine t1 2 rfl ?_
       try simp only [pt]
       refine t1 3 rfl ?_
       try simp only [pt]
       refine t1 4 rfl ?_
       try simp only [pt]
       refine t1 5 rfl ?_
       try simp only [pt]
       refine t1 6 rfl ?_
       try simp only [pt]
       refine t1 7 rfl ?_
       try simp only [pt]
       refine t1 8 rfl ?_
       try simp only [pt]
       refine t1 9 rfl ?_
       try simp only [pt]
       refine t1 10 rfl ?_
       try simp only [pt]
       refine t1 11 rfl ?_
       try simp only [pt]
       refine t1 12 rfl ?_
       try simp only [pt]
       refine t1 13 rfl ?_
       try simp only [pt]
       refine wpAnyH_ready (rs:=[14]) (by kernel_rfl) (by simp) ?_
       refine AllReadyH.cons rfl (fun K hK => ?_) AllReadyH.nil
       go_simp
       refine (CTS.out _ K_0.out).mono ?_
       rintro e w2 ⟨bc,rfl,hbc,hb2⟩
       obtain rfl:=(sees_bool hbc).trans HDUP.out
       have K_1:=Lib.hid (K_0.out.trans (hb2.mono K_0.out.size))
       clear hb2 hbc
       refine hK.out _ _ (LIM.out _ K_1.out) (fun hHeld => ?_)
       clear hK K
       try simp only [pt]
       refine t1 15 rfl ?_
       try simp only [pt]
       refine t1 16 rfl ?_
       try simp only [pt]
       refine t1 17 rfl ?_
       try simp only [pt]
       refine t1 18 rfl ?_
       try simp only [pt]
       refine t1 19 rfl ?_
       try simp only [pt]
       refine t0 20 rfl ?_
       try simp only [pt]
       refine t0 21 rfl ?_
       try simp only [pt]
       refine t0 22 rfl ?_
       try simp only [pt]
       refine t1 23 rfl ?_
       try simp only [pt]
       refine t1 24 rfl ?_
       try simp only [pt]
       refine t0 25 rfl ?_
       try simp only [pt]
       refine t0 26 rfl ?_
       try simp only [pt]
       refine t0 27 rfl ?_
       try simp only [pt]
       refine t1 28 rfl ?_
       try simp only [pt]
       refine t1 29 rfl ?_
       try simp only [pt]
       refine t0 30 rfl ?_
       try simp only [pt]
       refine t0 31 rfl ?_
       try simp only [pt]
       refine t0 32 rfl ?_
       try simp only [pt]
       refine t1 33 rfl ?_
       try simp only [pt]
       refine t1 34 rfl ?_
       try simp only [pt]
       refine wpAnyH_done (by kernel_rfl) ?_ _
       go_wp2_with fail
       go_roundw
       case measure => simp [intOf]; omega
       case rel => exact ⟨i+1,by omega,by go_num,all_next (P:=fun j => okS L (T.take j) (shwAt T j)=true) HE.out HOK.out,HOLD.out.trans (K_1.out.mono HOLD.out.size),HBK3.out.below' K_1.out HBK3.out.lt⟩
     ·have HDUP:=Lib.hid dup
      have HOK:Hid (okS L (T.take i) (shwAt T i)=false):=Lib.hid (by rw [hspec,r0,hr1,dup]; rfl)
      clear hspec
      refine wp_region_held_drew (S:=fun W => W.cell? ⟨p6,0,none⟩=some (.string gf) ∧ W.cell? ⟨p6,1,none⟩=some (.string gr)) (by kernel_rfl) (LIM.out _ K_0.out) (fun hHeld => ?_)
      refine t1 0 rfl ?_
      try simp only [pt]
      refine t1 1 rfl ?_
      try simp only [pt]
      refine t1 2 rfl ?_
      try simp only [pt]
      refine t1 3 rfl ?_
      try simp only [pt]
      refine t1 4 rfl ?_
      try simp only [pt]
      refine t1 5 rfl ?_
      try simp only [pt]
      refine t1 6 rfl ?_
      try simp only [pt]
      refine t1 7 rfl ?_
      try simp only [pt]
      refine t1 8 rfl ?_
      try simp only [pt]
      refine t1 9 rfl ?_
      try simp only [pt]
      refine t1 10 rfl ?_
      try simp only [pt]
      refine t1 11 rfl ?_
      try simp only [pt]
      refine t1 12 rfl ?_
      try simp only [pt]
      refine t1 13 rfl ?_
      try simp only [pt]
      refine wpAnyH_ready (rs:=[14]) (by kernel_rfl) (by simp) ?_
      refine AllReadyH.cons rfl (fun K hK => ?_) AllReadyH.nil
      go_simp
      refine (CTS.out _ K_0.out).mono ?_
      rintro e w2 ⟨bc,rfl,hbc,hb2⟩
      obtain rfl:=(sees_bool hbc).trans HDUP.out
      have K_1:=Lib.hid (K_0.out.trans (hb2.mono K_0.out.size))
      clear hb2 hbc
      refine hK.out _ _ (LIM.out _ K_1.out) (fun hHeld => ?_)
      clear hK K
      try simp only [pt]
      refine t1 15 rfl ?_
      try simp only [pt]
      refine t1 16 rfl ?_
      try simp only [pt]
      refine t0 17 rfl ?_
      try simp only [pt]
      refine t0 18 rfl ?_
      try simp only [pt]
      refine t0 19 rfl ?_
      try simp only [pt]
      refine t0 20 rfl ?_
      try simp only [pt]
      refine t0 21 rfl ?_
      try simp only [pt]
      refine t0 22 rfl ?_
      try simp only [pt]
      refine t0 23 rfl ?_
      try simp only [pt]
      refine t0 24 rfl ?_
      try simp only [pt]
      refine t0 25 rfl ?_
      try simp only [pt]
      refine t0 26 rfl ?_
      try simp only [pt]
      refine t0 27 rfl ?_
      try simp only [pt]
      refine t0 28 rfl ?_
      try simp only [pt]
      refine t0 29 rfl ?_
      try simp only [pt]
      refine t0 30 rfl ?_
      try simp only [pt]
      refine t0 31 rfl ?_
      try simp only [pt]
      refine t0 32 rfl ?_
      try simp only [pt]
      refine t0 33 rfl ?_
      try simp only [pt]
      refine t1 34 rfl ?_
      try simp only [pt]
      refine wpAnyH_done (by kernel_rfl) ?_ _
      have hno:shwF L T=false:=shwF_no (by have:=HN.out; omega) HOK.out
      have HNO:=Lib.hid hno
      clear hno
      go_wp2_with fail
      go_ret
      exact ⟨by rw [HNO.out]; rfl,HOLD.out.trans (K_1.out.mono HOLD.out.size)⟩
    ·have hr1:decide (gr.size ≤ 32)=false:=by simpa using r1
     have zr:(32:Int) < (gr.size:Int):=by omega
     have HOK:Hid (okS L (T.take i) (shwAt T i)=false):=Lib.hid (by rw [hspec,r0,hr1]; rfl)
     clear hspec
     refine wp_region_held_drew (S:=fun W => W.cell? ⟨p6,0,none⟩=some (.string gf) ∧ W.cell? ⟨p6,1,none⟩=some (.string gr)) (by kernel_rfl) (LIM.out _ K_0.out) (fun hHeld => ?_)
     refine t1 0 rfl ?_
     try simp only [pt]
     refine t1 1 rfl ?_
     try simp only [pt]
     refine t1 2 rfl ?_
     try simp only [pt]
     refine t1 3 rfl ?_
     try simp only [pt]
     refine t1 4 rfl ?_
     try simp only [pt]
     refine t1 5 rfl ?_
     try simp only [pt]
     refine t1 6 rfl ?_
     try simp only [pt]
     refine t1 7 rfl ?_
     try simp only [pt]
     refine t1 8 rfl ?_
     try simp only [pt]
     refine t1 9 rfl ?_
     try simp only [pt]
     refine t0 10 rfl ?_
     try simp only [pt]
     refine t0 11 rfl ?_
     try simp only [pt]
     refine t0 12 rfl ?_
     try simp only [pt]
     refine t0 13 rfl ?_
     try simp only [pt]
     refine t0 14 rfl ?_
     try simp only [pt]
     refine t1 15 rfl ?_
     try simp only [pt]
     refine t1 16 rfl ?_
     try simp only [pt]
     refine t0 17 rfl ?_
     try simp only [pt]
     refine t0 18 rfl ?_
     try simp only [pt]
     refine t0 19 rfl ?_
     try simp only [pt]
     refine t0 20 rfl ?_
     try simp only [pt]
     refine t0 21 rfl ?_
     try simp only [pt]
     refine t0 22 rfl ?_
     try simp only [pt]
     refine t0 23 rfl ?_
     try simp only [pt]
     refine t0 24 rfl ?_
     try simp only [pt]
     refine t0 25 rfl ?_
     try simp only [pt]
     refine t0 26 rfl ?_
     try simp only [pt]
     refine t0 27 rfl ?_
     try simp only [pt]
     refine t0 28 rfl ?_
     try simp only [pt]
     refine t0 29 rfl ?_
     try simp only [pt]
     refine t0 30 rfl ?_
     try simp only [pt]
     refine t0 31 rfl ?_
     try simp only [pt]
     refine t0 32 rfl ?_
     try simp only [pt]
     refine t0 33 rfl ?_
     try simp only [pt]
     refine t1 34 rfl ?_
     try simp only [pt]
     refine wpAnyH_done (by kernel_rfl) ?_ _
     have hno:shwF L T=false:=shwF_no (by have:=HN.out; omega) HOK.out
     have HNO:=Lib.hid hno
     clear hno
     go_wp2_with fail
     go_ret
     exact ⟨by rw [HNO.out]; rfl,HOLD.out.trans (K_0.out.mono HOLD.out.size)⟩
   ·have HOK:Hid (okS L (T.take i) (shwAt T i)=false):=Lib.hid (by rw [hspec,r0]; rfl)
    clear hspec
    refine wp_region_held_drew (S:=fun W => W.cell? ⟨p6,0,none⟩=some (.string gf) ∧ W.cell? ⟨p6,1,none⟩=some (.string gr)) (by kernel_rfl) (LIM.out _ K_0.out) (fun hHeld => ?_)
    refine t1 0 rfl ?_
    try simp only [pt]
    refine t1 1 rfl ?_
    try simp only [pt]
    refine t1 2 rfl ?_
    try simp only [pt]
    refine t1 3 rfl ?_
    try simp only [pt]
    refine t0 4 rfl ?_
    try simp only [pt]
    refine t0 5 rfl ?_
    try simp only [pt]
    refine t0 6 rfl ?_
    try simp only [pt]
    refine t0 7 rfl ?_
    try simp only [pt]
    refine t1 8 rfl ?_
    try simp only [pt]
    refine t1 9 rfl ?_
    try simp only [pt]
    refine t0 10 rfl ?_
    try simp only [pt]
    refine t0 11 rfl ?_
    try simp only [pt]
    refine t0 12 rfl ?_
    try simp only [pt]
    refine t0 13 rfl ?_
    try simp only [pt]
    refine t0 14 rfl ?_
    try simp only [pt]
    refine t1 15 rfl ?_
    try simp only [pt]
    refine t1 16 rfl ?_
    try simp only [pt]
    refine t0 17 rfl ?_
    try simp only [pt]
    refine t0 18 rfl ?_
    try simp only [pt]
    refine t0 19 rfl ?_
    try simp only [pt]
    refine t0 20 rfl ?_
    try simp only [pt]
    refine t0 21 rfl ?_
    try simp only [pt]
    refine t0 22 rfl ?_
    try simp only [pt]
    refine t0 23 rfl ?_
    try simp only [pt]
    refine t0 24 rfl ?_
    try simp only [pt]
    refine t0 25 rfl ?_
    try simp only [pt]
    refine t0 26 rfl ?_
    try simp only [pt]
    refine t0 27 rfl ?_
    try simp only [pt]
    refine t0 28 rfl ?_
    try simp only [pt]
    refine t0 29 rfl ?_
    try simp only [pt]
    refine t0 30 rfl ?_
    try simp only [pt]
    refine t0 31 rfl ?_
    try simp only [pt]
    refine t0 32 rfl ?_
    try simp only [pt]
    refine t0 33 rfl ?_
    try simp only [pt]
    refine t1 34 rfl ?_
    try simp only [pt]
    refine wpAnyH_done (by kernel_rfl) ?_ _
    have hno:shwF L T=false:=shwF_no (by have:=HN.out; omega) HOK.out
    have HNO:=Lib.hid hno
    clear hno
    go_wp2_with fail
    go_ret
    exact ⟨by rw [HNO.out]; rfl,HOLD.out.trans (K_0.out.mono HOLD.out.size)⟩
  ·have zi:¬ (i:Int) < (n:Int):=by omega
   have he:shwF L T=true:=shwF_yes (fun j hj => HE.out j (by have:=HN.out; omega))
   have HEE:=Lib.hid he
   clear he
   go_wp2_with fail
   go_ret
   exact ⟨by rw [HEE.out]; rfl,HBR.out⟩
end Go.Proofs.YtgdngfdeeadlnaaGreatDoor

/- Contract: the kit's Statement. -/
import Derived.Test.YtgdngfdeeadlnaaGreatDoorY05
import Derived.Test.YtgdngfdeeadlnaaGreatDoorY29
import Derived.Test.YtgdngfdeeadlnaaGreatDoorY33
import Derived.Test.YtgdngfdeeadlnaaGreatDoorY21
import Derived.BigRegion
import Derived.Deep.RegionLaw
import Derived.Test.YtgdngfdeeadlnaaGreatDoorY04
import Derived.Deep.CutRange
import Derived.Deep.CutBlock
set_option linter.unusedVariables false
set_option linter.unusedSimpArgs false
namespace Go.Proofs.YtgdngfdeeadlnaaGreatDoor
open Go.RowKit Num
theorem StmE.back {w w' : World} {db : Nat} {e : Ending} {o : Obj} (h : StmE (w.alloc o) db e w') : StmE w db e w' := by
 obtain ⟨s,Aa,na,ca,Ac,nc,cc,As,ns,cs,h1,h2,h3,h4,h5⟩:=h
 exact ⟨s,Aa,na,ca,Ac,nc,cc,As,ns,cs,h1,h2.mono fun b hb => ⟨by have:=hb.1; rw [World.size_alloc] at this; omega,hb.2⟩,h3,h4,gb_trans (World.grownBy_alloc w o (some db)) h5⟩
theorem GSt.other {w W : World} {db tb : Nat} {s : Stm} {va vc vs : Value} (h : GSt w W db tb s va vc vs) {q : Nat} (hq : tb < q) (hd : db < q) (ha : va.ownBlock ≠ some q) (hs : vs.ownBlock ≠ some q) (i : Nat) (v : Value) : GSt w (W.setCell ⟨q,i,none⟩ v) db tb s va vc vs := by
 have h1:=h.dlt
 have h2:=h.tlt
 have hset:W.grownBy (W.setCell ⟨q,i,none⟩ v) (some q):=grown_setCell W ⟨q,i,none⟩ v
 have k:∀ b,b < W.heap.size → b ≠ q → (W.setCell ⟨q,i,none⟩ v).heap[b]?=W.heap[b]?:=fun b hb hne => hset.block b hb (fun e => hne (Option.some.inj e))
 have l0:=h.dc.lt
 have l1:=h.blk.lt
 exact ⟨h.dc.keep (fun i hi => k i (by omega) (by omega)),(k _ l1 (by omega)).trans h.blk,h.oa.kept hset (.inr fun e => ha e),h.os.kept hset (.inr fun e => hs e),h.cc.keep fun b hb => k b (by omega) (by omega),(k _ (by omega) (by omega)).trans h.res,
  ⟨hset.os.trans h.gw.os,hset.tape.trans h.gw.tape,hset.output.trans h.gw.output,Nat.le_trans h.gw.size hset.size,fun b hb hne => (k b (Nat.lt_of_lt_of_le hb h.gw.size) (by omega)).trans (h.gw.block b hb hne)⟩,h.sm,h1,h2⟩
set_option maxRecDepth 100000 in
set_option maxHeartbeats 2000000 in
theorem k_Statement (db : Nat) (t : ByteArray) (A : Option Addr) (n c : Nat) (L : List Fld) (w : World) (hd : Dc w db) (hF : FldsAt w (fun b => b ≠ db ∧ b < w.heap.size) (.slice A n c) L) (hL : L.length ≤ 10) (hok : ∀ k,k < L.length → (fldAt L k).name.size ≤ 1000) :
  Calls Tryz.prog 11 #[.pointer (some ⟨db,0,none⟩),.agg #[.string t,.slice A n c]] w (StmE w db):=by
 suffices h:Calls Tryz.prog 11 #[.pointer (some ⟨db,0,none⟩),.agg #[.string t,.slice A n c]] w (StmE (w.alloc (.cells #[.string t,.slice A n c] 37)) db) from h.mono fun e w9 h => StmE.back h
 obtain ⟨i0,hi,hz0,hz1,hz2⟩:=info_parts infoAn
 obtain ⟨j0,hj,hy0,hy1,hy2⟩:=info_parts infoSw
 have hlt:=hd.lt
 have HF:=Lib.hid hF
 have HK:=Lib.hid hok
 obtain ⟨A',n',c',e1,hn,hnc,hcell⟩:=id hF
 injection e1 with q1 q2 q3
 subst q1 q2 q3
 have n10:n ≤ 10:=by omega
 have HN:=Lib.hid hn
 have HD:=Lib.hid hd
 clear hd hF hok hn hcell hL
 go_enter Tryz.func11,Tryz.ntmps11
 go_wp2_with fail
 have hgw:=World.grownBy_alloc w (.cells #[.string t,.slice A n c] 37) (some db)
 have hbx:=Blk.new w 37 #[.string t,.slice A n c]
 have hs0:(w.alloc (.cells #[.string t,.slice A n c] 37)).heap.size=w.heap.size+1:=World.size_alloc _ _
 have hd0':=HD.out.alloc (.cells #[.string t,.slice A n c] 37)
 have hflt:=hbx.lt
 rw [← hs0]
 obtain ⟨fb,hfb⟩:∃ fb,w.heap.size=fb:=⟨_,rfl⟩
 generalize (w.alloc (.cells #[.string t,.slice A n c] 37))=w0 at *
 have HBX:=Lib.hid hbx
 have HGW:=Lib.hid hgw
 clear hgw
 have HS0:=Lib.hid hs0
 clear hbx HD
 have hlt0:db < w0.heap.size:=by omega
 clear hs0
 have hd0:=(hd0'.alloc (.cells stmZ 29)).alloc (.cells #[.string ⟨#[82,111,98,101,114,116]⟩,.string ⟨#[66,111,98]⟩,.string ⟨#[65,110,110]⟩] 9)
 have hb0:=Blk.new (w0.alloc (.cells stmZ 29)) 9 #[.string ⟨#[82,111,98,101,114,116]⟩,.string ⟨#[66,111,98]⟩,.string ⟨#[65,110,110]⟩]
 rw [World.size_alloc] at hb0
 refine (k_WordL db (w0.heap.size+1) [⟨#[82,111,98,101,114,116]⟩,⟨#[66,111,98]⟩,⟨#[65,110,110]⟩] 3 _ hd0 (by omega) hb0 rfl (by omega) (by omega) (by decide)).mono ?_
 rintro e w1 ⟨x,hx,rfl,hd1,hg1⟩
 have hs1:=hg1.size
 simp only [World.size_alloc] at hs1
 have HR1:Hid (Blk w1 w0.heap.size 29 stmZ):=Lib.hid ((hg1.block _ (by simp; omega) (by intro e; injection e; omega)).trans ((Blk.new w0 29 stmZ).alloc _))
 have HG1:Hid (w0.grownBy w1 (some db)):=Lib.hid (gb_trans (gb_trans (World.grownBy_alloc w0 _ (some db)) (World.grownBy_alloc _ _ (some db))) hg1)
 have HD1:=Lib.hid hd1
 clear hd0 hd0' hb0 hd1 hg1
 go_wp2_with fail
 refine (k_Next db 4 w1 HD1.out (by omega) (by omega)).mono ?_
 rintro e w2 ⟨r2,hr2,rfl,hd2,hg2⟩
 have hs2:=hg2.size
 have HR2:Hid (Blk w2 w0.heap.size 29 stmZ):=Lib.hid ((hg2.block _ (by omega) (by intro e; injection e; omega)).trans HR1.out)
 have HG2:=Lib.hid (gb_trans HG1.out hg2)
 have HD2:=Lib.hid hd2
 clear hd2 hg2 HR1 HG1 HD1
 go_wp2_with fail
 refine (k_Next db 2000 w2 HD2.out (by omega) (by omega)).mono ?_
 rintro e w3 ⟨r3,hr3,rfl,hd3,hg3⟩
 have hs3:=hg3.size
 have HR3:Hid (Blk w3 w0.heap.size 29 stmZ):=Lib.hid ((hg3.block _ (by omega) (by intro e; injection e; omega)).trans HR2.out)
 have HG3:=Lib.hid (gb_trans HG2.out hg3)
 have HD3:=Lib.hid hd3
 clear hd3 hg3 HR2 HG2 HD2
 go_wp2_with fail
 have hcd:Calls Tryz.prog 34 #[.pointer (some ⟨db,0,none⟩),.int .i64 2] w3 (CondE1 w3 db 2):=k_Condition1 db 2 w3 HD3.out (by omega)
 refine hcd.mono ?_
 rintro e w4 ⟨Ac,nc,cc,Lc,rfl,hT,hl,hk,hd4,hg4,-⟩
 have hs4:=hg4.size
 have hcn:Lc.length ≤ 1000:=Nat.le_trans hl (by decide)
 have h5:GSt w0 (w4.alloc (.cells #[.string x,.int .i64 (r2:Int),.int .i64 (730000+(r3:Int)),.slice none 0 0,.slice Ac nc cc,.slice none 0 0] 29)) db w4.heap.size ⟨x,(r2:Int),730000+(r3:Int),[],Lc,[]⟩ (.slice none 0 0) (.slice Ac nc cc) (.slice none 0 0) :=
  ⟨hd4.alloc _,Blk.new w4 _ _,World.ownsRow_nil _ _ _ _,World.ownsRow_nil _ _ _ _,(hT.keep fun b hb => Below.heap_alloc w4 _ b hb.2).mono fun b hb => ⟨by omega,hb.2⟩,Blk.alloc (show Blk w4 w0.heap.size 29 stmZ from (hg4.block _ (by omega) (by intro e; injection e; omega)).trans HR3.out) _,gb_trans (gb_trans HG3.out hg4) (World.grownBy_alloc w4 _ (some db)),
   ⟨hx,⟨by show -1000000000 ≤ (r2:Int); omega,by show (r2:Int) ≤ _; omega⟩,⟨by show -1000000000 ≤ 730000+(r3:Int); omega,by show 730000+(r3:Int) ≤ _; omega⟩,Nat.zero_le _,(fun a ha => by cases ha),Nat.zero_le _,(fun a ha => by cases ha),hcn,hk⟩,hlt0,by omega⟩
 have hfx:Blk (w4.alloc (.cells #[.string x,.int .i64 (r2:Int),.int .i64 (730000+(r3:Int)),.slice none 0 0,.slice Ac nc cc,.slice none 0 0] 29)) fb 37 #[.string t,.slice A n c]:=(h5.gw.block fb (by omega) (by intro e; injection e; omega)).trans (hfb ▸ HBX.out)
 have cf:=(hfx.cell 1).trans (show _=some (Value.slice A n c) from rfl)
 have H5:=Lib.hid h5
 clear h5 hfx hT hl hk hd4 hg4 HR3 HG3 HD3 HBX
 try rw [hfb]
 go_wp2_with fail
 obtain ⟨tb,htb⟩:∃ tb,w4.heap.size=tb:=⟨_,rfl⟩
 rw [htb] at H5
 try rw [htb]
 clear htb cf
 go_loopw [24] (fun v24 wr => ∃ (i:Nat) (s:Stm) (va:Value),i ≤ n ∧ v24=.int .i64 (i:Int) ∧ GSt w0 wr db tb s va (.slice Ac nc cc) (.slice none 0 0) ∧ s.ans.length ≤ i ∧ s.shw.length=0) (fun v24 _ => n - (intOf v24).toNat)
 case atStart => exact ⟨0,_,_,by omega,rfl,H5.out,Nat.le_refl 0,rfl⟩
 case round =>
  obtain ⟨i,s,va,hi',rfl,hg,ha,hs⟩:=hrel
  have HG:=Lib.hid hg
  have HA:=Lib.hid ha
  have HS:=Lib.hid hs
  clear hg ha hs H5
  by_cases hlt:i < n
  ·obtain ⟨A',n',c',e1,hn,hnc',hcell⟩:=id HF.out
   injection e1 with q1 q2 q3
   subst q1 q2 q3
   obtain ⟨b1,o1,rfl,hS1,hc⟩:=hcell (by omega)
   have hgr:=gb_trans HGW.out HG.out.gw
   have hfa:=(hc i hlt).keep (hgr.block b1 hS1.2 (fun e => hS1.1 (Option.some.inj e))) (fun g hgS => hgr.block g hgS.2 (fun e => hgS.1 (Option.some.inj e)))
   have hnm:=HK.out i (by have:=HN.out; omega)
   obtain ⟨f,hf⟩:∃ f,fldAt L i=f:=⟨_,rfl⟩
   rw [hf] at hfa hnm
   obtain ⟨nm,kd,nd,le,mo,op⟩:=f
   obtain ⟨f0,f1,f2,f3,f4,u,f5,hu⟩:=hfa
   obtain ⟨A5,n5,c5,hu5,-⟩:=id hu
   subst hu5
   dsimp only at f0 f1 f2 f3 f4 hnm
   have zi:(i:Int) < (n:Int):=by omega
   have z0:(0:Int) ≤ (i:Int):=by omega
   have HNM:=Lib.hid hnm
   clear hu hc hcell hf hgr hnm hn
   go_upto_region 5 with fail
   have hgf:=HG.out.alloc (.cells #[.string nm,.int .i64 kd,.bool nd,.int .i64 le,.int .i64 mo,.slice A5 n5 c5] 58)
   have hbf:=Blk.new wr 58 #[.string nm,.int .i64 kd,.bool nd,.int .i64 le,.int .i64 mo,.slice A5 n5 c5]
   have hown:=HG.out.oa.lt
   have hfl:=HG.out.lt
   obtain ⟨fq,hfq⟩:∃ fq,wr.heap.size=fq:=⟨_,rfl⟩
   generalize wr.alloc (.cells #[.string nm,.int .i64 kd,.bool nd,.int .i64 le,.int .i64 mo,.slice A5 n5 c5] 58)=wf at *
   rw [hfq] at hbf hown hfl ⊢
   clear hfq f0 f1 f2 f3 f4 f5
   have HGF:=Lib.hid hgf
   have HBF:=Lib.hid hbf
   have HOW:=Lib.hid hown
   have hwf:=hbf.lt
   clear hgf hbf hown HG
   go_cut [35] from 28 to 35 (fun v wx => ∃ b:Bool,v=.bool b ∧ GSt w0 wx db tb s va (.slice Ac nc cc) (.slice none 0 0) ∧ Blk wx fq 58 #[.string nm,.int .i64 kd,.bool nd,.int .i64 le,.int .i64 mo,.slice A5 n5 c5] ∧ wf.heap.size ≤ wx.heap.size)
   case first =>
    have g2:=(HBF.out.cell 2).trans (show _=some (Value.bool nd) from rfl)
    cases nd
    ·go_wp2_with fail
     refine (k_Next db 3 wf HGF.out.dc (by omega) (by omega)).mono ?_
     rintro e w6 ⟨r6,hr6,rfl,hd6,hg6⟩
     have h6:=HGF.out.dice hd6 hg6
     have hb6:Blk w6 fq 58 _:=(hg6.block fq hwf (by intro e; injection e; omega)).trans HBF.out
     have K6:=Lib.hid (And.intro h6 (And.intro hb6 hg6.size))
     clear h6 hb6 hd6 hg6
     go_wp2_with fail
     go_meet
     exact ⟨_,rfl,K6.out⟩
    ·go_wp2_with fail
     go_meet
     exact ⟨_,rfl,HGF.out,HBF.out,Nat.le_refl _⟩
   case rest =>
    obtain ⟨b,rfl,hgx,hbx,hsx⟩:=hcut
    rename World => wx
    have HGX:=Lib.hid hgx
    have HBX:=Lib.hid hbx
    clear hgx hbx HGF HBF
    cases b with
    | true =>
     have z1:=HA.out
     go_wp2_with fail
     go_roundw
     case measure => simp [intOf]; omega
     case rel => exact ⟨i+1,s,va,by omega,by go_num,HGX.out,by have:=HA.out; omega,HS.out⟩
    | false =>
     have e0:=(HBX.out.cell 0).trans (show _=some (Value.string nm) from rfl)
     have e1:=(HBX.out.cell 1).trans (show _=some (Value.int .i64 kd) from rfl)
     have e1a:=fun o:Obj => ((HBX.out.alloc o).cell 1).trans (show _=some (Value.int .i64 kd) from rfl)
     by_cases k1:kd=1
     ·subst k1
      go_wp2_with fail
      have hx0:=(HGX.out.alloc (.cells #[.string nm,.string ⟨#[]⟩,.int .i64 0] 50)).alloc (.cells #[.string ⟨#[]⟩,.string ⟨#[97,32,116,101,120,116]⟩,.string ⟨#[109,111,114,101,32,119,111,114,100,115]⟩,.string ⟨#[195,164]⟩] 9)
      have hbw:=Blk.new (wx.alloc (.cells #[.string nm,.string ⟨#[]⟩,.int .i64 0] 50)) 9 #[.string ⟨#[]⟩,.string ⟨#[97,32,116,101,120,116]⟩,.string ⟨#[109,111,114,101,32,119,111,114,100,115]⟩,.string ⟨#[195,164]⟩]
      rw [World.size_alloc] at hbw
      refine (hx0.word [⟨#[]⟩,⟨#[97,32,116,101,120,116]⟩,⟨#[109,111,114,101,32,119,111,114,100,115]⟩,⟨#[195,164]⟩] 4 hbw (by omega) rfl (by omega) (by omega) (by decide)).mono ?_
      rintro e w7 ⟨xt,hxt,rfl,h7,hg7⟩
      have hsz7:=hg7.size
      simp only [World.size_alloc] at hsz7
      have hba:Blk w7 wx.heap.size 50 #[.string nm,.string ⟨#[]⟩,.int .i64 0]:=(hg7.block _ (by simp; omega) (by intro e; injection e; omega)).trans ((Blk.new wx _ _).alloc _)
      have fa1:=hba.frozen 1
      have ca1:=(hba.cell 1).trans (show _=some (Value.string ⟨#[]⟩) from rfl)
      have h10:=h7.other (q:=wx.heap.size) (by omega) (by omega) (fun e => by have:=HOW.out _ e; omega) (fun e => by cases e) 1 (.string xt)
      have hb10:Blk (w7.setCell ⟨wx.heap.size,1,none⟩ (.string xt)) wx.heap.size 50 #[.string nm,.string xt,.int .i64 0]:=hba.set_ 1 (.string xt)
      clear hx0 hbw h7 hg7 hba HGX HBX
      have b0:=(hb10.cell 0).trans (show _=some (Value.string nm) from rfl)
      have b1':=(hb10.cell 1).trans (show _=some (Value.string xt) from rfl)
      have b2:=(hb10.cell 2).trans (show _=some (Value.int .i64 0) from rfl)
      have c3:=h10.c3
      have hnm:=HNM.out
      have hal:=HA.out
      have hl10:=h10.lt
      have O10:=Lib.hid h10.oa
      have K10:=Lib.hid h10
      clear h10 hb10
      have nw:=World.news_of_block (cs:=#[.string nm,.string xt,.int .i64 0]) (t:=50) (fr:=(0,0)) (heap_alloc_new (w7.setCell ⟨wx.heap.size,1,none⟩ (.string xt)) (.cells #[.string nm,.string xt,.int .i64 0] 50))
      rw [show (w7.setCell ⟨wx.heap.size,1,none⟩ (.string xt)).heap.size=w7.heap.size from by simp] at nw
      have NW:=Lib.hid nw
      clear nw
      go_wp2_with (at_builtin; refine wpList_append_own_at _ rfl _ _ 23 rfl tb 50 i0 (.agg #[.string ⟨#[]⟩,.string ⟨#[]⟩,.int .i64 0]) 3 40 Tryz.underlying23 hi hz0 hz1 hz2 rfl (by decide) va s.ans.length (ansC s.ans) rfl (O10.out.alloc _) ⟨w7.heap.size,0,none⟩ 1 1 [.string nm,.string xt,.int .i64 0] rfl rfl NW.out (by intro u hu; simp at hu; rcases hu with rfl | rfl | rfl <;> rfl) (by unfold maxLen; omega) (by omega) (by have:=hl10.2.1; rw [World.size_alloc]; omega) ?_)
      intro v2 w11 hown2 hgrow2 _ hat2
      obtain ⟨A2,cc2,hv2⟩:=own_slice hown2
      subst hv2
      have MO:=Lib.hid (K10.out.pushA (a:=⟨nm,xt,0⟩) hown2 hgrow2 (by omega) ⟨hnm,hxt,by show -1000000000 ≤ (0:Int); omega,by show (0:Int) ≤ _; omega⟩)
      have mc:=MO.out.2.1
      have mf:=MO.out.2.2
      clear hown2 hgrow2 hat2 K10 O10 hal c3 b0 b1' b2
      go_wp2_with fail
      go_roundw
      case measure => simp [intOf]; omega
      case rel => exact ⟨i+1,_,_,by omega,by go_num,MO.out.1,(by have:=HA.out; show (s.ans ++ [_]).length ≤ i+1; rw [List.length_append]; show _+1 ≤ i+1; omega),HS.out⟩
     ·by_cases k4:kd=4
      ·subst k4
       go_wp2_with fail
       have hx0:=(HGX.out.alloc (.cells #[.string nm,.string ⟨#[]⟩,.int .i64 0] 50)).alloc (.cells #[.string ⟨#[119,111,114,100,115]⟩,.string ⟨#[97,99,116,115]⟩] 9)
       have hbw:=Blk.new (wx.alloc (.cells #[.string nm,.string ⟨#[]⟩,.int .i64 0] 50)) 9 #[.string ⟨#[119,111,114,100,115]⟩,.string ⟨#[97,99,116,115]⟩]
       rw [World.size_alloc] at hbw
       refine (hx0.word [⟨#[119,111,114,100,115]⟩,⟨#[97,99,116,115]⟩] 2 hbw (by omega) rfl (by omega) (by omega) (by decide)).mono ?_
       rintro e w7 ⟨xt,hxt,rfl,h7,hg7⟩
       have hsz7:=hg7.size
       simp only [World.size_alloc] at hsz7
       have hba:Blk w7 wx.heap.size 50 #[.string nm,.string ⟨#[]⟩,.int .i64 0]:=(hg7.block _ (by simp; omega) (by intro e; injection e; omega)).trans ((Blk.new wx _ _).alloc _)
       have fa1:=hba.frozen 1
       have ca1:=(hba.cell 1).trans (show _=some (Value.string ⟨#[]⟩) from rfl)
       have h10:=h7.other (q:=wx.heap.size) (by omega) (by omega) (fun e => by have:=HOW.out _ e; omega) (fun e => by cases e) 1 (.string xt)
       have hb10:Blk (w7.setCell ⟨wx.heap.size,1,none⟩ (.string xt)) wx.heap.size 50 #[.string nm,.string xt,.int .i64 0]:=hba.set_ 1 (.string xt)
       clear hx0 hbw h7 hg7 hba HGX HBX
       have b0:=(hb10.cell 0).trans (show _=some (Value.string nm) from rfl)
       have b1':=(hb10.cell 1).trans (show _=some (Value.string xt) from rfl)
       have b2:=(hb10.cell 2).trans (show _=some (Value.int .i64 0) from rfl)
       have c3:=h10.c3
       have hnm:=HNM.out
       have hal:=HA.out
       have hl10:=h10.lt
       have O10:=Lib.hid h10.oa
       have K10:=Lib.hid h10
       clear h10 hb10
       have nw:=World.news_of_block (cs:=#[.string nm,.string xt,.int .i64 0]) (t:=50) (fr:=(0,0)) (heap_alloc_new (w7.setCell ⟨wx.heap.size,1,none⟩ (.string xt)) (.cells #[.string nm,.string xt,.int .i64 0] 50))
       rw [show (w7.setCell ⟨wx.heap.size,1,none⟩ (.string xt)).heap.size=w7.heap.size from by simp] at nw
       have NW:=Lib.hid nw
       clear nw
       go_wp2_with (at_builtin; refine wpList_append_own_at _ rfl _ _ 23 rfl tb 50 i0 (.agg #[.string ⟨#[]⟩,.string ⟨#[]⟩,.int .i64 0]) 3 40 Tryz.underlying23 hi hz0 hz1 hz2 rfl (by decide) va s.ans.length (ansC s.ans) rfl (O10.out.alloc _) ⟨w7.heap.size,0,none⟩ 1 1 [.string nm,.string xt,.int .i64 0] rfl rfl NW.out (by intro u hu; simp at hu; rcases hu with rfl | rfl | rfl <;> rfl) (by unfold maxLen; omega) (by omega) (by have:=hl10.2.1; rw [World.size_alloc]; omega) ?_)
       intro v2 w11 hown2 hgrow2 _ hat2
       obtain ⟨A2,cc2,hv2⟩:=own_slice hown2
       subst hv2
       have MO:=Lib.hid (K10.out.pushA (a:=⟨nm,xt,0⟩) hown2 hgrow2 (by omega) ⟨hnm,hxt,by show -1000000000 ≤ (0:Int); omega,by show (0:Int) ≤ _; omega⟩)
       have mc:=MO.out.2.1
       have mf:=MO.out.2.2
       clear hown2 hgrow2 hat2 K10 O10 hal c3 b0 b1' b2
       go_wp2_with fail
       go_roundw
       case measure => simp [intOf]; omega
       case rel => exact ⟨i+1,_,_,by omega,by go_num,MO.out.1,(by have:=HA.out; show (s.ans ++ [_]).length ≤ i+1; rw [List.length_append]; show _+1 ≤ i+1; omega),HS.out⟩
      ·have k1':((kd == 1):Bool)=false:=by simpa using k1
       have k4':((kd == 4):Bool)=false:=by simpa using k4
       go_wp2_with fail
       obtain ⟨xt,hxt0⟩:∃ xt:ByteArray,⟨#[]⟩=xt:=⟨_,rfl⟩
       have hxt:xt.size ≤ 1000:=by rw [← hxt0]; decide
       have h8:=HGX.out.alloc (.cells #[.string nm,.string ⟨#[]⟩,.int .i64 0] 50)
       have hb8:=Blk.new wx 50 #[.string nm,.string ⟨#[]⟩,.int .i64 0]
       have hl8:=hb8.lt
       rw [hxt0] at h8 hb8 hl8 ⊢
       have K8:=Lib.hid (And.intro h8 hb8)
       clear h8 hb8 HGX HBX
       refine (k_Next db 10 _ K8.out.1.dc (by omega) (by omega)).mono ?_
       rintro e w9 ⟨r9,hr9,rfl,hd9,hg9⟩
       have h9:=K8.out.1.dice hd9 hg9
       have hb9:Blk w9 wx.heap.size 50 #[.string nm,.string xt,.int .i64 0]:=(hg9.block _ hl8 (by intro e; injection e; omega)).trans K8.out.2
       have fa2:=hb9.frozen 2
       have ca2:=(hb9.cell 2).trans (show _=some (Value.int .i64 0) from rfl)
       have h10:=h9.other (q:=wx.heap.size) (by omega) (by omega) (fun e => by have:=HOW.out _ e; omega) (fun e => by cases e) 2 (.int .i64 (r9:Int))
       have hb10:Blk (w9.setCell ⟨wx.heap.size,2,none⟩ (.int .i64 (r9:Int))) wx.heap.size 50 #[.string nm,.string xt,.int .i64 (r9:Int)]:=hb9.set_ 2 (.int .i64 (r9:Int))
       clear h9 hb9 hd9 hg9 K8
       have b0:=(hb10.cell 0).trans (show _=some (Value.string nm) from rfl)
       have b1':=(hb10.cell 1).trans (show _=some (Value.string xt) from rfl)
       have b2:=(hb10.cell 2).trans (show _=some (Value.int .i64 (r9:Int)) from rfl)
       have c3:=h10.c3
       have hnm:=HNM.out
       have hal:=HA.out
       have hl10:=h10.lt
       have O10:=Lib.hid h10.oa
       have K10:=Lib.hid h10
       clear h10 hb10
       have nw:=World.news_of_block (cs:=#[.string nm,.string xt,.int .i64 (r9:Int)]) (t:=50) (fr:=(0,0)) (heap_alloc_new (w9.setCell ⟨wx.heap.size,2,none⟩ (.int .i64 (r9:Int))) (.cells #[.string nm,.string xt,.int .i64 (r9:Int)] 50))
       rw [show (w9.setCell ⟨wx.heap.size,2,none⟩ (.int .i64 (r9:Int))).heap.size=w9.heap.size from by simp] at nw
       have NW:=Lib.hid nw
       clear nw
       go_wp2_with (at_builtin; refine wpList_append_own_at _ rfl _ _ 23 rfl tb 50 i0 (.agg #[.string ⟨#[]⟩,.string ⟨#[]⟩,.int .i64 0]) 3 40 Tryz.underlying23 hi hz0 hz1 hz2 rfl (by decide) va s.ans.length (ansC s.ans) rfl (O10.out.alloc _) ⟨w9.heap.size,0,none⟩ 1 1 [.string nm,.string xt,.int .i64 (r9:Int)] rfl rfl NW.out (by intro u hu; simp at hu; rcases hu with rfl | rfl | rfl <;> rfl) (by unfold maxLen; omega) (by omega) (by have:=hl10.2.1; rw [World.size_alloc]; omega) ?_)
       intro v2 w11 hown2 hgrow2 _ hat2
       obtain ⟨A2,cc2,hv2⟩:=own_slice hown2
       subst hv2
       have MO:=Lib.hid (K10.out.pushA (a:=⟨nm,xt,(r9:Int)⟩) hown2 hgrow2 (by omega) ⟨hnm,hxt,by show -1000000000 ≤ (r9:Int); omega,by show (r9:Int) ≤ _; omega⟩)
       have mc:=MO.out.2.1
       have mf:=MO.out.2.2
       clear hown2 hgrow2 hat2 K10 O10 hal c3 b0 b1' b2
       go_wp2_with fail
       go_roundw
       case measure => simp [intOf]; omega
       case rel => exact ⟨i+1,_,_,by omega,by go_num,MO.out.1,(by have:=HA.out; show (s.ans ++ [_]).length ≤ i+1; rw [List.length_append]; show _+1 ≤ i+1; omega),HS.out⟩
  ·have zi:¬ (i:Int) < (n:Int):=by omega
   have hmx:Tryz.prog.follows .mixedOrders=true:=by kernel_rfl
   have ha10:s.ans.length ≤ 10:=by have:=HA.out; omega
   have hs0':=HS.out
   go_wp2_with fail
   refine (k_Next db 4 wr HG.out.dc (by omega) (by omega)).mono ?_
   rintro e w5 ⟨r5,hr5,rfl,hd5,hg5⟩
   have H6:=Lib.hid (HG.out.dice hd5 hg5)
   have HA10:=Lib.hid ha10
   have HS00:=Lib.hid hs0'
   clear hd5 hg5 HG ha10 hs0' HA HS HF HK
   go_wp2_with fail
   go_loopw [65] (fun v65 wq => ∃ (k:Nat) (s:Stm) (vs:Value),k ≤ r5 ∧ v65=.int .i64 (k:Int) ∧ GSt w0 wq db tb s va (.slice Ac nc cc) vs ∧ s.shw.length ≤ k ∧ s.ans.length ≤ 10) (fun v65 _ => r5 - (intOf v65).toNat)
   case atStart => exact ⟨0,_,_,by omega,rfl,H6.out,by have:=HS00.out; omega,HA10.out⟩
   case round =>
    obtain ⟨k,s,vs,hk,rfl,hg,hsh,hsa⟩:=hrel
    rename World => w10
    have H10:=Lib.hid hg
    clear hg H6 HA10 HS00
    by_cases hkr:k < r5
    ·have q3:(k:Int) < (r5:Int):=by omega
     have q0:(0:Int) ≤ (k:Int):=by omega
     have q4:(k:Int) < 4:=by omega
     obtain ⟨fld,hw,hfs⟩:∃ fld:ByteArray,(#[.string ⟨#[119,104,97,116]⟩,.string ⟨#[114,101,115,112,111,110,100,101,110,116]⟩,.string ⟨#[100,97,121]⟩,.string ⟨#[100,101,112,97,114,116,109,101,110,116]⟩] : Array Value)[k]?=some (.string fld) ∧ fld.size ≤ 1000:=by
      have:k=0 ∨ k=1 ∨ k=2 ∨ k=3:=by omega
      rcases this with rfl | rfl | rfl | rfl
      ·exact ⟨_,rfl,by decide⟩
      ·exact ⟨_,rfl,by decide⟩
      ·exact ⟨_,rfl,by decide⟩
      ·exact ⟨_,rfl,by decide⟩
     have hl10:=H10.out.lt
     have c0:=H10.out.drew.c5
     have HD10:=Lib.hid H10.out.drew
     go_upto_region 18 with fail
     refine wp_region_last_lit _ _ (fun W => W.cell? ⟨tb,5,none⟩=some vs) hmx rfl (by kernel_rfl) c0 (fun hS => ?_)
     simp only [List.dropLast]
     refine t1 0 rfl ?_
     try simp only [pt]
     refine t1 1 rfl ?_
     try simp only [pt]
     refine t1 3 rfl ?_
     try simp only [pt]
     refine t1 6 rfl ?_
     try simp only [pt]
     refine wpAnyH_ready (rs:=[2,7]) (by kernel_rfl) (by simp) ?_
     refine AllReadyH.cons rfl (fun K hK => ?_) (AllReadyH.cons rfl (fun K hK => ?_) AllReadyH.nil)
     ·go_simp
      have G1:=Lib.hid (HD10.out.alloc (.cells #[.string ⟨#[119,104,97,116]⟩,.string ⟨#[114,101,115,112,111,110,100,101,110,116]⟩,.string ⟨#[100,97,121]⟩,.string ⟨#[100,101,112,97,114,116,109,101,110,116]⟩] 9))
      have hq1:Blk (w10.drew.alloc (.cells #[.string ⟨#[119,104,97,116]⟩,.string ⟨#[114,101,115,112,111,110,100,101,110,116]⟩,.string ⟨#[100,97,121]⟩,.string ⟨#[100,101,112,97,114,116,109,101,110,116]⟩] 9)) (w10.heap.size) 9 #[.string ⟨#[119,104,97,116]⟩,.string ⟨#[114,101,115,112,111,110,100,101,110,116]⟩,.string ⟨#[100,97,121]⟩,.string ⟨#[100,101,112,97,114,116,109,101,110,116]⟩]:=by
       have h:=Blk.new w10.drew 9 #[.string ⟨#[119,104,97,116]⟩,.string ⟨#[114,101,115,112,111,110,100,101,110,116]⟩,.string ⟨#[100,97,121]⟩,.string ⟨#[100,101,112,97,114,116,109,101,110,116]⟩]
       first | exact h | (rw [World.size_alloc] at h; exact h)
      have GA1:=Lib.hid hq1
      clear hq1
      refine hK.out _ _ G1.out.c5 (fun hHeld => ?_)
      clear hK K
      try simp only [pt]
      refine t1 4 rfl ?_
      try simp only [pt]
      refine wpAnyH_ready (rs:=[5,7]) (by kernel_rfl) (by simp) ?_
      refine AllReadyH.cons rfl (fun K hK => ?_) (AllReadyH.cons rfl (fun K hK => ?_) AllReadyH.nil)
      ·have l5:=(GA1.out.cell k).trans hw
       go_simp
       clear l5
       refine hK.out _ _ G1.out.c5 (fun hHeld => ?_)
       clear hK K
       try simp only [pt]
       refine wpAnyH_ready (rs:=[7]) (by kernel_rfl) (by simp) ?_
       refine AllReadyH.cons rfl (fun K hK => ?_) AllReadyH.nil
       go_simp
       have G3:=Lib.hid (G1.out.alloc (.cells #[.string ⟨#[99,111,117,110,115,101,108,108,111,114]⟩,.string ⟨#[98,111,97,114,100]⟩] 9))
       have hq3:Blk ((w10.drew.alloc (.cells #[.string ⟨#[119,104,97,116]⟩,.string ⟨#[114,101,115,112,111,110,100,101,110,116]⟩,.string ⟨#[100,97,121]⟩,.string ⟨#[100,101,112,97,114,116,109,101,110,116]⟩] 9)).alloc (.cells #[.string ⟨#[99,111,117,110,115,101,108,108,111,114]⟩,.string ⟨#[98,111,97,114,100]⟩] 9)) (w10.heap.size+1) 9 #[.string ⟨#[99,111,117,110,115,101,108,108,111,114]⟩,.string ⟨#[98,111,97,114,100]⟩]:=by
        have h:=Blk.new (w10.drew.alloc (.cells #[.string ⟨#[119,104,97,116]⟩,.string ⟨#[114,101,115,112,111,110,100,101,110,116]⟩,.string ⟨#[100,97,121]⟩,.string ⟨#[100,101,112,97,114,116,109,101,110,116]⟩] 9)) 9 #[.string ⟨#[99,111,117,110,115,101,108,108,111,114]⟩,.string ⟨#[98,111,97,114,100]⟩]
        first | exact h | (rw [World.size_alloc] at h; exact h)
       have GB3:=Lib.hid hq3
       clear hq3
       have GA3:=Lib.hid (GA1.out.alloc (.cells #[.string ⟨#[99,111,117,110,115,101,108,108,111,114]⟩,.string ⟨#[98,111,97,114,100]⟩] 9))
       refine hK.out _ _ G3.out.c5 (fun hHeld => ?_)
       clear hK K
       try simp only [pt]
       refine wpAnyH_ready (rs:=[8]) (by kernel_rfl) (by simp) ?_
       refine AllReadyH.cons rfl (fun K hK => ?_) AllReadyH.nil
       go_simp
       refine (G3.out.wordR [⟨#[99,111,117,110,115,101,108,108,111,114]⟩,⟨#[98,111,97,114,100]⟩] 2 GB3.out (by omega) rfl (by omega) (by omega) (by decide)).mono ?_
       rintro e v4 ⟨x,hx,rfl,hz,hgz⟩
       have G4:=Lib.hid hz
       clear hz hgz
       refine hK.out _ _ G4.out.c5 (fun hHeld => ?_)
       clear hK K
       try simp only [pt]
       refine t1 9 rfl ?_
       try simp only [pt]
       refine wpAnyH_ready (rs:=[10]) (by kernel_rfl) (by simp) ?_
       refine AllReadyH.cons rfl (fun K hK => ?_) AllReadyH.nil
       go_simp
       refine hK.out _ _ (G4.out.alloc _).c5 (fun hHeld => ?_)
       clear hK K
       try simp only [pt]
       refine wpAnyH_ready (rs:=[11]) (by kernel_rfl) (by simp) ?_
       refine AllReadyH.cons rfl (fun K hK => ?_) AllReadyH.nil
       have OW:=Lib.hid G4.out.os
       have hlc:=G4.out.lt
       refine step_append_lies _ (by rfl) _ _ _ (by rfl) tb 73 j0 _ 2 32 Tryz.underlying27 hj hy0 hy1 hy2 rfl (by omega) vs s.shw.length (shwC s.shw) (by rfl) (OW.out.alloc _) ⟨v4.heap.size,0,none⟩ 1 1 [.string fld,.string x] (by rfl) (by rfl) (World.news_of_block (cs:=#[.string fld,.string x]) (t:=73) (fr:=(0,0)) (heap_alloc_new v4 _)) (by intro u hu; simp at hu; rcases hu with rfl | rfl <;> rfl) (by omega) (by simp only [maxLen]; omega) (by omega) (by simp; omega) (v4.heap.size+1) (by simp) ?_
       intro gg cap w12 hown12 hgr12 hat12 hlt12
       have MO:=Lib.hid (G4.out.pushS (a:=⟨fld,x⟩) hown12 hgr12 (by omega) ⟨hfs,hx⟩)
       have mc:=MO.out.2.1
       have mf:=MO.out.2.2
       clear hown12 hgr12 hat12 OW
       refine hK.out _ _ mc (fun hHeld => ?_)
       clear hK K
       try simp only [pt]
       refine t1 12 rfl ?_
       try simp only [pt]
       refine wpAnyH_done (by kernel_rfl) ?_ _
       refine lastQ_step (by rfl) (by rfl) ?_
       go_simp
       (try go_wp2_with fail)
       go_roundw
       case measure => simp [intOf]; omega
       case rel => exact ⟨k+1,_,_,by omega,by go_num,MO.out.1,(by show (s.shw ++ [_]).length ≤ k+1; rw [List.length_append]; show _+1 ≤ k+1; omega),hsa⟩
      ·go_simp
       have G6:=Lib.hid (G1.out.alloc (.cells #[.string ⟨#[99,111,117,110,115,101,108,108,111,114]⟩,.string ⟨#[98,111,97,114,100]⟩] 9))
       have hq6:Blk ((w10.drew.alloc (.cells #[.string ⟨#[119,104,97,116]⟩,.string ⟨#[114,101,115,112,111,110,100,101,110,116]⟩,.string ⟨#[100,97,121]⟩,.string ⟨#[100,101,112,97,114,116,109,101,110,116]⟩] 9)).alloc (.cells #[.string ⟨#[99,111,117,110,115,101,108,108,111,114]⟩,.string ⟨#[98,111,97,114,100]⟩] 9)) (w10.heap.size+1) 9 #[.string ⟨#[99,111,117,110,115,101,108,108,111,114]⟩,.string ⟨#[98,111,97,114,100]⟩]:=by
        have h:=Blk.new (w10.drew.alloc (.cells #[.string ⟨#[119,104,97,116]⟩,.string ⟨#[114,101,115,112,111,110,100,101,110,116]⟩,.string ⟨#[100,97,121]⟩,.string ⟨#[100,101,112,97,114,116,109,101,110,116]⟩] 9)) 9 #[.string ⟨#[99,111,117,110,115,101,108,108,111,114]⟩,.string ⟨#[98,111,97,114,100]⟩]
        first | exact h | (rw [World.size_alloc] at h; exact h)
       have GB6:=Lib.hid hq6
       clear hq6
       have GA6:=Lib.hid (GA1.out.alloc (.cells #[.string ⟨#[99,111,117,110,115,101,108,108,111,114]⟩,.string ⟨#[98,111,97,114,100]⟩] 9))
       refine hK.out _ _ G6.out.c5 (fun hHeld => ?_)
       clear hK K
       try simp only [pt]
       refine wpAnyH_ready (rs:=[5,8]) (by kernel_rfl) (by simp) ?_
       refine AllReadyH.cons rfl (fun K hK => ?_) (AllReadyH.cons rfl (fun K hK => ?_) AllReadyH.nil)
       ·have l5:=(GA6.out.cell k).trans hw
        go_simp
        clear l5
        refine hK.out _ _ G6.out.c5 (fun hHeld => ?_)
        clear hK K
        try simp only [pt]
        refine wpAnyH_ready (rs:=[8]) (by kernel_rfl) (by simp) ?_
        refine AllReadyH.cons rfl (fun K hK => ?_) AllReadyH.nil
        go_simp
        refine (G6.out.wordR [⟨#[99,111,117,110,115,101,108,108,111,114]⟩,⟨#[98,111,97,114,100]⟩] 2 GB6.out (by omega) rfl (by omega) (by omega) (by decide)).mono ?_
        rintro e v8 ⟨x,hx,rfl,hz,hgz⟩
        have G8:=Lib.hid hz
        clear hz hgz
        refine hK.out _ _ G8.out.c5 (fun hHeld => ?_)
        clear hK K
        try simp only [pt]
        refine t1 9 rfl ?_
        try simp only [pt]
        refine wpAnyH_ready (rs:=[10]) (by kernel_rfl) (by simp) ?_
        refine AllReadyH.cons rfl (fun K hK => ?_) AllReadyH.nil
        go_simp
        refine hK.out _ _ (G8.out.alloc _).c5 (fun hHeld => ?_)
        clear hK K
        try simp only [pt]
        refine wpAnyH_ready (rs:=[11]) (by kernel_rfl) (by simp) ?_
        refine AllReadyH.cons rfl (fun K hK => ?_) AllReadyH.nil
        have OW:=Lib.hid G8.out.os
        have hlc:=G8.out.lt
        refine step_append_lies _ (by rfl) _ _ _ (by rfl) tb 73 j0 _ 2 32 Tryz.underlying27 hj hy0 hy1 hy2 rfl (by omega) vs s.shw.length (shwC s.shw) (by rfl) (OW.out.alloc _) ⟨v8.heap.size,0,none⟩ 1 1 [.string fld,.string x] (by rfl) (by rfl) (World.news_of_block (cs:=#[.string fld,.string x]) (t:=73) (fr:=(0,0)) (heap_alloc_new v8 _)) (by intro u hu; simp at hu; rcases hu with rfl | rfl <;> rfl) (by omega) (by simp only [maxLen]; omega) (by omega) (by simp; omega) (v8.heap.size+1) (by simp) ?_
        intro gg cap w12 hown12 hgr12 hat12 hlt12
        have MO:=Lib.hid (G8.out.pushS (a:=⟨fld,x⟩) hown12 hgr12 (by omega) ⟨hfs,hx⟩)
        have mc:=MO.out.2.1
        have mf:=MO.out.2.2
        clear hown12 hgr12 hat12 OW
        refine hK.out _ _ mc (fun hHeld => ?_)
        clear hK K
        try simp only [pt]
        refine t1 12 rfl ?_
        try simp only [pt]
        refine wpAnyH_done (by kernel_rfl) ?_ _
        refine lastQ_step (by rfl) (by rfl) ?_
        go_simp
        (try go_wp2_with fail)
        go_roundw
        case measure => simp [intOf]; omega
        case rel => exact ⟨k+1,_,_,by omega,by go_num,MO.out.1,(by show (s.shw ++ [_]).length ≤ k+1; rw [List.length_append]; show _+1 ≤ k+1; omega),hsa⟩
       ·go_simp
        refine (G6.out.wordR [⟨#[99,111,117,110,115,101,108,108,111,114]⟩,⟨#[98,111,97,114,100]⟩] 2 GB6.out (by omega) rfl (by omega) (by omega) (by decide)).mono ?_
        rintro e v10 ⟨x,hx,rfl,hz,hgz⟩
        have G10:=Lib.hid hz
        have hq10:Blk v10 (w10.heap.size) 9 #[.string ⟨#[119,104,97,116]⟩,.string ⟨#[114,101,115,112,111,110,100,101,110,116]⟩,.string ⟨#[100,97,121]⟩,.string ⟨#[100,101,112,97,114,116,109,101,110,116]⟩]:=(hgz.block _ GA6.out.lt (by intro e; injection e; omega)).trans GA6.out
        have GA10:=Lib.hid hq10
        clear hq10
        clear hz hgz
        refine hK.out _ _ G10.out.c5 (fun hHeld => ?_)
        clear hK K
        try simp only [pt]
        refine wpAnyH_ready (rs:=[5]) (by kernel_rfl) (by simp) ?_
        refine AllReadyH.cons rfl (fun K hK => ?_) AllReadyH.nil
        have l5:=(GA10.out.cell k).trans hw
        go_simp
        clear l5
        refine hK.out _ _ G10.out.c5 (fun hHeld => ?_)
        clear hK K
        try simp only [pt]
        refine t1 9 rfl ?_
        try simp only [pt]
        refine wpAnyH_ready (rs:=[10]) (by kernel_rfl) (by simp) ?_
        refine AllReadyH.cons rfl (fun K hK => ?_) AllReadyH.nil
        go_simp
        refine hK.out _ _ (G10.out.alloc _).c5 (fun hHeld => ?_)
        clear hK K
        try simp only [pt]
        refine wpAnyH_ready (rs:=[11]) (by kernel_rfl) (by simp) ?_
        refine AllReadyH.cons rfl (fun K hK => ?_) AllReadyH.nil
        have OW:=Lib.hid G10.out.os
        have hlc:=G10.out.lt
        refine step_append_lies _ (by rfl) _ _ _ (by rfl) tb 73 j0 _ 2 32 Tryz.underlying27 hj hy0 hy1 hy2 rfl (by omega) vs s.shw.length (shwC s.shw) (by rfl) (OW.out.alloc _) ⟨v10.heap.size,0,none⟩ 1 1 [.string fld,.string x] (by rfl) (by rfl) (World.news_of_block (cs:=#[.string fld,.string x]) (t:=73) (fr:=(0,0)) (heap_alloc_new v10 _)) (by intro u hu; simp at hu; rcases hu with rfl | rfl <;> rfl) (by omega) (by simp only [maxLen]; omega) (by omega) (by simp; omega) (v10.heap.size+1) (by simp) ?_
        intro gg cap w12 hown12 hgr12 hat12 hlt12
        have MO:=Lib.hid (G10.out.pushS (a:=⟨fld,x⟩) hown12 hgr12 (by omega) ⟨hfs,hx⟩)
        have mc:=MO.out.2.1
        have mf:=MO.out.2.2
        clear hown12 hgr12 hat12 OW
        refine hK.out _ _ mc (fun hHeld => ?_)
        clear hK K
        try simp only [pt]
        refine t1 12 rfl ?_
        try simp only [pt]
        refine wpAnyH_done (by kernel_rfl) ?_ _
        refine lastQ_step (by rfl) (by rfl) ?_
        go_simp
        (try go_wp2_with fail)
        go_roundw
        case measure => simp [intOf]; omega
        case rel => exact ⟨k+1,_,_,by omega,by go_num,MO.out.1,(by show (s.shw ++ [_]).length ≤ k+1; rw [List.length_append]; show _+1 ≤ k+1; omega),hsa⟩
     ·go_simp
      have G13:=Lib.hid (HD10.out.alloc (.cells #[.string ⟨#[99,111,117,110,115,101,108,108,111,114]⟩,.string ⟨#[98,111,97,114,100]⟩] 9))
      have hq13:Blk (w10.drew.alloc (.cells #[.string ⟨#[99,111,117,110,115,101,108,108,111,114]⟩,.string ⟨#[98,111,97,114,100]⟩] 9)) (w10.heap.size) 9 #[.string ⟨#[99,111,117,110,115,101,108,108,111,114]⟩,.string ⟨#[98,111,97,114,100]⟩]:=by
       have h:=Blk.new w10.drew 9 #[.string ⟨#[99,111,117,110,115,101,108,108,111,114]⟩,.string ⟨#[98,111,97,114,100]⟩]
       first | exact h | (rw [World.size_alloc] at h; exact h)
      have GB13:=Lib.hid hq13
      clear hq13
      refine hK.out _ _ G13.out.c5 (fun hHeld => ?_)
      clear hK K
      try simp only [pt]
      refine wpAnyH_ready (rs:=[2,8]) (by kernel_rfl) (by simp) ?_
      refine AllReadyH.cons rfl (fun K hK => ?_) (AllReadyH.cons rfl (fun K hK => ?_) AllReadyH.nil)
      ·go_simp
       have G14:=Lib.hid (G13.out.alloc (.cells #[.string ⟨#[119,104,97,116]⟩,.string ⟨#[114,101,115,112,111,110,100,101,110,116]⟩,.string ⟨#[100,97,121]⟩,.string ⟨#[100,101,112,97,114,116,109,101,110,116]⟩] 9))
       have hq14:Blk ((w10.drew.alloc (.cells #[.string ⟨#[99,111,117,110,115,101,108,108,111,114]⟩,.string ⟨#[98,111,97,114,100]⟩] 9)).alloc (.cells #[.string ⟨#[119,104,97,116]⟩,.string ⟨#[114,101,115,112,111,110,100,101,110,116]⟩,.string ⟨#[100,97,121]⟩,.string ⟨#[100,101,112,97,114,116,109,101,110,116]⟩] 9)) (w10.heap.size+1) 9 #[.string ⟨#[119,104,97,116]⟩,.string ⟨#[114,101,115,112,111,110,100,101,110,116]⟩,.string ⟨#[100,97,121]⟩,.string ⟨#[100,101,112,97,114,116,109,101,110,116]⟩]:=by
        have h:=Blk.new (w10.drew.alloc (.cells #[.string ⟨#[99,111,117,110,115,101,108,108,111,114]⟩,.string ⟨#[98,111,97,114,100]⟩] 9)) 9 #[.string ⟨#[119,104,97,116]⟩,.string ⟨#[114,101,115,112,111,110,100,101,110,116]⟩,.string ⟨#[100,97,121]⟩,.string ⟨#[100,101,112,97,114,116,109,101,110,116]⟩]
        first | exact h | (rw [World.size_alloc] at h; exact h)
       have GA14:=Lib.hid hq14
       clear hq14
       have GB14:=Lib.hid (GB13.out.alloc (.cells #[.string ⟨#[119,104,97,116]⟩,.string ⟨#[114,101,115,112,111,110,100,101,110,116]⟩,.string ⟨#[100,97,121]⟩,.string ⟨#[100,101,112,97,114,116,109,101,110,116]⟩] 9))
       refine hK.out _ _ G14.out.c5 (fun hHeld => ?_)
       clear hK K
       try simp only [pt]
       refine t1 4 rfl ?_
       try simp only [pt]
       refine wpAnyH_ready (rs:=[5,8]) (by kernel_rfl) (by simp) ?_
       refine AllReadyH.cons rfl (fun K hK => ?_) (AllReadyH.cons rfl (fun K hK => ?_) AllReadyH.nil)
       ·have l5:=(GA14.out.cell k).trans hw
        go_simp
        clear l5
        refine hK.out _ _ G14.out.c5 (fun hHeld => ?_)
        clear hK K
        try simp only [pt]
        refine wpAnyH_ready (rs:=[8]) (by kernel_rfl) (by simp) ?_
        refine AllReadyH.cons rfl (fun K hK => ?_) AllReadyH.nil
        go_simp
        refine (G14.out.wordR [⟨#[99,111,117,110,115,101,108,108,111,114]⟩,⟨#[98,111,97,114,100]⟩] 2 GB14.out (by omega) rfl (by omega) (by omega) (by decide)).mono ?_
        rintro e v16 ⟨x,hx,rfl,hz,hgz⟩
        have G16:=Lib.hid hz
        clear hz hgz
        refine hK.out _ _ G16.out.c5 (fun hHeld => ?_)
        clear hK K
        try simp only [pt]
        refine t1 9 rfl ?_
        try simp only [pt]
        refine wpAnyH_ready (rs:=[10]) (by kernel_rfl) (by simp) ?_
        refine AllReadyH.cons rfl (fun K hK => ?_) AllReadyH.nil
        go_simp
        refine hK.out _ _ (G16.out.alloc _).c5 (fun hHeld => ?_)
        clear hK K
        try simp only [pt]
        refine wpAnyH_ready (rs:=[11]) (by kernel_rfl) (by simp) ?_
        refine AllReadyH.cons rfl (fun K hK => ?_) AllReadyH.nil
        have OW:=Lib.hid G16.out.os
        have hlc:=G16.out.lt
        refine step_append_lies _ (by rfl) _ _ _ (by rfl) tb 73 j0 _ 2 32 Tryz.underlying27 hj hy0 hy1 hy2 rfl (by omega) vs s.shw.length (shwC s.shw) (by rfl) (OW.out.alloc _) ⟨v16.heap.size,0,none⟩ 1 1 [.string fld,.string x] (by rfl) (by rfl) (World.news_of_block (cs:=#[.string fld,.string x]) (t:=73) (fr:=(0,0)) (heap_alloc_new v16 _)) (by intro u hu; simp at hu; rcases hu with rfl | rfl <;> rfl) (by omega) (by simp only [maxLen]; omega) (by omega) (by simp; omega) (v16.heap.size+1) (by simp) ?_
        intro gg cap w12 hown12 hgr12 hat12 hlt12
        have MO:=Lib.hid (G16.out.pushS (a:=⟨fld,x⟩) hown12 hgr12 (by omega) ⟨hfs,hx⟩)
        have mc:=MO.out.2.1
        have mf:=MO.out.2.2
        clear hown12 hgr12 hat12 OW
        refine hK.out _ _ mc (fun hHeld => ?_)
        clear hK K
        try simp only [pt]
        refine t1 12 rfl ?_
        try simp only [pt]
        refine wpAnyH_done (by kernel_rfl) ?_ _
        refine lastQ_step (by rfl) (by rfl) ?_
        go_simp
        (try go_wp2_with fail)
        go_roundw
        case measure => simp [intOf]; omega
        case rel => exact ⟨k+1,_,_,by omega,by go_num,MO.out.1,(by show (s.shw ++ [_]).length ≤ k+1; rw [List.length_append]; show _+1 ≤ k+1; omega),hsa⟩
       ·go_simp
        refine (G14.out.wordR [⟨#[99,111,117,110,115,101,108,108,111,114]⟩,⟨#[98,111,97,114,100]⟩] 2 GB14.out (by omega) rfl (by omega) (by omega) (by decide)).mono ?_
        rintro e v18 ⟨x,hx,rfl,hz,hgz⟩
        have G18:=Lib.hid hz
        have hq18:Blk v18 (w10.heap.size+1) 9 #[.string ⟨#[119,104,97,116]⟩,.string ⟨#[114,101,115,112,111,110,100,101,110,116]⟩,.string ⟨#[100,97,121]⟩,.string ⟨#[100,101,112,97,114,116,109,101,110,116]⟩]:=(hgz.block _ GA14.out.lt (by intro e; injection e; omega)).trans GA14.out
        have GA18:=Lib.hid hq18
        clear hq18
        clear hz hgz
        refine hK.out _ _ G18.out.c5 (fun hHeld => ?_)
        clear hK K
        try simp only [pt]
        refine wpAnyH_ready (rs:=[5]) (by kernel_rfl) (by simp) ?_
        refine AllReadyH.cons rfl (fun K hK => ?_) AllReadyH.nil
        have l5:=(GA18.out.cell k).trans hw
        go_simp
        clear l5
        refine hK.out _ _ G18.out.c5 (fun hHeld => ?_)
        clear hK K
        try simp only [pt]
        refine t1 9 rfl ?_
        try simp only [pt]
        refine wpAnyH_ready (rs:=[10]) (by kernel_rfl) (by simp) ?_
        refine AllReadyH.cons rfl (fun K hK => ?_) AllReadyH.nil
        go_simp
        refine hK.out _ _ (G18.out.alloc _).c5 (fun hHeld => ?_)
        clear hK K
        try simp only [pt]
        refine wpAnyH_ready (rs:=[11]) (by kernel_rfl) (by simp) ?_
        refine AllReadyH.cons rfl (fun K hK => ?_) AllReadyH.nil
        have OW:=Lib.hid G18.out.os
        have hlc:=G18.out.lt
        refine step_append_lies _ (by rfl) _ _ _ (by rfl) tb 73 j0 _ 2 32 Tryz.underlying27 hj hy0 hy1 hy2 rfl (by omega) vs s.shw.length (shwC s.shw) (by rfl) (OW.out.alloc _) ⟨v18.heap.size,0,none⟩ 1 1 [.string fld,.string x] (by rfl) (by rfl) (World.news_of_block (cs:=#[.string fld,.string x]) (t:=73) (fr:=(0,0)) (heap_alloc_new v18 _)) (by intro u hu; simp at hu; rcases hu with rfl | rfl <;> rfl) (by omega) (by simp only [maxLen]; omega) (by omega) (by simp; omega) (v18.heap.size+1) (by simp) ?_
        intro gg cap w12 hown12 hgr12 hat12 hlt12
        have MO:=Lib.hid (G18.out.pushS (a:=⟨fld,x⟩) hown12 hgr12 (by omega) ⟨hfs,hx⟩)
        have mc:=MO.out.2.1
        have mf:=MO.out.2.2
        clear hown12 hgr12 hat12 OW
        refine hK.out _ _ mc (fun hHeld => ?_)
        clear hK K
        try simp only [pt]
        refine t1 12 rfl ?_
        try simp only [pt]
        refine wpAnyH_done (by kernel_rfl) ?_ _
        refine lastQ_step (by rfl) (by rfl) ?_
        go_simp
        (try go_wp2_with fail)
        go_roundw
        case measure => simp [intOf]; omega
        case rel => exact ⟨k+1,_,_,by omega,by go_num,MO.out.1,(by show (s.shw ++ [_]).length ≤ k+1; rw [List.length_append]; show _+1 ≤ k+1; omega),hsa⟩
      ·go_simp
       refine (G13.out.wordR [⟨#[99,111,117,110,115,101,108,108,111,114]⟩,⟨#[98,111,97,114,100]⟩] 2 GB13.out (by omega) rfl (by omega) (by omega) (by decide)).mono ?_
       rintro e v21 ⟨x,hx,rfl,hz,hgz⟩
       have G21:=Lib.hid hz
       clear hz hgz
       refine hK.out _ _ G21.out.c5 (fun hHeld => ?_)
       clear hK K
       try simp only [pt]
       refine wpAnyH_ready (rs:=[2]) (by kernel_rfl) (by simp) ?_
       refine AllReadyH.cons rfl (fun K hK => ?_) AllReadyH.nil
       go_simp
       have G22:=Lib.hid (G21.out.alloc (.cells #[.string ⟨#[119,104,97,116]⟩,.string ⟨#[114,101,115,112,111,110,100,101,110,116]⟩,.string ⟨#[100,97,121]⟩,.string ⟨#[100,101,112,97,114,116,109,101,110,116]⟩] 9))
       have hq22:Blk (v21.alloc (.cells #[.string ⟨#[119,104,97,116]⟩,.string ⟨#[114,101,115,112,111,110,100,101,110,116]⟩,.string ⟨#[100,97,121]⟩,.string ⟨#[100,101,112,97,114,116,109,101,110,116]⟩] 9)) (v21.heap.size) 9 #[.string ⟨#[119,104,97,116]⟩,.string ⟨#[114,101,115,112,111,110,100,101,110,116]⟩,.string ⟨#[100,97,121]⟩,.string ⟨#[100,101,112,97,114,116,109,101,110,116]⟩]:=by
        have h:=Blk.new v21 9 #[.string ⟨#[119,104,97,116]⟩,.string ⟨#[114,101,115,112,111,110,100,101,110,116]⟩,.string ⟨#[100,97,121]⟩,.string ⟨#[100,101,112,97,114,116,109,101,110,116]⟩]
        first | exact h | (rw [World.size_alloc] at h; exact h)
       have GA22:=Lib.hid hq22
       clear hq22
       refine hK.out _ _ G22.out.c5 (fun hHeld => ?_)
       clear hK K
       try simp only [pt]
       obtain ⟨wc22,hwc⟩:∃ wc,(v21.alloc (.cells #[.string ⟨#[119,104,97,116]⟩,.string ⟨#[114,101,115,112,111,110,100,101,110,116]⟩,.string ⟨#[100,97,121]⟩,.string ⟨#[100,101,112,97,114,116,109,101,110,116]⟩] 9))=wc:=⟨_,rfl⟩
       rw [hwc] at G22 GA22 hHeld ⊢
       clear hwc
       refine t1 4 rfl ?_
       try simp only [pt]
       refine wpAnyH_ready (rs:=[5]) (by kernel_rfl) (by simp) ?_
       refine AllReadyH.cons rfl (fun K hK => ?_) AllReadyH.nil
       have l5:=(GA22.out.cell k).trans hw
       go_simp
       clear l5
       refine hK.out _ _ G22.out.c5 (fun hHeld => ?_)
       clear hK K
       try simp only [pt]
       refine t1 9 rfl ?_
       try simp only [pt]
       refine wpAnyH_ready (rs:=[10]) (by kernel_rfl) (by simp) ?_
       refine AllReadyH.cons rfl (fun K hK => ?_) AllReadyH.nil
       go_simp
       refine hK.out _ _ (G22.out.alloc _).c5 (fun hHeld => ?_)
       clear hK K
       try simp only [pt]
       refine wpAnyH_ready (rs:=[11]) (by kernel_rfl) (by simp) ?_
       refine AllReadyH.cons rfl (fun K hK => ?_) AllReadyH.nil
       have OW:=Lib.hid G22.out.os
       have hlc:=G22.out.lt
       refine step_append_lies _ (by rfl) _ _ _ (by rfl) tb 73 j0 _ 2 32 Tryz.underlying27 hj hy0 hy1 hy2 rfl (by omega) vs s.shw.length (shwC s.shw) (by rfl) (OW.out.alloc _) ⟨wc22.heap.size,0,none⟩ 1 1 [.string fld,.string x] (by rfl) (by rfl) (World.news_of_block (cs:=#[.string fld,.string x]) (t:=73) (fr:=(0,0)) (heap_alloc_new wc22 _)) (by intro u hu; simp at hu; rcases hu with rfl | rfl <;> rfl) (by omega) (by simp only [maxLen]; omega) (by omega) (by simp; omega) (wc22.heap.size+1) (by simp) ?_
       intro gg cap w12 hown12 hgr12 hat12 hlt12
       have MO:=Lib.hid (G22.out.pushS (a:=⟨fld,x⟩) hown12 hgr12 (by omega) ⟨hfs,hx⟩)
       have mc:=MO.out.2.1
       have mf:=MO.out.2.2
       clear hown12 hgr12 hat12 OW
       refine hK.out _ _ mc (fun hHeld => ?_)
       clear hK K
       try simp only [pt]
       refine t1 12 rfl ?_
       try simp only [pt]
       refine wpAnyH_done (by kernel_rfl) ?_ _
       refine lastQ_step (by rfl) (by rfl) ?_
       go_simp
       (try go_wp2_with fail)
       go_roundw
       case measure => simp [intOf]; omega
       case rel => exact ⟨k+1,_,_,by omega,by go_num,MO.out.1,(by show (s.shw ++ [_]).length ≤ k+1; rw [List.length_append]; show _+1 ≤ k+1; omega),hsa⟩
    ·have q3:¬ (k:Int) < (r5:Int):=by omega
     have h10:=H10.out
     obtain ⟨Aa,ca,Ac',nc',cc',As,cs,e1,e2,e3,-⟩:=h10.fin
     have e2':=e2
     injection e2' with e4 e5 e6
     subst e1
     subst e3
     obtain ⟨na,hna⟩:∃ na,s.ans.length=na:=⟨_,rfl⟩
     obtain ⟨ns,hns⟩:∃ ns,s.shw.length=ns:=⟨_,rfl⟩
     rw [hna,hns] at h10
     have HX:=Lib.hid h10
     have c0:=(h10.blk.cell 0).trans (show _=some (Value.string s.resp) from rfl)
     have c1:=(h10.blk.cell 1).trans (show _=some (Value.int .i64 s.dep) from rfl)
     have c2:=(h10.blk.cell 2).trans (show _=some (Value.int .i64 s.day) from rfl)
     have c3:=(h10.blk.cell 3).trans (show _=some (Value.slice Aa na ca) from rfl)
     have c4:=(h10.blk.cell 4).trans (show _=some (Value.slice Ac nc cc) from rfl)
     have c5:=(h10.blk.cell 5).trans (show _=some (Value.slice As ns cs) from rfl)
     have r0:=(h10.res.cell 0).trans (show _=some (Value.string ⟨#[]⟩) from rfl)
     have r1:=(h10.res.cell 1).trans (show _=some (Value.int .i64 0) from rfl)
     have r2:=(h10.res.cell 2).trans (show _=some (Value.int .i64 0) from rfl)
     have r3:=(h10.res.cell 3).trans (show _=some (Value.slice none 0 0) from rfl)
     have r4:=(h10.res.cell 4).trans (show _=some (Value.slice none 0 0) from rfl)
     have r5:=(h10.res.cell 5).trans (show _=some (Value.slice none 0 0) from rfl)
     have g0:=h10.res.frozen 0
     have g1:=h10.res.frozen 1
     have g2:=h10.res.frozen 2
     have g3:=h10.res.frozen 3
     have g4:=h10.res.frozen 4
     have g5:=h10.res.frozen 5
     clear h10 H10 hna hns e2 e4 e5 e6
     go_wp2_with fail
     obtain ⟨Aa',ca',Ac'',nc'',cc'',As',cs',e1,e2,e3,fin⟩:=HX.out.fin
     obtain ⟨fin,hb⟩:=fin _ rfl
     refine bodyPost_ret (v:=.agg #[.string s.resp,.int .i64 s.dep,.int .i64 s.day,.slice Aa na ca,.slice Ac nc cc,.slice As ns cs]) ?_ rfl fin
     simp [results,Tryz.results11,go_sem,(hb.cell 0).trans (show _=some (Value.string s.resp) from rfl),(hb.cell 1).trans (show _=some (Value.int .i64 s.dep) from rfl),(hb.cell 2).trans (show _=some (Value.int .i64 s.day) from rfl),(hb.cell 3).trans (show _=some (Value.slice Aa na ca) from rfl),(hb.cell 4).trans (show _=some (Value.slice Ac nc cc) from rfl),(hb.cell 5).trans (show _=some (Value.slice As ns cs) from rfl)]
end Go.Proofs.YtgdngfdeeadlnaaGreatDoor

/- Contracts: Value, by the reference. -/
import Derived.Test.YtgdngfdeeadlnaaGreatDoorY42
import Derived.Test.YtgdngfdeeadlnaaGreatDoorCzRefC
set_option linter.unusedVariables false
set_option linter.unusedSimpArgs false
namespace Go.Proofs.YtgdngfdeeadlnaaGreatDoor
open Go.RowKit Num
theorem r_ParseD (t : ByteArray) (w : World) (hl : t.size ≤ 1000) :
  Calls Tryz.prog 46 #[.string t] w fun e w' => e=.returned (.tuple #[.int .i64 (Cal.prN t.data.toList),.int .i64 (Cal.prE t.data.toList)]) ∧ Below w.heap.size w w':=by
 have:=Cal.ref_Parse t.data.toList w (Nat.le_trans (Nat.le_of_eq Array.length_toList) hl)
 rwa [← Cal.ba_eta t] at this
set_option maxRecDepth 100000 in
set_option maxHeartbeats 4000000 in
theorem r_Value (title nm t : ByteArray) (vf : Value) (L : List Fld) (w : World) (hF : FldsAt w (· < w.heap.size) vf L) (hok : FormOk title L) (hnm : ∀ f ∈ L,f.name.size ≤ maxLen ∧ f.opts.length ≤ 1000000) (hp : ParOk w) (hsp : SpcOk w) (ht : t.size ≤ 1000) :
  Calls Tryz.prog 20 #[.agg #[.string title,vf],.string nm,.string t] w (ValE (valS dayD (validB title L) L nm t) w):=by
 have hmx:Tryz.prog.follows .mixedOrders=true:=by kernel_rfl
 obtain ⟨Af,nf,cf,rfl,hnf,hnc,hfc⟩:=id hF
 obtain ⟨w2,hw2⟩:∃ w2,(w.alloc (.cells #[.string title,.slice Af nf cf] 37)).alloc (.cells #[.string ⟨#[]⟩,.string ⟨#[]⟩,.int .i64 0] 50)=w2:=⟨_,rfl⟩
 have hb2:Below w.heap.size w w2:=by rw [← hw2]; exact ((Below.refl _ _).alloc (Nat.le_refl _) _).alloc (by simp) _
 have hbf:Blk w2 w.heap.size 37 #[.string title,.slice Af nf cf]:=by rw [← hw2]; exact (Blk.new w _ _).alloc _
 have hbr:Blk w2 (w.heap.size+1) 50 #[.string ⟨#[]⟩,.string ⟨#[]⟩,.int .i64 0]:=by
  rw [← hw2]
  have:=Blk.new (w.alloc (.cells #[.string title,.slice Af nf cf] 37)) 50 #[.string ⟨#[]⟩,.string ⟨#[]⟩,.int .i64 0]
  rwa [World.size_alloc] at this
 have up:∀ W,Below w.heap.size w W → FldsAt W (· < W.heap.size) (.slice Af nf cf) L:=fun W hW => (hF.keep fun b hB => hW.block b hB).mono fun b hB => Nat.lt_of_lt_of_le hB hW.size
 have hl:=hok.2.1
 have hva:=r_ValidF title (.slice Af nf cf) L _ _ (up _ hb2) (fun b h => h) hok (hp.later hb2).lib (spc_below hsp (by have:=hp.size; show 0 < _; omega) hb2)
 have hfnd:=fun W (hW:Below w.heap.size w W) => r_Find title nm (.slice Af nf cf) L (· < W.heap.size) W (up W hW) (fun b h => h) hl
 have HFND:=Lib.hid hfnd
 have HVA:=Lib.hid hva
 have HFC:=Lib.hid hfc
 have HNF:=Lib.hid hnf
 have HNM:=Lib.hid hnm
 have HP:=Lib.hid (fun W (hW:Below w.heap.size w W) => hp.later hW)
 have K0:=Lib.hid (And.intro hb2 (And.intro hbf hbr))
 have HOL:=Lib.hid hl
 have c0:=(hbf.cell 0).trans (show _=some (Value.string title) from rfl)
 have c1:=(hbf.cell 1).trans (show _=some (Value.slice Af nf cf) from rfl)
 clear hb2 hbf hbr up hva hfnd hF hok hnm hp hfc hnf hl hsp
 go_enter Tryz.func20,Tryz.ntmps20
 go_upto_region 1 with fail
 try rw [hw2]
 clear hw2
 go_wp2_with fail
 refine HVA.out.mono ?_
 rintro e w3 ⟨rfl,hb3⟩
 have K3:=Lib.hid (show Below w.heap.size w w3 ∧ Blk w3 w.heap.size 37 #[.string title,.slice Af nf cf] ∧ Blk w3 (w.heap.size+1) 50 #[.string ⟨#[]⟩,.string ⟨#[]⟩,.int .i64 0] from ⟨K0.out.1.trans (hb3.mono K0.out.1.size),K0.out.2.1.below' hb3 K0.out.2.1.lt,K0.out.2.2.below' hb3 K0.out.2.2.lt⟩)
 clear hb3 K0 HVA c0 c1
 cases hv:validB title L
 ·try rw [hv]
  have hr:=K3.out.2.2
  have r0:=(hr.cell 0).trans (show _=some (Value.string ⟨#[]⟩) from rfl)
  have r1:=(hr.cell 1).trans (show _=some (Value.string ⟨#[]⟩) from rfl)
  have r2:=(hr.cell 2).trans (show _=some (Value.int .i64 0) from rfl)
  have g0:=hr.frozen 0
  have g1:=hr.frozen 1
  have g2:=hr.frozen 2
  clear hr
  have HEQ:=Lib.hid (show valS dayD (validB title L) L nm t=(ans0,1) from by rw [hv]; exact valS_bad)
  go_wp2_with fail
  obtain ⟨hb,hbl,-⟩:=ansr_fin (a:=⟨⟨#[]⟩,⟨#[]⟩,0⟩) K3.out.1 K3.out.2.2 _ rfl
  have HBL:=Lib.hid hb
  have hb:=HBL.out
  refine bodyPost_ret (v:=.tuple #[.agg #[.string ⟨#[]⟩,.string ⟨#[]⟩,.int .i64 0],.int .i64 1]) ?_ rfl ⟨by rw [HEQ.out]; rfl,hbl⟩
  simp [results,Tryz.results20,go_sem,(hb.cell 0).trans (show _=some (Value.string ⟨#[]⟩) from rfl),(hb.cell 1).trans (show _=some (Value.string ⟨#[]⟩) from rfl),(hb.cell 2).trans (show _=some (Value.int .i64 0) from rfl)]
 ·try rw [hv]
  have c0:=(K3.out.2.1.cell 0).trans (show _=some (Value.string title) from rfl)
  have c1:=(K3.out.2.1.cell 1).trans (show _=some (Value.slice Af nf cf) from rfl)
  go_wp2_with fail
  refine (HFND.out w3 K3.out.1).mono ?_
  rintro e w4 ⟨rfl,hb4⟩
  have K4:=Lib.hid (show Below w.heap.size w w4 ∧ Blk w4 w.heap.size 37 #[.string title,.slice Af nf cf] ∧ Blk w4 (w.heap.size+1) 50 #[.string ⟨#[]⟩,.string ⟨#[]⟩,.int .i64 0] from ⟨K3.out.1.trans (hb4.mono K3.out.1.size),K3.out.2.1.below' hb4 K3.out.2.1.lt,K3.out.2.2.below' hb4 K3.out.2.2.lt⟩)
  clear hb4 K3 HFND c0 c1
  cases hfs:fstF L nm with
  | none =>
   try rw [hfs]
   dsimp only [Option.isSome,Option.getD]
   have hr:=K4.out.2.2
   have r0:=(hr.cell 0).trans (show _=some (Value.string ⟨#[]⟩) from rfl)
   have r1:=(hr.cell 1).trans (show _=some (Value.string ⟨#[]⟩) from rfl)
   have r2:=(hr.cell 2).trans (show _=some (Value.int .i64 0) from rfl)
   have g0:=hr.frozen 0
   have g1:=hr.frozen 1
   have g2:=hr.frozen 2
   clear hr
   have HEQ:=Lib.hid (show valS dayD (validB title L) L nm t=(ans0,13) from by rw [hv]; exact valS_miss hfs)
   go_wp2_with fail
   obtain ⟨hb,hbl,-⟩:=ansr_fin (a:=⟨⟨#[]⟩,⟨#[]⟩,0⟩) K4.out.1 K4.out.2.2 _ rfl
   have HBL:=Lib.hid hb
   have hb:=HBL.out
   refine bodyPost_ret (v:=.tuple #[.agg #[.string ⟨#[]⟩,.string ⟨#[]⟩,.int .i64 0],.int .i64 13]) ?_ rfl ⟨by rw [HEQ.out]; rfl,hbl⟩
   simp [results,Tryz.results20,go_sem,(hb.cell 0).trans (show _=some (Value.string ⟨#[]⟩) from rfl),(hb.cell 1).trans (show _=some (Value.string ⟨#[]⟩) from rfl),(hb.cell 2).trans (show _=some (Value.int .i64 0) from rfl)]
  | some i =>
   try rw [hfs]
   dsimp only [Option.isSome,Option.getD]
   obtain ⟨hiL,hin⟩:=fstF_at hfs
   have hhit:=valS_hit (D:=dayD) (t:=t) hfs
   rw [← hv] at hhit
   have hin':i < nf:=by have:=HNF.out; omega
   have hopl:=(HNM.out (fldAt L i) (by unfold fldAt; rw [List.getD_eq_getElem?_getD,List.getElem?_eq_getElem hiL]; exact List.getElem_mem hiL)).2
   obtain ⟨b,off,rfl,hbs,hcc⟩:=HFC.out (by omega)
   have hf:=hcc i hin'
   obtain ⟨F,hFe⟩:∃ F,fldAt L i=F:=⟨_,rfl⟩
   rw [hFe] at hf hin hhit hopl
   obtain ⟨x0,x1,x2,x3,x4,vo,x5,ho⟩:=hf
   obtain ⟨Ao,no,co,rfl,-⟩:=id ho
   have HH:=Lib.hid hhit
   have HO:=Lib.hid ho
   have HOPL:=Lib.hid hopl
   have fcell:∀ W,Below w.heap.size w W → W.cell? ⟨b,off+i*6,none⟩=some (.string F.name) ∧ W.cell? ⟨b,off+i*6+1,none⟩=some (.int .i64 F.kind) ∧ W.cell? ⟨b,off+i*6+2,none⟩=some (.bool F.need) ∧ W.cell? ⟨b,off+i*6+3,none⟩=some (.int .i64 F.least) ∧ W.cell? ⟨b,off+i*6+4,none⟩=some (.int .i64 F.most) ∧ W.cell? ⟨b,off+i*6+5,none⟩=some (.slice Ao no co):=fun W hW =>
    ⟨(hW.cell (p:=⟨b,off+i*6,none⟩) hbs).trans x0,(hW.cell (p:=⟨b,off+i*6+1,none⟩) hbs).trans x1,(hW.cell (p:=⟨b,off+i*6+2,none⟩) hbs).trans x2,(hW.cell (p:=⟨b,off+i*6+3,none⟩) hbs).trans x3,(hW.cell (p:=⟨b,off+i*6+4,none⟩) hbs).trans x4,(hW.cell (p:=⟨b,off+i*6+5,none⟩) hbs).trans x5⟩
   have FC:=Lib.hid fcell
   have HIN:=Lib.hid hin
   have hti:(i:Int).toNat=i:=by omega
   have zi:(i:Int) < (nf:Int):=by omega
   have z0:(0:Int) ≤ (i:Int):=by omega
   have c1:=(K4.out.2.1.cell 1).trans (show _=some (Value.slice (some ⟨b,off,none⟩) nf cf) from rfl)
   clear hcc hfs hhit hopl ho hFe x0 x1 x2 x3 x4 x5 fcell hin HNM hv HFC
   have hbn:=Blk.new w4 50 #[.string nm,.string t,.int .i64 0]
   have K6:=Lib.hid (show Below w.heap.size w (w4.alloc (.cells #[.string nm,.string t,.int .i64 0] 50)) ∧ Blk (w4.alloc (.cells #[.string nm,.string t,.int .i64 0] 50)) w.heap.size 37 #[.string title,.slice (some ⟨b,off,none⟩) nf cf] ∧ Blk (w4.alloc (.cells #[.string nm,.string t,.int .i64 0] 50)) (w.heap.size+1) 50 #[.string ⟨#[]⟩,.string ⟨#[]⟩,.int .i64 0] from ⟨K4.out.1.alloc K4.out.1.size _,K4.out.2.1.alloc _,K4.out.2.2.alloc _⟩)
   have HA:=Lib.hid hbn
   go_upto_region 7 with fail
   generalize w4.alloc (.cells #[.string nm,.string t,.int .i64 0] 50)=w6 at K6 HA ⊢
   have hab:w.heap.size+1 < w4.heap.size:=K4.out.2.2.lt
   generalize w4.heap.size=ab at HA hab ⊢
   clear hbn c1 K4
   have c1:=(K6.out.2.1.cell 1).trans (show _=some (Value.slice (some ⟨b,off,none⟩) nf cf) from rfl)
   have y1:=(FC.out w6 K6.out.1).2.1
   have hnmF:=HIN.out
   subst hnmF
   by_cases k2:F.kind=2
   ·have k2':(F.kind == (2:Int))=true:=by rw [k2]; rfl
    rw [k2] at y1
    have HK2:=Lib.hid k2
    clear k2
    have d1:=(HA.out.cell 1).trans (show _=some (Value.string t) from rfl)
    have dz:=HA.out.frozen 1
    have hg:w6.grownBy (w6.setCell ⟨ab,1,none⟩ (.string ⟨#[]⟩)) (some ab):=grown_setCell w6 ⟨ab,1,none⟩ (.string ⟨#[]⟩)
    have HA7:=Lib.hid (show Blk (w6.setCell ⟨ab,1,none⟩ (.string ⟨#[]⟩)) ab 50 #[.string F.name,.string ⟨#[]⟩,.int .i64 0] from HA.out.set_ 1 _)
    have K7:=Lib.hid (show Below w.heap.size w (w6.setCell ⟨ab,1,none⟩ (.string ⟨#[]⟩)) ∧ Blk (w6.setCell ⟨ab,1,none⟩ (.string ⟨#[]⟩)) w.heap.size 37 #[.string title,.slice (some ⟨b,off,none⟩) nf cf] ∧ Blk (w6.setCell ⟨ab,1,none⟩ (.string ⟨#[]⟩)) (w.heap.size+1) 50 #[.string ⟨#[]⟩,.string ⟨#[]⟩,.int .i64 0] from ⟨K6.out.1.setCell (by show _ ≤ ab; omega) _,(hg.block _ K6.out.2.1.lt (fun e => by injection e; omega)).trans K6.out.2.1,(hg.block _ K6.out.2.2.lt (fun e => by injection e; omega)).trans K6.out.2.2⟩)
    go_upto_region 10 with fail
    generalize w6.setCell ⟨ab,1,none⟩ (.string ⟨#[]⟩)=w7 at K7 HA7 ⊢
    clear hg
    clear d1 dz c1 y1
    go_wp2_with fail
    refine (r_decimal t w7 (HP.out w7 K7.out.1).tab ht).mono ?_
    rintro e w8 ⟨n,ok,rfl,hok,hval,-,hb8⟩
    have K8:=Lib.hid (show Below w.heap.size w w8 ∧ Blk w8 w.heap.size 37 #[.string title,.slice (some ⟨b,off,none⟩) nf cf] ∧ Blk w8 (w.heap.size+1) 50 #[.string ⟨#[]⟩,.string ⟨#[]⟩,.int .i64 0] from ⟨K7.out.1.trans (hb8.mono K7.out.1.size),K7.out.2.1.below' hb8 K7.out.2.1.lt,K7.out.2.2.below' hb8 K7.out.2.2.lt⟩)
    have HA8:=Lib.hid (HA7.out.below' hb8 HA7.out.lt)
    have HOKV:=Lib.hid (And.intro hok hval)
    have d2:=(HA8.out.cell 2).trans (show _=some (Value.int .i64 0) from rfl)
    have dz:=HA8.out.frozen 2
    clear hb8 hok hval K7 HA7 K6 HA
    have hg:w8.grownBy (w8.setCell ⟨ab,2,none⟩ (.int .i64 n)) (some ab):=grown_setCell w8 ⟨ab,2,none⟩ (.int .i64 n)
    have HAA:=Lib.hid (show Blk (w8.setCell ⟨ab,2,none⟩ (.int .i64 n)) ab 50 #[.string F.name,.string ⟨#[]⟩,.int .i64 n] from HA8.out.set_ 2 _)
    have KA:=Lib.hid (show Below w.heap.size w (w8.setCell ⟨ab,2,none⟩ (.int .i64 n)) ∧ Blk (w8.setCell ⟨ab,2,none⟩ (.int .i64 n)) w.heap.size 37 #[.string title,.slice (some ⟨b,off,none⟩) nf cf] ∧ Blk (w8.setCell ⟨ab,2,none⟩ (.int .i64 n)) (w.heap.size+1) 50 #[.string ⟨#[]⟩,.string ⟨#[]⟩,.int .i64 0] from ⟨K8.out.1.setCell (by show _ ≤ ab; omega) _,(hg.block _ K8.out.2.1.lt (fun e => by injection e; omega)).trans K8.out.2.1,(hg.block _ K8.out.2.2.lt (fun e => by injection e; omega)).trans K8.out.2.2⟩)
    go_upto_region 11 with fail
    generalize w8.setCell ⟨ab,2,none⟩ (.int .i64 n)=wA at KA HAA ⊢
    clear hg
    clear d2 dz
    cases ok
    ·have hno:decV t.toList=none:=by
      cases h:decV t.data.toList with
      | none => rw [data_toList]; exact h
      | some x => have:=HOKV.out.1; rw [h] at this; cases this
     have hr:=KA.out.2.2
     have r0:=(hr.cell 0).trans (show _=some (Value.string ⟨#[]⟩) from rfl)
     have r1:=(hr.cell 1).trans (show _=some (Value.string ⟨#[]⟩) from rfl)
     have r2:=(hr.cell 2).trans (show _=some (Value.int .i64 0) from rfl)
     have g0:=hr.frozen 0
     have g1:=hr.frozen 1
     have g2:=hr.frozen 2
     clear hr
     have HEQ:=Lib.hid (show valS dayD (validB title L) L F.name t=(ans0,13) from by rw [HH.out]; exact valF_none (valA_num_no HK2.out hno))
     go_wp2_with fail
     obtain ⟨hb,hbl,-⟩:=ansr_fin (a:=⟨⟨#[]⟩,⟨#[]⟩,0⟩) KA.out.1 KA.out.2.2 _ rfl
     have HBL:=Lib.hid hb
     have hb:=HBL.out
     refine bodyPost_ret (v:=.tuple #[.agg #[.string ⟨#[]⟩,.string ⟨#[]⟩,.int .i64 0],.int .i64 13]) ?_ rfl ⟨by rw [HEQ.out]; rfl,hbl⟩
     simp [results,Tryz.results20,go_sem,(hb.cell 0).trans (show _=some (Value.string ⟨#[]⟩) from rfl),(hb.cell 1).trans (show _=some (Value.string ⟨#[]⟩) from rfl),(hb.cell 2).trans (show _=some (Value.int .i64 0) from rfl)]
    ·have hyes:decV t.toList=some n:=by
      cases h:decV t.data.toList with
      | none => have:=HOKV.out.1; rw [h] at this; cases this
      | some x => rw [data_toList,h,HOKV.out.2 x h]
     have HY:=Lib.hid (valA_num (D:=dayD) HK2.out hyes)
     clear hyes
     have c1:=(KA.out.2.1.cell 1).trans (show _=some (Value.slice (some ⟨b,off,none⟩) nf cf) from rfl)
     go_upto_region 19 with fail
     clear c1
     have held:∀ W,Below wA.heap.size wA W → W.cell? ⟨w.heap.size,1,none⟩=some (.slice (some ⟨b,off,none⟩) nf cf) ∧ W.cell? ⟨b,off+i*6,none⟩=some (.string F.name) ∧ W.cell? ⟨b,off+i*6+1,none⟩=some (.int .i64 F.kind) ∧ W.cell? ⟨b,off+i*6+2,none⟩=some (.bool F.need) ∧ W.cell? ⟨b,off+i*6+3,none⟩=some (.int .i64 F.least) ∧ W.cell? ⟨b,off+i*6+4,none⟩=some (.int .i64 F.most) ∧ W.cell? ⟨b,off+i*6+5,none⟩=some (.slice Ao no co) ∧ W.cell? ⟨ab,0,none⟩=some (.string F.name) ∧ W.cell? ⟨ab,1,none⟩=some (.string ⟨#[]⟩) ∧ W.cell? ⟨ab,2,none⟩=some (.int .i64 n):=fun W hW => by
      have hk:=HAA.out.below' hW HAA.out.lt
      have hf:=KA.out.2.1.below' hW KA.out.2.1.lt
      obtain ⟨y0,y1,y2,y3,y4,y5⟩:=FC.out W (KA.out.1.trans (hW.mono KA.out.1.size))
      exact ⟨(hf.cell 1).trans rfl,y0,y1,y2,y3,y4,y5,(hk.cell 0).trans rfl,(hk.cell 1).trans rfl,(hk.cell 2).trans rfl⟩
     have HHD:=Lib.hid held
     have B_0:Hid (Below wA.heap.size wA wA.drew):=Lib.hid (Below.refl _ _).drew
     clear held
     refine wp_region_held_drew (S:=fun W => W.cell? ⟨w.heap.size,1,none⟩=some (.slice (some ⟨b,off,none⟩) nf cf) ∧ W.cell? ⟨b,off+i*6,none⟩=some (.string F.name) ∧ W.cell? ⟨b,off+i*6+1,none⟩=some (.int .i64 F.kind) ∧ W.cell? ⟨b,off+i*6+2,none⟩=some (.bool F.need) ∧ W.cell? ⟨b,off+i*6+3,none⟩=some (.int .i64 F.least) ∧ W.cell? ⟨b,off+i*6+4,none⟩=some (.int .i64 F.most) ∧ W.cell? ⟨b,off+i*6+5,none⟩=some (.slice Ao no co) ∧ W.cell? ⟨ab,0,none⟩=some (.string F.name) ∧ W.cell? ⟨ab,1,none⟩=some (.string ⟨#[]⟩) ∧ W.cell? ⟨ab,2,none⟩=some (.int .i64 n)) hmx (HHD.out _ B_0.out) (fun hHeld => ?_)
     generalize wA.drew=wD at hHeld B_0 ⊢
     (try clear hti)
     refine t1 0 rfl ?_
     try simp only [pt]
     refine t1 1 rfl ?_
     try simp only [pt]
     refine t1 2 rfl ?_
     try simp only [pt]
     refine t1 3 rfl ?_
     try simp only [pt]
     refine t1 4 rfl ?_
     try simp only [pt]
     refine t1 5 rfl ?_
     try simp only [pt]
     refine wpAnyH_ready (rs:=[6]) (by kernel_rfl) (by simp) ?_
     refine AllReadyH.cons rfl (fun Kc hKc => ?_) AllReadyH.nil
     go_simp
     refine (r_fits F ⟨F.name,⟨#[]⟩,n⟩ (.slice Ao no co) wD ((HO.out.keep fun q hq => (KA.out.1.trans (B_0.out.mono KA.out.1.size)).block q hq).mono fun q hq => Nat.lt_of_lt_of_le hq (KA.out.1.trans (B_0.out.mono KA.out.1.size)).size) HOPL.out (by first | exact Nat.zero_le _ | (show t.size ≤ _; omega))).mono ?_
     rintro e w9 ⟨rfl,hb9⟩
     have B_1:=Lib.hid (B_0.out.trans (hb9.mono B_0.out.size))
     clear hb9
     refine hKc.out _ _ (HHD.out _ B_1.out) (fun hHeld => ?_)
     clear hKc Kc
     try simp only [pt]
     refine t1 7 rfl ?_
     try simp only [pt]
     refine wpAnyH_done (by kernel_rfl) ?_ _
     have K9:=Lib.hid (show Below w.heap.size w w9 ∧ Blk w9 w.heap.size 37 #[.string title,.slice (some ⟨b,off,none⟩) nf cf] ∧ Blk w9 (w.heap.size+1) 50 #[.string ⟨#[]⟩,.string ⟨#[]⟩,.int .i64 0] from ⟨KA.out.1.trans (B_1.out.mono KA.out.1.size),KA.out.2.1.below' B_1.out KA.out.2.1.lt,KA.out.2.2.below' B_1.out KA.out.2.2.lt⟩)
     obtain ⟨-,-,-,-,-,-,-,e0,e1,e2⟩:=HHD.out _ B_1.out
     cases hft:fitsF F ⟨F.name,⟨#[]⟩,n⟩
     ·have hr:=K9.out.2.2
      have r0:=(hr.cell 0).trans (show _=some (Value.string ⟨#[]⟩) from rfl)
      have r1:=(hr.cell 1).trans (show _=some (Value.string ⟨#[]⟩) from rfl)
      have r2:=(hr.cell 2).trans (show _=some (Value.int .i64 0) from rfl)
      have g0:=hr.frozen 0
      have g1:=hr.frozen 1
      have g2:=hr.frozen 2
      clear hr
      have HEQ:=Lib.hid (show valS dayD (validB title L) L F.name t=(ans0,13) from by rw [HH.out]; exact valF_no HY.out hft)
      go_wp2_with fail
      obtain ⟨hb,hbl,-⟩:=ansr_fin (a:=⟨⟨#[]⟩,⟨#[]⟩,0⟩) K9.out.1 K9.out.2.2 _ rfl
      have HBL:=Lib.hid hb
      have hb:=HBL.out
      refine bodyPost_ret (v:=.tuple #[.agg #[.string ⟨#[]⟩,.string ⟨#[]⟩,.int .i64 0],.int .i64 13]) ?_ rfl ⟨by rw [HEQ.out]; rfl,hbl⟩
      simp [results,Tryz.results20,go_sem,(hb.cell 0).trans (show _=some (Value.string ⟨#[]⟩) from rfl),(hb.cell 1).trans (show _=some (Value.string ⟨#[]⟩) from rfl),(hb.cell 2).trans (show _=some (Value.int .i64 0) from rfl)]
     ·have hr:=K9.out.2.2
      have r0:=(hr.cell 0).trans (show _=some (Value.string ⟨#[]⟩) from rfl)
      have r1:=(hr.cell 1).trans (show _=some (Value.string ⟨#[]⟩) from rfl)
      have r2:=(hr.cell 2).trans (show _=some (Value.int .i64 0) from rfl)
      have g0:=hr.frozen 0
      have g1:=hr.frozen 1
      have g2:=hr.frozen 2
      clear hr
      have HEQ:=Lib.hid (show valS dayD (validB title L) L F.name t=(⟨F.name,⟨#[]⟩,n⟩,0) from by rw [HH.out]; exact valF_yes HY.out hft)
      go_wp2_with fail
      obtain ⟨hb,hbl,-⟩:=ansr_fin (a:=⟨F.name,⟨#[]⟩,n⟩) K9.out.1 K9.out.2.2 _ rfl
      have HBL:=Lib.hid hb
      have hb:=HBL.out
      refine bodyPost_ret (v:=.tuple #[.agg #[.string F.name,.string ⟨#[]⟩,.int .i64 n],.int .i64 0]) ?_ rfl ⟨by rw [HEQ.out],hbl⟩
      simp [results,Tryz.results20,go_sem,(hb.cell 0).trans (show _=some (Value.string F.name) from rfl),(hb.cell 1).trans (show _=some (Value.string ⟨#[]⟩) from rfl),(hb.cell 2).trans (show _=some (Value.int .i64 n) from rfl)]
   ·by_cases k3:F.kind=3
    ·have k2':(F.kind == (2:Int))=false:=by simpa using k2
     have k3':(F.kind == (3:Int))=true:=by rw [k3]; rfl
     rw [k3] at y1
     have HK3:=Lib.hid k3
     clear k3 k2 k2'
     have d1:=(HA.out.cell 1).trans (show _=some (Value.string t) from rfl)
     have dz:=HA.out.frozen 1
     obtain ⟨pn,hpn⟩:∃ pn,Cal.prN t.data.toList=pn:=⟨_,rfl⟩
     obtain ⟨pe,hpe⟩:∃ pe,Cal.prE t.data.toList=pe:=⟨_,rfl⟩
     have hg:w6.grownBy (w6.setCell ⟨ab,1,none⟩ (.string ⟨#[]⟩)) (some ab):=grown_setCell w6 ⟨ab,1,none⟩ (.string ⟨#[]⟩)
     have HA7:=Lib.hid (show Blk (w6.setCell ⟨ab,1,none⟩ (.string ⟨#[]⟩)) ab 50 #[.string F.name,.string ⟨#[]⟩,.int .i64 0] from HA.out.set_ 1 _)
     have K7:=Lib.hid (show Below w.heap.size w (w6.setCell ⟨ab,1,none⟩ (.string ⟨#[]⟩)) ∧ Blk (w6.setCell ⟨ab,1,none⟩ (.string ⟨#[]⟩)) w.heap.size 37 #[.string title,.slice (some ⟨b,off,none⟩) nf cf] ∧ Blk (w6.setCell ⟨ab,1,none⟩ (.string ⟨#[]⟩)) (w.heap.size+1) 50 #[.string ⟨#[]⟩,.string ⟨#[]⟩,.int .i64 0] from ⟨K6.out.1.setCell (by show _ ≤ ab; omega) _,(hg.block _ K6.out.2.1.lt (fun e => by injection e; omega)).trans K6.out.2.1,(hg.block _ K6.out.2.2.lt (fun e => by injection e; omega)).trans K6.out.2.2⟩)
     go_upto_region 15 with fail
     generalize w6.setCell ⟨ab,1,none⟩ (.string ⟨#[]⟩)=w7 at K7 HA7 ⊢
     clear hg
     clear d1 dz c1 y1
     have prs:=r_ParseD t w7 ht
     rw [hpn,hpe] at prs
     have HPRS:=Lib.hid prs
     clear prs
     go_wp2_with fail
     refine HPRS.out.mono ?_
     rintro e w8 ⟨rfl,hb8⟩
     have K8:=Lib.hid (show Below w.heap.size w w8 ∧ Blk w8 w.heap.size 37 #[.string title,.slice (some ⟨b,off,none⟩) nf cf] ∧ Blk w8 (w.heap.size+1) 50 #[.string ⟨#[]⟩,.string ⟨#[]⟩,.int .i64 0] from ⟨K7.out.1.trans (hb8.mono K7.out.1.size),K7.out.2.1.below' hb8 K7.out.2.1.lt,K7.out.2.2.below' hb8 K7.out.2.2.lt⟩)
     have HA8:=Lib.hid (HA7.out.below' hb8 HA7.out.lt)
     clear hb8 K7 HA7 K6 HA
     by_cases p0:pe=0
     ·have HY:=Lib.hid (valA_day (D:=dayD) (F:=F) (t:=t) (n:=pn) HK3.out (by rw [dayD_yes (by rw [hpe]; exact p0),hpn]))
      subst p0
      clear hpn hpe
      have d2:=(HA8.out.cell 2).trans (show _=some (Value.int .i64 0) from rfl)
      have dz:=HA8.out.frozen 2
      have hg:w8.grownBy (w8.setCell ⟨ab,2,none⟩ (.int .i64 pn)) (some ab):=grown_setCell w8 ⟨ab,2,none⟩ (.int .i64 pn)
      have HAA:=Lib.hid (show Blk (w8.setCell ⟨ab,2,none⟩ (.int .i64 pn)) ab 50 #[.string F.name,.string ⟨#[]⟩,.int .i64 pn] from HA8.out.set_ 2 _)
      have KA:=Lib.hid (show Below w.heap.size w (w8.setCell ⟨ab,2,none⟩ (.int .i64 pn)) ∧ Blk (w8.setCell ⟨ab,2,none⟩ (.int .i64 pn)) w.heap.size 37 #[.string title,.slice (some ⟨b,off,none⟩) nf cf] ∧ Blk (w8.setCell ⟨ab,2,none⟩ (.int .i64 pn)) (w.heap.size+1) 50 #[.string ⟨#[]⟩,.string ⟨#[]⟩,.int .i64 0] from ⟨K8.out.1.setCell (by show _ ≤ ab; omega) _,(hg.block _ K8.out.2.1.lt (fun e => by injection e; omega)).trans K8.out.2.1,(hg.block _ K8.out.2.2.lt (fun e => by injection e; omega)).trans K8.out.2.2⟩)
      have c1:=(K8.out.2.1.cell 1).trans (show _=some (Value.slice (some ⟨b,off,none⟩) nf cf) from rfl)
      go_upto_region 19 with fail
      clear c1
      generalize w8.setCell ⟨ab,2,none⟩ (.int .i64 pn)=wA at KA HAA ⊢
      clear hg
      clear d2 dz
      have held:∀ W,Below wA.heap.size wA W → W.cell? ⟨w.heap.size,1,none⟩=some (.slice (some ⟨b,off,none⟩) nf cf) ∧ W.cell? ⟨b,off+i*6,none⟩=some (.string F.name) ∧ W.cell? ⟨b,off+i*6+1,none⟩=some (.int .i64 F.kind) ∧ W.cell? ⟨b,off+i*6+2,none⟩=some (.bool F.need) ∧ W.cell? ⟨b,off+i*6+3,none⟩=some (.int .i64 F.least) ∧ W.cell? ⟨b,off+i*6+4,none⟩=some (.int .i64 F.most) ∧ W.cell? ⟨b,off+i*6+5,none⟩=some (.slice Ao no co) ∧ W.cell? ⟨ab,0,none⟩=some (.string F.name) ∧ W.cell? ⟨ab,1,none⟩=some (.string ⟨#[]⟩) ∧ W.cell? ⟨ab,2,none⟩=some (.int .i64 pn):=fun W hW => by
       have hk:=HAA.out.below' hW HAA.out.lt
       have hf:=KA.out.2.1.below' hW KA.out.2.1.lt
       obtain ⟨y0,y1,y2,y3,y4,y5⟩:=FC.out W (KA.out.1.trans (hW.mono KA.out.1.size))
       exact ⟨(hf.cell 1).trans rfl,y0,y1,y2,y3,y4,y5,(hk.cell 0).trans rfl,(hk.cell 1).trans rfl,(hk.cell 2).trans rfl⟩
      have HHD:=Lib.hid held
      have B_0:Hid (Below wA.heap.size wA wA.drew):=Lib.hid (Below.refl _ _).drew
      clear held
      refine wp_region_held_drew (S:=fun W => W.cell? ⟨w.heap.size,1,none⟩=some (.slice (some ⟨b,off,none⟩) nf cf) ∧ W.cell? ⟨b,off+i*6,none⟩=some (.string F.name) ∧ W.cell? ⟨b,off+i*6+1,none⟩=some (.int .i64 F.kind) ∧ W.cell? ⟨b,off+i*6+2,none⟩=some (.bool F.need) ∧ W.cell? ⟨b,off+i*6+3,none⟩=some (.int .i64 F.least) ∧ W.cell? ⟨b,off+i*6+4,none⟩=some (.int .i64 F.most) ∧ W.cell? ⟨b,off+i*6+5,none⟩=some (.slice Ao no co) ∧ W.cell? ⟨ab,0,none⟩=some (.string F.name) ∧ W.cell? ⟨ab,1,none⟩=some (.string ⟨#[]⟩) ∧ W.cell? ⟨ab,2,none⟩=some (.int .i64 pn)) hmx (HHD.out _ B_0.out) (fun hHeld => ?_)
      generalize wA.drew=wD at hHeld B_0 ⊢
      (try clear hti)
      refine t1 0 rfl ?_
      try simp only [pt]
      refine t1 1 rfl ?_
      try simp only [pt]
      refine t1 2 rfl ?_
      try simp only [pt]
      refine t1 3 rfl ?_
      try simp only [pt]
      refine t1 4 rfl ?_
      try simp only [pt]
      refine t1 5 rfl ?_
      try simp only [pt]
      refine wpAnyH_ready (rs:=[6]) (by kernel_rfl) (by simp) ?_
      refine AllReadyH.cons rfl (fun Kc hKc => ?_) AllReadyH.nil
      go_simp
      refine (r_fits F ⟨F.name,⟨#[]⟩,pn⟩ (.slice Ao no co) wD ((HO.out.keep fun q hq => (KA.out.1.trans (B_0.out.mono KA.out.1.size)).block q hq).mono fun q hq => Nat.lt_of_lt_of_le hq (KA.out.1.trans (B_0.out.mono KA.out.1.size)).size) HOPL.out (by first | exact Nat.zero_le _ | (show t.size ≤ _; omega))).mono ?_
      rintro e w9 ⟨rfl,hb9⟩
      have B_1:=Lib.hid (B_0.out.trans (hb9.mono B_0.out.size))
      clear hb9
      refine hKc.out _ _ (HHD.out _ B_1.out) (fun hHeld => ?_)
      clear hKc Kc
      try simp only [pt]
      refine t1 7 rfl ?_
      try simp only [pt]
      refine wpAnyH_done (by kernel_rfl) ?_ _
      have K9:=Lib.hid (show Below w.heap.size w w9 ∧ Blk w9 w.heap.size 37 #[.string title,.slice (some ⟨b,off,none⟩) nf cf] ∧ Blk w9 (w.heap.size+1) 50 #[.string ⟨#[]⟩,.string ⟨#[]⟩,.int .i64 0] from ⟨KA.out.1.trans (B_1.out.mono KA.out.1.size),KA.out.2.1.below' B_1.out KA.out.2.1.lt,KA.out.2.2.below' B_1.out KA.out.2.2.lt⟩)
      obtain ⟨-,-,-,-,-,-,-,e0,e1,e2⟩:=HHD.out _ B_1.out
      cases hft:fitsF F ⟨F.name,⟨#[]⟩,pn⟩
      ·have hr:=K9.out.2.2
       have r0:=(hr.cell 0).trans (show _=some (Value.string ⟨#[]⟩) from rfl)
       have r1:=(hr.cell 1).trans (show _=some (Value.string ⟨#[]⟩) from rfl)
       have r2:=(hr.cell 2).trans (show _=some (Value.int .i64 0) from rfl)
       have g0:=hr.frozen 0
       have g1:=hr.frozen 1
       have g2:=hr.frozen 2
       clear hr
       have HEQ:=Lib.hid (show valS dayD (validB title L) L F.name t=(ans0,13) from by rw [HH.out]; exact valF_no HY.out hft)
       go_wp2_with fail
       obtain ⟨hb,hbl,-⟩:=ansr_fin (a:=⟨⟨#[]⟩,⟨#[]⟩,0⟩) K9.out.1 K9.out.2.2 _ rfl
       have HBL:=Lib.hid hb
       have hb:=HBL.out
       refine bodyPost_ret (v:=.tuple #[.agg #[.string ⟨#[]⟩,.string ⟨#[]⟩,.int .i64 0],.int .i64 13]) ?_ rfl ⟨by rw [HEQ.out]; rfl,hbl⟩
       simp [results,Tryz.results20,go_sem,(hb.cell 0).trans (show _=some (Value.string ⟨#[]⟩) from rfl),(hb.cell 1).trans (show _=some (Value.string ⟨#[]⟩) from rfl),(hb.cell 2).trans (show _=some (Value.int .i64 0) from rfl)]
      ·have hr:=K9.out.2.2
       have r0:=(hr.cell 0).trans (show _=some (Value.string ⟨#[]⟩) from rfl)
       have r1:=(hr.cell 1).trans (show _=some (Value.string ⟨#[]⟩) from rfl)
       have r2:=(hr.cell 2).trans (show _=some (Value.int .i64 0) from rfl)
       have g0:=hr.frozen 0
       have g1:=hr.frozen 1
       have g2:=hr.frozen 2
       clear hr
       have HEQ:=Lib.hid (show valS dayD (validB title L) L F.name t=(⟨F.name,⟨#[]⟩,pn⟩,0) from by rw [HH.out]; exact valF_yes HY.out hft)
       go_wp2_with fail
       obtain ⟨hb,hbl,-⟩:=ansr_fin (a:=⟨F.name,⟨#[]⟩,pn⟩) K9.out.1 K9.out.2.2 _ rfl
       have HBL:=Lib.hid hb
       have hb:=HBL.out
       refine bodyPost_ret (v:=.tuple #[.agg #[.string F.name,.string ⟨#[]⟩,.int .i64 pn],.int .i64 0]) ?_ rfl ⟨by rw [HEQ.out],hbl⟩
       simp [results,Tryz.results20,go_sem,(hb.cell 0).trans (show _=some (Value.string F.name) from rfl),(hb.cell 1).trans (show _=some (Value.string ⟨#[]⟩) from rfl),(hb.cell 2).trans (show _=some (Value.int .i64 pn) from rfl)]
     ·have hno:valA dayD F t=none:=valA_day_no HK3.out (dayD_no (by rw [hpe]; exact p0))
      have p1:(pe == 0)=false:=beq_eq_false_iff_ne.2 p0
      have p2:(pe != 0)=true:=bne_iff_ne.2 p0
      have HNO:=Lib.hid hno
      clear hno hpn hpe p0
      have hr:=K8.out.2.2
      have r0:=(hr.cell 0).trans (show _=some (Value.string ⟨#[]⟩) from rfl)
      have r1:=(hr.cell 1).trans (show _=some (Value.string ⟨#[]⟩) from rfl)
      have r2:=(hr.cell 2).trans (show _=some (Value.int .i64 0) from rfl)
      have g0:=hr.frozen 0
      have g1:=hr.frozen 1
      have g2:=hr.frozen 2
      clear hr
      have HEQ:=Lib.hid (show valS dayD (validB title L) L F.name t=(ans0,13) from by rw [HH.out]; exact valF_none HNO.out)
      go_wp2_with fail
      obtain ⟨hb,hbl,-⟩:=ansr_fin (a:=⟨⟨#[]⟩,⟨#[]⟩,0⟩) K8.out.1 K8.out.2.2 _ rfl
      have HBL:=Lib.hid hb
      have hb:=HBL.out
      refine bodyPost_ret (v:=.tuple #[.agg #[.string ⟨#[]⟩,.string ⟨#[]⟩,.int .i64 0],.int .i64 13]) ?_ rfl ⟨by rw [HEQ.out]; rfl,hbl⟩
      simp [results,Tryz.results20,go_sem,(hb.cell 0).trans (show _=some (Value.string ⟨#[]⟩) from rfl),(hb.cell 1).trans (show _=some (Value.string ⟨#[]⟩) from rfl),(hb.cell 2).trans (show _=some (Value.int .i64 0) from rfl)]
    ·have k2':(F.kind == (2:Int))=false:=by simpa using k2
     have k3':(F.kind == (3:Int))=false:=by simpa using k3
     have HY:=Lib.hid (valA_txt (D:=dayD) (F:=F) (t:=t) k2 k3)
     clear k2 k3
     go_upto_region 19 with fail
     clear c1 y1
     have held:∀ W,Below w6.heap.size w6 W → W.cell? ⟨w.heap.size,1,none⟩=some (.slice (some ⟨b,off,none⟩) nf cf) ∧ W.cell? ⟨b,off+i*6,none⟩=some (.string F.name) ∧ W.cell? ⟨b,off+i*6+1,none⟩=some (.int .i64 F.kind) ∧ W.cell? ⟨b,off+i*6+2,none⟩=some (.bool F.need) ∧ W.cell? ⟨b,off+i*6+3,none⟩=some (.int .i64 F.least) ∧ W.cell? ⟨b,off+i*6+4,none⟩=some (.int .i64 F.most) ∧ W.cell? ⟨b,off+i*6+5,none⟩=some (.slice Ao no co) ∧ W.cell? ⟨ab,0,none⟩=some (.string F.name) ∧ W.cell? ⟨ab,1,none⟩=some (.string t) ∧ W.cell? ⟨ab,2,none⟩=some (.int .i64 0):=fun W hW => by
      have hk:=HA.out.below' hW HA.out.lt
      have hf:=K6.out.2.1.below' hW K6.out.2.1.lt
      obtain ⟨y0,y1,y2,y3,y4,y5⟩:=FC.out W (K6.out.1.trans (hW.mono K6.out.1.size))
      exact ⟨(hf.cell 1).trans rfl,y0,y1,y2,y3,y4,y5,(hk.cell 0).trans rfl,(hk.cell 1).trans rfl,(hk.cell 2).trans rfl⟩
     have HHD:=Lib.hid held
     have B_0:Hid (Below w6.heap.size w6 w6.drew):=Lib.hid (Below.refl _ _).drew
     clear held
     refine wp_region_held_drew (S:=fun W => W.cell? ⟨w.heap.size,1,none⟩=some (.slice (some ⟨b,off,none⟩) nf cf) ∧ W.cell? ⟨b,off+i*6,none⟩=some (.string F.name) ∧ W.cell? ⟨b,off+i*6+1,none⟩=some (.int .i64 F.kind) ∧ W.cell? ⟨b,off+i*6+2,none⟩=some (.bool F.need) ∧ W.cell? ⟨b,off+i*6+3,none⟩=some (.int .i64 F.least) ∧ W.cell? ⟨b,off+i*6+4,none⟩=some (.int .i64 F.most) ∧ W.cell? ⟨b,off+i*6+5,none⟩=some (.slice Ao no co) ∧ W.cell? ⟨ab,0,none⟩=some (.string F.name) ∧ W.cell? ⟨ab,1,none⟩=some (.string t) ∧ W.cell? ⟨ab,2,none⟩=some (.int .i64 0)) hmx (HHD.out _ B_0.out) (fun hHeld => ?_)
     generalize w6.drew=wD at hHeld B_0 ⊢
     (try clear hti)
     refine t1 0 rfl ?_
     try simp only [pt]
     refine t1 1 rfl ?_
     try simp only [pt]
     refine t1 2 rfl ?_
     try simp only [pt]
     refine t1 3 rfl ?_
     try simp only [pt]
     refine t1 4 rfl ?_
     try simp only [pt]
     refine t1 5 rfl ?_
     try simp only [pt]
     refine wpAnyH_ready (rs:=[6]) (by kernel_rfl) (by simp) ?_
     refine AllReadyH.cons rfl (fun Kc hKc => ?_) AllReadyH.nil
     go_simp
     refine (r_fits F ⟨F.name,t,0⟩ (.slice Ao no co) wD ((HO.out.keep fun q hq => (K6.out.1.trans (B_0.out.mono K6.out.1.size)).block q hq).mono fun q hq => Nat.lt_of_lt_of_le hq (K6.out.1.trans (B_0.out.mono K6.out.1.size)).size) HOPL.out (by first | exact Nat.zero_le _ | (show t.size ≤ _; omega))).mono ?_
     rintro e w9 ⟨rfl,hb9⟩
     have B_1:=Lib.hid (B_0.out.trans (hb9.mono B_0.out.size))
     clear hb9
     refine hKc.out _ _ (HHD.out _ B_1.out) (fun hHeld => ?_)
     clear hKc Kc
     try simp only [pt]
     refine t1 7 rfl ?_
     try simp only [pt]
     refine wpAnyH_done (by kernel_rfl) ?_ _
     have K9:=Lib.hid (show Below w.heap.size w w9 ∧ Blk w9 w.heap.size 37 #[.string title,.slice (some ⟨b,off,none⟩) nf cf] ∧ Blk w9 (w.heap.size+1) 50 #[.string ⟨#[]⟩,.string ⟨#[]⟩,.int .i64 0] from ⟨K6.out.1.trans (B_1.out.mono K6.out.1.size),K6.out.2.1.below' B_1.out K6.out.2.1.lt,K6.out.2.2.below' B_1.out K6.out.2.2.lt⟩)
     obtain ⟨-,-,-,-,-,-,-,e0,e1,e2⟩:=HHD.out _ B_1.out
     cases hft:fitsF F ⟨F.name,t,0⟩
     ·have hr:=K9.out.2.2
      have r0:=(hr.cell 0).trans (show _=some (Value.string ⟨#[]⟩) from rfl)
      have r1:=(hr.cell 1).trans (show _=some (Value.string ⟨#[]⟩) from rfl)
      have r2:=(hr.cell 2).trans (show _=some (Value.int .i64 0) from rfl)
      have g0:=hr.frozen 0
      have g1:=hr.frozen 1
      have g2:=hr.frozen 2
      clear hr
      have HEQ:=Lib.hid (show valS dayD (validB title L) L F.name t=(ans0,13) from by rw [HH.out]; exact valF_no HY.out hft)
      go_wp2_with fail
      obtain ⟨hb,hbl,-⟩:=ansr_fin (a:=⟨⟨#[]⟩,⟨#[]⟩,0⟩) K9.out.1 K9.out.2.2 _ rfl
      have HBL:=Lib.hid hb
      have hb:=HBL.out
      refine bodyPost_ret (v:=.tuple #[.agg #[.string ⟨#[]⟩,.string ⟨#[]⟩,.int .i64 0],.int .i64 13]) ?_ rfl ⟨by rw [HEQ.out]; rfl,hbl⟩
      simp [results,Tryz.results20,go_sem,(hb.cell 0).trans (show _=some (Value.string ⟨#[]⟩) from rfl),(hb.cell 1).trans (show _=some (Value.string ⟨#[]⟩) from rfl),(hb.cell 2).trans (show _=some (Value.int .i64 0) from rfl)]
     ·have hr:=K9.out.2.2
      have r0:=(hr.cell 0).trans (show _=some (Value.string ⟨#[]⟩) from rfl)
      have r1:=(hr.cell 1).trans (show _=some (Value.string ⟨#[]⟩) from rfl)
      have r2:=(hr.cell 2).trans (show _=some (Value.int .i64 0) from rfl)
      have g0:=hr.frozen 0
      have g1:=hr.frozen 1
      have g2:=hr.frozen 2
      clear hr
      have HEQ:=Lib.hid (show valS dayD (validB title L) L F.name t=(⟨F.name,t,0⟩,0) from by rw [HH.out]; exact valF_yes HY.out hft)
      go_wp2_with fail
      obtain ⟨hb,hbl,-⟩:=ansr_fin (a:=⟨F.name,t,0⟩) K9.out.1 K9.out.2.2 _ rfl
      have HBL:=Lib.hid hb
      have hb:=HBL.out
      refine bodyPost_ret (v:=.tuple #[.agg #[.string F.name,.string t,.int .i64 0],.int .i64 0]) ?_ rfl ⟨by rw [HEQ.out],hbl⟩
      simp [results,Tryz.results20,go_sem,(hb.cell 0).trans (show _=some (Value.string F.name) from rfl),(hb.cell 1).trans (show _=some (Value.string t) from rfl),(hb.cell 2).trans (show _=some (Value.int .i64 0) from rfl)]
end Go.Proofs.YtgdngfdeeadlnaaGreatDoor

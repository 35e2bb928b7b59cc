/- Contracts: Value, by the program. And more. -/
import Derived.Test.YtgdngfdeeadlnaaGreatDoorZ30
import Derived.Test.YtgdngfdeeadlnaaGreatDoorZ14
import Derived.Test.YtgdngfdeeadlnaaGreatDoorCzRefC
set_option linter.unusedVariables false
set_option linter.unusedSimpArgs false
namespace Go.Proofs.YtgdngfdeeadlnaaGreatDoor
open Go.RowKit Num
def ValE (r : Ans × Int) (w : World) (e : Ending) (w' : World) : Prop := e = .returned (.tuple #[.agg #[.string r.1.field,.string r.1.text,.int .i64 r.1.num],.int .i64 r.2]) ∧ Below w.heap.size w w'
theorem fstF_at {L : List Fld} {s : ByteArray} {i : Nat} (h : fstF L s = some i) : i < L.length ∧ (fldAt L i).name = s := by
 unfold fstF at h
 have h1:=List.find?_some h
 have h2:=List.mem_of_find?_eq_some h
 exact ⟨List.mem_range.1 h2,of_decide_eq_true h1⟩
set_option maxRecDepth 100000 in
set_option maxHeartbeats 4000000 in
theorem s_Value (title nm t : ByteArray) (vf : Value) (L : List Fld) (w : World) (hF : FldsAt w (· < w.heap.size) vf L) (hok : FormOk title L) (hnm : ∀ f ∈ L,f.name.size ≤ maxLen ∧ f.opts.length ≤ 1000000) (hp : ParOk w) (ht : t.size ≤ 1000) :
  Calls Tryz.prog 19 #[.agg #[.string title,vf],.string nm,.string t] w (ValE (valS dayD (validB title L) L nm t) w):=by
 have hmx:Tryz.prog.follows .mixedOrders=true:=by kernel_rfl
 obtain ⟨Af,nf,cf,rfl,hnf,hnc,hfc⟩:=id hF
 obtain ⟨w2,hw2⟩:∃ w2,(w.alloc (.cells #[.string title,.slice Af nf cf] 37)).alloc (.cells #[.string ⟨#[]⟩,.string ⟨#[]⟩,.int .i64 0] 50)=w2:=⟨_,rfl⟩
 have hb2:Below w.heap.size w w2:=by rw [← hw2]; exact ((Below.refl _ _).alloc (Nat.le_refl _) _).alloc (by simp) _
 have hbf:Blk w2 w.heap.size 37 #[.string title,.slice Af nf cf]:=by rw [← hw2]; exact (Blk.new w _ _).alloc _
 have hbr:Blk w2 (w.heap.size+1) 50 #[.string ⟨#[]⟩,.string ⟨#[]⟩,.int .i64 0]:=by
  rw [← hw2]
  have:=Blk.new (w.alloc (.cells #[.string title,.slice Af nf cf] 37)) 50 #[.string ⟨#[]⟩,.string ⟨#[]⟩,.int .i64 0]
  rwa [World.size_alloc] at this
 have up:∀ W,Below w.heap.size w W → FldsAt W (· < W.heap.size) (.slice Af nf cf) L:=fun W hW => (hF.keep fun b hB => hW.block b hB).mono fun b hB => Nat.lt_of_lt_of_le hB hW.size
 have hl:=hok.2.1
 have hva:=f_Valid title (.slice Af nf cf) L _ _ (up _ hb2) (fun b h => h) hok
 have hfnd:=fun W (hW:Below w.heap.size w W) => f_Find title nm (.slice Af nf cf) L (· < W.heap.size) W (up W hW) (fun b h => h) hl
 have HFND:=Lib.hid hfnd
 have HVA:=Lib.hid hva
 have HFC:=Lib.hid hfc
 have HNF:=Lib.hid hnf
 have HNM:=Lib.hid hnm
 have HP:=Lib.hid (fun W (hW:Below w.heap.size w W) => hp.later hW)
 have K0:=Lib.hid (And.intro hb2 (And.intro hbf hbr))
 have HOL:=Lib.hid hl
 have c0:=(hbf.cell 0).trans (show _=some (Value.string title) from rfl)
 have c1:=(hbf.cell 1).trans (show _=some (Value.slice Af nf cf) from rfl)
 clear hb2 hbf hbr up hva hfnd hF hok hnm hp hfc hnf hl
 go_enter Tryz.func19,Tryz.ntmps19
 go_upto_region 1 with fail
 try rw [hw2]
 clear hw2
 go_wp2_with fail
 refine HVA.out.mono ?_
 rintro e w3 ⟨rfl,hb3⟩
 have K3:=Lib.hid (show Below w.heap.size w w3 ∧ Blk w3 w.heap.size 37 #[.string title,.slice Af nf cf] ∧ Blk w3 (w.heap.size+1) 50 #[.string ⟨#[]⟩,.string ⟨#[]⟩,.int .i64 0] from ⟨K0.out.1.trans (hb3.mono K0.out.1.size),K0.out.2.1.below' hb3 K0.out.2.1.lt,K0.out.2.2.below' hb3 K0.out.2.2.lt⟩)
 clear hb3 K0 HVA c0 c1
 cases hv:validB title L
 ·try rw [hv]
  have hr:=K3.out.2.2
  have r0:=(hr.cell 0).trans (show _=some (Value.string ⟨#[]⟩) from rfl)
  have r1:=(hr.cell 1).trans (show _=some (Value.string ⟨#[]⟩) from rfl)
  have r2:=(hr.cell 2).trans (show _=some (Value.int .i64 0) from rfl)
  have g0:=hr.frozen 0
  have g1:=hr.frozen 1
  have g2:=hr.frozen 2
  clear hr
  have HEQ:=Lib.hid (show valS dayD (validB title L) L nm t=(ans0,1) from by rw [hv]; exact valS_bad)
  go_wp2_with fail
  obtain ⟨hb,hbl,-⟩:=ansr_fin (a:=⟨⟨#[]⟩,⟨#[]⟩,0⟩) K3.out.1 K3.out.2.2 _ rfl
  have HBL:=Lib.hid hb
  have hb:=HBL.out
  refine bodyPost_ret (v:=.tuple #[.agg #[.string ⟨#[]⟩,.string ⟨#[]⟩,.int .i64 0],.int .i64 1]) ?_ rfl ⟨by rw [HEQ.out]; rfl,hbl⟩
  simp [results,Tryz.results19,go_sem,(hb.cell 0).trans (show _=some (Value.string ⟨#[]⟩) from rfl),(hb.cell 1).trans (show _=some (Value.string ⟨#[]⟩) from rfl),(hb.cell 2).trans (show _=some (Value.int .i64 0) from rfl)]
 ·try rw [hv]
  have c0:=(K3.out.2.1.cell 0).trans (show _=some (Value.string title) from rfl)
  have c1:=(K3.out.2.1.cell 1).trans (show _=some (Value.slice Af nf cf) from rfl)
  go_wp2_with fail
  refine (HFND.out w3 K3.out.1).mono ?_
  rintro e w4 ⟨rfl,hb4⟩
  have K4:=Lib.hid (show Below w.heap.size w w4 ∧ Blk w4 w.heap.size 37 #[.string title,.slice Af nf cf] ∧ Blk w4 (w.heap.size+1) 50 #[.string ⟨#[]⟩,.string ⟨#[]⟩,.int .i64 0] from ⟨K3.out.1.trans (hb4.mono K3.out.1.size),K3.out.2.1.below' hb4 K3.out.2.1.lt,K3.out.2.2.below' hb4 K3.out.2.2.lt⟩)
  clear hb4 K3 HFND c0 c1
  cases hfs:fstF L nm with
  | none =>
   try rw [hfs]
   dsimp only [Option.isSome,Option.getD]
   have hr:=K4.out.2.2
   have r0:=(hr.cell 0).trans (show _=some (Value.string ⟨#[]⟩) from rfl)
   have r1:=(hr.cell 1).trans (show _=some (Value.string ⟨#[]⟩) from rfl)
   have r2:=(hr.cell 2).trans (show _=some (Value.int .i64 0) from rfl)
   have g0:=hr.frozen 0
   have g1:=hr.frozen 1
   have g2:=hr.frozen 2
   clear hr
   have HEQ:=Lib.hid (show valS dayD (validB title L) L nm t=(ans0,13) from by rw [hv]; exact valS_miss hfs)
   go_wp2_with fail
   obtain ⟨hb,hbl,-⟩:=ansr_fin (a:=⟨⟨#[]⟩,⟨#[]⟩,0⟩) K4.out.1 K4.out.2.2 _ rfl
   have HBL:=Lib.hid hb
   have hb:=HBL.out
   refine bodyPost_ret (v:=.tuple #[.agg #[.string ⟨#[]⟩,.string ⟨#[]⟩,.int .i64 0],.int .i64 13]) ?_ rfl ⟨by rw [HEQ.out]; rfl,hbl⟩
   simp [results,Tryz.results19,go_sem,(hb.cell 0).trans (show _=some (Value.string ⟨#[]⟩) from rfl),(hb.cell 1).trans (show _=some (Value.string ⟨#[]⟩) from rfl),(hb.cell 2).trans (show _=some (Value.int .i64 0) from rfl)]
  | some i =>
   try rw [hfs]
   dsimp only [Option.isSome,Option.getD]
   obtain ⟨hiL,hin⟩:=fstF_at hfs
   have hhit:=valS_hit (D:=dayD) (t:=t) hfs
   rw [← hv] at hhit
   have hin':i < nf:=by have:=HNF.out; omega
   have hopl:=(HNM.out (fldAt L i) (by unfold fldAt; rw [List.getD_eq_getElem?_getD,List.getElem?_eq_getElem hiL]; exact List.getElem_mem hiL)).2
   obtain ⟨b,off,rfl,hbs,hcc⟩:=HFC.out (by omega)
   have hf:=hcc i hin'
   obtain ⟨F,hFe⟩:∃ F,fldAt L i=F:=⟨_,rfl⟩
   rw [hFe] at hf hin hhit hopl
   obtain ⟨x0,x1,x2,x3,x4,vo,x5,ho⟩:=hf
   obtain ⟨Ao,no,co,rfl,-⟩:=id ho
   have HH:=Lib.hid hhit
   have HO:=Lib.hid ho
   have HOPL:=Lib.hid hopl
   have fcell:∀ W,Below w.heap.size w W → W.cell? ⟨b,off+i*6,none⟩=some (.string F.name) ∧ W.cell? ⟨b,off+i*6+1,none⟩=some (.int .i64 F.kind) ∧ W.cell? ⟨b,off+i*6+2,none⟩=some (.bool F.need) ∧ W.cell? ⟨b,off+i*6+3,none⟩=some (.int .i64 F.least) ∧ W.cell? ⟨b,off+i*6+4,none⟩=some (.int .i64 F.most) ∧ W.cell? ⟨b,off+i*6+5,none⟩=some (.slice Ao no co):=fun W hW =>
    ⟨(hW.cell (p:=⟨b,off+i*6,none⟩) hbs).trans x0,(hW.cell (p:=⟨b,off+i*6+1,none⟩) hbs).trans x1,(hW.cell (p:=⟨b,off+i*6+2,none⟩) hbs).trans x2,(hW.cell (p:=⟨b,off+i*6+3,none⟩) hbs).trans x3,(hW.cell (p:=⟨b,off+i*6+4,none⟩) hbs).trans x4,(hW.cell (p:=⟨b,off+i*6+5,none⟩) hbs).trans x5⟩
   have FC:=Lib.hid fcell
   have HIN:=Lib.hid hin
   have hti:(i:Int).toNat=i:=by omega
   have zi:(i:Int) < (nf:Int):=by omega
   have z0:(0:Int) ≤ (i:Int):=by omega
   have c1:=(K4.out.2.1.cell 1).trans (show _=some (Value.slice (some ⟨b,off,none⟩) nf cf) from rfl)
   clear hcc hfs hhit hopl ho hFe x0 x1 x2 x3 x4 x5 fcell hin HNM hv HFC
   have hvl:=fun W (hW:Below w.heap.size w W) => s_value F t (.slice Ao no co) (· < w.heap.size) W (HO.out.keep fun q hq => hW.block q hq) (HP.out W hW) ht
   have HVL:=Lib.hid hvl
   obtain ⟨y0,y1,y2,y3,y4,y5⟩:=FC.out w4 K4.out.1
   clear hvl
   go_wp2_with fail
   refine (HVL.out w4 K4.out.1).mono ?_
   rintro e w5 ⟨a,ok,rfl,hok,hval,hfl,htx,hb5⟩
   have hb6:=K4.out.1.trans (hb5.mono K4.out.1.size)
   have hf6:=K4.out.2.1.below' hb5 K4.out.2.1.lt
   have hr6:=K4.out.2.2.below' hb5 K4.out.2.2.lt
   have HOKV:=Lib.hid (And.intro hok (And.intro hval (And.intro hfl htx)))
   clear y0 y1 y2 y3 y4 y5 c1 hb5 HVL hok hval hfl htx
   obtain ⟨fl,tx,nu⟩:=a
   have hbn:=Blk.new w5 50 #[.string fl,.string tx,.int .i64 nu]
   have K6:=Lib.hid (show Below w.heap.size w (w5.alloc (.cells #[.string fl,.string tx,.int .i64 nu] 50)) ∧ Blk (w5.alloc (.cells #[.string fl,.string tx,.int .i64 nu] 50)) w.heap.size 37 #[.string title,.slice (some ⟨b,off,none⟩) nf cf] ∧ Blk (w5.alloc (.cells #[.string fl,.string tx,.int .i64 nu] 50)) (w.heap.size+1) 50 #[.string ⟨#[]⟩,.string ⟨#[]⟩,.int .i64 0] from ⟨hb6.alloc hb6.size _,hf6.alloc _,hr6.alloc _⟩)
   have HA:=Lib.hid hbn
   go_upto_region 7 with fail
   generalize w5.alloc (.cells #[.string fl,.string tx,.int .i64 nu] 50)=w6 at K6 HA ⊢
   obtain ⟨ab,hab⟩:∃ ab,w5.heap.size=ab:=⟨_,rfl⟩
   rw [hab] at HA
   try rw [hab]
   clear hb6 hf6 hr6 hbn hab K4
   have held:∀ W,Below w6.heap.size w6 W → W.cell? ⟨w.heap.size,1,none⟩=some (.slice (some ⟨b,off,none⟩) nf cf) ∧ W.cell? ⟨b,off+i*6,none⟩=some (.string F.name) ∧ W.cell? ⟨b,off+i*6+1,none⟩=some (.int .i64 F.kind) ∧ W.cell? ⟨b,off+i*6+2,none⟩=some (.bool F.need) ∧ W.cell? ⟨b,off+i*6+3,none⟩=some (.int .i64 F.least) ∧ W.cell? ⟨b,off+i*6+4,none⟩=some (.int .i64 F.most) ∧ W.cell? ⟨b,off+i*6+5,none⟩=some (.slice Ao no co) ∧ W.cell? ⟨ab,0,none⟩=some (.string fl) ∧ W.cell? ⟨ab,1,none⟩=some (.string tx) ∧ W.cell? ⟨ab,2,none⟩=some (.int .i64 nu):=fun W hW => by
    have hk:=HA.out.below' hW HA.out.lt
    have hf:=K6.out.2.1.below' hW K6.out.2.1.lt
    obtain ⟨y0,y1,y2,y3,y4,y5⟩:=FC.out W (K6.out.1.trans (hW.mono K6.out.1.size))
    exact ⟨(hf.cell 1).trans rfl,y0,y1,y2,y3,y4,y5,(hk.cell 0).trans rfl,(hk.cell 1).trans rfl,(hk.cell 2).trans rfl⟩
   have HHD:=Lib.hid held
   have B_0:Hid (Below w6.heap.size w6 w6.drew):=Lib.hid (Below.refl _ _).drew
   clear held
   refine wp_region_held_drew (S:=fun W => W.cell? ⟨w.heap.size,1,none⟩=some (.slice (some ⟨b,off,none⟩) nf cf) ∧ W.cell? ⟨b,off+i*6,none⟩=some (.string F.name) ∧ W.cell? ⟨b,off+i*6+1,none⟩=some (.int .i64 F.kind) ∧ W.cell? ⟨b,off+i*6+2,none⟩=some (.bool F.need) ∧ W.cell? ⟨b,off+i*6+3,none⟩=some (.int .i64 F.least) ∧ W.cell? ⟨b,off+i*6+4,none⟩=some (.int .i64 F.most) ∧ W.cell? ⟨b,off+i*6+5,none⟩=some (.slice Ao no co) ∧ W.cell? ⟨ab,0,none⟩=some (.string fl) ∧ W.cell? ⟨ab,1,none⟩=some (.string tx) ∧ W.cell? ⟨ab,2,none⟩=some (.int .i64 nu)) hmx (HHD.out _ B_0.out) (fun hHeld => ?_)
   generalize w6.drew=w7 at hHeld B_0 ⊢
   clear hti
   cases ok
   ·refine t1 0 rfl ?_
    try simp only [pt]
    refine t1 1 rfl ?_
    try simp only [pt]
    refine t1 2 rfl ?_
    try simp only [pt]
    refine t0 3 rfl ?_
    try simp only [pt]
    refine t0 4 rfl ?_
    try simp only [pt]
    refine t0 5 rfl ?_
    try simp only [pt]
    refine t0 6 rfl ?_
    try simp only [pt]
    refine t0 7 rfl ?_
    try simp only [pt]
    refine t0 8 rfl ?_
    try simp only [pt]
    refine t0 9 rfl ?_
    try simp only [pt]
    refine t0 10 rfl ?_
    try simp only [pt]
    refine t1 11 rfl ?_
    try simp only [pt]
    refine wpAnyH_done (by kernel_rfl) ?_ _
    have K9:=Lib.hid (show Below w.heap.size w w7 ∧ Blk w7 w.heap.size 37 #[.string title,.slice (some ⟨b,off,none⟩) nf cf] ∧ Blk w7 (w.heap.size+1) 50 #[.string ⟨#[]⟩,.string ⟨#[]⟩,.int .i64 0] from ⟨K6.out.1.trans (B_0.out.mono K6.out.1.size),K6.out.2.1.below' B_0.out K6.out.2.1.lt,K6.out.2.2.below' B_0.out K6.out.2.2.lt⟩)
    have hno:valA dayD F t=none:=by
     cases h:valA dayD F t with
     | none => rfl
     | some x => have:=HOKV.out.1; rw [h] at this; cases this
    have hr:=K9.out.2.2
    have r0:=(hr.cell 0).trans (show _=some (Value.string ⟨#[]⟩) from rfl)
    have r1:=(hr.cell 1).trans (show _=some (Value.string ⟨#[]⟩) from rfl)
    have r2:=(hr.cell 2).trans (show _=some (Value.int .i64 0) from rfl)
    have g0:=hr.frozen 0
    have g1:=hr.frozen 1
    have g2:=hr.frozen 2
    clear hr
    have HEQ:=Lib.hid (show valS dayD (validB title L) L nm t=(ans0,13) from by rw [HH.out]; exact valF_none hno)
    go_wp2_with fail
    obtain ⟨hb,hbl,-⟩:=ansr_fin (a:=⟨⟨#[]⟩,⟨#[]⟩,0⟩) K9.out.1 K9.out.2.2 _ rfl
    have HBL:=Lib.hid hb
    have hb:=HBL.out
    refine bodyPost_ret (v:=.tuple #[.agg #[.string ⟨#[]⟩,.string ⟨#[]⟩,.int .i64 0],.int .i64 13]) ?_ rfl ⟨by rw [HEQ.out]; rfl,hbl⟩
    simp [results,Tryz.results19,go_sem,(hb.cell 0).trans (show _=some (Value.string ⟨#[]⟩) from rfl),(hb.cell 1).trans (show _=some (Value.string ⟨#[]⟩) from rfl),(hb.cell 2).trans (show _=some (Value.int .i64 0) from rfl)]
   ·have hyes:valA dayD F t=some ⟨fl,tx,nu⟩:=by
     cases h:valA dayD F t with
     | none => have:=HOKV.out.1; rw [h] at this; cases this
     | some x => rw [HOKV.out.2.1 x h]
    have HY:=Lib.hid hyes
    clear hyes
    refine t1 0 rfl ?_
    try simp only [pt]
    refine t1 1 rfl ?_
    try simp only [pt]
    refine t1 2 rfl ?_
    try simp only [pt]
    refine t1 3 rfl ?_
    try simp only [pt]
    refine t1 4 rfl ?_
    try simp only [pt]
    refine t1 5 rfl ?_
    try simp only [pt]
    refine t1 6 rfl ?_
    try simp only [pt]
    refine t1 7 rfl ?_
    try simp only [pt]
    refine t1 8 rfl ?_
    try simp only [pt]
    refine wpAnyH_ready (rs:=[9]) (by kernel_rfl) (by simp) ?_
    refine AllReadyH.cons rfl (fun Kc hKc => ?_) AllReadyH.nil
    go_simp
    refine (s_fits F ⟨fl,tx,nu⟩ (.slice Ao no co) (· < w.heap.size) w7 (HO.out.keep fun q hq => (K6.out.1.trans (B_0.out.mono K6.out.1.size)).block q hq) (fun q hq => Nat.lt_of_lt_of_le hq (K6.out.1.trans (B_0.out.mono K6.out.1.size)).size) HOPL.out HOKV.out.2.2.1.symm HOKV.out.2.2.2).mono ?_
    rintro e w9 ⟨rfl,hb9⟩
    have B_1:=Lib.hid (B_0.out.trans (hb9.mono B_0.out.size))
    clear hb9
    refine hKc.out _ _ (HHD.out _ B_1.out) (fun hHeld => ?_)
    clear hKc Kc
    try simp only [pt]
    refine t1 10 rfl ?_
    try simp only [pt]
    refine t1 11 rfl ?_
    try simp only [pt]
    refine wpAnyH_done (by kernel_rfl) ?_ _
    have K9:=Lib.hid (show Below w.heap.size w w9 ∧ Blk w9 w.heap.size 37 #[.string title,.slice (some ⟨b,off,none⟩) nf cf] ∧ Blk w9 (w.heap.size+1) 50 #[.string ⟨#[]⟩,.string ⟨#[]⟩,.int .i64 0] from ⟨K6.out.1.trans (B_1.out.mono K6.out.1.size),K6.out.2.1.below' B_1.out K6.out.2.1.lt,K6.out.2.2.below' B_1.out K6.out.2.2.lt⟩)
    obtain ⟨-,-,-,-,-,-,-,e0,e1,e2⟩:=HHD.out _ B_1.out
    cases hft:fitsF F ⟨fl,tx,nu⟩
    ·have hr:=K9.out.2.2
     have r0:=(hr.cell 0).trans (show _=some (Value.string ⟨#[]⟩) from rfl)
     have r1:=(hr.cell 1).trans (show _=some (Value.string ⟨#[]⟩) from rfl)
     have r2:=(hr.cell 2).trans (show _=some (Value.int .i64 0) from rfl)
     have g0:=hr.frozen 0
     have g1:=hr.frozen 1
     have g2:=hr.frozen 2
     clear hr
     have HEQ:=Lib.hid (show valS dayD (validB title L) L nm t=(ans0,13) from by rw [HH.out]; exact valF_no HY.out hft)
     go_wp2_with fail
     obtain ⟨hb,hbl,-⟩:=ansr_fin (a:=⟨⟨#[]⟩,⟨#[]⟩,0⟩) K9.out.1 K9.out.2.2 _ rfl
     have HBL:=Lib.hid hb
     have hb:=HBL.out
     refine bodyPost_ret (v:=.tuple #[.agg #[.string ⟨#[]⟩,.string ⟨#[]⟩,.int .i64 0],.int .i64 13]) ?_ rfl ⟨by rw [HEQ.out]; rfl,hbl⟩
     simp [results,Tryz.results19,go_sem,(hb.cell 0).trans (show _=some (Value.string ⟨#[]⟩) from rfl),(hb.cell 1).trans (show _=some (Value.string ⟨#[]⟩) from rfl),(hb.cell 2).trans (show _=some (Value.int .i64 0) from rfl)]
    ·have hr:=K9.out.2.2
     have r0:=(hr.cell 0).trans (show _=some (Value.string ⟨#[]⟩) from rfl)
     have r1:=(hr.cell 1).trans (show _=some (Value.string ⟨#[]⟩) from rfl)
     have r2:=(hr.cell 2).trans (show _=some (Value.int .i64 0) from rfl)
     have g0:=hr.frozen 0
     have g1:=hr.frozen 1
     have g2:=hr.frozen 2
     clear hr
     have HEQ:=Lib.hid (show valS dayD (validB title L) L nm t=(⟨fl,tx,nu⟩,0) from by rw [HH.out]; exact valF_yes HY.out hft)
     go_wp2_with fail
     obtain ⟨hb,hbl,-⟩:=ansr_fin (a:=⟨fl,tx,nu⟩) K9.out.1 K9.out.2.2 _ rfl
     have HBL:=Lib.hid hb
     have hb:=HBL.out
     refine bodyPost_ret (v:=.tuple #[.agg #[.string fl,.string tx,.int .i64 nu],.int .i64 0]) ?_ rfl ⟨by rw [HEQ.out],hbl⟩
     simp [results,Tryz.results19,go_sem,(hb.cell 0).trans (show _=some (Value.string fl) from rfl),(hb.cell 1).trans (show _=some (Value.string tx) from rfl),(hb.cell 2).trans (show _=some (Value.int .i64 nu) from rfl)]
set_option maxRecDepth 100000 in
set_option maxHeartbeats 4000000 in
theorem r_ValidF (t : ByteArray) (v : Value) (L : List Fld) (S : Nat → Prop) (w : World) (hv : FldsAt w S v L) (hS : ∀ b,S b → b < w.heap.size) (hok : FormOk t L) (hl : LibOk w) (hsp : SpcOk w) :
  Calls Tryz.prog 21 #[.agg #[.string t,v]] w (BoolBel (validB t L) w):=by
 obtain ⟨A,n,c,rfl,hn,hnc,hc⟩:=id hv
 obtain ⟨i0,hi,hz0,hz1,hz2⟩:=info_parts infoFd
 have hsl:=fun (W:World) (i:Nat) (h:i ≤ c) => run_slice_hi (P:=Tryz.prog) W 35 58 i0 Tryz.underlying35 hi A n c i h (i:Int) rfl
 obtain ⟨ht,hll,hfo⟩:=hok
 have hb0:Below w.heap.size w (w.alloc (.cells #[.string t,.slice A n c] 37)):=(Below.refl _ _).alloc (Nat.le_refl _) _
 have hs0:(w.alloc (.cells #[.string t,.slice A n c] 37)).heap.size=w.heap.size+1:=by simp
 have hbk:Blk (w.alloc (.cells #[.string t,.slice A n c] 37)) w.heap.size 37 #[.string t,.slice A n c]:=Blk.new w _ _
 have HSL:=Lib.hid hsl
 have HLB:=Lib.hid hl
 have HSP:=Lib.hid hsp
 have HB0:=Lib.hid hb0
 have HBK:=Lib.hid hbk
 have HC:=Lib.hid hc
 have HN:=Lib.hid hn
 have HS:=Lib.hid hS
 have HFO:=Lib.hid hfo
 have hn1:n ≤ 1000000:=by omega
 clear hc hn hS hll hb0 hbk hfo hv hsl hi hz0 hz1 hz2 hl hsp
 go_enter Tryz.func21,Tryz.ntmps21
 go_wp2_with fail
 obtain ⟨w0,hw0⟩:∃ w0,w.alloc (.cells #[.string t,.slice A n c] 37)=w0:=⟨_,rfl⟩
 rw [hw0] at HB0 HBK hs0 ⊢
 clear hw0
 go_loopw [10] (fun v10 wr => ∃ k:Nat,k ≤ n ∧ v10=.int .i64 (k:Int) ∧ valK L k ∧ Below w0.heap.size w0 wr) (fun v10 _ => n - (intOf v10).toNat)
 case atStart => exact ⟨0,by omega,rfl,fun i hi => absurd hi (Nat.not_lt_zero _),Below.refl _ _⟩
 case round =>
  obtain ⟨k,hk,rfl,hg,hbr⟩:=hrel
  have HG:=Lib.hid hg
  have HBR:=Lib.hid hbr
  have hszr:=hbr.size
  clear hg hbr
  by_cases hlt:k < n
  ·obtain ⟨b,off,rfl,hSb,hcell⟩:=HC.out (by omega)
   have hbw:=HS.out b hSb
   have hf:=hcell k hlt
   have hbl:Below w.heap.size w wr:=HB0.out.trans (HBR.out.mono (by omega))
   have hkl:k < L.length:=by have:=HN.out; omega
   have hfok:=HFO.out k hkl
   have hnot:∀ h,validB t L=false:=fun (h:¬ (fldB (fldAt L k)=true ∧ ∀ j,j < k → (fldAt L j).name ≠ (fldAt L k).name)) => validB_not hkl h
   have hstep:=valK_step HG.out
   obtain ⟨f,hfe⟩:∃ f,fldAt L k=f:=⟨_,rfl⟩
   rw [hfe] at hf hfok hnot hstep
   obtain ⟨nm,kd,nd,le,mo,op⟩:=f
   obtain ⟨c0,c1,c2,c3,c4,u,c5,hu⟩:=hf
   have hue:=hu
   obtain ⟨Au,nu,cu,rfl,-⟩:=hu
   have e0:wr.cell? ⟨b,off+k*6,none⟩=_:=(hbl.cell (p:=⟨b,off+k*6,none⟩) hbw).trans c0
   have e1:wr.cell? ⟨b,off+k*6+1,none⟩=_:=(hbl.cell (p:=⟨b,off+k*6+1,none⟩) hbw).trans c1
   have e2:wr.cell? ⟨b,off+k*6+2,none⟩=_:=(hbl.cell (p:=⟨b,off+k*6+2,none⟩) hbw).trans c2
   have e3:wr.cell? ⟨b,off+k*6+3,none⟩=_:=(hbl.cell (p:=⟨b,off+k*6+3,none⟩) hbw).trans c3
   have e4:wr.cell? ⟨b,off+k*6+4,none⟩=_:=(hbl.cell (p:=⟨b,off+k*6+4,none⟩) hbw).trans c4
   have e5:wr.cell? ⟨b,off+k*6+5,none⟩=_:=(hbl.cell (p:=⟨b,off+k*6+5,none⟩) hbw).trans c5
   have hbx:=Blk.new wr 58 #[.string nm,.int .i64 kd,.bool nd,.int .i64 le,.int .i64 mo,.slice Au nu cu]
   have hbxb:Below w0.heap.size w0 (wr.alloc (.cells #[.string nm,.int .i64 kd,.bool nd,.int .i64 le,.int .i64 mo,.slice Au nu cu] 58)):=HBR.out.alloc hszr _
   have hbxw:Below w.heap.size w (wr.alloc (.cells #[.string nm,.int .i64 kd,.bool nd,.int .i64 le,.int .i64 mo,.slice Au nu cu] 58)):=hbl.alloc (by omega) _
   have hrt:=fun (W:World) (hb:Below w.heap.size w W) => r_field nm kd nd le mo op (.slice Au nu cu) S W (hue.keep fun b hB => hb.block b (HS.out b hB)) (fun b hB => Nat.lt_of_lt_of_le (HS.out b hB) hb.size) hfok (spc_below HSP.out (by have:=HLB.out.size; show 0 < _; omega) hb) (HLB.out.later hb)
   have hsl1:=fun (W:World) => HSL.out W k (by omega)
   have HRT:=Lib.hid hrt
   have HBX:=Lib.hid hbx
   have HBXB:=Lib.hid hbxb
   have HBXW:=Lib.hid hbxw
   have HNOT:=Lib.hid hnot
   have HSTEP:=Lib.hid hstep
   have HCELL:=Lib.hid hcell
   clear hcell hfok hnot hstep hfe c0 c1 c2 c3 c4 c5 hbx hbxb hbxw hrt hue hbl hkl
   have zi:(k:Int) < (n:Int):=by omega
   have z0:(0:Int) ≤ (k:Int):=by omega
   cases hr:fldB ⟨nm,kd,nd,le,mo,op⟩ with
   | false =>
    have hno:=HNOT.out (fun h => by rw [hr] at h; cases h.1)
    have HNO:=Lib.hid hno
    have HR:=Lib.hid hr
    clear hno hr
    go_wp2_with fail
    refine (HRT.out _ HBXW.out).mono ?_
    rw [HR.out]
    rintro e w2 ⟨rfl,hb2⟩
    have HBW2:=Lib.hid (HBXW.out.trans (hb2.mono HBXW.out.size))
    clear hb2
    go_wp2_with fail
    go_ret
    exact ⟨by rw [HNO.out]; rfl,HBW2.out⟩
   | true =>
    have HR:=Lib.hid hr
    clear hr
    go_wp2_with fail
    refine (HRT.out _ HBXW.out).mono ?_
    rw [HR.out]
    rintro e w1 ⟨rfl,hb1⟩
    have hbo1:=HBXB.out.trans (hb1.mono HBXB.out.size)
    have hbw1:=HBXW.out.trans (hb1.mono HBXW.out.size)
    have hf1:=HBK.out.below' hbo1 (by omega)
    have f1:=(hf1.cell 1).trans (show _=some (Value.slice (some ⟨b,off,none⟩) n c) from rfl)
    have hbk1:=HBX.out.below' hb1 (by simp)
    have HBK1:=Lib.hid hbk1
    have HBO1:=Lib.hid hbo1
    have HBW1:=Lib.hid hbw1
    have hs1:=hb1.size
    simp only [World.size_alloc] at hs1
    clear hb1 hbo1 hbw1 hf1 hbk1 e0 e1 e2 e3 e4 e5
    go_wp2_with fail
    obtain ⟨xb,hxb⟩:∃ xb,wr.heap.size=xb:=⟨_,rfl⟩
    rw [hxb] at HBK1 hs1 ⊢
    have HXB:=Lib.hid hxb
    clear hxb
    go_loopw [23] (fun v23 wq => ∃ i:Nat,i ≤ k ∧ v23=.int .i64 (i:Int) ∧ (∀ j,j < i → (fldAt L j).name ≠ nm) ∧ Below w1.heap.size w1 wq) (fun v23 _ => k - (intOf v23).toNat)
    case atStart => exact ⟨0,by omega,rfl,fun i hi => absurd hi (Nat.not_lt_zero _),Below.refl _ _⟩
    case round =>
     rename World => wq
     obtain ⟨i,hik,rfl,hne,hbq⟩:=hrel
     have HNE:=Lib.hid hne
     have HBQ:=Lib.hid hbq
     have hsq:=hbq.size
     clear hne hbq
     have hgx:=HBK1.out.below' HBQ.out (by omega)
     have g0:=(hgx.cell 0).trans (show _=some (Value.string nm) from rfl)
     clear hgx
     by_cases hlt2:i < k
     ·have hf2:=HCELL.out i (by omega)
      obtain ⟨f2,hf2e⟩:∃ f,fldAt L i=f:=⟨_,rfl⟩
      rw [hf2e] at hf2
      obtain ⟨nm2,kd2,nd2,le2,mo2,op2⟩:=f2
      obtain ⟨c0,c1,c2,c3,c4,u2,c5,hu2⟩:=hf2
      obtain ⟨Au2,nu2,cu2,rfl,-⟩:=hu2
      have hblq:Below w.heap.size w wq:=HBW1.out.trans (HBQ.out.mono HBW1.out.size)
      have e0:wq.cell? ⟨b,off+i*6,none⟩=_:=(hblq.cell (p:=⟨b,off+i*6,none⟩) hbw).trans c0
      have e1:wq.cell? ⟨b,off+i*6+1,none⟩=_:=(hblq.cell (p:=⟨b,off+i*6+1,none⟩) hbw).trans c1
      have e2:wq.cell? ⟨b,off+i*6+2,none⟩=_:=(hblq.cell (p:=⟨b,off+i*6+2,none⟩) hbw).trans c2
      have e3:wq.cell? ⟨b,off+i*6+3,none⟩=_:=(hblq.cell (p:=⟨b,off+i*6+3,none⟩) hbw).trans c3
      have e4:wq.cell? ⟨b,off+i*6+4,none⟩=_:=(hblq.cell (p:=⟨b,off+i*6+4,none⟩) hbw).trans c4
      have e5:wq.cell? ⟨b,off+i*6+5,none⟩=_:=(hblq.cell (p:=⟨b,off+i*6+5,none⟩) hbw).trans c5
      have g1:(wq.alloc (.cells #[.string nm2,.int .i64 kd2,.bool nd2,.int .i64 le2,.int .i64 mo2,.slice Au2 nu2 cu2] 58)).cell? ⟨xb,0,none⟩=some (.string nm):=(World.cell?_alloc_lt wq _ ⟨xb,0,none⟩ (by show xb < _; omega)).trans g0
      have HBQ2:=Lib.hid (HBQ.out.alloc hsq (.cells #[.string nm2,.int .i64 kd2,.bool nd2,.int .i64 le2,.int .i64 mo2,.slice Au2 nu2 cu2] 58))
      have zj:(i:Int) < (k:Int):=by omega
      have z2:(0:Int) ≤ (i:Int):=by omega
      have HF2:=Lib.hid hf2e
      have HBLQ:=Lib.hid (hblq.alloc hblq.size (.cells #[.string nm2,.int .i64 kd2,.bool nd2,.int .i64 le2,.int .i64 mo2,.slice Au2 nu2 cu2] 58))
      clear c0 c1 c2 c3 c4 c5 hblq hf2e
      by_cases hxy:nm=nm2
      ·have hq:(nm.toList == nm2.toList)=true:=seq_true hxy
       have hno:=HNOT.out (fun h => h.2 i hlt2 (by rw [HF2.out]; exact hxy.symm))
       have HNO:=Lib.hid hno
       clear hno hxy
       go_wp2_with fail
       go_ret
       exact ⟨by rw [HNO.out]; rfl,HBLQ.out⟩
      ·have hq:(nm.toList == nm2.toList)=false:=seq_false (fun h => hxy (blOf_inj h))
       have HXY:=Lib.hid hxy
       clear hxy
       go_wp2_with fail
       go_roundw
       case measure => simp [intOf]; omega
       case rel => exact ⟨i+1,by omega,by go_num,(fun j hj => by
        by_cases e:j=i
        ·subst e; rw [HF2.out]; exact fun e => HXY.out e.symm
        ·exact HNE.out j (by omega)),HBQ2.out⟩
     ·have zj:¬ (i:Int) < (k:Int):=by omega
      have hst:=HSTEP.out HR.out (fun j hj => HNE.out j (by omega))
      have HST:=Lib.hid hst
      have HBQ2:=Lib.hid (HBO1.out.trans (HBQ.out.mono HBO1.out.size))
      clear hst
      go_wp2_with fail
      go_roundw
      case measure => simp [intOf]; omega
      case rel => exact ⟨k+1,by omega,by go_num,HST.out,HBQ2.out⟩
  ·have zi:¬ (k:Int) < (n:Int):=by omega
   have he:validB t L=decide (t.size ≤ 256 ∧ n ≤ 32):=by
    have h3:=HG.out
    rw [show k=L.length by have:=HN.out; omega] at h3
    rw [validB_end h3,HN.out]
   have HE:=Lib.hid he
   have HBW1:=Lib.hid (HB0.out.trans (HBR.out.mono (by omega)))
   have hf1:=HBK.out.below' HBR.out (by omega)
   have f0:=(hf1.cell 0).trans (show _=some (Value.string t) from rfl)
   have f1:=(hf1.cell 1).trans (show _=some (Value.slice A n c) from rfl)
   clear he hf1
   by_cases h1:t.size ≤ 256
   ·have z1:(t.size:Int) ≤ 256:=by omega
    by_cases h2:n ≤ 32
    ·have z2:(n:Int) ≤ 32:=by omega
     go_wp2_with fail
     go_ret
     exact ⟨by rw [HE.out,decide_eq_true ⟨h1,h2⟩]; rfl,HBW1.out⟩
    ·have z2:¬ (n:Int) ≤ 32:=by omega
     go_wp2_with fail
     go_ret
     exact ⟨by rw [HE.out,decide_eq_false (fun h => h2 h.2)]; rfl,HBW1.out⟩
   ·have z1:¬ (t.size:Int) ≤ 256:=by omega
    go_wp2_with fail
    go_ret
    exact ⟨by rw [HE.out,decide_eq_false (fun h => h1 h.1)]; rfl,HBW1.out⟩
end Go.Proofs.YtgdngfdeeadlnaaGreatDoor

/- Contracts: which forms are valid, by the reference. And more. -/
import Derived.Test.YtfinaekeoeeogaaGreatDoorX20
import Derived.Test.YtfinaekeoeeogaaGreatDoorX21
import Derived.Test.YtfinaekeoeeogaaGreatDoorX22
import Derived.Test.YtfinaekeoeeogaaGreatDoorX24
import Derived.Test.YtfinaekeoeeogaaGreatDoorX01
import Derived.Test.YtfinaekeoeeogaaGreatDoorX13
import Derived.Test.YtfinaekeoeeogaaGreatDoorX09
import Derived.Test.YtfinaekeoeeogaaGreatDoorX11
import Derived.Test.YtfinaekeoeeogaaGreatDoorX14
import Derived.Deep.CutRange
import Derived.Deep.CutBlock
import Derived.Laws.OwnMore
import Derived.Maps.AppendAt
import Derived.Deep.Slices
set_option linter.unusedVariables false
set_option linter.unusedSimpArgs false
namespace Go.Proofs.YtfinaekeoeeogaaGreatDoor
open Go.RowKit Num
set_option maxRecDepth 100000 in
set_option maxHeartbeats 4000000 in
theorem r_ValidF (t : ByteArray) (v : Value) (L : List Fld) (S : Nat → Prop) (w : World) (hv : FldsAt w S v L) (hS : ∀ b,S b → b < w.heap.size) (hok : FormOk t L) (hl : LibOk w) (hsp : SpcOk w) :
  Calls Tryz.prog 26 #[.agg #[.string t,v]] w (BoolBel (validB t L) w):=by
 obtain ⟨A,n,c,rfl,hn,hnc,hc⟩:=id hv
 obtain ⟨i0,hi,hz0,hz1,hz2⟩:=info_parts infoFd
 have hsl:=fun (W:World) (i:Nat) (h:i ≤ c) => run_slice_hi (P:=Tryz.prog) W 35 63 i0 Tryz.underlying35 hi A n c i h (i:Int) rfl
 obtain ⟨ht,hll,hfo⟩:=hok
 have hb0:Below w.heap.size w (w.alloc (.cells #[.string t,.slice A n c] 37)):=(Below.refl _ _).alloc (Nat.le_refl _) _
 have hs0:(w.alloc (.cells #[.string t,.slice A n c] 37)).heap.size=w.heap.size+1:=by simp
 have hbk:Blk (w.alloc (.cells #[.string t,.slice A n c] 37)) w.heap.size 37 #[.string t,.slice A n c]:=Blk.new w _ _
 have HSL:=Lib.hid hsl
 have HLB:=Lib.hid hl
 have HSP:=Lib.hid hsp
 have HB0:=Lib.hid hb0
 have HBK:=Lib.hid hbk
 have HC:=Lib.hid hc
 have HN:=Lib.hid hn
 have HS:=Lib.hid hS
 have HFO:=Lib.hid hfo
 have hn1:n ≤ 1000000:=by omega
 clear hc hn hS hll hb0 hbk hfo hv hsl hi hz0 hz1 hz2 hl hsp
 go_enter Tryz.func26,Tryz.ntmps26
 go_wp2_with fail
 obtain ⟨w0,hw0⟩:∃ w0,w.alloc (.cells #[.string t,.slice A n c] 37)=w0:=⟨_,rfl⟩
 rw [hw0] at HB0 HBK hs0 ⊢
 clear hw0
 go_loopw [10] (fun v10 wr => ∃ k:Nat,k ≤ n ∧ v10=.int .i64 (k:Int) ∧ valK L k ∧ Below w0.heap.size w0 wr) (fun v10 _ => n - (intOf v10).toNat)
 case atStart => exact ⟨0,by omega,rfl,fun i hi => absurd hi (Nat.not_lt_zero _),Below.refl _ _⟩
 case round =>
  obtain ⟨k,hk,rfl,hg,hbr⟩:=hrel
  have HG:=Lib.hid hg
  have HBR:=Lib.hid hbr
  have hszr:=hbr.size
  clear hg hbr
  by_cases hlt:k < n
  ·obtain ⟨b,off,rfl,hSb,hcell⟩:=HC.out (by omega)
   have hbw:=HS.out b hSb
   have hf:=hcell k hlt
   have hbl:Below w.heap.size w wr:=HB0.out.trans (HBR.out.mono (by omega))
   have hkl:k < L.length:=by have:=HN.out; omega
   have hfok:=HFO.out k hkl
   have hnot:∀ h,validB t L=false:=fun (h:¬ (fldB (fldAt L k)=true ∧ ∀ j,j < k → (fldAt L j).name ≠ (fldAt L k).name)) => validB_not hkl h
   have hstep:=valK_step HG.out
   obtain ⟨f,hfe⟩:∃ f,fldAt L k=f:=⟨_,rfl⟩
   rw [hfe] at hf hfok hnot hstep
   obtain ⟨nm,kd,nd,le,mo,op⟩:=f
   obtain ⟨c0,c1,c2,c3,c4,u,c5,hu⟩:=hf
   have hue:=hu
   obtain ⟨Au,nu,cu,rfl,-⟩:=hu
   have e0:wr.cell? ⟨b,off+k*6,none⟩=_:=(hbl.cell (p:=⟨b,off+k*6,none⟩) hbw).trans c0
   have e1:wr.cell? ⟨b,off+k*6+1,none⟩=_:=(hbl.cell (p:=⟨b,off+k*6+1,none⟩) hbw).trans c1
   have e2:wr.cell? ⟨b,off+k*6+2,none⟩=_:=(hbl.cell (p:=⟨b,off+k*6+2,none⟩) hbw).trans c2
   have e3:wr.cell? ⟨b,off+k*6+3,none⟩=_:=(hbl.cell (p:=⟨b,off+k*6+3,none⟩) hbw).trans c3
   have e4:wr.cell? ⟨b,off+k*6+4,none⟩=_:=(hbl.cell (p:=⟨b,off+k*6+4,none⟩) hbw).trans c4
   have e5:wr.cell? ⟨b,off+k*6+5,none⟩=_:=(hbl.cell (p:=⟨b,off+k*6+5,none⟩) hbw).trans c5
   have hbx:=Blk.new wr 63 #[.string nm,.int .i64 kd,.bool nd,.int .i64 le,.int .i64 mo,.slice Au nu cu]
   have hbxb:Below w0.heap.size w0 (wr.alloc (.cells #[.string nm,.int .i64 kd,.bool nd,.int .i64 le,.int .i64 mo,.slice Au nu cu] 63)):=HBR.out.alloc hszr _
   have hbxw:Below w.heap.size w (wr.alloc (.cells #[.string nm,.int .i64 kd,.bool nd,.int .i64 le,.int .i64 mo,.slice Au nu cu] 63)):=hbl.alloc (by omega) _
   have hrt:=fun (W:World) (hb:Below w.heap.size w W) => r_field nm kd nd le mo op (.slice Au nu cu) S W (hue.keep fun b hB => hb.block b (HS.out b hB)) (fun b hB => Nat.lt_of_lt_of_le (HS.out b hB) hb.size) hfok (spc_below HSP.out (by have:=HLB.out.size; show 0 < _; omega) hb) (HLB.out.later hb)
   have hsl1:=fun (W:World) => HSL.out W k (by omega)
   have HRT:=Lib.hid hrt
   have HBX:=Lib.hid hbx
   have HBXB:=Lib.hid hbxb
   have HBXW:=Lib.hid hbxw
   have HNOT:=Lib.hid hnot
   have HSTEP:=Lib.hid hstep
   have HCELL:=Lib.hid hcell
   clear hcell hfok hnot hstep hfe c0 c1 c2 c3 c4 c5 hbx hbxb hbxw hrt hue hbl hkl
   have zi:(k:Int) < (n:Int):=by omega
   have z0:(0:Int) ≤ (k:Int):=by omega
   cases hr:fldB ⟨nm,kd,nd,le,mo,op⟩ with
   | false =>
    have hno:=HNOT.out (fun h => by rw [hr] at h; cases h.1)
    have HNO:=Lib.hid hno
    have HR:=Lib.hid hr
    clear hno hr
    go_wp2_with fail
    refine (HRT.out _ HBXW.out).mono ?_
    rw [HR.out]
    rintro e w2 ⟨rfl,hb2⟩
    have HBW2:=Lib.hid (HBXW.out.trans (hb2.mono HBXW.out.size))
    clear hb2
    go_wp2_with fail
    go_ret
    exact ⟨by rw [HNO.out]; rfl,HBW2.out⟩
   | true =>
    have HR:=Lib.hid hr
    clear hr
    go_wp2_with fail
    refine (HRT.out _ HBXW.out).mono ?_
    rw [HR.out]
    rintro e w1 ⟨rfl,hb1⟩
    have hbo1:=HBXB.out.trans (hb1.mono HBXB.out.size)
    have hbw1:=HBXW.out.trans (hb1.mono HBXW.out.size)
    have hf1:=HBK.out.below' hbo1 (by omega)
    have f1:=(hf1.cell 1).trans (show _=some (Value.slice (some ⟨b,off,none⟩) n c) from rfl)
    have hbk1:=HBX.out.below' hb1 (by simp)
    have HBK1:=Lib.hid hbk1
    have HBO1:=Lib.hid hbo1
    have HBW1:=Lib.hid hbw1
    have hs1:=hb1.size
    simp only [World.size_alloc] at hs1
    clear hb1 hbo1 hbw1 hf1 hbk1 e0 e1 e2 e3 e4 e5
    go_wp2_with fail
    obtain ⟨xb,hxb⟩:∃ xb,wr.heap.size=xb:=⟨_,rfl⟩
    rw [hxb] at HBK1 hs1 ⊢
    have HXB:=Lib.hid hxb
    clear hxb
    go_loopw [23] (fun v23 wq => ∃ i:Nat,i ≤ k ∧ v23=.int .i64 (i:Int) ∧ (∀ j,j < i → (fldAt L j).name ≠ nm) ∧ Below w1.heap.size w1 wq) (fun v23 _ => k - (intOf v23).toNat)
    case atStart => exact ⟨0,by omega,rfl,fun i hi => absurd hi (Nat.not_lt_zero _),Below.refl _ _⟩
    case round =>
     rename World => wq
     obtain ⟨i,hik,rfl,hne,hbq⟩:=hrel
     have HNE:=Lib.hid hne
     have HBQ:=Lib.hid hbq
     have hsq:=hbq.size
     clear hne hbq
     have hgx:=HBK1.out.below' HBQ.out (by omega)
     have g0:=(hgx.cell 0).trans (show _=some (Value.string nm) from rfl)
     clear hgx
     by_cases hlt2:i < k
     ·have hf2:=HCELL.out i (by omega)
      obtain ⟨f2,hf2e⟩:∃ f,fldAt L i=f:=⟨_,rfl⟩
      rw [hf2e] at hf2
      obtain ⟨nm2,kd2,nd2,le2,mo2,op2⟩:=f2
      obtain ⟨c0,c1,c2,c3,c4,u2,c5,hu2⟩:=hf2
      obtain ⟨Au2,nu2,cu2,rfl,-⟩:=hu2
      have hblq:Below w.heap.size w wq:=HBW1.out.trans (HBQ.out.mono HBW1.out.size)
      have e0:wq.cell? ⟨b,off+i*6,none⟩=_:=(hblq.cell (p:=⟨b,off+i*6,none⟩) hbw).trans c0
      have e1:wq.cell? ⟨b,off+i*6+1,none⟩=_:=(hblq.cell (p:=⟨b,off+i*6+1,none⟩) hbw).trans c1
      have e2:wq.cell? ⟨b,off+i*6+2,none⟩=_:=(hblq.cell (p:=⟨b,off+i*6+2,none⟩) hbw).trans c2
      have e3:wq.cell? ⟨b,off+i*6+3,none⟩=_:=(hblq.cell (p:=⟨b,off+i*6+3,none⟩) hbw).trans c3
      have e4:wq.cell? ⟨b,off+i*6+4,none⟩=_:=(hblq.cell (p:=⟨b,off+i*6+4,none⟩) hbw).trans c4
      have e5:wq.cell? ⟨b,off+i*6+5,none⟩=_:=(hblq.cell (p:=⟨b,off+i*6+5,none⟩) hbw).trans c5
      have g1:(wq.alloc (.cells #[.string nm2,.int .i64 kd2,.bool nd2,.int .i64 le2,.int .i64 mo2,.slice Au2 nu2 cu2] 63)).cell? ⟨xb,0,none⟩=some (.string nm):=(World.cell?_alloc_lt wq _ ⟨xb,0,none⟩ (by show xb < _; omega)).trans g0
      have HBQ2:=Lib.hid (HBQ.out.alloc hsq (.cells #[.string nm2,.int .i64 kd2,.bool nd2,.int .i64 le2,.int .i64 mo2,.slice Au2 nu2 cu2] 63))
      have zj:(i:Int) < (k:Int):=by omega
      have z2:(0:Int) ≤ (i:Int):=by omega
      have HF2:=Lib.hid hf2e
      have HBLQ:=Lib.hid (hblq.alloc hblq.size (.cells #[.string nm2,.int .i64 kd2,.bool nd2,.int .i64 le2,.int .i64 mo2,.slice Au2 nu2 cu2] 63))
      clear c0 c1 c2 c3 c4 c5 hblq hf2e
      by_cases hxy:nm=nm2
      ·have hq:(nm.toList == nm2.toList)=true:=seq_true hxy
       have hno:=HNOT.out (fun h => h.2 i hlt2 (by rw [HF2.out]; exact hxy.symm))
       have HNO:=Lib.hid hno
       clear hno hxy
       go_wp2_with fail
       go_ret
       exact ⟨by rw [HNO.out]; rfl,HBLQ.out⟩
      ·have hq:(nm.toList == nm2.toList)=false:=seq_false (fun h => hxy (blOf_inj h))
       have HXY:=Lib.hid hxy
       clear hxy
       go_wp2_with fail
       go_roundw
       case measure => simp [intOf]; omega
       case rel => exact ⟨i+1,by omega,by go_num,(fun j hj => by
        by_cases e:j=i
        ·subst e; rw [HF2.out]; exact fun e => HXY.out e.symm
        ·exact HNE.out j (by omega)),HBQ2.out⟩
     ·have zj:¬ (i:Int) < (k:Int):=by omega
      have hst:=HSTEP.out HR.out (fun j hj => HNE.out j (by omega))
      have HST:=Lib.hid hst
      have HBQ2:=Lib.hid (HBO1.out.trans (HBQ.out.mono HBO1.out.size))
      clear hst
      go_wp2_with fail
      go_roundw
      case measure => simp [intOf]; omega
      case rel => exact ⟨k+1,by omega,by go_num,HST.out,HBQ2.out⟩
  ·have zi:¬ (k:Int) < (n:Int):=by omega
   have he:validB t L=decide (t.size ≤ 256 ∧ n ≤ 32):=by
    have h3:=HG.out
    rw [show k=L.length by have:=HN.out; omega] at h3
    rw [validB_end h3,HN.out]
   have HE:=Lib.hid he
   have HBW1:=Lib.hid (HB0.out.trans (HBR.out.mono (by omega)))
   have hf1:=HBK.out.below' HBR.out (by omega)
   have f0:=(hf1.cell 0).trans (show _=some (Value.string t) from rfl)
   have f1:=(hf1.cell 1).trans (show _=some (Value.slice A n c) from rfl)
   clear he hf1
   by_cases h1:t.size ≤ 256
   ·have z1:(t.size:Int) ≤ 256:=by omega
    by_cases h2:n ≤ 32
    ·have z2:(n:Int) ≤ 32:=by omega
     go_wp2_with fail
     go_ret
     exact ⟨by rw [HE.out,decide_eq_true ⟨h1,h2⟩]; rfl,HBW1.out⟩
    ·have z2:¬ (n:Int) ≤ 32:=by omega
     go_wp2_with fail
     go_ret
     exact ⟨by rw [HE.out,decide_eq_false (fun h => h2 h.2)]; rfl,HBW1.out⟩
   ·have z1:¬ (t.size:Int) ≤ 256:=by omega
    go_wp2_with fail
    go_ret
    exact ⟨by rw [HE.out,decide_eq_false (fun h => h1 h.1)]; rfl,HBW1.out⟩
set_option maxRecDepth 100000 in
set_option maxHeartbeats 8000000 in
theorem r_Check (title : ByteArray) (vf va vc vs : Value) (L : List Fld) (s : Stm) (w : World) (hF : FldsAt w (· < w.heap.size) vf L) (hok : FormOk title L) (hnm : ∀ f ∈ L,f.name.size ≤ maxLen ∧ f.opts.length ≤ 1000000) (hS : StmAt w (· < w.heap.size) va vc vs s) (hso : StmOk s) (hlib : LibOk w) (hsp : SpcOk w) :
  Calls Tryz.prog 12 #[.agg #[.string title,vf],.agg #[.string s.resp,.int .i64 s.dep,.int .i64 s.day,va,vc,vs]] w (ChkE (chkS title L s) w):=by
 obtain ⟨Af,nf,cf,rfl,-⟩:=id hF
 obtain ⟨Aa,na,ca,rfl,hna,-,-⟩:=id hS.aa
 obtain ⟨Ac,nc,cc,rfl,-⟩:=id hS.cc
 obtain ⟨As,ns,cs,rfl,hns,-,-⟩:=id hS.ss
 have hb2:Below w.heap.size w ((w.alloc (.cells #[.string title,.slice Af nf cf] 37)).alloc (.cells #[.string s.resp,.int .i64 s.dep,.int .i64 s.day,.slice Aa na ca,.slice Ac nc cc,.slice As ns cs] 29)):=((Below.refl _ _).alloc (Nat.le_refl _) _).alloc (by simp) _
 have hbf:Blk ((w.alloc (.cells #[.string title,.slice Af nf cf] 37)).alloc (.cells #[.string s.resp,.int .i64 s.dep,.int .i64 s.day,.slice Aa na ca,.slice Ac nc cc,.slice As ns cs] 29)) w.heap.size 37 #[.string title,.slice Af nf cf]:=(Blk.new w _ _).alloc _
 have hbs:Blk ((w.alloc (.cells #[.string title,.slice Af nf cf] 37)).alloc (.cells #[.string s.resp,.int .i64 s.dep,.int .i64 s.day,.slice Aa na ca,.slice Ac nc cc,.slice As ns cs] 29)) (w.heap.size+1) 29 #[.string s.resp,.int .i64 s.dep,.int .i64 s.day,.slice Aa na ca,.slice Ac nc cc,.slice As ns cs]:=by
  have:=Blk.new (w.alloc (.cells #[.string title,.slice Af nf cf] 37)) 29 #[.string s.resp,.int .i64 s.dep,.int .i64 s.day,.slice Aa na ca,.slice Ac nc cc,.slice As ns cs]
  rwa [World.size_alloc] at this
 have up:∀ W,Below w.heap.size w W → FldsAt W (· < W.heap.size) (.slice Af nf cf) L ∧ StmAt W (· < W.heap.size) (.slice Aa na ca) (.slice Ac nc cc) (.slice As ns cs) s:=fun W hW => ⟨(hF.keep fun b hB => hW.block b hB).mono fun b hB => Nat.lt_of_lt_of_le hB hW.size,(hS.keep fun b hB => hW.block b hB).mono fun b hB => Nat.lt_of_lt_of_le hB hW.size⟩
 have lb:∀ W,Below w.heap.size w W → LibOk W ∧ SpcOk W:=fun W hW => ⟨hlib.later hW,spc_below hsp (by have:=hlib.size; show 0 < _; omega) hW⟩
 have hva:=r_ValidF title (.slice Af nf cf) L _ _ (up _ hb2).1 (fun b h => h) hok (lb _ hb2).1 (lb _ hb2).2
 have hl:=hok.2.1
 have pA:=fun W (hW:Below w.heap.size w W) => r_answers (.slice Aa na ca) s.ans title (.slice Af nf cf) L W (up W hW).2.aa hso.an (fun k hk => ⟨(hso.ans k hk).1,(hso.ans k hk).2.1⟩) (up W hW).1 hl hnm
 have pV:=fun W (hW:Below w.heap.size w W) => r_Valid17 Ac nc cc s.cond W.heap.size W (up W hW).2.cc (Nat.le_refl _) hso.cn hso.cond (lb W hW).1 (lb W hW).2
 have pK:=fun W (hW:Below w.heap.size w W) => r_choices (.slice Ac nc cc) s.cond title (.slice Af nf cf) L W (up W hW).2.cc hso.cn (up W hW).1 hl
 have pS:=fun W (hW:Below w.heap.size w W) => r_shows (.slice As ns cs) s.shw title (.slice Af nf cf) L W (up W hW).2.ss hso.sn (fun k hk => (hso.shw k hk).2) (up W hW).1 hl
 have PA:=Lib.hid pA
 have PV:=Lib.hid pV
 have PK:=Lib.hid pK
 have PS:=Lib.hid pS
 have HVA:=Lib.hid hva
 have K0:=Lib.hid (And.intro hb2 (And.intro hbf hbs))
 have c0:=(hbf.cell 0).trans (show _=some (Value.string title) from rfl)
 have c1:=(hbf.cell 1).trans (show _=some (Value.slice Af nf cf) from rfl)
 have HNA:=Lib.hid hna
 have HNS:=Lib.hid hns
 have hmx:na ≤ 1000000 ∧ ns ≤ 1000000:=⟨by have:=hso.an; omega,by have:=hso.sn; omega⟩
 have hrz:=hso.resp
 clear hb2 hbf hbs up hva pA pK pS pV lb hF hS hso hok hnm hna hns hlib hsp
 go_enter Tryz.func12,Tryz.ntmps12
 go_wp2_with fail
 refine HVA.out.mono ?_
 rintro e w1 ⟨rfl,hb1⟩
 have hB1:=K0.out.1.trans (hb1.mono K0.out.1.size)
 have hbf:=K0.out.2.1.below' hb1 K0.out.2.1.lt
 have hbs:=K0.out.2.2.below' hb1 K0.out.2.2.lt
 have K1:=Lib.hid (And.intro hB1 (And.intro hbf hbs))
 have f0:=(hbf.cell 0).trans (show _=some (Value.string title) from rfl)
 have f1:=(hbf.cell 1).trans (show _=some (Value.slice Af nf cf) from rfl)
 have s0:=(hbs.cell 0).trans (show _=some (Value.string s.resp) from rfl)
 have s1:=(hbs.cell 1).trans (show _=some (Value.int .i64 s.dep) from rfl)
 have s2:=(hbs.cell 2).trans (show _=some (Value.int .i64 s.day) from rfl)
 have s3:=(hbs.cell 3).trans (show _=some (Value.slice Aa na ca) from rfl)
 have s4:=(hbs.cell 4).trans (show _=some (Value.slice Ac nc cc) from rfl)
 have s5:=(hbs.cell 5).trans (show _=some (Value.slice As ns cs) from rfl)
 clear hB1 hbf hbs hb1 K0 HVA c0 c1
 cases hv:validB title L
 ·have hc:chkS title L s=1:=by unfold chkS; rw [if_pos hv]
  have HC:=Lib.hid hc
  clear hc
  go_wp2_with fail
  go_ret
  exact ⟨by rw [HC.out]; rfl,K1.out.1⟩
 ·by_cases h3:(s.resp.toList == [])=true ∨ 256 < s.resp.size ∨ 32 < s.ans.length ∨ 16 < s.shw.length
  ·have hc:chkS title L s=3:=by unfold chkS; rw [if_neg (by simp [hv]),if_pos h3]
   have HC:=Lib.hid hc
   clear hc
   rw [← HNA.out,← HNS.out,empty_size,decide_eq_true_iff] at h3
   by_cases z0:s.resp.size < 1
   ·have y0:(s.resp.size:Int) < 1:=by omega
    clear h3 z0
    go_wp2_with fail
    go_ret
    exact ⟨by rw [HC.out]; rfl,K1.out.1⟩
   ·have y0:¬ (s.resp.size:Int) < 1:=by omega
    by_cases z1:256 < s.resp.size
    ·have y1:(256:Int) < (s.resp.size:Int):=by omega
     clear h3 z0 z1
     go_wp2_with fail
     go_ret
     exact ⟨by rw [HC.out]; rfl,K1.out.1⟩
    ·have y1:¬ (256:Int) < (s.resp.size:Int):=by omega
     by_cases z2:32 < na
     ·have y2:(32:Int) < (na:Int):=by omega
      clear h3 z0 z1
      go_wp2_with fail
      go_ret
      exact ⟨by rw [HC.out]; rfl,K1.out.1⟩
     ·have y2:¬ (32:Int) < (na:Int):=by omega
      have z3:16 < ns:=by omega
      have y3:(16:Int) < (ns:Int):=by omega
      clear h3 z0 z1
      go_wp2_with fail
      go_ret
      exact ⟨by rw [HC.out]; rfl,K1.out.1⟩
  ·have hc3:chkS title L s=(if s.dep < 0 ∨ 63 < s.dep then 2 else if s.day < 0 ∨ 3652058 < s.day then 10 else if ansF L s.ans=false then 13 else if asksF L s.cond=false then 14 else if shwF L s.shw=false then 4 else 0):=by unfold chkS; rw [if_neg (by simp [hv]),if_neg h3]
   rw [← HNA.out,← HNS.out,empty_size,decide_eq_true_iff] at h3
   have y0:¬ (s.resp.size:Int) < 1:=fun h => h3 (.inl (by omega))
   have y1:¬ (256:Int) < (s.resp.size:Int):=fun h => h3 (.inr (.inl (by omega)))
   have y2:¬ (32:Int) < (na:Int):=fun h => h3 (.inr (.inr (.inl (by omega))))
   have y3:¬ (16:Int) < (ns:Int):=fun h => h3 (.inr (.inr (.inr (by omega))))
   have C3:=Lib.hid hc3
   clear hc3 h3
   by_cases d1:s.dep < 0
   ·have HC:=Lib.hid (C3.out.trans (if_pos (.inl d1)))
    go_wp2_with fail
    go_ret
    exact ⟨by rw [HC.out]; rfl,K1.out.1⟩
   ·by_cases d2:63 < s.dep
    ·have HC:=Lib.hid (C3.out.trans (if_pos (.inr d2)))
     go_wp2_with fail
     go_ret
     exact ⟨by rw [HC.out]; rfl,K1.out.1⟩
    ·have C4:=Lib.hid (C3.out.trans (if_neg (by omega)))
     by_cases g1:s.day < 0
     ·have HC:=Lib.hid (C4.out.trans (if_pos (.inl g1)))
      go_wp2_with fail
      go_ret
      exact ⟨by rw [HC.out]; rfl,K1.out.1⟩
     ·by_cases g2:3652058 < s.day
      ·have HC:=Lib.hid (C4.out.trans (if_pos (.inr g2)))
       go_wp2_with fail
       go_ret
       exact ⟨by rw [HC.out]; rfl,K1.out.1⟩
      ·have C5:=Lib.hid (C4.out.trans (if_neg (by omega)))
       go_wp2_with fail
       refine (PA.out w1 K1.out.1).mono ?_
       rintro e w2 ⟨rfl,hb2⟩
       have hB2:=K1.out.1.trans (hb2.mono K1.out.1.size)
       have hbf:=K1.out.2.1.below' hb2 K1.out.2.1.lt
       have hbs:=K1.out.2.2.below' hb2 K1.out.2.2.lt
       have K2:=Lib.hid (And.intro hB2 (And.intro hbf hbs))
       clear f0 f1 s0 s1 s2 s3 s4 s5 y0 y1 y2 y3
       have s4:=(hbs.cell 4).trans (show _=some (Value.slice Ac nc cc) from rfl)
       clear hB2 hbf hbs hb2 K1 PA
       cases ha:ansF L s.ans
       ·have HC:=Lib.hid (C5.out.trans (if_pos ha))
        go_wp2_with fail
        go_ret
        exact ⟨by rw [HC.out]; rfl,K2.out.1⟩
       ·have C6:=Lib.hid (C5.out.trans (if_neg (by rw [ha]; decide)))
        have hqq:asksF L s.cond=((rootF s.cond).isSome && !s.cond.any (badT L)):=rfl
        have HQ:=Lib.hid hqq
        clear hqq
        go_wp2_with fail
        refine (PV.out w2 K2.out.1).mono ?_
        rintro e w3 ⟨rfl,hb3⟩
        have hB3:=K2.out.1.trans (hb3.mono K2.out.1.size)
        have hbf:=K2.out.2.1.below' hb3 K2.out.2.1.lt
        have hbs:=K2.out.2.2.below' hb3 K2.out.2.2.lt
        have K3:=Lib.hid (And.intro hB3 (And.intro hbf hbs))
        clear s4
        have f0:=(hbf.cell 0).trans (show _=some (Value.string title) from rfl)
        have f1:=(hbf.cell 1).trans (show _=some (Value.slice Af nf cf) from rfl)
        have s4:=(hbs.cell 4).trans (show _=some (Value.slice Ac nc cc) from rfl)
        clear hB3 hbf hbs hb3 K2 PV
        obtain ⟨rt,hrt⟩:∃ b,(rootF s.cond).isSome=b:=⟨_,rfl⟩
        rw [hrt] at HQ ⊢
        clear hrt
        cases rt
        ·have HC:=Lib.hid (C6.out.trans (if_pos (by rw [HQ.out]; rfl)))
         go_wp2_with fail
         go_ret
         exact ⟨by rw [HC.out]; rfl,K3.out.1⟩
        ·go_wp2_with fail
         refine (PK.out w3 K3.out.1).mono ?_
         rintro e w4 ⟨rfl,hb4⟩
         have hB4:=K3.out.1.trans (hb4.mono K3.out.1.size)
         have hbf:=K3.out.2.1.below' hb4 K3.out.2.1.lt
         have hbs:=K3.out.2.2.below' hb4 K3.out.2.2.lt
         have K4:=Lib.hid hB4
         clear f0 f1 s4
         have f0:=(hbf.cell 0).trans (show _=some (Value.string title) from rfl)
         have f1:=(hbf.cell 1).trans (show _=some (Value.slice Af nf cf) from rfl)
         have s5:=(hbs.cell 5).trans (show _=some (Value.slice As ns cs) from rfl)
         clear hB4 hbf hbs hb4 K3 PK
         obtain ⟨bt,hbt⟩:∃ b,s.cond.any (badT L)=b:=⟨_,rfl⟩
         rw [hbt] at HQ ⊢
         clear hbt
         cases bt
         ·have C7:=Lib.hid (C6.out.trans (if_neg (by rw [HQ.out]; decide)))
          go_wp2_with fail
          refine (PS.out w4 K4.out).mono ?_
          rintro e w5 ⟨rfl,hb5⟩
          have K5:=Lib.hid (K4.out.trans (hb5.mono K4.out.size))
          clear hb5 f0 f1 s5 K4 PS
          cases hs:shwF L s.shw
          ·have HC:=Lib.hid (C7.out.trans (if_pos hs))
           go_wp2_with fail
           go_ret
           exact ⟨by rw [HC.out]; rfl,K5.out⟩
          ·have HC:=Lib.hid (C7.out.trans (if_neg (by rw [hs]; decide)))
           go_wp2_with fail
           go_ret
           exact ⟨by rw [HC.out]; rfl,K5.out⟩
         ·have HC:=Lib.hid (C6.out.trans (if_pos (by rw [HQ.out]; rfl)))
          go_wp2_with fail
          go_ret
          exact ⟨by rw [HC.out]; rfl,K4.out⟩
def KWordPost (b n : Nat) (ss : Nat → ByteArray) (w : World) (e : Ending) (w' : World) : Prop := ∃ r : Nat,r < n ∧ e = .returned (.string (ss r)) ∧ Dc w' b ∧ w.grownBy w' (some b)
set_option maxHeartbeats 1000000 in
theorem k_WordK (b g off n c : Nat) (ss : Nat → ByteArray) (w : World) (hd : Dc w b) (hg : g < w.heap.size) (hne : g ≠ b) (h1 : 1 ≤ n) (h2 : n ≤ 1000000) (hc : ∀ i,i < n → w.cell? ⟨g,off + i,none⟩ = some (.string (ss i))) :
  Calls Tryz.prog 18 #[.pointer (some ⟨b,0,none⟩),.slice (some ⟨g,off,none⟩) n c] w (KWordPost b n ss w):=by
 have HC:=Lib.hid hc
 have HD:=Lib.hid hd
 clear hc hd
 go_enter Tryz.func18,Tryz.ntmps18
 go_wp2_with fail
 refine (k_Next b n _ HD.out h1 (by omega)).mono ?_
 rintro e w1 ⟨r,hr,rfl,hd1,hg1⟩
 have hcell:w1.cell? ⟨g,off+r,none⟩=some (.string (ss r)):=(World.cell?_of_block (hg1.block g hg (by intro e; injection e with e; exact hne e))).trans (HC.out r hr)
 have HD1:=Lib.hid hd1
 have HG1:=Lib.hid hg1
 have qr:(r:Int) < (n:Int):=by omega
 have q0:(0:Int) ≤ (r:Int):=by omega
 clear hd1 hg1
 go_wp2_with fail
 go_ret
 exact ⟨r,hr,rfl,HD1.out,HG1.out⟩
def trmZ : Array Value := #[.int .i64 0,.int .i64 0,.int .i64 0,.string ⟨#[]⟩,.string ⟨#[]⟩,.slice none 0 0]
structure C1 (w W : World) (db bx : Nat) : Prop where
  dc : Dc W db
  res : Blk W w.heap.size 51 trmZ
  box : Blk W bx 33 #[.pointer (some ⟨db, 0, none⟩)]
  gw : w.grownBy W (some db)
  dl : db < w.heap.size
  bl : bx < w.heap.size
  ne : bx ≠ db
theorem C1.dice {w W W' : World} {db bx : Nat} (h : C1 w W db bx) (hd : Dc W' db) (hg : W.grownBy W' (some db)) : C1 w W' db bx :=
 ⟨hd,(hg.block _ h.res.lt (by intro e; injection e; have:=h.dl; omega)).trans h.res,(hg.block _ h.box.lt (by intro e; injection e; exact h.ne (by omega))).trans h.box,gb_trans h.gw hg,h.dl,h.bl,h.ne⟩
theorem C1.drew {w W : World} {db bx : Nat} (h : C1 w W db bx) : C1 w W.drew db bx :=
 h.dice h.dc.drew (only_drewN (World.grownBy.refl W _) 1)
structure C2 (w W : World) (db : Nat) : Prop where
  dc : Dc W db
  box : Blk W w.heap.size 33 #[.pointer (some ⟨db, 0, none⟩)]
  res : Blk W (w.heap.size + 1) 26 #[.slice none 0 0]
  gw : w.grownBy W (some db)
  dl : db < w.heap.size
section
variable {w W W' : World} {db : Nat}
theorem C2.dice (h : C2 w W db) (hd : Dc W' db) (hg : W.grownBy W' (some db)) : C2 w W' db :=
 ⟨hd,(hg.block _ h.box.lt (by intro e; injection e; have:=h.dl; omega)).trans h.box,(hg.block _ h.res.lt (by intro e; injection e; have:=h.dl; omega)).trans h.res,gb_trans h.gw hg,h.dl⟩
end
theorem infoAn : (Tryz.prog.info? 47).map (fun i => (i.zero,i.size,i.bytes)) = some (some (.agg #[.string ⟨#[]⟩,.string ⟨#[]⟩,.int .i64 0]),3,40) := by kernel_rfl
theorem infoSw : (Tryz.prog.info? 49).map (fun i => (i.zero,i.size,i.bytes)) = some (some (.agg #[.string ⟨#[]⟩,.string ⟨#[]⟩]),2,32) := by kernel_rfl
theorem k_WordP (P : ByteArray → Prop) (b g : Nat) (L : List ByteArray) (n : Nat) (w : World) (hd : Dc w b) (hne : g ≠ b) (hb : Blk w g 9 (L.map Value.string).toArray) (hn : L.length = n) (h1 : 1 ≤ n) (h2 : n ≤ 1000) (hs : ∀ x ∈ L,P x) :
  Calls Tryz.prog 18 #[.pointer (some ⟨b,0,none⟩),.slice (some ⟨g,0,none⟩) n n] w fun e w' => ∃ x:ByteArray,P x ∧ e=.returned (.string x) ∧ Dc w' b ∧ w.grownBy w' (some b):=by
 refine (k_WordK b g 0 n n (fun i => L.getD i ⟨#[]⟩) w hd hb.lt hne h1 (by omega) (fun i hi => ?_)).mono ?_
 ·rw [Nat.zero_add,hb.cell i]
  have hl:i < L.length:=by omega
  simp [List.getD_eq_getElem?_getD,List.getElem?_eq_getElem hl]
 ·rintro e w' ⟨r,hr,rfl,hd',hg'⟩
  refine ⟨_,?_,rfl,hd',hg'⟩
  have hl:r < L.length:=by omega
  show P (L.getD r ⟨#[]⟩)
  rw [List.getD_eq_getElem?_getD,List.getElem?_eq_getElem hl]
  exact hs _ (List.getElem_mem hl)
theorem k_WordL (b g : Nat) (L : List ByteArray) (n : Nat) (w : World) (hd : Dc w b) (hne : g ≠ b) (hb : Blk w g 9 (L.map Value.string).toArray) (hn : L.length = n) (h1 : 1 ≤ n) (h2 : n ≤ 1000) (hs : ∀ x ∈ L,x.size ≤ 1000) :
  Calls Tryz.prog 18 #[.pointer (some ⟨b,0,none⟩),.slice (some ⟨g,0,none⟩) n n] w fun e w' => ∃ x:ByteArray,x.size ≤ 1000 ∧ e=.returned (.string x) ∧ Dc w' b ∧ w.grownBy w' (some b) :=
 k_WordP (fun x => x.size ≤ 1000) b g L n w hd hne hb hn h1 h2 hs
theorem GSt.wordP (P : ByteArray → Prop) {w W : World} {db tb : Nat} {s : Stm} {va vc vs : Value} (h : GSt w W db tb s va vc vs) {g : Nat} (L : List ByteArray) (n : Nat) (hb : Blk W g 9 (L.map Value.string).toArray) (hg : db < g) (hn : L.length = n) (h1 : 1 ≤ n) (h2 : n ≤ 1000) (hs : ∀ x ∈ L,P x) :
  Calls Tryz.prog 18 #[.pointer (some ⟨db,0,none⟩),.slice (some ⟨g,0,none⟩) n n] W fun e W' => ∃ x:ByteArray,P x ∧ e=.returned (.string x) ∧ GSt w W' db tb s va vc vs ∧ W.grownBy W' (some db) :=
 (k_WordP P db g L n W h.dc (by omega) hb hn h1 h2 hs).mono fun e W' hh => by
  obtain ⟨x,hx,he,hd,hg⟩:=hh
  exact ⟨x,hx,he,h.dice hd hg,hg⟩
theorem GSt.word {w W : World} {db tb : Nat} {s : Stm} {va vc vs : Value} (h : GSt w W db tb s va vc vs) {g : Nat} (L : List ByteArray) (n : Nat) (hb : Blk W g 9 (L.map Value.string).toArray) (hg : db < g) (hn : L.length = n) (h1 : 1 ≤ n) (h2 : n ≤ 1000) (hs : ∀ x ∈ L,x.size ≤ 1000) :
  Calls Tryz.prog 18 #[.pointer (some ⟨db,0,none⟩),.slice (some ⟨g,0,none⟩) n n] W fun e W' => ∃ x:ByteArray,x.size ≤ 1000 ∧ e=.returned (.string x) ∧ GSt w W' db tb s va vc vs ∧ W.grownBy W' (some db) :=
 h.wordP (fun x => x.size ≤ 1000) L n hb hg hn h1 h2 hs
theorem GSt.wordR {w W : World} {db tb : Nat} {s : Stm} {va vc vs : Value} (h : GSt w W db tb s va vc vs) {g : Nat} (L : List ByteArray) (n : Nat) (hb : Blk W g 9 (L.map Value.string).toArray) (hg : db < g) (hn : L.length = n) (h1 : 1 ≤ n) (h2 : n ≤ 1000) (hs : ∀ x ∈ L,RoleP x) :
  Calls Tryz.prog 18 #[.pointer (some ⟨db,0,none⟩),.slice (some ⟨g,0,none⟩) n n] W fun e W' => ∃ x:ByteArray,RoleP x ∧ e=.returned (.string x) ∧ GSt w W' db tb s va vc vs ∧ W.grownBy W' (some db) :=
 h.wordP RoleP L n hb hg hn h1 h2 hs
theorem GSt.lt {w W : World} {db tb : Nat} {s : Stm} {va vc vs : Value} (h : GSt w W db tb s va vc vs) : db < W.heap.size ∧ tb < W.heap.size ∧ w.heap.size < W.heap.size := ⟨h.dc.lt,h.blk.lt,h.res.lt⟩
theorem shws_src {w : World} {S : Nat → Prop} {b off n c : Nat} {L : List Shw} (h : ShwsAt w S (.slice (some ⟨b,off,none⟩) n c) L) :
  ∀ j u,(shwC L)[j]?=some u → w.cell? ((⟨b,off,none⟩:Addr).add j)=some u:=by
 obtain ⟨A,n',c',he,hn,hnc,h4⟩:=h
 injection he with e1 e2 e3
 subst e2 e3
 intro j u hj
 have hjl:j < (shwC L).length:=(List.getElem?_eq_some_iff.1 hj).1
 rw [shwC_len] at hjl
 obtain ⟨b',off',hA,hS,hc⟩:=h4 (by omega)
 rw [← e1] at hA
 injection hA with hA; injection hA with a1 a2
 subst a1 a2
 obtain ⟨x,y⟩:=shwC_at L (j / 2) (by omega)
 obtain ⟨p,q⟩:=hc (j / 2) (by omega)
 rw [Go.WideShapes.add_plain]
 rcases Nat.mod_two_eq_zero_or_one j with e | e
 ·have hj2:j / 2*2=j:=by omega
  rw [hj2] at x p
  rw [hj] at x
  injection x with x
  subst x
  exact p
 ·have hj2:j / 2*2+1=j:=by omega
  rw [hj2] at y
  rw [Nat.add_assoc,hj2] at q
  rw [hj] at y
  injection y with y
  subst y
  exact q
theorem shwC_one (L : List Shw) : ∀ u ∈ shwC L,u.oneCell' = true := by
 intro u hu
 unfold shwC at hu
 obtain ⟨a,_,ha⟩:=List.mem_flatMap.1 hu
 simp at ha
 rcases ha with rfl | rfl <;> rfl
theorem run_copy_shows (w : World) (ty : TypeId) (S : Nat → Prop) (A : Option Addr) (n c : Nat) (L : List Shw) (hv : ShwsAt w S (.slice A n c) L) (hl : L.length ≤ 1000000) :
  ∃ v' w',(Builtin.append_ #[27,27] ty #[.slice none 0 0,.slice A n c]).run Tryz.prog w=.ok v' w' ∧ w'.ownsRow w.heap.size 49 2 v' L.length (shwC L) ∧ Below w.heap.size w w':=by
 obtain ⟨j0,hj,hy0,hy1,hy2⟩:=info_parts infoSw
 obtain ⟨A',n',c',he,hn,hnc,h4⟩:=id hv
 injection he with e1 e2 e3
 subst e2 e3
 cases A with
 | none =>
  have hn0:n=0:=by
   refine Nat.eq_zero_of_not_pos fun h => ?_
   obtain ⟨b,off,hA,-⟩:=h4 h
   rw [← e1] at hA
   cases hA
  subst hn0
  have hL:L = []:=List.eq_nil_of_length_eq_zero hn.symm
  subst hL
  refine ⟨.slice none 0 0,w,?_,World.ownsRow_nil _ _ _ _,Below.refl _ _⟩
  simp [Builtin.append_,run_underlying Tryz.underlying27,sizeOf,typeInfo,hj,Builtin.lenOf,Builtin.firstCells]
 | some ad =>
  obtain ⟨b,off,r⟩:=ad
  by_cases hp:0 < n
  ·obtain ⟨b',off',hA,-⟩:=h4 hp
   rw [← e1] at hA
   injection hA with hA; injection hA with a1 a2 a3
   subst a1 a2 a3
   obtain ⟨v',w',hr,ho,hg,-,-⟩:=run_append_own_at (P:=Tryz.prog) (w:=w) w.heap.size 27 ty 49 j0 (.agg #[.string ⟨#[]⟩,.string ⟨#[]⟩]) 2 32 Tryz.underlying27 hj hy0 hy1 hy2 rfl (by decide) (.slice none 0 0) 0 [] (World.ownsRow_nil _ _ _ _) ⟨b,off,none⟩ n c (shwC L) (by rw [shwC_len,hn]) (shws_src hv) (shwC_one L) (by simp only [maxLen]; omega) (by omega) (Nat.le_refl _)
   rw [Nat.zero_add,List.nil_append,hn] at ho
   refine ⟨v',w',hr,ho,⟨hg.os,hg.tape,hg.output,hg.size,fun q hq => hg.block q hq (by simp [Value.ownBlock])⟩⟩
  ·have hn0:n=0:=by omega
   subst hn0
   have hL:L = []:=List.eq_nil_of_length_eq_zero hn.symm
   subst hL
   obtain ⟨v',w',hr,ho,hg,-,-⟩:=run_append_own_at (P:=Tryz.prog) (w:=w) w.heap.size 27 ty 49 j0 (.agg #[.string ⟨#[]⟩,.string ⟨#[]⟩]) 2 32 Tryz.underlying27 hj hy0 hy1 hy2 rfl (by decide) (.slice none 0 0) 0 [] (World.ownsRow_nil _ _ _ _) ⟨b,off,r⟩ 0 c [] rfl (fun j u h => by simp at h) (fun u h => by cases h) (by simp only [maxLen]; omega) (by omega) (Nat.le_refl _)
   exact ⟨v',w',hr,ho,⟨hg.os,hg.tape,hg.output,hg.size,fun q hq => hg.block q hq (by simp [Value.ownBlock])⟩⟩
end Go.Proofs.YtfinaekeoeeogaaGreatDoor

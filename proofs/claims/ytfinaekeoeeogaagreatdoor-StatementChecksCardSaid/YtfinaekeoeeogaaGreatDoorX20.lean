/- Contracts: which forms are valid, the program's and the reference's. And more. -/
import Derived.Test.YtfinaekeoeeogaaGreatDoorX16
import Derived.Test.YtfinaekeoeeogaaGreatDoorX18
import Derived.Test.YtfinaekeoeeogaaGreatDoorX19
set_option linter.unusedVariables false
set_option linter.unusedSimpArgs false
namespace Go.Proofs.YtfinaekeoeeogaaGreatDoor
open Go.RowKit Num
def valK (L : List Fld) (k : Nat) : Prop := ∀ i,i < k → fldB (fldAt L i) = true ∧ ∀ j,j < i → (fldAt L j).name ≠ (fldAt L i).name
noncomputable instance (L : List Fld) (k : Nat) : Decidable (valK L k) := Classical.propDecidable _
noncomputable def validB (t : ByteArray) (L : List Fld) : Bool := decide (t.size ≤ 256 ∧ L.length ≤ 32 ∧ valK L L.length)
theorem valK_step {L : List Fld} {k : Nat} (h : valK L k) (h1 : fldB (fldAt L k) = true) (h2 : ∀ j,j < k → (fldAt L j).name ≠ (fldAt L k).name) : valK L (k + 1) := fun i hi => by
 by_cases e:i=k
 ·subst e; exact ⟨h1,h2⟩
 ·exact h i (by omega)
theorem validB_not {t : ByteArray} {L : List Fld} {k : Nat} (hk : k < L.length) (h : ¬ (fldB (fldAt L k) = true ∧ ∀ j,j < k → (fldAt L j).name ≠ (fldAt L k).name)) : validB t L = false :=
 decide_eq_false fun hg => h (hg.2.2 k hk)
theorem validB_end {t : ByteArray} {L : List Fld} (h : valK L L.length) : validB t L = decide (t.size ≤ 256 ∧ L.length ≤ 32) := by
 unfold validB
 by_cases e:t.size ≤ 256 ∧ L.length ≤ 32
 ·rw [decide_eq_true e]; exact decide_eq_true ⟨e.1,e.2,h⟩
 ·rw [decide_eq_false e]; exact decide_eq_false fun hg => e ⟨hg.1,hg.2.1⟩
theorem fstF_self {L : List Fld} {k : Nat} (hk : k < L.length) : (fstF L (fldAt L k).name = some k ∧ ∀ j,j < k → (fldAt L j).name ≠ (fldAt L k).name) ∨ (∃ i,i < k ∧ fstF L (fldAt L k).name = some i) := by
 by_cases h:∃ i,i < k ∧ (fldAt L i).name=(fldAt L k).name
 ·refine .inr ?_
  cases hf:fstF L (fldAt L k).name with
  | none =>
   obtain ⟨i,h1,h2⟩:=h
   unfold fstF at hf
   rw [List.find?_eq_none] at hf
   have:=hf i (List.mem_range.2 (by omega))
   simp [h2] at this
  | some m =>
   refine ⟨m,?_,rfl⟩
   obtain ⟨i,h1,h2⟩:=h
   unfold fstF at hf
   rw [List.find?_eq_some_iff_getElem] at hf
   obtain ⟨_,q,hq,e,hlt⟩:=hf
   simp at e
   subst e
   refine Nat.lt_of_not_le fun hge => ?_
   have:=hlt i (by omega)
   simp [h2] at this
 ·have hn:∀ j,j < k → (fldAt L j).name ≠ (fldAt L k).name:=fun j hj e => h ⟨j,hj,e⟩
  exact .inl ⟨fstF_hit hk rfl hn,hn⟩
def FormOk (t : ByteArray) (L : List Fld) : Prop := t.size ≤ 4294967296 ∧ L.length ≤ 1000000 ∧ ∀ k,k < L.length → FldOk (fldAt L k)
set_option maxRecDepth 100000 in
set_option maxHeartbeats 4000000 in
theorem f_Valid (t : ByteArray) (v : Value) (L : List Fld) (S : Nat → Prop) (w : World) (hv : FldsAt w S v L) (hS : ∀ b,S b → b < w.heap.size) (hok : FormOk t L) :
  Calls Tryz.prog 22 #[.agg #[.string t,v]] w (BoolBel (validB t L) w):=by
 obtain ⟨A,n,c,rfl,hn,hnc,hc⟩:=id hv
 obtain ⟨ht,hl,hfo⟩:=hok
 have hb0:Below w.heap.size w (w.alloc (.cells #[.string t,.slice A n c] 37)):=(Below.refl _ _).alloc (Nat.le_refl _) _
 have hs0:(w.alloc (.cells #[.string t,.slice A n c] 37)).heap.size=w.heap.size+1:=by simp
 have hbk:Blk (w.alloc (.cells #[.string t,.slice A n c] 37)) w.heap.size 37 #[.string t,.slice A n c]:=Blk.new w _ _
 have hfind:=fun (s:ByteArray) (W:World) (hb:Below w.heap.size w W) => f_Find t s (.slice A n c) L S W (hv.keep fun b hB => hb.block b (hS b hB)) (fun b hB => Nat.lt_of_lt_of_le (hS b hB) hb.size) hl
 have HB0:=Lib.hid hb0
 have HBK:=Lib.hid hbk
 have HC:=Lib.hid hc
 have HN:=Lib.hid hn
 have HS:=Lib.hid hS
 have HFO:=Lib.hid hfo
 have HFI:=Lib.hid hfind
 have hn1:n ≤ 1000000:=by omega
 clear hc hn hS hl hb0 hbk hfo hfind hv
 by_cases h1:t.size ≤ 256
 ·have z1:¬ (256:Int) < (t.size:Int):=by omega
  by_cases h2:n ≤ 32
  ·have z2:¬ (32:Int) < (n:Int):=by omega
   go_enter Tryz.func22,Tryz.ntmps22
   go_wp2_with fail
   obtain ⟨w0,hw0⟩:∃ w0,w.alloc (.cells #[.string t,.slice A n c] 37)=w0:=⟨_,rfl⟩
   rw [hw0] at HB0 HBK hs0 ⊢
   clear hw0
   go_loopw [20] (fun v20 wr => ∃ k:Nat,k ≤ n ∧ v20=.int .i64 (k:Int) ∧ valK L k ∧ Below w0.heap.size w0 wr) (fun v20 _ => n - (intOf v20).toNat)
   case atStart => exact ⟨0,by omega,rfl,fun i hi => absurd hi (Nat.not_lt_zero _),Below.refl _ _⟩
   case round =>
    obtain ⟨k,hk,rfl,hg,hbr⟩:=hrel
    have HG:=Lib.hid hg
    have HBR:=Lib.hid hbr
    have hszr:=hbr.size
    clear hg hbr
    by_cases hlt:k < n
    ·obtain ⟨b,off,rfl,hSb,hcell⟩:=HC.out (by omega)
     have hbw:=HS.out b hSb
     have hf:=hcell k hlt
     have hbl:Below w.heap.size w wr:=HB0.out.trans (HBR.out.mono (by omega))
     have hkl:k < L.length:=by have:=HN.out; omega
     have hfok:=HFO.out k hkl
     have hself:=fstF_self hkl
     have hnot:∀ h,validB t L=false:=fun (h:¬ (fldB (fldAt L k)=true ∧ ∀ j,j < k → (fldAt L j).name ≠ (fldAt L k).name)) => validB_not hkl h
     have hstep:=valK_step HG.out
     obtain ⟨f,hfe⟩:∃ f,fldAt L k=f:=⟨_,rfl⟩
     rw [hfe] at hf hfok hself hnot hstep
     obtain ⟨nm,kd,nd,le,mo,op⟩:=f
     obtain ⟨c0,c1,c2,c3,c4,u,c5,hu⟩:=hf
     have hue:=hu
     obtain ⟨Au,nu,cu,rfl,-⟩:=hu
     have e0:wr.cell? ⟨b,off+k*6,none⟩=_:=(hbl.cell (p:=⟨b,off+k*6,none⟩) hbw).trans c0
     have e1:wr.cell? ⟨b,off+k*6+1,none⟩=_:=(hbl.cell (p:=⟨b,off+k*6+1,none⟩) hbw).trans c1
     have e2:wr.cell? ⟨b,off+k*6+2,none⟩=_:=(hbl.cell (p:=⟨b,off+k*6+2,none⟩) hbw).trans c2
     have e3:wr.cell? ⟨b,off+k*6+3,none⟩=_:=(hbl.cell (p:=⟨b,off+k*6+3,none⟩) hbw).trans c3
     have e4:wr.cell? ⟨b,off+k*6+4,none⟩=_:=(hbl.cell (p:=⟨b,off+k*6+4,none⟩) hbw).trans c4
     have e5:wr.cell? ⟨b,off+k*6+5,none⟩=_:=(hbl.cell (p:=⟨b,off+k*6+5,none⟩) hbw).trans c5
     have hbx:=Blk.new wr 63 #[.string nm,.int .i64 kd,.bool nd,.int .i64 le,.int .i64 mo,.slice Au nu cu]
     have hbxb:Below w0.heap.size w0 (wr.alloc (.cells #[.string nm,.int .i64 kd,.bool nd,.int .i64 le,.int .i64 mo,.slice Au nu cu] 63)):=HBR.out.alloc hszr _
     have hf1:=HBK.out.below' hbxb (by omega)
     have f0:=(hf1.cell 0).trans (show _=some (Value.string t) from rfl)
     have f1:=(hf1.cell 1).trans (show _=some (Value.slice (some ⟨b,off,none⟩) n c) from rfl)
     have hbxw:Below w.heap.size w (wr.alloc (.cells #[.string nm,.int .i64 kd,.bool nd,.int .i64 le,.int .i64 mo,.slice Au nu cu] 63)):=hbl.alloc (by omega) _
     have hrt:=fun (W:World) (hb:Below w.heap.size w W) => f_right nm kd nd le mo op (.slice Au nu cu) S W (hue.keep fun b hB => hb.block b (HS.out b hB)) (fun b hB => Nat.lt_of_lt_of_le (HS.out b hB) hb.size) hfok
     have HRT:=Lib.hid hrt
     have HBX:=Lib.hid hbx
     have HBXB:=Lib.hid hbxb
     have HBXW:=Lib.hid hbxw
     have HNOT:=Lib.hid hnot
     have HSTEP:=Lib.hid hstep
     have HFE:=Lib.hid hfe
     have HKL:=Lib.hid hkl
     clear hcell hfok hnot hstep hfe c0 c1 c2 c3 c4 c5 hbx hbxb hbxw hrt hue hbl hf1 hkl
     have zi:(k:Int) < (n:Int):=by omega
     have z0:(0:Int) ≤ (k:Int):=by omega
     simp only at hself
     rcases hself with ⟨hfs,hdis⟩ | ⟨i,hik,hfs⟩
     ·have HDIS:=Lib.hid hdis
      have HFS:=Lib.hid hfs
      clear hdis hfs
      go_wp2_with fail
      refine (HFI.out nm _ HBXW.out).mono ?_
      rintro e w1 ⟨he,hb1⟩
      rw [HFS.out] at he
      obtain rfl:e=.returned (.tuple #[.int .i64 (k:Int),.bool true]):=he
      have hbk1:=HBX.out.below' hb1 (by simp)
      have g0:=(hbk1.cell 0).trans (show _=some (Value.string nm) from rfl)
      have g1:=(hbk1.cell 1).trans (show _=some (Value.int .i64 kd) from rfl)
      have g2:=(hbk1.cell 2).trans (show _=some (Value.bool nd) from rfl)
      have g3:=(hbk1.cell 3).trans (show _=some (Value.int .i64 le) from rfl)
      have g4:=(hbk1.cell 4).trans (show _=some (Value.int .i64 mo) from rfl)
      have g5:=(hbk1.cell 5).trans (show _=some (Value.slice Au nu cu) from rfl)
      have hbw1:=HBXW.out.trans (hb1.mono HBXW.out.size)
      have HBW1:=Lib.hid hbw1
      have HBO1:=Lib.hid (HBXB.out.trans (hb1.mono HBXB.out.size))
      have hkk:((k:Int) == (k:Int))=true:=by simp
      clear hb1 hbk1 hbw1
      cases hr:fldB ⟨nm,kd,nd,le,mo,op⟩ with
      | true =>
       have hst:=HSTEP.out hr HDIS.out
       have HST:=Lib.hid hst
       have HR:=Lib.hid hr
       clear hst hr
       go_wp2_with fail
       refine (HRT.out _ HBW1.out).mono ?_
       rw [HR.out]
       rintro e w2 ⟨rfl,hb2⟩
       have HBO2:=Lib.hid (HBO1.out.trans (hb2.mono HBO1.out.size))
       clear hb2
       go_wp2_with fail
       go_roundw
       case measure => simp [intOf]; omega
       case rel => exact ⟨k+1,by omega,by go_num,HST.out,HBO2.out⟩
      | false =>
       have hno:=HNOT.out (fun h => by rw [hr] at h; cases h.1)
       have HNO:=Lib.hid hno
       have HR:=Lib.hid hr
       clear hno hr
       go_wp2_with fail
       refine (HRT.out _ HBW1.out).mono ?_
       rw [HR.out]
       rintro e w2 ⟨rfl,hb2⟩
       have HBW2:=Lib.hid (HBW1.out.trans (hb2.mono HBW1.out.size))
       clear hb2
       go_wp2_with fail
       go_ret
       exact ⟨by rw [HNO.out]; rfl,HBW2.out⟩
     ·have hno:=HNOT.out (fun h => by
       have:=fstF_hit (L:=L) (s:=nm) (k:=k) HKL.out (by rw [HFE.out]) h.2
       rw [hfs] at this
       injection this with this
       omega)
      have HNO:=Lib.hid hno
      have HFS:=Lib.hid hfs
      clear hno hfs
      go_wp2_with fail
      refine (HFI.out nm _ HBXW.out).mono ?_
      rintro e w1 ⟨he,hb1⟩
      rw [HFS.out] at he
      obtain rfl:e=.returned (.tuple #[.int .i64 (i:Int),.bool true]):=he
      have HBW1:=Lib.hid (HBXW.out.trans (hb1.mono HBXW.out.size))
      have hki:((i:Int) == (k:Int))=false:=by simp; omega
      clear hb1
      go_wp2_with fail
      go_ret
      exact ⟨by rw [HNO.out]; rfl,HBW1.out⟩
    ·have zi:¬ (k:Int) < (n:Int):=by omega
     have he:validB t L=true:=by
      have h3:=HG.out
      rw [show k=L.length by have:=HN.out; omega] at h3
      rw [validB_end h3]
      exact decide_eq_true ⟨h1,by have:=HN.out; omega⟩
     have HE:=Lib.hid he
     have HBW1:=Lib.hid (HB0.out.trans (HBR.out.mono (by omega)))
     clear he
     go_wp2_with fail
     go_ret
     exact ⟨by rw [HE.out]; rfl,HBW1.out⟩
  ·have z2:(32:Int) < (n:Int):=by omega
   have he:validB t L=false:=decide_eq_false fun h => h2 (by have:=HN.out; omega)
   have HE:=Lib.hid he
   clear he
   go_enter Tryz.func22,Tryz.ntmps22
   go_wp2_with fail
   go_ret
   exact ⟨by rw [HE.out]; rfl,HB0.out⟩
 ·have z1:(256:Int) < (t.size:Int):=by omega
  have he:validB t L=false:=decide_eq_false fun h => h1 h.1
  have HE:=Lib.hid he
  clear he
  go_enter Tryz.func22,Tryz.ntmps22
  go_wp2_with fail
  go_ret
  exact ⟨by rw [HE.out]; rfl,HB0.out⟩
noncomputable def chkS (title : ByteArray) (L : List Fld) (s : Stm) : Int :=
 if validB title L=false then 1 else if (s.resp.toList == [])=true ∨ 256 < s.resp.size ∨ 32 < s.ans.length ∨ 16 < s.shw.length then 3 else if s.dep < 0 ∨ 63 < s.dep then 2 else if s.day < 0 ∨ 3652058 < s.day then 10
 else if ansF L s.ans=false then 13 else if asksF L s.cond=false then 14 else if shwF L s.shw=false then 4 else 0
def ChkE (n : Int) (w : World) (e : Ending) (w' : World) : Prop := e = .returned (.int .i64 n) ∧ Below w.heap.size w w'
set_option maxRecDepth 100000 in
set_option maxHeartbeats 8000000 in
theorem s_Check (title : ByteArray) (vf va vc vs : Value) (L : List Fld) (s : Stm) (w : World) (hF : FldsAt w (· < w.heap.size) vf L) (hok : FormOk title L) (hnm : ∀ f ∈ L,f.name.size ≤ maxLen ∧ f.opts.length ≤ 1000000) (hS : StmAt w (· < w.heap.size) va vc vs s) (hso : StmOk s) :
  Calls Tryz.prog 11 #[.agg #[.string title,vf],.agg #[.string s.resp,.int .i64 s.dep,.int .i64 s.day,va,vc,vs]] w (ChkE (chkS title L s) w):=by
 obtain ⟨Af,nf,cf,rfl,-⟩:=id hF
 obtain ⟨Aa,na,ca,rfl,hna,-,-⟩:=id hS.aa
 obtain ⟨Ac,nc,cc,rfl,-⟩:=id hS.cc
 obtain ⟨As,ns,cs,rfl,hns,-,-⟩:=id hS.ss
 have hb2:Below w.heap.size w ((w.alloc (.cells #[.string title,.slice Af nf cf] 37)).alloc (.cells #[.string s.resp,.int .i64 s.dep,.int .i64 s.day,.slice Aa na ca,.slice Ac nc cc,.slice As ns cs] 29)):=((Below.refl _ _).alloc (Nat.le_refl _) _).alloc (by simp) _
 have hbf:Blk ((w.alloc (.cells #[.string title,.slice Af nf cf] 37)).alloc (.cells #[.string s.resp,.int .i64 s.dep,.int .i64 s.day,.slice Aa na ca,.slice Ac nc cc,.slice As ns cs] 29)) w.heap.size 37 #[.string title,.slice Af nf cf]:=(Blk.new w _ _).alloc _
 have hbs:Blk ((w.alloc (.cells #[.string title,.slice Af nf cf] 37)).alloc (.cells #[.string s.resp,.int .i64 s.dep,.int .i64 s.day,.slice Aa na ca,.slice Ac nc cc,.slice As ns cs] 29)) (w.heap.size+1) 29 #[.string s.resp,.int .i64 s.dep,.int .i64 s.day,.slice Aa na ca,.slice Ac nc cc,.slice As ns cs]:=by
  have:=Blk.new (w.alloc (.cells #[.string title,.slice Af nf cf] 37)) 29 #[.string s.resp,.int .i64 s.dep,.int .i64 s.day,.slice Aa na ca,.slice Ac nc cc,.slice As ns cs]
  rwa [World.size_alloc] at this
 have up:∀ W,Below w.heap.size w W → FldsAt W (· < W.heap.size) (.slice Af nf cf) L ∧ StmAt W (· < W.heap.size) (.slice Aa na ca) (.slice Ac nc cc) (.slice As ns cs) s:=fun W hW => ⟨(hF.keep fun b hB => hW.block b hB).mono fun b hB => Nat.lt_of_lt_of_le hB hW.size,(hS.keep fun b hB => hW.block b hB).mono fun b hB => Nat.lt_of_lt_of_le hB hW.size⟩
 have hva:=f_Valid title (.slice Af nf cf) L _ _ (up _ hb2).1 (fun b h => h) hok
 have hl:=hok.2.1
 have pA:=fun W (hW:Below w.heap.size w W) => s_answers (.slice Aa na ca) s.ans title (.slice Af nf cf) L W (up W hW).2.aa hso.an (fun k hk => ⟨(hso.ans k hk).1,(hso.ans k hk).2.1⟩) (up W hW).1 hl hnm
 have pK:=fun W (hW:Below w.heap.size w W) => s_asks (.slice Ac nc cc) s.cond title (.slice Af nf cf) L W (up W hW).2.cc hso.cn hso.cond (up W hW).1 hl
 have pS:=fun W (hW:Below w.heap.size w W) => s_shows (.slice As ns cs) s.shw title (.slice Af nf cf) L W (up W hW).2.ss hso.sn (fun k hk => (hso.shw k hk).2) (up W hW).1 hl
 have PA:=Lib.hid pA
 have PK:=Lib.hid pK
 have PS:=Lib.hid pS
 have HVA:=Lib.hid hva
 have K0:=Lib.hid (And.intro hb2 (And.intro hbf hbs))
 have c0:=(hbf.cell 0).trans (show _=some (Value.string title) from rfl)
 have c1:=(hbf.cell 1).trans (show _=some (Value.slice Af nf cf) from rfl)
 have HNA:=Lib.hid hna
 have HNS:=Lib.hid hns
 have hmx:na ≤ 1000000 ∧ ns ≤ 1000000:=⟨by have:=hso.an; omega,by have:=hso.sn; omega⟩
 have hrz:=hso.resp
 clear hb2 hbf hbs up hva pA pK pS hF hS hso hok hnm hna hns
 go_enter Tryz.func11,Tryz.ntmps11
 go_wp2_with fail
 refine HVA.out.mono ?_
 rintro e w1 ⟨rfl,hb1⟩
 have hB1:=K0.out.1.trans (hb1.mono K0.out.1.size)
 have hbf:=K0.out.2.1.below' hb1 K0.out.2.1.lt
 have hbs:=K0.out.2.2.below' hb1 K0.out.2.2.lt
 have K1:=Lib.hid (And.intro hB1 (And.intro hbf hbs))
 have f0:=(hbf.cell 0).trans (show _=some (Value.string title) from rfl)
 have f1:=(hbf.cell 1).trans (show _=some (Value.slice Af nf cf) from rfl)
 have s0:=(hbs.cell 0).trans (show _=some (Value.string s.resp) from rfl)
 have s1:=(hbs.cell 1).trans (show _=some (Value.int .i64 s.dep) from rfl)
 have s2:=(hbs.cell 2).trans (show _=some (Value.int .i64 s.day) from rfl)
 have s3:=(hbs.cell 3).trans (show _=some (Value.slice Aa na ca) from rfl)
 have s4:=(hbs.cell 4).trans (show _=some (Value.slice Ac nc cc) from rfl)
 have s5:=(hbs.cell 5).trans (show _=some (Value.slice As ns cs) from rfl)
 clear hB1 hbf hbs hb1 K0 HVA c0 c1
 cases hv:validB title L
 ·have hc:chkS title L s=1:=by unfold chkS; rw [if_pos hv]
  have HC:=Lib.hid hc
  clear hc
  go_wp2_with fail
  go_ret
  exact ⟨by rw [HC.out]; rfl,K1.out.1⟩
 ·by_cases h3:(s.resp.toList == [])=true ∨ 256 < s.resp.size ∨ 32 < s.ans.length ∨ 16 < s.shw.length
  ·have hc:chkS title L s=3:=by unfold chkS; rw [if_neg (by simp [hv]),if_pos h3]
   have HC:=Lib.hid hc
   clear hc
   rw [← HNA.out,← HNS.out] at h3
   cases e0:(s.resp.toList == [])
   ·by_cases z1:256 < s.resp.size
    ·have y1:(256:Int) < (s.resp.size:Int):=by omega
     go_wp2_with fail
     go_ret
     exact ⟨by rw [HC.out]; rfl,K1.out.1⟩
    ·have y1:¬ (256:Int) < (s.resp.size:Int):=by omega
     by_cases z2:32 < na
     ·have y2:(32:Int) < (na:Int):=by omega
      go_wp2_with fail
      go_ret
      exact ⟨by rw [HC.out]; rfl,K1.out.1⟩
     ·have y2:¬ (32:Int) < (na:Int):=by omega
      have z3:16 < ns:=by
       rcases h3 with h | h | h | h
       ·rw [e0] at h; cases h
       ·omega
       ·omega
       ·exact h
      have y3:(16:Int) < (ns:Int):=by omega
      clear h3
      go_wp2_with fail
      go_ret
      exact ⟨by rw [HC.out]; rfl,K1.out.1⟩
   ·clear h3
    go_wp2_with fail
    go_ret
    exact ⟨by rw [HC.out]; rfl,K1.out.1⟩
  ·have hc3:chkS title L s=(if s.dep < 0 ∨ 63 < s.dep then 2 else if s.day < 0 ∨ 3652058 < s.day then 10 else if ansF L s.ans=false then 13 else if asksF L s.cond=false then 14 else if shwF L s.shw=false then 4 else 0):=by unfold chkS; rw [if_neg (by simp [hv]),if_neg h3]
   rw [← HNA.out,← HNS.out] at h3
   have e0:(s.resp.toList == [])=false:=by
    cases e:(s.resp.toList == []) with
    | false => rfl
    | true => exact absurd (.inl e) h3
   have y1:¬ (256:Int) < (s.resp.size:Int):=fun h => h3 (.inr (.inl (by omega)))
   have y2:¬ (32:Int) < (na:Int):=fun h => h3 (.inr (.inr (.inl (by omega))))
   have y3:¬ (16:Int) < (ns:Int):=fun h => h3 (.inr (.inr (.inr (by omega))))
   have C3:=Lib.hid hc3
   clear hc3 h3
   by_cases d1:s.dep < 0
   ·have HC:=Lib.hid (C3.out.trans (if_pos (.inl d1)))
    go_wp2_with fail
    go_ret
    exact ⟨by rw [HC.out]; rfl,K1.out.1⟩
   ·by_cases d2:63 < s.dep
    ·have HC:=Lib.hid (C3.out.trans (if_pos (.inr d2)))
     go_wp2_with fail
     go_ret
     exact ⟨by rw [HC.out]; rfl,K1.out.1⟩
    ·have C4:=Lib.hid (C3.out.trans (if_neg (by omega)))
     by_cases g1:s.day < 0
     ·have HC:=Lib.hid (C4.out.trans (if_pos (.inl g1)))
      go_wp2_with fail
      go_ret
      exact ⟨by rw [HC.out]; rfl,K1.out.1⟩
     ·by_cases g2:3652058 < s.day
      ·have HC:=Lib.hid (C4.out.trans (if_pos (.inr g2)))
       go_wp2_with fail
       go_ret
       exact ⟨by rw [HC.out]; rfl,K1.out.1⟩
      ·have C5:=Lib.hid (C4.out.trans (if_neg (by omega)))
       go_wp2_with fail
       refine (PA.out w1 K1.out.1).mono ?_
       rintro e w2 ⟨rfl,hb2⟩
       have hB2:=K1.out.1.trans (hb2.mono K1.out.1.size)
       have hbf:=K1.out.2.1.below' hb2 K1.out.2.1.lt
       have hbs:=K1.out.2.2.below' hb2 K1.out.2.2.lt
       have K2:=Lib.hid (And.intro hB2 (And.intro hbf hbs))
       clear f0 f1 s0 s1 s2 s3 s4 s5 e0 y1 y2 y3
       have f0:=(hbf.cell 0).trans (show _=some (Value.string title) from rfl)
       have f1:=(hbf.cell 1).trans (show _=some (Value.slice Af nf cf) from rfl)
       have s4:=(hbs.cell 4).trans (show _=some (Value.slice Ac nc cc) from rfl)
       clear hB2 hbf hbs hb2 K1 PA
       cases ha:ansF L s.ans
       ·have HC:=Lib.hid (C5.out.trans (if_pos ha))
        go_wp2_with fail
        go_ret
        exact ⟨by rw [HC.out]; rfl,K2.out.1⟩
       ·have C6:=Lib.hid (C5.out.trans (if_neg (by rw [ha]; decide)))
        go_wp2_with fail
        refine (PK.out w2 K2.out.1).mono ?_
        rintro e w3 ⟨rfl,hb3⟩
        have hB3:=K2.out.1.trans (hb3.mono K2.out.1.size)
        have hbf:=K2.out.2.1.below' hb3 K2.out.2.1.lt
        have hbs:=K2.out.2.2.below' hb3 K2.out.2.2.lt
        have K3:=Lib.hid hB3
        clear f0 f1 s4
        have f0:=(hbf.cell 0).trans (show _=some (Value.string title) from rfl)
        have f1:=(hbf.cell 1).trans (show _=some (Value.slice Af nf cf) from rfl)
        have s5:=(hbs.cell 5).trans (show _=some (Value.slice As ns cs) from rfl)
        clear hB3 hbf hbs hb3 K2 PK
        cases hk:asksF L s.cond
        ·have HC:=Lib.hid (C6.out.trans (if_pos hk))
         go_wp2_with fail
         go_ret
         exact ⟨by rw [HC.out]; rfl,K3.out⟩
        ·have C7:=Lib.hid (C6.out.trans (if_neg (by rw [hk]; decide)))
         go_wp2_with fail
         refine (PS.out w3 K3.out).mono ?_
         rintro e w4 ⟨rfl,hb4⟩
         have K4:=Lib.hid (K3.out.trans (hb4.mono K3.out.size))
         clear hb4 f0 f1 s5 K3 PS
         cases hs:shwF L s.shw
         ·have HC:=Lib.hid (C7.out.trans (if_pos hs))
          go_wp2_with fail
          go_ret
          exact ⟨by rw [HC.out]; rfl,K4.out⟩
         ·have HC:=Lib.hid (C7.out.trans (if_neg (by rw [hs]; decide)))
          go_wp2_with fail
          go_ret
          exact ⟨by rw [HC.out]; rfl,K4.out⟩
end Go.Proofs.YtfinaekeoeeogaaGreatDoor

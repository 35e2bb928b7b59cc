/- Contracts: which forms are valid, the program's and the reference's. And more. -/
import Derived.Test.YtgdngfdeeadlnaaGreatDoorZ14
import Derived.Test.YtgdngfdeeadlnaaGreatDoorZ29
import Derived.Test.YtgdngfdeeadlnaaGreatDoorZ05
import Derived.Test.YtgdngfdeeadlnaaGreatDoorZ04
import Derived.Test.YtgdngfdeeadlnaaGreatDoorZ09
import Derived.Test.YtgdngfdeeadlnaaGreatDoorCzRefC
import Derived.Test.YtgdngfdeeadlnaaGreatDoorZ11
set_option linter.unusedVariables false
set_option linter.unusedSimpArgs false
namespace Go.Proofs.YtgdngfdeeadlnaaGreatDoor
open Go.RowKit Num
def valK (L : List Fld) (k : Nat) : Prop := ∀ i,i < k → fldB (fldAt L i) = true ∧ ∀ j,j < i → (fldAt L j).name ≠ (fldAt L i).name
noncomputable instance (L : List Fld) (k : Nat) : Decidable (valK L k) := Classical.propDecidable _
noncomputable def validB (t : ByteArray) (L : List Fld) : Bool := decide (t.size ≤ 256 ∧ L.length ≤ 32 ∧ valK L L.length)
theorem valK_step {L : List Fld} {k : Nat} (h : valK L k) (h1 : fldB (fldAt L k) = true) (h2 : ∀ j,j < k → (fldAt L j).name ≠ (fldAt L k).name) : valK L (k + 1) := fun i hi => by
 by_cases e:i=k
 ·subst e; exact ⟨h1,h2⟩
 ·exact h i (by omega)
theorem validB_not {t : ByteArray} {L : List Fld} {k : Nat} (hk : k < L.length) (h : ¬ (fldB (fldAt L k) = true ∧ ∀ j,j < k → (fldAt L j).name ≠ (fldAt L k).name)) : validB t L = false :=
 decide_eq_false fun hg => h (hg.2.2 k hk)
theorem validB_end {t : ByteArray} {L : List Fld} (h : valK L L.length) : validB t L = decide (t.size ≤ 256 ∧ L.length ≤ 32) := by
 unfold validB
 by_cases e:t.size ≤ 256 ∧ L.length ≤ 32
 ·rw [decide_eq_true e]; exact decide_eq_true ⟨e.1,e.2,h⟩
 ·rw [decide_eq_false e]; exact decide_eq_false fun hg => e ⟨hg.1,hg.2.1⟩
theorem fstF_self {L : List Fld} {k : Nat} (hk : k < L.length) : (fstF L (fldAt L k).name = some k ∧ ∀ j,j < k → (fldAt L j).name ≠ (fldAt L k).name) ∨ (∃ i,i < k ∧ fstF L (fldAt L k).name = some i) := by
 by_cases h:∃ i,i < k ∧ (fldAt L i).name=(fldAt L k).name
 ·refine .inr ?_
  cases hf:fstF L (fldAt L k).name with
  | none =>
   obtain ⟨i,h1,h2⟩:=h
   unfold fstF at hf
   rw [List.find?_eq_none] at hf
   have:=hf i (List.mem_range.2 (by omega))
   simp [h2] at this
  | some m =>
   refine ⟨m,?_,rfl⟩
   obtain ⟨i,h1,h2⟩:=h
   unfold fstF at hf
   rw [List.find?_eq_some_iff_getElem] at hf
   obtain ⟨_,q,hq,e,hlt⟩:=hf
   simp at e
   subst e
   refine Nat.lt_of_not_le fun hge => ?_
   have:=hlt i (by omega)
   simp [h2] at this
 ·have hn:∀ j,j < k → (fldAt L j).name ≠ (fldAt L k).name:=fun j hj e => h ⟨j,hj,e⟩
  exact .inl ⟨fstF_hit hk rfl hn,hn⟩
def FormOk (t : ByteArray) (L : List Fld) : Prop := t.size ≤ 4294967296 ∧ L.length ≤ 1000000 ∧ ∀ k,k < L.length → FldOk (fldAt L k)
set_option maxRecDepth 100000 in
set_option maxHeartbeats 4000000 in
theorem f_Valid (t : ByteArray) (v : Value) (L : List Fld) (S : Nat → Prop) (w : World) (hv : FldsAt w S v L) (hS : ∀ b,S b → b < w.heap.size) (hok : FormOk t L) :
  Calls Tryz.prog 40 #[.agg #[.string t,v]] w (BoolBel (validB t L) w):=by
 obtain ⟨A,n,c,rfl,hn,hnc,hc⟩:=id hv
 obtain ⟨ht,hl,hfo⟩:=hok
 have hb0:Below w.heap.size w (w.alloc (.cells #[.string t,.slice A n c] 37)):=(Below.refl _ _).alloc (Nat.le_refl _) _
 have hs0:(w.alloc (.cells #[.string t,.slice A n c] 37)).heap.size=w.heap.size+1:=by simp
 have hbk:Blk (w.alloc (.cells #[.string t,.slice A n c] 37)) w.heap.size 37 #[.string t,.slice A n c]:=Blk.new w _ _
 have hfind:=fun (s:ByteArray) (W:World) (hb:Below w.heap.size w W) => f_Find t s (.slice A n c) L S W (hv.keep fun b hB => hb.block b (hS b hB)) (fun b hB => Nat.lt_of_lt_of_le (hS b hB) hb.size) hl
 have HB0:=Lib.hid hb0
 have HBK:=Lib.hid hbk
 have HC:=Lib.hid hc
 have HN:=Lib.hid hn
 have HS:=Lib.hid hS
 have HFO:=Lib.hid hfo
 have HFI:=Lib.hid hfind
 have hn1:n ≤ 1000000:=by omega
 clear hc hn hS hl hb0 hbk hfo hfind hv
 by_cases h1:t.size ≤ 256
 ·have z1:¬ (256:Int) < (t.size:Int):=by omega
  by_cases h2:n ≤ 32
  ·have z2:¬ (32:Int) < (n:Int):=by omega
   go_enter Tryz.func40,Tryz.ntmps40
   go_wp2_with fail
   obtain ⟨w0,hw0⟩:∃ w0,w.alloc (.cells #[.string t,.slice A n c] 37)=w0:=⟨_,rfl⟩
   rw [hw0] at HB0 HBK hs0 ⊢
   clear hw0
   go_loopw [20] (fun v20 wr => ∃ k:Nat,k ≤ n ∧ v20=.int .i64 (k:Int) ∧ valK L k ∧ Below w0.heap.size w0 wr) (fun v20 _ => n - (intOf v20).toNat)
   case atStart => exact ⟨0,by omega,rfl,fun i hi => absurd hi (Nat.not_lt_zero _),Below.refl _ _⟩
   case round =>
    obtain ⟨k,hk,rfl,hg,hbr⟩:=hrel
    have HG:=Lib.hid hg
    have HBR:=Lib.hid hbr
    have hszr:=hbr.size
    clear hg hbr
    by_cases hlt:k < n
    ·obtain ⟨b,off,rfl,hSb,hcell⟩:=HC.out (by omega)
     have hbw:=HS.out b hSb
     have hf:=hcell k hlt
     have hbl:Below w.heap.size w wr:=HB0.out.trans (HBR.out.mono (by omega))
     have hkl:k < L.length:=by have:=HN.out; omega
     have hfok:=HFO.out k hkl
     have hself:=fstF_self hkl
     have hnot:∀ h,validB t L=false:=fun (h:¬ (fldB (fldAt L k)=true ∧ ∀ j,j < k → (fldAt L j).name ≠ (fldAt L k).name)) => validB_not hkl h
     have hstep:=valK_step HG.out
     obtain ⟨f,hfe⟩:∃ f,fldAt L k=f:=⟨_,rfl⟩
     rw [hfe] at hf hfok hself hnot hstep
     obtain ⟨nm,kd,nd,le,mo,op⟩:=f
     obtain ⟨c0,c1,c2,c3,c4,u,c5,hu⟩:=hf
     have hue:=hu
     obtain ⟨Au,nu,cu,rfl,-⟩:=hu
     have e0:wr.cell? ⟨b,off+k*6,none⟩=_:=(hbl.cell (p:=⟨b,off+k*6,none⟩) hbw).trans c0
     have e1:wr.cell? ⟨b,off+k*6+1,none⟩=_:=(hbl.cell (p:=⟨b,off+k*6+1,none⟩) hbw).trans c1
     have e2:wr.cell? ⟨b,off+k*6+2,none⟩=_:=(hbl.cell (p:=⟨b,off+k*6+2,none⟩) hbw).trans c2
     have e3:wr.cell? ⟨b,off+k*6+3,none⟩=_:=(hbl.cell (p:=⟨b,off+k*6+3,none⟩) hbw).trans c3
     have e4:wr.cell? ⟨b,off+k*6+4,none⟩=_:=(hbl.cell (p:=⟨b,off+k*6+4,none⟩) hbw).trans c4
     have e5:wr.cell? ⟨b,off+k*6+5,none⟩=_:=(hbl.cell (p:=⟨b,off+k*6+5,none⟩) hbw).trans c5
     have hbx:=Blk.new wr 58 #[.string nm,.int .i64 kd,.bool nd,.int .i64 le,.int .i64 mo,.slice Au nu cu]
     have hbxb:Below w0.heap.size w0 (wr.alloc (.cells #[.string nm,.int .i64 kd,.bool nd,.int .i64 le,.int .i64 mo,.slice Au nu cu] 58)):=HBR.out.alloc hszr _
     have hf1:=HBK.out.below' hbxb (by omega)
     have f0:=(hf1.cell 0).trans (show _=some (Value.string t) from rfl)
     have f1:=(hf1.cell 1).trans (show _=some (Value.slice (some ⟨b,off,none⟩) n c) from rfl)
     have hbxw:Below w.heap.size w (wr.alloc (.cells #[.string nm,.int .i64 kd,.bool nd,.int .i64 le,.int .i64 mo,.slice Au nu cu] 58)):=hbl.alloc (by omega) _
     have hrt:=fun (W:World) (hb:Below w.heap.size w W) => f_right nm kd nd le mo op (.slice Au nu cu) S W (hue.keep fun b hB => hb.block b (HS.out b hB)) (fun b hB => Nat.lt_of_lt_of_le (HS.out b hB) hb.size) hfok
     have HRT:=Lib.hid hrt
     have HBX:=Lib.hid hbx
     have HBXB:=Lib.hid hbxb
     have HBXW:=Lib.hid hbxw
     have HNOT:=Lib.hid hnot
     have HSTEP:=Lib.hid hstep
     have HFE:=Lib.hid hfe
     have HKL:=Lib.hid hkl
     clear hcell hfok hnot hstep hfe c0 c1 c2 c3 c4 c5 hbx hbxb hbxw hrt hue hbl hf1 hkl
     have zi:(k:Int) < (n:Int):=by omega
     have z0:(0:Int) ≤ (k:Int):=by omega
     simp only at hself
     rcases hself with ⟨hfs,hdis⟩ | ⟨i,hik,hfs⟩
     ·have HDIS:=Lib.hid hdis
      have HFS:=Lib.hid hfs
      clear hdis hfs
      go_wp2_with fail
      refine (HFI.out nm _ HBXW.out).mono ?_
      rintro e w1 ⟨he,hb1⟩
      rw [HFS.out] at he
      obtain rfl:e=.returned (.tuple #[.int .i64 (k:Int),.bool true]):=he
      have hbk1:=HBX.out.below' hb1 (by simp)
      have g0:=(hbk1.cell 0).trans (show _=some (Value.string nm) from rfl)
      have g1:=(hbk1.cell 1).trans (show _=some (Value.int .i64 kd) from rfl)
      have g2:=(hbk1.cell 2).trans (show _=some (Value.bool nd) from rfl)
      have g3:=(hbk1.cell 3).trans (show _=some (Value.int .i64 le) from rfl)
      have g4:=(hbk1.cell 4).trans (show _=some (Value.int .i64 mo) from rfl)
      have g5:=(hbk1.cell 5).trans (show _=some (Value.slice Au nu cu) from rfl)
      have hbw1:=HBXW.out.trans (hb1.mono HBXW.out.size)
      have HBW1:=Lib.hid hbw1
      have HBO1:=Lib.hid (HBXB.out.trans (hb1.mono HBXB.out.size))
      have hkk:((k:Int) == (k:Int))=true:=by simp
      clear hb1 hbk1 hbw1
      cases hr:fldB ⟨nm,kd,nd,le,mo,op⟩ with
      | true =>
       have hst:=HSTEP.out hr HDIS.out
       have HST:=Lib.hid hst
       have HR:=Lib.hid hr
       clear hst hr
       go_wp2_with fail
       refine (HRT.out _ HBW1.out).mono ?_
       rw [HR.out]
       rintro e w2 ⟨rfl,hb2⟩
       have HBO2:=Lib.hid (HBO1.out.trans (hb2.mono HBO1.out.size))
       clear hb2
       go_wp2_with fail
       go_roundw
       case measure => simp [intOf]; omega
       case rel => exact ⟨k+1,by omega,by go_num,HST.out,HBO2.out⟩
      | false =>
       have hno:=HNOT.out (fun h => by rw [hr] at h; cases h.1)
       have HNO:=Lib.hid hno
       have HR:=Lib.hid hr
       clear hno hr
       go_wp2_with fail
       refine (HRT.out _ HBW1.out).mono ?_
       rw [HR.out]
       rintro e w2 ⟨rfl,hb2⟩
       have HBW2:=Lib.hid (HBW1.out.trans (hb2.mono HBW1.out.size))
       clear hb2
       go_wp2_with fail
       go_ret
       exact ⟨by rw [HNO.out]; rfl,HBW2.out⟩
     ·have hno:=HNOT.out (fun h => by
       have:=fstF_hit (L:=L) (s:=nm) (k:=k) HKL.out (by rw [HFE.out]) h.2
       rw [hfs] at this
       injection this with this
       omega)
      have HNO:=Lib.hid hno
      have HFS:=Lib.hid hfs
      clear hno hfs
      go_wp2_with fail
      refine (HFI.out nm _ HBXW.out).mono ?_
      rintro e w1 ⟨he,hb1⟩
      rw [HFS.out] at he
      obtain rfl:e=.returned (.tuple #[.int .i64 (i:Int),.bool true]):=he
      have HBW1:=Lib.hid (HBXW.out.trans (hb1.mono HBXW.out.size))
      have hki:((i:Int) == (k:Int))=false:=by simp; omega
      clear hb1
      go_wp2_with fail
      go_ret
      exact ⟨by rw [HNO.out]; rfl,HBW1.out⟩
    ·have zi:¬ (k:Int) < (n:Int):=by omega
     have he:validB t L=true:=by
      have h3:=HG.out
      rw [show k=L.length by have:=HN.out; omega] at h3
      rw [validB_end h3]
      exact decide_eq_true ⟨h1,by have:=HN.out; omega⟩
     have HE:=Lib.hid he
     have HBW1:=Lib.hid (HB0.out.trans (HBR.out.mono (by omega)))
     clear he
     go_wp2_with fail
     go_ret
     exact ⟨by rw [HE.out]; rfl,HBW1.out⟩
  ·have z2:(32:Int) < (n:Int):=by omega
   have he:validB t L=false:=decide_eq_false fun h => h2 (by have:=HN.out; omega)
   have HE:=Lib.hid he
   clear he
   go_enter Tryz.func40,Tryz.ntmps40
   go_wp2_with fail
   go_ret
   exact ⟨by rw [HE.out]; rfl,HB0.out⟩
 ·have z1:(256:Int) < (t.size:Int):=by omega
  have he:validB t L=false:=decide_eq_false fun h => h1 h.1
  have HE:=Lib.hid he
  clear he
  go_enter Tryz.func40,Tryz.ntmps40
  go_wp2_with fail
  go_ret
  exact ⟨by rw [HE.out]; rfl,HB0.out⟩
theorem dec_fin {l : List UInt8} {n : Int} (hn : I64 n) (hv : ∀ v,decV l = some v → n = v) : (Lib.itoa n == l) = (decV l).isSome := by
 cases hd:decV l with
 | none =>
  have hf:(Lib.itoa n == l)=false:=Bool.eq_false_iff.2 (fun h => by
   have e:=eq_of_beq h
   rw [decV_some hn e] at hd
   cases hd)
  rw [hf]; rfl
 | some v =>
  have e:=hv v hd
  subst e
  rw [(decV_spec hd).2]
  simp
theorem data_toList (s : ByteArray) : s.toList = s.data.toList := by rw [ByteArray.toList_eq]
noncomputable def dayD (t : ByteArray) : Option Int := if Cal.prE t.data.toList = 0 then some (Cal.prN t.data.toList) else none
theorem dayD_yes {t : ByteArray} (h : Cal.prE t.data.toList = 0) : dayD t = some (Cal.prN t.data.toList) := if_pos h
theorem dayD_no {t : ByteArray} (h : Cal.prE t.data.toList ≠ 0) : dayD t = none := if_neg h
theorem cal_lib {w : World} (h : ParOk w) : Cal.LibOk w := ⟨h.tab,h.err1,h.err2,h.most,h.size⟩
theorem cal_ParseD (t : ByteArray) (w : World) (h : ParOk w) (hl : t.size ≤ 1000) :
  Calls Tryz.prog 79 #[.string t] w fun e w' => e=.returned (.tuple #[.int .i64 (Cal.prN t.data.toList),.int .i64 (Cal.prE t.data.toList)]) ∧ Below w.heap.size w w':=by
 have:=Cal.cal_Parse t.data.toList w (cal_lib h) (Nat.le_trans (Nat.le_of_eq Array.length_toList) hl)
 rwa [← Cal.ba_eta t] at this
def VluE (nm : ByteArray) (r : Option Ans) (w : World) (e : Ending) (w' : World) : Prop := ∃ (a : Ans) (b : Bool),e = .returned (.tuple #[.agg #[.string a.field,.string a.text,.int .i64 a.num],.bool b]) ∧ b = r.isSome ∧ (∀ x,r = some x → a = x) ∧ a.field = nm ∧ a.text.size ≤ 1000000 ∧ Below w.heap.size w w'
theorem ansr_fin {w W : World} {a : Ans} (hb : Below w.heap.size w W) (hr : Blk W (w.heap.size + 1) 50 #[.string ⟨#[]⟩,.string ⟨#[]⟩,.int .i64 0]) :
  ∀ W2,W2=((W.setCell ⟨w.heap.size+1,0,none⟩ (.string a.field)).setCell ⟨w.heap.size+1,1,none⟩ (.string a.text)).setCell ⟨w.heap.size+1,2,none⟩ (.int .i64 a.num) →
   Blk W2 (w.heap.size+1) 50 #[.string a.field,.string a.text,.int .i64 a.num] ∧ Below w.heap.size w W2 ∧ ∀ q,q ≠ w.heap.size+1 → q < W.heap.size → ∀ i,W2.cell? ⟨q,i,none⟩=W.cell? ⟨q,i,none⟩:=by
 intro W2 hW2
 have hc:Chg W W2 (fun q => q=w.heap.size+1):=by
  rw [hW2]
  exact Chg.setCell (Chg.setCell (Chg.setCell (Chg.refl W (fun q => q=w.heap.size+1)) ⟨w.heap.size+1,0,none⟩ (fun _ => rfl) _) ⟨w.heap.size+1,1,none⟩ (fun _ => rfl) _) ⟨w.heap.size+1,2,none⟩ (fun _ => rfl) _
 have hbk:Blk W2 (w.heap.size+1) 50 #[.string a.field,.string a.text,.int .i64 a.num]:=by
  rw [hW2]
  exact ((hr.set_ 0 _).set_ 1 _).set_ 2 _
 have hs:=hc.size
 have ho':=hb.size
 exact ⟨hbk,⟨hc.os.trans hb.os,hc.tape.trans hb.tape,hc.output.trans hb.output,Nat.le_trans ho' hs,fun q hq => (hc.block q (Nat.lt_of_lt_of_le hq ho') (by omega)).trans (hb.block q hq)⟩,fun q hq hl i => World.cell?_of_block (w:=W) (a:=⟨q,i,none⟩) (hc.block q hl hq)⟩
theorem valA_dec {F : Fld} {t : ByteArray} {u : Int} (k : F.kind = 2) (hu : I64 u) (hv : ∀ v,decV t.data.toList = some v → u = v) :
  (Lib.itoa u == t.data.toList)=(valA dayD F t).isSome ∧ ∀ x,valA dayD F t=some x → (⟨F.name,⟨#[]⟩,u⟩:Ans)=x:=by
 have h1:=dec_fin hu hv
 cases hd:decV t.data.toList with
 | none =>
  have e:=valA_num_no (D:=dayD) k (by rw [data_toList]; exact hd)
  rw [hd] at h1
  rw [e]
  exact ⟨h1,fun x hx => by cases hx⟩
 | some v =>
  have e:=valA_num (D:=dayD) k (by rw [data_toList]; exact hd)
  rw [hd] at h1
  rw [e]
  refine ⟨h1,fun x hx => ?_⟩
  injection hx with hx
  rw [← hx,hv v hd]
set_option maxRecDepth 100000 in
set_option maxHeartbeats 4000000 in
theorem s_value (F : Fld) (t : ByteArray) (vo : Value) (S : Nat → Prop) (w : World) (ho : TxsAt w S vo F.opts) (hp : ParOk w) (ht : t.size ≤ 1000) :
  Calls Tryz.prog 42 #[.agg #[.string F.name,.int .i64 F.kind,.bool F.need,.int .i64 F.least,.int .i64 F.most,vo],.string t] w (VluE F.name (valA dayD F t) w):=by
 have hmx:Tryz.prog.follows .mixedOrders=true:=by kernel_rfl
 obtain ⟨Ao,no,co,rfl,-⟩:=id ho
 clear ho
 obtain ⟨w3,hw3⟩:∃ w3,((w.alloc (.cells #[.string F.name,.int .i64 F.kind,.bool F.need,.int .i64 F.least,.int .i64 F.most,.slice Ao no co] 58)).alloc (.cells #[.string ⟨#[]⟩,.string ⟨#[]⟩,.int .i64 0] 50)).alloc (.cells #[.string F.name,.string ⟨#[]⟩,.int .i64 0] 50)=w3:=⟨_,rfl⟩
 have hs3:w3.heap.size=w.heap.size+3:=by rw [← hw3]; simp
 have hb3:Below w.heap.size w w3:=by rw [← hw3]; exact (((Below.refl _ _).alloc (Nat.le_refl _) _).alloc (by simp) _).alloc (by simp; omega) _
 have hbf:Blk w3 w.heap.size 58 #[.string F.name,.int .i64 F.kind,.bool F.need,.int .i64 F.least,.int .i64 F.most,.slice Ao no co]:=by rw [← hw3]; exact ((Blk.new w _ _).alloc _).alloc _
 have hbr:Blk w3 (w.heap.size+1) 50 #[.string ⟨#[]⟩,.string ⟨#[]⟩,.int .i64 0]:=by
  rw [← hw3]
  have:=(Blk.new (w.alloc (.cells #[.string F.name,.int .i64 F.kind,.bool F.need,.int .i64 F.least,.int .i64 F.most,.slice Ao no co] 58)) 50 #[.string ⟨#[]⟩,.string ⟨#[]⟩,.int .i64 0]).alloc (.cells #[.string F.name,.string ⟨#[]⟩,.int .i64 0] 50)
  rwa [World.size_alloc] at this
 have hba:Blk w3 (w.heap.size+2) 50 #[.string F.name,.string ⟨#[]⟩,.int .i64 0]:=by
  rw [← hw3]
  have:=Blk.new ((w.alloc (.cells #[.string F.name,.int .i64 F.kind,.bool F.need,.int .i64 F.least,.int .i64 F.most,.slice Ao no co] 58)).alloc (.cells #[.string ⟨#[]⟩,.string ⟨#[]⟩,.int .i64 0] 50)) 50 #[.string F.name,.string ⟨#[]⟩,.int .i64 0]
  rwa [World.size_alloc,World.size_alloc] at this
 have f1:=(hbf.cell 1).trans (show _=some (Value.int .i64 F.kind) from rfl)
 have HP:=Lib.hid (hp.later hb3)
 have HPW:=Lib.hid (fun W (hW:Below w.heap.size w W) => hp.later hW)
 have K3:=Lib.hid (And.intro hb3 (And.intro hbr hba))
 have ato:=i_Atoi t w3 (by omega) HP.out
 have prs:=cal_ParseD t w3 HP.out ht
 have HW3:=Lib.hid hw3
 have HATO:=Lib.hid ato
 have HPRS:=Lib.hid prs
 clear hb3 hbf hbr hba hp ato prs hw3
 by_cases k2:F.kind=2
 ·have k2':(F.kind == (2:Int))=true:=by rw [k2]; rfl
  rw [k2] at f1
  have HK2:=Lib.hid k2
  have hsf:∀ W n,Below w3.heap.size w3 W → Blk (W.setCell ⟨w.heap.size+2,2,none⟩ (.int .i64 n)) (w.heap.size+2) 50 #[.string F.name,.string ⟨#[]⟩,.int .i64 n] ∧ Blk (W.setCell ⟨w.heap.size+2,2,none⟩ (.int .i64 n)) (w.heap.size+1) 50 #[.string ⟨#[]⟩,.string ⟨#[]⟩,.int .i64 0] ∧ Below w.heap.size w (W.setCell ⟨w.heap.size+2,2,none⟩ (.int .i64 n)):=fun W n hW => by
   have h1:=K3.out.2.2.below' hW K3.out.2.2.lt
   have h2:=K3.out.2.1.below' hW K3.out.2.1.lt
   have hg:W.grownBy (W.setCell ⟨w.heap.size+2,2,none⟩ (.int .i64 n)) (some (w.heap.size+2)):=grown_setCell W ⟨w.heap.size+2,2,none⟩ (.int .i64 n)
   exact ⟨h1.set_ 2 _,(hg.block _ h2.lt (fun e => by injection e; omega)).trans h2,(K3.out.1.trans (hW.mono K3.out.1.size)).setCell (by show _ ≤ w.heap.size+2; omega) _⟩
  have HSF:=Lib.hid hsf
  clear hsf k2
  go_enter Tryz.func42,Tryz.ntmps42
  go_upto_region 4 with fail
  try rw [show w.heap.size+1+1=w.heap.size+2 from rfl]
  rw [HW3.out]
  go_wp2_with fail
  refine HATO.out.mono ?_
  rintro e w4 hpost
  rcases hpost with ⟨u,hu,rfl,u1,u2,hb4⟩ | ⟨hno,v,tp,pp,rfl,hb4⟩
  ·have hk4:=K3.out.2.2.below' hb4 K3.out.2.2.lt
   have d2:=(hk4.cell 2).trans (show _=some (Value.int .i64 0) from rfl)
   have dz:=hk4.frozen 2
   obtain ⟨q1,q2,q3⟩:=HSF.out w4 u hb4
   obtain ⟨hi1,hi2⟩:=valA_dec (F:=F) (t:=t) HK2.out (show I64 u from ⟨u1,u2⟩) (fun v hv => by
    have e:=atoi_itoa (decV_spec hv).1
    rw [(decV_spec hv).2,show t.data.toList=blOf t from rfl,hu] at e
    injection e)
   have HI1:=Lib.hid hi1
   have HI2:=Lib.hid hi2
   clear hi1 hi2 hu
   have HQ:=Lib.hid (And.intro q1 (And.intro q2 q3))
   have HPL:=Lib.hid (HP.out.later hb4)
   clear q1 q2 q3 hk4 hb4
   go_upto_region 6 with fail
   clear d2 dz f1
   generalize w4.setCell ⟨w.heap.size+2,2,none⟩ (.int .i64 u)=w5 at HQ ⊢
   have held:∀ W,Below w5.heap.size w5 W → W.cell? ⟨w.heap.size+2,0,none⟩=some (.string F.name) ∧ W.cell? ⟨w.heap.size+2,1,none⟩=some (.string ⟨#[]⟩) ∧ W.cell? ⟨w.heap.size+2,2,none⟩=some (.int .i64 u):=fun W hW => by
    have hk:=HQ.out.1.below' hW HQ.out.1.lt
    exact ⟨(hk.cell 0).trans rfl,(hk.cell 1).trans rfl,(hk.cell 2).trans rfl⟩
   have HHD:=Lib.hid held
   have B_0:Hid (Below w5.heap.size w5 w5.drew):=Lib.hid (Below.refl _ _).drew
   clear held
   refine wp_region_held_drew (S:=fun W => W.cell? ⟨w.heap.size+2,0,none⟩=some (.string F.name) ∧ W.cell? ⟨w.heap.size+2,1,none⟩=some (.string ⟨#[]⟩) ∧ W.cell? ⟨w.heap.size+2,2,none⟩=some (.int .i64 u)) hmx (HHD.out _ B_0.out) (fun hHeld => ?_)
   generalize w5.drew=w6 at hHeld B_0 ⊢
   refine t1 0 rfl ?_
   try simp only [pt]
   refine t1 1 rfl ?_
   try simp only [pt]
   refine t1 2 rfl ?_
   try simp only [pt]
   refine t1 3 rfl ?_
   try simp only [pt]
   refine t1 4 rfl ?_
   try simp only [pt]
   refine t1 6 rfl ?_
   try simp only [pt]
   refine wpAnyH_ready (rs:=[5]) (by kernel_rfl) (by simp) ?_
   refine AllReadyH.cons rfl (fun Kc hKc => ?_) AllReadyH.nil
   go_simp
   refine (i_Itoa u w6 (HPW.out _ (HQ.out.2.2.trans (B_0.out.mono HQ.out.2.2.size))).tab u1 u2).mono ?_
   rintro e w7 ⟨rfl,hb6⟩
   have B_1:=Lib.hid (B_0.out.trans (hb6.mono B_0.out.size))
   clear hb6
   refine hKc.out _ _ (HHD.out _ B_1.out) (fun hHeld => ?_)
   clear hKc Kc
   try simp only [pt]
   refine t1 7 rfl ?_
   try simp only [pt]
   refine t1 8 rfl ?_
   try simp only [pt]
   have hr:=HQ.out.2.1.below' B_1.out HQ.out.2.1.lt
   have r0:=(hr.cell 0).trans (show _=some (Value.string ⟨#[]⟩) from rfl)
   have r1:=(hr.cell 1).trans (show _=some (Value.string ⟨#[]⟩) from rfl)
   have r2:=(hr.cell 2).trans (show _=some (Value.int .i64 0) from rfl)
   have g0:=hr.frozen 0
   have g1:=hr.frozen 1
   have g2:=hr.frozen 2
   have hfin:=ansr_fin (a:=⟨F.name,⟨#[]⟩,u⟩) (HQ.out.2.2.trans (B_1.out.mono HQ.out.2.2.size)) hr
   obtain ⟨hbk,hbl,hcl⟩:=hfin _ rfl
   have HCL:=Lib.hid (hcl (w.heap.size+2) (by omega) (by have:=(HQ.out.1.below' B_1.out HQ.out.1.lt).lt; omega))
   have HBL:=Lib.hid hbk
   have HB9:=Lib.hid hbl
   clear hfin hbk hbl hr hcl
   refine wpAnyH_ready (rs:=[9]) (by kernel_rfl) (by simp) ?_
   refine AllReadyH.cons rfl (fun Kc hKc => ?_) AllReadyH.nil
   go_simp
   refine hKc.out _ _ ⟨(HCL.out 0).trans hHeld.1,(HCL.out 1).trans hHeld.2.1,(HCL.out 2).trans hHeld.2.2⟩ (fun hHeld => ?_)
   clear hKc Kc
   try simp only [pt]
   refine t1 10 rfl ?_
   try simp only [pt]
   refine wpAnyH_done (by kernel_rfl) ?_ _
   go_wp2_with fail
   have hbo:((bsOf (Lib.itoa u)).toList == t.toList)=(valA dayD F t).isSome:=by rw [data_toList,data_toList]; exact HI1.out
   have hb:=HBL.out
   refine bodyPost_ret (v:=.tuple #[.agg #[.string F.name,.string ⟨#[]⟩,.int .i64 u],.bool ((bsOf (Lib.itoa u)).toList == t.toList)]) ?_ rfl ⟨⟨F.name,⟨#[]⟩,u⟩,_,rfl,hbo,HI2.out,rfl,by show (0:Nat) ≤ _; omega,HB9.out⟩
   simp [results,Tryz.results42,go_sem,(hb.cell 0).trans (show _=some (Value.string F.name) from rfl),(hb.cell 1).trans (show _=some (Value.string ⟨#[]⟩) from rfl),(hb.cell 2).trans (show _=some (Value.int .i64 u) from rfl)]
  ·have hk4:=K3.out.2.2.below' hb4 K3.out.2.2.lt
   have d2:=(hk4.cell 2).trans (show _=some (Value.int .i64 0) from rfl)
   have dz:=hk4.frozen 2
   obtain ⟨q1,q2,q3⟩:=HSF.out w4 v hb4
   have hnone:=valA_num_no (D:=dayD) (F:=F) (t:=t) HK2.out (by rw [data_toList]; exact decV_atoi hno)
   have HN:=Lib.hid hnone
   clear hnone hno
   have HQ:=Lib.hid (And.intro q1 (And.intro q2 q3))
   have HPL:=Lib.hid (HP.out.later hb4)
   clear q1 q2 q3 hk4 hb4
   go_upto_region 6 with fail
   clear d2 dz f1
   generalize w4.setCell ⟨w.heap.size+2,2,none⟩ (.int .i64 v)=w5 at HQ ⊢
   have held:∀ W,Below w5.heap.size w5 W → W.cell? ⟨w.heap.size+2,0,none⟩=some (.string F.name) ∧ W.cell? ⟨w.heap.size+2,1,none⟩=some (.string ⟨#[]⟩) ∧ W.cell? ⟨w.heap.size+2,2,none⟩=some (.int .i64 v):=fun W hW => by
    have hk:=HQ.out.1.below' hW HQ.out.1.lt
    exact ⟨(hk.cell 0).trans rfl,(hk.cell 1).trans rfl,(hk.cell 2).trans rfl⟩
   have HHD:=Lib.hid held
   have B_0:Hid (Below w5.heap.size w5 w5.drew):=Lib.hid (Below.refl _ _).drew
   clear held
   refine wp_region_held_drew (S:=fun W => W.cell? ⟨w.heap.size+2,0,none⟩=some (.string F.name) ∧ W.cell? ⟨w.heap.size+2,1,none⟩=some (.string ⟨#[]⟩) ∧ W.cell? ⟨w.heap.size+2,2,none⟩=some (.int .i64 v)) hmx (HHD.out _ B_0.out) (fun hHeld => ?_)
   generalize w5.drew=w6 at hHeld B_0 ⊢
   refine t1 0 rfl ?_
   try simp only [pt]
   refine t1 1 rfl ?_
   try simp only [pt]
   refine t1 2 rfl ?_
   try simp only [pt]
   refine t1 3 rfl ?_
   try simp only [pt]
   have B_1:=B_0
   refine t0 4 rfl ?_
   try simp only [pt]
   refine t0 5 rfl ?_
   try simp only [pt]
   refine t0 6 rfl ?_
   try simp only [pt]
   refine t0 7 rfl ?_
   try simp only [pt]
   refine t1 8 rfl ?_
   try simp only [pt]
   have hr:=HQ.out.2.1.below' B_1.out HQ.out.2.1.lt
   have r0:=(hr.cell 0).trans (show _=some (Value.string ⟨#[]⟩) from rfl)
   have r1:=(hr.cell 1).trans (show _=some (Value.string ⟨#[]⟩) from rfl)
   have r2:=(hr.cell 2).trans (show _=some (Value.int .i64 0) from rfl)
   have g0:=hr.frozen 0
   have g1:=hr.frozen 1
   have g2:=hr.frozen 2
   have hfin:=ansr_fin (a:=⟨F.name,⟨#[]⟩,v⟩) (HQ.out.2.2.trans (B_1.out.mono HQ.out.2.2.size)) hr
   obtain ⟨hbk,hbl,hcl⟩:=hfin _ rfl
   have HCL:=Lib.hid (hcl (w.heap.size+2) (by omega) (by have:=(HQ.out.1.below' B_1.out HQ.out.1.lt).lt; omega))
   have HBL:=Lib.hid hbk
   have HB9:=Lib.hid hbl
   clear hfin hbk hbl hr hcl
   refine wpAnyH_ready (rs:=[9]) (by kernel_rfl) (by simp) ?_
   refine AllReadyH.cons rfl (fun Kc hKc => ?_) AllReadyH.nil
   go_simp
   refine hKc.out _ _ ⟨(HCL.out 0).trans hHeld.1,(HCL.out 1).trans hHeld.2.1,(HCL.out 2).trans hHeld.2.2⟩ (fun hHeld => ?_)
   clear hKc Kc
   try simp only [pt]
   refine t1 10 rfl ?_
   try simp only [pt]
   refine wpAnyH_done (by kernel_rfl) ?_ _
   go_wp2_with fail
   have hb:=HBL.out
   refine bodyPost_ret (v:=.tuple #[.agg #[.string F.name,.string ⟨#[]⟩,.int .i64 v],.bool false]) ?_ rfl ⟨⟨F.name,⟨#[]⟩,v⟩,_,rfl,by rw [HN.out]; rfl,(fun x hx => by rw [HN.out] at hx; cases hx),rfl,by show (0:Nat) ≤ _; omega,HB9.out⟩
   simp [results,Tryz.results42,go_sem,(hb.cell 0).trans (show _=some (Value.string F.name) from rfl),(hb.cell 1).trans (show _=some (Value.string ⟨#[]⟩) from rfl),(hb.cell 2).trans (show _=some (Value.int .i64 v) from rfl)]
 ·have k2':(F.kind == (2:Int))=false:=by simpa using k2
  by_cases k3:F.kind=3
  ·rw [k3] at f1
   have HK3:=Lib.hid k3
   clear k2' k2 k3
   obtain ⟨pn,hpn⟩:∃ pn,Cal.prN t.data.toList=pn:=⟨_,rfl⟩
   obtain ⟨pe,hpe⟩:∃ pe,Cal.prE t.data.toList=pe:=⟨_,rfl⟩
   rw [hpn,hpe] at HPRS
   have hres:∀ b,(pe == 0)=b → b=(valA dayD F t).isSome ∧ ∀ x,valA dayD F t=some x → (⟨F.name,⟨#[]⟩,pn⟩:Ans)=x:=fun b hb => by
    subst hb
    by_cases h0:pe=0
    ·have e:=valA_day (D:=dayD) (F:=F) (t:=t) (n:=pn) HK3.out (by rw [dayD_yes (by rw [hpe]; exact h0),hpn])
     rw [e]
     refine ⟨by rw [h0]; rfl,fun x hx => ?_⟩
     injection hx
    ·have e:=valA_day_no (D:=dayD) (F:=F) (t:=t) HK3.out (dayD_no (by rw [hpe]; exact h0))
     rw [e]
     exact ⟨by rw [beq_eq_false_iff_ne.2 h0]; rfl,fun x hx => by cases hx⟩
   obtain ⟨b,hbe⟩:∃ b,(pe == 0)=b:=⟨_,rfl⟩
   have HRES:=Lib.hid (hres b hbe)
   have HBE:=Lib.hid hbe
   clear hpn hpe hres hbe
   go_enter Tryz.func42,Tryz.ntmps42
   go_upto_region 2 with fail
   try rw [show w.heap.size+1+1=w.heap.size+2 from rfl]
   rw [HW3.out]
   go_wp2_with fail
   refine HPRS.out.mono ?_
   rintro e w4 ⟨rfl,hb4⟩
   have hk4:=K3.out.2.2.below' hb4 K3.out.2.2.lt
   have hr:=K3.out.2.1.below' hb4 K3.out.2.1.lt
   have d0:=(hk4.cell 0).trans (show _=some (Value.string F.name) from rfl)
   have d1:=(hk4.cell 1).trans (show _=some (Value.string ⟨#[]⟩) from rfl)
   have d2:=(hk4.cell 2).trans (show _=some (Value.int .i64 0) from rfl)
   have dz:=hk4.frozen 2
   have r0:=(hr.cell 0).trans (show _=some (Value.string ⟨#[]⟩) from rfl)
   have r1:=(hr.cell 1).trans (show _=some (Value.string ⟨#[]⟩) from rfl)
   have r2:=(hr.cell 2).trans (show _=some (Value.int .i64 0) from rfl)
   have g0:=hr.frozen 0
   have g1:=hr.frozen 1
   have g2:=hr.frozen 2
   have HB4:=Lib.hid (K3.out.1.trans (hb4.mono K3.out.1.size))
   have HR:=Lib.hid hr
   clear hk4 hr hb4 f1
   have hbe:=HBE.out
   go_wp2_with fail
   have hg:w4.grownBy (w4.setCell ⟨w.heap.size+2,2,none⟩ (.int .i64 pn)) (some (w.heap.size+2)):=grown_setCell w4 ⟨w.heap.size+2,2,none⟩ (.int .i64 pn)
   obtain ⟨hb,hbl,-⟩:=ansr_fin (a:=⟨F.name,⟨#[]⟩,pn⟩) (HB4.out.setCell (by show _ ≤ w.heap.size+2; omega) (.int .i64 pn)) ((hg.block _ HR.out.lt (fun e => by injection e; omega)).trans HR.out) _ rfl
   have HBL:=Lib.hid hb
   have hb:=HBL.out
   refine bodyPost_ret (v:=.tuple #[.agg #[.string F.name,.string ⟨#[]⟩,.int .i64 pn],.bool b]) ?_ rfl ⟨⟨F.name,⟨#[]⟩,pn⟩,_,rfl,HRES.out.1,HRES.out.2,rfl,by show (0:Nat) ≤ _; omega,hbl⟩
   simp [results,Tryz.results42,go_sem,(hb.cell 0).trans (show _=some (Value.string F.name) from rfl),(hb.cell 1).trans (show _=some (Value.string ⟨#[]⟩) from rfl),(hb.cell 2).trans (show _=some (Value.int .i64 pn) from rfl)]
  ·have k3':(F.kind == (3:Int))=false:=by simpa using k3
   have e:=valA_txt (D:=dayD) (F:=F) (t:=t) k2 k3
   have HE:=Lib.hid e
   clear e k2 k3
   have d0:=(K3.out.2.2.cell 0).trans (show _=some (Value.string F.name) from rfl)
   have d1:=(K3.out.2.2.cell 1).trans (show _=some (Value.string ⟨#[]⟩) from rfl)
   have d2:=(K3.out.2.2.cell 2).trans (show _=some (Value.int .i64 0) from rfl)
   have dz:=K3.out.2.2.frozen 1
   have hr:=K3.out.2.1
   have r0:=(hr.cell 0).trans (show _=some (Value.string ⟨#[]⟩) from rfl)
   have r1:=(hr.cell 1).trans (show _=some (Value.string ⟨#[]⟩) from rfl)
   have r2:=(hr.cell 2).trans (show _=some (Value.int .i64 0) from rfl)
   have g0:=hr.frozen 0
   have g1:=hr.frozen 1
   have g2:=hr.frozen 2
   clear hr
   go_enter Tryz.func42,Tryz.ntmps42
   go_upto_region 3 with fail
   try rw [show w.heap.size+1+1=w.heap.size+2 from rfl]
   rw [HW3.out]
   go_wp2_with fail
   have hg:w3.grownBy (w3.setCell ⟨w.heap.size+2,1,none⟩ (.string t)) (some (w.heap.size+2)):=grown_setCell w3 ⟨w.heap.size+2,1,none⟩ (.string t)
   obtain ⟨hb,hbl,-⟩:=ansr_fin (a:=⟨F.name,t,0⟩) (K3.out.1.setCell (by show _ ≤ w.heap.size+2; omega) (.string t)) ((hg.block _ K3.out.2.1.lt (fun e => by injection e; omega)).trans K3.out.2.1) _ rfl
   have HBL:=Lib.hid hb
   have hb:=HBL.out
   refine bodyPost_ret (v:=.tuple #[.agg #[.string F.name,.string t,.int .i64 0],.bool true]) ?_ rfl ⟨⟨F.name,t,0⟩,_,rfl,by rw [HE.out]; rfl,(fun x hx => by rw [HE.out] at hx; injection hx),rfl,by show t.size ≤ _; omega,hbl⟩
   simp [results,Tryz.results42,go_sem,(hb.cell 0).trans (show _=some (Value.string F.name) from rfl),(hb.cell 1).trans (show _=some (Value.string t) from rfl),(hb.cell 2).trans (show _=some (Value.int .i64 0) from rfl)]
end Go.Proofs.YtgdngfdeeadlnaaGreatDoor

/- Contracts: which forms are valid, the program's and the reference's. And more. -/
import Derived.Test.YtgdngfdeeadlnaaGreatDoorY17
import Derived.Test.YtgdngfdeeadlnaaGreatDoorY39
import Derived.Test.YtgdngfdeeadlnaaGreatDoorY05
import Derived.Test.YtgdngfdeeadlnaaGreatDoorY04
import Derived.Test.YtgdngfdeeadlnaaGreatDoorY09
set_option linter.unusedVariables false
set_option linter.unusedSimpArgs false
namespace Go.Proofs.YtgdngfdeeadlnaaGreatDoor
open Go.RowKit Num
def valK (L : List Fld) (k : Nat) : Prop := ∀ i,i < k → fldB (fldAt L i) = true ∧ ∀ j,j < i → (fldAt L j).name ≠ (fldAt L i).name
noncomputable instance (L : List Fld) (k : Nat) : Decidable (valK L k) := Classical.propDecidable _
noncomputable def validB (t : ByteArray) (L : List Fld) : Bool := decide (t.size ≤ 256 ∧ L.length ≤ 32 ∧ valK L L.length)
theorem valK_step {L : List Fld} {k : Nat} (h : valK L k) (h1 : fldB (fldAt L k) = true) (h2 : ∀ j,j < k → (fldAt L j).name ≠ (fldAt L k).name) : valK L (k + 1) := fun i hi => by
 by_cases e:i=k
 ·subst e; exact ⟨h1,h2⟩
 ·exact h i (by omega)
theorem validB_not {t : ByteArray} {L : List Fld} {k : Nat} (hk : k < L.length) (h : ¬ (fldB (fldAt L k) = true ∧ ∀ j,j < k → (fldAt L j).name ≠ (fldAt L k).name)) : validB t L = false :=
 decide_eq_false fun hg => h (hg.2.2 k hk)
theorem validB_end {t : ByteArray} {L : List Fld} (h : valK L L.length) : validB t L = decide (t.size ≤ 256 ∧ L.length ≤ 32) := by
 unfold validB
 by_cases e:t.size ≤ 256 ∧ L.length ≤ 32
 ·rw [decide_eq_true e]; exact decide_eq_true ⟨e.1,e.2,h⟩
 ·rw [decide_eq_false e]; exact decide_eq_false fun hg => e ⟨hg.1,hg.2.1⟩
theorem fstF_self {L : List Fld} {k : Nat} (hk : k < L.length) : (fstF L (fldAt L k).name = some k ∧ ∀ j,j < k → (fldAt L j).name ≠ (fldAt L k).name) ∨ (∃ i,i < k ∧ fstF L (fldAt L k).name = some i) := by
 by_cases h:∃ i,i < k ∧ (fldAt L i).name=(fldAt L k).name
 ·refine .inr ?_
  cases hf:fstF L (fldAt L k).name with
  | none =>
   obtain ⟨i,h1,h2⟩:=h
   unfold fstF at hf
   rw [List.find?_eq_none] at hf
   have:=hf i (List.mem_range.2 (by omega))
   simp [h2] at this
  | some m =>
   refine ⟨m,?_,rfl⟩
   obtain ⟨i,h1,h2⟩:=h
   unfold fstF at hf
   rw [List.find?_eq_some_iff_getElem] at hf
   obtain ⟨_,q,hq,e,hlt⟩:=hf
   simp at e
   subst e
   refine Nat.lt_of_not_le fun hge => ?_
   have:=hlt i (by omega)
   simp [h2] at this
 ·have hn:∀ j,j < k → (fldAt L j).name ≠ (fldAt L k).name:=fun j hj e => h ⟨j,hj,e⟩
  exact .inl ⟨fstF_hit hk rfl hn,hn⟩
def FormOk (t : ByteArray) (L : List Fld) : Prop := t.size ≤ 4294967296 ∧ L.length ≤ 1000000 ∧ ∀ k,k < L.length → FldOk (fldAt L k)
set_option maxRecDepth 100000 in
set_option maxHeartbeats 4000000 in
theorem f_Valid (t : ByteArray) (v : Value) (L : List Fld) (S : Nat → Prop) (w : World) (hv : FldsAt w S v L) (hS : ∀ b,S b → b < w.heap.size) (hok : FormOk t L) :
  Calls Tryz.prog 40 #[.agg #[.string t,v]] w (BoolBel (validB t L) w):=by
 obtain ⟨A,n,c,rfl,hn,hnc,hc⟩:=id hv
 obtain ⟨ht,hl,hfo⟩:=hok
 have hb0:Below w.heap.size w (w.alloc (.cells #[.string t,.slice A n c] 37)):=(Below.refl _ _).alloc (Nat.le_refl _) _
 have hs0:(w.alloc (.cells #[.string t,.slice A n c] 37)).heap.size=w.heap.size+1:=by simp
 have hbk:Blk (w.alloc (.cells #[.string t,.slice A n c] 37)) w.heap.size 37 #[.string t,.slice A n c]:=Blk.new w _ _
 have hfind:=fun (s:ByteArray) (W:World) (hb:Below w.heap.size w W) => f_Find t s (.slice A n c) L S W (hv.keep fun b hB => hb.block b (hS b hB)) (fun b hB => Nat.lt_of_lt_of_le (hS b hB) hb.size) hl
 have HB0:=Lib.hid hb0
 have HBK:=Lib.hid hbk
 have HC:=Lib.hid hc
 have HN:=Lib.hid hn
 have HS:=Lib.hid hS
 have HFO:=Lib.hid hfo
 have HFI:=Lib.hid hfind
 have hn1:n ≤ 1000000:=by omega
 clear hc hn hS hl hb0 hbk hfo hfind hv
 by_cases h1:t.size ≤ 256
 ·have z1:¬ (256:Int) < (t.size:Int):=by omega
  by_cases h2:n ≤ 32
  ·have z2:¬ (32:Int) < (n:Int):=by omega
   go_enter Tryz.func40,Tryz.ntmps40
   go_wp2_with fail
   obtain ⟨w0,hw0⟩:∃ w0,w.alloc (.cells #[.string t,.slice A n c] 37)=w0:=⟨_,rfl⟩
   rw [hw0] at HB0 HBK hs0 ⊢
   clear hw0
   go_loopw [20] (fun v20 wr => ∃ k:Nat,k ≤ n ∧ v20=.int .i64 (k:Int) ∧ valK L k ∧ Below w0.heap.size w0 wr) (fun v20 _ => n - (intOf v20).toNat)
   case atStart => exact ⟨0,by omega,rfl,fun i hi => absurd hi (Nat.not_lt_zero _),Below.refl _ _⟩
   case round =>
    obtain ⟨k,hk,rfl,hg,hbr⟩:=hrel
    have HG:=Lib.hid hg
    have HBR:=Lib.hid hbr
    have hszr:=hbr.size
    clear hg hbr
    by_cases hlt:k < n
    ·obtain ⟨b,off,rfl,hSb,hcell⟩:=HC.out (by omega)
     have hbw:=HS.out b hSb
     have hf:=hcell k hlt
     have hbl:Below w.heap.size w wr:=HB0.out.trans (HBR.out.mono (by omega))
     have hkl:k < L.length:=by have:=HN.out; omega
     have hfok:=HFO.out k hkl
     have hself:=fstF_self hkl
     have hnot:∀ h,validB t L=false:=fun (h:¬ (fldB (fldAt L k)=true ∧ ∀ j,j < k → (fldAt L j).name ≠ (fldAt L k).name)) => validB_not hkl h
     have hstep:=valK_step HG.out
     obtain ⟨f,hfe⟩:∃ f,fldAt L k=f:=⟨_,rfl⟩
     rw [hfe] at hf hfok hself hnot hstep
     obtain ⟨nm,kd,nd,le,mo,op⟩:=f
     obtain ⟨c0,c1,c2,c3,c4,u,c5,hu⟩:=hf
     have hue:=hu
     obtain ⟨Au,nu,cu,rfl,-⟩:=hu
     have e0:wr.cell? ⟨b,off+k*6,none⟩=_:=(hbl.cell (p:=⟨b,off+k*6,none⟩) hbw).trans c0
     have e1:wr.cell? ⟨b,off+k*6+1,none⟩=_:=(hbl.cell (p:=⟨b,off+k*6+1,none⟩) hbw).trans c1
     have e2:wr.cell? ⟨b,off+k*6+2,none⟩=_:=(hbl.cell (p:=⟨b,off+k*6+2,none⟩) hbw).trans c2
     have e3:wr.cell? ⟨b,off+k*6+3,none⟩=_:=(hbl.cell (p:=⟨b,off+k*6+3,none⟩) hbw).trans c3
     have e4:wr.cell? ⟨b,off+k*6+4,none⟩=_:=(hbl.cell (p:=⟨b,off+k*6+4,none⟩) hbw).trans c4
     have e5:wr.cell? ⟨b,off+k*6+5,none⟩=_:=(hbl.cell (p:=⟨b,off+k*6+5,none⟩) hbw).trans c5
     have hbx:=Blk.new wr 58 #[.string nm,.int .i64 kd,.bool nd,.int .i64 le,.int .i64 mo,.slice Au nu cu]
     have hbxb:Below w0.heap.size w0 (wr.alloc (.cells #[.string nm,.int .i64 kd,.bool nd,.int .i64 le,.int .i64 mo,.slice Au nu cu] 58)):=HBR.out.alloc hszr _
     have hf1:=HBK.out.below' hbxb (by omega)
     have f0:=(hf1.cell 0).trans (show _=some (Value.string t) from rfl)
     have f1:=(hf1.cell 1).trans (show _=some (Value.slice (some ⟨b,off,none⟩) n c) from rfl)
     have hbxw:Below w.heap.size w (wr.alloc (.cells #[.string nm,.int .i64 kd,.bool nd,.int .i64 le,.int .i64 mo,.slice Au nu cu] 58)):=hbl.alloc (by omega) _
     have hrt:=fun (W:World) (hb:Below w.heap.size w W) => f_right nm kd nd le mo op (.slice Au nu cu) S W (hue.keep fun b hB => hb.block b (HS.out b hB)) (fun b hB => Nat.lt_of_lt_of_le (HS.out b hB) hb.size) hfok
     have HRT:=Lib.hid hrt
     have HBX:=Lib.hid hbx
     have HBXB:=Lib.hid hbxb
     have HBXW:=Lib.hid hbxw
     have HNOT:=Lib.hid hnot
     have HSTEP:=Lib.hid hstep
     have HFE:=Lib.hid hfe
     have HKL:=Lib.hid hkl
     clear hcell hfok hnot hstep hfe c0 c1 c2 c3 c4 c5 hbx hbxb hbxw hrt hue hbl hf1 hkl
     have zi:(k:Int) < (n:Int):=by omega
     have z0:(0:Int) ≤ (k:Int):=by omega
     simp only at hself
     rcases hself with ⟨hfs,hdis⟩ | ⟨i,hik,hfs⟩
     ·have HDIS:=Lib.hid hdis
      have HFS:=Lib.hid hfs
      clear hdis hfs
      go_wp2_with fail
      refine (HFI.out nm _ HBXW.out).mono ?_
      rintro e w1 ⟨he,hb1⟩
      rw [HFS.out] at he
      obtain rfl:e=.returned (.tuple #[.int .i64 (k:Int),.bool true]):=he
      have hbk1:=HBX.out.below' hb1 (by simp)
      have g0:=(hbk1.cell 0).trans (show _=some (Value.string nm) from rfl)
      have g1:=(hbk1.cell 1).trans (show _=some (Value.int .i64 kd) from rfl)
      have g2:=(hbk1.cell 2).trans (show _=some (Value.bool nd) from rfl)
      have g3:=(hbk1.cell 3).trans (show _=some (Value.int .i64 le) from rfl)
      have g4:=(hbk1.cell 4).trans (show _=some (Value.int .i64 mo) from rfl)
      have g5:=(hbk1.cell 5).trans (show _=some (Value.slice Au nu cu) from rfl)
      have hbw1:=HBXW.out.trans (hb1.mono HBXW.out.size)
      have HBW1:=Lib.hid hbw1
      have HBO1:=Lib.hid (HBXB.out.trans (hb1.mono HBXB.out.size))
      have hkk:((k:Int) == (k:Int))=true:=by simp
      clear hb1 hbk1 hbw1
      cases hr:fldB ⟨nm,kd,nd,le,mo,op⟩ with
      | true =>
       have hst:=HSTEP.out hr HDIS.out
       have HST:=Lib.hid hst
       have HR:=Lib.hid hr
       clear hst hr
       go_wp2_with fail
       refine (HRT.out _ HBW1.out).mono ?_
       rw [HR.out]
       rintro e w2 ⟨rfl,hb2⟩
       have HBO2:=Lib.hid (HBO1.out.trans (hb2.mono HBO1.out.size))
       clear hb2
       go_wp2_with fail
       go_roundw
       case measure => simp [intOf]; omega
       case rel => exact ⟨k+1,by omega,by go_num,HST.out,HBO2.out⟩
      | false =>
       have hno:=HNOT.out (fun h => by rw [hr] at h; cases h.1)
       have HNO:=Lib.hid hno
       have HR:=Lib.hid hr
       clear hno hr
       go_wp2_with fail
       refine (HRT.out _ HBW1.out).mono ?_
       rw [HR.out]
       rintro e w2 ⟨rfl,hb2⟩
       have HBW2:=Lib.hid (HBW1.out.trans (hb2.mono HBW1.out.size))
       clear hb2
       go_wp2_with fail
       go_ret
       exact ⟨by rw [HNO.out]; rfl,HBW2.out⟩
     ·have hno:=HNOT.out (fun h => by
       have:=fstF_hit (L:=L) (s:=nm) (k:=k) HKL.out (by rw [HFE.out]) h.2
       rw [hfs] at this
       injection this with this
       omega)
      have HNO:=Lib.hid hno
      have HFS:=Lib.hid hfs
      clear hno hfs
      go_wp2_with fail
      refine (HFI.out nm _ HBXW.out).mono ?_
      rintro e w1 ⟨he,hb1⟩
      rw [HFS.out] at he
      obtain rfl:e=.returned (.tuple #[.int .i64 (i:Int),.bool true]):=he
      have HBW1:=Lib.hid (HBXW.out.trans (hb1.mono HBXW.out.size))
      have hki:((i:Int) == (k:Int))=false:=by simp; omega
      clear hb1
      go_wp2_with fail
      go_ret
      exact ⟨by rw [HNO.out]; rfl,HBW1.out⟩
    ·have zi:¬ (k:Int) < (n:Int):=by omega
     have he:validB t L=true:=by
      have h3:=HG.out
      rw [show k=L.length by have:=HN.out; omega] at h3
      rw [validB_end h3]
      exact decide_eq_true ⟨h1,by have:=HN.out; omega⟩
     have HE:=Lib.hid he
     have HBW1:=Lib.hid (HB0.out.trans (HBR.out.mono (by omega)))
     clear he
     go_wp2_with fail
     go_ret
     exact ⟨by rw [HE.out]; rfl,HBW1.out⟩
  ·have z2:(32:Int) < (n:Int):=by omega
   have he:validB t L=false:=decide_eq_false fun h => h2 (by have:=HN.out; omega)
   have HE:=Lib.hid he
   clear he
   go_enter Tryz.func40,Tryz.ntmps40
   go_wp2_with fail
   go_ret
   exact ⟨by rw [HE.out]; rfl,HB0.out⟩
 ·have z1:(256:Int) < (t.size:Int):=by omega
  have he:validB t L=false:=decide_eq_false fun h => h1 h.1
  have HE:=Lib.hid he
  clear he
  go_enter Tryz.func40,Tryz.ntmps40
  go_wp2_with fail
  go_ret
  exact ⟨by rw [HE.out]; rfl,HB0.out⟩
def DecE (l : List UInt8) (w : World) (e : Ending) (w' : World) : Prop := ∃ (n : Int) (b : Bool),e = .returned (.tuple #[.int .i64 n,.bool b]) ∧ b = (decV l).isSome ∧ (∀ v,decV l = some v → n = v) ∧ In64' n ∧ Below w.heap.size w w'
theorem dec_no_neg {r : List UInt8} (h : r.length < 1 ∨ 19 < r.length ∨ digV 0 r = none) : decV (45 :: r) = none := by
 cases hd:decV (45 :: r) with
 | none => rfl
 | some v =>
  rcases decV_ref hd with ⟨-,r',e,h1,h2,h3⟩ | ⟨-,h1,-⟩
  ·injection e with _ e
   subst e
   rcases h with h | h | h
   ·omega
   ·omega
   ·rw [h] at h3; cases h3
  ·exact absurd rfl h1
theorem dec_no_pos {l : List UInt8} (hh : l.head? ≠ some 45) (h : l.length < 1 ∨ 19 < l.length ∨ digV 0 l = none) : decV l = none := by
 cases hd:decV l with
 | none => rfl
 | some v =>
  rcases decV_ref hd with ⟨-,r',e,-⟩ | ⟨-,-,h1,h2,h3⟩
  ·rw [e] at hh; exact absurd rfl hh
  ·rcases h with h | h | h
   ·omega
   ·omega
   ·rw [h] at h3; cases h3
theorem dec_neg {r : List UInt8} {u : Nat} {v : Int} (hd : digV 0 r = some u) (h : decV (45 :: r) = some v) : v = -(u : Int) := by
 rcases decV_ref h with ⟨h0,r',e,h1,h2,h3⟩ | ⟨-,h1,-⟩
 ·injection e with _ e
  subst e
  rw [hd] at h3
  injection h3 with h3
  omega
 ·exact absurd rfl h1
theorem dec_pos {l : List UInt8} {u : Nat} {v : Int} (hh : l.head? ≠ some 45) (hd : digV 0 l = some u) (h : decV l = some v) : v = (u : Int) := by
 rcases decV_ref h with ⟨-,r',e,-⟩ | ⟨h0,-,h1,h2,h3⟩
 ·rw [e] at hh; exact absurd rfl hh
 ·rw [hd] at h3
  injection h3 with h3
  omega
theorem dec_fin {l : List UInt8} {n : Int} (hn : I64 n) (hv : ∀ v,decV l = some v → n = v) : (Lib.itoa n == l) = (decV l).isSome := by
 cases hd:decV l with
 | none =>
  have hf:(Lib.itoa n == l)=false:=Bool.eq_false_iff.2 (fun h => by
   have e:=eq_of_beq h
   rw [decV_some hn e] at hd
   cases hd)
  rw [hf]; rfl
 | some v =>
  have e:=hv v hd
  subst e
  rw [(decV_spec hd).2]
  simp
theorem dig_head {acc : Nat} {c : UInt8} {r : List UInt8} (h : ¬ (48 ≤ c.toNat ∧ c.toNat ≤ 57)) : digV acc (c :: r) = none := by
 unfold digV; rw [if_neg h]
theorem dig_step {acc : Nat} {c : UInt8} {r : List UInt8} (h : 48 ≤ c.toNat ∧ c.toNat ≤ 57) : digV acc (c :: r) = digV (10 * acc + (c.toNat - 48)) r := by
 conv => lhs; unfold digV
 rw [if_pos h]
theorem pow_le19 {k : Nat} (h : k ≤ 18) : 10 ^ k ≤ 1000000000000000000 := Nat.le_trans (Nat.pow_le_pow_right (by decide) h) (by decide)
theorem pow_le20 {k : Nat} (h : k ≤ 19) : 10 ^ k ≤ 10000000000000000000 := Nat.le_trans (Nat.pow_le_pow_right (by decide) h) (by decide)
theorem i64_wrap_in (z : Int) : -9223372036854775808 ≤ IntKind.i64.wrap z ∧ IntKind.i64.wrap z ≤ 9223372036854775807 := by
 rw [IntKind.wrap_i64]; omega
theorem data_toList (s : ByteArray) : s.toList = s.data.toList := by rw [ByteArray.toList_eq]
theorem head_bytes {s : ByteArray} (h : 0 < s.size) : s.data.toList = s[0] :: (s.extract 1 s.size).data.toList := by
 obtain ⟨d⟩:=s
 obtain ⟨l⟩:=d
 cases l with
 | nil => exact absurd h (by simp [ByteArray.size])
 | cons a l =>
  rw [Lib.extract_data]
  show a :: l=_ :: ((a :: l).drop 1).take _
  congr 1
  simp [ByteArray.size]
set_option maxRecDepth 100000 in
set_option maxHeartbeats 4000000 in
theorem r_dec_neg (s : ByteArray) (w : World) (ht : TabOk w) (hs : s.size ≤ 1000) (h0 : 0 < s.size) (hc : s[0] = 45) :
  Calls Tryz.prog 45 #[.string s] w (DecE s.data.toList w):=by
 have hh:=head_bytes h0
 obtain ⟨x,hx⟩:∃ x,s.extract 1 s.size=x:=⟨_,rfl⟩
 have hxs:x.size=s.size - 1:=by rw [← hx,ByteArray.size_extract]; omega
 rw [hc,hx] at hh
 rw [hh]
 have hno:=fun h => dec_no_neg (r:=x.data.toList) h
 have hyes:=fun u v hd h => dec_neg (r:=x.data.toList) (u:=u) (v:=v) hd h
 have hxl:x.data.toList.length=x.size:=Array.length_toList
 rw [hxl] at hno
 have HNO:=Lib.hid hno
 have HYES:=Lib.hid hyes
 have HXL:=Lib.hid hxl
 have HT:=Lib.hid ht
 have HHH:=Lib.hid hh
 have z1:(0:Int) < (s.size:Int):=by omega
 have zs:(s.size:Int) - 1=(x.size:Int):=by omega
 have HXS:=Lib.hid hxs
 clear hh hno hyes hxl ht hxs 
 by_cases y1:x.size < 1
 ·have hn:=HNO.out (.inl y1)
  have HN:=Lib.hid hn
  have y1':(x.size:Int) < 1:=by omega
  clear hn
  go_enter Tryz.func45,Tryz.ntmps45
  go_wp2_with fail
  go_ret2
  exact ⟨0,false,rfl,by rw [HN.out]; rfl,(fun v hv => by rw [HN.out] at hv; cases hv),by decide,Below.refl _ _⟩
 by_cases y2:19 < x.size
 ·have hn:=HNO.out (.inr (.inl y2))
  have HN:=Lib.hid hn
  have y1':¬ (x.size:Int) < 1:=by omega
  have y2':(19:Int) < (x.size:Int):=by omega
  clear hn
  go_enter Tryz.func45,Tryz.ntmps45
  go_wp2_with fail
  go_ret2
  exact ⟨0,false,rfl,by rw [HN.out]; rfl,(fun v hv => by rw [HN.out] at hv; cases hv),by decide,Below.refl _ _⟩
 have y1':¬ (x.size:Int) < 1:=by omega
 have y2':¬ (19:Int) < (x.size:Int):=by omega
 have hcv:=fun (W:World) => Lib.run_convert_string_bytes (P:=Tryz.prog) W 9 105 5 x Tryz.underlying9 Tryz.underlying105 Tryz.underlying5
 have hcell:=fun j hj => Lib.bytesWorld_cell w 5 x j hj
 have hbel:=below_bytes w x 5
 have HTB:=Lib.hid (tab_below HT.out (tab_lt HT.out) hbel)
 have HC:=Lib.hid hcell
 have HB:=Lib.hid hbel
 clear hcell hbel
 go_enter Tryz.func45,Tryz.ntmps45
 go_wp2_with fail
 generalize Lib.bytesWorld w 5 x=w1 at HTB HC HB ⊢
 go_loop [4,7,34] (fun u4 _ i => ∃ k u:Nat,k ≤ x.size ∧ i=.int .i64 (k:Int) ∧ u4=.int .u64 (u:Int) ∧ u < 10 ^ k ∧ digV 0 x.data.toList=digV u (x.data.toList.drop k)) (fun _ _ i => x.size - (intOf i).toNat)
 case atStart => exact ⟨0,0,by omega,rfl,rfl,by decide,rfl⟩
 case round =>
  obtain ⟨k,u,hk,rfl,rfl,hu,he⟩:=hrel
  have HU:=Lib.hid hu
  have HE:=Lib.hid he
  clear hu he
  by_cases hlt:k < x.size
  ·have hcc:=HC.out k hlt
   have hkl:k < x.data.toList.length:=by rw [HXL.out]; exact hlt
   have hd:x.data.toList.drop k=x.data.toList[k] :: x.data.toList.drop (k+1):=List.drop_eq_getElem_cons hkl
   rw [List.getD_eq_getElem?_getD,List.getElem?_eq_getElem hkl] at hcc
   have hcc':w1.cell? ⟨w.heap.size,k,none⟩=some (.int .u8 (x.data.toList[k].toNat:Int)):=hcc
   obtain ⟨c,hce⟩:∃ c,x.data.toList[k]=c:=⟨_,rfl⟩
   rw [hce] at hcc' hd
   have HD:=Lib.hid hd
   have hul:u < 1000000000000000000:=Nat.lt_of_lt_of_le HU.out (pow_le19 (by omega))
   have zi:(k:Int) < (x.size:Int):=by omega
   have z0:(0:Int) ≤ (k:Int):=by omega
   have hcb:=c.toNat_lt
   clear hce hcc hd hkl
   by_cases hg:48 ≤ c.toNat
   ·by_cases hg2:c.toNat ≤ 57
    ·have hst:=HE.out.trans ((congrArg (digV u) HD.out).trans (dig_step ⟨hg,hg2⟩))
     have hn:10*u+(c.toNat - 48) < 10 ^ (k+1):=by have:=HU.out; rw [Nat.pow_succ]; omega
     have HST:=Lib.hid hst
     have HN:=Lib.hid hn
     obtain ⟨d,hdc⟩:∃ d:Nat,c.toNat - 48=d:=⟨_,rfl⟩
     have hd9:d ≤ 9:=by omega
     have q1:(c.toNat:Int) - 48=(d:Int):=by omega
     have q2:IntKind.u8.wrap (d:Int)=(d:Int):=by rw [IntKind.wrap_u8]; omega
     have q2':IntKind.u8.wrap ((c.toNat:Int) - 48)=(d:Int):=by rw [q1]; exact q2
     have q3:IntKind.u64.wrap (d:Int)=(d:Int):=by rw [IntKind.wrap_u64]; omega
     have q4:IntKind.u64.wrap (10*(u:Int))=10*(u:Int):=by rw [IntKind.wrap_u64]; omega
     have q5:IntKind.u64.wrap (10*(u:Int)+(d:Int))=10*(u:Int)+(d:Int):=by rw [IntKind.wrap_u64]; omega
     have l1:¬ (c.toNat:Int) < 48:=by omega
     have l2:¬ (57:Int) < (c.toNat:Int):=by omega
     have HDC:=Lib.hid hdc
     clear hst hn hdc hg hg2
     go_wp2_with fail
     go_round
     case rel => exact ⟨k+1,10*u+(c.toNat - 48),by omega,by go_num,by rw [HDC.out]; simp,HN.out,HST.out⟩
     case measure => simp [intOf]; omega
    ·have hno:=HNO.out (.inr (.inr (HE.out.trans ((congrArg (digV u) HD.out).trans (dig_head (by omega))))))
     have HN:=Lib.hid hno
     have l1:¬ (c.toNat:Int) < 48:=by omega
     have l2:(57:Int) < (c.toNat:Int):=by omega
     clear hno
     go_wp2_with fail
     go_ret2
     exact ⟨0,false,rfl,by rw [HN.out]; rfl,(fun v hv => by rw [HN.out] at hv; cases hv),by decide,HB.out⟩
   ·have hno:=HNO.out (.inr (.inr (HE.out.trans ((congrArg (digV u) HD.out).trans (dig_head (by omega))))))
    have HN:=Lib.hid hno
    have l1:(c.toNat:Int) < 48:=by omega
    clear hno
    go_wp2_with fail
    go_ret2
    exact ⟨0,false,rfl,by rw [HN.out]; rfl,(fun v hv => by rw [HN.out] at hv; cases hv),by decide,HB.out⟩
  ·have zi:¬ (k:Int) < (x.size:Int):=by omega
   have hdv:digV 0 x.data.toList=some u:=by
    rw [HE.out,List.drop_of_length_le (by rw [HXL.out]; omega)]; rfl
   have hul:u < 10000000000000000000:=Nat.lt_of_lt_of_le HU.out (pow_le20 (by omega))
   obtain ⟨n0,hn0⟩:∃ n0,IntKind.i64.wrap (u:Int)=n0:=⟨_,rfl⟩
   obtain ⟨z,hz⟩:∃ z,IntKind.u64.wrap (-(u:Int))=z:=⟨_,rfl⟩
   obtain ⟨n1,hn1⟩:∃ n1,IntKind.i64.wrap z=n1:=⟨_,rfl⟩
   have hin:I64 n1:=by rw [← hn1]; exact i64_wrap_in z
   have hval:∀ v,decV (45 :: x.data.toList)=some v → n1=v:=fun v hv => by
    have e:=HYES.out u v hdv hv
    have hi:=(decV_spec hv).1
    unfold I64 at hi
    rw [← hn1,← hz,IntKind.wrap_u64,IntKind.wrap_i64,e]
    omega
   have hfin:=dec_fin hin hval
   have HIN:=Lib.hid hin
   have HVAL:=Lib.hid hval
   have HFIN:=Lib.hid hfin
   clear hin hval hfin hdv
   go_wp2_with fail
   refine (i_Itoa n1 _ HTB.out HIN.out.1 HIN.out.2).mono ?_
   rintro e w2 ⟨rfl,hb2⟩
   have HB2:=Lib.hid (HB.out.trans (hb2.mono HB.out.size))
   have hbo:(bsOf (Lib.itoa n1)).toList=Lib.itoa n1:=by rw [data_toList]; rfl
   have hso:s.toList=(45 :: x.data.toList):=by rw [data_toList]; exact HHH.out
   have HQ:=Lib.hid (show ((bsOf (Lib.itoa n1)).toList == s.toList)=(decV (45 :: x.data.toList)).isSome by rw [hbo,hso]; exact HFIN.out)
   clear hb2 hbo hso
   go_wp2_with fail
   go_ret2
   exact ⟨n1,_,rfl,HQ.out,HVAL.out,by have:=HIN.out; unfold I64 at this; exact ⟨this.1,by omega⟩,HB2.out⟩
set_option maxRecDepth 100000 in
set_option maxHeartbeats 4000000 in
theorem r_dec_pos (s : ByteArray) (w : World) (ht : TabOk w) (hs : s.size ≤ 1000) (h0 : 0 < s.size) (hc : s[0] ≠ 45) :
  Calls Tryz.prog 45 #[.string s] w (DecE s.data.toList w):=by
 have hh:=head_bytes h0
 obtain ⟨x,hx⟩:∃ x,s.extract 0 s.size=x:=⟨_,rfl⟩
 have hxe:x=s:=by rw [← hx]; apply ByteArray.ext; apply Array.toList_inj.1; rw [Lib.extract_data,List.drop_zero,List.take_of_length_le (by rw [Array.length_toList]; exact Nat.le_refl _)]
 have hxs:x.size=s.size:=by rw [hxe]
 have hhd:x.data.toList.head? ≠ some 45:=by
  rw [hxe,hh]
  intro h
  injection h with h
  exact hc h
 obtain ⟨c0,hc0⟩:∃ c0,s[0]=c0:=⟨_,rfl⟩
 rw [hc0] at hc
 have hcn:((c0.toNat:Int) == 45)=false:=by
  rw [beq_eq_false_iff_ne]
  intro h
  exact hc (UInt8.toNat_inj.1 (by show c0.toNat=45; omega))
 rw [show s.data.toList=x.data.toList by rw [hxe]]
 have hno:=fun h => dec_no_pos (l:=x.data.toList) hhd h
 have hyes:=fun u v hd h => dec_pos (l:=x.data.toList) (u:=u) (v:=v) hhd hd h
 have hxl:x.data.toList.length=x.size:=Array.length_toList
 rw [hxl] at hno
 have HNO:=Lib.hid hno
 have HYES:=Lib.hid hyes
 have HXL:=Lib.hid hxl
 have HT:=Lib.hid ht
 have HHH:=Lib.hid hxe
 have z1:(0:Int) < (s.size:Int):=by omega
 have zs:(s.size:Int) - 0=(x.size:Int):=by omega
 have HXS:=Lib.hid hxs
 clear hh hno hyes hxl ht hxs hxe hc hhd
 by_cases y1:x.size < 1
 ·have hn:=HNO.out (.inl y1)
  have HN:=Lib.hid hn
  have y1':(x.size:Int) < 1:=by omega
  clear hn
  go_enter Tryz.func45,Tryz.ntmps45
  go_wp2_with fail
  go_ret2
  exact ⟨0,false,rfl,by rw [HN.out]; rfl,(fun v hv => by rw [HN.out] at hv; cases hv),by decide,Below.refl _ _⟩
 by_cases y2:19 < x.size
 ·have hn:=HNO.out (.inr (.inl y2))
  have HN:=Lib.hid hn
  have y1':¬ (x.size:Int) < 1:=by omega
  have y2':(19:Int) < (x.size:Int):=by omega
  clear hn
  go_enter Tryz.func45,Tryz.ntmps45
  go_wp2_with fail
  go_ret2
  exact ⟨0,false,rfl,by rw [HN.out]; rfl,(fun v hv => by rw [HN.out] at hv; cases hv),by decide,Below.refl _ _⟩
 have y1':¬ (x.size:Int) < 1:=by omega
 have y2':¬ (19:Int) < (x.size:Int):=by omega
 have hcv:=fun (W:World) => Lib.run_convert_string_bytes (P:=Tryz.prog) W 9 105 5 x Tryz.underlying9 Tryz.underlying105 Tryz.underlying5
 have hcell:=fun j hj => Lib.bytesWorld_cell w 5 x j hj
 have hbel:=below_bytes w x 5
 have HTB:=Lib.hid (tab_below HT.out (tab_lt HT.out) hbel)
 have HC:=Lib.hid hcell
 have HB:=Lib.hid hbel
 clear hcell hbel
 go_enter Tryz.func45,Tryz.ntmps45
 go_wp2_with fail
 generalize Lib.bytesWorld w 5 x=w1 at HTB HC HB ⊢
 go_loop [4,7,34] (fun u4 _ i => ∃ k u:Nat,k ≤ x.size ∧ i=.int .i64 (k:Int) ∧ u4=.int .u64 (u:Int) ∧ u < 10 ^ k ∧ digV 0 x.data.toList=digV u (x.data.toList.drop k)) (fun _ _ i => x.size - (intOf i).toNat)
 case atStart => exact ⟨0,0,by omega,rfl,rfl,by decide,rfl⟩
 case round =>
  obtain ⟨k,u,hk,rfl,rfl,hu,he⟩:=hrel
  have HU:=Lib.hid hu
  have HE:=Lib.hid he
  clear hu he
  by_cases hlt:k < x.size
  ·have hcc:=HC.out k hlt
   have hkl:k < x.data.toList.length:=by rw [HXL.out]; exact hlt
   have hd:x.data.toList.drop k=x.data.toList[k] :: x.data.toList.drop (k+1):=List.drop_eq_getElem_cons hkl
   rw [List.getD_eq_getElem?_getD,List.getElem?_eq_getElem hkl] at hcc
   have hcc':w1.cell? ⟨w.heap.size,k,none⟩=some (.int .u8 (x.data.toList[k].toNat:Int)):=hcc
   obtain ⟨c,hce⟩:∃ c,x.data.toList[k]=c:=⟨_,rfl⟩
   rw [hce] at hcc' hd
   have HD:=Lib.hid hd
   have hul:u < 1000000000000000000:=Nat.lt_of_lt_of_le HU.out (pow_le19 (by omega))
   have zi:(k:Int) < (x.size:Int):=by omega
   have z0:(0:Int) ≤ (k:Int):=by omega
   have hcb:=c.toNat_lt
   clear hce hcc hd hkl
   by_cases hg:48 ≤ c.toNat
   ·by_cases hg2:c.toNat ≤ 57
    ·have hst:=HE.out.trans ((congrArg (digV u) HD.out).trans (dig_step ⟨hg,hg2⟩))
     have hn:10*u+(c.toNat - 48) < 10 ^ (k+1):=by have:=HU.out; rw [Nat.pow_succ]; omega
     have HST:=Lib.hid hst
     have HN:=Lib.hid hn
     obtain ⟨d,hdc⟩:∃ d:Nat,c.toNat - 48=d:=⟨_,rfl⟩
     have hd9:d ≤ 9:=by omega
     have q1:(c.toNat:Int) - 48=(d:Int):=by omega
     have q2:IntKind.u8.wrap (d:Int)=(d:Int):=by rw [IntKind.wrap_u8]; omega
     have q2':IntKind.u8.wrap ((c.toNat:Int) - 48)=(d:Int):=by rw [q1]; exact q2
     have q3:IntKind.u64.wrap (d:Int)=(d:Int):=by rw [IntKind.wrap_u64]; omega
     have q4:IntKind.u64.wrap (10*(u:Int))=10*(u:Int):=by rw [IntKind.wrap_u64]; omega
     have q5:IntKind.u64.wrap (10*(u:Int)+(d:Int))=10*(u:Int)+(d:Int):=by rw [IntKind.wrap_u64]; omega
     have l1:¬ (c.toNat:Int) < 48:=by omega
     have l2:¬ (57:Int) < (c.toNat:Int):=by omega
     have HDC:=Lib.hid hdc
     clear hst hn hdc hg hg2
     go_wp2_with fail
     go_round
     case rel => exact ⟨k+1,10*u+(c.toNat - 48),by omega,by go_num,by rw [HDC.out]; simp,HN.out,HST.out⟩
     case measure => simp [intOf]; omega
    ·have hno:=HNO.out (.inr (.inr (HE.out.trans ((congrArg (digV u) HD.out).trans (dig_head (by omega))))))
     have HN:=Lib.hid hno
     have l1:¬ (c.toNat:Int) < 48:=by omega
     have l2:(57:Int) < (c.toNat:Int):=by omega
     clear hno
     go_wp2_with fail
     go_ret2
     exact ⟨0,false,rfl,by rw [HN.out]; rfl,(fun v hv => by rw [HN.out] at hv; cases hv),by decide,HB.out⟩
   ·have hno:=HNO.out (.inr (.inr (HE.out.trans ((congrArg (digV u) HD.out).trans (dig_head (by omega))))))
    have HN:=Lib.hid hno
    have l1:(c.toNat:Int) < 48:=by omega
    clear hno
    go_wp2_with fail
    go_ret2
    exact ⟨0,false,rfl,by rw [HN.out]; rfl,(fun v hv => by rw [HN.out] at hv; cases hv),by decide,HB.out⟩
  ·have zi:¬ (k:Int) < (x.size:Int):=by omega
   have hdv:digV 0 x.data.toList=some u:=by
    rw [HE.out,List.drop_of_length_le (by rw [HXL.out]; omega)]; rfl
   have hul:u < 10000000000000000000:=Nat.lt_of_lt_of_le HU.out (pow_le20 (by omega))
   obtain ⟨n0,hn0⟩:∃ n0,IntKind.i64.wrap (u:Int)=n0:=⟨_,rfl⟩
   obtain ⟨n1,hn1⟩:∃ n1,n0=n1:=⟨_,rfl⟩
   subst hn1
   have hin:I64 n0:=by rw [← hn0]; exact i64_wrap_in _
   have hval:∀ v,decV x.data.toList=some v → n0=v:=fun v hv => by
    have e:=HYES.out u v hdv hv
    have hi:=(decV_spec hv).1
    unfold I64 at hi
    rw [← hn0,IntKind.wrap_i64,e]
    omega
   have hfin:=dec_fin hin hval
   have HIN:=Lib.hid hin
   have HVAL:=Lib.hid hval
   have HFIN:=Lib.hid hfin
   clear hin hval hfin hdv
   go_wp2_with fail
   refine (i_Itoa n0 _ HTB.out HIN.out.1 HIN.out.2).mono ?_
   rintro e w2 ⟨rfl,hb2⟩
   have HB2:=Lib.hid (HB.out.trans (hb2.mono HB.out.size))
   have hbo:(bsOf (Lib.itoa n0)).toList=Lib.itoa n0:=by rw [data_toList]; rfl
   have hso:s.toList=x.data.toList:=by rw [data_toList]; rw [HHH.out]
   have HQ:=Lib.hid (show ((bsOf (Lib.itoa n0)).toList == s.toList)=(decV x.data.toList).isSome by rw [hbo,hso]; exact HFIN.out)
   clear hb2 hbo hso
   go_wp2_with fail
   go_ret2
   exact ⟨n0,_,rfl,HQ.out,HVAL.out,by have:=HIN.out; unfold I64 at this; exact ⟨this.1,by omega⟩,HB2.out⟩
theorem r_decimal (s : ByteArray) (w : World) (ht : TabOk w) (hs : s.size ≤ 1000) :
  Calls Tryz.prog 45 #[.string s] w (DecE s.data.toList w):=by
 by_cases h0:0 < s.size
 ·by_cases hc:s[0]=45
  ·exact r_dec_neg s w ht hs h0 hc
  ·exact r_dec_pos s w ht hs h0 hc
 ·have hz:s.size=0:=by omega
  have hl:s.data.toList = []:=List.eq_nil_of_length_eq_zero (Array.length_toList.trans hz)
  have hn:decV s.data.toList=none:=by rw [hl]; exact dec_no_pos (by simp) (.inl (by decide))
  have HN:=Lib.hid hn
  have z1:¬ (0:Int) < (s.size:Int):=by omega
  have z2:(s.size:Int) < 1:=by omega
  clear hn hl hz
  go_enter Tryz.func45,Tryz.ntmps45
  go_wp2_with fail
  go_ret2
  exact ⟨0,false,rfl,by rw [HN.out]; rfl,(fun v hv => by rw [HN.out] at hv; cases hv),by decide,Below.refl _ _⟩
end Go.Proofs.YtgdngfdeeadlnaaGreatDoor

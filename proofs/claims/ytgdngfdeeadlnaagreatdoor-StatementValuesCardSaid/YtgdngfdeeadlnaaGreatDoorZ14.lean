/- Contracts: fields are found by their names, by the program and by the reference. And more. -/
import Derived.Test.YtgdngfdeeadlnaaGreatDoorZ13
import Derived.Test.YtgdngfdeeadlnaaGreatDoorZ11
import Derived.Test.YtgdngfdeeadlnaaGreatDoorZ09
set_option linter.unusedVariables false
set_option linter.unusedSimpArgs false
namespace Go.Proofs.YtgdngfdeeadlnaaGreatDoor
open Go.RowKit Num
def fstF (L : List Fld) (s : ByteArray) : Option Nat := (List.range L.length).find? fun k => decide ((fldAt L k).name = s)
theorem fstF_hit {L : List Fld} {s : ByteArray} {k : Nat} (hk : k < L.length) (h1 : (fldAt L k).name = s) (h2 : ∀ j,j < k → (fldAt L j).name ≠ s) : fstF L s = some k := by
 unfold fstF
 rw [List.find?_eq_some_iff_getElem]
 refine ⟨by simpa using h1,k,by simpa using hk,by simp,fun j hj => by simpa using h2 j hj⟩
theorem fstF_miss {L : List Fld} {s : ByteArray} (h : ∀ j,j < L.length → (fldAt L j).name ≠ s) : fstF L s = none := by
 unfold fstF
 rw [List.find?_eq_none]
 intro j hj
 simpa using h j (List.mem_range.1 hj)
def idxI : Option Nat → Int
 | some k => (k:Int)
 | none => -1
def FndE (L : List Fld) (s : ByteArray) (w : World) (e : Ending) (w' : World) : Prop := e = .returned (.tuple #[.int .i64 ((((fstF L s).getD 0 : Nat)) : Int),.bool (fstF L s).isSome]) ∧ Below w.heap.size w w'
theorem infoFd : (Tryz.prog.info? 58).map (fun i => (i.zero,i.size,i.bytes)) = some (some (.agg #[.string ⟨#[]⟩,.int .i64 0,.bool false,.int .i64 0,.int .i64 0,.slice none 0 0]),6,72) := by kernel_rfl
set_option maxRecDepth 100000 in
set_option maxHeartbeats 1000000 in
theorem f_sameN (nm s : ByteArray) (kd : Int) (nd : Bool) (le mo : Int) (A : Option Addr) (n c pb : Nat) (w : World) (hp : w.cell? ⟨pb,0,none⟩ = some (.string s)) (hpb : pb < w.heap.size) (b : Bool) (hb : (nm.toList == s.toList) = b) :
  Calls Tryz.prog 76 #[.agg #[.string nm,.int .i64 kd,.bool nd,.int .i64 le,.int .i64 mo,.slice A n c],.pointer (some ⟨pb,0,none⟩)] w (BoolBel b w):=by
 have hp2:(w.alloc (.cells #[.string nm,.int .i64 kd,.bool nd,.int .i64 le,.int .i64 mo,.slice A n c] 58)).cell? ⟨pb,0,none⟩=some (.string s):=(World.cell?_alloc_lt w _ ⟨pb,0,none⟩ hpb).trans hp
 cases b
 all_goals
  go_enter Tryz.func76,Tryz.ntmps76
  go_wp2_with fail
  go_ret
  exact ⟨rfl,(Below.refl _ _).alloc (Nat.le_refl _) _⟩
set_option maxRecDepth 100000 in
set_option maxHeartbeats 1000000 in
theorem s_IndexF (v : Value) (L : List Fld) (S : Nat → Prop) (s : ByteArray) (pb : Nat) (w : World) (hv : FldsAt w S v L) (hS : ∀ b,S b → b < w.heap.size) (hl : L.length ≤ 1000000) (hp : w.cell? ⟨pb,0,none⟩ = some (.string s)) (hpb : pb < w.heap.size) :
  Calls Tryz.prog 75 #[v,.func (.func 76) #[] #[.pointer (some ⟨pb,0,none⟩)]] w fun e w' => e=.returned (.int .i64 (idxI (fstF L s))) ∧ Below w.heap.size w w':=by
 obtain ⟨A,n,c,rfl,hn,hnc,hc⟩:=hv
 have HC:=Lib.hid hc
 have HN:=Lib.hid hn
 have HS:=Lib.hid hS
 have HP:=Lib.hid hp
 have hn1:n ≤ 1000000:=by omega
 clear hc hn hS hl hp
 go_enter Tryz.func75,Tryz.ntmps75
 go_wp2_with fail
 go_loopw [8] (fun v8 wr => ∃ k:Nat,k ≤ n ∧ v8=.int .i64 (k:Int) ∧ (∀ j,j < k → (fldAt L j).name ≠ s) ∧ Below w.heap.size w wr) (fun v8 _ => n - (intOf v8).toNat)
 case atStart => exact ⟨0,by omega,rfl,fun j hj => absurd hj (Nat.not_lt_zero _),Below.refl _ _⟩
 case round =>
  obtain ⟨k,hk,rfl,hne,hb⟩:=hrel
  have HNE:=Lib.hid hne
  have HB:=Lib.hid hb
  have hsz:=hb.size
  clear hne hb
  by_cases hlt:k < n
  ·obtain ⟨b,off,rfl,hSb,hcell⟩:=HC.out (by omega)
   have hbw:=HS.out b hSb
   have hf:=hcell k hlt
   have hhit:=fun h1 => fstF_hit (L:=L) (s:=s) (k:=k) (by have:=HN.out; omega) h1 HNE.out
   have hstep:(fldAt L k).name ≠ s → ∀ j,j < k+1 → (fldAt L j).name ≠ s:=fun h j hj => by
    by_cases e:j=k
    ·subst e; exact h
    ·exact HNE.out j (by omega)
   obtain ⟨f,hfe⟩:∃ f,fldAt L k=f:=⟨_,rfl⟩
   rw [hfe] at hf hhit hstep
   obtain ⟨nm,kd,nd,le,mo,op⟩:=f
   have HH:=Lib.hid hhit
   have HST:=Lib.hid hstep
   clear hhit hstep hfe hcell
   obtain ⟨c0,c1,c2,c3,c4,u,c5,hu⟩:=hf
   obtain ⟨Au,nu,cu,rfl,-⟩:=hu
   have e0:wr.cell? ⟨b,off+k*6,none⟩=_:=(HB.out.cell (p:=⟨b,off+k*6,none⟩) hbw).trans c0
   have e1:wr.cell? ⟨b,off+k*6+1,none⟩=_:=(HB.out.cell (p:=⟨b,off+k*6+1,none⟩) hbw).trans c1
   have e2:wr.cell? ⟨b,off+k*6+2,none⟩=_:=(HB.out.cell (p:=⟨b,off+k*6+2,none⟩) hbw).trans c2
   have e3:wr.cell? ⟨b,off+k*6+3,none⟩=_:=(HB.out.cell (p:=⟨b,off+k*6+3,none⟩) hbw).trans c3
   have e4:wr.cell? ⟨b,off+k*6+4,none⟩=_:=(HB.out.cell (p:=⟨b,off+k*6+4,none⟩) hbw).trans c4
   have e5:wr.cell? ⟨b,off+k*6+5,none⟩=_:=(HB.out.cell (p:=⟨b,off+k*6+5,none⟩) hbw).trans c5
   have hp':wr.cell? ⟨pb,0,none⟩=some (.string s):=(HB.out.cell (p:=⟨pb,0,none⟩) hpb).trans HP.out
   have HP':=Lib.hid hp'
   have zi:(k:Int) < (n:Int):=by omega
   have z0:(0:Int) ≤ (k:Int):=by omega
   clear c0 c1 c2 c3 c4 c5 hp'
   by_cases hs:nm=s
   ·have he:=HH.out hs
    have HE:=Lib.hid he
    have hq:(nm.toList == s.toList)=true:=seq_true hs
    have HQ:=Lib.hid hq
    clear he hs hq
    go_wp2_with fail
    refine (f_sameN nm s kd nd le mo Au nu cu pb _ HP'.out (by omega) true HQ.out).mono ?_
    rintro e w1 ⟨rfl,hb1⟩
    have HB1:=Lib.hid (HB.out.trans (hb1.mono (by omega)))
    clear hb1
    go_wp2_with fail
    go_ret
    exact ⟨by rw [HE.out]; rfl,HB1.out⟩
   ·have hst:=HST.out hs
    have HST2:=Lib.hid hst
    have hq:(nm.toList == s.toList)=false:=seq_false (fun h => hs (blOf_inj h))
    have HQ:=Lib.hid hq
    clear hst hs hq
    go_wp2_with fail
    refine (f_sameN nm s kd nd le mo Au nu cu pb _ HP'.out (by omega) false HQ.out).mono ?_
    rintro e w1 ⟨rfl,hb1⟩
    have HB1:=Lib.hid (HB.out.trans (hb1.mono (by omega)))
    clear hb1
    go_wp2_with fail
    go_roundw
    case measure => simp [intOf]; omega
    case rel => exact ⟨k+1,by omega,by go_num,HST2.out,HB1.out⟩
  ·have zi:¬ (k:Int) < (n:Int):=by omega
   have he:fstF L s=none:=fstF_miss fun j hj => HNE.out j (by have:=HN.out; omega)
   have HE:=Lib.hid he
   clear he
   go_wp2_with fail
   go_ret
   exact ⟨by rw [HE.out]; rfl,HB.out⟩
set_option maxRecDepth 100000 in
set_option maxHeartbeats 1000000 in
theorem f_Find (title s : ByteArray) (v : Value) (L : List Fld) (S : Nat → Prop) (w : World) (hv : FldsAt w S v L) (hS : ∀ b,S b → b < w.heap.size) (hl : L.length ≤ 1000000) :
  Calls Tryz.prog 41 #[.agg #[.string title,v],.string s] w (FndE L s w):=by
 obtain ⟨A,n,c,rfl,-⟩:=id hv
 have hb2:Below w.heap.size w ((w.alloc (.cells #[.string title,.slice A n c] 37)).alloc (.cells #[.string s] 9)):=((Below.refl _ _).alloc (Nat.le_refl _) _).alloc (by simp) _
 have hp:((w.alloc (.cells #[.string title,.slice A n c] 37)).alloc (.cells #[.string s] 9)).cell? ⟨w.heap.size+1,0,none⟩=some (.string s):=by
  have:=(Blk.new (w.alloc (.cells #[.string title,.slice A n c] 37)) 9 #[.string s]).cell 0
  rw [World.size_alloc] at this
  exact this
 have hix:=s_IndexF (.slice A n c) L S s (w.heap.size+1) _ (hv.keep fun b hb => hb2.block b (hS b hb)) (fun b hb => Nat.lt_of_lt_of_le (hS b hb) hb2.size) hl hp (by simp)
 have HX:=Lib.hid hix
 have HB2:=Lib.hid hb2
 clear hix hb2 hp hv
 cases hf:fstF L s with
 | none =>
  rw [hf] at HX
  have HF:=Lib.hid hf
  clear hf
  rw [show idxI none = -1 from rfl] at HX
  go_enter Tryz.func41,Tryz.ntmps41
  go_wp2_with fail
  refine HX.out.mono ?_
  rintro e w1 ⟨rfl,hb1⟩
  have HB1:=Lib.hid (HB2.out.trans (hb1.mono HB2.out.size))
  have hm:max (-1:Int) 0=0:=by decide
  clear hb1
  go_wp2_with fail
  go_ret2
  exact ⟨by rw [HF.out]; rfl,HB1.out⟩
 | some k =>
  rw [hf] at HX
  have HF:=Lib.hid hf
  clear hf
  rw [show idxI (some k)=(k:Int) from rfl] at HX
  go_enter Tryz.func41,Tryz.ntmps41
  go_wp2_with fail
  refine HX.out.mono ?_
  rintro e w1 ⟨rfl,hb1⟩
  have HB1:=Lib.hid (HB2.out.trans (hb1.mono HB2.out.size))
  have hm:max (k:Int) 0=(k:Int):=by omega
  have z0:(0:Int) ≤ (k:Int):=by omega
  clear hb1
  go_wp2_with fail
  go_ret2
  exact ⟨by rw [HF.out]; rfl,HB1.out⟩
def inF (f : Fld) (n : Int) : Bool := decide (f.least ≤ n) && decide (n ≤ f.most)
def hasT (L : List ByteArray) (s : ByteArray) : Bool := L.any fun x => x.toList == s.toList
theorem hasT_iff (L : List ByteArray) (s : ByteArray) : hasT L s = true ↔ s ∈ L := by
 unfold hasT
 rw [List.any_eq_true]
 constructor
 ·rintro ⟨x,hx,h⟩
  rw [bytes_of h]; exact hx
 ·intro h
  exact ⟨_,h,by simp⟩
def fitsF (f : Fld) (a : Ans) : Bool := if f.kind = 1 then decide (a.num = 0) && inF f (a.text.size : Int) else if f.kind = 4 then decide (a.num = 0) && hasT f.opts a.text else decide (a.text.size = 0) && inF f a.num
theorem txt_none {L : List ByteArray} {x : ByteArray} (h : ∀ q,q < L.length → L.getD q ⟨#[]⟩ ≠ x) : x ∉ L := fun hx => by
 obtain ⟨j,hj,rfl⟩:=List.getElem_of_mem hx
 refine h j hj ?_
 rw [List.getD_eq_getElem?_getD,List.getElem?_eq_getElem hj]
 rfl
theorem txt_mem {L : List ByteArray} {k : Nat} (hk : k < L.length) : L.getD k ⟨#[]⟩ ∈ L := by
 rw [List.getD_eq_getElem?_getD,List.getElem?_eq_getElem hk]
 exact List.getElem_mem hk
set_option maxRecDepth 100000 in
set_option maxHeartbeats 1000000 in
theorem q_IndexT (v : Value) (L : List ByteArray) (S : Nat → Prop) (s : ByteArray) (w : World) (hv : TxsAt w S v L) (hl : L.length ≤ 1000000) :
  Calls Tryz.prog 115 #[v,.string s] w fun e w' => ∃ k:Int,e=.returned (.int .i64 k) ∧ (0 ≤ k ↔ s ∈ L) ∧ -1 ≤ k ∧ k ≤ 1000000 ∧ w=w':=by
 obtain ⟨A,n,c,rfl,hn,hnc,hc⟩:=hv
 have hn1:n ≤ 1000000:=by omega
 have HC:=Lib.hid hc
 have HN:=Lib.hid hn
 clear hc hn hl
 go_enter Tryz.func115,Tryz.ntmps115
 go_wp2_with fail
 go_loop [5,8] (fun _ i => ∃ k:Nat,k ≤ n ∧ i=.int .i64 k ∧ ∀ j,j < k → L.getD j ⟨#[]⟩ ≠ s) (fun _ i => n - (intOf i).toNat)
 case atStart => exact ⟨0,by omega,rfl,fun j hj => absurd hj (Nat.not_lt_zero _)⟩
 case round =>
  obtain ⟨k,hk,rfl,hne⟩:=hrel
  have HNE:=Lib.hid hne
  clear hne
  by_cases hlt:k < n
  ·obtain ⟨b,off,rfl,hS,hcc⟩:=HC.out (by omega)
   have hcell:=hcc k hlt
   have hm:L.getD k ⟨#[]⟩ ∈ L:=txt_mem (by have:=HN.out; omega)
   obtain ⟨x,hx⟩:∃ x,L.getD k ⟨#[]⟩=x:=⟨_,rfl⟩
   rw [hx] at hcell hm
   have HX:=Lib.hid hx
   have HM:=Lib.hid hm
   have zi:(k:Int) < (n:Int):=by omega
   have z0:(0:Int) ≤ (k:Int):=by omega
   clear hx hcc hm
   cases e1:(s.toList == x.toList)
   ·have hs:x ≠ s:=fun h => by rw [h] at e1; simp at e1
    have HS:=Lib.hid hs
    clear hs
    go_wp2_with fail
    go_round
    case rel => exact ⟨k+1,by omega,by go_num,fun j hj => by
     rcases Nat.lt_or_ge j k with h | h
     ·exact HNE.out j h
     ·rw [show j=k by omega,HX.out]; exact HS.out⟩
    case measure => simp [intOf]; omega
   ·have hs:x=s:=bytes_of e1
    have HS:=Lib.hid hs
    clear hs
    go_wp2_with fail
    go_ret
    exact ⟨(k:Int),rfl,⟨fun _ => HS.out ▸ HM.out,fun _ => by omega⟩,by omega,by omega,rfl⟩
  ·have hj0:¬ (k:Int) < (n:Int):=by omega
   have he:s ∉ L:=txt_none (fun q hq => HNE.out q (by have:=HN.out; omega))
   have HE:=Lib.hid he
   clear he
   go_wp2_with fail
   go_ret
   exact ⟨-1,rfl,⟨fun h => absurd h (by decide),fun h => absurd h HE.out⟩,by decide,by decide,rfl⟩
set_option maxHeartbeats 1000000 in
theorem q_ContainsT (v : Value) (L : List ByteArray) (S : Nat → Prop) (s : ByteArray) (w : World) (hv : TxsAt w S v L) (hl : L.length ≤ 1000000) :
  Calls Tryz.prog 81 #[v,.string s] w fun e w' => e=.returned (.bool (hasT L s)) ∧ w=w':=by
 have HV:=Lib.hid hv
 clear hv
 go_enter Tryz.func81,Tryz.ntmps81
 go_wp2_with (go_at_call 115; refine (q_IndexT _ L S s _ HV.out hl).mono ?_; rintro e w' ⟨k,rfl,hk,h1,h2,rfl⟩; have HK:=Lib.hid hk; clear hk)
 go_ret
 refine ⟨?_,rfl⟩
 have h:=HK.out
 rw [← hasT_iff] at h
 have h2:hasT L s=decide (0 ≤ k):=by rw [Bool.eq_iff_iff,decide_eq_true_iff]; exact h.symm
 rw [h2]
 rfl
set_option maxHeartbeats 1000000 in
theorem f_inF (n : Int) (fb : Nat) (f : Fld) (vo : Value) (W : World) (hb : Blk W fb 58 #[.string f.name,.int .i64 f.kind,.bool f.need,.int .i64 f.least,.int .i64 f.most,vo]) :
  Calls Tryz.prog 80 #[.int .i64 n,.pointer (some ⟨fb,0,none⟩)] W fun e W' => e=.returned (.bool (inF f n)) ∧ W=W':=by
 have c3:=(hb.cell 3).trans (show _=some (Value.int .i64 f.least) from rfl)
 have c4:=(hb.cell 4).trans (show _=some (Value.int .i64 f.most) from rfl)
 clear hb
 obtain ⟨nm,kd,nd,le,mo,op⟩:=f
 by_cases h1:le ≤ n <;> by_cases h2:n ≤ mo
 all_goals
  go_enter Tryz.func80,Tryz.ntmps80
  go_wp2_with fail
  go_ret
  exact ⟨by simp [inF,h1,h2],rfl⟩
set_option maxRecDepth 100000 in
set_option maxHeartbeats 2000000 in
theorem s_fits (f : Fld) (a : Ans) (vo : Value) (S : Nat → Prop) (w : World) (ho : TxsAt w S vo f.opts) (hS : ∀ b,S b → b < w.heap.size) (hl : f.opts.length ≤ 1000000) (hn : f.name = a.field) (ha : a.text.size ≤ 1000000) :
  Calls Tryz.prog 43 #[.agg #[.string f.name,.int .i64 f.kind,.bool f.need,.int .i64 f.least,.int .i64 f.most,vo],.agg #[.string a.field,.string a.text,.int .i64 a.num]] w (BoolBel (fitsF f a) w):=by
 obtain ⟨Ao,no,co,rfl,-⟩:=id ho
 have hb:Below w.heap.size w ((w.alloc (.cells #[.string f.name,.int .i64 f.kind,.bool f.need,.int .i64 f.least,.int .i64 f.most,.slice Ao no co] 58)).alloc (.cells #[.string a.field,.string a.text,.int .i64 a.num] 50)):=((Below.refl _ w).alloc (Nat.le_refl _) _).alloc (by simp) _
 have hb1:Blk ((w.alloc (.cells #[.string f.name,.int .i64 f.kind,.bool f.need,.int .i64 f.least,.int .i64 f.most,.slice Ao no co] 58)).alloc (.cells #[.string a.field,.string a.text,.int .i64 a.num] 50)) w.heap.size 58 #[.string f.name,.int .i64 f.kind,.bool f.need,.int .i64 f.least,.int .i64 f.most,.slice Ao no co]:=(Blk.new w _ _).alloc _
 have hin:=fun n => f_inF n w.heap.size f (.slice Ao no co) _ hb1
 have hct:=q_ContainsT (.slice Ao no co) f.opts S a.text _ (ho.keep fun b hB => hb.block b (hS b hB)) hl
 obtain ⟨nm,kd,nd,le,mo,op⟩:=f
 obtain ⟨fl,tx,nu⟩:=a
 subst hn
 have HB:=Lib.hid hb
 have HIN:=Lib.hid hin
 have HCT:=Lib.hid hct
 have hself:(nm.toList != nm.toList)=false:=by simp
 clear hb hin hct ho hb1
 have HA:=Lib.hid ha
 by_cases k1:kd=1
 ·subst k1
  by_cases n0:nu=0
  ·subst n0
   have e:fitsF ⟨nm,1,nd,le,mo,op⟩ ⟨nm,tx,0⟩=inF ⟨nm,1,nd,le,mo,op⟩ (tx.size:Int):=by simp [fitsF]
   rw [e]
   go_enter Tryz.func43,Tryz.ntmps43
   go_wp2_with (go_at_call 80; refine (HIN.out _).mono ?_; rintro e w' ⟨rfl,rfl⟩)
   go_ret
   exact ⟨rfl,HB.out⟩
  ·have e:fitsF ⟨nm,1,nd,le,mo,op⟩ ⟨nm,tx,nu⟩=false:=by simp [fitsF,n0]
   have hne:(nu == (0:Int))=false:=by simpa using n0
   rw [e]
   go_enter Tryz.func43,Tryz.ntmps43
   go_wp2_with fail
   go_ret
   exact ⟨rfl,HB.out⟩
 ·have hk1:(kd == (1:Int))=false:=by simpa using k1
  by_cases k4:kd=4
  ·subst k4
   by_cases n0:nu=0
   ·subst n0
    have e:fitsF ⟨nm,4,nd,le,mo,op⟩ ⟨nm,tx,0⟩=hasT op tx:=by simp [fitsF]
    rw [e]
    go_enter Tryz.func43,Tryz.ntmps43
    go_wp2_with (go_at_call 81; refine (HCT.out).mono ?_; rintro e w' ⟨rfl,rfl⟩)
    go_ret
    exact ⟨rfl,HB.out⟩
   ·have e:fitsF ⟨nm,4,nd,le,mo,op⟩ ⟨nm,tx,nu⟩=false:=by simp [fitsF,n0]
    have hne:(nu == (0:Int))=false:=by simpa using n0
    rw [e]
    go_enter Tryz.func43,Tryz.ntmps43
    go_wp2_with fail
    go_ret
    exact ⟨rfl,HB.out⟩
  ·have hk4:(kd == (4:Int))=false:=by simpa using k4
   cases t0:(tx.toList == [])
   ·have hne:tx.size ≠ 0:=fun h => by
     have h2:tx=⟨#[]⟩:=by
      obtain ⟨d⟩:=tx
      exact congrArg ByteArray.mk (Array.eq_empty_of_size_eq_zero h)
     rw [h2] at t0; simp at t0
    have e:fitsF ⟨nm,kd,nd,le,mo,op⟩ ⟨nm,tx,nu⟩=false:=by simp [fitsF,k1,k4,hne]
    rw [e]
    go_enter Tryz.func43,Tryz.ntmps43
    go_wp2_with fail
    go_ret
    exact ⟨rfl,HB.out⟩
   ·have heq:tx=⟨#[]⟩:=by
     have h:(tx.toList == (⟨#[]⟩:ByteArray).toList)=true:=by rw [show (⟨#[]⟩:ByteArray).toList = [] from by simp]; exact t0
     exact (bytes_of h).symm
    have e:fitsF ⟨nm,kd,nd,le,mo,op⟩ ⟨nm,tx,nu⟩=inF ⟨nm,kd,nd,le,mo,op⟩ nu:=by simp [fitsF,k1,k4,show tx.size=0 from by rw [heq]; rfl]
    clear heq
    rw [e]
    go_enter Tryz.func43,Tryz.ntmps43
    go_wp2_with (go_at_call 80; refine (HIN.out _).mono ?_; rintro e w' ⟨rfl,rfl⟩)
    go_ret
    exact ⟨rfl,HB.out⟩
theorem trm_ne {k1 n1 y1 k2 n2 y2 : Int} {f1 x1 f2 x2 : ByteArray} {a1 a2 : List Int} (h : (k1 == k2) = false ∨ (n1 == n2) = false ∨ (y1 == y2) = false ∨ (f1.toList == f2.toList) = false ∨ (x1.toList == x2.toList) = false) : (⟨k1,n1,y1,f1,x1,a1⟩ : Trm) ≠ ⟨k2,n2,y2,f2,x2,a2⟩ := by
 intro e
 injection e with e0 e1 e2 e3 e4 e5
 subst e0 e1 e2 e3 e4
 simp at h
set_option maxRecDepth 100000 in
set_option maxHeartbeats 2000000 in
theorem t_Same (k1 n1 y1 k2 n2 y2 : Int) (f1 x1 f2 x2 : ByteArray) (a1 a2 : List Int) (A B : Option Addr) (p c q d : Nat) (w : World) (ha : IntsAt w (· < w.heap.size) (.slice A p c) a1) (hb : IntsAt w (· < w.heap.size) (.slice B q d) a2) (hla : a1.length ≤ 1000000) (hlb : a2.length ≤ 1000000) :
  Calls Tryz.prog 67 #[.agg #[.int .i64 k1,.int .i64 n1,.int .i64 y1,.string f1,.string x1,.slice A p c],.agg #[.int .i64 k2,.int .i64 n2,.int .i64 y2,.string f2,.string x2,.slice B q d]] w (SameB ((⟨k1,n1,y1,f1,x1,a1⟩:Trm)=⟨k2,n2,y2,f2,x2,a2⟩) w):=by
 have hb0:Below w.heap.size w ((w.alloc (.cells #[.int .i64 k1,.int .i64 n1,.int .i64 y1,.string f1,.string x1,.slice A p c] 75)).alloc (.cells #[.int .i64 k2,.int .i64 n2,.int .i64 y2,.string f2,.string x2,.slice B q d] 75)):=((Below.refl _ w).alloc (Nat.le_refl _) _).alloc (by simp) _
 have hsz:=hb0.size
 have heq:=q_EqI (.slice A p c) (.slice B q d) a1 a2 _ ((ha.keep fun g hg => hb0.block g hg).mono fun g hg => Nat.lt_of_lt_of_le hg hsz) ((hb.keep fun g hg => hb0.block g hg).mono fun g hg => Nat.lt_of_lt_of_le hg hsz) hla hlb
 have HEQ:=Lib.hid heq
 have HB:=Lib.hid hb0
 clear heq hb0 ha hb hsz
 have hno:=fun (h:(k1 == k2)=false ∨ (n1 == n2)=false ∨ (y1 == y2)=false ∨ (f1.toList == f2.toList)=false ∨ (x1.toList == x2.toList)=false) => (show SameB ((⟨k1,n1,y1,f1,x1,a1⟩:Trm)=⟨k2,n2,y2,f2,x2,a2⟩) w (.returned (.bool false)) _ from ⟨false,rfl,⟨fun h => (by cases h),fun e => absurd e (trm_ne h)⟩,HB.out⟩)
 have HNO:=Lib.hid hno
 clear hno
 go_enter Tryz.func67,Tryz.ntmps67
 cases h0:(k1 == k2)
 ·go_wp2_with fail
  go_ret
  exact HNO.out (.inl h0)
 ·cases h1:(n1 == n2)
  ·go_wp2_with fail
   go_ret
   exact HNO.out (.inr (.inl h1))
  ·cases h2:(y1 == y2)
   ·go_wp2_with fail
    go_ret
    exact HNO.out (.inr (.inr (.inl h2)))
   ·cases h3:(f1.toList == f2.toList)
    ·go_wp2_with fail
     go_ret
     exact HNO.out (.inr (.inr (.inr (.inl h3))))
    ·cases h4:(x1.toList == x2.toList)
     ·go_wp2_with fail
      go_ret
      exact HNO.out (.inr (.inr (.inr (.inr h4))))
     ·go_wp2_with fail
      refine HEQ.out.mono ?_
      rintro e w1 ⟨b,rfl,hbb,hB1⟩
      have HBB:=Lib.hid hbb
      have HB1:=Lib.hid (HB.out.trans (hB1.mono HB.out.size))
      clear hbb hB1
      go_wp2_with fail
      go_ret
      refine ⟨b,rfl,⟨fun h => ?_,fun e => HBB.out.2 (by injection e)⟩,HB1.out⟩
      rw [eq_of_beq h0,eq_of_beq h1,eq_of_beq h2,bytes_of h3,bytes_of h4,HBB.out.1 h]
set_option maxRecDepth 100000 in
set_option maxHeartbeats 4000000 in
theorem q_EqT (va vb : Value) (La Lb : List Trm) (w : World) (ha : TermsAt w (· < w.heap.size) va La) (hb : TermsAt w (· < w.heap.size) vb Lb) (hla : La.length ≤ 1000000) (hlb : Lb.length ≤ 1000000)
  (hka:∀ t ∈ La,t.args.length ≤ 1000000) (hkb:∀ t ∈ Lb,t.args.length ≤ 1000000) :
  Calls Tryz.prog 70 #[va,vb,.func (.func 67) #[] #[]] w (SameB (La=Lb) w):=by
 obtain ⟨A,n,c,rfl,hn,hnc,hA⟩:=ha
 obtain ⟨B,m,k,rfl,hm,hmk,hB⟩:=hb
 have n1:n ≤ 1000000:=by omega
 have m1:m ≤ 1000000:=by omega
 have HA:=Lib.hid hA
 have HB:=Lib.hid hB
 have HN:=Lib.hid hn
 have HM:=Lib.hid hm
 have HKA:=Lib.hid hka
 have HKB:=Lib.hid hkb
 clear hA hB hn hm hla hlb hka hkb
 by_cases hnm:n=m
 ·subst hnm
  go_enter Tryz.func70,Tryz.ntmps70
  go_wp2_with fail
  go_loopw [7,8,9,17] (fun v7 v8 v9 v17 wr => ∃ i:Nat,i ≤ n ∧ v17=.int .i64 (i:Int) ∧ (∀ q,q < i → trmAt La q=trmAt Lb q) ∧ Below w.heap.size w wr) (fun _ _ _ v17 _ => n - (intOf v17).toNat)
  case atStart => exact ⟨0,by omega,rfl,fun q hq => absurd hq (Nat.not_lt_zero _),Below.refl _ _⟩
  case round =>
   obtain ⟨i,hi,rfl,heq,hbr⟩:=hrel
   rename World => wr
   have HE:=Lib.hid heq
   have HBR:=Lib.hid hbr
   have hsz:=hbr.size
   clear heq hbr
   by_cases hlt:i < n
   ·obtain ⟨b1,o1,rfl,hS1,hc1⟩:=HA.out (by omega)
    obtain ⟨b2,o2,rfl,hS2,hc2⟩:=HB.out (by omega)
    have hta:=(hc1 i hlt).keep (S:=(· < w.heap.size)) (HBR.out.block b1 hS1) (fun g hg => HBR.out.block g hg)
    have htb:=(hc2 i hlt).keep (S:=(· < w.heap.size)) (HBR.out.block b2 hS2) (fun g hg => HBR.out.block g hg)
    have hla:(trmAt La i).args.length ≤ 1000000:=HKA.out _ (trmAt_mem (by have:=HN.out; omega))
    have hlb:(trmAt Lb i).args.length ≤ 1000000:=HKB.out _ (trmAt_mem (by have:=HM.out; omega))
    obtain ⟨ta,hta'⟩:∃ ta,trmAt La i=ta:=⟨_,rfl⟩
    obtain ⟨tb,htb'⟩:∃ tb,trmAt Lb i=tb:=⟨_,rfl⟩
    rw [hta'] at hta hla
    rw [htb'] at htb hlb
    obtain ⟨k1,n1',y1,f1,x1,a1⟩:=ta
    obtain ⟨k2,n2',y2,f2,x2,a2⟩:=tb
    obtain ⟨c0,c1,c2,c3,c4,u,c5,hu⟩:=hta
    obtain ⟨d0,d1,d2,d3,d4,u',d5,hu'⟩:=htb
    dsimp only at c0 c1 c2 c3 c4 d0 d1 d2 d3 d4 hu hu' hla hlb
    obtain ⟨A1,q1,e1,hv1,-⟩:=id hu
    obtain ⟨A2,q2,e2,hv2,-⟩:=id hu'
    subst hv1 hv2
    have zi:(i:Int) < (n:Int):=by omega
    have z0:(0:Int) ≤ (i:Int):=by omega
    have hbl':b2 < wr.heap.size:=by omega
    have D0:∀ o:Obj,(wr.alloc o).cell? ⟨b2,o2+i*6,none⟩=some (.int .i64 k2):=fun o => (World.cell?_alloc_lt wr o ⟨b2,o2+i*6,none⟩ hbl').trans d0
    have D1:∀ o:Obj,(wr.alloc o).cell? ⟨b2,o2+i*6+1,none⟩=some (.int .i64 n2'):=fun o => (World.cell?_alloc_lt wr o ⟨b2,o2+i*6+1,none⟩ hbl').trans d1
    have D2:∀ o:Obj,(wr.alloc o).cell? ⟨b2,o2+i*6+2,none⟩=some (.int .i64 y2):=fun o => (World.cell?_alloc_lt wr o ⟨b2,o2+i*6+2,none⟩ hbl').trans d2
    have D3:∀ o:Obj,(wr.alloc o).cell? ⟨b2,o2+i*6+3,none⟩=some (.string f2):=fun o => (World.cell?_alloc_lt wr o ⟨b2,o2+i*6+3,none⟩ hbl').trans d3
    have D4:∀ o:Obj,(wr.alloc o).cell? ⟨b2,o2+i*6+4,none⟩=some (.string x2):=fun o => (World.cell?_alloc_lt wr o ⟨b2,o2+i*6+4,none⟩ hbl').trans d4
    have D5:∀ o:Obj,(wr.alloc o).cell? ⟨b2,o2+i*6+5,none⟩=some (.slice A2 q2 e2):=fun o => (World.cell?_alloc_lt wr o ⟨b2,o2+i*6+5,none⟩ hbl').trans d5
    have HTA:=Lib.hid hta'
    have HTB:=Lib.hid htb'
    have hbx:Below wr.heap.size wr ((wr.alloc (.cells #[.int .i64 k1,.int .i64 n1',.int .i64 y1,.string f1,.string x1,.slice A1 q1 e1] 75)).alloc (.cells #[.int .i64 k2,.int .i64 n2',.int .i64 y2,.string f2,.string x2,.slice A2 q2 e2] 75)):=((Below.refl _ _).alloc (Nat.le_refl _) _).alloc (by simp) _
    have hsx:=hbx.size
    have hcl:=t_Same k1 n1' y1 k2 n2' y2 f1 x1 f2 x2 a1 a2 A1 A2 q1 e1 q2 e2 _ ((hu.keep fun g hg => hbx.block g (by omega)).mono fun g hg => by omega) ((hu'.keep fun g hg => hbx.block g (by omega)).mono fun g hg => by omega) hla hlb
    have HCL:=Lib.hid hcl
    have HX:=Lib.hid (HBR.out.trans (hbx.mono hsz))
    clear hta' htb' hc1 hc2 d0 d1 d2 d3 d4 d5 hbx hcl hu hu' hsx
    go_wp2_with fail
    refine HCL.out.mono ?_
    rintro e w5 ⟨b,rfl,hbb,hB5⟩
    have HB5:=Lib.hid (HX.out.trans (hB5.mono HX.out.size))
    have HBB:=Lib.hid hbb
    clear hbb hB5 HCL HX D0 D1 D2 D3 D4 D5 c0 c1 c2 c3 c4 c5
    cases b with
    | false =>
     go_wp2_with fail
     go_ret
     refine ⟨false,rfl,⟨fun h => (by cases h),fun e => ?_⟩,HB5.out⟩
     subst e
     have h2:=HTA.out.symm.trans HTB.out
     exact absurd (HBB.out.2 h2) (by simp)
    | true =>
     go_wp2_with fail
     go_roundw
     case measure => simp [intOf]; omega
     case rel => exact ⟨i+1,by omega,by go_num,(fun q hq => by
      by_cases e:q=i
      ·subst e
       rw [HTA.out,HTB.out]; exact HBB.out.1 (by simp)
      ·exact HE.out q (by omega)),HB5.out⟩
   ·have zi:¬ (i:Int) < (n:Int):=by omega
    have he:La=Lb:=trms_eq (by have:=HN.out; have:=HM.out; omega) (fun q hq => HE.out q (by have:=HN.out; omega))
    have HEQ:=Lib.hid he
    clear he
    go_wp2_with fail
    go_ret
    exact ⟨true,rfl,⟨fun _ => HEQ.out,fun _ => rfl⟩,HBR.out⟩
 ·have hne:((n:Int) == (m:Int))=false:=by simp; omega
  have hne2:((n:Int) != (m:Int))=true:=by simp; omega
  have he:La ≠ Lb:=fun e => hnm (by rw [HN.out,HM.out,e])
  have HEQ:=Lib.hid he
  clear he
  go_enter Tryz.func70,Tryz.ntmps70
  go_wp2_with fail
  go_ret
  exact ⟨false,rfl,⟨fun h => (by cases h),fun e => absurd e HEQ.out⟩,Below.refl _ _⟩
theorem stm_ne {s t : Stm} (h : (s.resp.toList == t.resp.toList) = false ∨ (s.dep == t.dep) = false ∨ (s.day == t.day) = false) : s ≠ t := by
 intro e
 subst e
 simp at h
set_option maxRecDepth 100000 in
set_option maxHeartbeats 4000000 in
theorem s_Same (s t : Stm) (va vc vs ua uc us : Value) (w : World) (ha : StmAt w (· < w.heap.size) va vc vs s) (hb : StmAt w (· < w.heap.size) ua uc us t) (hs : StmOk s) (ht : StmOk t) (has : ∀ x ∈ s.cond,x.args.length ≤ 1000000) (hat : ∀ x ∈ t.cond,x.args.length ≤ 1000000) :
  Calls Tryz.prog 32 #[.agg #[.string s.resp,.int .i64 s.dep,.int .i64 s.day,va,vc,vs],.agg #[.string t.resp,.int .i64 t.dep,.int .i64 t.day,ua,uc,us]] w (SameB (s=t) w):=by
 obtain ⟨Aa,na,ca,hva,-⟩:=id ha.aa
 obtain ⟨Ac,nc,cc,hvc,-⟩:=id ha.cc
 obtain ⟨As,ns,cs,hvs,-⟩:=id ha.ss
 obtain ⟨Ba,ma,da,hua,-⟩:=id hb.aa
 obtain ⟨Bc,mc,dc,huc,-⟩:=id hb.cc
 obtain ⟨Bs,ms,ds,hus,-⟩:=id hb.ss
 subst hva hvc hvs hua huc hus
 have hb0:Below w.heap.size w ((w.alloc (.cells #[.string s.resp,.int .i64 s.dep,.int .i64 s.day,.slice Aa na ca,.slice Ac nc cc,.slice As ns cs] 29)).alloc (.cells #[.string t.resp,.int .i64 t.dep,.int .i64 t.day,.slice Ba ma da,.slice Bc mc dc,.slice Bs ms ds] 29)):=((Below.refl _ w).alloc (Nat.le_refl _) _).alloc (by simp) _
 have hx1:Blk ((w.alloc (.cells #[.string s.resp,.int .i64 s.dep,.int .i64 s.day,.slice Aa na ca,.slice Ac nc cc,.slice As ns cs] 29)).alloc (.cells #[.string t.resp,.int .i64 t.dep,.int .i64 t.day,.slice Ba ma da,.slice Bc mc dc,.slice Bs ms ds] 29)) w.heap.size 29 #[.string s.resp,.int .i64 s.dep,.int .i64 s.day,.slice Aa na ca,.slice Ac nc cc,.slice As ns cs]:=(Blk.new w _ _).alloc _
 have hx2:Blk ((w.alloc (.cells #[.string s.resp,.int .i64 s.dep,.int .i64 s.day,.slice Aa na ca,.slice Ac nc cc,.slice As ns cs] 29)).alloc (.cells #[.string t.resp,.int .i64 t.dep,.int .i64 t.day,.slice Ba ma da,.slice Bc mc dc,.slice Bs ms ds] 29)) (w.heap.size+1) 29 #[.string t.resp,.int .i64 t.dep,.int .i64 t.day,.slice Ba ma da,.slice Bc mc dc,.slice Bs ms ds]:=by
  have:=Blk.new (w.alloc (.cells #[.string s.resp,.int .i64 s.dep,.int .i64 s.day,.slice Aa na ca,.slice Ac nc cc,.slice As ns cs] 29)) 29 #[.string t.resp,.int .i64 t.dep,.int .i64 t.day,.slice Ba ma da,.slice Bc mc dc,.slice Bs ms ds]
  rwa [World.size_alloc] at this
 have hk:=fun (W:World) (hB:Below w.heap.size w W) => And.intro ((ha.keep fun g hg => hB.block g hg).mono (T:=(· < W.heap.size)) fun g hg => Nat.lt_of_lt_of_le hg hB.size) ((hb.keep fun g hg => hB.block g hg).mono (T:=(· < W.heap.size)) fun g hg => Nat.lt_of_lt_of_le hg hB.size)
 have h1:=fun (W:World) (hB:Below w.heap.size w W) => q_EqA _ _ _ _ W (hk W hB).1.aa (hk W hB).2.aa hs.an ht.an
 have h2:=fun (W:World) (hB:Below w.heap.size w W) => q_EqT _ _ _ _ W (hk W hB).1.cc (hk W hB).2.cc hs.cn ht.cn has hat
 have h3:=fun (W:World) (hB:Below w.heap.size w W) => q_EqS _ _ _ _ W (hk W hB).1.ss (hk W hB).2.ss hs.sn ht.sn
 have HB:=Lib.hid hb0
 have H1:=Lib.hid (h1 _ hb0)
 have H2:=Lib.hid h2
 have H3:=Lib.hid h3
 have HX1:=Lib.hid hx1
 have HX2:=Lib.hid hx2
 have hno:=fun (h:(s.resp.toList == t.resp.toList)=false ∨ (s.dep == t.dep)=false ∨ (s.day == t.day)=false) => (show SameB (s=t) w (.returned (.bool false)) _ from ⟨false,rfl,⟨fun h => (by cases h),fun e => absurd e (stm_ne h)⟩,hb0⟩)
 have HNO:=Lib.hid hno
 clear hno hb0 hx1 hx2 hk h1 h2 h3 ha hb hs ht has hat
 go_enter Tryz.func32,Tryz.ntmps32
 cases h0:(s.resp.toList == t.resp.toList)
 ·go_wp2_with fail
  go_ret
  exact HNO.out (.inl h0)
 ·cases h1:(s.dep == t.dep)
  ·go_wp2_with fail
   go_ret
   exact HNO.out (.inr (.inl h1))
  ·cases h2:(s.day == t.day)
   ·go_wp2_with fail
    go_ret
    exact HNO.out (.inr (.inr h2))
   ·have HE:=Lib.hid (And.intro h0 (And.intro h1 h2))
    go_wp2_with fail
    refine H1.out.mono ?_
    rintro e w1 ⟨b1,rfl,hb1,hB1⟩
    have HW1:=Lib.hid (HB.out.trans (hB1.mono HB.out.size))
    have HB1:=Lib.hid hb1
    have hx1:=HX1.out.below' hB1 HX1.out.lt
    have hx2:=HX2.out.below' hB1 HX2.out.lt
    have X4:=(hx1.cell 4).trans (show _=some (Value.slice Ac nc cc) from rfl)
    have Y4:=(hx2.cell 4).trans (show _=some (Value.slice Bc mc dc) from rfl)
    have K1:=Lib.hid hx1
    have K2:=Lib.hid hx2
    clear hb1 hB1 hx1 hx2 H1 HX1 HX2
    cases b1 with
    | false =>
     go_wp2_with fail
     go_ret
     exact ⟨false,rfl,⟨fun h => (by cases h),fun e => absurd (HB1.out.2 (by rw [e])) (by simp)⟩,HW1.out⟩
    | true =>
     have ea:=Lib.hid (HB1.out.1 (by simp))
     clear HB1
     go_wp2_with fail
     refine (H2.out _ HW1.out).mono ?_
     rintro e w2 ⟨b2,rfl,hb2,hB2⟩
     have HW2:=Lib.hid (HW1.out.trans (hB2.mono HW1.out.size))
     have HB2:=Lib.hid hb2
     have hx1:=K1.out.below' hB2 K1.out.lt
     have hx2:=K2.out.below' hB2 K2.out.lt
     have X5:=(hx1.cell 5).trans (show _=some (Value.slice As ns cs) from rfl)
     have Y5:=(hx2.cell 5).trans (show _=some (Value.slice Bs ms ds) from rfl)
     clear hb2 hB2 hx1 hx2 K1 K2 H2 X4 Y4
     cases b2 with
     | false =>
      go_wp2_with fail
      go_ret
      exact ⟨false,rfl,⟨fun h => (by cases h),fun e => absurd (HB2.out.2 (by rw [e])) (by simp)⟩,HW2.out⟩
     | true =>
      have ec:=Lib.hid (HB2.out.1 (by simp))
      clear HB2
      go_wp2_with fail
      refine (H3.out _ HW2.out).mono ?_
      rintro e w3 ⟨b3,rfl,hb3,hB3⟩
      have HW3:=Lib.hid (HW2.out.trans (hB3.mono HW2.out.size))
      have HB3:=Lib.hid hb3
      clear hb3 hB3 H3 X5 Y5
      go_wp2_with fail
      go_ret
      exact ⟨b3,rfl,⟨fun h => stm_eq (bytes_of HE.out.1).symm (eq_of_beq HE.out.2.1) (eq_of_beq HE.out.2.2) ea.out ec.out (HB3.out.1 h),fun e => HB3.out.2 (by rw [e])⟩,HW3.out⟩
end Go.Proofs.YtgdngfdeeadlnaaGreatDoor

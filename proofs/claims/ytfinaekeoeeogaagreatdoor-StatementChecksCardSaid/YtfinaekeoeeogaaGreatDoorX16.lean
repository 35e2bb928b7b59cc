/- Contracts: fields are found by their names, by the program and by the reference. And more. -/
import Derived.Test.YtfinaekeoeeogaaGreatDoorX15
import Derived.Test.YtfinaekeoeeogaaGreatDoorX14
import Derived.Maps.Own
import Derived.Maps.OwnSet
import Derived.Maps.Views
import Derived.StringKeys
set_option linter.unusedVariables false
set_option linter.unusedSimpArgs false
namespace Go.Proofs.YtfinaekeoeeogaaGreatDoor
open Go.RowKit Num
def fstF (L : List Fld) (s : ByteArray) : Option Nat := (List.range L.length).find? fun k => decide ((fldAt L k).name = s)
theorem fstF_hit {L : List Fld} {s : ByteArray} {k : Nat} (hk : k < L.length) (h1 : (fldAt L k).name = s) (h2 : ∀ j,j < k → (fldAt L j).name ≠ s) : fstF L s = some k := by
 unfold fstF
 rw [List.find?_eq_some_iff_getElem]
 refine ⟨by simpa using h1,k,by simpa using hk,by simp,fun j hj => by simpa using h2 j hj⟩
theorem fstF_miss {L : List Fld} {s : ByteArray} (h : ∀ j,j < L.length → (fldAt L j).name ≠ s) : fstF L s = none := by
 unfold fstF
 rw [List.find?_eq_none]
 intro j hj
 simpa using h j (List.mem_range.1 hj)
def idxI : Option Nat → Int
 | some k => (k:Int)
 | none => -1
def FndE (L : List Fld) (s : ByteArray) (w : World) (e : Ending) (w' : World) : Prop := e = .returned (.tuple #[.int .i64 ((((fstF L s).getD 0 : Nat)) : Int),.bool (fstF L s).isSome]) ∧ Below w.heap.size w w'
theorem infoFd : (Tryz.prog.info? 63).map (fun i => (i.zero,i.size,i.bytes)) = some (some (.agg #[.string ⟨#[]⟩,.int .i64 0,.bool false,.int .i64 0,.int .i64 0,.slice none 0 0]),6,72) := by kernel_rfl
set_option maxRecDepth 100000 in
set_option maxHeartbeats 1000000 in
theorem f_sameN (nm s : ByteArray) (kd : Int) (nd : Bool) (le mo : Int) (A : Option Addr) (n c pb : Nat) (w : World) (hp : w.cell? ⟨pb,0,none⟩ = some (.string s)) (hpb : pb < w.heap.size) (b : Bool) (hb : (nm.toList == s.toList) = b) :
  Calls Tryz.prog 72 #[.agg #[.string nm,.int .i64 kd,.bool nd,.int .i64 le,.int .i64 mo,.slice A n c],.pointer (some ⟨pb,0,none⟩)] w (BoolBel b w):=by
 have hp2:(w.alloc (.cells #[.string nm,.int .i64 kd,.bool nd,.int .i64 le,.int .i64 mo,.slice A n c] 63)).cell? ⟨pb,0,none⟩=some (.string s):=(World.cell?_alloc_lt w _ ⟨pb,0,none⟩ hpb).trans hp
 cases b
 all_goals
  go_enter Tryz.func72,Tryz.ntmps72
  go_wp2_with fail
  go_ret
  exact ⟨rfl,(Below.refl _ _).alloc (Nat.le_refl _) _⟩
set_option maxRecDepth 100000 in
set_option maxHeartbeats 1000000 in
theorem s_IndexF (v : Value) (L : List Fld) (S : Nat → Prop) (s : ByteArray) (pb : Nat) (w : World) (hv : FldsAt w S v L) (hS : ∀ b,S b → b < w.heap.size) (hl : L.length ≤ 1000000) (hp : w.cell? ⟨pb,0,none⟩ = some (.string s)) (hpb : pb < w.heap.size) :
  Calls Tryz.prog 71 #[v,.func (.func 72) #[] #[.pointer (some ⟨pb,0,none⟩)]] w fun e w' => e=.returned (.int .i64 (idxI (fstF L s))) ∧ Below w.heap.size w w':=by
 obtain ⟨A,n,c,rfl,hn,hnc,hc⟩:=hv
 have HC:=Lib.hid hc
 have HN:=Lib.hid hn
 have HS:=Lib.hid hS
 have HP:=Lib.hid hp
 have hn1:n ≤ 1000000:=by omega
 clear hc hn hS hl hp
 go_enter Tryz.func71,Tryz.ntmps71
 go_wp2_with fail
 go_loopw [8] (fun v8 wr => ∃ k:Nat,k ≤ n ∧ v8=.int .i64 (k:Int) ∧ (∀ j,j < k → (fldAt L j).name ≠ s) ∧ Below w.heap.size w wr) (fun v8 _ => n - (intOf v8).toNat)
 case atStart => exact ⟨0,by omega,rfl,fun j hj => absurd hj (Nat.not_lt_zero _),Below.refl _ _⟩
 case round =>
  obtain ⟨k,hk,rfl,hne,hb⟩:=hrel
  have HNE:=Lib.hid hne
  have HB:=Lib.hid hb
  have hsz:=hb.size
  clear hne hb
  by_cases hlt:k < n
  ·obtain ⟨b,off,rfl,hSb,hcell⟩:=HC.out (by omega)
   have hbw:=HS.out b hSb
   have hf:=hcell k hlt
   have hhit:=fun h1 => fstF_hit (L:=L) (s:=s) (k:=k) (by have:=HN.out; omega) h1 HNE.out
   have hstep:(fldAt L k).name ≠ s → ∀ j,j < k+1 → (fldAt L j).name ≠ s:=fun h j hj => by
    by_cases e:j=k
    ·subst e; exact h
    ·exact HNE.out j (by omega)
   obtain ⟨f,hfe⟩:∃ f,fldAt L k=f:=⟨_,rfl⟩
   rw [hfe] at hf hhit hstep
   obtain ⟨nm,kd,nd,le,mo,op⟩:=f
   have HH:=Lib.hid hhit
   have HST:=Lib.hid hstep
   clear hhit hstep hfe hcell
   obtain ⟨c0,c1,c2,c3,c4,u,c5,hu⟩:=hf
   obtain ⟨Au,nu,cu,rfl,-⟩:=hu
   have e0:wr.cell? ⟨b,off+k*6,none⟩=_:=(HB.out.cell (p:=⟨b,off+k*6,none⟩) hbw).trans c0
   have e1:wr.cell? ⟨b,off+k*6+1,none⟩=_:=(HB.out.cell (p:=⟨b,off+k*6+1,none⟩) hbw).trans c1
   have e2:wr.cell? ⟨b,off+k*6+2,none⟩=_:=(HB.out.cell (p:=⟨b,off+k*6+2,none⟩) hbw).trans c2
   have e3:wr.cell? ⟨b,off+k*6+3,none⟩=_:=(HB.out.cell (p:=⟨b,off+k*6+3,none⟩) hbw).trans c3
   have e4:wr.cell? ⟨b,off+k*6+4,none⟩=_:=(HB.out.cell (p:=⟨b,off+k*6+4,none⟩) hbw).trans c4
   have e5:wr.cell? ⟨b,off+k*6+5,none⟩=_:=(HB.out.cell (p:=⟨b,off+k*6+5,none⟩) hbw).trans c5
   have hp':wr.cell? ⟨pb,0,none⟩=some (.string s):=(HB.out.cell (p:=⟨pb,0,none⟩) hpb).trans HP.out
   have HP':=Lib.hid hp'
   have zi:(k:Int) < (n:Int):=by omega
   have z0:(0:Int) ≤ (k:Int):=by omega
   clear c0 c1 c2 c3 c4 c5 hp'
   by_cases hs:nm=s
   ·have he:=HH.out hs
    have HE:=Lib.hid he
    have hq:(nm.toList == s.toList)=true:=seq_true hs
    have HQ:=Lib.hid hq
    clear he hs hq
    go_wp2_with fail
    refine (f_sameN nm s kd nd le mo Au nu cu pb _ HP'.out (by omega) true HQ.out).mono ?_
    rintro e w1 ⟨rfl,hb1⟩
    have HB1:=Lib.hid (HB.out.trans (hb1.mono (by omega)))
    clear hb1
    go_wp2_with fail
    go_ret
    exact ⟨by rw [HE.out]; rfl,HB1.out⟩
   ·have hst:=HST.out hs
    have HST2:=Lib.hid hst
    have hq:(nm.toList == s.toList)=false:=seq_false (fun h => hs (blOf_inj h))
    have HQ:=Lib.hid hq
    clear hst hs hq
    go_wp2_with fail
    refine (f_sameN nm s kd nd le mo Au nu cu pb _ HP'.out (by omega) false HQ.out).mono ?_
    rintro e w1 ⟨rfl,hb1⟩
    have HB1:=Lib.hid (HB.out.trans (hb1.mono (by omega)))
    clear hb1
    go_wp2_with fail
    go_roundw
    case measure => simp [intOf]; omega
    case rel => exact ⟨k+1,by omega,by go_num,HST2.out,HB1.out⟩
  ·have zi:¬ (k:Int) < (n:Int):=by omega
   have he:fstF L s=none:=fstF_miss fun j hj => HNE.out j (by have:=HN.out; omega)
   have HE:=Lib.hid he
   clear he
   go_wp2_with fail
   go_ret
   exact ⟨by rw [HE.out]; rfl,HB.out⟩
set_option maxRecDepth 100000 in
set_option maxHeartbeats 1000000 in
theorem f_Find (title s : ByteArray) (v : Value) (L : List Fld) (S : Nat → Prop) (w : World) (hv : FldsAt w S v L) (hS : ∀ b,S b → b < w.heap.size) (hl : L.length ≤ 1000000) :
  Calls Tryz.prog 49 #[.agg #[.string title,v],.string s] w (FndE L s w):=by
 obtain ⟨A,n,c,rfl,-⟩:=id hv
 have hb2:Below w.heap.size w ((w.alloc (.cells #[.string title,.slice A n c] 37)).alloc (.cells #[.string s] 9)):=((Below.refl _ _).alloc (Nat.le_refl _) _).alloc (by simp) _
 have hp:((w.alloc (.cells #[.string title,.slice A n c] 37)).alloc (.cells #[.string s] 9)).cell? ⟨w.heap.size+1,0,none⟩=some (.string s):=by
  have:=(Blk.new (w.alloc (.cells #[.string title,.slice A n c] 37)) 9 #[.string s]).cell 0
  rw [World.size_alloc] at this
  exact this
 have hix:=s_IndexF (.slice A n c) L S s (w.heap.size+1) _ (hv.keep fun b hb => hb2.block b (hS b hb)) (fun b hb => Nat.lt_of_lt_of_le (hS b hb) hb2.size) hl hp (by simp)
 have HX:=Lib.hid hix
 have HB2:=Lib.hid hb2
 clear hix hb2 hp hv
 cases hf:fstF L s with
 | none =>
  rw [hf] at HX
  have HF:=Lib.hid hf
  clear hf
  rw [show idxI none = -1 from rfl] at HX
  go_enter Tryz.func49,Tryz.ntmps49
  go_wp2_with fail
  refine HX.out.mono ?_
  rintro e w1 ⟨rfl,hb1⟩
  have HB1:=Lib.hid (HB2.out.trans (hb1.mono HB2.out.size))
  have hm:max (-1:Int) 0=0:=by decide
  clear hb1
  go_wp2_with fail
  go_ret2
  exact ⟨by rw [HF.out]; rfl,HB1.out⟩
 | some k =>
  rw [hf] at HX
  have HF:=Lib.hid hf
  clear hf
  rw [show idxI (some k)=(k:Int) from rfl] at HX
  go_enter Tryz.func49,Tryz.ntmps49
  go_wp2_with fail
  refine HX.out.mono ?_
  rintro e w1 ⟨rfl,hb1⟩
  have HB1:=Lib.hid (HB2.out.trans (hb1.mono HB2.out.size))
  have hm:max (k:Int) 0=(k:Int):=by omega
  have z0:(0:Int) ≤ (k:Int):=by omega
  clear hb1
  go_wp2_with fail
  go_ret2
  exact ⟨by rw [HF.out]; rfl,HB1.out⟩
set_option maxRecDepth 100000 in
set_option maxHeartbeats 1000000 in
theorem r_Find (title s : ByteArray) (v : Value) (L : List Fld) (S : Nat → Prop) (w : World) (hv : FldsAt w S v L) (hS : ∀ b,S b → b < w.heap.size) (hl : L.length ≤ 1000000) :
  Calls Tryz.prog 59 #[.agg #[.string title,v],.string s] w (FndE L s w):=by
 obtain ⟨A,n,c,rfl,hn,hnc,hc⟩:=hv
 have hb0:Below w.heap.size w (w.alloc (.cells #[.string title,.slice A n c] 37)):=(Below.refl _ _).alloc (Nat.le_refl _) _
 have hs0:(w.alloc (.cells #[.string title,.slice A n c] 37)).heap.size=w.heap.size+1:=by simp
 have HB0:=Lib.hid hb0
 have HC:=Lib.hid hc
 have HN:=Lib.hid hn
 have HS:=Lib.hid hS
 have hn1:n ≤ 1000000:=by omega
 clear hc hn hS hl hb0
 go_enter Tryz.func59,Tryz.ntmps59
 go_wp2_with fail
 go_loopw [11] (fun v11 wr => ∃ k:Nat,k ≤ n ∧ v11=.int .i64 (k:Int) ∧ (∀ j,j < k → (fldAt L j).name ≠ s) ∧ Below w.heap.size w wr) (fun v11 _ => n - (intOf v11).toNat)
 case atStart => exact ⟨0,by omega,rfl,fun j hj => absurd hj (Nat.not_lt_zero _),HB0.out⟩
 case round =>
  obtain ⟨k,hk,rfl,hne,hb⟩:=hrel
  have HNE:=Lib.hid hne
  have HB:=Lib.hid hb
  have hsz:=hb.size
  clear hne hb
  by_cases hlt:k < n
  ·obtain ⟨b,off,rfl,hSb,hcell⟩:=HC.out (by omega)
   have hbw:=HS.out b hSb
   have hf:=hcell k hlt
   have hhit:=fun h1 => fstF_hit (L:=L) (s:=s) (k:=k) (by have:=HN.out; omega) h1 HNE.out
   have hstep:(fldAt L k).name ≠ s → ∀ j,j < k+1 → (fldAt L j).name ≠ s:=fun h j hj => by
    by_cases e:j=k
    ·subst e; exact h
    ·exact HNE.out j (by omega)
   obtain ⟨f,hfe⟩:∃ f,fldAt L k=f:=⟨_,rfl⟩
   rw [hfe] at hf hhit hstep
   obtain ⟨nm,kd,nd,le,mo,op⟩:=f
   have HH:=Lib.hid hhit
   have HST:=Lib.hid hstep
   clear hhit hstep hfe hcell
   obtain ⟨c0,c1,c2,c3,c4,u,c5,hu⟩:=hf
   obtain ⟨Au,nu,cu,rfl,-⟩:=hu
   have e0:wr.cell? ⟨b,off+k*6,none⟩=_:=(HB.out.cell (p:=⟨b,off+k*6,none⟩) hbw).trans c0
   have e1:wr.cell? ⟨b,off+k*6+1,none⟩=_:=(HB.out.cell (p:=⟨b,off+k*6+1,none⟩) hbw).trans c1
   have e2:wr.cell? ⟨b,off+k*6+2,none⟩=_:=(HB.out.cell (p:=⟨b,off+k*6+2,none⟩) hbw).trans c2
   have e3:wr.cell? ⟨b,off+k*6+3,none⟩=_:=(HB.out.cell (p:=⟨b,off+k*6+3,none⟩) hbw).trans c3
   have e4:wr.cell? ⟨b,off+k*6+4,none⟩=_:=(HB.out.cell (p:=⟨b,off+k*6+4,none⟩) hbw).trans c4
   have e5:wr.cell? ⟨b,off+k*6+5,none⟩=_:=(HB.out.cell (p:=⟨b,off+k*6+5,none⟩) hbw).trans c5
   have HB1:=Lib.hid (HB.out.alloc hsz (.cells #[.string nm,.int .i64 kd,.bool nd,.int .i64 le,.int .i64 mo,.slice Au nu cu] 63))
   have zi:(k:Int) < (n:Int):=by omega
   have z0:(0:Int) ≤ (k:Int):=by omega
   clear c0 c1 c2 c3 c4 c5
   by_cases hs:nm=s
   ·have he:=HH.out hs
    have HE:=Lib.hid he
    have hq:(nm.toList == s.toList)=true:=seq_true hs
    clear he hs
    go_wp2_with fail
    go_ret2
    exact ⟨by rw [HE.out]; rfl,HB1.out⟩
   ·have hst:=HST.out hs
    have HST2:=Lib.hid hst
    have hq:(nm.toList == s.toList)=false:=seq_false (fun h => hs (blOf_inj h))
    clear hst hs
    go_wp2_with fail
    go_roundw
    case measure => simp [intOf]; omega
    case rel => exact ⟨k+1,by omega,by go_num,HST2.out,HB1.out⟩
  ·have zi:¬ (k:Int) < (n:Int):=by omega
   have he:fstF L s=none:=fstF_miss fun j hj => HNE.out j (by have:=HN.out; omega)
   have HE:=Lib.hid he
   clear he
   go_wp2_with fail
   go_ret2
   exact ⟨by rw [HE.out]; rfl,HB.out⟩
def inF (f : Fld) (n : Int) : Bool := decide (f.least ≤ n) && decide (n ≤ f.most)
def hasT (L : List ByteArray) (s : ByteArray) : Bool := L.any fun x => x.toList == s.toList
theorem hasT_iff (L : List ByteArray) (s : ByteArray) : hasT L s = true ↔ s ∈ L := by
 unfold hasT
 rw [List.any_eq_true]
 constructor
 ·rintro ⟨x,hx,h⟩
  rw [bytes_of h]; exact hx
 ·intro h
  exact ⟨_,h,by simp⟩
def fitsF (f : Fld) (a : Ans) : Bool := if f.kind = 1 then decide (a.num = 0) && inF f (a.text.size : Int) else if f.kind = 4 then decide (a.num = 0) && hasT f.opts a.text else decide (a.text.size = 0) && inF f a.num
theorem txt_none {L : List ByteArray} {x : ByteArray} (h : ∀ q,q < L.length → L.getD q ⟨#[]⟩ ≠ x) : x ∉ L := fun hx => by
 obtain ⟨j,hj,rfl⟩:=List.getElem_of_mem hx
 refine h j hj ?_
 rw [List.getD_eq_getElem?_getD,List.getElem?_eq_getElem hj]
 rfl
theorem txt_mem {L : List ByteArray} {k : Nat} (hk : k < L.length) : L.getD k ⟨#[]⟩ ∈ L := by
 rw [List.getD_eq_getElem?_getD,List.getElem?_eq_getElem hk]
 exact List.getElem_mem hk
set_option maxRecDepth 100000 in
set_option maxHeartbeats 1000000 in
theorem q_IndexT (v : Value) (L : List ByteArray) (S : Nat → Prop) (s : ByteArray) (w : World) (hv : TxsAt w S v L) (hl : L.length ≤ 1000000) :
  Calls Tryz.prog 96 #[v,.string s] w fun e w' => ∃ k:Int,e=.returned (.int .i64 k) ∧ (0 ≤ k ↔ s ∈ L) ∧ -1 ≤ k ∧ k ≤ 1000000 ∧ w=w':=by
 obtain ⟨A,n,c,rfl,hn,hnc,hc⟩:=hv
 have hn1:n ≤ 1000000:=by omega
 have HC:=Lib.hid hc
 have HN:=Lib.hid hn
 clear hc hn hl
 go_enter Tryz.func96,Tryz.ntmps96
 go_wp2_with fail
 go_loop [5,8] (fun _ i => ∃ k:Nat,k ≤ n ∧ i=.int .i64 k ∧ ∀ j,j < k → L.getD j ⟨#[]⟩ ≠ s) (fun _ i => n - (intOf i).toNat)
 case atStart => exact ⟨0,by omega,rfl,fun j hj => absurd hj (Nat.not_lt_zero _)⟩
 case round =>
  obtain ⟨k,hk,rfl,hne⟩:=hrel
  have HNE:=Lib.hid hne
  clear hne
  by_cases hlt:k < n
  ·obtain ⟨b,off,rfl,hS,hcc⟩:=HC.out (by omega)
   have hcell:=hcc k hlt
   have hm:L.getD k ⟨#[]⟩ ∈ L:=txt_mem (by have:=HN.out; omega)
   obtain ⟨x,hx⟩:∃ x,L.getD k ⟨#[]⟩=x:=⟨_,rfl⟩
   rw [hx] at hcell hm
   have HX:=Lib.hid hx
   have HM:=Lib.hid hm
   have zi:(k:Int) < (n:Int):=by omega
   have z0:(0:Int) ≤ (k:Int):=by omega
   clear hx hcc hm
   cases e1:(s.toList == x.toList)
   ·have hs:x ≠ s:=fun h => by rw [h] at e1; simp at e1
    have HS:=Lib.hid hs
    clear hs
    go_wp2_with fail
    go_round
    case rel => exact ⟨k+1,by omega,by go_num,fun j hj => by
     rcases Nat.lt_or_ge j k with h | h
     ·exact HNE.out j h
     ·rw [show j=k by omega,HX.out]; exact HS.out⟩
    case measure => simp [intOf]; omega
   ·have hs:x=s:=bytes_of e1
    have HS:=Lib.hid hs
    clear hs
    go_wp2_with fail
    go_ret
    exact ⟨(k:Int),rfl,⟨fun _ => HS.out ▸ HM.out,fun _ => by omega⟩,by omega,by omega,rfl⟩
  ·have hj0:¬ (k:Int) < (n:Int):=by omega
   have he:s ∉ L:=txt_none (fun q hq => HNE.out q (by have:=HN.out; omega))
   have HE:=Lib.hid he
   clear he
   go_wp2_with fail
   go_ret
   exact ⟨-1,rfl,⟨fun h => absurd h (by decide),fun h => absurd h HE.out⟩,by decide,by decide,rfl⟩
set_option maxHeartbeats 1000000 in
theorem q_ContainsT (v : Value) (L : List ByteArray) (S : Nat → Prop) (s : ByteArray) (w : World) (hv : TxsAt w S v L) (hl : L.length ≤ 1000000) :
  Calls Tryz.prog 76 #[v,.string s] w fun e w' => e=.returned (.bool (hasT L s)) ∧ w=w':=by
 have HV:=Lib.hid hv
 clear hv
 go_enter Tryz.func76,Tryz.ntmps76
 go_wp2_with (go_at_call 96; refine (q_IndexT _ L S s _ HV.out hl).mono ?_; rintro e w' ⟨k,rfl,hk,h1,h2,rfl⟩; have HK:=Lib.hid hk; clear hk)
 go_ret
 refine ⟨?_,rfl⟩
 have h:=HK.out
 rw [← hasT_iff] at h
 have h2:hasT L s=decide (0 ≤ k):=by rw [Bool.eq_iff_iff,decide_eq_true_iff]; exact h.symm
 rw [h2]
 rfl
set_option maxHeartbeats 1000000 in
theorem f_inF (n : Int) (fb : Nat) (f : Fld) (vo : Value) (W : World) (hb : Blk W fb 63 #[.string f.name,.int .i64 f.kind,.bool f.need,.int .i64 f.least,.int .i64 f.most,vo]) :
  Calls Tryz.prog 75 #[.int .i64 n,.pointer (some ⟨fb,0,none⟩)] W fun e W' => e=.returned (.bool (inF f n)) ∧ W=W':=by
 have c3:=(hb.cell 3).trans (show _=some (Value.int .i64 f.least) from rfl)
 have c4:=(hb.cell 4).trans (show _=some (Value.int .i64 f.most) from rfl)
 clear hb
 obtain ⟨nm,kd,nd,le,mo,op⟩:=f
 by_cases h1:le ≤ n <;> by_cases h2:n ≤ mo
 all_goals
  go_enter Tryz.func75,Tryz.ntmps75
  go_wp2_with fail
  go_ret
  exact ⟨by simp [inF,h1,h2],rfl⟩
set_option maxRecDepth 100000 in
set_option maxHeartbeats 2000000 in
theorem s_fits (f : Fld) (a : Ans) (vo : Value) (S : Nat → Prop) (w : World) (ho : TxsAt w S vo f.opts) (hS : ∀ b,S b → b < w.heap.size) (hl : f.opts.length ≤ 1000000) (hn : f.name = a.field) (ha : a.text.size ≤ 1000000) :
  Calls Tryz.prog 51 #[.agg #[.string f.name,.int .i64 f.kind,.bool f.need,.int .i64 f.least,.int .i64 f.most,vo],.agg #[.string a.field,.string a.text,.int .i64 a.num]] w (BoolBel (fitsF f a) w):=by
 obtain ⟨Ao,no,co,rfl,-⟩:=id ho
 have hb:Below w.heap.size w ((w.alloc (.cells #[.string f.name,.int .i64 f.kind,.bool f.need,.int .i64 f.least,.int .i64 f.most,.slice Ao no co] 63)).alloc (.cells #[.string a.field,.string a.text,.int .i64 a.num] 47)):=((Below.refl _ w).alloc (Nat.le_refl _) _).alloc (by simp) _
 have hb1:Blk ((w.alloc (.cells #[.string f.name,.int .i64 f.kind,.bool f.need,.int .i64 f.least,.int .i64 f.most,.slice Ao no co] 63)).alloc (.cells #[.string a.field,.string a.text,.int .i64 a.num] 47)) w.heap.size 63 #[.string f.name,.int .i64 f.kind,.bool f.need,.int .i64 f.least,.int .i64 f.most,.slice Ao no co]:=(Blk.new w _ _).alloc _
 have hin:=fun n => f_inF n w.heap.size f (.slice Ao no co) _ hb1
 have hct:=q_ContainsT (.slice Ao no co) f.opts S a.text _ (ho.keep fun b hB => hb.block b (hS b hB)) hl
 obtain ⟨nm,kd,nd,le,mo,op⟩:=f
 obtain ⟨fl,tx,nu⟩:=a
 subst hn
 have HB:=Lib.hid hb
 have HIN:=Lib.hid hin
 have HCT:=Lib.hid hct
 have hself:(nm.toList != nm.toList)=false:=by simp
 clear hb hin hct ho hb1
 have HA:=Lib.hid ha
 by_cases k1:kd=1
 ·subst k1
  by_cases n0:nu=0
  ·subst n0
   have e:fitsF ⟨nm,1,nd,le,mo,op⟩ ⟨nm,tx,0⟩=inF ⟨nm,1,nd,le,mo,op⟩ (tx.size:Int):=by simp [fitsF]
   rw [e]
   go_enter Tryz.func51,Tryz.ntmps51
   go_wp2_with (go_at_call 75; refine (HIN.out _).mono ?_; rintro e w' ⟨rfl,rfl⟩)
   go_ret
   exact ⟨rfl,HB.out⟩
  ·have e:fitsF ⟨nm,1,nd,le,mo,op⟩ ⟨nm,tx,nu⟩=false:=by simp [fitsF,n0]
   have hne:(nu == (0:Int))=false:=by simpa using n0
   rw [e]
   go_enter Tryz.func51,Tryz.ntmps51
   go_wp2_with fail
   go_ret
   exact ⟨rfl,HB.out⟩
 ·have hk1:(kd == (1:Int))=false:=by simpa using k1
  by_cases k4:kd=4
  ·subst k4
   by_cases n0:nu=0
   ·subst n0
    have e:fitsF ⟨nm,4,nd,le,mo,op⟩ ⟨nm,tx,0⟩=hasT op tx:=by simp [fitsF]
    rw [e]
    go_enter Tryz.func51,Tryz.ntmps51
    go_wp2_with (go_at_call 76; refine (HCT.out).mono ?_; rintro e w' ⟨rfl,rfl⟩)
    go_ret
    exact ⟨rfl,HB.out⟩
   ·have e:fitsF ⟨nm,4,nd,le,mo,op⟩ ⟨nm,tx,nu⟩=false:=by simp [fitsF,n0]
    have hne:(nu == (0:Int))=false:=by simpa using n0
    rw [e]
    go_enter Tryz.func51,Tryz.ntmps51
    go_wp2_with fail
    go_ret
    exact ⟨rfl,HB.out⟩
  ·have hk4:(kd == (4:Int))=false:=by simpa using k4
   cases t0:(tx.toList == [])
   ·have hne:tx.size ≠ 0:=fun h => by
     have h2:tx=⟨#[]⟩:=by
      obtain ⟨d⟩:=tx
      exact congrArg ByteArray.mk (Array.eq_empty_of_size_eq_zero h)
     rw [h2] at t0; simp at t0
    have e:fitsF ⟨nm,kd,nd,le,mo,op⟩ ⟨nm,tx,nu⟩=false:=by simp [fitsF,k1,k4,hne]
    rw [e]
    go_enter Tryz.func51,Tryz.ntmps51
    go_wp2_with fail
    go_ret
    exact ⟨rfl,HB.out⟩
   ·have heq:tx=⟨#[]⟩:=by
     have h:(tx.toList == (⟨#[]⟩:ByteArray).toList)=true:=by rw [show (⟨#[]⟩:ByteArray).toList = [] from by simp]; exact t0
     exact (bytes_of h).symm
    have e:fitsF ⟨nm,kd,nd,le,mo,op⟩ ⟨nm,tx,nu⟩=inF ⟨nm,kd,nd,le,mo,op⟩ nu:=by simp [fitsF,k1,k4,show tx.size=0 from by rw [heq]; rfl]
    clear heq
    rw [e]
    go_enter Tryz.func51,Tryz.ntmps51
    go_wp2_with (go_at_call 75; refine (HIN.out _).mono ?_; rintro e w' ⟨rfl,rfl⟩)
    go_ret
    exact ⟨rfl,HB.out⟩
end Go.Proofs.YtfinaekeoeeogaaGreatDoor
namespace Go.Proofs.YtfinaekeoeeogaaGreatDoor
open Go.RowKit Num Go.Maps Go.WideMaps
theorem elem_bool_inv {P : Program} {e : TypeId} (he : P.underlying e = some .bool) {v : Value} {z : DataW Unit × List MemPlace} (h : plainElem P e v = some z) : ∃ x,v = .bool x ∧ z = (.lit (.bool x),[]) := by
 unfold plainElem at h
 rw [he] at h
 cases v <;> simp at h
 exact ⟨_,rfl,h.symm⟩
theorem seenLaw : Keyed Tryz.prog 9 := string_keyed Tryz.underlying9
theorem seenZero (w : World) : (zeroValue 4).run Tryz.prog w = .ok (.bool false) w := by kernel_rfl
def keyB (s : ByteArray) : Lit := .string s.data.toList
def SeenM (W : World) (b n : Nat) (X : List ByteArray) : Prop :=
 ∃ D:DataW Unit,W.ownsMap Tryz.prog 9 (plainElem Tryz.prog 4) b n D ∧ ∀ s:ByteArray,s.size ≤ maxLen → D.atKey (keyB s) (.lit (.bool false))=.lit (.bool (hasT X s))
section
variable {W W' : World} {b n : Nat} {X : List ByteArray}
theorem SeenM.new (W : World) : SeenM (W.alloc (.map #[] 0)) W.heap.size 0 [] :=
 ⟨.map [],World.ownsMap_made _ _ _ _,fun s _ => rfl⟩
theorem SeenM.kept {row : Option Nat} (h : SeenM W b n X) (hg : W.grownBy W' row) (hne : some b ≠ row) : SeenM W' b n X := by
 obtain ⟨D,h1,h2⟩:=h
 exact ⟨D,h1.kept hg hne,h2⟩
theorem SeenM.lt (h : SeenM W b n X) : b < W.heap.size := by
 obtain ⟨D,h1,-⟩:=h
 exact h1.lt
theorem SeenM.below (h : SeenM W b n X) (hb : Below W.heap.size W W') : SeenM W' b n X := h.kept (only_of_below hb none) (by simp)
theorem SeenM.alloc (h : SeenM W b n X) (o : Obj) : SeenM (W.alloc o) b n X := h.below (below_al' W o)
set_option maxRecDepth 100000 in
theorem SeenM.look (h : SeenM W b n X) (s : ByteArray) (hs : s.size ≤ maxLen) : (Instr.lookup 98 (.map (some b)) (.string s) false).run Tryz.prog W = .ok (.bool (hasT X s)) W := by
 obtain ⟨D,h1,h2⟩:=h
 obtain ⟨v,ps,hrun,hv⟩:=h1.lookup seenLaw Tryz.underlying98 (seenZero W) (plainElem_bool Tryz.underlying4 false) (keyOf_string_mk Tryz.underlying9 hs)
 have e:=h2 s hs
 unfold keyB at e
 rw [e] at hv
 obtain ⟨x,rfl,hx⟩:=elem_bool_inv Tryz.underlying4 hv
 injection hx with hx1 hx2
 injection hx1 with hx1
 injection hx1 with hx1
 rw [hrun,hx1]
set_option maxRecDepth 100000 in
theorem SeenM.put (h : SeenM W b n X) (hn : n < maxLen) (s : ByteArray) (hs : s.size ≤ maxLen) : ∃ W',(Instr.mapUpdate 98 (.map (some b)) (.string s) (.bool true)).run Tryz.prog W = .ok () W' ∧ SeenM W' b (n + 1) (s :: X) ∧ W.grownBy W' (some b) := by
 obtain ⟨D,h1,h2⟩:=h
 obtain ⟨W',hrun,ho,hg⟩:=h1.update seenLaw Tryz.underlying98 hn (keyOf_string_mk Tryz.underlying9 hs) (plainElem_bool (H:=Unit) Tryz.underlying4 true)
 refine ⟨W',hrun,⟨_,ho,fun t ht => ?_⟩,hg⟩
 have hk:WideAt.IsKeyLit (.string s.data.toList):=seenLaw.key (keyOf_string_mk Tryz.underlying9 hs)
 by_cases e:t=s
 ·subst e
  unfold keyB
  rw [atKey_put_same h1.isMap hk]
  unfold hasT
  simp
 ·have hne:keyB t ≠ keyB s:=fun h => e (by
   unfold keyB at h
   injection h with h
   obtain ⟨⟨dt⟩⟩:=t
   obtain ⟨⟨ds⟩⟩:=s
   simp at h
   rw [h])
  have h3:=atKey_put_other (D:=D) hne (.lit (.bool true)) (.lit (.bool false))
  unfold keyB at h3
  unfold keyB
  rw [h3]
  have h4:=h2 t ht
  unfold keyB at h4
  rw [h4]
  have h5:hasT (s :: X) t=hasT X t:=by
   have hst:(s.toList == t.toList)=false:=by
    cases hh:(s.toList == t.toList) with
    | false => rfl
    | true => exact absurd (bytes_of hh) e
   unfold hasT
   rw [List.any_cons,hst,Bool.false_or]
  rw [h5]
end
end Go.Proofs.YtfinaekeoeeogaaGreatDoor
namespace Go.Proofs.YtfinaekeoeeogaaGreatDoor
open Go.RowKit Num
def lackF (X : List ByteArray) (f : Fld) : Bool := f.need && !hasT X f.name
theorem fldAt_mem {L : List Fld} {k : Nat} (hk : k < L.length) : fldAt L k ∈ L := by
 unfold fldAt
 rw [List.getD_eq_getElem?_getD,List.getElem?_eq_getElem hk]
 exact List.getElem_mem hk
set_option maxRecDepth 100000 in
set_option maxHeartbeats 1000000 in
theorem a_need1 (f : Fld) (Ao : Option Addr) (no co p5 mb m : Nat) (X : List ByteArray) (W : World) (hp : Blk W p5 98 #[.map (some mb)]) (hs : SeenM W mb m X) (hn : f.name.size ≤ maxLen) :
  Calls Tryz.prog 53 #[.agg #[.string f.name,.int .i64 f.kind,.bool f.need,.int .i64 f.least,.int .i64 f.most,.slice Ao no co],.pointer (some ⟨p5,0,none⟩)] W (BoolBel (lackF X f) W):=by
 obtain ⟨nm,kd,nd,le,mo,op⟩:=f
 have hb0:=below_al' W (.cells #[.string nm,.int .i64 kd,.bool nd,.int .i64 le,.int .i64 mo,.slice Ao no co] 63)
 have c0:=(hp.alloc (.cells #[.string nm,.int .i64 kd,.bool nd,.int .i64 le,.int .i64 mo,.slice Ao no co] 63)).cell 0 |>.trans (show _=some (Value.map (some mb)) from rfl)
 have hl:=(hs.alloc (.cells #[.string nm,.int .i64 kd,.bool nd,.int .i64 le,.int .i64 mo,.slice Ao no co] 63)).look nm hn
 have HB:=Lib.hid hb0
 clear hb0 hs hp
 cases nd
 ·have e:lackF X ⟨nm,kd,false,le,mo,op⟩=false:=rfl
  rw [e]
  go_enter Tryz.func53,Tryz.ntmps53
  go_wp2_with fail
  go_ret
  exact ⟨rfl,HB.out⟩
 ·have e:lackF X ⟨nm,kd,true,le,mo,op⟩ = !hasT X nm:=by unfold lackF; rw [Bool.true_and]
  rw [e]
  obtain ⟨bb,hbb⟩:∃ bb,hasT X nm=bb:=⟨_,rfl⟩
  rw [hbb] at hl ⊢
  clear e hbb
  go_enter Tryz.func53,Tryz.ntmps53
  go_wp2_with fail
  go_ret
  exact ⟨rfl,HB.out⟩
set_option maxRecDepth 100000 in
set_option maxHeartbeats 2000000 in
theorem i_need (v : Value) (L : List Fld) (p5 mb m : Nat) (X : List ByteArray) (w : World) (hv : FldsAt w (· < w.heap.size) v L) (hl : L.length ≤ 1000000) (hnm : ∀ f ∈ L,f.name.size ≤ maxLen) (hp : Blk w p5 98 #[.map (some mb)]) (hs : SeenM w mb m X) :
  Calls Tryz.prog 71 #[v,.func (.func 53) #[] #[.pointer (some ⟨p5,0,none⟩)]] w fun e w' => ∃ k:Int,e=.returned (.int .i64 k) ∧ (0 ≤ k ↔ ∃ f ∈ L,lackF X f=true) ∧ -1 ≤ k ∧ k ≤ 1000000 ∧ Below w.heap.size w w':=by
 obtain ⟨A,n,c,rfl,hn,hnc,hc⟩:=hv
 have hn1:n ≤ 1000000:=by omega
 have ha:=fun (W:World) (hW:Below w.heap.size w W) (f:Fld) (Ao:Option Addr) (no co:Nat) (h:f.name.size ≤ maxLen) => a_need1 f Ao no co p5 mb m X W (hp.below' hW hp.lt) (hs.below hW) h
 have HA:=Lib.hid ha
 have HC:=Lib.hid hc
 have HN:=Lib.hid hn
 have HNM:=Lib.hid hnm
 clear ha hc hn hp hs hnm
 go_enter Tryz.func71,Tryz.ntmps71
 go_wp2_with fail
 go_loopw [8] (fun v8 wr => ∃ k:Nat,k ≤ n ∧ v8=.int .i64 (k:Int) ∧ (∀ j,j < k → lackF X (fldAt L j)=false) ∧ Below w.heap.size w wr) (fun v8 _ => n - (intOf v8).toNat)
 case atStart => exact ⟨0,by omega,rfl,fun j hj => absurd hj (Nat.not_lt_zero _),Below.refl _ _⟩
 case round =>
  obtain ⟨k,hk,rfl,hne,hbr⟩:=hrel
  rename World => wr
  have HNE:=Lib.hid hne
  have HBR:=Lib.hid hbr
  clear hne hbr
  by_cases hlt:k < n
  ·obtain ⟨b,off,rfl,hS,hcc⟩:=HC.out (by omega)
   obtain ⟨x0,x1,x2,x3,x4,u,x5,hu⟩:=hcc k hlt
   obtain ⟨Ao,no,co,rfl,-⟩:=hu
   have hm:fldAt L k ∈ L:=fldAt_mem (by have:=HN.out; omega)
   have hcal:=HA.out wr HBR.out (fldAt L k) Ao no co (HNM.out _ hm)
   obtain ⟨t,ht⟩:∃ t,fldAt L k=t:=⟨_,rfl⟩
   rw [ht] at x0 x1 x2 x3 x4 hm hcal
   have e0:=(HBR.out.cell (p:=⟨b,off+k*6,none⟩) hS).trans x0
   have e1:=(HBR.out.cell (p:=⟨b,off+k*6+1,none⟩) hS).trans x1
   have e2:=(HBR.out.cell (p:=⟨b,off+k*6+2,none⟩) hS).trans x2
   have e3:=(HBR.out.cell (p:=⟨b,off+k*6+3,none⟩) hS).trans x3
   have e4:=(HBR.out.cell (p:=⟨b,off+k*6+4,none⟩) hS).trans x4
   have e5:=(HBR.out.cell (p:=⟨b,off+k*6+5,none⟩) hS).trans x5
   have HT:=Lib.hid ht
   have HM:=Lib.hid hm
   have HCAL:=Lib.hid hcal
   have zi:(k:Int) < (n:Int):=by omega
   have z0:(0:Int) ≤ (k:Int):=by omega
   clear x0 x1 x2 x3 x4 x5 hcc ht hm hcal
   cases hbt:lackF X t
   ·rw [hbt] at HCAL
    have HBT:=Lib.hid hbt
    clear hbt
    go_wp2_with fail
    refine HCAL.out.mono ?_
    rintro e w1 ⟨rfl,hb1⟩
    have HB1:=Lib.hid (HBR.out.trans (hb1.mono HBR.out.size))
    clear hb1
    go_wp2_with fail
    go_roundw
    case measure => simp [intOf]; omega
    case rel => exact ⟨k+1,by omega,by go_num,fun j hj => by
     rcases Nat.lt_or_ge j k with h | h
     ·exact HNE.out j h
     ·rw [show j=k by omega,HT.out]; exact HBT.out,HB1.out⟩
   ·rw [hbt] at HCAL
    have HBT:=Lib.hid hbt
    clear hbt
    go_wp2_with fail
    refine HCAL.out.mono ?_
    rintro e w1 ⟨rfl,hb1⟩
    have HB1:=Lib.hid (HBR.out.trans (hb1.mono HBR.out.size))
    clear hb1
    go_wp2_with fail
    go_ret
    exact ⟨(k:Int),rfl,⟨fun _ => ⟨t,HM.out,HBT.out⟩,fun _ => by omega⟩,by omega,by omega,HB1.out⟩
  ·have zi:¬ (k:Int) < (n:Int):=by omega
   have he:¬ ∃ f ∈ L,lackF X f=true:=fun ⟨t,ht,hbt⟩ => by
    obtain ⟨j,hj,e⟩:=List.getElem_of_mem ht
    have h1:=HNE.out j (by have:=HN.out; omega)
    have h2:fldAt L j=t:=by unfold fldAt; rw [List.getD_eq_getElem?_getD,List.getElem?_eq_getElem hj]; exact e
    rw [h2,hbt] at h1
    cases h1
   have HE:=Lib.hid he
   clear he
   go_wp2_with fail
   go_ret
   exact ⟨-1,rfl,⟨fun h => absurd h (by decide),fun h => absurd h HE.out⟩,by decide,by decide,HBR.out⟩
set_option maxRecDepth 100000 in
set_option maxHeartbeats 2000000 in
theorem c_need (v : Value) (L : List Fld) (p5 mb m : Nat) (X : List ByteArray) (w : World) (hv : FldsAt w (· < w.heap.size) v L) (hl : L.length ≤ 1000000) (hnm : ∀ f ∈ L,f.name.size ≤ maxLen) (hp : Blk w p5 98 #[.map (some mb)]) (hs : SeenM w mb m X) :
  Calls Tryz.prog 52 #[v,.func (.func 53) #[] #[.pointer (some ⟨p5,0,none⟩)]] w (BoolBel (L.any (lackF X)) w):=by
 have HC:=Lib.hid (i_need v L p5 mb m X w hv hl hnm hp hs)
 clear hv hl hnm hp hs
 go_enter Tryz.func52,Tryz.ntmps52
 go_wp2_with fail
 refine HC.out.mono ?_
 rintro e w1 ⟨k,rfl,hk,-,-,hb1⟩
 have e9:L.any (lackF X)=decide (0 ≤ k):=by rw [Bool.eq_iff_iff,decide_eq_true_iff,hk,List.any_eq_true]
 have HB1:=Lib.hid hb1
 have HE:=Lib.hid e9
 clear hb1 e9 hk
 go_wp2_with fail
 go_ret
 exact ⟨by rw [HE.out]; rfl,HB1.out⟩
end Go.Proofs.YtfinaekeoeeogaaGreatDoor

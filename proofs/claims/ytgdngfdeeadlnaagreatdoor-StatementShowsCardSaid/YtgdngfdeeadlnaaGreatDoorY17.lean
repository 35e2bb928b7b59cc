/- Contracts: fields are found by their names, by the program and by the reference. And more. -/
import Derived.Test.YtgdngfdeeadlnaaGreatDoorY16
import Derived.Test.YtgdngfdeeadlnaaGreatDoorY15
set_option linter.unusedVariables false
set_option linter.unusedSimpArgs false
namespace Go.Proofs.YtgdngfdeeadlnaaGreatDoor
open Go.RowKit Num
def fstF (L : List Fld) (s : ByteArray) : Option Nat := (List.range L.length).find? fun k => decide ((fldAt L k).name = s)
theorem fstF_hit {L : List Fld} {s : ByteArray} {k : Nat} (hk : k < L.length) (h1 : (fldAt L k).name = s) (h2 : ∀ j,j < k → (fldAt L j).name ≠ s) : fstF L s = some k := by
 unfold fstF
 rw [List.find?_eq_some_iff_getElem]
 refine ⟨by simpa using h1,k,by simpa using hk,by simp,fun j hj => by simpa using h2 j hj⟩
theorem fstF_miss {L : List Fld} {s : ByteArray} (h : ∀ j,j < L.length → (fldAt L j).name ≠ s) : fstF L s = none := by
 unfold fstF
 rw [List.find?_eq_none]
 intro j hj
 simpa using h j (List.mem_range.1 hj)
def idxI : Option Nat → Int
 | some k => (k:Int)
 | none => -1
def FndE (L : List Fld) (s : ByteArray) (w : World) (e : Ending) (w' : World) : Prop := e = .returned (.tuple #[.int .i64 ((((fstF L s).getD 0 : Nat)) : Int),.bool (fstF L s).isSome]) ∧ Below w.heap.size w w'
theorem infoFd : (Tryz.prog.info? 58).map (fun i => (i.zero,i.size,i.bytes)) = some (some (.agg #[.string ⟨#[]⟩,.int .i64 0,.bool false,.int .i64 0,.int .i64 0,.slice none 0 0]),6,72) := by kernel_rfl
set_option maxRecDepth 100000 in
set_option maxHeartbeats 1000000 in
theorem f_sameN (nm s : ByteArray) (kd : Int) (nd : Bool) (le mo : Int) (A : Option Addr) (n c pb : Nat) (w : World) (hp : w.cell? ⟨pb,0,none⟩ = some (.string s)) (hpb : pb < w.heap.size) (b : Bool) (hb : (nm.toList == s.toList) = b) :
  Calls Tryz.prog 76 #[.agg #[.string nm,.int .i64 kd,.bool nd,.int .i64 le,.int .i64 mo,.slice A n c],.pointer (some ⟨pb,0,none⟩)] w (BoolBel b w):=by
 have hp2:(w.alloc (.cells #[.string nm,.int .i64 kd,.bool nd,.int .i64 le,.int .i64 mo,.slice A n c] 58)).cell? ⟨pb,0,none⟩=some (.string s):=(World.cell?_alloc_lt w _ ⟨pb,0,none⟩ hpb).trans hp
 cases b
 all_goals
  go_enter Tryz.func76,Tryz.ntmps76
  go_wp2_with fail
  go_ret
  exact ⟨rfl,(Below.refl _ _).alloc (Nat.le_refl _) _⟩
set_option maxRecDepth 100000 in
set_option maxHeartbeats 1000000 in
theorem s_IndexF (v : Value) (L : List Fld) (S : Nat → Prop) (s : ByteArray) (pb : Nat) (w : World) (hv : FldsAt w S v L) (hS : ∀ b,S b → b < w.heap.size) (hl : L.length ≤ 1000000) (hp : w.cell? ⟨pb,0,none⟩ = some (.string s)) (hpb : pb < w.heap.size) :
  Calls Tryz.prog 75 #[v,.func (.func 76) #[] #[.pointer (some ⟨pb,0,none⟩)]] w fun e w' => e=.returned (.int .i64 (idxI (fstF L s))) ∧ Below w.heap.size w w':=by
 obtain ⟨A,n,c,rfl,hn,hnc,hc⟩:=hv
 have HC:=Lib.hid hc
 have HN:=Lib.hid hn
 have HS:=Lib.hid hS
 have HP:=Lib.hid hp
 have hn1:n ≤ 1000000:=by omega
 clear hc hn hS hl hp
 go_enter Tryz.func75,Tryz.ntmps75
 go_wp2_with fail
 go_loopw [8] (fun v8 wr => ∃ k:Nat,k ≤ n ∧ v8=.int .i64 (k:Int) ∧ (∀ j,j < k → (fldAt L j).name ≠ s) ∧ Below w.heap.size w wr) (fun v8 _ => n - (intOf v8).toNat)
 case atStart => exact ⟨0,by omega,rfl,fun j hj => absurd hj (Nat.not_lt_zero _),Below.refl _ _⟩
 case round =>
  obtain ⟨k,hk,rfl,hne,hb⟩:=hrel
  have HNE:=Lib.hid hne
  have HB:=Lib.hid hb
  have hsz:=hb.size
  clear hne hb
  by_cases hlt:k < n
  ·obtain ⟨b,off,rfl,hSb,hcell⟩:=HC.out (by omega)
   have hbw:=HS.out b hSb
   have hf:=hcell k hlt
   have hhit:=fun h1 => fstF_hit (L:=L) (s:=s) (k:=k) (by have:=HN.out; omega) h1 HNE.out
   have hstep:(fldAt L k).name ≠ s → ∀ j,j < k+1 → (fldAt L j).name ≠ s:=fun h j hj => by
    by_cases e:j=k
    ·subst e; exact h
    ·exact HNE.out j (by omega)
   obtain ⟨f,hfe⟩:∃ f,fldAt L k=f:=⟨_,rfl⟩
   rw [hfe] at hf hhit hstep
   obtain ⟨nm,kd,nd,le,mo,op⟩:=f
   have HH:=Lib.hid hhit
   have HST:=Lib.hid hstep
   clear hhit hstep hfe hcell
   obtain ⟨c0,c1,c2,c3,c4,u,c5,hu⟩:=hf
   obtain ⟨Au,nu,cu,rfl,-⟩:=hu
   have e0:wr.cell? ⟨b,off+k*6,none⟩=_:=(HB.out.cell (p:=⟨b,off+k*6,none⟩) hbw).trans c0
   have e1:wr.cell? ⟨b,off+k*6+1,none⟩=_:=(HB.out.cell (p:=⟨b,off+k*6+1,none⟩) hbw).trans c1
   have e2:wr.cell? ⟨b,off+k*6+2,none⟩=_:=(HB.out.cell (p:=⟨b,off+k*6+2,none⟩) hbw).trans c2
   have e3:wr.cell? ⟨b,off+k*6+3,none⟩=_:=(HB.out.cell (p:=⟨b,off+k*6+3,none⟩) hbw).trans c3
   have e4:wr.cell? ⟨b,off+k*6+4,none⟩=_:=(HB.out.cell (p:=⟨b,off+k*6+4,none⟩) hbw).trans c4
   have e5:wr.cell? ⟨b,off+k*6+5,none⟩=_:=(HB.out.cell (p:=⟨b,off+k*6+5,none⟩) hbw).trans c5
   have hp':wr.cell? ⟨pb,0,none⟩=some (.string s):=(HB.out.cell (p:=⟨pb,0,none⟩) hpb).trans HP.out
   have HP':=Lib.hid hp'
   have zi:(k:Int) < (n:Int):=by omega
   have z0:(0:Int) ≤ (k:Int):=by omega
   clear c0 c1 c2 c3 c4 c5 hp'
   by_cases hs:nm=s
   ·have he:=HH.out hs
    have HE:=Lib.hid he
    have hq:(nm.toList == s.toList)=true:=seq_true hs
    have HQ:=Lib.hid hq
    clear he hs hq
    go_wp2_with fail
    refine (f_sameN nm s kd nd le mo Au nu cu pb _ HP'.out (by omega) true HQ.out).mono ?_
    rintro e w1 ⟨rfl,hb1⟩
    have HB1:=Lib.hid (HB.out.trans (hb1.mono (by omega)))
    clear hb1
    go_wp2_with fail
    go_ret
    exact ⟨by rw [HE.out]; rfl,HB1.out⟩
   ·have hst:=HST.out hs
    have HST2:=Lib.hid hst
    have hq:(nm.toList == s.toList)=false:=seq_false (fun h => hs (blOf_inj h))
    have HQ:=Lib.hid hq
    clear hst hs hq
    go_wp2_with fail
    refine (f_sameN nm s kd nd le mo Au nu cu pb _ HP'.out (by omega) false HQ.out).mono ?_
    rintro e w1 ⟨rfl,hb1⟩
    have HB1:=Lib.hid (HB.out.trans (hb1.mono (by omega)))
    clear hb1
    go_wp2_with fail
    go_roundw
    case measure => simp [intOf]; omega
    case rel => exact ⟨k+1,by omega,by go_num,HST2.out,HB1.out⟩
  ·have zi:¬ (k:Int) < (n:Int):=by omega
   have he:fstF L s=none:=fstF_miss fun j hj => HNE.out j (by have:=HN.out; omega)
   have HE:=Lib.hid he
   clear he
   go_wp2_with fail
   go_ret
   exact ⟨by rw [HE.out]; rfl,HB.out⟩
set_option maxRecDepth 100000 in
set_option maxHeartbeats 1000000 in
theorem f_Find (title s : ByteArray) (v : Value) (L : List Fld) (S : Nat → Prop) (w : World) (hv : FldsAt w S v L) (hS : ∀ b,S b → b < w.heap.size) (hl : L.length ≤ 1000000) :
  Calls Tryz.prog 41 #[.agg #[.string title,v],.string s] w (FndE L s w):=by
 obtain ⟨A,n,c,rfl,-⟩:=id hv
 have hb2:Below w.heap.size w ((w.alloc (.cells #[.string title,.slice A n c] 37)).alloc (.cells #[.string s] 9)):=((Below.refl _ _).alloc (Nat.le_refl _) _).alloc (by simp) _
 have hp:((w.alloc (.cells #[.string title,.slice A n c] 37)).alloc (.cells #[.string s] 9)).cell? ⟨w.heap.size+1,0,none⟩=some (.string s):=by
  have:=(Blk.new (w.alloc (.cells #[.string title,.slice A n c] 37)) 9 #[.string s]).cell 0
  rw [World.size_alloc] at this
  exact this
 have hix:=s_IndexF (.slice A n c) L S s (w.heap.size+1) _ (hv.keep fun b hb => hb2.block b (hS b hb)) (fun b hb => Nat.lt_of_lt_of_le (hS b hb) hb2.size) hl hp (by simp)
 have HX:=Lib.hid hix
 have HB2:=Lib.hid hb2
 clear hix hb2 hp hv
 cases hf:fstF L s with
 | none =>
  rw [hf] at HX
  have HF:=Lib.hid hf
  clear hf
  rw [show idxI none = -1 from rfl] at HX
  go_enter Tryz.func41,Tryz.ntmps41
  go_wp2_with fail
  refine HX.out.mono ?_
  rintro e w1 ⟨rfl,hb1⟩
  have HB1:=Lib.hid (HB2.out.trans (hb1.mono HB2.out.size))
  have hm:max (-1:Int) 0=0:=by decide
  clear hb1
  go_wp2_with fail
  go_ret2
  exact ⟨by rw [HF.out]; rfl,HB1.out⟩
 | some k =>
  rw [hf] at HX
  have HF:=Lib.hid hf
  clear hf
  rw [show idxI (some k)=(k:Int) from rfl] at HX
  go_enter Tryz.func41,Tryz.ntmps41
  go_wp2_with fail
  refine HX.out.mono ?_
  rintro e w1 ⟨rfl,hb1⟩
  have HB1:=Lib.hid (HB2.out.trans (hb1.mono HB2.out.size))
  have hm:max (k:Int) 0=(k:Int):=by omega
  have z0:(0:Int) ≤ (k:Int):=by omega
  clear hb1
  go_wp2_with fail
  go_ret2
  exact ⟨by rw [HF.out]; rfl,HB1.out⟩
set_option maxRecDepth 100000 in
set_option maxHeartbeats 1000000 in
theorem r_Find (title s : ByteArray) (v : Value) (L : List Fld) (S : Nat → Prop) (w : World) (hv : FldsAt w S v L) (hS : ∀ b,S b → b < w.heap.size) (hl : L.length ≤ 1000000) :
  Calls Tryz.prog 44 #[.agg #[.string title,v],.string s] w (FndE L s w):=by
 obtain ⟨A,n,c,rfl,hn,hnc,hc⟩:=hv
 have hb0:Below w.heap.size w (w.alloc (.cells #[.string title,.slice A n c] 37)):=(Below.refl _ _).alloc (Nat.le_refl _) _
 have hs0:(w.alloc (.cells #[.string title,.slice A n c] 37)).heap.size=w.heap.size+1:=by simp
 have HB0:=Lib.hid hb0
 have HC:=Lib.hid hc
 have HN:=Lib.hid hn
 have HS:=Lib.hid hS
 have hn1:n ≤ 1000000:=by omega
 clear hc hn hS hl hb0
 go_enter Tryz.func44,Tryz.ntmps44
 go_wp2_with fail
 go_loopw [11] (fun v11 wr => ∃ k:Nat,k ≤ n ∧ v11=.int .i64 (k:Int) ∧ (∀ j,j < k → (fldAt L j).name ≠ s) ∧ Below w.heap.size w wr) (fun v11 _ => n - (intOf v11).toNat)
 case atStart => exact ⟨0,by omega,rfl,fun j hj => absurd hj (Nat.not_lt_zero _),HB0.out⟩
 case round =>
  obtain ⟨k,hk,rfl,hne,hb⟩:=hrel
  have HNE:=Lib.hid hne
  have HB:=Lib.hid hb
  have hsz:=hb.size
  clear hne hb
  by_cases hlt:k < n
  ·obtain ⟨b,off,rfl,hSb,hcell⟩:=HC.out (by omega)
   have hbw:=HS.out b hSb
   have hf:=hcell k hlt
   have hhit:=fun h1 => fstF_hit (L:=L) (s:=s) (k:=k) (by have:=HN.out; omega) h1 HNE.out
   have hstep:(fldAt L k).name ≠ s → ∀ j,j < k+1 → (fldAt L j).name ≠ s:=fun h j hj => by
    by_cases e:j=k
    ·subst e; exact h
    ·exact HNE.out j (by omega)
   obtain ⟨f,hfe⟩:∃ f,fldAt L k=f:=⟨_,rfl⟩
   rw [hfe] at hf hhit hstep
   obtain ⟨nm,kd,nd,le,mo,op⟩:=f
   have HH:=Lib.hid hhit
   have HST:=Lib.hid hstep
   clear hhit hstep hfe hcell
   obtain ⟨c0,c1,c2,c3,c4,u,c5,hu⟩:=hf
   obtain ⟨Au,nu,cu,rfl,-⟩:=hu
   have e0:wr.cell? ⟨b,off+k*6,none⟩=_:=(HB.out.cell (p:=⟨b,off+k*6,none⟩) hbw).trans c0
   have e1:wr.cell? ⟨b,off+k*6+1,none⟩=_:=(HB.out.cell (p:=⟨b,off+k*6+1,none⟩) hbw).trans c1
   have e2:wr.cell? ⟨b,off+k*6+2,none⟩=_:=(HB.out.cell (p:=⟨b,off+k*6+2,none⟩) hbw).trans c2
   have e3:wr.cell? ⟨b,off+k*6+3,none⟩=_:=(HB.out.cell (p:=⟨b,off+k*6+3,none⟩) hbw).trans c3
   have e4:wr.cell? ⟨b,off+k*6+4,none⟩=_:=(HB.out.cell (p:=⟨b,off+k*6+4,none⟩) hbw).trans c4
   have e5:wr.cell? ⟨b,off+k*6+5,none⟩=_:=(HB.out.cell (p:=⟨b,off+k*6+5,none⟩) hbw).trans c5
   have HB1:=Lib.hid (HB.out.alloc hsz (.cells #[.string nm,.int .i64 kd,.bool nd,.int .i64 le,.int .i64 mo,.slice Au nu cu] 58))
   have zi:(k:Int) < (n:Int):=by omega
   have z0:(0:Int) ≤ (k:Int):=by omega
   clear c0 c1 c2 c3 c4 c5
   by_cases hs:nm=s
   ·have he:=HH.out hs
    have HE:=Lib.hid he
    have hq:(nm.toList == s.toList)=true:=seq_true hs
    clear he hs
    go_wp2_with fail
    go_ret2
    exact ⟨by rw [HE.out]; rfl,HB1.out⟩
   ·have hst:=HST.out hs
    have HST2:=Lib.hid hst
    have hq:(nm.toList == s.toList)=false:=seq_false (fun h => hs (blOf_inj h))
    clear hst hs
    go_wp2_with fail
    go_roundw
    case measure => simp [intOf]; omega
    case rel => exact ⟨k+1,by omega,by go_num,HST2.out,HB1.out⟩
  ·have zi:¬ (k:Int) < (n:Int):=by omega
   have he:fstF L s=none:=fstF_miss fun j hj => HNE.out j (by have:=HN.out; omega)
   have HE:=Lib.hid he
   clear he
   go_wp2_with fail
   go_ret2
   exact ⟨by rw [HE.out]; rfl,HB.out⟩
def inF (f : Fld) (n : Int) : Bool := decide (f.least ≤ n) && decide (n ≤ f.most)
def hasT (L : List ByteArray) (s : ByteArray) : Bool := L.any fun x => x.toList == s.toList
theorem hasT_iff (L : List ByteArray) (s : ByteArray) : hasT L s = true ↔ s ∈ L := by
 unfold hasT
 rw [List.any_eq_true]
 constructor
 ·rintro ⟨x,hx,h⟩
  rw [bytes_of h]; exact hx
 ·intro h
  exact ⟨_,h,by simp⟩
def fitsF (f : Fld) (a : Ans) : Bool := if f.kind = 1 then decide (a.num = 0) && inF f (a.text.size : Int) else if f.kind = 4 then decide (a.num = 0) && hasT f.opts a.text else decide (a.text.size = 0) && inF f a.num
theorem txt_none {L : List ByteArray} {x : ByteArray} (h : ∀ q,q < L.length → L.getD q ⟨#[]⟩ ≠ x) : x ∉ L := fun hx => by
 obtain ⟨j,hj,rfl⟩:=List.getElem_of_mem hx
 refine h j hj ?_
 rw [List.getD_eq_getElem?_getD,List.getElem?_eq_getElem hj]
 rfl
theorem txt_mem {L : List ByteArray} {k : Nat} (hk : k < L.length) : L.getD k ⟨#[]⟩ ∈ L := by
 rw [List.getD_eq_getElem?_getD,List.getElem?_eq_getElem hk]
 exact List.getElem_mem hk
set_option maxRecDepth 100000 in
set_option maxHeartbeats 1000000 in
theorem q_IndexT (v : Value) (L : List ByteArray) (S : Nat → Prop) (s : ByteArray) (w : World) (hv : TxsAt w S v L) (hl : L.length ≤ 1000000) :
  Calls Tryz.prog 115 #[v,.string s] w fun e w' => ∃ k:Int,e=.returned (.int .i64 k) ∧ (0 ≤ k ↔ s ∈ L) ∧ -1 ≤ k ∧ k ≤ 1000000 ∧ w=w':=by
 obtain ⟨A,n,c,rfl,hn,hnc,hc⟩:=hv
 have hn1:n ≤ 1000000:=by omega
 have HC:=Lib.hid hc
 have HN:=Lib.hid hn
 clear hc hn hl
 go_enter Tryz.func115,Tryz.ntmps115
 go_wp2_with fail
 go_loop [5,8] (fun _ i => ∃ k:Nat,k ≤ n ∧ i=.int .i64 k ∧ ∀ j,j < k → L.getD j ⟨#[]⟩ ≠ s) (fun _ i => n - (intOf i).toNat)
 case atStart => exact ⟨0,by omega,rfl,fun j hj => absurd hj (Nat.not_lt_zero _)⟩
 case round =>
  obtain ⟨k,hk,rfl,hne⟩:=hrel
  have HNE:=Lib.hid hne
  clear hne
  by_cases hlt:k < n
  ·obtain ⟨b,off,rfl,hS,hcc⟩:=HC.out (by omega)
   have hcell:=hcc k hlt
   have hm:L.getD k ⟨#[]⟩ ∈ L:=txt_mem (by have:=HN.out; omega)
   obtain ⟨x,hx⟩:∃ x,L.getD k ⟨#[]⟩=x:=⟨_,rfl⟩
   rw [hx] at hcell hm
   have HX:=Lib.hid hx
   have HM:=Lib.hid hm
   have zi:(k:Int) < (n:Int):=by omega
   have z0:(0:Int) ≤ (k:Int):=by omega
   clear hx hcc hm
   cases e1:(s.toList == x.toList)
   ·have hs:x ≠ s:=fun h => by rw [h] at e1; simp at e1
    have HS:=Lib.hid hs
    clear hs
    go_wp2_with fail
    go_round
    case rel => exact ⟨k+1,by omega,by go_num,fun j hj => by
     rcases Nat.lt_or_ge j k with h | h
     ·exact HNE.out j h
     ·rw [show j=k by omega,HX.out]; exact HS.out⟩
    case measure => simp [intOf]; omega
   ·have hs:x=s:=bytes_of e1
    have HS:=Lib.hid hs
    clear hs
    go_wp2_with fail
    go_ret
    exact ⟨(k:Int),rfl,⟨fun _ => HS.out ▸ HM.out,fun _ => by omega⟩,by omega,by omega,rfl⟩
  ·have hj0:¬ (k:Int) < (n:Int):=by omega
   have he:s ∉ L:=txt_none (fun q hq => HNE.out q (by have:=HN.out; omega))
   have HE:=Lib.hid he
   clear he
   go_wp2_with fail
   go_ret
   exact ⟨-1,rfl,⟨fun h => absurd h (by decide),fun h => absurd h HE.out⟩,by decide,by decide,rfl⟩
set_option maxHeartbeats 1000000 in
theorem q_ContainsT (v : Value) (L : List ByteArray) (S : Nat → Prop) (s : ByteArray) (w : World) (hv : TxsAt w S v L) (hl : L.length ≤ 1000000) :
  Calls Tryz.prog 81 #[v,.string s] w fun e w' => e=.returned (.bool (hasT L s)) ∧ w=w':=by
 have HV:=Lib.hid hv
 clear hv
 go_enter Tryz.func81,Tryz.ntmps81
 go_wp2_with (go_at_call 115; refine (q_IndexT _ L S s _ HV.out hl).mono ?_; rintro e w' ⟨k,rfl,hk,h1,h2,rfl⟩; have HK:=Lib.hid hk; clear hk)
 go_ret
 refine ⟨?_,rfl⟩
 have h:=HK.out
 rw [← hasT_iff] at h
 have h2:hasT L s=decide (0 ≤ k):=by rw [Bool.eq_iff_iff,decide_eq_true_iff]; exact h.symm
 rw [h2]
 rfl
set_option maxHeartbeats 1000000 in
theorem f_inF (n : Int) (fb : Nat) (f : Fld) (vo : Value) (W : World) (hb : Blk W fb 58 #[.string f.name,.int .i64 f.kind,.bool f.need,.int .i64 f.least,.int .i64 f.most,vo]) :
  Calls Tryz.prog 80 #[.int .i64 n,.pointer (some ⟨fb,0,none⟩)] W fun e W' => e=.returned (.bool (inF f n)) ∧ W=W':=by
 have c3:=(hb.cell 3).trans (show _=some (Value.int .i64 f.least) from rfl)
 have c4:=(hb.cell 4).trans (show _=some (Value.int .i64 f.most) from rfl)
 clear hb
 obtain ⟨nm,kd,nd,le,mo,op⟩:=f
 by_cases h1:le ≤ n <;> by_cases h2:n ≤ mo
 all_goals
  go_enter Tryz.func80,Tryz.ntmps80
  go_wp2_with fail
  go_ret
  exact ⟨by simp [inF,h1,h2],rfl⟩
set_option maxRecDepth 100000 in
set_option maxHeartbeats 2000000 in
theorem s_fits (f : Fld) (a : Ans) (vo : Value) (S : Nat → Prop) (w : World) (ho : TxsAt w S vo f.opts) (hS : ∀ b,S b → b < w.heap.size) (hl : f.opts.length ≤ 1000000) (hn : f.name = a.field) (ha : a.text.size ≤ 1000000) :
  Calls Tryz.prog 43 #[.agg #[.string f.name,.int .i64 f.kind,.bool f.need,.int .i64 f.least,.int .i64 f.most,vo],.agg #[.string a.field,.string a.text,.int .i64 a.num]] w (BoolBel (fitsF f a) w):=by
 obtain ⟨Ao,no,co,rfl,-⟩:=id ho
 have hb:Below w.heap.size w ((w.alloc (.cells #[.string f.name,.int .i64 f.kind,.bool f.need,.int .i64 f.least,.int .i64 f.most,.slice Ao no co] 58)).alloc (.cells #[.string a.field,.string a.text,.int .i64 a.num] 50)):=((Below.refl _ w).alloc (Nat.le_refl _) _).alloc (by simp) _
 have hb1:Blk ((w.alloc (.cells #[.string f.name,.int .i64 f.kind,.bool f.need,.int .i64 f.least,.int .i64 f.most,.slice Ao no co] 58)).alloc (.cells #[.string a.field,.string a.text,.int .i64 a.num] 50)) w.heap.size 58 #[.string f.name,.int .i64 f.kind,.bool f.need,.int .i64 f.least,.int .i64 f.most,.slice Ao no co]:=(Blk.new w _ _).alloc _
 have hin:=fun n => f_inF n w.heap.size f (.slice Ao no co) _ hb1
 have hct:=q_ContainsT (.slice Ao no co) f.opts S a.text _ (ho.keep fun b hB => hb.block b (hS b hB)) hl
 obtain ⟨nm,kd,nd,le,mo,op⟩:=f
 obtain ⟨fl,tx,nu⟩:=a
 subst hn
 have HB:=Lib.hid hb
 have HIN:=Lib.hid hin
 have HCT:=Lib.hid hct
 have hself:(nm.toList != nm.toList)=false:=by simp
 clear hb hin hct ho hb1
 have HA:=Lib.hid ha
 by_cases k1:kd=1
 ·subst k1
  by_cases n0:nu=0
  ·subst n0
   have e:fitsF ⟨nm,1,nd,le,mo,op⟩ ⟨nm,tx,0⟩=inF ⟨nm,1,nd,le,mo,op⟩ (tx.size:Int):=by simp [fitsF]
   rw [e]
   go_enter Tryz.func43,Tryz.ntmps43
   go_wp2_with (go_at_call 80; refine (HIN.out _).mono ?_; rintro e w' ⟨rfl,rfl⟩)
   go_ret
   exact ⟨rfl,HB.out⟩
  ·have e:fitsF ⟨nm,1,nd,le,mo,op⟩ ⟨nm,tx,nu⟩=false:=by simp [fitsF,n0]
   have hne:(nu == (0:Int))=false:=by simpa using n0
   rw [e]
   go_enter Tryz.func43,Tryz.ntmps43
   go_wp2_with fail
   go_ret
   exact ⟨rfl,HB.out⟩
 ·have hk1:(kd == (1:Int))=false:=by simpa using k1
  by_cases k4:kd=4
  ·subst k4
   by_cases n0:nu=0
   ·subst n0
    have e:fitsF ⟨nm,4,nd,le,mo,op⟩ ⟨nm,tx,0⟩=hasT op tx:=by simp [fitsF]
    rw [e]
    go_enter Tryz.func43,Tryz.ntmps43
    go_wp2_with (go_at_call 81; refine (HCT.out).mono ?_; rintro e w' ⟨rfl,rfl⟩)
    go_ret
    exact ⟨rfl,HB.out⟩
   ·have e:fitsF ⟨nm,4,nd,le,mo,op⟩ ⟨nm,tx,nu⟩=false:=by simp [fitsF,n0]
    have hne:(nu == (0:Int))=false:=by simpa using n0
    rw [e]
    go_enter Tryz.func43,Tryz.ntmps43
    go_wp2_with fail
    go_ret
    exact ⟨rfl,HB.out⟩
  ·have hk4:(kd == (4:Int))=false:=by simpa using k4
   cases t0:(tx.toList == [])
   ·have hne:tx.size ≠ 0:=fun h => by
     have h2:tx=⟨#[]⟩:=by
      obtain ⟨d⟩:=tx
      exact congrArg ByteArray.mk (Array.eq_empty_of_size_eq_zero h)
     rw [h2] at t0; simp at t0
    have e:fitsF ⟨nm,kd,nd,le,mo,op⟩ ⟨nm,tx,nu⟩=false:=by simp [fitsF,k1,k4,hne]
    rw [e]
    go_enter Tryz.func43,Tryz.ntmps43
    go_wp2_with fail
    go_ret
    exact ⟨rfl,HB.out⟩
   ·have heq:tx=⟨#[]⟩:=by
     have h:(tx.toList == (⟨#[]⟩:ByteArray).toList)=true:=by rw [show (⟨#[]⟩:ByteArray).toList = [] from by simp]; exact t0
     exact (bytes_of h).symm
    have e:fitsF ⟨nm,kd,nd,le,mo,op⟩ ⟨nm,tx,nu⟩=inF ⟨nm,kd,nd,le,mo,op⟩ nu:=by simp [fitsF,k1,k4,show tx.size=0 from by rw [heq]; rfl]
    clear heq
    rw [e]
    go_enter Tryz.func43,Tryz.ntmps43
    go_wp2_with (go_at_call 80; refine (HIN.out _).mono ?_; rintro e w' ⟨rfl,rfl⟩)
    go_ret
    exact ⟨rfl,HB.out⟩
end Go.Proofs.YtgdngfdeeadlnaaGreatDoor

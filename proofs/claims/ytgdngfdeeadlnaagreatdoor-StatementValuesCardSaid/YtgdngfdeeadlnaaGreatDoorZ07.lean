/- Contracts: the terms of a condition as a tree. And more. -/
import Derived.Test.YtgdngfdeeadlnaaGreatDoorZ05
import Derived.Test.YtgdngfdeeadlnaaGreatDoorZ06
set_option linter.unusedVariables false
set_option linter.unusedSimpArgs false
namespace Go.Proofs.YtgdngfdeeadlnaaGreatDoor
open Go.RowKit Num
set_option maxRecDepth 100000 in
set_option maxHeartbeats 4000000 in
theorem f_grow_one (A : Option Addr) (n c b off at_ d B : Nat) (t : Trm) (w : World) (hA : A = some ⟨b,off,none⟩) (hb : b < w.heap.size) (hat : at_ < n) (hn : n ≤ 1000000) (hd : 1 ≤ d) (hd2 : d ≤ 1000) (hT : TermAt w (· < B) b (off + at_ * 6) t)
  (hf:t.field.size ≤ 4294967296) (hx:t.text.size ≤ 4294967296) (hbare:bareB t=true) (hv:severalB t.kind=true) (hlen:t.args.length=1) :
  Calls Tryz.prog 119 #[.slice A n c,.int .i64 (at_:Int),.int .i64 (d:Int)] w (GrowNo w):=by
 have hmx:Tryz.prog.follows .mixedOrders=true:=by kernel_rfl
 subst hA
 have q0:decide ((n:Int) ≤ (at_:Int))=false:=by simp; omega
 have q1:decide ((d:Int) < 1)=false:=by simp; omega
 have q00:decide (n ≤ at_)=false:=by simp; omega
 have q11:decide (d < 1)=false:=by simp; omega
 have q12:decide (d=0)=false:=by simp; omega
 have q2:(0:Int) ≤ (at_:Int):=by omega
 have q3:(at_:Int) < (n:Int):=by omega
 obtain ⟨tk,tn,ty,tf,tt,ta⟩:=t
 obtain ⟨c0,c1,c2,c3,c4,u5,c5,hi5⟩:=hT
 have HB:=Lib.hid hbare
 obtain ⟨Aa,na,ca,rfl,hna,hca,hcell⟩:=hi5
 have KS:=Lib.hid (fun (W:World) (hW:Below w.heap.size w W) => (⟨(hW.cell (p:=⟨b,_,none⟩) hb).trans c0,(hW.cell (p:=⟨b,_,none⟩) hb).trans c1,(hW.cell (p:=⟨b,_,none⟩) hb).trans c2,(hW.cell (p:=⟨b,_,none⟩) hb).trans c3,(hW.cell (p:=⟨b,_,none⟩) hb).trans c4,(hW.cell (p:=⟨b,_,none⟩) hb).trans c5,Lib.hid hW⟩:(fun W => W.cell? ⟨b,off+at_*6,none⟩=some (.int .i64 tk) ∧ W.cell? ⟨b,off+at_*6+1,none⟩=some (.int .i64 tn) ∧ W.cell? ⟨b,off+at_*6+2,none⟩=some (.int .i64 ty) ∧ W.cell? ⟨b,off+at_*6+3,none⟩=some (.string tf) ∧ W.cell? ⟨b,off+at_*6+4,none⟩=some (.string tt) ∧ W.cell? ⟨b,off+at_*6+5,none⟩=some (.slice Aa na ca) ∧ Hid (Below w.heap.size w W)) W))
 have HS0:=Lib.hid (KS.out _ (Below.refl _ _).drew)
 have HV:=Lib.hid hv
 have na1:na=1:=by
  simp only at hna hlen
  omega
 have p1:decide ((0:Int) < (na:Int))=true:=by simp; omega
 have p2:decide (0 < na)=true:=by simp; omega
 have p3:((na:Int) == 1)=true:=by simp; omega
 clear na1
 clear hbare c0 c1 c2 c3 c4 c5 hna hca hcell hv hlen
 go_enter Tryz.func119,Tryz.ntmps119
 go_wp2_with fail
 refine wp_region_held_drew (S:=(fun W => W.cell? ⟨b,off+at_*6,none⟩=some (.int .i64 tk) ∧ W.cell? ⟨b,off+at_*6+1,none⟩=some (.int .i64 tn) ∧ W.cell? ⟨b,off+at_*6+2,none⟩=some (.int .i64 ty) ∧ W.cell? ⟨b,off+at_*6+3,none⟩=some (.string tf) ∧ W.cell? ⟨b,off+at_*6+4,none⟩=some (.string tt) ∧ W.cell? ⟨b,off+at_*6+5,none⟩=some (.slice Aa na ca) ∧ Hid (Below w.heap.size w W))) hmx HS0.out (fun hHeld => ?_)
 refine t1 0 rfl ?_
 try simp only [pt]
 refine t1 1 rfl ?_
 try simp only [pt]
 refine t1 2 rfl ?_
 try simp only [pt]
 refine t1 3 rfl ?_
 try simp only [pt]
 refine t1 4 rfl ?_
 try simp only [pt]
 refine t1 5 rfl ?_
 try simp only [pt]
 refine t1 6 rfl ?_
 try simp only [pt]
 refine t1 7 rfl ?_
 try simp only [pt]
 refine t1 8 rfl ?_
 try simp only [pt]
 refine t1 9 rfl ?_
 try simp only [pt]
 refine t1 10 rfl ?_
 try simp only [pt]
 refine t1 11 rfl ?_
 try simp only [pt]
 refine t1 12 rfl ?_
 try simp only [pt]
 refine wpAnyH_ready (rs:=[13]) (by kernel_rfl) (by simp) ?_
 refine AllReadyH.cons rfl (fun K hK => ?_) AllReadyH.nil
 go_simp
 go_at_call 153
 refine (f_bare tk tn ty tf tt _ _ _ ta _ hf hx).mono ?_
 rintro e wk ⟨rfl,hbk⟩
 rw [HB.out]
 have HK:=Lib.hid (KS.out wk ((Below.refl w.heap.size w).drew.trans hbk))
 clear hbk
 refine hK.out _ _ (HK.out) (fun hHeld => ?_)
 clear hK K
 try simp only [pt]
 refine t1 14 rfl ?_
 try simp only [pt]
 refine t1 15 rfl ?_
 try simp only [pt]
 refine t1 16 rfl ?_
 try simp only [pt]
 refine t1 17 rfl ?_
 try simp only [pt]
 refine t1 18 rfl ?_
 try simp only [pt]
 refine t1 19 rfl ?_
 try simp only [pt]
 refine t1 20 rfl ?_
 try simp only [pt]
 refine t1 21 rfl ?_
 try simp only [pt]
 refine t1 23 rfl ?_
 try simp only [pt]
 refine t1 24 rfl ?_
 try simp only [pt]
 refine t1 25 rfl ?_
 try simp only [pt]
 refine t1 26 rfl ?_
 try simp only [pt]
 refine t1 27 rfl ?_
 try simp only [pt]
 refine t1 28 rfl ?_
 try simp only [pt]
 refine t1 29 rfl ?_
 try simp only [pt]
 refine wpAnyH_ready (rs:=[22]) (by kernel_rfl) (by simp) ?_
 refine AllReadyH.cons rfl (fun K hK => ?_) AllReadyH.nil
 go_simp
 go_at_call 154
 refine (f_several tk _).mono ?_
 rintro e wk' ⟨rfl,rfl⟩
 rw [HV.out]
 refine hK.out _ _ (HK.out) (fun hHeld => ?_)
 clear hK K
 try simp only [pt]
 refine t1 30 rfl ?_
 try simp only [pt]
 refine t1 31 rfl ?_
 try simp only [pt]
 refine t1 32 rfl ?_
 try simp only [pt]
 refine t1 33 rfl ?_
 try simp only [pt]
 refine t1 34 rfl ?_
 try simp only [pt]
 refine t1 35 rfl ?_
 try simp only [pt]
 refine t1 36 rfl ?_
 try simp only [pt]
 refine t1 37 rfl ?_
 try simp only [pt]
 refine t1 38 rfl ?_
 try simp only [pt]
 refine t1 39 rfl ?_
 try simp only [pt]
 refine t1 40 rfl ?_
 try simp only [pt]
 refine wpAnyH_done (by kernel_rfl) ?_ _
 go_wp2_with fail
 go_ret3
 exact ⟨rfl,HK.out.2.2.2.2.2.2.out⟩
def GrowPost (w : World) (B d : Nat) : Option (Tree × Nat) → Ending → World → Prop
 | none => GrowNo w
 | some (T,m) => fun e w' => ∃ v,e=.returned (.tuple #[v,.int .i64 (m:Int),.bool true]) ∧ TreeAt w' (fun c => c < B ∨ (w.heap.size ≤ c ∧ c < w'.heap.size)) d v T ∧ Below w.heap.size w w'
def growN (t : Trm) : Option (List Tree × Nat) → Option (Tree × Nat)
 | none => none
 | some (xs,m) => some (.node t xs,m)
def TrmOk (t : Trm) : Prop := t.field.size ≤ 4294967296 ∧ t.text.size ≤ 4294967296 ∧ t.args.length ≤ 1000000
theorem infoP : (Tryz.prog.info? 138).map (fun i => (i.zero,i.size,i.bytes)) = some (some (.pointer none),1,8) := by kernel_rfl
set_option maxRecDepth 100000 in
set_option maxHeartbeats 4000000 in
theorem f_grow_main (L : List Trm) (d d' : Nat) (hd' : d + 1 = d')
    (ih:∀ (v:Value) (at_ B:Nat) (w:World),TermsAt w (· < B) v L → B ≤ w.heap.size → at_ ≤ 1000000 → Calls Tryz.prog 119 #[v,.int .i64 (at_:Int),.int .i64 (d:Int)] w (GrowPost w B d (growF L d at_)))
    (A:Option Addr) (n c b off at_ B:Nat) (t:Trm) (w:World) (hv:TermsAt w (· < B) (.slice A n c) L) (hB:B ≤ w.heap.size) (hA:A=some ⟨b,off,none⟩) (hb:b < w.heap.size) (hat:at_ < n) (hn:n ≤ 1000000) (hd2:d' ≤ 1000) (hT:TermAt w (· < B) b (off+at_*6) t)
    (hf:t.field.size ≤ 4294967296) (hx:t.text.size ≤ 4294967296) (hlen:t.args.length ≤ 1000000) (hbare:bareB t=true) (hargs:argsOk t=true) :
    Calls Tryz.prog 119 #[.slice A n c,.int .i64 (at_:Int),.int .i64 (d':Int)] w (GrowPost w B d' (growN t (growA (growF L d) t.args (at_+1)))):=by
  obtain ⟨i0,hi,hz0,hz1,hz2⟩:=info_parts infoP
  have hd:1 ≤ d':=by omega
  have ih:∀ (v:Value) (at_ B:Nat) (w:World),TermsAt w (· < B) v L → B ≤ w.heap.size → at_ ≤ 1000000 → Calls Tryz.prog 119 #[v,.int .i64 (at_:Int),.int .i64 ((d':Int) - 1)] w (GrowPost w B d (growF L d at_)):=by
    have e:((d':Int) - 1)=(d:Int):=by omega
    rw [e]; exact ih
  have HV:=Lib.hid hv
  have HIH:=Lib.hid ih
  have HD:=Lib.hid hd'
  obtain ⟨T0,hT0⟩:∃ T0,T0=t:=⟨_,rfl⟩
  have e0:growN t (growA (growF L d) t.args (at_+1))=growN T0 (growA (growF L d) T0.args (at_+1)):=by rw [hT0]
  rw [e0]
  have HT0:=Lib.hid hT0
  have hi0:∃ ta,w.cell? ⟨b,off+at_*6+5,none⟩=some ta ∧ IntsAt w (· < B) ta T0.args:=by rw [hT0]; exact hT.2.2.2.2.2
  obtain ⟨ta_,hta1,hta2⟩:=hi0
  have HTA:=Lib.hid (And.intro hta1 hta2)
  clear e0 hT0 hv ih hd' hta1 hta2
  have hmx:Tryz.prog.follows .mixedOrders=true:=by kernel_rfl
  subst hA
  have q0:decide ((n:Int) ≤ (at_:Int))=false:=by simp; omega
  have q1:decide ((d':Int) < 1)=false:=by simp; omega
  have q00:decide (n ≤ at_)=false:=by simp; omega
  have q11:decide (d' < 1)=false:=by simp; omega
  have q12:decide (d'=0)=false:=by simp; omega
  have q2:(0:Int) ≤ (at_:Int):=by omega
  have q3:(at_:Int) < (n:Int):=by omega
  obtain ⟨tk,tn,ty,tf,tt,ta⟩:=t
  obtain ⟨c0,c1,c2,c3,c4,u5,c5,hi5⟩:=hT
  have HB:=Lib.hid hbare
  obtain ⟨Aa,na,ca,rfl,hna,hca,hcell⟩:=hi5
  have KS:=Lib.hid (fun (W:World) (hW:Below w.heap.size w W) => (⟨(hW.cell (p:=⟨b,_,none⟩) hb).trans c0,(hW.cell (p:=⟨b,_,none⟩) hb).trans c1,(hW.cell (p:=⟨b,_,none⟩) hb).trans c2,(hW.cell (p:=⟨b,_,none⟩) hb).trans c3,(hW.cell (p:=⟨b,_,none⟩) hb).trans c4,(hW.cell (p:=⟨b,_,none⟩) hb).trans c5,Lib.hid hW⟩:(fun W => W.cell? ⟨b,off+at_*6,none⟩=some (.int .i64 tk) ∧ W.cell? ⟨b,off+at_*6+1,none⟩=some (.int .i64 tn) ∧ W.cell? ⟨b,off+at_*6+2,none⟩=some (.int .i64 ty) ∧ W.cell? ⟨b,off+at_*6+3,none⟩=some (.string tf) ∧ W.cell? ⟨b,off+at_*6+4,none⟩=some (.string tt) ∧ W.cell? ⟨b,off+at_*6+5,none⟩=some (.slice Aa na ca) ∧ Hid (Below w.heap.size w W)) W))
  have HS0:=Lib.hid (KS.out _ (Below.refl _ _).drew)
  have hv:severalB tk=decide (0 < na):=by
    unfold argsOk at hargs
    rw [Bool.and_eq_true] at hargs
    have:=hargs.1
    simp only at hna this
    rw [hna]; simpa using this
  have hne:na ≠ 1:=by
    unfold argsOk at hargs
    rw [Bool.and_eq_true] at hargs
    have:=hargs.2
    simp only at hna this
    rw [hna]; simpa using this
  have na1:na ≤ 1000000:=by
    simp only at hna hlen
    omega
  have hta:ta_=.slice Aa na ca:=by
    have:=HTA.out.1
    rw [c5] at this
    injection this with this
    exact this.symm
  subst hta
  have p3:((na:Int) == 1)=false:=by simp; omega
  have HSV:=Lib.hid hv
  have HNA:=Lib.hid hna
  have HCELL:=Lib.hid hcell
  clear hbare c0 c1 c2 c3 c4 c5 hna hca hcell hargs hlen hv hne
  have HTS:=HV
  clear HV
  obtain ⟨dv,hdv⟩:∃ dv,decide (0 < na)=dv:=⟨_,rfl⟩
  have p1:decide ((0:Int) < (na:Int))=dv:=by rw [← hdv]; simp
  have HV:=Lib.hid (HSV.out.trans hdv)
  go_enter Tryz.func119,Tryz.ntmps119
  go_wp2_with fail
  refine wp_region_held_drew (S:=(fun W => W.cell? ⟨b,off+at_*6,none⟩=some (.int .i64 tk) ∧ W.cell? ⟨b,off+at_*6+1,none⟩=some (.int .i64 tn) ∧ W.cell? ⟨b,off+at_*6+2,none⟩=some (.int .i64 ty) ∧ W.cell? ⟨b,off+at_*6+3,none⟩=some (.string tf) ∧ W.cell? ⟨b,off+at_*6+4,none⟩=some (.string tt) ∧ W.cell? ⟨b,off+at_*6+5,none⟩=some (.slice Aa na ca) ∧ Hid (Below w.heap.size w W))) hmx HS0.out (fun hHeld => ?_)
  refine t1 0 rfl ?_
  try simp only [pt]
  refine t1 1 rfl ?_
  try simp only [pt]
  refine t1 2 rfl ?_
  try simp only [pt]
  refine t1 3 rfl ?_
  try simp only [pt]
  refine t1 4 rfl ?_
  try simp only [pt]
  refine t1 5 rfl ?_
  try simp only [pt]
  refine t1 6 rfl ?_
  try simp only [pt]
  refine t1 7 rfl ?_
  try simp only [pt]
  refine t1 8 rfl ?_
  try simp only [pt]
  refine t1 9 rfl ?_
  try simp only [pt]
  refine t1 10 rfl ?_
  try simp only [pt]
  refine t1 11 rfl ?_
  try simp only [pt]
  refine t1 12 rfl ?_
  try simp only [pt]
  refine wpAnyH_ready (rs:=[13]) (by kernel_rfl) (by simp) ?_
  refine AllReadyH.cons rfl (fun K hK => ?_) AllReadyH.nil
  go_simp
  go_at_call 153
  refine (f_bare tk tn ty tf tt _ _ _ ta _ hf hx).mono ?_
  rintro e wk ⟨rfl,hbk⟩
  rw [HB.out]
  have HK:=Lib.hid (KS.out wk ((Below.refl w.heap.size w).drew.trans hbk))
  clear hbk
  refine hK.out _ _ (HK.out) (fun hHeld => ?_)
  clear hK K
  try simp only [pt]
  refine t1 14 rfl ?_
  try simp only [pt]
  refine t1 15 rfl ?_
  try simp only [pt]
  refine t1 16 rfl ?_
  try simp only [pt]
  refine t1 17 rfl ?_
  try simp only [pt]
  refine t1 18 rfl ?_
  try simp only [pt]
  refine t1 19 rfl ?_
  try simp only [pt]
  refine t1 20 rfl ?_
  try simp only [pt]
  refine t1 21 rfl ?_
  try simp only [pt]
  refine t1 23 rfl ?_
  try simp only [pt]
  refine t1 24 rfl ?_
  try simp only [pt]
  refine t1 25 rfl ?_
  try simp only [pt]
  refine t1 26 rfl ?_
  try simp only [pt]
  refine t1 27 rfl ?_
  try simp only [pt]
  refine t1 28 rfl ?_
  try simp only [pt]
  refine t1 29 rfl ?_
  try simp only [pt]
  refine wpAnyH_ready (rs:=[22]) (by kernel_rfl) (by simp) ?_
  refine AllReadyH.cons rfl (fun K hK => ?_) AllReadyH.nil
  go_simp
  go_at_call 154
  refine (f_several tk _).mono ?_
  rintro e wk' ⟨rfl,rfl⟩
  rw [HV.out]
  refine hK.out _ _ (HK.out) (fun hHeld => ?_)
  clear hK K
  try simp only [pt]
  refine t1 30 rfl ?_
  try simp only [pt]
  refine t1 31 rfl ?_
  try simp only [pt]
  refine t1 32 rfl ?_
  try simp only [pt]
  refine t1 33 rfl ?_
  try simp only [pt]
  refine t1 34 rfl ?_
  try simp only [pt]
  refine t1 35 rfl ?_
  try simp only [pt]
  refine t1 36 rfl ?_
  try simp only [pt]
  refine t1 37 rfl ?_
  try simp only [pt]
  refine t1 38 rfl ?_
  try simp only [pt]
  refine t1 39 rfl ?_
  try simp only [pt]
  refine t1 40 rfl ?_
  try simp only [pt]
  refine wpAnyH_done (by kernel_rfl) ?_ _
  obtain ⟨k0,k1,k2,k3,k4,k5,k6⟩:=HK.out
  have hbk:=k6.out
  have zb:b < wk.heap.size:=Nat.lt_of_lt_of_le hb hbk.size
  have z5:∀ o:Obj,(wk.alloc o).cell? ⟨b,off+at_*6+5,none⟩=some (.slice Aa na ca):=fun o => (World.cell?_alloc_lt wk o ⟨b,_,none⟩ zb).trans k5
  have hst:GrowK w B wk.heap.size T0 (.slice Aa na ca) d (wk.alloc (.cells #[.int .i64 tk,.int .i64 tn,.int .i64 ty,.string tf,.string tt,.slice Aa na ca,.slice none 0 0] 169)) 0 [] (.slice none 0 0) []:=by
    have:=GrowK.start (d:=d) (t:=T0) (wk:=wk) hbk hB HTA.out.2
    rw [HT0.out] at this ⊢
    exact this
  have HST:=Lib.hid hst
  have hnL:n=L.length:=by obtain ⟨_,_,_,hv,h2,_⟩:=HTS.out; injection hv with _ h3 _; omega
  have HNL:=Lib.hid hnL
  have har:growA (growF L d) T0.args (at_+1)=restA (growF L d) [] (T0.args.drop 0) (at_+1):=by
    unfold restA
    rw [List.drop_zero]
    cases growA (growF L d) T0.args (at_+1) <;> simp
  have HAR:=Lib.hid har
  have hT0a:T0.args.length=na:=by rw [HT0.out]; exact HNA.out.symm
  have HTL:=Lib.hid hT0a
  clear p1 hdv hst hnL har hT0a hbk k0 k1 k2 k3 k4 k6 HK HB hHeld
  go_wp2_with fail
  obtain ⟨bt,hbt⟩:∃ bt,wk.heap.size=bt:=⟨_,rfl⟩
  rw [hbt] at HST ⊢
  clear hbt z5 k5
  generalize (wk.alloc (.cells #[.int .i64 tk,.int .i64 tn,.int .i64 ty,.string tf,.string tt,.slice Aa na ca,.slice none 0 0] 169))=wa at *
  go_loopw [10,71] (fun v10 v71 wr => ∃ (k nx:Nat) (xs:List Tree) (u:Value) (ps:List Value),v10=.int .i64 (nx:Int) ∧ v71=.int .i64 (k:Int) ∧ k ≤ na ∧ nx ≤ n ∧ GrowK w B bt T0 (.slice Aa na ca) d wr k xs u ps ∧ growA (growF L d) T0.args (at_+1)=restA (growF L d) xs (T0.args.drop k) nx) (fun _ v71 _ => na - (intOf v71).toNat)
  case atStart => exact ⟨0,at_+1,[],_,[],by go_num,rfl,by omega,by omega,HST.out,HAR.out⟩
  case round =>
    obtain ⟨k,nx,xs,u,ps,rfl,rfl,hk,hnx,hgk,har⟩:=hrel
    have HGK:=Lib.hid hgk
    have HAR2:=Lib.hid har
    have hbl:=hgk.bel
    have hbt:=hgk.blk.lt
    have hs1:=hgk.bel.size
    clear hgk har HST HAR
    by_cases hlt:k < na
    · have hpos:0 < na:=by omega
      obtain ⟨gb,go,rfl,hgB,hgc⟩:=HCELL.out hpos
      have cg:wr.cell? ⟨gb,go+k,none⟩=some (.int .i64 (ta.getD k 0)):=(hbl.cell (p:=⟨gb,go+k,none⟩) (by show gb < w.heap.size; omega)).trans (hgc k hlt)
      have hdr:T0.args.drop k=ta.getD k 0 :: T0.args.drop (k+1):=by
        have e:T0.args=ta:=by rw [HT0.out]
        have hl:=HTL.out
        rw [e] at hl ⊢
        exact drop_getD ta k (by omega)
      have HTR:=Lib.hid (HTS.out.keep (w':=wr) fun q hq => hbl.block q (by omega))
      have z0:decide ((0:Int) ≤ (k:Int))=true:=by simp
      have z1:(0:Int) ≤ (k:Int):=by omega
      have z2:(k:Int) < (na:Int):=by omega
      generalize ta.getD k 0=key at *
      have HDR:=Lib.hid hdr
      clear hdr hgc HCELL
      by_cases hkey:key=(nx:Int)
      · have t0:(key != (nx:Int))=false:=by rw [hkey]; simp
        have HKEY:=Lib.hid hkey
        clear hkey
        cases hg:growF L d nx with
        | none =>
          have HG:=Lib.hid hg
          clear hg
          go_wp2_with (go_at_call 119; refine (HIH.out _ nx B _ HTR.out (by omega) (by omega)).mono ?_; rw [HG.out]; rintro e w1 ⟨rfl,hb1⟩)
          go_ret3
          rw [HAR2.out,HDR.out,restA_none HKEY.out HG.out]
          exact ⟨rfl,hbl.trans (hb1.mono hs1)⟩
        | some r =>
          obtain ⟨x,af⟩:=r
          have haf:af ≤ n:=by have:=(flat_grow d hg).2.2; have:=HNL.out; omega
          have HG:=Lib.hid hg
          clear hg
          go_wp2_with fail
          refine (HIH.out _ nx B _ HTR.out (by omega) (by omega)).mono ?_
          rw [HG.out]
          rintro e w1 ⟨p,rfl,htree,hb1⟩
          obtain ⟨pb,rfl,-⟩:=htree.ptr
          have hgk1:=HGK.out.call hb1
          have hus:∀ g,u.ownBlock=some g → g < wr.heap.size:=fun g hg => (HGK.out.own.lt g hg).2
          have hblk1:=hgk1.blk
          have d6:=(hblk1.cell 6).trans (show _=some u from rfl)
          have hown1:=hgk1.own
          have hs2:=hb1.size
          have hkl:=hk
          have HGK1:=Lib.hid hgk1
          have HUS:=Lib.hid hus
          have HT:=Lib.hid htree
          have HBK:=Lib.hid hblk1
          obtain ⟨A0,c0,rfl⟩:=own_slice hown1
          clear hgk1 hus htree hblk1
          go_wp2_with (at_builtin; refine wpList_append_own_at _ rfl _ _ 167 rfl (bt+1) 138 i0 (.pointer none) 1 8 Tryz.underlying167 hi hz0 hz1 hz2 rfl (by decide) _ _ _ rfl (hown1.alloc _) ⟨w1.heap.size,0,none⟩ 1 1 [.pointer (some ⟨pb,0,none⟩)] rfl rfl (cell_one_new _ _ _) (by intro u hu; simp at hu; subst hu; rfl) (by unfold maxLen; omega) (by omega) (by simp; omega) ?_)
          intro u' w2 hown2 hgrow _ hwh
          have hgk3:=GrowK.append HGK1.out (s:=wr.heap.size) hbt HUS.out HT.out hown2 hgrow hwh
          have hne:some bt ≠ (Value.slice A0 k c0).ownBlock:=fun e => by have:=(HGK1.out.own.lt bt e.symm).1; omega
          have hblk2:=Blk.grown' (HBK.out.alloc _) hgrow hne
          have f6:=hblk2.frozen 6
          have e6:=(hblk2.cell 6).trans (show _=some (Value.slice A0 k c0) from rfl)
          obtain ⟨A1,c1,rfl⟩:=own_slice hown2
          have HGK3:=Lib.hid hgk3
          clear hgk3 hown2 hgrow hwh hblk2 hown1
          go_wp2_with fail
          go_roundw
          case measure => simp [intOf]; omega
          case rel =>
            have hend:growA (growF L d) T0.args (at_+1)=restA (growF L d) (xs ++ [x]) (T0.args.drop (k+1)) af:=by rw [HAR2.out,HDR.out,restA_some HKEY.out HG.out]
            first
              | exact ⟨k+1,af,xs ++ [x],_,_,rfl,by go_num,by omega,haf,HGK3.out,hend⟩
              | ((repeat apply Exists.intro); exact ⟨⟨k+1,af,xs ++ [x],_,_,rfl,by go_num,by omega,haf,HGK3.out,hend⟩,rfl⟩)
      · have t0:(key != (nx:Int))=true:=by simpa using hkey
        have HKEY:=Lib.hid hkey
        clear hkey
        go_wp2_with fail
        go_ret3
        rw [HAR2.out,HDR.out,restA_ne HKEY.out]
        exact ⟨rfl,hbl⟩
    · have hkn:k=na:=by omega
      have hj0:¬ (k:Int) < (na:Int):=by omega
      have HKN:=Lib.hid hkn
      clear hkn
      go_wp2_with fail
      go_ret3
      have e:T0.args.drop k = []:=List.drop_eq_nil_of_le (by rw [HTL.out,HKN.out]; exact Nat.le_refl _)
      rw [HAR2.out,e,restA_nil]
      have htree:=HGK.out.tree
      rw [HD.out] at htree
      exact ⟨_,rfl,htree,hbl⟩
set_option maxRecDepth 100000 in
set_option maxHeartbeats 4000000 in
theorem f_grow_zero (A : Option Addr) (n c at_ : Nat) (w : World) (hat : at_ < n) (hn : n ≤ 1000000) :
  Calls Tryz.prog 119 #[.slice A n c,.int .i64 (at_:Int),.int .i64 0] w (GrowNo w):=by
 have q0:decide ((n:Int) ≤ (at_:Int))=false:=by simp; omega
 have q00:decide (n ≤ at_)=false:=by simp; omega
 go_enter Tryz.func119,Tryz.ntmps119
 go_wp2_with fail
 go_quiet (fail)
 go_wp2_with fail
 go_ret3
 exact ⟨rfl,only_drewB _ _ _⟩
theorem trmAt_get {L : List Trm} {k : Nat} (h : k < L.length) : L[k]? = some (trmAt L k) := by
 unfold trmAt; rw [List.getD_eq_getElem?_getD,List.getElem?_eq_getElem h]; rfl
theorem f_grow (L : List Trm) (hL : L.length ≤ 1000000) (hok : ∀ t ∈ L,TrmOk t) : ∀ (d : Nat),d ≤ 1000 → ∀ (v : Value) (at_ B : Nat) (w : World),TermsAt w (· < B) v L → B ≤ w.heap.size → at_ ≤ 1000000 →
  Calls Tryz.prog 119 #[v,.int .i64 (at_:Int),.int .i64 (d:Int)] w (GrowPost w B d (growF L d at_)):=by
 intro d
 induction d with
 | zero =>
  intro hd v at_ B w hv hB hat
  obtain ⟨A,n,c,rfl,hn,hnc,h4⟩:=hv
  rcases Nat.lt_or_ge at_ n with h | h
  ·exact (f_grow_zero A n c at_ w h (by omega))
  ·exact (f_grow_out A n c at_ 0 w h (by omega) (by omega) hat)
 | succ d ih =>
  intro hd v at_ B w hv hB hat
  have hv0:=hv
  obtain ⟨A,n,c,rfl,hn,hnc,h4⟩:=hv
  unfold growF
  rcases Nat.lt_or_ge at_ n with h | h
  ·obtain ⟨b,off,hA,hbB,hc⟩:=h4 (by omega)
   have hT:=hc at_ h
   have hg:=trmAt_get (L:=L) (k:=at_) (by omega)
   rw [hg]
   have hm:trmAt L at_ ∈ L:=List.mem_of_getElem? hg
   obtain ⟨o1,o2,o3⟩:=hok _ hm
   generalize trmAt L at_=t at *
   simp only
   cases hb:bareB t with
   | false => exact (f_grow_bare A n c b off at_ (d+1) B t w hA (by omega) h (by omega) (by omega) hd hT o1 o2 hb)
   | true =>
    cases ha:argsOk t with
    | false =>
     unfold argsOk at ha
     cases hs:(severalB t.kind == decide (0 < t.args.length)) with
     | false => exact (f_grow_sev A n c b off at_ (d+1) B t w hA (by omega) h (by omega) (by omega) hd hT o1 o2 hb (by omega) hs)
     | true =>
      rw [hs] at ha
      have h1:t.args.length=1:=by simpa using ha
      have h2:severalB t.kind=true:=by simpa [h1] using hs
      exact (f_grow_one A n c b off at_ (d+1) B t w hA (by omega) h (by omega) (by omega) hd hT o1 o2 hb h2 h1)
    | true =>
     have:=f_grow_main L d (d+1) rfl (ih (by omega)) A n c b off at_ B t w hv0 hB hA (by omega) h (by omega) hd hT o1 o2 o3 hb ha
     simp only [Bool.and_self,if_true]
     cases hga:growA (growF L d) t.args (at_+1) with
     | none => rw [hga] at this; exact this
     | some r => rw [hga] at this; exact this
  ·rw [List.getElem?_eq_none (by omega)]
   exact (f_grow_out A n c at_ (d+1) w h (by omega) (by omega) hat)
def RootPost (w : World) (B : Nat) : Option Tree → Ending → World → Prop
 | none => fun e w' => ∃ v,e=.returned (.tuple #[v,.bool false]) ∧ Below w.heap.size w w'
 | some T => fun e w' => ∃ v,e=.returned (.tuple #[v,.bool true]) ∧ TreeAt w' (fun c => c < B ∨ (w.heap.size ≤ c ∧ c < w'.heap.size)) 6 v T ∧ Below w.heap.size w w'
set_option maxRecDepth 100000 in
set_option maxHeartbeats 4000000 in
theorem f_root (v : Value) (L : List Trm) (B : Nat) (w : World) (hv : TermsAt w (· < B) v L) (hB : B ≤ w.heap.size) (hL : L.length ≤ 1000000) (hok : ∀ t ∈ L,TrmOk t) :
  Calls Tryz.prog 87 #[.agg #[v]] w (RootPost w B (rootF L)):=by
 obtain ⟨A,n,c,rfl,hn,hnc,h4⟩:=id hv
 have hv2:TermsAt (w.alloc (.cells #[.slice A n c] 26)) (· < B) (.slice A n c) L:=hv.keep fun b hb => Below.heap_alloc w _ b (by omega)
 have HV:=Lib.hid hv2
 have HN:=Lib.hid hn
 have n1:n ≤ 1000000:=by omega
 have HL:=Lib.hid hL
 have HOK:=Lib.hid hok
 clear hv hv2 hn h4 hL hok hnc
 by_cases h24:n ≤ 24
 ·have hb1:Below w.heap.size w (w.alloc (.cells #[.slice A n c] 26)):=(Below.refl _ _).alloc (Nat.le_refl _) _
  have HB1:=Lib.hid hb1
  have e:rootF L=(match growF L 6 0 with | none => none | some (t,m) => if m=n then some t else none):=by
   unfold rootF
   rw [if_pos (by have:=HN.out; omega)]
   cases growF L 6 0 with
   | none => rfl
   | some r => obtain ⟨t,m⟩:=r; simp only; rw [HN.out]
  have HE:=Lib.hid e
  clear hb1 e
  cases hg:growF L 6 0 with
  | none =>
   have HG:=Lib.hid hg
   clear hg
   go_enter Tryz.func87,Tryz.ntmps87
   go_wp2_with fail
   refine (f_grow L HL.out HOK.out 6 (by omega) _ 0 B _ HV.out (by simp; omega) (by omega)).mono ?_
   rw [HG.out]
   rintro e w1 ⟨rfl,hb2⟩
   go_wp2_with fail
   go_quiet (fail)
   go_wp2_with fail
   go_ret2
   rw [HE.out,HG.out]
   exact ⟨_,rfl,(HB1.out.trans (hb2.mono (by simp))).trans (only_drewB _ _ _)⟩
  | some r =>
   obtain ⟨T,m⟩:=r
   have hm:=(flat_grow 6 hg).2.2
   have hm2:m ≤ n:=by have:=HN.out; omega
   have HG:=Lib.hid hg
   clear hg hm
   go_enter Tryz.func87,Tryz.ntmps87
   go_wp2_with fail
   refine (f_grow L HL.out HOK.out 6 (by omega) _ 0 B _ HV.out (by simp; omega) (by omega)).mono ?_
   rw [HG.out]
   rintro e w1 ⟨p,rfl,ht,hb2⟩
   obtain ⟨pb,rfl,-⟩:=ht.ptr
   have cc:w1.cell? ⟨w.heap.size,0,none⟩=some (.slice A n c):=(hb2.cell (p:=⟨w.heap.size,0,none⟩) (by simp)).trans (by simp)
   have ht2:∀ q,TreeAt (w1.drewN q) (fun c => c < B ∨ (w.heap.size ≤ c ∧ c < w1.heap.size)) 6 (.pointer (some ⟨pb,0,none⟩)) T:=fun q => (TreeAt.keep (w:=w1) (w':=w1.drewN q) (fun b _ => rfl) (ht.mono (S':=fun c => c < B ∨ (w.heap.size ≤ c ∧ c < w1.heap.size)) fun b hb => by
    rcases hb with h | ⟨h1,h2⟩
    ·exact .inl h
    ·exact .inr ⟨by simp at h1; omega,h2⟩))
   have HT:=Lib.hid ht2
   clear ht ht2
   by_cases hmn:m=n
   ·have q1:((m:Int) == (n:Int))=true:=by simp [hmn]
    have q2:(m == n)=true:=by simp [hmn]
    have HMN:=Lib.hid hmn
    clear hmn
    go_wp2_with fail
    go_quiet (fail)
    go_wp2_with fail
    go_ret2
    rw [HE.out,HG.out]
    show RootPost w B (if m=n then some T else none) _ _
    rw [if_pos HMN.out]
    exact ⟨_,rfl,HT.out _,(HB1.out.trans (hb2.mono (by simp))).trans (only_drewB _ _ _)⟩
   ·have q1:((m:Int) == (n:Int))=false:=by rw [beq_eq_false_iff_ne]; omega
    have q2:(m == n)=false:=by simpa using hmn
    have HMN:=Lib.hid hmn
    clear hmn
    go_wp2_with fail
    go_quiet (fail)
    go_wp2_with fail
    go_ret2
    rw [HE.out,HG.out]
    show RootPost w B (if m=n then some T else none) _ _
    rw [if_neg HMN.out]
    exact ⟨_,rfl,(HB1.out.trans (hb2.mono (by simp))).trans (only_drewB _ _ _)⟩
 ·have e:rootF L=none:=by unfold rootF; rw [if_neg (by have:=HN.out; omega)]
  have q24:(24:Int) < (n:Int):=by omega
  rw [e]
  go_enter Tryz.func87,Tryz.ntmps87
  go_wp2_with fail
  go_ret2
  exact ⟨_,rfl,(Below.refl _ _).alloc (Nat.le_refl _) _⟩
def rightB (L : List Trm) : Bool := (rootF L).isSome
set_option maxRecDepth 100000 in
set_option maxHeartbeats 4000000 in
theorem f_Right (v : Value) (L : List Trm) (B : Nat) (w : World) (hv : TermsAt w (· < B) v L) (hB : B ≤ w.heap.size) (hL : L.length ≤ 1000000) (hok : ∀ t ∈ L,TrmOk t) :
  Calls Tryz.prog 104 #[.agg #[v]] w (BoolBel (rightB L) w):=by
 obtain ⟨A,n,c,rfl,-⟩:=id hv
 have hv2:TermsAt (w.alloc (.cells #[.slice A n c] 26)) (· < B) (.slice A n c) L:=hv.keep fun b hb => Below.heap_alloc w _ b (by omega)
 have HV:=Lib.hid hv2
 have HL:=Lib.hid hL
 have HOK:=Lib.hid hok
 clear hv hv2 hL hok
 cases hr:rootF L with
 | none =>
  have e:rightB L=false:=by unfold rightB; rw [hr]; rfl
  have HR:=Lib.hid hr
  rw [e]
  clear hr e
  go_enter Tryz.func104,Tryz.ntmps104
  go_wp2_with fail
  refine (f_root _ L B _ HV.out (by simp; omega) HL.out HOK.out).mono ?_
  rw [HR.out]
  rintro e w1 ⟨p,rfl,hb⟩
  go_wp2_with fail
  go_ret
  exact ⟨rfl,((Below.refl _ _).alloc (Nat.le_refl _) _).trans (hb.mono (by simp))⟩
 | some T =>
  have e:rightB L=true:=by unfold rightB; rw [hr]; rfl
  have HR:=Lib.hid hr
  rw [e]
  clear hr e
  go_enter Tryz.func104,Tryz.ntmps104
  go_wp2_with fail
  refine (f_root _ L B _ HV.out (by simp; omega) HL.out HOK.out).mono ?_
  rw [HR.out]
  rintro e w1 ⟨p,rfl,-,hb⟩
  go_wp2_with fail
  go_ret
  exact ⟨rfl,((Below.refl _ _).alloc (Nat.le_refl _) _).trans (hb.mono (by simp))⟩
abbrev txT (d : Nat) (T : Tree) : List UInt8 := textG [] [] d T
theorem txT_node (d : Nat) (t : Trm) (xs : List Tree) : txT (d + 1) (.node t xs) =
  if t.kind=1 ∨ t.kind=2 then nmK t.kind ++ [40] ++ joinS [44,32] (xs.map (txT d)) ++ [41]
  else if t.kind=3 ∨ t.kind=4 then nmK t.kind ++ [32] ++ Lib.itoa t.num
  else if t.kind=5 then nmK 5 ++ [32] ++ Lib.itoa t.yrs ++ [32] ++ ofB ++ [32] ++ Lib.itoa t.num
  else if t.kind=7 then nmK 7 ++ [32] ++ blOf t.field ++ [32,34] ++ blOf t.text ++ [34,32] ++ ofB ++ [32] ++ Lib.itoa t.num
  else nmK t.kind:=rfl
theorem nm_len (k : Int) (h1 : 1 ≤ k) (h2 : k ≤ 8) : (nmK k).length ≤ 11 := by
 have:∀ j:Fin 9,(nmK (j.val:Int)).length ≤ 11:=by decide
 obtain ⟨m,rfl⟩:=Int.eq_ofNat_of_zero_le (show 0 ≤ k by omega)
 exact this ⟨m,by omega⟩
theorem names_cell {w : World} {v : Value} (h : StrsAt' w v nmB) (k : Int) (h1 : 0 ≤ k) (h2 : k ≤ 8) : ∃ g off c,v = .slice (some ⟨g,off,none⟩) 9 c ∧ g < w.heap.size ∧ w.cell? ⟨g,off + k.toNat,none⟩ = some (.string (bsOf (nmK k))) := by
 obtain ⟨g,off,n,c,rfl,hn,hg,hc⟩:=h
 have hn9:n=9:=hn
 subst hn9
 exact ⟨g,off,c,rfl,hg,hc k.toNat (by omega)⟩
theorem joinS_join (sep : List UInt8) (xs : List (List UInt8)) : Lib.join xs sep = joinS sep xs := by
 cases xs with
 | nil => rfl
 | cons a r => exact Lib.join_cons a r sep
theorem bsOf_app (a b : List UInt8) : bsOf a ++ bsOf b = bsOf (a ++ b) := bapp a b
theorem bsOf_data (l : List UInt8) : (bsOf l).size = l.length := by show l.toArray.size = _; simp
set_option maxRecDepth 100000 in
set_option maxHeartbeats 4000000 in
theorem f_text_word (b : Nat) (k : Int) (w : World) (hk : k = 6 ∨ k = 8) (hb : b < w.heap.size) (c0 : w.cell? ⟨b,0,none⟩ = some (.int .i64 k)) :
    Calls Tryz.prog 88 #[.pointer (some ⟨b,0,none⟩)] w (StrBel (nmK k) w):=by
  have KS:=Lib.hid (fun (W:World) (hW:Below w.heap.size w W) => (⟨(hW.cell (p:=⟨b,0,none⟩) hb).trans c0,Lib.hid hW⟩:W.cell? ⟨b,0,none⟩=some (.int .i64 k) ∧ Hid (Below w.heap.size w W)))
  have c0d:w.drew.cell? ⟨b,0,none⟩=some (.int .i64 k):=c0
  have KB:0 ≤ k ∧ k ≤ 8:=by omega
  rcases hk with rfl | rfl
  all_goals
    go_enter Tryz.func88,Tryz.ntmps88
    go_wp2_with fail
    go_region_law (first
      | ((try go_simp); go_at_call 120; (refine (f_names _).mono ?_); rintro e wk ⟨v,rfl,hv,hbk⟩; have HK:=Lib.hid (KS.out wk ((Below.refl w.heap.size w).drew.trans hbk)); obtain ⟨g,off,c,rfl,hg,hc⟩:=names_cell hv _ KB.1 KB.2; have k0:=HK.out.1; (try simp only [Int.reduceToNat] at hc); have HC:=hc; clear hv hbk; go_simp))
    all_goals
      go_wp2_with fail
      go_ret
      exact ⟨rfl,HK.out.2.out⟩
theorem itoa_small (n : Int) (h0 : 0 ≤ n) (h1 : n ≤ 100) : (Lib.itoa n).length ≤ 3 := by
 obtain ⟨m,rfl⟩:=Int.eq_ofNat_of_zero_le h0
 rw [itoa_dec3 m (by omega)]
 exact (dec3_all ⟨m,by omega⟩).2.1
set_option maxRecDepth 100000 in
set_option maxHeartbeats 4000000 in
theorem f_text_num (b : Nat) (k n : Int) (w : World) (hk : k = 3 ∨ k = 4) (hn0 : 0 ≤ n) (hn1 : n ≤ 100) (hl : LibOk w) (hb : b < w.heap.size) (c0 : w.cell? ⟨b,0,none⟩ = some (.int .i64 k)) (c1 : w.cell? ⟨b,1,none⟩ = some (.int .i64 n)) :
    Calls Tryz.prog 88 #[.pointer (some ⟨b,0,none⟩)] w (StrBel (nmK k ++ [32] ++ Lib.itoa n) w):=by
  have KS:=Lib.hid (fun (W:World) (hW:Below w.heap.size w W) => (⟨(hW.cell (p:=⟨b,0,none⟩) hb).trans c0,(hW.cell (p:=⟨b,1,none⟩) hb).trans c1,Lib.hid hW,Lib.hid (hl.later hW)⟩:W.cell? ⟨b,0,none⟩=some (.int .i64 k) ∧ W.cell? ⟨b,1,none⟩=some (.int .i64 n) ∧ Hid (Below w.heap.size w W) ∧ Hid (LibOk W)))
  have c0d:w.drew.cell? ⟨b,0,none⟩=some (.int .i64 k):=c0
  have KB:0 ≤ k ∧ k ≤ 8:=by omega
  have hnl:=nm_len k (by omega) (by omega)
  have s1:(bsOf (nmK k)).size ≤ 11:=by rw [bsOf_data]; exact hnl
  have s2:(bsOf (Lib.itoa n)).size ≤ 3:=by rw [bsOf_data]; exact itoa_small n hn0 hn1
  rcases hk with rfl | rfl
  all_goals
    go_enter Tryz.func88,Tryz.ntmps88
    go_wp2_with fail
    go_region_law (first
      | ((try go_simp); go_at_call 120; (refine (f_names _).mono ?_); rintro e wk ⟨v,rfl,hv,hbk⟩; have HK:=Lib.hid (KS.out wk ((Below.refl w.heap.size w).drew.trans hbk)); obtain ⟨g,off,c,rfl,hg,hc⟩:=names_cell hv _ KB.1 KB.2; have k0:=HK.out.1; (try simp only [Int.reduceToNat] at hc); have HC:=hc; clear hv hbk; go_simp))
    all_goals
      have k1:=HK.out.2.1
      go_wp2_with (go_at_call 78; refine (i_Itoa n _ HK.out.2.2.2.out.tab (by omega) (by omega)).mono ?_; rintro e w2 ⟨rfl,hb2⟩)
      go_ret
      refine ⟨?_,HK.out.2.2.1.out.trans (hb2.mono HK.out.2.2.1.out.size)⟩
      exact congrArg (fun x:ByteArray => Ending.returned (.string x)) (by show bsOf _ ++ bsOf [32] ++ bsOf _=_; rw [bsOf_app,bsOf_app])
end Go.Proofs.YtgdngfdeeadlnaaGreatDoor

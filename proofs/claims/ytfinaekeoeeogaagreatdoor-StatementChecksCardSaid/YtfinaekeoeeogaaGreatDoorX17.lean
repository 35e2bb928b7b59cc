/- Contracts: does a condition ask for fields of a form? -/
import Derived.Test.YtfinaekeoeeogaaGreatDoorX16
import Derived.Test.YtfinaekeoeeogaaGreatDoorX07
set_option linter.unusedVariables false
set_option linter.unusedSimpArgs false
namespace Go.Proofs.YtfinaekeoeeogaaGreatDoor
open Go.RowKit Num
theorem fstF_lt {L : List Fld} {s : ByteArray} {k : Nat} (h : fstF L s = some k) : k < L.length ∧ (fldAt L k).name = s := by
 unfold fstF at h
 have h1:=List.find?_some h
 have h2:=List.mem_of_find?_eq_some h
 exact ⟨List.mem_range.1 h2,by simpa using h1⟩
def badT (L : List Fld) (t : Trm) : Bool := if t.kind = 7 then (match fstF L t.field with | none => true | some k => !decide ((fldAt L k).kind = 4) && !decide ((fldAt L k).kind = 1)) else false
set_option maxRecDepth 100000 in
set_option maxHeartbeats 2000000 in
theorem a_asks1 (t : Trm) (Au : Option Addr) (nu cu fb : Nat) (title : ByteArray) (v : Value) (L : List Fld) (W : World) (hb : Blk W fb 37 #[.string title,v]) (hF : FldsAt W (· < W.heap.size) v L) (hl : L.length ≤ 1000000) :
  Calls Tryz.prog 56 #[.agg #[.int .i64 t.kind,.int .i64 t.num,.int .i64 t.yrs,.string t.field,.string t.text,.slice Au nu cu],.pointer (some ⟨fb,0,none⟩)] W (BoolBel (badT L t) W):=by
 obtain ⟨kd,nm,yr,fl,tx,ar⟩:=t
 obtain ⟨A,n,c,rfl,hn,hnc,hc⟩:=id hF
 have hb0:=below_al' W (.cells #[.int .i64 kd,.int .i64 nm,.int .i64 yr,.string fl,.string tx,.slice Au nu cu] 51)
 have HB:=Lib.hid hb0
 by_cases h7:kd=7
 ·subst h7
  have hbl:=hb.alloc (.cells #[.int .i64 7,.int .i64 nm,.int .i64 yr,.string fl,.string tx,.slice Au nu cu] 51)
  have c0:=(hbl.cell 0).trans (show _=some (Value.string title) from rfl)
  have c1:=(hbl.cell 1).trans (show _=some (Value.slice A n c) from rfl)
  have hfn:=f_Find title fl (.slice A n c) L (· < (W.alloc (.cells #[.int .i64 7,.int .i64 nm,.int .i64 yr,.string fl,.string tx,.slice Au nu cu] 51)).heap.size) _ ((hF.keep fun b hB => hb0.block b hB).mono fun b hB => Nat.lt_of_lt_of_le hB hb0.size) (fun b hB => hB) hl
  have HFN:=Lib.hid hfn
  have HBL:=Lib.hid hbl
  have HC:=Lib.hid hc
  have HN:=Lib.hid hn
  clear hfn hbl hb hF hb0 hc hn
  cases hf:fstF L fl with
  | none =>
   have e:badT L ⟨7,nm,yr,fl,tx,ar⟩=true:=by simp [badT,hf]
   rw [e]
   unfold FndE at HFN
   rw [hf] at HFN
   have HF0:=Lib.hid hf
   clear hf e
   go_enter Tryz.func56,Tryz.ntmps56
   go_wp2_with fail
   refine HFN.out.mono ?_
   rintro e w2 ⟨rfl,hb2⟩
   have HB2:=Lib.hid (HB.out.trans (hb2.mono HB.out.size))
   clear hb2
   go_wp2_with fail
   go_ret
   exact ⟨rfl,HB2.out⟩
  | some k =>
   obtain ⟨hk,hkn⟩:=fstF_lt hf
   unfold FndE at HFN
   rw [hf] at HFN
   have hfe:badT L ⟨7,nm,yr,fl,tx,ar⟩=(!decide ((fldAt L k).kind=4) && !decide ((fldAt L k).kind=1)):=by simp [badT,hf]
   obtain ⟨b,off,rfl,hS,hcc⟩:=HC.out (by have:=HN.out; omega)
   have hcell:=(hcc k (by have:=HN.out; omega)).2.1
   obtain ⟨kf,hkf⟩:∃ x,(fldAt L k).kind=x:=⟨_,rfl⟩
   rw [hkf] at hcell hfe
   have zi:(k:Int) < (n:Int):=by have:=HN.out; omega
   have z0:(0:Int) ≤ (k:Int):=by omega
   have HCE:=Lib.hid (And.intro hS hcell)
   clear hf hkn hcc hkf hcell hS
   rw [hfe]
   clear hfe
   by_cases e4:kf=4
   ·subst e4
    go_enter Tryz.func56,Tryz.ntmps56
    go_wp2_with fail
    refine HFN.out.mono ?_
    rintro e w2 ⟨rfl,hb2⟩
    have hb2':=HB.out.trans (hb2.mono HB.out.size)
    have HB2:=Lib.hid hb2'
    have d1:=(HBL.out.below' hb2 HBL.out.lt).cell 1 |>.trans (show _=some (Value.slice (some ⟨b,off,none⟩) n c) from rfl)
    have k1:=(hb2'.cell (p:=⟨b,off+k*6+1,none⟩) HCE.out.1).trans HCE.out.2
    clear hb2 hb2'
    go_wp2_with fail
    go_ret
    exact ⟨rfl,HB2.out⟩
   ·have hk4:(kf != (4:Int))=true:=by simpa using e4
    by_cases e1:kf=1
    ·subst e1
     go_enter Tryz.func56,Tryz.ntmps56
     go_wp2_with fail
     refine HFN.out.mono ?_
     rintro e w2 ⟨rfl,hb2⟩
     have hb2':=HB.out.trans (hb2.mono HB.out.size)
     have HB2:=Lib.hid hb2'
     have d1:=(HBL.out.below' hb2 HBL.out.lt).cell 1 |>.trans (show _=some (Value.slice (some ⟨b,off,none⟩) n c) from rfl)
     have k1:=(hb2'.cell (p:=⟨b,off+k*6+1,none⟩) HCE.out.1).trans HCE.out.2
     clear hb2 hb2'
     go_wp2_with fail
     go_ret
     exact ⟨rfl,HB2.out⟩
    ·have hk1:(kf != (1:Int))=true:=by simpa using e1
     have ee:(!decide (kf=4) && !decide (kf=1))=true:=by simp [e4,e1]
     rw [ee]
     clear ee
     go_enter Tryz.func56,Tryz.ntmps56
     go_wp2_with fail
     refine HFN.out.mono ?_
     rintro e w2 ⟨rfl,hb2⟩
     have hb2':=HB.out.trans (hb2.mono HB.out.size)
     have HB2:=Lib.hid hb2'
     have d1:=(HBL.out.below' hb2 HBL.out.lt).cell 1 |>.trans (show _=some (Value.slice (some ⟨b,off,none⟩) n c) from rfl)
     have k1:=(hb2'.cell (p:=⟨b,off+k*6+1,none⟩) HCE.out.1).trans HCE.out.2
     clear hb2 hb2'
     go_wp2_with fail
     go_ret
     exact ⟨rfl,HB2.out⟩
 ·have e:badT L ⟨kd,nm,yr,fl,tx,ar⟩=false:=by simp [badT,h7]
  have z2:(kd != 7)=true:=by simpa using h7
  rw [e]
  clear e hb0
  go_enter Tryz.func56,Tryz.ntmps56
  go_wp2_with fail
  go_ret
  exact ⟨rfl,HB.out⟩
set_option maxRecDepth 100000 in
set_option maxHeartbeats 2000000 in
theorem i_asks (v : Value) (T : List Trm) (fb : Nat) (title : ByteArray) (vf : Value) (L : List Fld) (w : World) (hv : TermsAt w (· < w.heap.size) v T) (hT : T.length ≤ 1000000) (hb : Blk w fb 37 #[.string title,vf]) (hF : FldsAt w (· < w.heap.size) vf L) (hl : L.length ≤ 1000000) :
  Calls Tryz.prog 77 #[v,.func (.func 56) #[] #[.pointer (some ⟨fb,0,none⟩)]] w fun e w' => ∃ k:Int,e=.returned (.int .i64 k) ∧ (0 ≤ k ↔ ∃ t ∈ T,badT L t=true) ∧ -1 ≤ k ∧ k ≤ 1000000 ∧ Below w.heap.size w w':=by
 obtain ⟨A,n,c,rfl,hn,hnc,hc⟩:=hv
 have hn1:n ≤ 1000000:=by omega
 have ha:=fun (W:World) (hW:Below w.heap.size w W) (t:Trm) (Au:Option Addr) (nu cu:Nat) => a_asks1 t Au nu cu fb title vf L W (hb.below' hW hb.lt) ((hF.keep fun b hB => hW.block b hB).mono fun b hB => Nat.lt_of_lt_of_le hB hW.size) hl
 have HA:=Lib.hid ha
 have HC:=Lib.hid hc
 have HN:=Lib.hid hn
 clear ha hc hn hb hF
 go_enter Tryz.func77,Tryz.ntmps77
 go_wp2_with fail
 go_loopw [8] (fun v8 wr => ∃ k:Nat,k ≤ n ∧ v8=.int .i64 (k:Int) ∧ (∀ j,j < k → badT L (trmAt T j)=false) ∧ Below w.heap.size w wr) (fun v8 _ => n - (intOf v8).toNat)
 case atStart => exact ⟨0,by omega,rfl,fun j hj => absurd hj (Nat.not_lt_zero _),Below.refl _ _⟩
 case round =>
  obtain ⟨k,hk,rfl,hne,hbr⟩:=hrel
  rename World => wr
  have HNE:=Lib.hid hne
  have HBR:=Lib.hid hbr
  clear hne hbr
  by_cases hlt:k < n
  ·obtain ⟨b,off,rfl,hS,hcc⟩:=HC.out (by omega)
   obtain ⟨x0,x1,x2,x3,x4,u,x5,hu⟩:=hcc k hlt
   obtain ⟨Au,nu,cu,rfl,-⟩:=hu
   have hm:trmAt T k ∈ T:=trmAt_mem (by have:=HN.out; omega)
   have hcal:=HA.out wr HBR.out (trmAt T k) Au nu cu
   obtain ⟨t,ht⟩:∃ t,trmAt T k=t:=⟨_,rfl⟩
   rw [ht] at x0 x1 x2 x3 x4 hm hcal
   have e0:=(HBR.out.cell (p:=⟨b,off+k*6,none⟩) hS).trans x0
   have e1:=(HBR.out.cell (p:=⟨b,off+k*6+1,none⟩) hS).trans x1
   have e2:=(HBR.out.cell (p:=⟨b,off+k*6+2,none⟩) hS).trans x2
   have e3:=(HBR.out.cell (p:=⟨b,off+k*6+3,none⟩) hS).trans x3
   have e4:=(HBR.out.cell (p:=⟨b,off+k*6+4,none⟩) hS).trans x4
   have e5:=(HBR.out.cell (p:=⟨b,off+k*6+5,none⟩) hS).trans x5
   have HT:=Lib.hid ht
   have HM:=Lib.hid hm
   have HCAL:=Lib.hid hcal
   have zi:(k:Int) < (n:Int):=by omega
   have z0:(0:Int) ≤ (k:Int):=by omega
   clear x0 x1 x2 x3 x4 x5 hcc ht hm hcal
   cases hbt:badT L t
   ·rw [hbt] at HCAL
    have HBT:=Lib.hid hbt
    clear hbt
    go_wp2_with fail
    refine HCAL.out.mono ?_
    rintro e w1 ⟨rfl,hb1⟩
    have HB1:=Lib.hid (HBR.out.trans (hb1.mono HBR.out.size))
    clear hb1
    go_wp2_with fail
    go_roundw
    case measure => simp [intOf]; omega
    case rel => exact ⟨k+1,by omega,by go_num,fun j hj => by
     rcases Nat.lt_or_ge j k with h | h
     ·exact HNE.out j h
     ·rw [show j=k by omega,HT.out]; exact HBT.out,HB1.out⟩
   ·rw [hbt] at HCAL
    have HBT:=Lib.hid hbt
    clear hbt
    go_wp2_with fail
    refine HCAL.out.mono ?_
    rintro e w1 ⟨rfl,hb1⟩
    have HB1:=Lib.hid (HBR.out.trans (hb1.mono HBR.out.size))
    clear hb1
    go_wp2_with fail
    go_ret
    exact ⟨(k:Int),rfl,⟨fun _ => ⟨t,HM.out,HBT.out⟩,fun _ => by omega⟩,by omega,by omega,HB1.out⟩
  ·have zi:¬ (k:Int) < (n:Int):=by omega
   have he:¬ ∃ t ∈ T,badT L t=true:=fun ⟨t,ht,hbt⟩ => by
    obtain ⟨j,hj,e⟩:=List.getElem_of_mem ht
    have h1:=HNE.out j (by have:=HN.out; omega)
    have h2:trmAt T j=t:=by unfold trmAt; rw [List.getD_eq_getElem?_getD,List.getElem?_eq_getElem hj]; exact e
    rw [h2,hbt] at h1
    cases h1
   have HE:=Lib.hid he
   clear he
   go_wp2_with fail
   go_ret
   exact ⟨-1,rfl,⟨fun h => absurd h (by decide),fun h => absurd h HE.out⟩,by decide,by decide,HBR.out⟩
def asksF (L : List Fld) (T : List Trm) : Bool := rightB T && !T.any (badT L)
set_option maxRecDepth 100000 in
set_option maxHeartbeats 2000000 in
theorem c_asks (v : Value) (T : List Trm) (fb : Nat) (title : ByteArray) (vf : Value) (L : List Fld) (w : World) (hv : TermsAt w (· < w.heap.size) v T) (hT : T.length ≤ 1000000) (hb : Blk w fb 37 #[.string title,vf]) (hF : FldsAt w (· < w.heap.size) vf L) (hl : L.length ≤ 1000000) :
  Calls Tryz.prog 55 #[v,.func (.func 56) #[] #[.pointer (some ⟨fb,0,none⟩)]] w (BoolBel (T.any (badT L)) w):=by
 have HC:=Lib.hid (i_asks v T fb title vf L w hv hT hb hF hl)
 clear hv hT hb hF hl
 go_enter Tryz.func55,Tryz.ntmps55
 go_wp2_with fail
 refine HC.out.mono ?_
 rintro e w1 ⟨k,rfl,hk,-,-,hb1⟩
 have e9:T.any (badT L)=decide (0 ≤ k):=by rw [Bool.eq_iff_iff,decide_eq_true_iff,hk,List.any_eq_true]
 have HB1:=Lib.hid hb1
 have HE:=Lib.hid e9
 clear hb1 e9 hk
 go_wp2_with fail
 go_ret
 exact ⟨by rw [HE.out]; rfl,HB1.out⟩
set_option maxRecDepth 100000 in
set_option maxHeartbeats 400000 in
theorem c_Valid (v : Value) (T : List Trm) (w : World) (hv : TermsAt w (· < w.heap.size) v T) (hT : T.length ≤ 1000000) (hok : ∀ t ∈ T,TrmOk t) :
  Calls Tryz.prog 54 #[.agg #[v]] w (BoolBel (rightB T) w):=by
 obtain ⟨A,n,c,rfl,-⟩:=id hv
 have hb0:=below_al' w (.cells #[.slice A n c] 26)
 have hr:=f_Right (.slice A n c) T w.heap.size (w.alloc (.cells #[.slice A n c] 26)) (hv.keep fun b hb => hb0.block b hb) hb0.size hT hok
 have HR:=Lib.hid hr
 have HB:=Lib.hid hb0
 clear hr hb0 hv
 go_enter Tryz.func54,Tryz.ntmps54
 go_wp2_with fail
 refine HR.out.mono ?_
 rintro e w1 ⟨rfl,hb1⟩
 have HB1:=Lib.hid (HB.out.trans (hb1.mono HB.out.size))
 clear hb1
 go_wp2_with fail
 go_ret
 exact ⟨rfl,HB1.out⟩
set_option maxRecDepth 100000 in
set_option maxHeartbeats 2000000 in
theorem s_asks (v : Value) (T : List Trm) (title : ByteArray) (vf : Value) (L : List Fld) (w : World) (hv : TermsAt w (· < w.heap.size) v T) (hT : T.length ≤ 1000000) (hok : ∀ t ∈ T,TrmOk t) (hF : FldsAt w (· < w.heap.size) vf L) (hl : L.length ≤ 1000000) :
  Calls Tryz.prog 24 #[.agg #[.string title,vf],.agg #[v]] w (BoolBel (asksF L T) w):=by
 obtain ⟨A,n,c,rfl,-⟩:=id hv
 obtain ⟨Af,nf,cf,rfl,-⟩:=id hF
 have hb2:Below w.heap.size w ((w.alloc (.cells #[.string title,.slice Af nf cf] 37)).alloc (.cells #[.slice A n c] 26)):=((Below.refl _ _).alloc (Nat.le_refl _) _).alloc (by simp) _
 have hbf:Blk ((w.alloc (.cells #[.string title,.slice Af nf cf] 37)).alloc (.cells #[.slice A n c] 26)) w.heap.size 37 #[.string title,.slice Af nf cf]:=(Blk.new w _ _).alloc _
 have hbc:Blk ((w.alloc (.cells #[.string title,.slice Af nf cf] 37)).alloc (.cells #[.slice A n c] 26)) (w.heap.size+1) 26 #[.slice A n c]:=by
  have:=Blk.new (w.alloc (.cells #[.string title,.slice Af nf cf] 37)) 26 #[.slice A n c]
  rwa [World.size_alloc] at this
 have up:∀ W,Below w.heap.size w W → TermsAt W (· < W.heap.size) (.slice A n c) T ∧ FldsAt W (· < W.heap.size) (.slice Af nf cf) L:=fun W hW => ⟨(hv.keep fun b hB => hW.block b hB).mono fun b hB => Nat.lt_of_lt_of_le hB hW.size,(hF.keep fun b hB => hW.block b hB).mono fun b hB => Nat.lt_of_lt_of_le hB hW.size⟩
 have c0:=(hbc.cell 0).trans (show _=some (Value.slice A n c) from rfl)
 have hva:=c_Valid (.slice A n c) T _ (up _ hb2).1 hT hok
 have UP:=Lib.hid up
 have HB2:=Lib.hid hb2
 have HBF:=Lib.hid hbf
 have HBC:=Lib.hid hbc
 have HVA:=Lib.hid hva
 clear up hb2 hbf hbc hva hv hF hok
 cases hr:rightB T
 ·rw [hr] at HVA
  have e9:asksF L T=false:=by unfold asksF; rw [hr]; rfl
  rw [e9]
  clear e9 hr
  go_enter Tryz.func24,Tryz.ntmps24
  go_wp2_with fail
  refine HVA.out.mono ?_
  rintro e w1 ⟨rfl,hb1⟩
  have HB1:=Lib.hid (HB2.out.trans (hb1.mono HB2.out.size))
  clear hb1
  go_wp2_with fail
  go_ret
  exact ⟨rfl,HB1.out⟩
 ·rw [hr] at HVA
  have e9:asksF L T = !T.any (badT L):=by unfold asksF; rw [hr]; rfl
  rw [e9]
  clear e9 hr
  go_enter Tryz.func24,Tryz.ntmps24
  go_wp2_with fail
  refine HVA.out.mono ?_
  rintro e w1 ⟨rfl,hb1⟩
  have hb1':=HB2.out.trans (hb1.mono HB2.out.size)
  have HB1:=Lib.hid hb1'
  have hca:=c_asks (.slice A n c) T w.heap.size title (.slice Af nf cf) L w1 (UP.out _ hb1').1 hT (HBF.out.below' hb1 HBF.out.lt) (UP.out _ hb1').2 hl
  have HCA:=Lib.hid hca
  have d0:=((HBC.out.below' hb1 HBC.out.lt).cell 0).trans (show _=some (Value.slice A n c) from rfl)
  clear hb1 hb1' hca
  go_wp2_with fail
  refine HCA.out.mono ?_
  rintro e w3 ⟨rfl,hb3⟩
  have HB3:=Lib.hid (HB1.out.trans (hb3.mono HB1.out.size))
  clear hb3
  cases hany:T.any (badT L)
  all_goals
   go_wp2_with fail
   go_ret
   exact ⟨by (try rw [hany]); rfl,HB3.out⟩
end Go.Proofs.YtfinaekeoeeogaaGreatDoor

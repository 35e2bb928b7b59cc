/- Words for the laws of chapter 18: a form and statements in blocks that the dice do not cha And more. -/
import Derived.Test.YtgdngfdeeadlnaaGreatDoorZ14
import Derived.Test.YtgdngfdeeadlnaaGreatDoorZ27
import Derived.Test.YtgdngfdeeadlnaaGreatDoorZ28
import Derived.Test.YtgdngfdeeadlnaaGreatDoorZ09
import Derived.Test.YtgdngfdeeadlnaaGreatDoorZ11
import Derived.Test.YtgdngfdeeadlnaaGreatDoorZ10
import Derived.Test.YtgdngfdeeadlnaaGreatDoorZ05
import Derived.Test.YtgdngfdeeadlnaaGreatDoorZ01
import Derived.Lib.AtoiAll
import Derived.Lib.ItoaNum
import Derived.Test.YtgdngfdeeadlnaaGreatDoorZ07
set_option linter.unusedVariables false
set_option linter.unusedSimpArgs false
namespace Go.Proofs.YtgdngfdeeadlnaaGreatDoor
open Go.RowKit Num
theorem ckl_F (A : Option Addr) (n c : Nat) (w : World) (h : n ≤ 9223372036854775807) (h5 : ¬ n ≤ 500) : Calls Tryz.prog 6 #[.slice A n c] w fun e w' => e = .returned (.bool false) ∧ w = w' := by
 have:=k_Light A n c w h
 rwa [decide_eq_false (by omega)] at this
theorem ckl_T (A : Option Addr) (n c : Nat) (w : World) (h : n ≤ 9223372036854775807) (h5 : n ≤ 500) : Calls Tryz.prog 6 #[.slice A n c] w fun e w' => e = .returned (.bool true) ∧ w = w' := by
 have:=k_Light A n c w h
 rwa [decide_eq_true (by omega)] at this
open Classical in
noncomputable def eqD (x y : Stm) : Bool := decide (x = y)
def SamD (b : Bool) (w : World) (e : Ending) (w' : World) : Prop := e = .returned (.bool b) ∧ Below w.heap.size w w'
open Classical in
theorem SameB.d {x y : Stm} {w w' : World} {e : Ending} (h : SameB (x = y) w e w') : SamD (eqD x y) w e w' := by
 obtain ⟨b,he,hb,hB⟩:=h
 refine ⟨?_,hB⟩
 have:b=eqD x y:=by
  unfold eqD
  rw [Bool.eq_iff_iff,decide_eq_true_iff]
  exact hb
 rw [he,this]
structure LsS (W : World) (db q : Nat) (va vc vs : Value) (x : Stm) : Prop where
  blk : Blk W q 29 #[.string x.resp, .int .i64 x.dep, .int .i64 x.day, va, vc, vs]
  ne : q ≠ db
  at_ : StmAt W (fun b => b ≠ db ∧ b < W.heap.size) va vc vs x
structure LwF (W : World) (db q : Nat) (t : ByteArray) (v : Value) (L : List Fld) : Prop where
  blk : Blk W q 37 #[.string t, v]
  ne : q ≠ db
  at_ : FldsAt W (fun b => b ≠ db ∧ b < W.heap.size) v L
section
variable {W W' : World} {db q : Nat} {va vc vs v : Value} {x : Stm} {t : ByteArray} {L : List Fld}
theorem LsS.step (h : LsS W db q va vc vs x) (hg : W.grownBy W' (some db)) : LsS W' db q va vc vs x :=
 ⟨(hg.block q h.blk.lt (fun e => h.ne (Option.some.inj e))).trans h.blk,h.ne,(h.at_.keep fun b hb => hg.block b hb.2 (fun e => hb.1 (Option.some.inj e))).mono fun b hb => ⟨hb.1,Nat.lt_of_lt_of_le hb.2 hg.size⟩⟩
theorem LsS.alloc (h : LsS W db q va vc vs x) (o : Obj) : LsS (W.alloc o) db q va vc vs x := h.step (World.grownBy_alloc W o (some db))
theorem LsS.new (hd : db < W.heap.size) (h : StmAt W (fun b => b ≠ db ∧ b < W.heap.size) va vc vs x) : LsS (W.alloc (.cells #[.string x.resp,.int .i64 x.dep,.int .i64 x.day,va,vc,vs] 29)) db W.heap.size va vc vs x :=
 ⟨Blk.new W _ _,by omega,(h.keep fun b hb => Below.heap_alloc W _ b hb.2).mono fun b hb => ⟨hb.1,by rw [World.size_alloc]; omega⟩⟩
theorem LwF.step (h : LwF W db q t v L) (hg : W.grownBy W' (some db)) : LwF W' db q t v L :=
 ⟨(hg.block q h.blk.lt (fun e => h.ne (Option.some.inj e))).trans h.blk,h.ne,(h.at_.keep fun b hb => hg.block b hb.2 (fun e => hb.1 (Option.some.inj e))).mono fun b hb => ⟨hb.1,Nat.lt_of_lt_of_le hb.2 hg.size⟩⟩
theorem LwF.alloc (h : LwF W db q t v L) (o : Obj) : LwF (W.alloc o) db q t v L := h.step (World.grownBy_alloc W o (some db))
theorem LwF.new (hd : db < W.heap.size) (h : FldsAt W (fun b => b ≠ db ∧ b < W.heap.size) v L) : LwF (W.alloc (.cells #[.string t,v] 37)) db W.heap.size t v L :=
 ⟨Blk.new W _ _,by omega,(h.keep fun b hb => Below.heap_alloc W _ b hb.2).mono fun b hb => ⟨hb.1,by rw [World.size_alloc]; omega⟩⟩
end
theorem fld_all {P : Fld → Prop} {L : List Fld} (h : ∀ k,k < L.length → P (fldAt L k)) : ∀ f ∈ L,P f := fun f hf => by
 obtain ⟨j,hj,e⟩:=List.getElem_of_mem hf
 have h1:=h j hj
 have h2:fldAt L j=f:=by unfold fldAt; rw [List.getD_eq_getElem?_getD,List.getElem?_eq_getElem hj]; exact e
 rwa [h2] at h1
end Go.Proofs.YtgdngfdeeadlnaaGreatDoor
namespace Go.Proofs.YtgdngfdeeadlnaaGreatDoor
theorem pu_snoc (c : UInt8) : ∀ (A : List UInt8) (acc v : Nat),Lib.parseUint10 acc A = .ok v → Lib.parseUint10 acc (A ++ [c]) = Lib.parseUint10 v [c]
 | [],acc,v,h => by
  unfold Lib.parseUint10 at h
  injection h with h
  rw [h]; rfl
 | a :: A,acc,v,h => by
  rw [List.cons_append]
  unfold Lib.parseUint10 at h ⊢
  split at h
  ·rename_i hd
   rw [if_pos hd]
   split at h
   ·cases h
   ·rename_i h1
    rw [if_neg h1]
    split at h
    ·cases h
    ·rename_i h2
     rw [if_neg h2]
     exact pu_snoc c A _ v h
  ·cases h
theorem digit_nat {d : Nat} (h : d < 10) : (UInt8.ofNat (48 + d)).toNat = 48 + d := by
 show (48+d) % 256=48+d
 omega
theorem dec_step (u : Nat) (h : ¬ u < 10) : Lib.decDigits u = Lib.decDigits (u / 10) ++ [UInt8.ofNat (48 + u % 10)] := by
 rw [Lib.decDigits,dif_neg h]
theorem pu_dec (u : Nat) (hu : u < 18446744073709551616) : Lib.parseUint10 0 (Lib.decDigits u) = .ok u := by
 induction u using Nat.strongRecOn with
 | _ u ih =>
  by_cases h:u < 10
  ·rw [Lib.decDigits_one h]
   have hd:=digit_nat h
   unfold Lib.parseUint10
   rw [hd,if_pos (by omega),if_neg (by omega),if_neg (by omega)]
   unfold Lib.parseUint10
   congr 1
   omega
  ·rw [dec_step u h,pu_snoc _ _ _ _ (ih (u / 10) (by omega) (by omega))]
   have hd:=digit_nat (show u % 10 < 10 from Nat.mod_lt _ (by omega))
   unfold Lib.parseUint10
   rw [hd,if_pos (by omega),if_neg (by omega),if_neg (by omega)]
   unfold Lib.parseUint10
   congr 1
   omega
theorem dec_ne (u : Nat) : ∃ c r,Lib.decDigits u = c :: r ∧ c.toNat ≠ 43 ∧ c.toNat ≠ 45 := by
 induction u using Nat.strongRecOn with
 | _ u ih =>
  by_cases h:u < 10
  ·rw [Lib.decDigits_one h]
   exact ⟨_,_,rfl,by rw [digit_nat h]; omega,by rw [digit_nat h]; omega⟩
  ·obtain ⟨c,r,e,h1,h2⟩:=ih (u / 10) (by omega)
   rw [dec_step u h,e]
   exact ⟨c,_,rfl,h1,h2⟩
def I64 (n : Int) : Prop := -9223372036854775808 ≤ n ∧ n ≤ 9223372036854775807
theorem atoi_itoa {n : Int} (h : I64 n) : Lib.atoiAll (Lib.itoa n) = .ok n := by
 unfold I64 at h
 by_cases hn:n < 0
 ·have e:Lib.itoa n=45 :: Lib.decDigits n.natAbs:=by unfold Lib.itoa; rw [if_pos hn]
  obtain ⟨c,r,ec,-,-⟩:=dec_ne n.natAbs
  rw [e]
  unfold Lib.atoiAll
  have h45:(45:UInt8).toNat=45:=rfl
  have hp:Lib.parseMag (Lib.decDigits n.natAbs)=.ok n.natAbs:=by
   unfold Lib.parseMag
   rw [if_neg (by rw [ec]; simp),pu_dec _ (by omega)]
  simp only [h45,or_true,if_true,hp]
  rw [if_neg (by simp),if_neg (by omega)]
  try simp only [if_true]
  congr 1
  omega
 ·have e:Lib.itoa n=Lib.decDigits n.toNat:=by unfold Lib.itoa; rw [if_neg hn]
  obtain ⟨c,r,ec,h43,h45⟩:=dec_ne n.toNat
  have hp:Lib.parseMag (c :: r)=.ok n.toNat:=by
   unfold Lib.parseMag
   rw [if_neg (by simp),← ec,pu_dec _ (by omega)]
  rw [e,ec]
  unfold Lib.atoiAll
  simp only [h43,h45,or_self,if_false,hp]
  rw [if_neg (by omega),if_neg (by simp)]
  congr 1
  omega
open Classical in
noncomputable def decV (l : List UInt8) : Option Int := if h : ∃ n,I64 n ∧ Lib.itoa n = l then some h.choose else none
theorem itoa_inj {m n : Int} (hm : I64 m) (hn : I64 n) (h : Lib.itoa m = Lib.itoa n) : m = n := by
 have a:=atoi_itoa hm
 rw [h,atoi_itoa hn] at a
 injection a with a
 exact a.symm
theorem decV_some {l : List UInt8} {n : Int} (h : I64 n) (e : Lib.itoa n = l) : decV l = some n := by
 have hx:∃ n,I64 n ∧ Lib.itoa n=l:=⟨n,h,e⟩
 unfold decV
 rw [dif_pos hx]
 have hs:=hx.choose_spec
 rw [itoa_inj hs.1 h (hs.2.trans e.symm)]
theorem decV_none {l : List UInt8} (h : ∀ n,I64 n → Lib.itoa n ≠ l) : decV l = none := by
 unfold decV
 rw [dif_neg]
 rintro ⟨n,a,b⟩
 exact h n a b
theorem decV_spec {l : List UInt8} {n : Int} (h : decV l = some n) : I64 n ∧ Lib.itoa n = l := by
 unfold decV at h
 split at h
 ·rename_i hx
  injection h with h
  rw [← h]
  exact hx.choose_spec
 ·cases h
theorem decV_atoi {l : List UInt8} (h : ∀ n,Lib.atoiAll l ≠ .ok n) : decV l = none := decV_none fun n hn e => h n (by rw [← e]; exact atoi_itoa hn)
end Go.Proofs.YtgdngfdeeadlnaaGreatDoor
namespace Go.Proofs.YtgdngfdeeadlnaaGreatDoor
open Go.RowKit Num
theorem fstF_lt {L : List Fld} {s : ByteArray} {k : Nat} (h : fstF L s = some k) : k < L.length ∧ (fldAt L k).name = s := by
 unfold fstF at h
 have h1:=List.find?_some h
 have h2:=List.mem_of_find?_eq_some h
 exact ⟨List.mem_range.1 h2,by simpa using h1⟩
def badT (L : List Fld) (t : Trm) : Bool := if t.kind = 7 then (match fstF L t.field with | none => true | some k => !decide ((fldAt L k).kind = 4) && !decide ((fldAt L k).kind = 1)) else false
set_option maxRecDepth 100000 in
set_option maxHeartbeats 2000000 in
theorem a_asks1 (t : Trm) (Au : Option Addr) (nu cu fb : Nat) (title : ByteArray) (v : Value) (L : List Fld) (W : World) (hb : Blk W fb 37 #[.string title,v]) (hF : FldsAt W (· < W.heap.size) v L) (hl : L.length ≤ 1000000) :
  Calls Tryz.prog 93 #[.agg #[.int .i64 t.kind,.int .i64 t.num,.int .i64 t.yrs,.string t.field,.string t.text,.slice Au nu cu],.pointer (some ⟨fb,0,none⟩)] W (BoolBel (badT L t) W):=by
 obtain ⟨kd,nm,yr,fl,tx,ar⟩:=t
 obtain ⟨A,n,c,rfl,hn,hnc,hc⟩:=id hF
 have hb0:=below_al' W (.cells #[.int .i64 kd,.int .i64 nm,.int .i64 yr,.string fl,.string tx,.slice Au nu cu] 75)
 have HB:=Lib.hid hb0
 by_cases h7:kd=7
 ·subst h7
  have hbl:=hb.alloc (.cells #[.int .i64 7,.int .i64 nm,.int .i64 yr,.string fl,.string tx,.slice Au nu cu] 75)
  have c0:=(hbl.cell 0).trans (show _=some (Value.string title) from rfl)
  have c1:=(hbl.cell 1).trans (show _=some (Value.slice A n c) from rfl)
  have hfn:=f_Find title fl (.slice A n c) L (· < (W.alloc (.cells #[.int .i64 7,.int .i64 nm,.int .i64 yr,.string fl,.string tx,.slice Au nu cu] 75)).heap.size) _ ((hF.keep fun b hB => hb0.block b hB).mono fun b hB => Nat.lt_of_lt_of_le hB hb0.size) (fun b hB => hB) hl
  have HFN:=Lib.hid hfn
  have HBL:=Lib.hid hbl
  have HC:=Lib.hid hc
  have HN:=Lib.hid hn
  clear hfn hbl hb hF hb0 hc hn
  cases hf:fstF L fl with
  | none =>
   have e:badT L ⟨7,nm,yr,fl,tx,ar⟩=true:=by simp [badT,hf]
   rw [e]
   unfold FndE at HFN
   rw [hf] at HFN
   have HF0:=Lib.hid hf
   clear hf e
   go_enter Tryz.func93,Tryz.ntmps93
   go_wp2_with fail
   refine HFN.out.mono ?_
   rintro e w2 ⟨rfl,hb2⟩
   have HB2:=Lib.hid (HB.out.trans (hb2.mono HB.out.size))
   clear hb2
   go_wp2_with fail
   go_ret
   exact ⟨rfl,HB2.out⟩
  | some k =>
   obtain ⟨hk,hkn⟩:=fstF_lt hf
   unfold FndE at HFN
   rw [hf] at HFN
   have hfe:badT L ⟨7,nm,yr,fl,tx,ar⟩=(!decide ((fldAt L k).kind=4) && !decide ((fldAt L k).kind=1)):=by simp [badT,hf]
   obtain ⟨b,off,rfl,hS,hcc⟩:=HC.out (by have:=HN.out; omega)
   have hcell:=(hcc k (by have:=HN.out; omega)).2.1
   obtain ⟨kf,hkf⟩:∃ x,(fldAt L k).kind=x:=⟨_,rfl⟩
   rw [hkf] at hcell hfe
   have zi:(k:Int) < (n:Int):=by have:=HN.out; omega
   have z0:(0:Int) ≤ (k:Int):=by omega
   have HCE:=Lib.hid (And.intro hS hcell)
   clear hf hkn hcc hkf hcell hS
   rw [hfe]
   clear hfe
   by_cases e4:kf=4
   ·subst e4
    go_enter Tryz.func93,Tryz.ntmps93
    go_wp2_with fail
    refine HFN.out.mono ?_
    rintro e w2 ⟨rfl,hb2⟩
    have hb2':=HB.out.trans (hb2.mono HB.out.size)
    have HB2:=Lib.hid hb2'
    have d1:=(HBL.out.below' hb2 HBL.out.lt).cell 1 |>.trans (show _=some (Value.slice (some ⟨b,off,none⟩) n c) from rfl)
    have k1:=(hb2'.cell (p:=⟨b,off+k*6+1,none⟩) HCE.out.1).trans HCE.out.2
    clear hb2 hb2'
    go_wp2_with fail
    go_ret
    exact ⟨rfl,HB2.out⟩
   ·have hk4:(kf != (4:Int))=true:=by simpa using e4
    by_cases e1:kf=1
    ·subst e1
     go_enter Tryz.func93,Tryz.ntmps93
     go_wp2_with fail
     refine HFN.out.mono ?_
     rintro e w2 ⟨rfl,hb2⟩
     have hb2':=HB.out.trans (hb2.mono HB.out.size)
     have HB2:=Lib.hid hb2'
     have d1:=(HBL.out.below' hb2 HBL.out.lt).cell 1 |>.trans (show _=some (Value.slice (some ⟨b,off,none⟩) n c) from rfl)
     have k1:=(hb2'.cell (p:=⟨b,off+k*6+1,none⟩) HCE.out.1).trans HCE.out.2
     clear hb2 hb2'
     go_wp2_with fail
     go_ret
     exact ⟨rfl,HB2.out⟩
    ·have hk1:(kf != (1:Int))=true:=by simpa using e1
     have ee:(!decide (kf=4) && !decide (kf=1))=true:=by simp [e4,e1]
     rw [ee]
     clear ee
     go_enter Tryz.func93,Tryz.ntmps93
     go_wp2_with fail
     refine HFN.out.mono ?_
     rintro e w2 ⟨rfl,hb2⟩
     have hb2':=HB.out.trans (hb2.mono HB.out.size)
     have HB2:=Lib.hid hb2'
     have d1:=(HBL.out.below' hb2 HBL.out.lt).cell 1 |>.trans (show _=some (Value.slice (some ⟨b,off,none⟩) n c) from rfl)
     have k1:=(hb2'.cell (p:=⟨b,off+k*6+1,none⟩) HCE.out.1).trans HCE.out.2
     clear hb2 hb2'
     go_wp2_with fail
     go_ret
     exact ⟨rfl,HB2.out⟩
 ·have e:badT L ⟨kd,nm,yr,fl,tx,ar⟩=false:=by simp [badT,h7]
  have z2:(kd != 7)=true:=by simpa using h7
  rw [e]
  clear e hb0
  go_enter Tryz.func93,Tryz.ntmps93
  go_wp2_with fail
  go_ret
  exact ⟨rfl,HB.out⟩
set_option maxRecDepth 100000 in
set_option maxHeartbeats 2000000 in
theorem i_asks (v : Value) (T : List Trm) (fb : Nat) (title : ByteArray) (vf : Value) (L : List Fld) (w : World) (hv : TermsAt w (· < w.heap.size) v T) (hT : T.length ≤ 1000000) (hb : Blk w fb 37 #[.string title,vf]) (hF : FldsAt w (· < w.heap.size) vf L) (hl : L.length ≤ 1000000) :
  Calls Tryz.prog 122 #[v,.func (.func 93) #[] #[.pointer (some ⟨fb,0,none⟩)]] w fun e w' => ∃ k:Int,e=.returned (.int .i64 k) ∧ (0 ≤ k ↔ ∃ t ∈ T,badT L t=true) ∧ -1 ≤ k ∧ k ≤ 1000000 ∧ Below w.heap.size w w':=by
 obtain ⟨A,n,c,rfl,hn,hnc,hc⟩:=hv
 have hn1:n ≤ 1000000:=by omega
 have ha:=fun (W:World) (hW:Below w.heap.size w W) (t:Trm) (Au:Option Addr) (nu cu:Nat) => a_asks1 t Au nu cu fb title vf L W (hb.below' hW hb.lt) ((hF.keep fun b hB => hW.block b hB).mono fun b hB => Nat.lt_of_lt_of_le hB hW.size) hl
 have HA:=Lib.hid ha
 have HC:=Lib.hid hc
 have HN:=Lib.hid hn
 clear ha hc hn hb hF
 go_enter Tryz.func122,Tryz.ntmps122
 go_wp2_with fail
 go_loopw [8] (fun v8 wr => ∃ k:Nat,k ≤ n ∧ v8=.int .i64 (k:Int) ∧ (∀ j,j < k → badT L (trmAt T j)=false) ∧ Below w.heap.size w wr) (fun v8 _ => n - (intOf v8).toNat)
 case atStart => exact ⟨0,by omega,rfl,fun j hj => absurd hj (Nat.not_lt_zero _),Below.refl _ _⟩
 case round =>
  obtain ⟨k,hk,rfl,hne,hbr⟩:=hrel
  rename World => wr
  have HNE:=Lib.hid hne
  have HBR:=Lib.hid hbr
  clear hne hbr
  by_cases hlt:k < n
  ·obtain ⟨b,off,rfl,hS,hcc⟩:=HC.out (by omega)
   obtain ⟨x0,x1,x2,x3,x4,u,x5,hu⟩:=hcc k hlt
   obtain ⟨Au,nu,cu,rfl,-⟩:=hu
   have hm:trmAt T k ∈ T:=trmAt_mem (by have:=HN.out; omega)
   have hcal:=HA.out wr HBR.out (trmAt T k) Au nu cu
   obtain ⟨t,ht⟩:∃ t,trmAt T k=t:=⟨_,rfl⟩
   rw [ht] at x0 x1 x2 x3 x4 hm hcal
   have e0:=(HBR.out.cell (p:=⟨b,off+k*6,none⟩) hS).trans x0
   have e1:=(HBR.out.cell (p:=⟨b,off+k*6+1,none⟩) hS).trans x1
   have e2:=(HBR.out.cell (p:=⟨b,off+k*6+2,none⟩) hS).trans x2
   have e3:=(HBR.out.cell (p:=⟨b,off+k*6+3,none⟩) hS).trans x3
   have e4:=(HBR.out.cell (p:=⟨b,off+k*6+4,none⟩) hS).trans x4
   have e5:=(HBR.out.cell (p:=⟨b,off+k*6+5,none⟩) hS).trans x5
   have HT:=Lib.hid ht
   have HM:=Lib.hid hm
   have HCAL:=Lib.hid hcal
   have zi:(k:Int) < (n:Int):=by omega
   have z0:(0:Int) ≤ (k:Int):=by omega
   clear x0 x1 x2 x3 x4 x5 hcc ht hm hcal
   cases hbt:badT L t
   ·rw [hbt] at HCAL
    have HBT:=Lib.hid hbt
    clear hbt
    go_wp2_with fail
    refine HCAL.out.mono ?_
    rintro e w1 ⟨rfl,hb1⟩
    have HB1:=Lib.hid (HBR.out.trans (hb1.mono HBR.out.size))
    clear hb1
    go_wp2_with fail
    go_roundw
    case measure => simp [intOf]; omega
    case rel => exact ⟨k+1,by omega,by go_num,fun j hj => by
     rcases Nat.lt_or_ge j k with h | h
     ·exact HNE.out j h
     ·rw [show j=k by omega,HT.out]; exact HBT.out,HB1.out⟩
   ·rw [hbt] at HCAL
    have HBT:=Lib.hid hbt
    clear hbt
    go_wp2_with fail
    refine HCAL.out.mono ?_
    rintro e w1 ⟨rfl,hb1⟩
    have HB1:=Lib.hid (HBR.out.trans (hb1.mono HBR.out.size))
    clear hb1
    go_wp2_with fail
    go_ret
    exact ⟨(k:Int),rfl,⟨fun _ => ⟨t,HM.out,HBT.out⟩,fun _ => by omega⟩,by omega,by omega,HB1.out⟩
  ·have zi:¬ (k:Int) < (n:Int):=by omega
   have he:¬ ∃ t ∈ T,badT L t=true:=fun ⟨t,ht,hbt⟩ => by
    obtain ⟨j,hj,e⟩:=List.getElem_of_mem ht
    have h1:=HNE.out j (by have:=HN.out; omega)
    have h2:trmAt T j=t:=by unfold trmAt; rw [List.getD_eq_getElem?_getD,List.getElem?_eq_getElem hj]; exact e
    rw [h2,hbt] at h1
    cases h1
   have HE:=Lib.hid he
   clear he
   go_wp2_with fail
   go_ret
   exact ⟨-1,rfl,⟨fun h => absurd h (by decide),fun h => absurd h HE.out⟩,by decide,by decide,HBR.out⟩
def asksF (L : List Fld) (T : List Trm) : Bool := rightB T && !T.any (badT L)
set_option maxRecDepth 100000 in
set_option maxHeartbeats 2000000 in
theorem c_asks (v : Value) (T : List Trm) (fb : Nat) (title : ByteArray) (vf : Value) (L : List Fld) (w : World) (hv : TermsAt w (· < w.heap.size) v T) (hT : T.length ≤ 1000000) (hb : Blk w fb 37 #[.string title,vf]) (hF : FldsAt w (· < w.heap.size) vf L) (hl : L.length ≤ 1000000) :
  Calls Tryz.prog 92 #[v,.func (.func 93) #[] #[.pointer (some ⟨fb,0,none⟩)]] w (BoolBel (T.any (badT L)) w):=by
 have HC:=Lib.hid (i_asks v T fb title vf L w hv hT hb hF hl)
 clear hv hT hb hF hl
 go_enter Tryz.func92,Tryz.ntmps92
 go_wp2_with fail
 refine HC.out.mono ?_
 rintro e w1 ⟨k,rfl,hk,-,-,hb1⟩
 have e9:T.any (badT L)=decide (0 ≤ k):=by rw [Bool.eq_iff_iff,decide_eq_true_iff,hk,List.any_eq_true]
 have HB1:=Lib.hid hb1
 have HE:=Lib.hid e9
 clear hb1 e9 hk
 go_wp2_with fail
 go_ret
 exact ⟨by rw [HE.out]; rfl,HB1.out⟩
set_option maxRecDepth 100000 in
set_option maxHeartbeats 400000 in
theorem c_Valid (v : Value) (T : List Trm) (w : World) (hv : TermsAt w (· < w.heap.size) v T) (hT : T.length ≤ 1000000) (hok : ∀ t ∈ T,TrmOk t) :
  Calls Tryz.prog 91 #[.agg #[v]] w (BoolBel (rightB T) w):=by
 obtain ⟨A,n,c,rfl,-⟩:=id hv
 have hb0:=below_al' w (.cells #[.slice A n c] 26)
 have hr:=f_Right (.slice A n c) T w.heap.size (w.alloc (.cells #[.slice A n c] 26)) (hv.keep fun b hb => hb0.block b hb) hb0.size hT hok
 have HR:=Lib.hid hr
 have HB:=Lib.hid hb0
 clear hr hb0 hv
 go_enter Tryz.func91,Tryz.ntmps91
 go_wp2_with fail
 refine HR.out.mono ?_
 rintro e w1 ⟨rfl,hb1⟩
 have HB1:=Lib.hid (HB.out.trans (hb1.mono HB.out.size))
 clear hb1
 go_wp2_with fail
 go_ret
 exact ⟨rfl,HB1.out⟩
set_option maxRecDepth 100000 in
set_option maxHeartbeats 2000000 in
theorem s_asks (v : Value) (T : List Trm) (title : ByteArray) (vf : Value) (L : List Fld) (w : World) (hv : TermsAt w (· < w.heap.size) v T) (hT : T.length ≤ 1000000) (hok : ∀ t ∈ T,TrmOk t) (hF : FldsAt w (· < w.heap.size) vf L) (hl : L.length ≤ 1000000) :
  Calls Tryz.prog 54 #[.agg #[.string title,vf],.agg #[v]] w (BoolBel (asksF L T) w):=by
 obtain ⟨A,n,c,rfl,-⟩:=id hv
 obtain ⟨Af,nf,cf,rfl,-⟩:=id hF
 have hb2:Below w.heap.size w ((w.alloc (.cells #[.string title,.slice Af nf cf] 37)).alloc (.cells #[.slice A n c] 26)):=((Below.refl _ _).alloc (Nat.le_refl _) _).alloc (by simp) _
 have hbf:Blk ((w.alloc (.cells #[.string title,.slice Af nf cf] 37)).alloc (.cells #[.slice A n c] 26)) w.heap.size 37 #[.string title,.slice Af nf cf]:=(Blk.new w _ _).alloc _
 have hbc:Blk ((w.alloc (.cells #[.string title,.slice Af nf cf] 37)).alloc (.cells #[.slice A n c] 26)) (w.heap.size+1) 26 #[.slice A n c]:=by
  have:=Blk.new (w.alloc (.cells #[.string title,.slice Af nf cf] 37)) 26 #[.slice A n c]
  rwa [World.size_alloc] at this
 have up:∀ W,Below w.heap.size w W → TermsAt W (· < W.heap.size) (.slice A n c) T ∧ FldsAt W (· < W.heap.size) (.slice Af nf cf) L:=fun W hW => ⟨(hv.keep fun b hB => hW.block b hB).mono fun b hB => Nat.lt_of_lt_of_le hB hW.size,(hF.keep fun b hB => hW.block b hB).mono fun b hB => Nat.lt_of_lt_of_le hB hW.size⟩
 have c0:=(hbc.cell 0).trans (show _=some (Value.slice A n c) from rfl)
 have hva:=c_Valid (.slice A n c) T _ (up _ hb2).1 hT hok
 have UP:=Lib.hid up
 have HB2:=Lib.hid hb2
 have HBF:=Lib.hid hbf
 have HBC:=Lib.hid hbc
 have HVA:=Lib.hid hva
 clear up hb2 hbf hbc hva hv hF hok
 cases hr:rightB T
 ·rw [hr] at HVA
  have e9:asksF L T=false:=by unfold asksF; rw [hr]; rfl
  rw [e9]
  clear e9 hr
  go_enter Tryz.func54,Tryz.ntmps54
  go_wp2_with fail
  refine HVA.out.mono ?_
  rintro e w1 ⟨rfl,hb1⟩
  have HB1:=Lib.hid (HB2.out.trans (hb1.mono HB2.out.size))
  clear hb1
  go_wp2_with fail
  go_ret
  exact ⟨rfl,HB1.out⟩
 ·rw [hr] at HVA
  have e9:asksF L T = !T.any (badT L):=by unfold asksF; rw [hr]; rfl
  rw [e9]
  clear e9 hr
  go_enter Tryz.func54,Tryz.ntmps54
  go_wp2_with fail
  refine HVA.out.mono ?_
  rintro e w1 ⟨rfl,hb1⟩
  have hb1':=HB2.out.trans (hb1.mono HB2.out.size)
  have HB1:=Lib.hid hb1'
  have hca:=c_asks (.slice A n c) T w.heap.size title (.slice Af nf cf) L w1 (UP.out _ hb1').1 hT (HBF.out.below' hb1 HBF.out.lt) (UP.out _ hb1').2 hl
  have HCA:=Lib.hid hca
  have d0:=((HBC.out.below' hb1 HBC.out.lt).cell 0).trans (show _=some (Value.slice A n c) from rfl)
  clear hb1 hb1' hca
  go_wp2_with fail
  refine HCA.out.mono ?_
  rintro e w3 ⟨rfl,hb3⟩
  have HB3:=Lib.hid (HB1.out.trans (hb3.mono HB1.out.size))
  clear hb3
  cases hany:T.any (badT L)
  all_goals
   go_wp2_with fail
   go_ret
   exact ⟨by (try rw [hany]); rfl,HB3.out⟩
end Go.Proofs.YtgdngfdeeadlnaaGreatDoor
namespace Go.Proofs.YtgdngfdeeadlnaaGreatDoor
def ans0 : Ans := ⟨⟨#[]⟩,⟨#[]⟩,0⟩
noncomputable def valA (D : ByteArray → Option Int) (F : Fld) (t : ByteArray) : Option Ans :=
 if F.kind=2 then (decV t.toList).map fun n => ⟨F.name,⟨#[]⟩,n⟩
 else if F.kind=3 then (D t).map fun n => ⟨F.name,⟨#[]⟩,n⟩
 else some ⟨F.name,t,0⟩
noncomputable def valF (D : ByteArray → Option Int) (F : Fld) (t : ByteArray) : Ans × Int :=
 match valA D F t with
 | some a => if fitsF F a=true then (a,0) else (ans0,13)
 | none => (ans0,13)
noncomputable def valS (D : ByteArray → Option Int) (ok : Bool) (L : List Fld) (s t : ByteArray) : Ans × Int :=
 if ok=true then
  match fstF L s with
  | some i => valF D (fldAt L i) t
  | none => (ans0,13)
 else (ans0,1)
section
variable {D : ByteArray → Option Int} {F : Fld} {t s : ByteArray} {a : Ans} {n : Int} {L : List Fld} {i : Nat}
theorem valA_name (h : valA D F t = some a) : a.field = F.name := by
 unfold valA at h
 split at h
 ·cases hd:decV t.toList <;> rw [hd] at h <;> simp at h
  rw [← h]
 ·split at h
  ·cases hd:D t <;> rw [hd] at h <;> simp at h
   rw [← h]
  ·injection h with h
   rw [← h]
theorem valA_num (k : F.kind = 2) (h : decV t.toList = some n) : valA D F t = some ⟨F.name,⟨#[]⟩,n⟩ := by unfold valA; rw [if_pos k,h]; rfl
theorem valA_num_no (k : F.kind = 2) (h : decV t.toList = none) : valA D F t = none := by unfold valA; rw [if_pos k,h]; rfl
theorem valA_day (k : F.kind = 3) (h : D t = some n) : valA D F t = some ⟨F.name,⟨#[]⟩,n⟩ := by unfold valA; rw [if_neg (by omega),if_pos k,h]; rfl
theorem valA_day_no (k : F.kind = 3) (h : D t = none) : valA D F t = none := by unfold valA; rw [if_neg (by omega),if_pos k,h]; rfl
theorem valA_txt (k : F.kind ≠ 2) (k3 : F.kind ≠ 3) : valA D F t = some ⟨F.name,t,0⟩ := by unfold valA; rw [if_neg k,if_neg k3]
theorem valF_yes (h : valA D F t = some a) (hf : fitsF F a = true) : valF D F t = (a,0) := by unfold valF; rw [h]; exact if_pos hf
theorem valF_no (h : valA D F t = some a) (hf : fitsF F a = false) : valF D F t = (ans0,13) := by unfold valF; rw [h]; exact if_neg (by rw [hf]; simp)
theorem valF_none (h : valA D F t = none) : valF D F t = (ans0,13) := by unfold valF; rw [h]
theorem valS_bad : valS D false L s t = (ans0,1) := by unfold valS; rw [if_neg (by simp)]
theorem valS_miss (h : fstF L s = none) : valS D true L s t = (ans0,13) := by unfold valS; rw [if_pos rfl,h]
theorem valS_hit (h : fstF L s = some i) : valS D true L s t = valF D (fldAt L i) t := by unfold valS; rw [if_pos rfl,h]
theorem valF_ok (h : (valF D F t).2 = 0) : valA D F t = some (valF D F t).1 ∧ (valF D F t).1.field = F.name ∧ fitsF F (valF D F t).1 = true := by
 cases ha:valA D F t with
 | none => rw [valF_none ha] at h; exact absurd h (show ¬ (13:Int)=0 by decide)
 | some a =>
  cases hf:fitsF F a with
  | false => rw [valF_no ha hf] at h; exact absurd h (show ¬ (13:Int)=0 by decide)
  | true =>
   rw [valF_yes ha hf]
   exact ⟨rfl,valA_name ha,hf⟩
theorem valF_err : (valF D F t).2 = 0 ∨ valF D F t = (ans0,13) := by
 cases ha:valA D F t with
 | none => exact .inr (valF_none ha)
 | some a =>
  cases hf:fitsF F a with
  | false => exact .inr (valF_no ha hf)
  | true => exact .inl (by rw [valF_yes ha hf])
theorem valF_num (k : F.kind = 2) (h : decV t.toList = some n) (h0 : (valF D F t).2 = 0) : (valF D F t).1.num = n := by
 have e:=(valF_ok h0).1
 rw [valA_num k h] at e
 injection e with e
 rw [← e]
end
end Go.Proofs.YtgdngfdeeadlnaaGreatDoor

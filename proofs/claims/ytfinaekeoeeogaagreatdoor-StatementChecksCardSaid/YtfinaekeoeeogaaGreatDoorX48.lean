/- Contracts: the statement StatementChecks. -/
import Derived.Test.YtfinaekeoeeogaaGreatDoorX25
import Derived.Test.YtfinaekeoeeogaaGreatDoorX38
import Derived.Test.YtfinaekeoeeogaaGreatDoorX40
import Derived.Test.YtfinaekeoeeogaaGreatDoorX45
import Derived.Test.YtfinaekeoeeogaaGreatDoorX47
import Derived.Test.YtfinaekeoeeogaaGreatDoorX33
import Derived.Test.YtfinaekeoeeogaaGreatDoorX14
import Derived.Test.YtfinaekeoeeogaaGreatDoorX12
set_option linter.unusedVariables false
set_option linter.unusedSimpArgs false
namespace Go.Proofs.YtfinaekeoeeogaaGreatDoor
open Go.RowKit Num
theorem ckl_F (A : Option Addr) (n c : Nat) (w : World) (h : n ≤ 9223372036854775807) (h5 : ¬ n ≤ 500) : Calls Tryz.prog 4 #[.slice A n c] w fun e w' => e = .returned (.bool false) ∧ w = w' := by
 have:=k_Light A n c w h
 rwa [decide_eq_false (by omega)] at this
theorem ckl_T (A : Option Addr) (n c : Nat) (w : World) (h : n ≤ 9223372036854775807) (h5 : n ≤ 500) : Calls Tryz.prog 4 #[.slice A n c] w fun e w' => e = .returned (.bool true) ∧ w = w' := by
 have:=k_Light A n c w h
 rwa [decide_eq_true (by omega)] at this
theorem ArgL.below2 {w w' : World} {v : Value} (h : ArgL w v) (hb : Below w.heap.size w w') : ArgL w' v := by
 obtain ⟨A,n,c,L,rfl,h1,h2⟩:=h
 refine ⟨A,n,c,L,rfl,h1,fun hn => ?_⟩
 obtain ⟨b0,off,hA,hlt,hc⟩:=h2 hn
 exact ⟨b0,off,hA,Nat.lt_of_lt_of_le hlt hb.size,fun i hi => (hb.cell (p:=⟨b0,off+i,none⟩) hlt).trans (hc i hi)⟩
open Classical in
noncomputable def eqD (x y : Stm) : Bool := decide (x = y)
theorem eqD_self (x : Stm) : eqD x x = true := by unfold eqD; simp
def SamD (b : Bool) (w : World) (e : Ending) (w' : World) : Prop := e = .returned (.bool b) ∧ Below w.heap.size w w'
open Classical in
theorem SameB.d {x y : Stm} {w w' : World} {e : Ending} (h : SameB (x = y) w e w') : SamD (eqD x y) w e w' := by
 obtain ⟨b,he,hb,hB⟩:=h
 refine ⟨?_,hB⟩
 have:b=eqD x y:=by
  unfold eqD
  rw [Bool.eq_iff_iff,decide_eq_true_iff]
  exact hb
 rw [he,this]
structure LsS (W : World) (db q : Nat) (va vc vs : Value) (x : Stm) : Prop where
  blk : Blk W q 29 #[.string x.resp, .int .i64 x.dep, .int .i64 x.day, va, vc, vs]
  ne : q ≠ db
  at_ : StmAt W (fun b => b ≠ db ∧ b < W.heap.size) va vc vs x
structure LwF (W : World) (db q : Nat) (t : ByteArray) (v : Value) (L : List Fld) : Prop where
  blk : Blk W q 37 #[.string t, v]
  ne : q ≠ db
  at_ : FldsAt W (fun b => b ≠ db ∧ b < W.heap.size) v L
section
variable {W W' : World} {db q : Nat} {va vc vs v : Value} {x : Stm} {t : ByteArray} {L : List Fld}
theorem LsS.step (h : LsS W db q va vc vs x) (hg : W.grownBy W' (some db)) : LsS W' db q va vc vs x :=
 ⟨(hg.block q h.blk.lt (fun e => h.ne (Option.some.inj e))).trans h.blk,h.ne,(h.at_.keep fun b hb => hg.block b hb.2 (fun e => hb.1 (Option.some.inj e))).mono fun b hb => ⟨hb.1,Nat.lt_of_lt_of_le hb.2 hg.size⟩⟩
theorem LsS.alloc (h : LsS W db q va vc vs x) (o : Obj) : LsS (W.alloc o) db q va vc vs x := h.step (World.grownBy_alloc W o (some db))
theorem LsS.new (hd : db < W.heap.size) (h : StmAt W (fun b => b ≠ db ∧ b < W.heap.size) va vc vs x) : LsS (W.alloc (.cells #[.string x.resp,.int .i64 x.dep,.int .i64 x.day,va,vc,vs] 29)) db W.heap.size va vc vs x :=
 ⟨Blk.new W _ _,by omega,(h.keep fun b hb => Below.heap_alloc W _ b hb.2).mono fun b hb => ⟨hb.1,by rw [World.size_alloc]; omega⟩⟩
theorem LwF.step (h : LwF W db q t v L) (hg : W.grownBy W' (some db)) : LwF W' db q t v L :=
 ⟨(hg.block q h.blk.lt (fun e => h.ne (Option.some.inj e))).trans h.blk,h.ne,(h.at_.keep fun b hb => hg.block b hb.2 (fun e => hb.1 (Option.some.inj e))).mono fun b hb => ⟨hb.1,Nat.lt_of_lt_of_le hb.2 hg.size⟩⟩
theorem LwF.alloc (h : LwF W db q t v L) (o : Obj) : LwF (W.alloc o) db q t v L := h.step (World.grownBy_alloc W o (some db))
theorem LwF.new (hd : db < W.heap.size) (h : FldsAt W (fun b => b ≠ db ∧ b < W.heap.size) v L) : LwF (W.alloc (.cells #[.string t,v] 37)) db W.heap.size t v L :=
 ⟨Blk.new W _ _,by omega,(h.keep fun b hb => Below.heap_alloc W _ b hb.2).mono fun b hb => ⟨hb.1,by rw [World.size_alloc]; omega⟩⟩
end
theorem fld_all {P : Fld → Prop} {L : List Fld} (h : ∀ k,k < L.length → P (fldAt L k)) : ∀ f ∈ L,P f := fun f hf => by
 obtain ⟨j,hj,e⟩:=List.getElem_of_mem hf
 have h1:=h j hj
 have h2:fldAt L j=f:=by unfold fldAt; rw [List.getD_eq_getElem?_getD,List.getElem?_eq_getElem hj]; exact e
 rwa [h2] at h1
set_option maxRecDepth 100000 in
set_option maxHeartbeats 400000 in
theorem ck_heavy (A : Option Addr) (n c : Nat) (s : Stm) (Aa : Option Addr) (na ca : Nat) (Ac : Option Addr) (nc cc : Nat) (As : Option Addr) (ns cs : Nat) (w : World) (hl : ParOk w) (hn : n ≤ 9223372036854775807) (h5 : ¬ n ≤ 500) :
  Calls Tryz.prog 3 #[.slice A n c,.agg #[.string s.resp,.int .i64 s.dep,.int .i64 s.day,.slice Aa na ca,.slice Ac nc cc,.slice As ns cs]] w (AwkO w):=by
 have hb0:=below_al' w (.cells #[.string s.resp,.int .i64 s.dep,.int .i64 s.day,.slice Aa na ca,.slice Ac nc cc,.slice As ns cs] 29)
 have HB0:=Lib.hid hb0
 have HL:=Lib.hid (hl.later hb0)
 clear hl hb0
 go_enter Tryz.func3,Tryz.ntmps3
 go_wp2_with fail
 refine (ckl_F A n c _ hn h5).mono ?_
 rintro e w1 ⟨rfl,rfl⟩
 go_wp2_with fail
 refine (aw_awake _ HL.out).mono ?_
 rintro e w2 ⟨rfl,hb2⟩
 have HB2:=Lib.hid (HB0.out.trans (hb2.mono HB0.out.size))
 clear hb2
 go_wp2_with fail
 go_ret
 exact ⟨rfl,HB2.out⟩
set_option maxRecDepth 100000 in
set_option maxHeartbeats 8000000 in
theorem ck_light (A : Option Addr) (n c : Nat) (s : Stm) (Aa : Option Addr) (na ca : Nat) (Ac : Option Addr) (nc cc : Nat) (As : Option Addr) (ns cs : Nat) (w : World) (hl : ParOk w) (hsp : SpcOk w) (hn : n ≤ 9223372036854775807) (h5 : n ≤ 500) (har : ArgL w (.slice A n c))
  (hS:StmAt w (· < w.heap.size) (.slice Aa na ca) (.slice Ac nc cc) (.slice As ns cs) s) (hw:StmWide s) (hz:StmSz s) :
  Calls Tryz.prog 3 #[.slice A n c,.agg #[.string s.resp,.int .i64 s.dep,.int .i64 s.day,.slice Aa na ca,.slice Ac nc cc,.slice As ns cs]] w (AwkO w):=by
 have hmx:Tryz.prog.follows .mixedOrders=true:=by kernel_rfl
 have hb0:=below_al' w (.cells #[.string s.resp,.int .i64 s.dep,.int .i64 s.day,.slice Aa na ca,.slice Ac nc cc,.slice As ns cs] 29)
 have hr0:=Blk.new w 29 #[.string s.resp,.int .i64 s.dep,.int .i64 s.day,.slice Aa na ca,.slice Ac nc cc,.slice As ns cs]
 have hS0:StmAt (w.alloc (.cells #[.string s.resp,.int .i64 s.dep,.int .i64 s.day,.slice Aa na ca,.slice Ac nc cc,.slice As ns cs] 29)) (· < (w.alloc (.cells #[.string s.resp,.int .i64 s.dep,.int .i64 s.day,.slice Aa na ca,.slice Ac nc cc,.slice As ns cs] 29)).heap.size) (.slice Aa na ca) (.slice Ac nc cc) (.slice As ns cs) s:=(hS.keep fun b hB => hb0.block b hB).mono fun b hB => Nat.lt_of_lt_of_le hB hb0.size
 have lib:∀ W,Below w.heap.size w W → ParOk W ∧ SpcOk W:=fun W hW => ⟨hl.later hW,spc_below hsp (by have:=hl.lib.size; show 0 < _; omega) hW⟩
 have HLB:=Lib.hid lib
 have HB0:=Lib.hid hb0
 have HR0:=Lib.hid hr0
 have HS0:=Lib.hid hS0
 have HSI:=Lib.hid hS
 have HAR:=Lib.hid har
 have HSM:=Lib.hid (s_small s Aa na ca Ac nc cc As ns cs _ hS0 hw hz)
 have HWD:=Lib.hid hw
 clear hl hsp har hS hw hz hb0 hr0 hS0 lib
 go_enter Tryz.func3,Tryz.ntmps3
 go_wp2_with fail
 refine (ckl_T A n c _ hn h5).mono ?_
 rintro e w1 ⟨rfl,rfl⟩
 go_wp2_with fail
 refine HSM.out.mono ?_
 rintro e w2 ⟨rfl,hb2⟩
 have hB2:=HB0.out.trans (hb2.mono HB0.out.size)
 have HB2:=Lib.hid hB2
 have HR2:=Lib.hid (HR0.out.below' hb2 HR0.out.lt)
 clear hb2 hB2 HSM HS0
 cases hsm:smallS s
 ·go_wp2_with fail
  refine (aw_awake _ (HLB.out _ HB2.out).1).mono ?_
  rintro e w3 ⟨rfl,hb3⟩
  have HB3:=Lib.hid (HB2.out.trans (hb3.mono HB2.out.size))
  clear hb3
  go_wp2_with fail
  go_ret
  exact ⟨rfl,HB3.out⟩
 ·obtain ⟨hsok,hs30⟩:=smallS_ok hsm HWD.out
  have HOKR:=Lib.hid (And.intro hsok (show ∀ x ∈ s.cond,x.args.length ≤ 1000000 from fun x hx => Nat.le_trans (hs30 x hx) (by decide)))
  clear hsok hs30 hsm
  go_wp2_with fail
  refine (k_Roll _ _ (HAR.out.below2 HB2.out)).mono ?_
  rintro e w3 ⟨rfl,hd3,hb3⟩
  have hB3:=HB2.out.trans (hb3.mono HB2.out.size)
  have hr3:=HR2.out.below' hb3 HR2.out.lt
  have hdl:=HR2.out.lt
  obtain ⟨db,hdb⟩:∃ db,w2.heap.size=db:=⟨_,rfl⟩
  rw [hdb] at hd3 hb3 hdl ⊢
  have K3:=Lib.hid (And.intro hB3 (And.intro hr3 hd3))
  clear hB3 hr3 hd3 hb3 hdb HB2 HR2 HB0 HR0
  go_wp2_with fail
  go_loopw [22] (fun v22 wr => ∃ k:Nat,k ≤ 2 ∧ v22=.int .i64 (k:Int) ∧ Below w.heap.size w wr ∧ Blk wr w.heap.size 29 #[.string s.resp,.int .i64 s.dep,.int .i64 s.day,.slice Aa na ca,.slice Ac nc cc,.slice As ns cs] ∧ Dc wr db) (fun v22 _ => 2 - (intOf v22).toNat)
  case atStart => exact ⟨0,by omega,rfl,K3.out.1,K3.out.2.1,K3.out.2.2⟩
  case round =>
   obtain ⟨k,hk,rfl,hB,hR,hD⟩:=hrel
   rename World => wr
   have hdr:=hD.lt
   have hRaw:LsS wr db w.heap.size (.slice Aa na ca) (.slice Ac nc cc) (.slice As ns cs) s:=⟨hR,by omega,(HSI.out.keep fun b hb => hB.block b hb).mono fun b hb => ⟨by omega,by have:=hB.size; omega⟩⟩
   have HRW:=Lib.hid hRaw
   have HBR:=Lib.hid hB
   have HDR:=Lib.hid hD
   clear hB hR hD hRaw K3
   by_cases hlt:k < 2
   ·have zi:(k:Int) < 2:=by omega
    go_wp2_with fail
    refine (k_Form db wr HDR.out).mono ?_
    rintro e w4 ⟨t,Af,nf,cf,Lf,rfl,hF,htz,hlf,hsf,hd4,hg4⟩
    have hz4:=hg4.size
    have hF4:FldsAt w4 (fun b => b ≠ db ∧ b < w4.heap.size) (.slice Af nf cf) Lf:=hF.mono fun b hb => ⟨by omega,hb.2⟩
    have hlt4:=hd4.lt
    have f4:=LwF.new (t:=t) hlt4 hF4
    have r4:=(HRW.out.step hg4).alloc (.cells #[.string t,.slice Af nf cf] 37)
    have d4:=hd4.alloc (.cells #[.string t,.slice Af nf cf] 37)
    have b4:=(HBR.out.grown hg4 (by omega) (fun g hg => by injection hg; omega)).alloc (by have:=HBR.out.size; omega) (.cells #[.string t,.slice Af nf cf] 37)
    have hst:=k_Statement db t Af nf cf Lf _ d4 f4.at_ (by omega) (fun k hk => Nat.le_trans (hsf k hk).1 (by omega))
    have HST:=Lib.hid hst
    have HFO:=Lib.hid (And.intro (show FormOk t Lf from ⟨by omega,by omega,fun k hk => (hsf k hk).ok⟩) (fld_all (P:=fun f => f.name.size ≤ maxLen ∧ f.opts.length ≤ 1000000) (fun k hk => ⟨by have:=(hsf k hk).1; unfold maxLen; omega,by have:=(hsf k hk).2.1; omega⟩)))
    clear hF hF4 htz hlf hsf hd4 hg4 hst
    have hzz:(w4.alloc (.cells #[.string t,.slice Af nf cf] 37)).heap.size=w4.heap.size+1:=World.size_alloc _ _
    go_upto_region 7 with fail
    generalize w4.alloc (.cells #[.string t,.slice Af nf cf] 37)=w5 at f4 r4 d4 b4 HST hzz ⊢
    obtain ⟨fb,hfb⟩:∃ fb,w4.heap.size=fb:=⟨_,rfl⟩
    rw [hfb] at f4
    try rw [hfb]
    have K5:=Lib.hid (And.intro f4 (And.intro r4 (And.intro d4 b4)))
    have g0:=(f4.blk.cell 0).trans (show _=some (Value.string t) from rfl)
    have g1:=(f4.blk.cell 1).trans (show _=some (Value.slice Af nf cf) from rfl)
    clear f4 r4 d4 b4 hfb HRW HBR HDR
    go_wp2_with fail
    refine HST.out.mono ?_
    rintro e w6 ⟨x1,A1,n1,c1,B1,m1,d1,C1,k1,e1,rfl,hS1,hm1,hd6,hg6⟩
    have hz6:=hg6.size
    have hlt6:=hd6.lt
    have hdw5:=K5.out.2.2.1.lt
    have x1n:=LsS.new hlt6 (hS1.mono fun b hb => ⟨by omega,hb.2⟩)
    have f6:=(K5.out.1.step hg6).alloc (.cells #[.string x1.resp,.int .i64 x1.dep,.int .i64 x1.day,.slice A1 n1 c1,.slice B1 m1 d1,.slice C1 k1 e1] 29)
    have r6:=(K5.out.2.1.step hg6).alloc (.cells #[.string x1.resp,.int .i64 x1.dep,.int .i64 x1.day,.slice A1 n1 c1,.slice B1 m1 d1,.slice C1 k1 e1] 29)
    have d6:=hd6.alloc (.cells #[.string x1.resp,.int .i64 x1.dep,.int .i64 x1.day,.slice A1 n1 c1,.slice B1 m1 d1,.slice C1 k1 e1] 29)
    have b6:=(K5.out.2.2.2.grown hg6 (by omega) (fun g hg => by injection hg; omega)).alloc (by have:=K5.out.2.2.2.size; omega) (.cells #[.string x1.resp,.int .i64 x1.dep,.int .i64 x1.day,.slice A1 n1 c1,.slice B1 m1 d1,.slice C1 k1 e1] 29)
    have hod:=k_OddStatement (fun b => b ≠ db ∧ b < w6.heap.size+1) 1000 db x1 A1 n1 c1 B1 m1 d1 C1 k1 e1 _ d6 (fun q hq => ⟨hq.1,by rw [World.size_alloc]; exact hq.2⟩) (x1n.at_.mono fun b hb => ⟨hb.1,by rw [World.size_alloc] at hb; exact hb.2⟩) hm1.b (by omega)
    have HOD:=Lib.hid hod
    have HM1:=Lib.hid hm1
    clear hS1 hm1 hd6 hg6 hod HST g0 g1 K5
    go_upto_region 8 with fail
    have hzz6:(w6.alloc (.cells #[.string x1.resp,.int .i64 x1.dep,.int .i64 x1.day,.slice A1 n1 c1,.slice B1 m1 d1,.slice C1 k1 e1] 29)).heap.size=w6.heap.size+1:=World.size_alloc _ _
    generalize w6.alloc (.cells #[.string x1.resp,.int .i64 x1.dep,.int .i64 x1.day,.slice A1 n1 c1,.slice B1 m1 d1,.slice C1 k1 e1] 29)=w7 at x1n f6 r6 d6 b6 HOD hzz6 ⊢
    obtain ⟨sb,hsb⟩:∃ sb,w6.heap.size=sb:=⟨_,rfl⟩
    rw [hsb] at x1n HOD hzz6
    try rw [hsb]
    have K7:=Lib.hid (And.intro f6 (And.intro r6 (And.intro d6 (And.intro b6 x1n))))
    have p0:=(x1n.blk.cell 0).trans (show _=some (Value.string x1.resp) from rfl)
    have p1:=(x1n.blk.cell 1).trans (show _=some (Value.int .i64 x1.dep) from rfl)
    have p2:=(x1n.blk.cell 2).trans (show _=some (Value.int .i64 x1.day) from rfl)
    have p3:=(x1n.blk.cell 3).trans (show _=some (Value.slice A1 n1 c1) from rfl)
    have p4:=(x1n.blk.cell 4).trans (show _=some (Value.slice B1 m1 d1) from rfl)
    have p5:=(x1n.blk.cell 5).trans (show _=some (Value.slice C1 k1 e1) from rfl)
    clear f6 r6 d6 b6 x1n hsb
    go_wp2_with fail
    refine HOD.out.mono ?_
    rintro e w8 ⟨x2,A2,n2,c2,B2,m2,d2,C2,k2,e2,rfl,hS2,hm2,hd8,hg8⟩
    have hz8:=hg8.size
    have hlt8:=hd8.lt
    have hdw7:=K7.out.2.2.1.lt
    have hS2':StmAt w8 (fun b => b ≠ db ∧ b < w8.heap.size) (.slice A2 n2 c2) (.slice B2 m2 d2) (.slice C2 k2 e2) x2:=hS2.mono fun b hb => ⟨by rcases hb.1 with h | h; exact h.1; omega,hb.2⟩
    have x2n:=LsS.new hlt8 hS2'
    have f8:=(K7.out.1.step hg8).alloc (.cells #[.string x2.resp,.int .i64 x2.dep,.int .i64 x2.day,.slice A2 n2 c2,.slice B2 m2 d2,.slice C2 k2 e2] 29)
    have r8:=(K7.out.2.1.step hg8).alloc (.cells #[.string x2.resp,.int .i64 x2.dep,.int .i64 x2.day,.slice A2 n2 c2,.slice B2 m2 d2,.slice C2 k2 e2] 29)
    have x18:=(K7.out.2.2.2.2.step hg8).alloc (.cells #[.string x2.resp,.int .i64 x2.dep,.int .i64 x2.day,.slice A2 n2 c2,.slice B2 m2 d2,.slice C2 k2 e2] 29)
    have d8:=hd8.alloc (.cells #[.string x2.resp,.int .i64 x2.dep,.int .i64 x2.day,.slice A2 n2 c2,.slice B2 m2 d2,.slice C2 k2 e2] 29)
    have b8:=(K7.out.2.2.2.1.grown hg8 (by omega) (fun g hg => by injection hg; omega)).alloc (by have:=K7.out.2.2.2.1.size; omega) (.cells #[.string x2.resp,.int .i64 x2.dep,.int .i64 x2.day,.slice A2 n2 c2,.slice B2 m2 d2,.slice C2 k2 e2] 29)
    have HM2:=Lib.hid hm2
    clear hS2 hS2' hm2 hd8 hg8 HOD p0 p1 p2 p3 p4 p5 K7
    go_upto_region 9 with fail
    have hzz8:(w8.alloc (.cells #[.string x2.resp,.int .i64 x2.dep,.int .i64 x2.day,.slice A2 n2 c2,.slice B2 m2 d2,.slice C2 k2 e2] 29)).heap.size=w8.heap.size+1:=World.size_alloc _ _
    generalize w8.alloc (.cells #[.string x2.resp,.int .i64 x2.dep,.int .i64 x2.day,.slice A2 n2 c2,.slice B2 m2 d2,.slice C2 k2 e2] 29)=w9 at x2n f8 r8 d8 b8 x18 hzz8 ⊢
    obtain ⟨ob,hob⟩:∃ ob,w8.heap.size=ob:=⟨_,rfl⟩
    rw [hob] at x2n hzz8
    try rw [hob]
    have HSH:=Lib.hid (show ∀ W,w9.grownBy W (some db) → W.cell? ⟨sb,0,none⟩=some (.string x1.resp) ∧ W.cell? ⟨sb,1,none⟩=some (.int .i64 x1.dep) ∧ W.cell? ⟨sb,2,none⟩=some (.int .i64 x1.day) ∧ W.cell? ⟨sb,3,none⟩=some (.slice A1 n1 c1) ∧ W.cell? ⟨sb,4,none⟩=some (.slice B1 m1 d1) ∧ W.cell? ⟨sb,5,none⟩=some (.slice C1 k1 e1) ∧ W.cell? ⟨ob,0,none⟩=some (.string x2.resp) ∧ W.cell? ⟨ob,1,none⟩=some (.int .i64 x2.dep) ∧ W.cell? ⟨ob,2,none⟩=some (.int .i64 x2.day) ∧ W.cell? ⟨ob,3,none⟩=some (.slice A2 n2 c2) ∧ W.cell? ⟨ob,4,none⟩=some (.slice B2 m2 d2) ∧ W.cell? ⟨ob,5,none⟩=some (.slice C2 k2 e2) ∧ W.cell? ⟨w.heap.size,0,none⟩=some (.string s.resp) ∧ W.cell? ⟨w.heap.size,1,none⟩=some (.int .i64 s.dep) ∧ W.cell? ⟨w.heap.size,2,none⟩=some (.int .i64 s.day) ∧ W.cell? ⟨w.heap.size,3,none⟩=some (.slice Aa na ca) ∧ W.cell? ⟨w.heap.size,4,none⟩=some (.slice Ac nc cc) ∧ W.cell? ⟨w.heap.size,5,none⟩=some (.slice As ns cs) from fun W hg => ⟨(((x18.step hg).blk.cell 0).trans rfl),(((x18.step hg).blk.cell 1).trans rfl),(((x18.step hg).blk.cell 2).trans rfl),(((x18.step hg).blk.cell 3).trans rfl),(((x18.step hg).blk.cell 4).trans rfl),(((x18.step hg).blk.cell 5).trans rfl),(((x2n.step hg).blk.cell 0).trans rfl),(((x2n.step hg).blk.cell 1).trans rfl),(((x2n.step hg).blk.cell 2).trans rfl),(((x2n.step hg).blk.cell 3).trans rfl),(((x2n.step hg).blk.cell 4).trans rfl),(((x2n.step hg).blk.cell 5).trans rfl),(((r8.step hg).blk.cell 0).trans rfl),(((r8.step hg).blk.cell 1).trans rfl),(((r8.step hg).blk.cell 2).trans rfl),(((r8.step hg).blk.cell 3).trans rfl),(((r8.step hg).blk.cell 4).trans rfl),(((r8.step hg).blk.cell 5).trans rfl)⟩)
    have g90:w9.grownBy w9.drew (some db):=only_drewN (World.grownBy.refl w9 _) 1
    have hod:=k_OddStatement (fun b => b ≠ db ∧ b < w9.drew.heap.size) 2000 db x2 A2 n2 c2 B2 m2 d2 C2 k2 e2 w9.drew d8.drew (fun q hq => hq) (x2n.step g90).at_ HM2.out (by omega)
    have HOD:=Lib.hid hod
    have K9:=Lib.hid (And.intro f8 (And.intro r8 (And.intro d8 (And.intro b8 (And.intro x18 x2n)))))
    have G90:=Lib.hid g90
    clear hod x2n f8 r8 d8 b8 x18 g90
    refine wp_region_held_drew (S:=fun W => W.cell? ⟨sb,0,none⟩=some (.string x1.resp) ∧ W.cell? ⟨sb,1,none⟩=some (.int .i64 x1.dep) ∧ W.cell? ⟨sb,2,none⟩=some (.int .i64 x1.day) ∧ W.cell? ⟨sb,3,none⟩=some (.slice A1 n1 c1) ∧ W.cell? ⟨sb,4,none⟩=some (.slice B1 m1 d1) ∧ W.cell? ⟨sb,5,none⟩=some (.slice C1 k1 e1) ∧ W.cell? ⟨ob,0,none⟩=some (.string x2.resp) ∧ W.cell? ⟨ob,1,none⟩=some (.int .i64 x2.dep) ∧ W.cell? ⟨ob,2,none⟩=some (.int .i64 x2.day) ∧ W.cell? ⟨ob,3,none⟩=some (.slice A2 n2 c2) ∧ W.cell? ⟨ob,4,none⟩=some (.slice B2 m2 d2) ∧ W.cell? ⟨ob,5,none⟩=some (.slice C2 k2 e2) ∧ W.cell? ⟨w.heap.size,0,none⟩=some (.string s.resp) ∧ W.cell? ⟨w.heap.size,1,none⟩=some (.int .i64 s.dep) ∧ W.cell? ⟨w.heap.size,2,none⟩=some (.int .i64 s.day) ∧ W.cell? ⟨w.heap.size,3,none⟩=some (.slice Aa na ca) ∧ W.cell? ⟨w.heap.size,4,none⟩=some (.slice Ac nc cc) ∧ W.cell? ⟨w.heap.size,5,none⟩=some (.slice As ns cs)) hmx (HSH.out _ G90.out) (fun hHeld => ?_)
    refine t1 0 rfl ?_
    try simp only [pt]
    refine t1 1 rfl ?_
    try simp only [pt]
    refine t1 2 rfl ?_
    try simp only [pt]
    refine t1 3 rfl ?_
    try simp only [pt]
    refine t1 5 rfl ?_
    try simp only [pt]
    refine t1 8 rfl ?_
    try simp only [pt]
    refine wpAnyH_ready (rs:=[4]) (by kernel_rfl) (by simp) ?_
    refine AllReadyH.cons rfl (fun Kc hKc => ?_) AllReadyH.nil
    go_simp
    refine HOD.out.mono ?_
    rintro e w10 ⟨x3,A3,n3,c3,B3,m3,d3,C3,k3,e3,rfl,hS3,hm3,hd10,hg10⟩
    have hg10':=gb_trans G90.out hg10
    have hz10:=hg10'.size
    have hlt10:=hd10.lt
    have hdw9:=K9.out.2.2.1.lt
    have hzd:w9.drew.heap.size=w9.heap.size:=rfl
    have hS3':StmAt w10 (fun b => b ≠ db ∧ b < w10.heap.size) (.slice A3 n3 c3) (.slice B3 m3 d3) (.slice C3 k3 e3) x3:=hS3.mono fun b hb => ⟨by rcases hb.1 with h | h; exact h.1; omega,hb.2⟩
    have HG10:=Lib.hid hg10'
    have HS3:=Lib.hid hS3'
    have HM3:=Lib.hid hm3
    have HD10:=Lib.hid hd10
    clear hS3 hS3' hm3 hd10 hg10 hg10' HOD
    refine hKc.out _ _ (HSH.out _ HG10.out) (fun hHeld => ?_)
    clear hKc Kc
    try simp only [pt]
    refine wpAnyH_ready (rs:=[6]) (by kernel_rfl) (by simp) ?_
    refine AllReadyH.cons rfl (fun Kc hKc => ?_) AllReadyH.nil
    go_simp
    refine hKc.out _ _ (HSH.out _ (gb_trans HG10.out (World.grownBy_alloc w10 (.cells #[.string x1.resp,.int .i64 x1.dep,.int .i64 x1.day,.slice A1 n1 c1,.slice B1 m1 d1,.slice C1 k1 e1,.string x2.resp,.int .i64 x2.dep,.int .i64 x2.day,.slice A2 n2 c2,.slice B2 m2 d2,.slice C2 k2 e2,.string x3.resp,.int .i64 x3.dep,.int .i64 x3.day,.slice A3 n3 c3,.slice B3 m3 d3,.slice C3 k3 e3,.string s.resp,.int .i64 s.dep,.int .i64 s.day,.slice Aa na ca,.slice Ac nc cc,.slice As ns cs] 29) (some db)))) (fun hHeld => ?_)
    clear hKc Kc
    try simp only [pt]
    refine t1 7 rfl ?_
    try simp only [pt]
    refine wpAnyH_done (by kernel_rfl) ?_ _
    have hgL:=gb_trans HG10.out (World.grownBy_alloc w10 (.cells #[.string x1.resp,.int .i64 x1.dep,.int .i64 x1.day,.slice A1 n1 c1,.slice B1 m1 d1,.slice C1 k1 e1,.string x2.resp,.int .i64 x2.dep,.int .i64 x2.day,.slice A2 n2 c2,.slice B2 m2 d2,.slice C2 k2 e2,.string x3.resp,.int .i64 x3.dep,.int .i64 x3.day,.slice A3 n3 c3,.slice B3 m3 d3,.slice C3 k3 e3,.string s.resp,.int .i64 s.dep,.int .i64 s.day,.slice Aa na ca,.slice Ac nc cc,.slice As ns cs] 29) (some db))
    have K10:=Lib.hid (And.intro (K9.out.1.step hgL) (And.intro (K9.out.2.1.step hgL) (And.intro (HD10.out.alloc (.cells #[.string x1.resp,.int .i64 x1.dep,.int .i64 x1.day,.slice A1 n1 c1,.slice B1 m1 d1,.slice C1 k1 e1,.string x2.resp,.int .i64 x2.dep,.int .i64 x2.day,.slice A2 n2 c2,.slice B2 m2 d2,.slice C2 k2 e2,.string x3.resp,.int .i64 x3.dep,.int .i64 x3.day,.slice A3 n3 c3,.slice B3 m3 d3,.slice C3 k3 e3,.string s.resp,.int .i64 s.dep,.int .i64 s.day,.slice Aa na ca,.slice Ac nc cc,.slice As ns cs] 29)) (And.intro (K9.out.2.2.2.1.grown hgL (by omega) (fun g hg => by injection hg; omega)) (And.intro (K9.out.2.2.2.2.1.step hgL) (And.intro (K9.out.2.2.2.2.2.step hgL) (And.intro (Blk.new w10 29 #[.string x1.resp,.int .i64 x1.dep,.int .i64 x1.day,.slice A1 n1 c1,.slice B1 m1 d1,.slice C1 k1 e1,.string x2.resp,.int .i64 x2.dep,.int .i64 x2.day,.slice A2 n2 c2,.slice B2 m2 d2,.slice C2 k2 e2,.string x3.resp,.int .i64 x3.dep,.int .i64 x3.day,.slice A3 n3 c3,.slice B3 m3 d3,.slice C3 k3 e3,.string s.resp,.int .i64 s.dep,.int .i64 s.day,.slice Aa na ca,.slice Ac nc cc,.slice As ns cs]) ((HS3.out.keep fun b hb => Below.heap_alloc w10 (.cells #[.string x1.resp,.int .i64 x1.dep,.int .i64 x1.day,.slice A1 n1 c1,.slice B1 m1 d1,.slice C1 k1 e1,.string x2.resp,.int .i64 x2.dep,.int .i64 x2.day,.slice A2 n2 c2,.slice B2 m2 d2,.slice C2 k2 e2,.string x3.resp,.int .i64 x3.dep,.int .i64 x3.day,.slice A3 n3 c3,.slice B3 m3 d3,.slice C3 k3 e3,.string s.resp,.int .i64 s.dep,.int .i64 s.day,.slice Aa na ca,.slice Ac nc cc,.slice As ns cs] 29) b hb.2).mono (T:=fun b => b < (w10.alloc (.cells #[.string x1.resp,.int .i64 x1.dep,.int .i64 x1.day,.slice A1 n1 c1,.slice B1 m1 d1,.slice C1 k1 e1,.string x2.resp,.int .i64 x2.dep,.int .i64 x2.day,.slice A2 n2 c2,.slice B2 m2 d2,.slice C2 k2 e2,.string x3.resp,.int .i64 x3.dep,.int .i64 x3.day,.slice A3 n3 c3,.slice B3 m3 d3,.slice C3 k3 e3,.string s.resp,.int .i64 s.dep,.int .i64 s.day,.slice Aa na ca,.slice Ac nc cc,.slice As ns cs] 29)).heap.size) fun b hb => by rw [World.size_alloc]; omega))))))))
    generalize hwL:w10.alloc (.cells #[.string x1.resp,.int .i64 x1.dep,.int .i64 x1.day,.slice A1 n1 c1,.slice B1 m1 d1,.slice C1 k1 e1,.string x2.resp,.int .i64 x2.dep,.int .i64 x2.day,.slice A2 n2 c2,.slice B2 m2 d2,.slice C2 k2 e2,.string x3.resp,.int .i64 x3.dep,.int .i64 x3.day,.slice A3 n3 c3,.slice B3 m3 d3,.slice C3 k3 e3,.string s.resp,.int .i64 s.dep,.int .i64 s.day,.slice Aa na ca,.slice Ac nc cc,.slice As ns cs] 29)=wL at K10 ⊢
    have hzL:w10.heap.size < wL.heap.size:=by rw [← hwL,World.size_alloc]; omega
    obtain ⟨qb,hqb⟩:∃ qb,w10.heap.size=qb:=⟨_,rfl⟩
    rw [hqb] at K10
    try rw [hqb]
    clear hgL hwL HG10 HS3 HD10 HSH K9 G90 hHeld
    go_wp2_with fail
    have hB8':Below w.heap.size w wL:=K10.out.2.2.2.1
    have hXS:∀ i:Nat,i < 4 → ∃ (x:Stm) (Ax:Option Addr) (nx cx:Nat) (Bx:Option Addr) (mx dx:Nat) (Cx:Option Addr) (kx ex:Nat),wL.cell? ⟨qb,i*6,none⟩=some (.string x.resp) ∧ wL.cell? ⟨qb,i*6+1,none⟩=some (.int .i64 x.dep) ∧ wL.cell? ⟨qb,i*6+2,none⟩=some (.int .i64 x.day) ∧ wL.cell? ⟨qb,i*6+3,none⟩=some (.slice Ax nx cx) ∧ wL.cell? ⟨qb,i*6+4,none⟩=some (.slice Bx mx dx) ∧ wL.cell? ⟨qb,i*6+5,none⟩=some (.slice Cx kx ex) ∧ StmAt wL (· < wL.heap.size) (.slice Ax nx cx) (.slice Bx mx dx) (.slice Cx kx ex) x ∧ StmOk x ∧ ∀ y ∈ x.cond,y.args.length ≤ 1000000:=fun i hi => by
     obtain ⟨-,hR,-,-,hX1,hX2,hq,h3⟩:=K10.out
     have h4:i=0 ∨ i=1 ∨ i=2 ∨ i=3:=by omega
     rcases h4 with rfl | rfl | rfl | rfl
     ·exact ⟨x1,A1,n1,c1,B1,m1,d1,C1,k1,e1,(hq.cell 0).trans rfl,(hq.cell 1).trans rfl,(hq.cell 2).trans rfl,(hq.cell 3).trans rfl,(hq.cell 4).trans rfl,(hq.cell 5).trans rfl,hX1.at_.mono fun b hb => hb.2,HM1.out.ok,HM1.out.both.2⟩
     ·exact ⟨x2,A2,n2,c2,B2,m2,d2,C2,k2,e2,(hq.cell 6).trans rfl,(hq.cell 7).trans rfl,(hq.cell 8).trans rfl,(hq.cell 9).trans rfl,(hq.cell 10).trans rfl,(hq.cell 11).trans rfl,hX2.at_.mono fun b hb => hb.2,HM2.out.ok (by omega),fun y hy => by have:=(HM2.out.cond y hy).2.2; omega⟩
     ·exact ⟨x3,A3,n3,c3,B3,m3,d3,C3,k3,e3,(hq.cell 12).trans rfl,(hq.cell 13).trans rfl,(hq.cell 14).trans rfl,(hq.cell 15).trans rfl,(hq.cell 16).trans rfl,(hq.cell 17).trans rfl,h3,HM3.out.ok (by omega),fun y hy => by have:=(HM3.out.cond y hy).2.2; omega⟩
     ·exact ⟨s,Aa,na,ca,Ac,nc,cc,As,ns,cs,(hq.cell 18).trans rfl,(hq.cell 19).trans rfl,(hq.cell 20).trans rfl,(hq.cell 21).trans rfl,(hq.cell 22).trans rfl,(hq.cell 23).trans rfl,hR.at_.mono fun b hb => hb.2,HOKR.out.1,HOKR.out.2⟩
    have HXS:=Lib.hid hXS
    have HS1:=Lib.hid (And.intro (K10.out.2.2.2.2.1.at_.mono (T:=(· < wL.heap.size)) fun b hb => hb.2) (And.intro HM1.out.ok HM1.out.both.2))
    have HFL:=Lib.hid (K10.out.1.at_.mono (T:=(· < wL.heap.size)) fun b hb => hb.2)
    have HBL:=Lib.hid K10.out.2.2.2.1
    have HQB:=Lib.hid (show qb < wL.heap.size from K10.out.2.2.2.2.2.2.1.lt)
    have HFB:=Lib.hid K10.out.1.blk
    have HSB:=Lib.hid K10.out.2.2.2.2.1.blk
    have HRF:=Lib.hid (And.intro K10.out.2.1 K10.out.2.2.1)
    clear hXS K10 HM1 HM2 HM3 hB8'
    go_loopw [40] (fun v40 wi => ∃ i:Nat,i ≤ 4 ∧ v40=.int .i64 (i:Int) ∧ Below wL.heap.size wL wi) (fun v40 _ => 4 - (intOf v40).toNat)
    case atStart => exact ⟨0,by omega,rfl,Below.refl _ _⟩
    case round =>
     obtain ⟨i,hi,rfl,hbi⟩:=hrel
     rename World => wi
     have HBI:=Lib.hid hbi
     clear hbi
     by_cases hlt2:i < 4
     ·obtain ⟨x,Ax,nx,cx,Bx,mx,dx,Cx,kx,ex,q0,q1,q2,q3,q4,q5,hxa,hxo,hxr⟩:=HXS.out i hlt2
      have e0:=(HBI.out.cell (p:=⟨qb,i*6,none⟩) HQB.out).trans q0
      have e1':=(HBI.out.cell (p:=⟨qb,i*6+1,none⟩) HQB.out).trans q1
      have e2':=(HBI.out.cell (p:=⟨qb,i*6+2,none⟩) HQB.out).trans q2
      have e3':=(HBI.out.cell (p:=⟨qb,i*6+3,none⟩) HQB.out).trans q3
      have e4':=(HBI.out.cell (p:=⟨qb,i*6+4,none⟩) HQB.out).trans q4
      have e5':=(HBI.out.cell (p:=⟨qb,i*6+5,none⟩) HQB.out).trans q5
      have zi2:(i:Int) < 4:=by omega
      have z0:(0:Int) ≤ (i:Int):=by omega
      have hbz:=HBI.out.alloc HBI.out.size (.cells #[.string x.resp,.int .i64 x.dep,.int .i64 x.day,.slice Ax nx cx,.slice Bx mx dx,.slice Cx kx ex] 29)
      have hxz:=Blk.new wi 29 #[.string x.resp,.int .i64 x.dep,.int .i64 x.day,.slice Ax nx cx,.slice Bx mx dx,.slice Cx kx ex]
      clear q0 q1 q2 q3 q4 q5
      go_upto_region 12 with fail
      generalize wi.alloc (.cells #[.string x.resp,.int .i64 x.dep,.int .i64 x.day,.slice Ax nx cx,.slice Bx mx dx,.slice Cx kx ex] 29)=wz at hbz hxz ⊢
      obtain ⟨xb,hxb⟩:∃ xb,wi.heap.size=xb:=⟨_,rfl⟩
      rw [hxb] at hxz
      try rw [hxb]
      have up:∀ W,Below wz.heap.size wz W → StmAt W (· < W.heap.size) (.slice Ax nx cx) (.slice Bx mx dx) (.slice Cx kx ex) x ∧ StmAt W (· < W.heap.size) (.slice A1 n1 c1) (.slice B1 m1 d1) (.slice C1 k1 e1) x1 ∧ FldsAt W (· < W.heap.size) (.slice Af nf cf) Lf ∧ ParOk W ∧ SpcOk W:=fun W hW => by
       have h1:=hbz.trans (hW.mono hbz.size)
       have h2:=HBL.out.trans (h1.mono HBL.out.size)
       exact ⟨(hxa.keep fun b hB => h1.block b hB).mono fun b hB => Nat.lt_of_lt_of_le hB h1.size,(HS1.out.1.keep fun b hB => h1.block b hB).mono fun b hB => Nat.lt_of_lt_of_le hB h1.size,(HFL.out.keep fun b hB => h1.block b hB).mono fun b hB => Nat.lt_of_lt_of_le hB h1.size,(HLB.out _ h2).1,(HLB.out _ h2).2⟩
      have held:∀ W,Below wz.heap.size wz W → W.cell? ⟨fb,0,none⟩=some (.string t) ∧ W.cell? ⟨fb,1,none⟩=some (.slice Af nf cf) ∧ W.cell? ⟨xb,0,none⟩=some (.string x.resp) ∧ W.cell? ⟨xb,1,none⟩=some (.int .i64 x.dep) ∧ W.cell? ⟨xb,2,none⟩=some (.int .i64 x.day) ∧ W.cell? ⟨xb,3,none⟩=some (.slice Ax nx cx) ∧ W.cell? ⟨xb,4,none⟩=some (.slice Bx mx dx) ∧ W.cell? ⟨xb,5,none⟩=some (.slice Cx kx ex) ∧ W.cell? ⟨sb,0,none⟩=some (.string x1.resp) ∧ W.cell? ⟨sb,1,none⟩=some (.int .i64 x1.dep) ∧ W.cell? ⟨sb,2,none⟩=some (.int .i64 x1.day) ∧ W.cell? ⟨sb,3,none⟩=some (.slice A1 n1 c1) ∧ W.cell? ⟨sb,4,none⟩=some (.slice B1 m1 d1) ∧ W.cell? ⟨sb,5,none⟩=some (.slice C1 k1 e1):=fun W hW => by
       have h1:=hbz.trans (hW.mono hbz.size)
       have hf:=HFB.out.below' h1 HFB.out.lt
       have hs:=HSB.out.below' h1 HSB.out.lt
       have hx:=hxz.below' hW hxz.lt
       exact ⟨(hf.cell 0).trans rfl,(hf.cell 1).trans rfl,(hx.cell 0).trans rfl,(hx.cell 1).trans rfl,(hx.cell 2).trans rfl,(hx.cell 3).trans rfl,(hx.cell 4).trans rfl,(hx.cell 5).trans rfl,(hs.cell 0).trans rfl,(hs.cell 1).trans rfl,(hs.cell 2).trans rfl,(hs.cell 3).trans rfl,(hs.cell 4).trans rfl,(hs.cell 5).trans rfl⟩
      have HUP:=Lib.hid up
      have HHD:=Lib.hid held
      have HBZ:=Lib.hid hbz
      have HXO:=Lib.hid (And.intro hxo hxr)
      have B_0:Hid (Below wz.heap.size wz wz.drew):=Lib.hid (Below.refl _ _).drew
      obtain ⟨ck,hck⟩:∃ ck,chkS t Lf x=ck:=⟨_,rfl⟩
      obtain ⟨sd,hsd⟩:∃ sd,eqD x x1=sd:=⟨_,rfl⟩
      have HCK:=Lib.hid hck
      have HSD:=Lib.hid hsd
      clear up held hbz hxz hxb hxa hxo hxr hck hsd e0 e1' e2' e3' e4' e5'
      refine wp_region_held_drew (S:=fun W => W.cell? ⟨fb,0,none⟩=some (.string t) ∧ W.cell? ⟨fb,1,none⟩=some (.slice Af nf cf) ∧ W.cell? ⟨xb,0,none⟩=some (.string x.resp) ∧ W.cell? ⟨xb,1,none⟩=some (.int .i64 x.dep) ∧ W.cell? ⟨xb,2,none⟩=some (.int .i64 x.day) ∧ W.cell? ⟨xb,3,none⟩=some (.slice Ax nx cx) ∧ W.cell? ⟨xb,4,none⟩=some (.slice Bx mx dx) ∧ W.cell? ⟨xb,5,none⟩=some (.slice Cx kx ex) ∧ W.cell? ⟨sb,0,none⟩=some (.string x1.resp) ∧ W.cell? ⟨sb,1,none⟩=some (.int .i64 x1.dep) ∧ W.cell? ⟨sb,2,none⟩=some (.int .i64 x1.day) ∧ W.cell? ⟨sb,3,none⟩=some (.slice A1 n1 c1) ∧ W.cell? ⟨sb,4,none⟩=some (.slice B1 m1 d1) ∧ W.cell? ⟨sb,5,none⟩=some (.slice C1 k1 e1)) hmx (HHD.out _ B_0.out) (fun hHeld => ?_)
      refine t1 0 rfl ?_
      try simp only [pt]
      refine t1 1 rfl ?_
      try simp only [pt]
      refine t1 3 rfl ?_
      try simp only [pt]
      refine t1 4 rfl ?_
      try simp only [pt]
      refine wpAnyH_ready (rs:=[2]) (by kernel_rfl) (by simp) ?_
      refine AllReadyH.cons rfl (fun Kc hKc => ?_) AllReadyH.nil
      go_simp
      refine (s_Check t (.slice Af nf cf) (.slice Ax nx cx) (.slice Bx mx dx) (.slice Cx kx ex) Lf x _ (HUP.out _ B_0.out).2.2.1 HFO.out.1 HFO.out.2 (HUP.out _ B_0.out).1 HXO.out.1).mono ?_
      rintro e v1 ⟨rfl,hbn⟩
      rw [HCK.out]
      have B_1:=Lib.hid (B_0.out.trans (hbn.mono B_0.out.size))
      clear hbn
      refine hKc.out _ _ (HHD.out _ B_1.out) (fun hHeld => ?_)
      clear hKc Kc
      try simp only [pt]
      refine wpAnyH_ready (rs:=[5]) (by kernel_rfl) (by simp) ?_
      refine AllReadyH.cons rfl (fun Kc hKc => ?_) AllReadyH.nil
      go_simp
      refine (r_Check t (.slice Af nf cf) (.slice Ax nx cx) (.slice Bx mx dx) (.slice Cx kx ex) Lf x _ (HUP.out _ B_1.out).2.2.1 HFO.out.1 HFO.out.2 (HUP.out _ B_1.out).1 HXO.out.1 (HUP.out _ B_1.out).2.2.2.1.lib (HUP.out _ B_1.out).2.2.2.2).mono ?_
      rintro e v2 ⟨rfl,hbn⟩
      rw [HCK.out]
      have B_2:=Lib.hid (B_1.out.trans (hbn.mono B_1.out.size))
      clear hbn
      refine hKc.out _ _ (HHD.out _ B_2.out) (fun hHeld => ?_)
      clear hKc Kc
      try simp only [pt]
      refine t1 6 rfl ?_
      try simp only [pt]
      refine t1 7 rfl ?_
      try simp only [pt]
      refine t1 8 rfl ?_
      try simp only [pt]
      refine t1 9 rfl ?_
      try simp only [pt]
      refine t1 11 rfl ?_
      try simp only [pt]
      refine t1 12 rfl ?_
      try simp only [pt]
      refine wpAnyH_ready (rs:=[10]) (by kernel_rfl) (by simp) ?_
      refine AllReadyH.cons rfl (fun Kc hKc => ?_) AllReadyH.nil
      go_simp
      refine (Calls.mono (s_Same x x1 (.slice Ax nx cx) (.slice Bx mx dx) (.slice Cx kx ex) (.slice A1 n1 c1) (.slice B1 m1 d1) (.slice C1 k1 e1) _ (HUP.out _ B_2.out).1 (HUP.out _ B_2.out).2.1 HXO.out.1 HS1.out.2.1 HXO.out.2 HS1.out.2.2) (fun _ _ h => h.d)).mono ?_
      rintro e v3 ⟨rfl,hbn⟩
      rw [HSD.out]
      have B_3:=Lib.hid (B_2.out.trans (hbn.mono B_2.out.size))
      clear hbn
      refine hKc.out _ _ (HHD.out _ B_3.out) (fun hHeld => ?_)
      clear hKc Kc
      try simp only [pt]
      refine wpAnyH_ready (rs:=[13]) (by kernel_rfl) (by simp) ?_
      refine AllReadyH.cons rfl (fun Kc hKc => ?_) AllReadyH.nil
      go_simp
      refine (Calls.mono (r_SameS x x1 Ax Bx Cx A1 B1 C1 nx cx mx dx kx ex n1 c1 m1 d1 k1 e1 _ (HUP.out _ B_3.out).1 (HUP.out _ B_3.out).2.1 HXO.out.1 HS1.out.2.1) (fun _ _ h => h.d)).mono ?_
      rintro e v4 ⟨rfl,hbn⟩
      rw [HSD.out]
      have B_4:=Lib.hid (B_3.out.trans (hbn.mono B_3.out.size))
      clear hbn
      refine hKc.out _ _ (HHD.out _ B_4.out) (fun hHeld => ?_)
      clear hKc Kc
      try simp only [pt]
      refine t1 14 rfl ?_
      try simp only [pt]
      refine t1 15 rfl ?_
      try simp only [pt]
      refine t1 16 rfl ?_
      try simp only [pt]
      refine t1 17 rfl ?_
      try simp only [pt]
      refine t1 18 rfl ?_
      try simp only [pt]
      refine wpAnyH_ready (rs:=[19]) (by kernel_rfl) (by simp) ?_
      refine AllReadyH.cons rfl (fun Kc hKc => ?_) AllReadyH.nil
      go_simp
      refine (Calls.mono (s_Same x x (.slice Ax nx cx) (.slice Bx mx dx) (.slice Cx kx ex) (.slice Ax nx cx) (.slice Bx mx dx) (.slice Cx kx ex) _ (HUP.out _ B_4.out).1 (HUP.out _ B_4.out).1 HXO.out.1 HXO.out.1 HXO.out.2 HXO.out.2) (fun _ _ h => h.d)).mono ?_
      rintro e v5 ⟨rfl,hbn⟩
      rw [eqD_self]
      have B_5:=Lib.hid (B_4.out.trans (hbn.mono B_4.out.size))
      clear hbn
      refine hKc.out _ _ (HHD.out _ B_5.out) (fun hHeld => ?_)
      clear hKc Kc
      try simp only [pt]
      refine t1 20 rfl ?_
      try simp only [pt]
      refine t1 21 rfl ?_
      try simp only [pt]
      refine wpAnyH_done (by kernel_rfl) ?_ _
      go_wp2_with fail
      go_roundw
      case measure => simp [intOf]; omega
      case rel => exact ⟨i+1,by omega,by go_num,HBZ.out.trans (B_5.out.mono HBZ.out.size)⟩
     ·have zi2:¬ (i:Int) < 4:=by omega
      have hBi:=HBL.out.trans (HBI.out.mono HBL.out.size)
      have hRi:=HRF.out.1.blk.below' HBI.out HRF.out.1.blk.lt
      have hDi:Dc wi db:=HRF.out.2.keep fun q hq => HBI.out.block q (by have:=HRF.out.2.lt; omega)
      have HEND:=Lib.hid (And.intro hBi (And.intro hRi hDi))
      clear hBi hRi hDi
      go_wp2_with fail
      go_roundw
      case measure => simp [intOf]; omega
      case rel => first | exact ⟨k+1,by omega,by go_num,HEND.out.1,HEND.out.2.1,HEND.out.2.2⟩ | ((repeat apply Exists.intro); exact ⟨⟨k+1,by omega,by go_num,HEND.out.1,HEND.out.2.1,HEND.out.2.2⟩,rfl⟩)
   ·have zi:¬ (k:Int) < 2:=by omega
    go_wp2_with fail
    refine (aw_awake _ (HLB.out _ HBR.out).1).mono ?_
    rintro e w3 ⟨rfl,hb3⟩
    have HB3:=Lib.hid (HBR.out.trans (hb3.mono HBR.out.size))
    clear hb3
    go_wp2_with fail
    go_ret
    exact ⟨rfl,HB3.out⟩
end Go.Proofs.YtfinaekeoeeogaaGreatDoor

/- Contracts: statements are compared, by the reference. -/
import Derived.Test.YtgdngfdeeadlnaaGreatDoorY09
import Derived.Test.YtgdngfdeeadlnaaGreatDoorY10
import Derived.Test.YtgdngfdeeadlnaaGreatDoorY12
import Derived.BigQuiet
set_option linter.unusedVariables false
set_option linter.unusedSimpArgs false
namespace Go.Proofs.YtgdngfdeeadlnaaGreatDoor
open Go.RowKit Num
theorem anss_eq {La Lb : List Ans} (hl : La.length = Lb.length) (h : ∀ q,q < La.length → ansAt La q = ansAt Lb q) : La = Lb := by
 apply List.ext_getElem hl
 intro i h1 h2
 have:=h i h1
 unfold ansAt at this
 rwa [List.getD_eq_getElem?_getD,List.getD_eq_getElem?_getD,List.getElem?_eq_getElem h1,List.getElem?_eq_getElem h2] at this
theorem shws_eq {La Lb : List Shw} (hl : La.length = Lb.length) (h : ∀ q,q < La.length → shwAt La q = shwAt Lb q) : La = Lb := by
 apply List.ext_getElem hl
 intro i h1 h2
 have:=h i h1
 unfold shwAt at this
 rwa [List.getD_eq_getElem?_getD,List.getD_eq_getElem?_getD,List.getElem?_eq_getElem h1,List.getElem?_eq_getElem h2] at this
theorem below_drewN {B : Nat} {w w' : World} (h : Below B w w') (n : Nat) : Below B w (w'.drewN n) := ⟨h.os,h.tape,h.output,h.size,h.block⟩
def SameB (p : Prop) (w : World) (e : Ending) (w' : World) : Prop := ∃ b : Bool,e = .returned (.bool b) ∧ (b = true ↔ p) ∧ Below w.heap.size w w'
theorem bytes_of {a b : ByteArray} (h : (a.toList == b.toList) = true) : b = a := by
 have:=eq_of_beq h
 rw [ByteArray.toList_eq,ByteArray.toList_eq] at this
 exact (blOf_inj this).symm
set_option maxRecDepth 100000 in
set_option maxHeartbeats 4000000 in
theorem r_SameAns (va vb : Value) (La Lb : List Ans) (w : World) (ha : AnssAt w (· < w.heap.size) va La) (hb : AnssAt w (· < w.heap.size) vb Lb) (hla : La.length ≤ 1000000) (hlb : Lb.length ≤ 1000000) :
    Calls Tryz.prog 17 #[va,vb] w (SameB (La=Lb) w):=by
  obtain ⟨A,n,c,rfl,hn,hnc,hA⟩:=ha
  obtain ⟨B,m,k,rfl,hm,hmk,hB⟩:=hb
  have n1:n ≤ 1000000:=by omega
  have m1:m ≤ 1000000:=by omega
  have HA:=Lib.hid hA
  have HB:=Lib.hid hB
  have HN:=Lib.hid hn
  have HM:=Lib.hid hm
  clear hA hB hn hm hla hlb
  by_cases hnm:n=m
  · subst hnm
    go_enter Tryz.func17,Tryz.ntmps17
    go_wp2_with fail
    go_loopw [14] (fun v14 wr => ∃ i:Nat,i ≤ n ∧ v14=.int .i64 (i:Int) ∧ (∀ q,q < i → ansAt La q=ansAt Lb q) ∧ Below w.heap.size w wr) (fun v14 _ => n - (intOf v14).toNat)
    case atStart => exact ⟨0,by omega,rfl,fun q hq => absurd hq (Nat.not_lt_zero _),Below.refl _ _⟩
    case round =>
      obtain ⟨i,hi,rfl,heq,hbr⟩:=hrel
      have HE:=Lib.hid heq
      have HBR:=Lib.hid hbr
      have hsz:=hbr.size
      clear heq hbr
      by_cases hlt:i < n
      · obtain ⟨b1,o1,rfl,hS1,hc1⟩:=HA.out (by omega)
        obtain ⟨b2,o2,rfl,hS2,hc2⟩:=HB.out (by omega)
        obtain ⟨x0,x1,x2⟩:=hc1 i hlt
        obtain ⟨y0,y1,y2⟩:=hc2 i hlt
        obtain ⟨ga,hga⟩:∃ g,ansAt La i=g:=⟨_,rfl⟩
        obtain ⟨gb,hgb⟩:∃ g,ansAt Lb i=g:=⟨_,rfl⟩
        rw [hga] at x0 x1 x2
        rw [hgb] at y0 y1 y2
        obtain ⟨f1,t1,m1'⟩:=ga
        obtain ⟨f2,t2,m2'⟩:=gb
        have e0:wr.cell? ⟨b1,o1+i*3,none⟩=_:=(HBR.out.cell (p:=⟨b1,o1+i*3,none⟩) hS1).trans x0
        have e1:wr.cell? ⟨b1,o1+i*3+1,none⟩=_:=(HBR.out.cell (p:=⟨b1,o1+i*3+1,none⟩) hS1).trans x1
        have e2:wr.cell? ⟨b1,o1+i*3+2,none⟩=_:=(HBR.out.cell (p:=⟨b1,o1+i*3+2,none⟩) hS1).trans x2
        have r0:wr.cell? ⟨b2,o2+i*3,none⟩=_:=(HBR.out.cell (p:=⟨b2,o2+i*3,none⟩) hS2).trans y0
        have r1:wr.cell? ⟨b2,o2+i*3+1,none⟩=_:=(HBR.out.cell (p:=⟨b2,o2+i*3+1,none⟩) hS2).trans y1
        have r2:wr.cell? ⟨b2,o2+i*3+2,none⟩=_:=(HBR.out.cell (p:=⟨b2,o2+i*3+2,none⟩) hS2).trans y2
        have HGA:=Lib.hid hga
        have HGB:=Lib.hid hgb
        have zi:(i:Int) < (n:Int):=by omega
        have z0:(0:Int) ≤ (i:Int):=by omega
        have HBX:=Lib.hid (HBR.out.alloc hsz (.cells #[.string f1,.string t1,.int .i64 m1'] 50))
        have hbw2:b2 < wr.heap.size:=by omega
        have a0:(wr.alloc (.cells #[.string f1,.string t1,.int .i64 m1'] 50)).cell? ⟨b2,o2+i*3,none⟩=_:=(World.cell?_alloc_lt wr _ ⟨b2,o2+i*3,none⟩ hbw2).trans r0
        have a1:(wr.alloc (.cells #[.string f1,.string t1,.int .i64 m1'] 50)).cell? ⟨b2,o2+i*3+1,none⟩=_:=(World.cell?_alloc_lt wr _ ⟨b2,o2+i*3+1,none⟩ hbw2).trans r1
        have a2:(wr.alloc (.cells #[.string f1,.string t1,.int .i64 m1'] 50)).cell? ⟨b2,o2+i*3+2,none⟩=_:=(World.cell?_alloc_lt wr _ ⟨b2,o2+i*3+2,none⟩ hbw2).trans r2
        have hal:=Blk.new wr 50 #[.string f1,.string t1,.int .i64 m1']
        have hfin:(f2.toList == f1.toList)=true → (t2.toList == t1.toList)=true → (m2' == m1')=true → ∀ q,q < i+1 → ansAt La q=ansAt Lb q:=fun h1 h2 h3 q hq => by
          by_cases e:q=i
          · subst e
            rw [HGA.out,HGB.out,bytes_of h1,bytes_of h2,eq_of_beq h3]
          · exact HE.out q (by omega)
        have hno:((f2.toList == f1.toList) && (t2.toList == t1.toList) && (m2' == m1'))=false → La ≠ Lb:=fun h e => by
          subst e
          have h2:=HGA.out.symm.trans HGB.out
          injection h2 with h3 h4 h5
          subst h3 h4 h5
          simp at h
        have HFIN:=Lib.hid hfin
        have HNO:=Lib.hid hno
        clear x0 x1 x2 y0 y1 y2 hga hgb hc1 hc2 hfin hno r0 r1 r2
        go_upto_region 6 with fail
        obtain ⟨w6,hw6⟩:∃ w6,wr.alloc (.cells #[.string f1,.string t1,.int .i64 m1'] 50)=w6:=⟨_,rfl⟩
        rw [hw6] at HBX a0 a1 a2 hal ⊢
        clear hw6 e0 e1 e2
        have g0:=(hal.cell 0).trans (show _=some (Value.string f1) from rfl)
        have g1:=(hal.cell 1).trans (show _=some (Value.string t1) from rfl)
        have g2:=(hal.cell 2).trans (show _=some (Value.int .i64 m1') from rfl)
        clear hal
        have fin0:∀ nq,((f2.toList == f1.toList) && (t2.toList == t1.toList) && (m2' == m1'))=false → SameB (La=Lb) w (.returned (.bool false)) (w6.drewN nq):=fun nq h => ⟨false,rfl,⟨fun h => (by cases h),fun h2 => absurd h2 (HNO.out h)⟩,below_drewN HBX.out nq⟩
        have FIN0:=Lib.hid fin0
        clear fin0
        cases k0:(f2.toList == f1.toList) <;> cases k1:(t2.toList == t1.toList) <;> cases k2:(m2' == m1')
        all_goals first
          | (have hff:=FIN0.out
             rw [k0,k1,k2] at hff
             have HFF:=Lib.hid (fun nq => hff nq rfl)
             clear hff FIN0 HFIN HNO
             go_quiet (fail)
             go_wp2_with fail
             go_ret
             exact HFF.out _)
          | (have hff:=HFIN.out
             rw [k0,k1,k2] at hff
             have HFF:=Lib.hid (hff rfl rfl rfl)
             clear hff FIN0 HFIN HNO
             go_quiet (fail)
             go_wp2_with fail
             go_roundw
             case measure => simp [intOf]; omega
             case rel => exact ⟨i+1,by omega,by go_num,HFF.out,below_drewN HBX.out _⟩)
      · have zi:¬ (i:Int) < (n:Int):=by omega
        have he:La=Lb:=anss_eq (by have:=HN.out; have:=HM.out; omega) (fun q hq => HE.out q (by have:=HN.out; omega))
        have HEQ:=Lib.hid he
        clear he
        go_wp2_with fail
        go_ret
        exact ⟨true,rfl,⟨fun _ => HEQ.out,fun _ => rfl⟩,HBR.out⟩
  · have hne:((n:Int) == (m:Int))=false:=by simp; omega
    have he:La ≠ Lb:=fun e => hnm (by rw [HN.out,HM.out,e])
    have HEQ:=Lib.hid he
    clear he
    go_enter Tryz.func17,Tryz.ntmps17
    go_wp2_with fail
    go_ret
    exact ⟨false,rfl,⟨fun h => (by cases h),fun h => absurd h HEQ.out⟩,Below.refl _ _⟩
theorem stm_eq {s t : Stm} (h1 : s.resp = t.resp) (h2 : s.dep = t.dep) (h3 : s.day = t.day) (h4 : s.ans = t.ans) (h5 : s.cond = t.cond) (h6 : s.shw = t.shw) : s = t := by
 cases s; cases t; simp_all
set_option maxRecDepth 100000 in
set_option maxHeartbeats 8000000 in
theorem r_SameS (s t : Stm) (Aa Ac As Ba Bc Bs : Option Addr) (na ca nc cc ns cs ma da mc dc ms ds : Nat) (w : World) (ha : StmAt w (· < w.heap.size) (.slice Aa na ca) (.slice Ac nc cc) (.slice As ns cs) s) (hb : StmAt w (· < w.heap.size) (.slice Ba ma da) (.slice Bc mc dc) (.slice Bs ms ds) t) (hos : StmOk s) (hot : StmOk t) :
    Calls Tryz.prog 12 #[.agg #[.string s.resp,.int .i64 s.dep,.int .i64 s.day,.slice Aa na ca,.slice Ac nc cc,.slice As ns cs],.agg #[.string t.resp,.int .i64 t.dep,.int .i64 t.day,.slice Ba ma da,.slice Bc mc dc,.slice Bs ms ds]] w (SameB (s=t) w):=by
  obtain ⟨A1,n1,c1,e1,hns,hcs,hSh⟩:=id ha.ss
  injection e1 with q1 q2 q3
  subst q1 q2 q3
  obtain ⟨A1,n1,c1,e1,hms,hds,hTh⟩:=id hb.ss
  injection e1 with q1 q2 q3
  subst q1 q2 q3
  have hb0:Below w.heap.size w (w.alloc (.cells #[.string s.resp,.int .i64 s.dep,.int .i64 s.day,.slice Aa na ca,.slice Ac nc cc,.slice As ns cs] 29)):=(Below.refl _ _).alloc (Nat.le_refl _) _
  have hb1:Below w.heap.size w ((w.alloc (.cells #[.string s.resp,.int .i64 s.dep,.int .i64 s.day,.slice Aa na ca,.slice Ac nc cc,.slice As ns cs] 29)).alloc (.cells #[.string t.resp,.int .i64 t.dep,.int .i64 t.day,.slice Ba ma da,.slice Bc mc dc,.slice Bs ms ds] 29)):=hb0.alloc hb0.size _
  have hk0:Blk ((w.alloc (.cells #[.string s.resp,.int .i64 s.dep,.int .i64 s.day,.slice Aa na ca,.slice Ac nc cc,.slice As ns cs] 29)).alloc (.cells #[.string t.resp,.int .i64 t.dep,.int .i64 t.day,.slice Ba ma da,.slice Bc mc dc,.slice Bs ms ds] 29)) w.heap.size 29 #[.string s.resp,.int .i64 s.dep,.int .i64 s.day,.slice Aa na ca,.slice Ac nc cc,.slice As ns cs]:=(Blk.new w _ _).alloc _
  have hk1:Blk ((w.alloc (.cells #[.string s.resp,.int .i64 s.dep,.int .i64 s.day,.slice Aa na ca,.slice Ac nc cc,.slice As ns cs] 29)).alloc (.cells #[.string t.resp,.int .i64 t.dep,.int .i64 t.day,.slice Ba ma da,.slice Bc mc dc,.slice Bs ms ds] 29)) (w.heap.size+1) 29 #[.string t.resp,.int .i64 t.dep,.int .i64 t.day,.slice Ba ma da,.slice Bc mc dc,.slice Bs ms ds]:=by
    have:=Blk.new (w.alloc (.cells #[.string s.resp,.int .i64 s.dep,.int .i64 s.day,.slice Aa na ca,.slice Ac nc cc,.slice As ns cs] 29)) 29 #[.string t.resp,.int .i64 t.dep,.int .i64 t.day,.slice Ba ma da,.slice Bc mc dc,.slice Bs ms ds]
    rwa [World.size_alloc] at this
  have hsz:((w.alloc (.cells #[.string s.resp,.int .i64 s.dep,.int .i64 s.day,.slice Aa na ca,.slice Ac nc cc,.slice As ns cs] 29)).alloc (.cells #[.string t.resp,.int .i64 t.dep,.int .i64 t.day,.slice Ba ma da,.slice Bc mc dc,.slice Bs ms ds] 29)).heap.size=w.heap.size+2:=by simp
  have hsa:=fun (W:World) (h:Below w.heap.size w W) => r_SameAns (.slice Aa na ca) (.slice Ba ma da) s.ans t.ans W ((ha.aa.keep fun b hB => h.block b hB).mono fun b hB => Nat.lt_of_lt_of_le hB h.size) ((hb.aa.keep fun b hB => h.block b hB).mono fun b hB => Nat.lt_of_lt_of_le hB h.size) hos.an hot.an
  have hsc:=fun (W:World) (h:Below w.heap.size w W) => r_SameC (.slice Ac nc cc) (.slice Bc mc dc) s.cond t.cond W ((ha.cc.keep fun b hB => h.block b hB).mono fun b hB => Nat.lt_of_lt_of_le hB h.size) ((hb.cc.keep fun b hB => h.block b hB).mono fun b hB => Nat.lt_of_lt_of_le hB h.size) hos.cn hot.cn (fun x hx => (hos.cond x hx).2.2) (fun x hx => (hot.cond x hx).2.2)
  have hn1:ns ≤ 1000000:=by have:=hos.sn; omega
  have hm1:ms ≤ 1000000:=by have:=hot.sn; omega
  have hf:∀ W,Below w.heap.size w W → s ≠ t → SameB (s=t) w (.returned (.bool false)) W:=fun W hW hne => ⟨false,rfl,⟨fun h => (by cases h),fun h => absurd h hne⟩,hW⟩
  have HFA:=Lib.hid hf
  have HSA:=Lib.hid hsa
  have HSC:=Lib.hid hsc
  have HK0:=Lib.hid hk0
  have HK1:=Lib.hid hk1
  have HB1:=Lib.hid hb1
  have HSH:=Lib.hid hSh
  have HTH:=Lib.hid hTh
  have HNS:=Lib.hid hns
  have HMS:=Lib.hid hms
  clear hb0 hb1 hk0 hk1 hsa hsc hSh hTh ha hb hos hot hf hns hms
  have HST:=Lib.hid (fun (h1:s.resp=t.resp) (h2:s.dep=t.dep) (h3:s.day=t.day) (h4:s.ans=t.ans) (h5:s.cond=t.cond) (h6:s.shw=t.shw) => stm_eq h1 h2 h3 h4 h5 h6)
  have HNR:=Lib.hid (fun (h:s.resp ≠ t.resp) (e:s=t) => h (by rw [e]))
  have HND:=Lib.hid (fun (h:s.dep ≠ t.dep) (e:s=t) => h (by rw [e]))
  have HNY:=Lib.hid (fun (h:s.day ≠ t.day) (e:s=t) => h (by rw [e]))
  generalize s.resp=sr at *
  generalize t.resp=tr at *
  generalize s.dep=sd at *
  generalize t.dep=td at *
  generalize s.day=sy at *
  generalize t.day=ty at *
  by_cases k0:sr=tr
  · subst k0
    by_cases k1:sd=td
    · subst k1
      by_cases k2:sy=ty
      · subst k2
        have w1a:(sr.toList == sr.toList)=true:=seq_true rfl
        have w1b:(sd == sd)=true:=by simp
        have w1c:(sy == sy)=true:=by simp
        clear HNR HND HNY
        go_enter Tryz.func12,Tryz.ntmps12
        go_wp2_with fail
        obtain ⟨w0,hw0⟩:∃ w0,(w.alloc (.cells #[.string sr,.int .i64 sd,.int .i64 sy,.slice Aa na ca,.slice Ac nc cc,.slice As ns cs] 29)).alloc (.cells #[.string sr,.int .i64 sd,.int .i64 sy,.slice Ba ma da,.slice Bc mc dc,.slice Bs ms ds] 29)=w0:=⟨_,rfl⟩
        rw [hw0] at HB1 HK0 HK1 hsz ⊢
        clear hw0
        refine (HSA.out _ HB1.out).mono ?_
        rintro e w1 ⟨b1,rfl,hq1,hbl1⟩
        have HB2:=Lib.hid (HB1.out.trans (hbl1.mono (by omega)))
        have hs1:=hbl1.size
        have HK02:=Lib.hid (HK0.out.below' hbl1 (by omega))
        have HK12:=Lib.hid (HK1.out.below' hbl1 (by omega))
        have x4:=(HK02.out.cell 4).trans (show _=some (Value.slice Ac nc cc) from rfl)
        have y4:=(HK12.out.cell 4).trans (show _=some (Value.slice Bc mc dc) from rfl)
        clear hbl1
        cases b1 with
        | false =>
          have hne:s ≠ t:=fun e => by
            have:=hq1.2 (by rw [e])
            cases this
          have HNE:=Lib.hid hne
          clear hne hq1
          go_wp2_with fail
          go_ret
          exact HFA.out _ HB2.out HNE.out
        | true =>
          have HQ1:=Lib.hid (hq1.1 rfl)
          clear hq1
          go_wp2_with fail
          refine (HSC.out _ HB2.out).mono ?_
          rintro e w2 ⟨b2,rfl,hq2,hbl2⟩
          have HB3:=Lib.hid (HB2.out.trans (hbl2.mono (by omega)))
          have hs2:=hbl2.size
          have HK03:=Lib.hid (HK02.out.below' hbl2 (by omega))
          have HK13:=Lib.hid (HK12.out.below' hbl2 (by omega))
          have x5:=(HK03.out.cell 5).trans (show _=some (Value.slice As ns cs) from rfl)
          have y5:=(HK13.out.cell 5).trans (show _=some (Value.slice Bs ms ds) from rfl)
          clear hbl2 x4 y4
          cases b2 with
          | false =>
            have hne:s ≠ t:=fun e => by
              have:=hq2.2 (by rw [e])
              cases this
            have HNE:=Lib.hid hne
            clear hne hq2
            go_wp2_with fail
            go_ret
            exact HFA.out _ HB3.out HNE.out
          | true =>
            have HQ2:=Lib.hid (hq2.1 rfl)
            clear hq2
            by_cases hnm:ns=ms
            · subst hnm
              go_wp2_with fail
              clear x5 y5
              go_loopw [54] (fun v54 wr => ∃ i:Nat,i ≤ ns ∧ v54=.int .i64 (i:Int) ∧ (∀ q,q < i → shwAt s.shw q=shwAt t.shw q) ∧ Below w2.heap.size w2 wr) (fun v54 _ => ns - (intOf v54).toNat)
              case atStart => exact ⟨0,by omega,rfl,fun q hq => absurd hq (Nat.not_lt_zero _),Below.refl _ _⟩
              case round =>
                obtain ⟨i,hi,rfl,heq,hbr⟩:=hrel
                have HE:=Lib.hid heq
                have HBR:=Lib.hid hbr
                have hszr:=hbr.size
                clear heq hbr
                have hbl:Below w.heap.size w wr:=HB3.out.trans (HBR.out.mono (by omega))
                by_cases hlt:i < ns
                · obtain ⟨b1,o1,rfl,hS1,hc1⟩:=HSH.out (by omega)
                  obtain ⟨b2,o2,rfl,hS2,hc2⟩:=HTH.out (by omega)
                  obtain ⟨x0,x1⟩:=hc1 i hlt
                  obtain ⟨y0,y1⟩:=hc2 i hlt
                  obtain ⟨ga,hga⟩:∃ g,shwAt s.shw i=g:=⟨_,rfl⟩
                  obtain ⟨gb,hgb⟩:∃ g,shwAt t.shw i=g:=⟨_,rfl⟩
                  rw [hga] at x0 x1
                  rw [hgb] at y0 y1
                  obtain ⟨f1,t1⟩:=ga
                  obtain ⟨f2,t2⟩:=gb
                  have e0:wr.cell? ⟨b1,o1+i*2,none⟩=_:=(hbl.cell (p:=⟨b1,o1+i*2,none⟩) hS1).trans x0
                  have e1:wr.cell? ⟨b1,o1+i*2+1,none⟩=_:=(hbl.cell (p:=⟨b1,o1+i*2+1,none⟩) hS1).trans x1
                  have hbx:=HBR.out.alloc hszr (.cells #[.string f1,.string t1] 73)
                  have hbx2:=hbl.alloc hbl.size (.cells #[.string f1,.string t1] 73)
                  have a0:(wr.alloc (.cells #[.string f1,.string t1] 73)).cell? ⟨b2,o2+i*2,none⟩=_:=(hbx2.cell (p:=⟨b2,o2+i*2,none⟩) hS2).trans y0
                  have a1:(wr.alloc (.cells #[.string f1,.string t1] 73)).cell? ⟨b2,o2+i*2+1,none⟩=_:=(hbx2.cell (p:=⟨b2,o2+i*2+1,none⟩) hS2).trans y1
                  have hal:=Blk.new wr 73 #[.string f1,.string t1]
                  have y5:=((HK13.out.below' hbx (by omega)).cell 5).trans (show _=some (Value.slice (some ⟨b2,o2,none⟩) ns ds) from rfl)
                  have hfin:(f2.toList == f1.toList)=true → (t2.toList == t1.toList)=true → ∀ q,q < i+1 → shwAt s.shw q=shwAt t.shw q:=fun h1 h2 q hq => by
                    by_cases e:q=i
                    · subst e
                      rw [hga,hgb,bytes_of h1,bytes_of h2]
                    · exact HE.out q (by omega)
                  have hno:((f2.toList == f1.toList) && (t2.toList == t1.toList))=false → s ≠ t:=fun h e => by
                    subst e
                    have h2:=hga.symm.trans hgb
                    injection h2 with h3 h4
                    subst h3 h4
                    simp at h
                  have HFIN:=Lib.hid hfin
                  have HNO:=Lib.hid hno
                  have HBX:=Lib.hid hbx
                  have HBX2:=Lib.hid hbx2
                  have zi:(i:Int) < (ns:Int):=by omega
                  have z0:(0:Int) ≤ (i:Int):=by omega
                  clear x0 x1 y0 y1 hga hgb hc1 hc2 hfin hno hbx hbx2 hbl
                  go_upto_region 6 with fail
                  obtain ⟨w6,hw6⟩:∃ w6,wr.alloc (.cells #[.string f1,.string t1] 73)=w6:=⟨_,rfl⟩
                  rw [hw6] at HBX HBX2 a0 a1 hal y5 ⊢
                  clear hw6 e0 e1
                  have g0:=(hal.cell 0).trans (show _=some (Value.string f1) from rfl)
                  have g1:=(hal.cell 1).trans (show _=some (Value.string t1) from rfl)
                  clear hal
                  cases j0:(f2.toList == f1.toList) <;> cases j1:(t2.toList == t1.toList)
                  all_goals first
                    | (have hff:=HNO.out
                       rw [j0,j1] at hff
                       have HFF:=Lib.hid (hff rfl)
                       clear hff HFIN HNO
                       go_quiet (fail)
                       go_wp2_with fail
                       go_ret
                       exact HFA.out _ (below_drewN HBX2.out _) HFF.out)
                    | (have hff:=HFIN.out
                       rw [j0,j1] at hff
                       have HFF:=Lib.hid (hff rfl rfl)
                       clear hff HFIN HNO
                       go_quiet (fail)
                       go_wp2_with fail
                       go_roundw
                       case measure => simp [intOf]; omega
                       case rel => exact ⟨i+1,by omega,by go_num,HFF.out,below_drewN HBX.out _⟩)
                · have zi:¬ (i:Int) < (ns:Int):=by omega
                  have he:s.shw=t.shw:=shws_eq (by have:=HNS.out; have:=HMS.out; omega) (fun q hq => HE.out q (by have:=HNS.out; omega))
                  have hst:s=t:=HST.out (by first | rfl | trivial) (by first | rfl | trivial) (by first | rfl | trivial) HQ1.out HQ2.out he
                  have HEQ:=Lib.hid hst
                  have HBL:=Lib.hid hbl
                  clear he hst hbl
                  go_wp2_with fail
                  go_ret
                  exact ⟨true,rfl,⟨fun _ => HEQ.out,fun _ => rfl⟩,HBL.out⟩
            · have hne2:((ns:Int) == (ms:Int))=false:=by simp; omega
              have hne:s ≠ t:=fun e => hnm (by rw [HNS.out,HMS.out,e])
              have HNE:=Lib.hid hne
              clear hne
              go_wp2_with fail
              go_ret
              exact HFA.out _ HB3.out HNE.out
      · have k2':(sy == ty)=false:=by simpa using k2
        have k2n:(sy != ty)=true:=by simpa using k2
        have w1a:(sr.toList == sr.toList)=true:=seq_true rfl
        have w1b:(sd == sd)=true:=by simp
        have HNE:=Lib.hid (HNY.out k2)
        clear HNR HND HNY k2
        go_enter Tryz.func12,Tryz.ntmps12
        go_wp2_with fail
        go_ret
        exact HFA.out _ HB1.out HNE.out
    · have k1':(sd == td)=false:=by simpa using k1
      have k1n:(sd != td)=true:=by simpa using k1
      have w1a:(sr.toList == sr.toList)=true:=seq_true rfl
      have HNE:=Lib.hid (HND.out k1)
      clear HNR HND HNY k1
      go_enter Tryz.func12,Tryz.ntmps12
      go_wp2_with fail
      go_ret
      exact HFA.out _ HB1.out HNE.out
  · have k0':(sr.toList == tr.toList)=false:=seq_false (fun h => k0 (blOf_inj h))
    have HNE:=Lib.hid (HNR.out k0)
    clear HNR HND HNY k0
    go_enter Tryz.func12,Tryz.ntmps12
    go_wp2_with fail
    go_ret
    exact HFA.out _ HB1.out HNE.out
end Go.Proofs.YtgdngfdeeadlnaaGreatDoor

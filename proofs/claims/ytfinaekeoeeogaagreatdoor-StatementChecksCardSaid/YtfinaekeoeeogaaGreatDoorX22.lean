/- Contracts: are answers right ones for a form, by the reference? And more. -/
import Derived.Test.YtfinaekeoeeogaaGreatDoorX01
import Derived.Test.YtfinaekeoeeogaaGreatDoorX18
import Derived.Test.YtfinaekeoeeogaaGreatDoorX21
import Derived.Test.YtfinaekeoeeogaaGreatDoorX08
import Derived.Test.YtfinaekeoeeogaaGreatDoorX02
set_option linter.unusedVariables false
set_option linter.unusedSimpArgs false
namespace Go.Proofs.YtfinaekeoeeogaaGreatDoor
open Go.RowKit Num
set_option maxRecDepth 100000 in
set_option maxHeartbeats 8000000 in
theorem r_answers (v : Value) (T : List Ans) (title : ByteArray) (vf : Value) (L : List Fld) (w : World) (hv : AnssAt w (· < w.heap.size) v T) (hT : T.length ≤ 1000000) (hsz : ∀ k,k < T.length → (ansAt T k).field.size ≤ 1000000 ∧ (ansAt T k).text.size ≤ 1000000) (hF : FldsAt w (· < w.heap.size) vf L) (hl : L.length ≤ 1000000) (hnm : ∀ f ∈ L,f.name.size ≤ maxLen ∧ f.opts.length ≤ 1000000) :
  Calls Tryz.prog 27 #[.agg #[.string title,vf],v] w (BoolBel (ansF L T) w):=by
 have hmm:=@run_makeMap Tryz.prog
 obtain ⟨A,n,c,rfl,hn,hnc,hA⟩:=id hv
 obtain ⟨Af,nf,cf,rfl,hnf0,-,-⟩:=id hF
 have hn1:n ≤ 1000000:=by omega
 have hnf1:nf ≤ 1000000:=by omega
 have up:∀ W,Below w.heap.size w W → AnssAt W (· < W.heap.size) (.slice A n c) T ∧ FldsAt W (· < W.heap.size) (.slice Af nf cf) L:=fun W hW => ⟨(hv.keep fun b hB => hW.block b hB).mono fun b hB => Nat.lt_of_lt_of_le hB hW.size,(hF.keep fun b hB => hW.block b hB).mono fun b hB => Nat.lt_of_lt_of_le hB hW.size⟩
 have hb3:Below w.heap.size w ((w.alloc (.cells #[.string title,.slice Af nf cf] 37)).alloc (.map #[] 0)):=((Below.refl _ _).alloc (Nat.le_refl _) _).alloc (by simp) _
 have hbf:Blk ((w.alloc (.cells #[.string title,.slice Af nf cf] 37)).alloc (.map #[] 0)) w.heap.size 37 #[.string title,.slice Af nf cf]:=(Blk.new w _ _).alloc _
 have hsn:SeenM ((w.alloc (.cells #[.string title,.slice Af nf cf] 37)).alloc (.map #[] 0)) (w.heap.size+1) 0 []:=by
  have:=SeenM.new (w.alloc (.cells #[.string title,.slice Af nf cf] 37))
  rw [World.size_alloc] at this
  exact this
 have UP:=Lib.hid up
 have HA:=Lib.hid hA
 have HN:=Lib.hid hn
 have HSZ:=Lib.hid hsz
 have HNM:=Lib.hid hnm
 have HNF:=Lib.hid hnf0
 have K0:=Lib.hid (And.intro hb3 (And.intro hbf hsn))
 clear up hA hn hsz hnm hb3 hbf hsn hv hF hnf0
 go_enter Tryz.func27,Tryz.ntmps27
 go_wp2_with fail
 obtain ⟨mb,hmb⟩:∃ mb,w.heap.size+1=mb:=⟨_,rfl⟩
 rw [hmb] at K0
 try rw [hmb]
 have hord:w.heap.size < mb:=by omega
 have HORD:=Lib.hid hord
 clear hmb hord hmm
 go_loopw [15] (fun v15 wr => ∃ i:Nat,i ≤ n ∧ v15=.int .i64 (i:Int) ∧ (∀ j,j < i → okA L (seenX (T.take j)) (ansAt T j)=true) ∧ Below w.heap.size w wr ∧ Blk wr w.heap.size 37 #[.string title,.slice Af nf cf] ∧ SeenM wr mb i (seenX (T.take i))) (fun v15 _ => n - (intOf v15).toNat)
 case atStart => exact ⟨0,by omega,rfl,fun j hj => absurd hj (Nat.not_lt_zero _),K0.out.1,K0.out.2.1,K0.out.2.2⟩
 case round =>
  obtain ⟨i,hi,rfl,hne,hbr,hbk,hsm⟩:=hrel
  rename World => wr
  have HE:=Lib.hid hne
  have HBR:=Lib.hid hbr
  clear hne K0
  by_cases hlt:i < n
  ·obtain ⟨b,off,rfl,hS,hcc⟩:=HA.out (by omega)
   obtain ⟨x0,x1,x2⟩:=hcc i hlt
   obtain ⟨hrs,hrt⟩:=HSZ.out i (by have:=HN.out; omega)
   obtain ⟨g,hg⟩:∃ g,ansAt T i=g:=⟨_,rfl⟩
   rw [hg] at x0 x1 x2 hrs hrt
   obtain ⟨gf,gt,gn⟩:=g
   have e0:=(HBR.out.cell (p:=⟨b,off+i*3,none⟩) hS).trans x0
   have e1:=(HBR.out.cell (p:=⟨b,off+i*3+1,none⟩) hS).trans x1
   have e2:=(HBR.out.cell (p:=⟨b,off+i*3+2,none⟩) hS).trans x2
   have zi:(i:Int) < (n:Int):=by omega
   have z0:(0:Int) ≤ (i:Int):=by omega
   have hbv:=hbr.alloc hbr.size (.cells #[.string gf,.string gt,.int .i64 gn] 47)
   have hbk2:=hbk.alloc (.cells #[.string gf,.string gt,.int .i64 gn] 47)
   have hsm2:=hsm.alloc (.cells #[.string gf,.string gt,.int .i64 gn] 47)
   have hp7:=Blk.new wr 47 #[.string gf,.string gt,.int .i64 gn]
   have hlw:=hsm.lt
   clear x0 x1 x2 hcc hbr hbk hsm
   go_upto_region 5 with fail
   generalize wr.alloc (.cells #[.string gf,.string gt,.int .i64 gn] 47)=wv at hbv hbk2 hsm2 hp7 ⊢
   obtain ⟨p7,hq7⟩:∃ p,wr.heap.size=p:=⟨_,rfl⟩
   rw [hq7] at hp7
   try rw [hq7]
   clear hq7 e0 e1 e2
   have c0:=(hbk2.cell 0).trans (show _=some (Value.string title) from rfl)
   have c1:=(hbk2.cell 1).trans (show _=some (Value.slice Af nf cf) from rfl)
   have d0:=(hp7.cell 0).trans (show _=some (Value.string gf) from rfl)
   have hfn:=r_Find title gf (.slice Af nf cf) L (· < wv.heap.size) wv (UP.out _ hbv).2 (fun b h => h) hl
   have HFN:=Lib.hid hfn
   have KV:=Lib.hid (And.intro hbv (And.intro hbk2 (And.intro hsm2 hp7)))
   clear hfn hbv hbk2 hsm2 hp7
   go_wp2_with fail
   refine HFN.out.mono ?_
   rintro e w1 ⟨rfl,hb1⟩
   have hold:=KV.out.1.trans (hb1.mono KV.out.1.size)
   have hbk3:=KV.out.2.1.below' hb1 KV.out.2.1.lt
   have hsm3:=KV.out.2.2.1.below hb1
   have hp8:=KV.out.2.2.2.below' hb1 KV.out.2.2.2.lt
   obtain ⟨sn,hsn⟩:∃ b,hasT (seenX (T.take i)) gf=b:=⟨_,rfl⟩
   have lim:∀ W,Below w1.heap.size w1 W → W.cell? ⟨p7,0,none⟩=some (.string gf) ∧ W.cell? ⟨p7,1,none⟩=some (.string gt) ∧ W.cell? ⟨p7,2,none⟩=some (.int .i64 gn) ∧ W.cell? ⟨w.heap.size,1,none⟩=some (.slice Af nf cf) ∧ (Instr.lookup 98 (.map (some mb)) (.string gf) false).run Tryz.prog W=.ok (.bool sn) W:=fun W hW => ⟨((hp8.below' hW hp8.lt).cell 0).trans rfl,((hp8.below' hW hp8.lt).cell 1).trans rfl,((hp8.below' hW hp8.lt).cell 2).trans rfl,((hbk3.below' hW hbk3.lt).cell 1).trans rfl,by rw [← hsn]; exact (hsm3.below hW).look gf (by unfold maxLen; omega)⟩
   have snw:∀ W,Below w1.heap.size w1 W → SeenM W mb i (seenX (T.take i)):=fun W hW => hsm3.below hW
   have fin:∀ W,Below w1.heap.size w1 W → ∀ wq,W.grownBy wq (some mb) → Below w.heap.size w wq ∧ Blk wq w.heap.size 37 #[.string title,.slice Af nf cf]:=fun W hW wq hq =>
    ⟨(hold.trans (hW.mono hold.size)).grown hq (by have:=hold.size; have:=hW.size; omega) (fun g hg => by injection hg; have:=HORD.out; omega),
     (hq.block _ (hbk3.below' hW hbk3.lt).lt (by intro e; injection e; have:=HORD.out; omega)).trans (hbk3.below' hW hbk3.lt)⟩
   have LIM:=Lib.hid lim
   have SNW:=Lib.hid snw
   have FIN:=Lib.hid fin
   have HOLD:=Lib.hid (show Below w.heap.size w w1 from hold)
   have K_0:Hid (Below w1.heap.size w1 w1.drew):=Lib.hid (Below.refl _ _).drew
   clear lim snw fin hold hbk3 hsm3 hp8 hb1 KV c0 c1 d0 HFN hlw
   cases hf:fstF L gf with
   | none =>
    go_upto_region 6 with fail
    have HOK:Hid (okA L (seenX (T.take i)) (ansAt T i)=false):=Lib.hid (by rw [hg]; unfold okA; simp only [hf])
    refine wp_region_held_drew (S:=fun W => W.cell? ⟨p7,0,none⟩=some (.string gf) ∧ W.cell? ⟨p7,1,none⟩=some (.string gt) ∧ W.cell? ⟨p7,2,none⟩=some (.int .i64 gn) ∧ W.cell? ⟨w.heap.size,1,none⟩=some (.slice Af nf cf) ∧ (Instr.lookup 98 (.map (some mb)) (.string gf) false).run Tryz.prog W=.ok (.bool sn) W) (by kernel_rfl) (LIM.out _ K_0.out) (fun hHeld => ?_)
    refine t1 0 rfl ?_
    try simp only [pt]
    refine t1 1 rfl ?_
    try simp only [pt]
    refine t1 2 rfl ?_
    try simp only [pt]
    refine t0 3 rfl ?_
    try simp only [pt]
    refine t0 4 rfl ?_
    try simp only [pt]
    refine t0 5 rfl ?_
    try simp only [pt]
    refine t0 6 rfl ?_
    try simp only [pt]
    refine t1 7 rfl ?_
    try simp only [pt]
    refine t1 8 rfl ?_
    try simp only [pt]
    refine t0 9 rfl ?_
    try simp only [pt]
    refine t0 10 rfl ?_
    try simp only [pt]
    refine t0 11 rfl ?_
    try simp only [pt]
    refine t0 12 rfl ?_
    try simp only [pt]
    refine t0 13 rfl ?_
    try simp only [pt]
    refine t0 14 rfl ?_
    try simp only [pt]
    refine t0 15 rfl ?_
    try simp only [pt]
    refine t0 16 rfl ?_
    try simp only [pt]
    refine t1 17 rfl ?_
    try simp only [pt]
    refine wpAnyH_done (by kernel_rfl) ?_ _
    have hno:ansF L T=false:=ansF_no (by have:=HN.out; omega) HOK.out
    have HNO:=Lib.hid hno
    clear hno
    go_wp2_with fail
    go_ret
    exact ⟨by rw [HNO.out]; rfl,HOLD.out.trans (K_0.out.mono HOLD.out.size)⟩
   | some k =>
    obtain ⟨hk,hkn⟩:=fstF_lt hf
    cases sn
    ·have hLM:=(UP.out _ HOLD.out).2
     obtain ⟨Af',nf',cf',hAf',hnf',-,hcf⟩:=id hLM
     injection hAf' with q1 q2 q3
     subst q1 q2 q3
     obtain ⟨fb,fo,rfl,hSf,hcl⟩:=hcf (by omega)
     obtain ⟨y0,y1,y2,y3,y4,uo,y5,hto⟩:=hcl k (by omega)
     have hop:=(HNM.out _ (fldAt_mem hk)).2
     obtain ⟨Ao,no,co,rfl,-⟩:=id hto
     obtain ⟨f,hff⟩:∃ f,fldAt L k=f:=⟨_,rfl⟩
     rw [hff] at y0 y1 y2 y3 y4 hto hop hkn
     have lim2:∀ W,Below w1.heap.size w1 W → W.cell? ⟨p7,0,none⟩=some (.string gf) ∧ W.cell? ⟨p7,1,none⟩=some (.string gt) ∧ W.cell? ⟨p7,2,none⟩=some (.int .i64 gn) ∧ W.cell? ⟨w.heap.size,1,none⟩=some (.slice (some ⟨fb,fo,none⟩) nf cf) ∧ (Instr.lookup 98 (.map (some mb)) (.string gf) false).run Tryz.prog W=.ok (.bool false) W ∧ W.cell? ⟨fb,fo+k*6,none⟩=some (.string f.name) ∧ W.cell? ⟨fb,fo+k*6+1,none⟩=some (.int .i64 f.kind) ∧ W.cell? ⟨fb,fo+k*6+2,none⟩=some (.bool f.need) ∧ W.cell? ⟨fb,fo+k*6+3,none⟩=some (.int .i64 f.least) ∧ W.cell? ⟨fb,fo+k*6+4,none⟩=some (.int .i64 f.most) ∧ W.cell? ⟨fb,fo+k*6+5,none⟩=some (.slice Ao no co):=fun W hW => by
      obtain ⟨a0,a1,a2,a4,a5⟩:=LIM.out W hW
      exact ⟨a0,a1,a2,a4,a5,(hW.cell (p:=⟨fb,fo+k*6,none⟩) hSf).trans y0,(hW.cell (p:=⟨fb,fo+k*6+1,none⟩) hSf).trans y1,(hW.cell (p:=⟨fb,fo+k*6+2,none⟩) hSf).trans y2,(hW.cell (p:=⟨fb,fo+k*6+3,none⟩) hSf).trans y3,(hW.cell (p:=⟨fb,fo+k*6+4,none⟩) hSf).trans y4,(hW.cell (p:=⟨fb,fo+k*6+5,none⟩) hSf).trans y5⟩
     have fit:∀ W,Below w1.heap.size w1 W → Calls Tryz.prog 60 #[.agg #[.string f.name,.int .i64 f.kind,.bool f.need,.int .i64 f.least,.int .i64 f.most,.slice Ao no co],.agg #[.string gf,.string gt,.int .i64 gn]] W (BoolBel (fitsF f ⟨gf,gt,gn⟩) W):=fun W hW => r_fits f ⟨gf,gt,gn⟩ (.slice Ao no co) W ((hto.keep fun b hb => hW.block b hb).mono fun b hb => Nat.lt_of_lt_of_le hb hW.size) hop hrt
     have hspec:okA L (seenX (T.take i)) ⟨gf,gt,gn⟩=fitsF f ⟨gf,gt,gn⟩:=by unfold okA; simp only [hf,hsn,hff]; rfl
     have LIM2:=Lib.hid lim2
     have FIT:=Lib.hid fit
     have zk:(k:Int) < (nf:Int):=by omega
     have zk0:(0:Int) ≤ (k:Int):=by omega
     clear lim2 fit hto y0 y1 y2 y3 y4 y5 hop hkn hff hcl hcf hLM hSf hnf'
     cases hfi:fitsF f ⟨gf,gt,gn⟩
     ·rw [hfi] at FIT hspec
      go_upto_region 6 with fail
      have HOK:Hid (okA L (seenX (T.take i)) (ansAt T i)=false):=Lib.hid (by rw [hg]; exact hspec)
      refine wp_region_held_drew (S:=fun W => W.cell? ⟨p7,0,none⟩=some (.string gf) ∧ W.cell? ⟨p7,1,none⟩=some (.string gt) ∧ W.cell? ⟨p7,2,none⟩=some (.int .i64 gn) ∧ W.cell? ⟨w.heap.size,1,none⟩=some (.slice (some ⟨fb,fo,none⟩) nf cf) ∧ (Instr.lookup 98 (.map (some mb)) (.string gf) false).run Tryz.prog W=.ok (.bool false) W ∧ W.cell? ⟨fb,fo+k*6,none⟩=some (.string f.name) ∧ W.cell? ⟨fb,fo+k*6+1,none⟩=some (.int .i64 f.kind) ∧ W.cell? ⟨fb,fo+k*6+2,none⟩=some (.bool f.need) ∧ W.cell? ⟨fb,fo+k*6+3,none⟩=some (.int .i64 f.least) ∧ W.cell? ⟨fb,fo+k*6+4,none⟩=some (.int .i64 f.most) ∧ W.cell? ⟨fb,fo+k*6+5,none⟩=some (.slice Ao no co)) (by kernel_rfl) (LIM2.out _ K_0.out) (fun hHeld => ?_)
      refine t1 0 rfl ?_
      try simp only [pt]
      refine t1 1 rfl ?_
      try simp only [pt]
      refine t1 2 rfl ?_
      try simp only [pt]
      refine t1 3 rfl ?_
      try simp only [pt]
      refine t1 4 rfl ?_
      try simp only [pt]
      refine t1 5 rfl ?_
      try simp only [pt]
      refine t1 6 rfl ?_
      try simp only [pt]
      refine t1 7 rfl ?_
      try simp only [pt]
      refine t1 8 rfl ?_
      try simp only [pt]
      refine t1 9 rfl ?_
      try simp only [pt]
      refine t1 10 rfl ?_
      try simp only [pt]
      refine t1 11 rfl ?_
      try simp only [pt]
      refine t1 12 rfl ?_
      try simp only [pt]
      refine t1 13 rfl ?_
      try simp only [pt]
      refine t1 14 rfl ?_
      try simp only [pt]
      refine wpAnyH_ready (rs:=[15]) (by kernel_rfl) (by simp) ?_
      refine AllReadyH.cons rfl (fun K hK => ?_) AllReadyH.nil
      go_simp
      refine (FIT.out _ K_0.out).mono ?_
      rintro e w2 ⟨rfl,hb2⟩
      have K_1:=Lib.hid (K_0.out.trans (hb2.mono K_0.out.size))
      clear hb2
      refine hK.out _ _ (LIM2.out _ K_1.out) (fun hHeld => ?_)
      clear hK K
      try simp only [pt]
      refine t1 16 rfl ?_
      try simp only [pt]
      refine t1 17 rfl ?_
      try simp only [pt]
      refine wpAnyH_done (by kernel_rfl) ?_ _
      have hno:ansF L T=false:=ansF_no (by have:=HN.out; omega) HOK.out
      have HNO:=Lib.hid hno
      clear hno
      go_wp2_with fail
      go_ret
      exact ⟨by rw [HNO.out]; rfl,HOLD.out.trans (K_1.out.mono HOLD.out.size)⟩
     ·rw [hfi] at FIT hspec
      go_upto_region 6 with fail
      have HOK:Hid (okA L (seenX (T.take i)) (ansAt T i)=true):=Lib.hid (by rw [hg]; exact hspec)
      refine wp_region_held_drew (S:=fun W => W.cell? ⟨p7,0,none⟩=some (.string gf) ∧ W.cell? ⟨p7,1,none⟩=some (.string gt) ∧ W.cell? ⟨p7,2,none⟩=some (.int .i64 gn) ∧ W.cell? ⟨w.heap.size,1,none⟩=some (.slice (some ⟨fb,fo,none⟩) nf cf) ∧ (Instr.lookup 98 (.map (some mb)) (.string gf) false).run Tryz.prog W=.ok (.bool false) W ∧ W.cell? ⟨fb,fo+k*6,none⟩=some (.string f.name) ∧ W.cell? ⟨fb,fo+k*6+1,none⟩=some (.int .i64 f.kind) ∧ W.cell? ⟨fb,fo+k*6+2,none⟩=some (.bool f.need) ∧ W.cell? ⟨fb,fo+k*6+3,none⟩=some (.int .i64 f.least) ∧ W.cell? ⟨fb,fo+k*6+4,none⟩=some (.int .i64 f.most) ∧ W.cell? ⟨fb,fo+k*6+5,none⟩=some (.slice Ao no co)) (by kernel_rfl) (LIM2.out _ K_0.out) (fun hHeld => ?_)
      refine t1 0 rfl ?_
      try simp only [pt]
      refine t1 1 rfl ?_
      try simp only [pt]
      refine t1 2 rfl ?_
      try simp only [pt]
      refine t1 3 rfl ?_
      try simp only [pt]
      refine t1 4 rfl ?_
      try simp only [pt]
      refine t1 5 rfl ?_
      try simp only [pt]
      refine t1 6 rfl ?_
      try simp only [pt]
      refine t1 7 rfl ?_
      try simp only [pt]
      refine t1 8 rfl ?_
      try simp only [pt]
      refine t1 9 rfl ?_
      try simp only [pt]
      refine t1 10 rfl ?_
      try simp only [pt]
      refine t1 11 rfl ?_
      try simp only [pt]
      refine t1 12 rfl ?_
      try simp only [pt]
      refine t1 13 rfl ?_
      try simp only [pt]
      refine t1 14 rfl ?_
      try simp only [pt]
      refine wpAnyH_ready (rs:=[15]) (by kernel_rfl) (by simp) ?_
      refine AllReadyH.cons rfl (fun K hK => ?_) AllReadyH.nil
      go_simp
      refine (FIT.out _ K_0.out).mono ?_
      rintro e w2 ⟨rfl,hb2⟩
      have K_1:=Lib.hid (K_0.out.trans (hb2.mono K_0.out.size))
      clear hb2
      refine hK.out _ _ (LIM2.out _ K_1.out) (fun hHeld => ?_)
      clear hK K
      try simp only [pt]
      refine t1 16 rfl ?_
      try simp only [pt]
      refine t1 17 rfl ?_
      try simp only [pt]
      refine wpAnyH_done (by kernel_rfl) ?_ _
      have hz:=SNW.out _ K_1.out
      have c0:=(LIM2.out _ K_1.out).1
      obtain ⟨wq,hrun,hsq,hgq⟩:=hz.put (by unfold maxLen; omega) gf (by unfold maxLen; omega)
      have hfin:=FIN.out _ K_1.out wq hgq
      have HFI:=Lib.hid hfin
      have HSQ:=Lib.hid hsq
      clear hfin hsq hgq hz
      go_wp2_with fail
      go_roundw
      case measure => simp [intOf]; omega
      case rel => exact ⟨i+1,by omega,by go_num,all_next' (P:=fun j => okA L (seenX (T.take j)) (ansAt T j)=true) HE.out HOK.out,HFI.out.1,HFI.out.2,(by rw [seenX_succ (by have:=HN.out; omega),hg]; exact HSQ.out)⟩
    ·go_upto_region 6 with fail
     have HOK:Hid (okA L (seenX (T.take i)) (ansAt T i)=false):=Lib.hid (by rw [hg]; unfold okA; simp only [hf,hsn]; rfl)
     refine wp_region_held_drew (S:=fun W => W.cell? ⟨p7,0,none⟩=some (.string gf) ∧ W.cell? ⟨p7,1,none⟩=some (.string gt) ∧ W.cell? ⟨p7,2,none⟩=some (.int .i64 gn) ∧ W.cell? ⟨w.heap.size,1,none⟩=some (.slice Af nf cf) ∧ (Instr.lookup 98 (.map (some mb)) (.string gf) false).run Tryz.prog W=.ok (.bool true) W) (by kernel_rfl) (LIM.out _ K_0.out) (fun hHeld => ?_)
     refine t1 0 rfl ?_
     try simp only [pt]
     refine t1 1 rfl ?_
     try simp only [pt]
     refine t1 2 rfl ?_
     try simp only [pt]
     refine t1 3 rfl ?_
     try simp only [pt]
     refine t1 4 rfl ?_
     try simp only [pt]
     refine t1 5 rfl ?_
     try simp only [pt]
     refine t1 6 rfl ?_
     try simp only [pt]
     refine t1 7 rfl ?_
     try simp only [pt]
     refine t1 8 rfl ?_
     try simp only [pt]
     refine t0 9 rfl ?_
     try simp only [pt]
     refine t0 10 rfl ?_
     try simp only [pt]
     refine t0 11 rfl ?_
     try simp only [pt]
     refine t0 12 rfl ?_
     try simp only [pt]
     refine t0 13 rfl ?_
     try simp only [pt]
     refine t0 14 rfl ?_
     try simp only [pt]
     refine t0 15 rfl ?_
     try simp only [pt]
     refine t0 16 rfl ?_
     try simp only [pt]
     refine t1 17 rfl ?_
     try simp only [pt]
     refine wpAnyH_done (by kernel_rfl) ?_ _
     have hno:ansF L T=false:=ansF_no (by have:=HN.out; omega) HOK.out
     have HNO:=Lib.hid hno
     clear hno
     go_wp2_with fail
     go_ret
     exact ⟨by rw [HNO.out]; rfl,HOLD.out.trans (K_0.out.mono HOLD.out.size)⟩
  ·have zi:¬ (i:Int) < (n:Int):=by omega
   obtain rfl:i=n:=by omega
   have hall:ansF L T = !L.any (lackF (seenX T)):=ansF_all (fun j hj => HE.out j (by have:=HN.out; omega))
   have htk:T.take i=T:=List.take_of_length_le (by have:=HN.out; omega)
   rw [htk] at hsm
   have c1:=(hbk.cell 1).trans (show _=some (Value.slice Af nf cf) from rfl)
   have HALL:=Lib.hid hall
   have HSM:=Lib.hid hsm
   clear hall htk hsm hbk hbr
   go_wp2_with fail
   go_loopw [51] (fun v51 wq => ∃ q:Nat,q ≤ nf ∧ v51=.int .i64 (q:Int) ∧ (∀ j,j < q → lackF (seenX T) (fldAt L j)=false) ∧ Below wr.heap.size wr wq) (fun v51 _ => nf - (intOf v51).toNat)
   case atStart => exact ⟨0,by omega,rfl,fun j hj => absurd hj (Nat.not_lt_zero _),Below.refl _ _⟩
   case round =>
    obtain ⟨q,hq,rfl,hnq,hbq⟩:=hrel
    rename World => wq
    have HNQ:=Lib.hid hnq
    have HBQ:=Lib.hid hbq
    have hold:=HBR.out.trans (hbq.mono HBR.out.size)
    have HOLD:=Lib.hid hold
    clear hnq hbq
    by_cases hlq:q < nf
    ·obtain ⟨_,_,_,hAf',hnf',-,hcf⟩:=(UP.out _ hold).2
     injection hAf' with q1 q2 q3
     subst q1 q2 q3
     obtain ⟨fb,fo,rfl,hSf,hcl⟩:=hcf (by omega)
     obtain ⟨y0,y1,y2,y3,y4,uo,y5,hto⟩:=hcl q (by omega)
     obtain ⟨Ao,no,co,rfl,-⟩:=hto
     have hmem:fldAt L q ∈ L:=fldAt_mem (by have:=HNF.out; omega)
     have hns:=(HNM.out _ hmem).1
     obtain ⟨f,hff⟩:∃ f,fldAt L q=f:=⟨_,rfl⟩
     rw [hff] at y0 y1 y2 y3 y4 hmem hns
     obtain ⟨fn,fk,fd,fl,fm,fo2⟩:=f
     have hsw:=HSM.out.below HBQ.out
     have hlk:=(hsw.alloc (.cells #[.string fn,.int .i64 fk,.bool fd,.int .i64 fl,.int .i64 fm,.slice Ao no co] 63)).look fn hns
     have zi2:(q:Int) < (nf:Int):=by omega
     have z0:(0:Int) ≤ (q:Int):=by omega
     have HBA:=Lib.hid (HBQ.out.alloc HBQ.out.size (.cells #[.string fn,.int .i64 fk,.bool fd,.int .i64 fl,.int .i64 fm,.slice Ao no co] 63))
     have HFF:=Lib.hid hff
     have HMEM:=Lib.hid hmem
     clear hsw hmem hns hff hcl hcf hold hnf'
     cases fd
     ·have HL:Hid (lackF (seenX T) ⟨fn,fk,false,fl,fm,fo2⟩=false):=Lib.hid rfl
      go_wp2_with fail
      go_roundw
      case measure => simp [intOf]; omega
      case rel => exact ⟨q+1,by omega,by go_num,all_next' (P:=fun j => lackF (seenX T) (fldAt L j)=false) HNQ.out (by rw [HFF.out]; exact HL.out),HBA.out⟩
     ·have hle:lackF (seenX T) ⟨fn,fk,true,fl,fm,fo2⟩ = !hasT (seenX T) fn:=by unfold lackF; rw [Bool.true_and]
      obtain ⟨bb,hbb⟩:∃ bb,hasT (seenX T) fn=bb:=⟨_,rfl⟩
      rw [hbb] at hlk hle
      have HL:=Lib.hid hle
      clear hle hbb
      cases bb
      ·have hany:L.any (lackF (seenX T))=true:=List.any_eq_true.2 ⟨_,HMEM.out,HL.out⟩
       have HY:=Lib.hid hany
       clear hany
       go_wp2_with fail
       go_ret
       exact ⟨by rw [HALL.out,HY.out]; rfl,HBR.out.trans (HBA.out.mono HBR.out.size)⟩
      ·go_wp2_with fail
       go_roundw
       case measure => simp [intOf]; omega
       case rel => exact ⟨q+1,by omega,by go_num,all_next' (P:=fun j => lackF (seenX T) (fldAt L j)=false) HNQ.out (by rw [HFF.out]; exact HL.out),HBA.out⟩
    ·have zi2:¬ (q:Int) < (nf:Int):=by omega
     have hany:L.any (lackF (seenX T))=false:=by
      rw [List.any_eq_false]
      intro f hf
      obtain ⟨j,hj,e⟩:=List.getElem_of_mem hf
      have h1:=HNQ.out j (by have:=HNF.out; omega)
      have h2:fldAt L j=f:=by unfold fldAt; rw [List.getD_eq_getElem?_getD,List.getElem?_eq_getElem hj]; exact e
      rw [h2] at h1
      rw [h1]; decide
     have HY:=Lib.hid hany
     clear hany
     go_wp2_with fail
     go_ret
     exact ⟨by rw [HALL.out,HY.out]; rfl,HOLD.out⟩
def rtermB (t : Trm) : Bool :=
 let counted:=betwB t.num 64
 let plain:=decide (t.yrs=0 ∧ t.field.size=0 ∧ t.text.size=0)
 if t.kind=1 ∨ t.kind=2 then decide (2 ≤ t.args.length) && decide (t.num=0) && plain
 else if t.kind=3 ∨ t.kind=4 then decide (t.args.length=0) && counted && plain
 else if t.kind=5 then decide (t.args.length=0) && counted && decide (0 ≤ t.yrs ∧ t.yrs ≤ 100) && decide (t.field.size=0 ∧ t.text.size=0)
 else if t.kind=6 ∨ t.kind=8 then decide (t.args.length=0) && decide (t.num=0) && plain
 else if t.kind=7 then decide (t.args.length=0) && counted && decide (t.yrs=0) && nameB (blOf t.field) && betwB t.text.size 256 && !(blOf t.text).contains 34
 else false
theorem rterm_eq (t : Trm) : rtermB t = (bareB t && argsOk t) := by
 have hsev:severalB t.kind=decide (t.kind=1 ∨ t.kind=2):=rfl
 rw [Bool.eq_iff_iff]
 unfold rtermB bareB argsOk
 rw [hsev]
 simp only
 by_cases c1:t.kind=1 ∨ t.kind=2
 ·have c1':t.kind=1 ∨ t.kind=2 ∨ t.kind=6 ∨ t.kind=8:=by omega
  rw [if_pos c1,if_pos c1']
  simp only [c1,Bool.and_eq_true,decide_eq_true_eq,decide_true,beq_iff_eq,ne_eq]
  constructor
  ·rintro ⟨⟨h1,h2⟩,h3,h4,h5⟩
   exact ⟨⟨h2,h3,h4,h5⟩,(decide_eq_true (by omega:0 < t.args.length)).symm,by omega⟩
  ·rintro ⟨⟨h2,h3,h4,h5⟩,h6,h7⟩
   have:=of_decide_eq_true h6.symm
   exact ⟨⟨by omega,h2⟩,h3,h4,h5⟩
 ·rw [if_neg c1]
  have hs:decide (t.kind=1 ∨ t.kind=2)=false:=decide_eq_false c1
  rw [hs]
  have harg:((false == decide (0 < t.args.length)) && decide (t.args.length ≠ 1))=true ↔ t.args.length=0:=by
   simp only [Bool.and_eq_true,beq_iff_eq,decide_eq_true_eq]
   constructor
   ·rintro ⟨h1,_⟩
    have:=of_decide_eq_false h1.symm
    omega
   ·intro h
    exact ⟨(decide_eq_false (by omega)).symm,by omega⟩
  rw [Bool.and_eq_true,harg]
  by_cases c3:t.kind=3 ∨ t.kind=4
  ·rw [if_pos c3,if_neg (by omega),if_pos c3]
   simp only [Bool.and_eq_true,decide_eq_true_eq]
   constructor
   ·rintro ⟨⟨h1,h2⟩,h3⟩; exact ⟨⟨h2,h3⟩,h1⟩
   ·rintro ⟨⟨h2,h3⟩,h1⟩; exact ⟨⟨h1,h2⟩,h3⟩
  ·rw [if_neg c3]
   by_cases c5:t.kind=5
   ·rw [if_pos c5,if_neg (by omega),if_neg c3,if_pos c5]
    simp only [Bool.and_eq_true,decide_eq_true_eq]
    constructor
    ·rintro ⟨⟨⟨h1,h2⟩,h3⟩,h4⟩; exact ⟨⟨h2,h3.1,h3.2,h4.1,h4.2⟩,h1⟩
    ·rintro ⟨⟨h2,h3,h4,h5,h6⟩,h1⟩; exact ⟨⟨⟨h1,h2⟩,h3,h4⟩,h5,h6⟩
   ·rw [if_neg c5]
    by_cases c6:t.kind=6 ∨ t.kind=8
    ·rw [if_pos c6,if_pos (by omega)]
     simp only [Bool.and_eq_true,decide_eq_true_eq]
     constructor
     ·rintro ⟨⟨h1,h2⟩,h3⟩; exact ⟨⟨h2,h3⟩,h1⟩
     ·rintro ⟨⟨h2,h3⟩,h1⟩; exact ⟨⟨h1,h2⟩,h3⟩
    ·rw [if_neg c6]
     by_cases c7:t.kind=7
     ·rw [if_pos c7,if_neg (by omega),if_neg c3,if_neg c5,if_pos c7]
      simp only [Bool.and_eq_true,decide_eq_true_eq]
      constructor
      ·rintro ⟨⟨⟨⟨⟨h1,h2⟩,h3⟩,h4⟩,h5⟩,h6⟩; exact ⟨⟨⟨⟨⟨h2,h4⟩,h5⟩,h6⟩,h3⟩,h1⟩
      ·rintro ⟨⟨⟨⟨⟨h2,h4⟩,h5⟩,h6⟩,h3⟩,h1⟩; exact ⟨⟨⟨⟨⟨h1,h2⟩,h3⟩,h4⟩,h5⟩,h6⟩
     ·rw [if_neg c7,if_neg (by omega),if_neg c3,if_neg c5,if_neg c7]
      simp
def walkI (o : Option (Tree × Nat)) : Int := match o with
 | none => -1
 | some (_,n) => (n:Int)
theorem walk_whole {L : List Trm} : (decide (1 ≤ L.length) && decide (L.length ≤ 24) && decide (walkI (growF L 6 0) = (L.length : Int))) = (rootF L).isSome := by
 unfold rootF
 by_cases h24:L.length ≤ 24
 ·rw [if_pos h24]
  rcases hg:growF L 6 0 with _ | ⟨T,n⟩
  ·have e:walkI (none:Option (Tree × Nat)) = -1:=rfl
   rw [e]
   have:¬ (-1:Int)=(L.length:Int):=by omega
   simp [this]
  ·have e:walkI (some (T,n))=(n:Int):=rfl
   rw [e]
   have h1:=(flat_grow 6 hg).2
   by_cases hn:n=L.length
   ·simp only [hn,if_true]
    have:1 ≤ L.length:=by omega
    simp [h24,this]
   ·simp only [if_neg hn]
    have:¬ (n:Int)=(L.length:Int):=by omega
    simp [this]
 ·rw [if_neg h24]
  simp [h24]
end Go.Proofs.YtfinaekeoeeogaaGreatDoor

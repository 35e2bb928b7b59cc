/- Contracts: are answers right ones for a form? And more. -/
import Derived.Test.YtgdngfdeeadlnaaGreatDoorZ05
import Derived.Test.YtgdngfdeeadlnaaGreatDoorZ32
import Derived.Test.YtgdngfdeeadlnaaGreatDoorZ29
import Derived.Test.YtgdngfdeeadlnaaGreatDoorZ04
import Derived.BigRegion
import Derived.Deep.CutRange
import Derived.Deep.CutBlock
import Derived.Test.YtgdngfdeeadlnaaGreatDoorZ11
set_option linter.unusedVariables false
set_option linter.unusedSimpArgs false
namespace Go.Proofs.YtgdngfdeeadlnaaGreatDoor
open Go.RowKit Num
def seenX (A : List Ans) : List ByteArray := (A.map Ans.field).reverse
theorem seenX_succ {A : List Ans} {k : Nat} (hk : k < A.length) : seenX (A.take (k + 1)) = (ansAt A k).field :: seenX (A.take k) := by
 have e:ansAt A k=A[k]:=by unfold ansAt; rw [List.getD_eq_getElem?_getD,List.getElem?_eq_getElem hk]; rfl
 unfold seenX
 rw [List.take_succ_eq_append_getElem hk,List.map_append,List.reverse_append,e]
 rfl
def okA (L : List Fld) (X : List ByteArray) (a : Ans) : Bool := match fstF L a.field with | none => false | some k => !hasT X a.field && fitsF (fldAt L k) a
def ansF (L : List Fld) (A : List Ans) : Bool := ((List.range A.length).all fun i => okA L (seenX (A.take i)) (ansAt A i)) && !L.any (lackF (seenX A))
theorem ansF_no {L : List Fld} {A : List Ans} {i : Nat} (hi : i < A.length) (h : okA L (seenX (A.take i)) (ansAt A i) = false) : ansF L A = false := by
 cases e:ansF L A with
 | false => rfl
 | true =>
  unfold ansF at e
  rw [Bool.and_eq_true,List.all_eq_true] at e
  rw [e.1 i (List.mem_range.2 hi)] at h
  cases h
theorem ansF_all {L : List Fld} {A : List Ans} (h : ∀ i,i < A.length → okA L (seenX (A.take i)) (ansAt A i) = true) : ansF L A = !L.any (lackF (seenX A)) := by
 have e:((List.range A.length).all fun i => okA L (seenX (A.take i)) (ansAt A i))=true:=by
  rw [List.all_eq_true]
  exact fun i hi => h i (List.mem_range.1 hi)
 unfold ansF
 rw [e,Bool.true_and]
theorem all_next' {P : Nat → Prop} {i : Nat} (h : ∀ j,j < i → P j) (h1 : P i) : ∀ j,j < i + 1 → P j := fun j hj => by
 rcases Nat.lt_or_ge j i with h2 | h2
 ·exact h j h2
 ·rw [show j=i by omega]; exact h1
set_option maxRecDepth 100000 in
set_option maxHeartbeats 8000000 in
theorem s_answers (v : Value) (T : List Ans) (title : ByteArray) (vf : Value) (L : List Fld) (w : World) (hv : AnssAt w (· < w.heap.size) v T) (hT : T.length ≤ 1000000) (hsz : ∀ k,k < T.length → (ansAt T k).field.size ≤ 1000000 ∧ (ansAt T k).text.size ≤ 1000000) (hF : FldsAt w (· < w.heap.size) vf L) (hl : L.length ≤ 1000000) (hnm : ∀ f ∈ L,f.name.size ≤ maxLen ∧ f.opts.length ≤ 1000000) :
  Calls Tryz.prog 53 #[.agg #[.string title,vf],v] w (BoolBel (ansF L T) w):=by
 have hmm:=@run_makeMap Tryz.prog
 obtain ⟨A,n,c,rfl,hn,hnc,hA⟩:=id hv
 obtain ⟨Af,nf,cf,rfl,-⟩:=id hF
 have hn1:n ≤ 1000000:=by omega
 have up:∀ W,Below w.heap.size w W → AnssAt W (· < W.heap.size) (.slice A n c) T ∧ FldsAt W (· < W.heap.size) (.slice Af nf cf) L:=fun W hW => ⟨(hv.keep fun b hB => hW.block b hB).mono fun b hB => Nat.lt_of_lt_of_le hB hW.size,(hF.keep fun b hB => hW.block b hB).mono fun b hB => Nat.lt_of_lt_of_le hB hW.size⟩
 have hb3:Below w.heap.size w (((w.alloc (.cells #[.string title,.slice Af nf cf] 37)).alloc (.map #[] 0)).alloc (.cells #[.map (some (w.heap.size+1))] 142)):=(((Below.refl _ _).alloc (Nat.le_refl _) _).alloc (by simp) _).alloc (by simp; omega) _
 have hbf:Blk (((w.alloc (.cells #[.string title,.slice Af nf cf] 37)).alloc (.map #[] 0)).alloc (.cells #[.map (some (w.heap.size+1))] 142)) w.heap.size 37 #[.string title,.slice Af nf cf]:=((Blk.new w _ _).alloc _).alloc _
 have hsn:SeenM (((w.alloc (.cells #[.string title,.slice Af nf cf] 37)).alloc (.map #[] 0)).alloc (.cells #[.map (some (w.heap.size+1))] 142)) (w.heap.size+1) 0 []:=by
  have:=SeenM.new (w.alloc (.cells #[.string title,.slice Af nf cf] 37))
  rw [World.size_alloc] at this
  exact this.alloc _
 have hbp:Blk (((w.alloc (.cells #[.string title,.slice Af nf cf] 37)).alloc (.map #[] 0)).alloc (.cells #[.map (some (w.heap.size+1))] 142)) (w.heap.size+1+1) 142 #[.map (some (w.heap.size+1))]:=by
  have:=Blk.new ((w.alloc (.cells #[.string title,.slice Af nf cf] 37)).alloc (.map #[] 0)) 142 #[.map (some (w.heap.size+1))]
  rw [World.size_alloc,World.size_alloc] at this
  exact this
 have UP:=Lib.hid up
 have HA:=Lib.hid hA
 have HN:=Lib.hid hn
 have HSZ:=Lib.hid hsz
 have HNM:=Lib.hid hnm
 have K0:=Lib.hid (And.intro hb3 (And.intro hbf (And.intro hbp hsn)))
 clear up hA hn hsz hnm hb3 hbf hsn hbp hv hF
 go_enter Tryz.func53,Tryz.ntmps53
 go_wp2_with fail
 obtain ⟨mb,hmb⟩:∃ mb,w.heap.size+1=mb:=⟨_,rfl⟩
 rw [hmb] at K0
 try rw [hmb]
 obtain ⟨p5,hp5⟩:∃ p,mb+1=p:=⟨_,rfl⟩
 rw [hp5] at K0
 try rw [hp5]
 have hord:w.heap.size < mb ∧ mb < p5:=by omega
 have HORD:=Lib.hid hord
 clear hmb hp5 hord hmm
 go_loopw [13] (fun v13 wr => ∃ i:Nat,i ≤ n ∧ v13=.int .i64 (i:Int) ∧ (∀ j,j < i → okA L (seenX (T.take j)) (ansAt T j)=true) ∧ Below w.heap.size w wr ∧ Blk wr w.heap.size 37 #[.string title,.slice Af nf cf] ∧ Blk wr p5 142 #[.map (some mb)] ∧ SeenM wr mb i (seenX (T.take i))) (fun v13 _ => n - (intOf v13).toNat)
 case atStart => exact ⟨0,by omega,rfl,fun j hj => absurd hj (Nat.not_lt_zero _),K0.out.1,K0.out.2.1,K0.out.2.2.1,K0.out.2.2.2⟩
 case round =>
  obtain ⟨i,hi,rfl,hne,hbr,hbk,hbq,hsm⟩:=hrel
  rename World => wr
  have HE:=Lib.hid hne
  have HBR:=Lib.hid hbr
  clear hne K0
  by_cases hlt:i < n
  ·obtain ⟨b,off,rfl,hS,hcc⟩:=HA.out (by omega)
   obtain ⟨x0,x1,x2⟩:=hcc i hlt
   obtain ⟨hrs,hrt⟩:=HSZ.out i (by have:=HN.out; omega)
   obtain ⟨g,hg⟩:∃ g,ansAt T i=g:=⟨_,rfl⟩
   rw [hg] at x0 x1 x2 hrs hrt
   obtain ⟨gf,gt,gn⟩:=g
   have e0:=(HBR.out.cell (p:=⟨b,off+i*3,none⟩) hS).trans x0
   have e1:=(HBR.out.cell (p:=⟨b,off+i*3+1,none⟩) hS).trans x1
   have e2:=(HBR.out.cell (p:=⟨b,off+i*3+2,none⟩) hS).trans x2
   have zi:(i:Int) < (n:Int):=by omega
   have z0:(0:Int) ≤ (i:Int):=by omega
   have hbv:=hbr.alloc hbr.size (.cells #[.string gf,.string gt,.int .i64 gn] 50)
   have hbk2:=hbk.alloc (.cells #[.string gf,.string gt,.int .i64 gn] 50)
   have hbq2:=hbq.alloc (.cells #[.string gf,.string gt,.int .i64 gn] 50)
   have hsm2:=hsm.alloc (.cells #[.string gf,.string gt,.int .i64 gn] 50)
   have hp7:=Blk.new wr 50 #[.string gf,.string gt,.int .i64 gn]
   have hlw:=hsm.lt
   clear x0 x1 x2 hcc hbr hbk hbq hsm
   go_upto_region 5 with fail
   generalize wr.alloc (.cells #[.string gf,.string gt,.int .i64 gn] 50)=wv at hbv hbk2 hbq2 hsm2 hp7 ⊢
   obtain ⟨p7,hq7⟩:∃ p,wr.heap.size=p:=⟨_,rfl⟩
   rw [hq7] at hp7
   try rw [hq7]
   clear hq7 e0 e1 e2
   have c0:=(hbk2.cell 0).trans (show _=some (Value.string title) from rfl)
   have c1:=(hbk2.cell 1).trans (show _=some (Value.slice Af nf cf) from rfl)
   have d0:=(hp7.cell 0).trans (show _=some (Value.string gf) from rfl)
   have hfn:=f_Find title gf (.slice Af nf cf) L (· < wv.heap.size) wv (UP.out _ hbv).2 (fun b h => h) hl
   have HFN:=Lib.hid hfn
   have KV:=Lib.hid (And.intro hbv (And.intro hbk2 (And.intro hbq2 (And.intro hsm2 hp7))))
   clear hfn hbv hbk2 hbq2 hsm2 hp7
   go_wp2_with fail
   refine HFN.out.mono ?_
   rintro e w1 ⟨rfl,hb1⟩
   have hold:=KV.out.1.trans (hb1.mono KV.out.1.size)
   have hbk3:=KV.out.2.1.below' hb1 KV.out.2.1.lt
   have hbq3:=KV.out.2.2.1.below' hb1 KV.out.2.2.1.lt
   have hsm3:=KV.out.2.2.2.1.below hb1
   have hp8:=KV.out.2.2.2.2.below' hb1 KV.out.2.2.2.2.lt
   obtain ⟨sn,hsn⟩:∃ b,hasT (seenX (T.take i)) gf=b:=⟨_,rfl⟩
   have lim:∀ W,Below w1.heap.size w1 W → W.cell? ⟨p7,0,none⟩=some (.string gf) ∧ W.cell? ⟨p7,1,none⟩=some (.string gt) ∧ W.cell? ⟨p7,2,none⟩=some (.int .i64 gn) ∧ W.cell? ⟨p5,0,none⟩=some (.map (some mb)) ∧ W.cell? ⟨w.heap.size,1,none⟩=some (.slice Af nf cf) ∧ (Instr.lookup 142 (.map (some mb)) (.string gf) false).run Tryz.prog W=.ok (.bool sn) W:=fun W hW => ⟨((hp8.below' hW hp8.lt).cell 0).trans rfl,((hp8.below' hW hp8.lt).cell 1).trans rfl,((hp8.below' hW hp8.lt).cell 2).trans rfl,((hbq3.below' hW hbq3.lt).cell 0).trans rfl,((hbk3.below' hW hbk3.lt).cell 1).trans rfl,by rw [← hsn]; exact (hsm3.below hW).look gf (by unfold maxLen; omega)⟩
   have snw:∀ W,Below w1.heap.size w1 W → SeenM W mb i (seenX (T.take i)):=fun W hW => hsm3.below hW
   have fin:∀ W,Below w1.heap.size w1 W → ∀ wq,W.grownBy wq (some mb) → Below w.heap.size w wq ∧ Blk wq w.heap.size 37 #[.string title,.slice Af nf cf] ∧ Blk wq p5 142 #[.map (some mb)]:=fun W hW wq hq =>
    ⟨(hold.trans (hW.mono hold.size)).grown hq (by have:=hold.size; have:=hW.size; omega) (fun g hg => by injection hg; have:=HORD.out; omega),
     (hq.block _ (hbk3.below' hW hbk3.lt).lt (by intro e; injection e; have:=HORD.out; omega)).trans (hbk3.below' hW hbk3.lt),(hq.block _ (hbq3.below' hW hbq3.lt).lt (by intro e; injection e; have:=HORD.out; omega)).trans (hbq3.below' hW hbq3.lt)⟩
   have LIM:=Lib.hid lim
   have SNW:=Lib.hid snw
   have FIN:=Lib.hid fin
   have HOLD:=Lib.hid (show Below w.heap.size w w1 from hold)
   have K_0:Hid (Below w1.heap.size w1 w1.drew):=Lib.hid (Below.refl _ _).drew
   clear lim snw fin hold hbk3 hbq3 hsm3 hp8 hb1 KV c0 c1 d0 HFN hlw
   cases hf:fstF L gf with
   | none =>
    go_upto_region 6 with fail
    have HOK:Hid (okA L (seenX (T.take i)) (ansAt T i)=false):=Lib.hid (by rw [hg]; unfold okA; simp only [hf])
    refine wp_region_held_drew (S:=fun W => W.cell? ⟨p7,0,none⟩=some (.string gf) ∧ W.cell? ⟨p7,1,none⟩=some (.string gt) ∧ W.cell? ⟨p7,2,none⟩=some (.int .i64 gn) ∧ W.cell? ⟨p5,0,none⟩=some (.map (some mb)) ∧ W.cell? ⟨w.heap.size,1,none⟩=some (.slice Af nf cf) ∧ (Instr.lookup 142 (.map (some mb)) (.string gf) false).run Tryz.prog W=.ok (.bool sn) W) (by kernel_rfl) (LIM.out _ K_0.out) (fun hHeld => ?_)
    refine t1 0 rfl ?_
    try simp only [pt]
    refine t1 1 rfl ?_
    try simp only [pt]
    refine t1 2 rfl ?_
    try simp only [pt]
    refine t0 3 rfl ?_
    try simp only [pt]
    refine t0 4 rfl ?_
    try simp only [pt]
    refine t0 5 rfl ?_
    try simp only [pt]
    refine t0 6 rfl ?_
    try simp only [pt]
    refine t1 7 rfl ?_
    try simp only [pt]
    refine t1 8 rfl ?_
    try simp only [pt]
    refine t0 9 rfl ?_
    try simp only [pt]
    refine t0 10 rfl ?_
    try simp only [pt]
    refine t0 11 rfl ?_
    try simp only [pt]
    refine t0 12 rfl ?_
    try simp only [pt]
    refine t0 13 rfl ?_
    try simp only [pt]
    refine t0 14 rfl ?_
    try simp only [pt]
    refine t0 15 rfl ?_
    try simp only [pt]
    refine t0 16 rfl ?_
    try simp only [pt]
    refine t1 17 rfl ?_
    try simp only [pt]
    refine wpAnyH_done (by kernel_rfl) ?_ _
    have hno:ansF L T=false:=ansF_no (by have:=HN.out; omega) HOK.out
    have HNO:=Lib.hid hno
    clear hno
    go_wp2_with fail
    go_ret
    exact ⟨by rw [HNO.out]; rfl,HOLD.out.trans (K_0.out.mono HOLD.out.size)⟩
   | some k =>
    obtain ⟨hk,hkn⟩:=fstF_lt hf
    cases sn
    ·have hLM:=(UP.out _ HOLD.out).2
     obtain ⟨Af',nf',cf',hAf',hnf',-,hcf⟩:=id hLM
     injection hAf' with q1 q2 q3
     subst q1 q2 q3
     obtain ⟨fb,fo,rfl,hSf,hcl⟩:=hcf (by omega)
     obtain ⟨y0,y1,y2,y3,y4,uo,y5,hto⟩:=hcl k (by omega)
     have hop:=(HNM.out _ (fldAt_mem hk)).2
     obtain ⟨Ao,no,co,rfl,-⟩:=id hto
     obtain ⟨f,hff⟩:∃ f,fldAt L k=f:=⟨_,rfl⟩
     rw [hff] at y0 y1 y2 y3 y4 hto hop hkn
     have lim2:∀ W,Below w1.heap.size w1 W → W.cell? ⟨p7,0,none⟩=some (.string gf) ∧ W.cell? ⟨p7,1,none⟩=some (.string gt) ∧ W.cell? ⟨p7,2,none⟩=some (.int .i64 gn) ∧ W.cell? ⟨p5,0,none⟩=some (.map (some mb)) ∧ W.cell? ⟨w.heap.size,1,none⟩=some (.slice (some ⟨fb,fo,none⟩) nf cf) ∧ (Instr.lookup 142 (.map (some mb)) (.string gf) false).run Tryz.prog W=.ok (.bool false) W ∧ W.cell? ⟨fb,fo+k*6,none⟩=some (.string f.name) ∧ W.cell? ⟨fb,fo+k*6+1,none⟩=some (.int .i64 f.kind) ∧ W.cell? ⟨fb,fo+k*6+2,none⟩=some (.bool f.need) ∧ W.cell? ⟨fb,fo+k*6+3,none⟩=some (.int .i64 f.least) ∧ W.cell? ⟨fb,fo+k*6+4,none⟩=some (.int .i64 f.most) ∧ W.cell? ⟨fb,fo+k*6+5,none⟩=some (.slice Ao no co):=fun W hW => by
      obtain ⟨a0,a1,a2,a3,a4,a5⟩:=LIM.out W hW
      exact ⟨a0,a1,a2,a3,a4,a5,(hW.cell (p:=⟨fb,fo+k*6,none⟩) hSf).trans y0,(hW.cell (p:=⟨fb,fo+k*6+1,none⟩) hSf).trans y1,(hW.cell (p:=⟨fb,fo+k*6+2,none⟩) hSf).trans y2,(hW.cell (p:=⟨fb,fo+k*6+3,none⟩) hSf).trans y3,(hW.cell (p:=⟨fb,fo+k*6+4,none⟩) hSf).trans y4,(hW.cell (p:=⟨fb,fo+k*6+5,none⟩) hSf).trans y5⟩
     have fit:∀ W,Below w1.heap.size w1 W → Calls Tryz.prog 43 #[.agg #[.string f.name,.int .i64 f.kind,.bool f.need,.int .i64 f.least,.int .i64 f.most,.slice Ao no co],.agg #[.string gf,.string gt,.int .i64 gn]] W (BoolBel (fitsF f ⟨gf,gt,gn⟩) W):=fun W hW => s_fits f ⟨gf,gt,gn⟩ (.slice Ao no co) (· < W.heap.size) W ((hto.keep fun b hb => hW.block b hb).mono fun b hb => Nat.lt_of_lt_of_le hb hW.size) (fun b hb => hb) hop hkn hrt
     have hspec:okA L (seenX (T.take i)) ⟨gf,gt,gn⟩=fitsF f ⟨gf,gt,gn⟩:=by unfold okA; simp only [hf,hsn,hff]; rfl
     have LIM2:=Lib.hid lim2
     have FIT:=Lib.hid fit
     have zk:(k:Int) < (nf:Int):=by omega
     have zk0:(0:Int) ≤ (k:Int):=by omega
     clear lim2 fit hto y0 y1 y2 y3 y4 y5 hop hkn hff hcl hcf hLM hSf hnf'
     cases hfi:fitsF f ⟨gf,gt,gn⟩
     ·rw [hfi] at FIT hspec
      go_upto_region 6 with fail
      have HOK:Hid (okA L (seenX (T.take i)) (ansAt T i)=false):=Lib.hid (by rw [hg]; exact hspec)
      refine wp_region_held_drew (S:=fun W => W.cell? ⟨p7,0,none⟩=some (.string gf) ∧ W.cell? ⟨p7,1,none⟩=some (.string gt) ∧ W.cell? ⟨p7,2,none⟩=some (.int .i64 gn) ∧ W.cell? ⟨p5,0,none⟩=some (.map (some mb)) ∧ W.cell? ⟨w.heap.size,1,none⟩=some (.slice (some ⟨fb,fo,none⟩) nf cf) ∧ (Instr.lookup 142 (.map (some mb)) (.string gf) false).run Tryz.prog W=.ok (.bool false) W ∧ W.cell? ⟨fb,fo+k*6,none⟩=some (.string f.name) ∧ W.cell? ⟨fb,fo+k*6+1,none⟩=some (.int .i64 f.kind) ∧ W.cell? ⟨fb,fo+k*6+2,none⟩=some (.bool f.need) ∧ W.cell? ⟨fb,fo+k*6+3,none⟩=some (.int .i64 f.least) ∧ W.cell? ⟨fb,fo+k*6+4,none⟩=some (.int .i64 f.most) ∧ W.cell? ⟨fb,fo+k*6+5,none⟩=some (.slice Ao no co)) (by kernel_rfl) (LIM2.out _ K_0.out) (fun hHeld => ?_)
      refine t1 0 rfl ?_
      try simp only [pt]
      refine t1 1 rfl ?_
      try simp only [pt]
      refine t1 2 rfl ?_
      try simp only [pt]
      refine t1 3 rfl ?_
      try simp only [pt]
      refine t1 4 rfl ?_
      try simp only [pt]
      refine t1 5 rfl ?_
      try simp only [pt]
      refine t1 6 rfl ?_
      try simp only [pt]
      refine t1 7 rfl ?_
      try simp only [pt]
      refine t1 8 rfl ?_
      try simp only [pt]
      refine t1 9 rfl ?_
      try simp only [pt]
      refine t1 10 rfl ?_
      try simp only [pt]
      refine t1 11 rfl ?_
      try simp only [pt]
      refine t1 12 rfl ?_
      try simp only [pt]
      refine t1 13 rfl ?_
      try simp only [pt]
      refine t1 14 rfl ?_
      try simp only [pt]
      refine wpAnyH_ready (rs:=[15]) (by kernel_rfl) (by simp) ?_
      refine AllReadyH.cons rfl (fun K hK => ?_) AllReadyH.nil
      go_simp
      refine (FIT.out _ K_0.out).mono ?_
      rintro e w2 ⟨rfl,hb2⟩
      have K_1:=Lib.hid (K_0.out.trans (hb2.mono K_0.out.size))
      clear hb2
      refine hK.out _ _ (LIM2.out _ K_1.out) (fun hHeld => ?_)
      clear hK K
      try simp only [pt]
      refine t1 16 rfl ?_
      try simp only [pt]
      refine t1 17 rfl ?_
      try simp only [pt]
      refine wpAnyH_done (by kernel_rfl) ?_ _
      have hno:ansF L T=false:=ansF_no (by have:=HN.out; omega) HOK.out
      have HNO:=Lib.hid hno
      clear hno
      go_wp2_with fail
      go_ret
      exact ⟨by rw [HNO.out]; rfl,HOLD.out.trans (K_1.out.mono HOLD.out.size)⟩
     ·rw [hfi] at FIT hspec
      go_upto_region 6 with fail
      have HOK:Hid (okA L (seenX (T.take i)) (ansAt T i)=true):=Lib.hid (by rw [hg]; exact hspec)
      refine wp_region_held_drew (S:=fun W => W.cell? ⟨p7,0,none⟩=some (.string gf) ∧ W.cell? ⟨p7,1,none⟩=some (.string gt) ∧ W.cell? ⟨p7,2,none⟩=some (.int .i64 gn) ∧ W.cell? ⟨p5,0,none⟩=some (.map (some mb)) ∧ W.cell? ⟨w.heap.size,1,none⟩=some (.slice (some ⟨fb,fo,none⟩) nf cf) ∧ (Instr.lookup 142 (.map (some mb)) (.string gf) false).run Tryz.prog W=.ok (.bool false) W ∧ W.cell? ⟨fb,fo+k*6,none⟩=some (.string f.name) ∧ W.cell? ⟨fb,fo+k*6+1,none⟩=some (.int .i64 f.kind) ∧ W.cell? ⟨fb,fo+k*6+2,none⟩=some (.bool f.need) ∧ W.cell? ⟨fb,fo+k*6+3,none⟩=some (.int .i64 f.least) ∧ W.cell? ⟨fb,fo+k*6+4,none⟩=some (.int .i64 f.most) ∧ W.cell? ⟨fb,fo+k*6+5,none⟩=some (.slice Ao no co)) (by kernel_rfl) (LIM2.out _ K_0.out) (fun hHeld => ?_)
      refine t1 0 rfl ?_
      try simp only [pt]
      refine t1 1 rfl ?_
      try simp only [pt]
      refine t1 2 rfl ?_
      try simp only [pt]
      refine t1 3 rfl ?_
      try simp only [pt]
      refine t1 4 rfl ?_
      try simp only [pt]
      refine t1 5 rfl ?_
      try simp only [pt]
      refine t1 6 rfl ?_
      try simp only [pt]
      refine t1 7 rfl ?_
      try simp only [pt]
      refine t1 8 rfl ?_
      try simp only [pt]
      refine t1 9 rfl ?_
      try simp only [pt]
      refine t1 10 rfl ?_
      try simp only [pt]
      refine t1 11 rfl ?_
      try simp only [pt]
      refine t1 12 rfl ?_
      try simp only [pt]
      refine t1 13 rfl ?_
      try simp only [pt]
      refine t1 14 rfl ?_
      try simp only [pt]
      refine wpAnyH_ready (rs:=[15]) (by kernel_rfl) (by simp) ?_
      refine AllReadyH.cons rfl (fun K hK => ?_) AllReadyH.nil
      go_simp
      refine (FIT.out _ K_0.out).mono ?_
      rintro e w2 ⟨rfl,hb2⟩
      have K_1:=Lib.hid (K_0.out.trans (hb2.mono K_0.out.size))
      clear hb2
      refine hK.out _ _ (LIM2.out _ K_1.out) (fun hHeld => ?_)
      clear hK K
      try simp only [pt]
      refine t1 16 rfl ?_
      try simp only [pt]
      refine t1 17 rfl ?_
      try simp only [pt]
      refine wpAnyH_done (by kernel_rfl) ?_ _
      have hz:=SNW.out _ K_1.out
      have c0:=(LIM2.out _ K_1.out).1
      have c5:=(LIM2.out _ K_1.out).2.2.2.1
      obtain ⟨wq,hrun,hsq,hgq⟩:=hz.put (by unfold maxLen; omega) gf (by unfold maxLen; omega)
      have hfin:=FIN.out _ K_1.out wq hgq
      have HFI:=Lib.hid hfin
      have HSQ:=Lib.hid hsq
      clear hfin hsq hgq hz
      go_wp2_with fail
      go_roundw
      case measure => simp [intOf]; omega
      case rel => exact ⟨i+1,by omega,by go_num,all_next' (P:=fun j => okA L (seenX (T.take j)) (ansAt T j)=true) HE.out HOK.out,HFI.out.1,HFI.out.2.1,HFI.out.2.2,(by rw [seenX_succ (by have:=HN.out; omega),hg]; exact HSQ.out)⟩
    ·go_upto_region 6 with fail
     have HOK:Hid (okA L (seenX (T.take i)) (ansAt T i)=false):=Lib.hid (by rw [hg]; unfold okA; simp only [hf,hsn]; rfl)
     refine wp_region_held_drew (S:=fun W => W.cell? ⟨p7,0,none⟩=some (.string gf) ∧ W.cell? ⟨p7,1,none⟩=some (.string gt) ∧ W.cell? ⟨p7,2,none⟩=some (.int .i64 gn) ∧ W.cell? ⟨p5,0,none⟩=some (.map (some mb)) ∧ W.cell? ⟨w.heap.size,1,none⟩=some (.slice Af nf cf) ∧ (Instr.lookup 142 (.map (some mb)) (.string gf) false).run Tryz.prog W=.ok (.bool true) W) (by kernel_rfl) (LIM.out _ K_0.out) (fun hHeld => ?_)
     refine t1 0 rfl ?_
     try simp only [pt]
     refine t1 1 rfl ?_
     try simp only [pt]
     refine t1 2 rfl ?_
     try simp only [pt]
     refine t1 3 rfl ?_
     try simp only [pt]
     refine t1 4 rfl ?_
     try simp only [pt]
     refine t1 5 rfl ?_
     try simp only [pt]
     refine t1 6 rfl ?_
     try simp only [pt]
     refine t1 7 rfl ?_
     try simp only [pt]
     refine t1 8 rfl ?_
     try simp only [pt]
     refine t0 9 rfl ?_
     try simp only [pt]
     refine t0 10 rfl ?_
     try simp only [pt]
     refine t0 11 rfl ?_
     try simp only [pt]
     refine t0 12 rfl ?_
     try simp only [pt]
     refine t0 13 rfl ?_
     try simp only [pt]
     refine t0 14 rfl ?_
     try simp only [pt]
     refine t0 15 rfl ?_
     try simp only [pt]
     refine t0 16 rfl ?_
     try simp only [pt]
     refine t1 17 rfl ?_
     try simp only [pt]
     refine wpAnyH_done (by kernel_rfl) ?_ _
     have hno:ansF L T=false:=ansF_no (by have:=HN.out; omega) HOK.out
     have HNO:=Lib.hid hno
     clear hno
     go_wp2_with fail
     go_ret
     exact ⟨by rw [HNO.out]; rfl,HOLD.out.trans (K_0.out.mono HOLD.out.size)⟩
  ·have zi:¬ (i:Int) < (n:Int):=by omega
   obtain rfl:i=n:=by omega
   have hall:ansF L T = !L.any (lackF (seenX T)):=ansF_all (fun j hj => HE.out j (by have:=HN.out; omega))
   have htk:T.take i=T:=List.take_of_length_le (by have:=HN.out; omega)
   rw [htk] at hsm
   have c1:=(hbk.cell 1).trans (show _=some (Value.slice Af nf cf) from rfl)
   have hnd:=c_need (.slice Af nf cf) L p5 mb i (seenX T) wr (UP.out _ hbr).2 hl (fun f hf => (HNM.out f hf).1) hbq hsm
   have HND:=Lib.hid hnd
   have HALL:=Lib.hid hall
   clear hall htk hsm hbk hbq hbr hnd
   go_wp2_with fail
   refine HND.out.mono ?_
   rintro e w1 ⟨rfl,hb1⟩
   have HB1:=Lib.hid (HBR.out.trans (hb1.mono HBR.out.size))
   clear hb1
   cases hany:L.any (lackF (seenX T))
   all_goals
    go_wp2_with fail
    go_ret
    exact ⟨by rw [HALL.out,hany]; rfl,HB1.out⟩
def respB : ByteArray := ⟨#[114,101,115,112,111,110,100,101,110,116]⟩
def deptB : ByteArray := ⟨#[100,101,112,97,114,116,109,101,110,116]⟩
def dayB : ByteArray := ⟨#[100,97,121]⟩
def seesS (L : List Shw) (r f : ByteArray) : Bool := L.any fun x => (x.field.toList == f.toList) && (x.role.toList == r.toList)
theorem sees_iff (L : List Shw) (r f : ByteArray) : seesS L r f = true ↔ (⟨f,r⟩ : Shw) ∈ L := by
 unfold seesS
 rw [List.any_eq_true]
 constructor
 ·rintro ⟨x,hx,h⟩
  rw [Bool.and_eq_true] at h
  rw [bytes_of h.1,bytes_of h.2]
  exact hx
 ·intro h
  exact ⟨_,h,by simp⟩
theorem sees_bool {L : List Shw} {r f : ByteArray} {b : Bool} (h : b = true ↔ (⟨f,r⟩ : Shw) ∈ L) : b = seesS L r f := by
 rw [← sees_iff] at h
 cases b <;> cases hs:seesS L r f <;> simp_all
end Go.Proofs.YtgdngfdeeadlnaaGreatDoor

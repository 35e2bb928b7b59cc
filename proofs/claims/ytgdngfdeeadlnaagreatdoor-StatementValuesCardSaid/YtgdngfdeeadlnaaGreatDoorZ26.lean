/- Contract: statement.Read. -/
import Derived.Test.YtgdngfdeeadlnaaGreatDoorZ05
import Derived.Test.YtgdngfdeeadlnaaGreatDoorZ24
import Derived.Test.YtgdngfdeeadlnaaGreatDoorZ25
import Derived.Test.YtgdngfdeeadlnaaGreatDoorZ11
set_option linter.unusedVariables false
set_option linter.unusedSimpArgs false
namespace Go.Proofs.YtgdngfdeeadlnaaGreatDoor
open Go.RowKit Num
def ReadQ (b : ByteArray) (w : World) (e : Ending) (w' : World) : Prop := ∃ s z Aa na ca Ac nc cc As ns cs,e = .returned (.tuple #[.agg #[.string s.resp,.int .i64 s.dep,.int .i64 s.day,.slice Aa na ca,.slice Ac nc cc,.slice As ns cs],.int .i64 z]) ∧ StmAt w' (fun q => w.heap.size ≤ q ∧ q < w'.heap.size) (.slice Aa na ca) (.slice Ac nc cc) (.slice As ns cs) s ∧ Below w.heap.size w w' ∧
 ((b.size ≤ 16384 ∧ rsOk b ∧ s=rsS b ∧ z=0) ∨ (¬ (b.size ≤ 16384 ∧ rsOk b) ∧ s=⟨⟨#[]⟩,0,0,[],[],[]⟩ ∧ z=4))
theorem rs_all {b x1 x5 : ByteArray} {x2 x3 n : Int} {s3 s4 s5 s6 : RS} {l4 : List Ans} {l6 : List Shw} {L : List Trm} (h1 : (rs1 b).1 = x1) (h2 : (rs2 b).1 = x2) (h3 : (rs3 b).1 = x3) (hs3 : (rs3 b).2 = s3) (h4 : (rdTimes rdAns s3).1 = l4) (hs4 : (rdTimes rdAns s3).2 = s4) (h5 : (rdT s4).1 = x5) (hs5 : (rdT s4).2 = s5)
  (hL:(parseC (blOf x5)).1=L) (hn:(parseC (blOf x5)).2.2=n) (h6:(rdTimes rdShw s5).1=l6) (hs6:(rdTimes rdShw s5).2=s6):rsS b=⟨x1,x2,x3,l4,L,l6⟩ ∧ (rsOk b ↔ s6.bad=false ∧ n=0 ∧ bytZ ⟨x1,x2,x3,l4,L,l6⟩=0 ∧ bytS ⟨x1,x2,x3,l4,L,l6⟩=b):=by
 subst h1 h2 h3 hs3 h4 hs4 h5 hs5 hL hn h6 hs6
 exact ⟨rfl,Iff.rfl⟩
theorem rs5_size (b : ByteArray) (hb : b.size ≤ 16384) : (rs5 b).1.size ≤ 16384 := by
 have h0:(⟨blOf b,false⟩:RS).rest.length ≤ 16384:=by show (blOf b).length ≤ _; rw [blOf_len]; exact hb
 have h1:(rs1 b).2.rest.length ≤ 16384:=Nat.le_trans (rdT_size ⟨blOf b,false⟩).2 h0
 have h2:(rs2 b).2.rest.length ≤ 16384:=Nat.le_trans (rdI_rest _) h1
 have h3:(rs3 b).2.rest.length ≤ 16384:=Nat.le_trans (rdI_rest _) h2
 obtain ⟨a1,a2,a3⟩:=rdTimes_ok (N:=16384) (fun s h => rdAns_ok s h) (rs3 b).2 h3
 exact Nat.le_trans (rdT_size _).1 a3
theorem RSt.fin0 {w W W2 : World} {b : ByteArray} {tb : Nat} {s : RS} {st : Stm} {va vc vs : Value} (h : RSt w W b tb s st va vc vs)
  (hW2:W2=(((((W.setCell ⟨w.heap.size,0,none⟩ (.string ⟨#[]⟩)).setCell ⟨w.heap.size,1,none⟩ (.int .i64 0)).setCell ⟨w.heap.size,2,none⟩ (.int .i64 0)).setCell ⟨w.heap.size,3,none⟩ (.slice none 0 0)).setCell ⟨w.heap.size,4,none⟩ (.slice none 0 0)).setCell ⟨w.heap.size,5,none⟩ (.slice none 0 0)) :
   Below w.heap.size w W2 ∧ Blk W2 w.heap.size 29 stmZ:=by
 have hc:Chg W W2 (fun q => q=w.heap.size):=by
  rw [hW2]
  exact Chg.setCell (Chg.setCell (Chg.setCell (Chg.setCell (Chg.setCell (Chg.setCell (Chg.refl W (fun q => q=w.heap.size)) ⟨w.heap.size,0,none⟩ (fun _ => rfl) _) ⟨w.heap.size,1,none⟩ (fun _ => rfl) _) ⟨w.heap.size,2,none⟩ (fun _ => rfl) _) ⟨w.heap.size,3,none⟩ (fun _ => rfl) _) ⟨w.heap.size,4,none⟩ (fun _ => rfl) _) ⟨w.heap.size,5,none⟩ (fun _ => rfl) _
 have hb:Blk W2 w.heap.size 29 stmZ:=by
  rw [hW2]
  exact (((((h.res.set_ 0 _).set_ 1 _).set_ 2 _).set_ 3 _).set_ 4 _).set_ 5 _
 exact ⟨⟨hc.os.trans h.old.os,hc.tape.trans h.old.tape,hc.output.trans h.old.output,Nat.le_trans h.old.size hc.size,fun q hq => (hc.block q (Nat.lt_of_lt_of_le hq h.old.size) (by omega)).trans (h.old.block q hq)⟩,hb⟩
theorem readQ_bad {b : ByteArray} {w w' : World} (hn : ¬ (b.size ≤ 16384 ∧ rsOk b)) (hB : Below w.heap.size w w') : ReadQ b w (.returned (.tuple #[.agg #[.string ⟨#[]⟩,.int .i64 0,.int .i64 0,.slice none 0 0,.slice none 0 0,.slice none 0 0],.int .i64 4])) w' :=
 ⟨⟨⟨#[]⟩,0,0,[],[],[]⟩,4,none,0,0,none,0,0,none,0,0,rfl,bare_at _,hB,.inr ⟨hn,rfl,rfl⟩⟩
set_option maxRecDepth 100000 in
set_option maxHeartbeats 400000 in
theorem s_Read_big (b : ByteArray) (w : World) (hb : b.size ≤ 1000000) (hbig : 16384 < b.size) : Calls Tryz.prog 30 #[.string b] w (ReadQ b w) := by
 have z0:(16384:Int) < (b.size:Int):=by omega
 have hR:Blk (w.alloc (.cells #[.string ⟨#[]⟩,.int .i64 0,.int .i64 0,.slice none 0 0,.slice none 0 0,.slice none 0 0] 29)) w.heap.size 29 #[.string ⟨#[]⟩,.int .i64 0,.int .i64 0,.slice none 0 0,.slice none 0 0,.slice none 0 0]:=Blk.new w _ _
 have hbad:=readQ_bad (b:=b) (w:=w) (fun h => by omega) (below_al' w (.cells #[.string ⟨#[]⟩,.int .i64 0,.int .i64 0,.slice none 0 0,.slice none 0 0,.slice none 0 0] 29))
 go_enter Tryz.func30,Tryz.ntmps30
 go_wp2_with fail
 refine bodyPost_ret (v:=.tuple #[.agg #[.string ⟨#[]⟩,.int .i64 0,.int .i64 0,.slice none 0 0,.slice none 0 0,.slice none 0 0],.int .i64 4]) ?_ rfl hbad
 simp [results,Tryz.results30,go_sem,(hR.cell 0).trans (show _=some (Value.string ⟨#[]⟩) from rfl),(hR.cell 1).trans (show _=some (Value.int .i64 0) from rfl),(hR.cell 2).trans (show _=some (Value.int .i64 0) from rfl),(hR.cell 3).trans (show _=some (Value.slice none 0 0) from rfl),(hR.cell 4).trans (show _=some (Value.slice none 0 0) from rfl),(hR.cell 5).trans (show _=some (Value.slice none 0 0) from rfl)]
set_option maxRecDepth 100000 in
set_option maxHeartbeats 8000000 in
theorem s_Read (b : ByteArray) (w : World) (hb : b.size ≤ 1000000) (hl : ParOk w) : Calls Tryz.prog 30 #[.string b] w (ReadQ b w) := by
 by_cases hbig:16384 < b.size
 ·exact s_Read_big b w hb hbig
 ·have z0:¬ (16384:Int) < (b.size:Int):=by omega
  have hmx:Tryz.prog.follows .mixedOrders=true:=by kernel_rfl
  have hb5:=rs5_size b (by omega)
  obtain ⟨x1,hx1⟩:∃ x,(rs1 b).1=x:=⟨_,rfl⟩
  obtain ⟨s1,hs1⟩:∃ x,(rs1 b).2=x:=⟨_,rfl⟩
  obtain ⟨x2,hx2⟩:∃ x,(rs2 b).1=x:=⟨_,rfl⟩
  obtain ⟨s2,hs2⟩:∃ x,(rs2 b).2=x:=⟨_,rfl⟩
  obtain ⟨x3,hx3⟩:∃ x,(rs3 b).1=x:=⟨_,rfl⟩
  obtain ⟨s3,hs3⟩:∃ x,(rs3 b).2=x:=⟨_,rfl⟩
  obtain ⟨l4,hl4⟩:∃ x,(rdTimes rdAns s3).1=x:=⟨_,rfl⟩
  obtain ⟨s4,hs4⟩:∃ x,(rdTimes rdAns s3).2=x:=⟨_,rfl⟩
  obtain ⟨x5,hx5⟩:∃ x,(rdT s4).1=x:=⟨_,rfl⟩
  obtain ⟨s5,hs5⟩:∃ x,(rdT s4).2=x:=⟨_,rfl⟩
  obtain ⟨L,hL⟩:∃ x,(parseC (blOf x5)).1=x:=⟨_,rfl⟩
  obtain ⟨pz,hpz⟩:∃ x,(parseC (blOf x5)).2.1=x:=⟨_,rfl⟩
  obtain ⟨n,hn⟩:∃ x,(parseC (blOf x5)).2.2=x:=⟨_,rfl⟩
  obtain ⟨l6,hl6⟩:∃ x,(rdTimes rdShw s5).1=x:=⟨_,rfl⟩
  obtain ⟨s6,hs6⟩:∃ x,(rdTimes rdShw s5).2=x:=⟨_,rfl⟩
  obtain ⟨hall,hokk⟩:=rs_all hx1 hx2 hx3 hs3 hl4 hs4 hx5 hs5 hL hn hl6 hs6
  have hsm:StmOk ⟨x1,x2,x3,l4,L,l6⟩:=hall ▸ rsS_ok b (by omega)
  have h50:x5.size ≤ 16384:=by
   have e:(rs5 b).1=x5:=by rw [← hx5,← hs4,← hs3]; rfl
   rw [← e]; exact hb5
  have h1:=fun (o:Option Nat) (W:World) (h:RSo w W b o ⟨blOf b,false⟩) => RSo.text hb x1 s1 hx1 hs1 W h
  have h2:=fun (o:Option Nat) (W:World) (h:RSo w W b o s1) => RSo.num hb x2 s2 (by rw [← hs1]; exact hx2) (by rw [← hs1]; exact hs2) W h
  have h3:=fun (o:Option Nat) (W:World) (h:RSo w W b o s2) => RSo.num hb x3 s3 (by rw [← hs2]; exact hx3) (by rw [← hs2]; exact hs3) W h
  have h4:=fun (tb:Nat) (W:World) (h:RSt w W b tb s3 ⟨x1,x2,x3,[],[],[]⟩ (.slice none 0 0) (.slice none 0 0) (.slice none 0 0)) => r_times b (w.heap.size+1) rdAns 62 #[.pointer (some ⟨tb,0,none⟩),.pointer (some ⟨w.heap.size+2,0,none⟩)] (fun l s W => ∃ va,RSt w W b tb s ⟨x1,x2,x3,l,[],[]⟩ va (.slice none 0 0) (.slice none 0 0)) hb (fun _ _ => rfl) (fun l s W ⟨va,h⟩ => h.rd) (fun l s s' W W' ⟨va,h⟩ hr hg => ⟨va,h.call hr hg⟩) (fun l s W hlen ⟨va,h⟩ => rd_item1 W hb (by show l.length ≤ 1000; omega) h) s3 W ⟨_,h⟩
  rw [hl4,hs4] at h4
  have h5:=fun (tb:Nat) (va:Value) (W:World) (h:RSt w W b tb s4 ⟨x1,x2,x3,l4,[],[]⟩ va (.slice none 0 0) (.slice none 0 0)) => rs_text hb s4 x5 s5 hx5 hs5 W h
  have hpr:=fun (W:World) (h:Below w.heap.size w W) => f_Parse x5 W (by omega) (hl.later h)
  rw [hL,hpz,hn] at hpr
  have h6:=fun (tb:Nat) (va vc:Value) (W:World) (h:RSt w W b tb s5 ⟨x1,x2,x3,l4,L,[]⟩ va vc (.slice none 0 0)) => r_times b (w.heap.size+1) rdShw 64 #[.pointer (some ⟨tb,0,none⟩),.pointer (some ⟨w.heap.size+2,0,none⟩)] (fun l s W => ∃ vs,RSt w W b tb s ⟨x1,x2,x3,l4,L,l⟩ va vc vs) hb (fun _ _ => rfl) (fun l s W ⟨vs,h⟩ => h.rd) (fun l s s' W W' ⟨vs,h⟩ hr hg => ⟨vs,h.call hr hg⟩) (fun l s W hlen ⟨vs,h⟩ => rd_item2 W hb (by show l.length ≤ 1000; omega) h) s5 W ⟨_,h⟩
  rw [hl6,hs6] at h6
  have hlib:=fun (W:World) (h:Below w.heap.size w W) => (hl.later h).lib
  have h0:RSo w (((w.alloc (.cells #[.string ⟨#[]⟩,.int .i64 0,.int .i64 0,.slice none 0 0,.slice none 0 0,.slice none 0 0] 29)).alloc (.cells #[.string b,.int .i64 0,.bool false] 110)).alloc (.cells #[.pointer (some ⟨w.heap.size+1,0,none⟩)] 108)) b none ⟨blOf b,false⟩:=RSo.start w b
  have c0:=h0.cp
  have HALL:=Lib.hid (And.intro hall hokk)
  have HSM:=Lib.hid hsm
  have H1:=Lib.hid h1
  have H2:=Lib.hid h2
  have H3:=Lib.hid h3
  have H4:=Lib.hid h4
  have H5:=Lib.hid h5
  have H6:=Lib.hid h6
  have HP:=Lib.hid hpr
  have HLB:=Lib.hid hlib
  have hb1:b.size ≤ 16384:=by omega
  clear hx1 hx2 hx3 hs1 hs2 hs3 hl4 hs4 hx5 hs5 hL hpz hn hl6 hs6 hall hokk hsm h1 h2 h3 h4 h5 h6 hpr hlib hbig hb5 h50
  go_enter Tryz.func30,Tryz.ntmps30
  go_upto_region 4 with fail
  rw [show w.heap.size+1+1=w.heap.size+2 from rfl]
  generalize ((w.alloc (.cells #[.string ⟨#[]⟩,.int .i64 0,.int .i64 0,.slice none 0 0,.slice none 0 0,.slice none 0 0] 29)).alloc (.cells #[.string b,.int .i64 0,.bool false] 110)).alloc (.cells #[.pointer (some ⟨w.heap.size+1,0,none⟩)] 108)=wz at h0 c0 ⊢
  have HZ:=Lib.hid h0
  have H0:=Lib.hid h0.drew
  clear h0
  go_cut [5] from 18 to 24 (fun v wx => ∃ tb,v=.pointer (some ⟨tb,0,none⟩) ∧ RSt w wx b tb s3 ⟨x1,x2,x3,[],[],[]⟩ (.slice none 0 0) (.slice none 0 0) (.slice none 0 0))
  case first =>
   refine wp_region_last_lit _ _ (fun W => W.cell? ⟨w.heap.size+2,0,none⟩=some (.pointer (some ⟨w.heap.size+1,0,none⟩))) hmx rfl (by kernel_rfl) c0 (fun hS => ?_)
   simp only [List.dropLast]
   refine t1 0 rfl ?_
   try simp only [pt]
   refine t1 2 rfl ?_
   try simp only [pt]
   refine t1 4 rfl ?_
   try simp only [pt]
   refine wpAnyH_ready (rs:=[1,7]) (by kernel_rfl) (by simp) ?_
   refine AllReadyH.cons rfl (fun K hK => ?_) (AllReadyH.cons rfl (fun K hK => ?_) AllReadyH.nil)
   ·go_simp
    refine (H1.out _ _ H0.out).mono ?_
    rintro e v1 ⟨rfl,hz⟩
    have G1:=Lib.hid hz
    clear hz
    refine hK.out _ _ G1.out.cp (fun hHeld => ?_)
    clear hK K
    try simp only [pt]
    refine wpAnyH_ready (rs:=[3,7]) (by kernel_rfl) (by simp) ?_
    refine AllReadyH.cons rfl (fun K hK => ?_) (AllReadyH.cons rfl (fun K hK => ?_) AllReadyH.nil)
    ·go_simp
     refine (H2.out _ _ G1.out).mono ?_
     rintro e v2 ⟨rfl,hz⟩
     have G2:=Lib.hid hz
     clear hz
     refine hK.out _ _ G2.out.cp (fun hHeld => ?_)
     clear hK K
     try simp only [pt]
     refine wpAnyH_ready (rs:=[5,7]) (by kernel_rfl) (by simp) ?_
     refine AllReadyH.cons rfl (fun K hK => ?_) (AllReadyH.cons rfl (fun K hK => ?_) AllReadyH.nil)
     ·go_simp
      refine (H3.out _ _ G2.out).mono ?_
      rintro e v3 ⟨rfl,hz⟩
      have G3:=Lib.hid hz
      clear hz
      refine hK.out _ _ G3.out.cp (fun hHeld => ?_)
      clear hK K
      try simp only [pt]
      refine t1 6 rfl ?_
      try simp only [pt]
      refine wpAnyH_ready (rs:=[7]) (by kernel_rfl) (by simp) ?_
      refine AllReadyH.cons rfl (fun K hK => ?_) AllReadyH.nil
      go_simp
      have G4:=Lib.hid G3.out.al
      refine hK.out _ _ G4.out.cp (fun hHeld => ?_)
      clear hK K
      try simp only [pt]
      refine wpAnyH_done (by kernel_rfl) ?_ _
      refine lastQ_step (by rfl) (by rfl) ?_
      go_simp
      (try go_wp2_with fail)
      go_meet
      exact ⟨_,rfl,G3.out.rstA x1 x2 x3⟩
     ·go_simp
      have G5:=Lib.hid G2.out.al
      refine hK.out _ _ G5.out.cp (fun hHeld => ?_)
      clear hK K
      try simp only [pt]
      refine wpAnyH_ready (rs:=[5]) (by kernel_rfl) (by simp) ?_
      refine AllReadyH.cons rfl (fun K hK => ?_) AllReadyH.nil
      go_simp
      refine (H3.out _ _ G5.out).mono ?_
      rintro e v6 ⟨rfl,hz⟩
      have G6:=Lib.hid hz
      clear hz
      refine hK.out _ _ G6.out.cp (fun hHeld => ?_)
      clear hK K
      try simp only [pt]
      refine t1 6 rfl ?_
      try simp only [pt]
      refine wpAnyH_done (by kernel_rfl) ?_ _
      refine lastQ_step (by rfl) (by rfl) ?_
      have hB:=(G6.out.blk _ rfl).1
      have r0:=(hB.cell 0).trans (show _=some (Value.string ⟨#[]⟩) from rfl)
      have r1:=(hB.cell 1).trans (show _=some (Value.int .i64 0) from rfl)
      have r2:=(hB.cell 2).trans (show _=some (Value.int .i64 0) from rfl)
      have r3:=(hB.cell 3).trans (show _=some (Value.slice none 0 0) from rfl)
      have r4:=(hB.cell 4).trans (show _=some (Value.slice none 0 0) from rfl)
      have r5:=(hB.cell 5).trans (show _=some (Value.slice none 0 0) from rfl)
      have g0:=hB.frozen 0
      have g1:=hB.frozen 1
      have g2:=hB.frozen 2
      have g3:=hB.frozen 3
      have g4:=hB.frozen 4
      have g5:=hB.frozen 5
      clear hB
      go_simp
      (try go_wp2_with fail)
      go_meet
      exact ⟨_,rfl,G6.out.rst x1 x2 x3⟩
    ·go_simp
     have G7:=Lib.hid G1.out.al
     refine hK.out _ _ G7.out.cp (fun hHeld => ?_)
     clear hK K
     try simp only [pt]
     refine wpAnyH_ready (rs:=[3]) (by kernel_rfl) (by simp) ?_
     refine AllReadyH.cons rfl (fun K hK => ?_) AllReadyH.nil
     go_simp
     refine (H2.out _ _ G7.out).mono ?_
     rintro e v8 ⟨rfl,hz⟩
     have G8:=Lib.hid hz
     clear hz
     refine hK.out _ _ G8.out.cp (fun hHeld => ?_)
     clear hK K
     try simp only [pt]
     refine wpAnyH_ready (rs:=[5]) (by kernel_rfl) (by simp) ?_
     refine AllReadyH.cons rfl (fun K hK => ?_) AllReadyH.nil
     go_simp
     refine (H3.out _ _ G8.out).mono ?_
     rintro e v9 ⟨rfl,hz⟩
     have G9:=Lib.hid hz
     clear hz
     refine hK.out _ _ G9.out.cp (fun hHeld => ?_)
     clear hK K
     try simp only [pt]
     refine t1 6 rfl ?_
     try simp only [pt]
     refine wpAnyH_done (by kernel_rfl) ?_ _
     refine lastQ_step (by rfl) (by rfl) ?_
     have hB:=(G9.out.blk _ rfl).1
     have r0:=(hB.cell 0).trans (show _=some (Value.string ⟨#[]⟩) from rfl)
     have r1:=(hB.cell 1).trans (show _=some (Value.int .i64 0) from rfl)
     have r2:=(hB.cell 2).trans (show _=some (Value.int .i64 0) from rfl)
     have r3:=(hB.cell 3).trans (show _=some (Value.slice none 0 0) from rfl)
     have r4:=(hB.cell 4).trans (show _=some (Value.slice none 0 0) from rfl)
     have r5:=(hB.cell 5).trans (show _=some (Value.slice none 0 0) from rfl)
     have g0:=hB.frozen 0
     have g1:=hB.frozen 1
     have g2:=hB.frozen 2
     have g3:=hB.frozen 3
     have g4:=hB.frozen 4
     have g5:=hB.frozen 5
     clear hB
     go_simp
     (try go_wp2_with fail)
     go_meet
     exact ⟨_,rfl,G9.out.rst x1 x2 x3⟩
   ·go_simp
    have G10:=Lib.hid HZ.out.alD
    refine hK.out _ _ G10.out.cp (fun hHeld => ?_)
    clear hK K
    try simp only [pt]
    refine wpAnyH_ready (rs:=[1]) (by kernel_rfl) (by simp) ?_
    refine AllReadyH.cons rfl (fun K hK => ?_) AllReadyH.nil
    go_simp
    refine (H1.out _ _ G10.out).mono ?_
    rintro e v11 ⟨rfl,hz⟩
    have G11:=Lib.hid hz
    clear hz
    refine hK.out _ _ G11.out.cp (fun hHeld => ?_)
    clear hK K
    try simp only [pt]
    refine wpAnyH_ready (rs:=[3]) (by kernel_rfl) (by simp) ?_
    refine AllReadyH.cons rfl (fun K hK => ?_) AllReadyH.nil
    go_simp
    refine (H2.out _ _ G11.out).mono ?_
    rintro e v12 ⟨rfl,hz⟩
    have G12:=Lib.hid hz
    clear hz
    refine hK.out _ _ G12.out.cp (fun hHeld => ?_)
    clear hK K
    try simp only [pt]
    refine wpAnyH_ready (rs:=[5]) (by kernel_rfl) (by simp) ?_
    refine AllReadyH.cons rfl (fun K hK => ?_) AllReadyH.nil
    go_simp
    refine (H3.out _ _ G12.out).mono ?_
    rintro e v13 ⟨rfl,hz⟩
    have G13:=Lib.hid hz
    clear hz
    refine hK.out _ _ G13.out.cp (fun hHeld => ?_)
    clear hK K
    try simp only [pt]
    refine t1 6 rfl ?_
    try simp only [pt]
    refine wpAnyH_done (by kernel_rfl) ?_ _
    refine lastQ_step (by rfl) (by rfl) ?_
    have hB:=(G13.out.blk _ rfl).1
    have r0:=(hB.cell 0).trans (show _=some (Value.string ⟨#[]⟩) from rfl)
    have r1:=(hB.cell 1).trans (show _=some (Value.int .i64 0) from rfl)
    have r2:=(hB.cell 2).trans (show _=some (Value.int .i64 0) from rfl)
    have r3:=(hB.cell 3).trans (show _=some (Value.slice none 0 0) from rfl)
    have r4:=(hB.cell 4).trans (show _=some (Value.slice none 0 0) from rfl)
    have r5:=(hB.cell 5).trans (show _=some (Value.slice none 0 0) from rfl)
    have g0:=hB.frozen 0
    have g1:=hB.frozen 1
    have g2:=hB.frozen 2
    have g3:=hB.frozen 3
    have g4:=hB.frozen 4
    have g5:=hB.frozen 5
    clear hB
    go_simp
    (try go_wp2_with fail)
    go_meet
    exact ⟨_,rfl,G13.out.rst x1 x2 x3⟩
  case rest =>
   obtain ⟨tb,rfl,h1⟩:=hcut
   have cp1:=h1.cp
   have K1:=Lib.hid h1
   clear h1 H0 HZ H1 H2 H3 c0
   go_wp2_with fail
   refine (H4.out tb _ K1.out).mono ?_
   rintro e w2 ⟨rfl,va,h2⟩
   have cp2:=h2.cp
   have K2:=Lib.hid h2
   clear h2 K1 cp1 H4
   go_wp2_with fail
   refine (H5.out tb va _ K2.out).mono ?_
   rintro e w3 ⟨rfl,h3⟩
   have K3:=Lib.hid h3
   clear h3 K2 cp2 H5
   go_wp2_with fail
   refine (HP.out _ K3.out.old).mono ?_
   rintro e w4 ⟨v,rfl,hT,hB⟩
   obtain ⟨Ac,nc,cc,rfl,-⟩:=id hT
   have h4:=(K3.out.below hB).alloc (.cells #[.slice Ac nc cc] 26)
   have hT4:TermsAt (w4.alloc (.cells #[.slice Ac nc cc] 26)) (fun q => w3.heap.size ≤ q ∧ q < (w4.alloc (.cells #[.slice Ac nc cc] 26)).heap.size) (.slice Ac nc cc) L:=(hT.keep fun q hq => Below.heap_alloc w4 _ q hq.2).mono fun q hq => ⟨hq.1,by have:=hq.2; rw [World.size_alloc]; omega⟩
   have h5:=h4.condS hT4 (fun g hg => (K3.out.oa.lt g hg).2) (fun g hg => (K3.out.os.lt g hg).2) K3.out.blk.lt
   have c4:=(h4.blk.cell 4).trans (show _=some (Value.slice none 0 0) from rfl)
   have f4:=h4.blk.frozen 4
   have cp5:=h5.cp
   have K5:Hid (RSt w _ b tb s5 ⟨x1,x2,x3,l4,L,[]⟩ va (.slice Ac nc cc) (.slice none 0 0)):=Lib.hid h5
   clear h4 h5 hT hT4 hB HP K3
   go_wp2_with fail
   refine (H6.out tb va _ _ K5.out).mono ?_
   rintro e w6 ⟨rfl,vs,h6⟩
   clear K5 cp5 c4 f4 H6
   obtain ⟨Aa,ca,hva⟩:=own_slice h6.oa
   obtain ⟨As,cs,hvs⟩:=own_slice h6.os
   subst hva hvs
   obtain ⟨st,hst⟩:∃ st:Stm,⟨x1,x2,x3,l4,L,l6⟩=st:=⟨_,rfl⟩
   rw [hst] at h6 HALL HSM
   obtain ⟨na,hna⟩:∃ na,st.ans.length=na:=⟨_,rfl⟩
   obtain ⟨ns,hns⟩:∃ ns,st.shw.length=ns:=⟨_,rfl⟩
   simp only [hna,hns] at h6
   have d0:=(h6.blk.cell 0).trans (show _=some (Value.string st.resp) from rfl)
   have d1:=(h6.blk.cell 1).trans (show _=some (Value.int .i64 st.dep) from rfl)
   have d2:=(h6.blk.cell 2).trans (show _=some (Value.int .i64 st.day) from rfl)
   have d3:=(h6.blk.cell 3).trans (show _=some (Value.slice Aa na ca) from rfl)
   have d4:=(h6.blk.cell 4).trans (show _=some (Value.slice Ac nc cc) from rfl)
   have d5:=(h6.blk.cell 5).trans (show _=some (Value.slice As ns cs) from rfl)
   have hby:=s_Bytes st Aa Ac As na ca nc cc ns cs _ w6 h6.at_ (fun q hq => hq.2) HSM.out (HLB.out _ h6.old)
   have HBY:=Lib.hid hby
   have K6:=Lib.hid h6
   clear hby h6 hst hna hns HSM HLB
   go_wp2_with fail
   refine HBY.out.mono ?_
   rintro e w7 ⟨rfl,hB⟩
   have h7:=K6.out.below hB
   obtain ⟨p,hrb,-,-⟩:=id h7.rd
   obtain ⟨bd,hbd⟩:∃ bd,s6.bad=bd:=⟨_,rfl⟩
   obtain ⟨z7,hz7⟩:∃ z,bytZ st=z:=⟨_,rfl⟩
   obtain ⟨y7,hy7⟩:∃ y,bytS st=y:=⟨_,rfl⟩
   rw [hbd] at hrb HALL
   rw [hz7,hy7] at HALL
   try rw [hz7,hy7]
   have cb:=(hrb.cell 2).trans (show _=some (Value.bool bd) from rfl)
   have cp7:=h7.cp
   have d0:=(h7.blk.cell 0).trans (show _=some (Value.string st.resp) from rfl)
   have d1:=(h7.blk.cell 1).trans (show _=some (Value.int .i64 st.dep) from rfl)
   have d2:=(h7.blk.cell 2).trans (show _=some (Value.int .i64 st.day) from rfl)
   have d3:=(h7.blk.cell 3).trans (show _=some (Value.slice Aa na ca) from rfl)
   have d4:=(h7.blk.cell 4).trans (show _=some (Value.slice Ac nc cc) from rfl)
   have d5:=(h7.blk.cell 5).trans (show _=some (Value.slice As ns cs) from rfl)
   have r0:=(h7.res.cell 0).trans (show _=some (Value.string ⟨#[]⟩) from rfl)
   have r1:=(h7.res.cell 1).trans (show _=some (Value.int .i64 0) from rfl)
   have r2:=(h7.res.cell 2).trans (show _=some (Value.int .i64 0) from rfl)
   have r3:=(h7.res.cell 3).trans (show _=some (Value.slice none 0 0) from rfl)
   have r4:=(h7.res.cell 4).trans (show _=some (Value.slice none 0 0) from rfl)
   have r5:=(h7.res.cell 5).trans (show _=some (Value.slice none 0 0) from rfl)
   have g0:=h7.res.frozen 0
   have g1:=h7.res.frozen 1
   have g2:=h7.res.frozen 2
   have g3:=h7.res.frozen 3
   have g4:=h7.res.frozen 4
   have g5:=h7.res.frozen 5
   have K7:=Lib.hid h7
   clear h7 hB HBY K6 hrb hbd hz7 hy7
   have hbadE:¬ (bd=false ∧ n=0 ∧ z7=0 ∧ y7=b) → ∀ W2:World,Below w.heap.size w W2 → ReadQ b w (.returned (.tuple #[.agg #[.string ⟨#[]⟩,.int .i64 0,.int .i64 0,.slice none 0 0,.slice none 0 0,.slice none 0 0],.int .i64 4])) W2:=fun hno W2 hW => readQ_bad (fun h => hno (HALL.out.2.1 h.2)) hW
   have HBAD:=Lib.hid hbadE
   clear hbadE
   by_cases hq1:bd=true
   ·subst hq1
    go_wp2_with fail
    obtain ⟨hbl,hb0⟩:=K7.out.fin0 rfl
    refine bodyPost_ret (v:=.tuple #[.agg #[.string ⟨#[]⟩,.int .i64 0,.int .i64 0,.slice none 0 0,.slice none 0 0,.slice none 0 0],.int .i64 4]) ?_ rfl (HBAD.out (fun h => by cases h.1) _ hbl)
    simp [results,Tryz.results30,go_sem,(hb0.cell 0).trans (show _=some (Value.string ⟨#[]⟩) from rfl),(hb0.cell 1).trans (show _=some (Value.int .i64 0) from rfl),(hb0.cell 2).trans (show _=some (Value.int .i64 0) from rfl),(hb0.cell 3).trans (show _=some (Value.slice none 0 0) from rfl),(hb0.cell 4).trans (show _=some (Value.slice none 0 0) from rfl),(hb0.cell 5).trans (show _=some (Value.slice none 0 0) from rfl)]
   ·have hq1':bd=false:=by simpa using hq1
    subst hq1'
    by_cases hq2:n=0
    ·subst hq2
     by_cases hq3:z7=0
     ·subst hq3
      by_cases hq4:y7=b
      ·have HOK:=Lib.hid (HALL.out.2.2 (by simp [hq4]))
       have HST:=Lib.hid HALL.out.1.symm
       subst hq4
       clear HALL
       go_wp2_with fail
       obtain ⟨ha,hbl,hb0⟩:=K7.out.fin rfl
       refine bodyPost_ret (v:=.tuple #[.agg #[.string st.resp,.int .i64 st.dep,.int .i64 st.day,.slice Aa na ca,.slice Ac nc cc,.slice As ns cs],.int .i64 0]) ?_ rfl ⟨st,0,Aa,na,ca,Ac,nc,cc,As,ns,cs,rfl,ha,hbl,.inl ⟨hb1,HOK.out,HST.out,rfl⟩⟩
       simp [results,Tryz.results30,go_sem,(hb0.cell 0).trans (show _=some (Value.string st.resp) from rfl),(hb0.cell 1).trans (show _=some (Value.int .i64 st.dep) from rfl),(hb0.cell 2).trans (show _=some (Value.int .i64 st.day) from rfl),(hb0.cell 3).trans (show _=some (Value.slice Aa na ca) from rfl),(hb0.cell 4).trans (show _=some (Value.slice Ac nc cc) from rfl),(hb0.cell 5).trans (show _=some (Value.slice As ns cs) from rfl)]
      ·have hq5:(!y7.toList == b.toList)=true:=by
        rw [Bool.not_eq_true',beq_eq_false_iff_ne]
        intro e
        rw [ByteArray.toList_eq,ByteArray.toList_eq] at e
        exact hq4 (ByteArray.ext (Array.toList_inj.1 e))
       go_wp2_with fail
       obtain ⟨hbl,hb0⟩:=K7.out.fin0 rfl
       refine bodyPost_ret (v:=.tuple #[.agg #[.string ⟨#[]⟩,.int .i64 0,.int .i64 0,.slice none 0 0,.slice none 0 0,.slice none 0 0],.int .i64 4]) ?_ rfl (HBAD.out (fun h => hq4 (by simpa using h)) _ hbl)
       simp [results,Tryz.results30,go_sem,(hb0.cell 0).trans (show _=some (Value.string ⟨#[]⟩) from rfl),(hb0.cell 1).trans (show _=some (Value.int .i64 0) from rfl),(hb0.cell 2).trans (show _=some (Value.int .i64 0) from rfl),(hb0.cell 3).trans (show _=some (Value.slice none 0 0) from rfl),(hb0.cell 4).trans (show _=some (Value.slice none 0 0) from rfl),(hb0.cell 5).trans (show _=some (Value.slice none 0 0) from rfl)]
     ·go_wp2_with fail
      obtain ⟨hbl,hb0⟩:=K7.out.fin0 rfl
      refine bodyPost_ret (v:=.tuple #[.agg #[.string ⟨#[]⟩,.int .i64 0,.int .i64 0,.slice none 0 0,.slice none 0 0,.slice none 0 0],.int .i64 4]) ?_ rfl (HBAD.out (fun h => hq3 h.2.2.1) _ hbl)
      simp [results,Tryz.results30,go_sem,(hb0.cell 0).trans (show _=some (Value.string ⟨#[]⟩) from rfl),(hb0.cell 1).trans (show _=some (Value.int .i64 0) from rfl),(hb0.cell 2).trans (show _=some (Value.int .i64 0) from rfl),(hb0.cell 3).trans (show _=some (Value.slice none 0 0) from rfl),(hb0.cell 4).trans (show _=some (Value.slice none 0 0) from rfl),(hb0.cell 5).trans (show _=some (Value.slice none 0 0) from rfl)]
    ·go_wp2_with fail
     obtain ⟨hbl,hb0⟩:=K7.out.fin0 rfl
     refine bodyPost_ret (v:=.tuple #[.agg #[.string ⟨#[]⟩,.int .i64 0,.int .i64 0,.slice none 0 0,.slice none 0 0,.slice none 0 0],.int .i64 4]) ?_ rfl (HBAD.out (fun h => hq2 h.2.1) _ hbl)
     simp [results,Tryz.results30,go_sem,(hb0.cell 0).trans (show _=some (Value.string ⟨#[]⟩) from rfl),(hb0.cell 1).trans (show _=some (Value.int .i64 0) from rfl),(hb0.cell 2).trans (show _=some (Value.int .i64 0) from rfl),(hb0.cell 3).trans (show _=some (Value.slice none 0 0) from rfl),(hb0.cell 4).trans (show _=some (Value.slice none 0 0) from rfl),(hb0.cell 5).trans (show _=some (Value.slice none 0 0) from rfl)]
end Go.Proofs.YtgdngfdeeadlnaaGreatDoor
